/- The law FnExactCodesOf: for every input within the row's bounds the printed function answers true: what the program's function tells is what the law asks. Conditions: only the bounds that the row itself gives (sizes of strings and slices, ranges of the number kinds). -/
import Derived.Test.YtimomemkbcidnaaPFnExactCodesOfx3
namespace Go.Proofs.Ytimomemkbcidnaa.Pure
open Go.RowKit Go.Proofs.Ytimomemkbcidnaa.PFnExactCodesOf Go.Proofs.YtimomemkbcidnaaW.PrintWords Go.Proofs.YtimomemkbcidnaaW.PrintLast Go.Proofs.YtimomemkbcidnaaW.PrintMore
set_option linter.unusedVariables false
set_option linter.unusedSimpArgs false

theorem w64_id {x : Int} (h0 : -9223372036854775808 ≤ x) (h1 : x ≤ 9223372036854775807) : wrap64 x = x := by unfold wrap64; omega
theorem tmod_nn {a : Int} (b : Int) (h : 0 ≤ a) : Int.tmod a b = a % b := Int.tmod_eq_emod_of_nonneg h
theorem tdiv_nn {a : Int} (b : Int) (h : 0 ≤ a) : Int.tdiv a b = a / b := Int.tdiv_eq_ediv_of_nonneg h
theorem wf64 {n : Int} (h : (Lit.int .i64 n).wf = true) : -9223372036854775808 ≤ n ∧ n ≤ 9223372036854775807 := by
  simp [Lit.wf, IntKind.min, IntKind.max, IntKind.signed, IntKind.bits] at h
  omega
theorem wfu32 {n : Int} (h : (Lit.int .u32 n).wf = true) : 0 ≤ n ∧ n ≤ 4294967295 := by
  simp [Lit.wf, IntKind.min, IntKind.max, IntKind.signed, IntKind.bits] at h
  omega
theorem wraps64 (n : Int) (h0 : 0 ≤ n) (h1 : n < 2 ^ 63) : IntKind.i64.wrap n = n := by rw [IntKind.wrap_i64]; omega
theorem wrapsu32 (n : Int) (h0 : 0 ≤ n) (h1 : n < 2 ^ 32) : IntKind.u32.wrap n = n := by rw [IntKind.wrap_u32]; omega
/-- a | b of parts that do not meet, of an int. -/
theorem or64 (i : Nat) (x y : Int) (hx0 : 0 ≤ x) (hx : x % 2 ^ i = 0) (hx1 : x < 2 ^ 63) (hy0 : 0 ≤ y) (hy : y < 2 ^ i) (hy1 : y < 2 ^ 63) : Go.bits .or .i64 x y = x + y :=
  bits_join .i64 63 (by decide) wraps64 i x y hx0 hx hx1 hy0 hy hy1
theorem ev_ite_pos {α : Type} {c : Prop} [Decidable c] {f g : Nat → Option α} {r : α} (h : c) (k : Ev f r) : Ev (fun n => if c then f n else g n) r := Ev.congr (fun n => if_pos h) k
theorem ev_ite_neg {α : Type} {c : Prop} [Decidable c] {f g : Nat → Option α} {r : α} (h : ¬ c) (k : Ev g r) : Ev (fun n => if c then f n else g n) r := Ev.congr (fun n => if_neg h) k
/-- A callee without rounds that answers. -/
theorem ev_bind0 {α β : Type} {o : Option α} {f : Nat → α → Option β} {a : α} {r : β} (h : o = some a) (k : Ev (fun n => f n a) r) : Ev (fun n => o.bind (f n)) r := Ev.congr (fun n => by rw [h]; rfl) k
theorem bt_lo (s : ByteArray) (i : Int) : 0 ≤ bt s i := (bt_range s i).1
theorem bt_hi (s : ByteArray) (i : Int) : bt s i ≤ 255 := (bt_range s i).2
/-- A callee that answers from some number of rounds on, used. -/
theorem ev_use {α β : Type} {g : Nat → Option α} {a : α} {F G : Nat → Option β} {r : β} (e : Ev g a) (h : ∀ k, g k = some a → F k = G k) (c : Ev G r) : Ev F r := by
  obtain ⟨K, e⟩ := e
  obtain ⟨K', c⟩ := c
  exact ⟨max K K', fun n hn => (h n (e n (by omega))).trans (c n (by omega))⟩
theorem ev_use_step {α β : Type} {g : Nat → Option α} {a : α} {F G : Nat → Option β} {r : β} (e : Ev g a) (h : ∀ k, g k = some a → F (k + 1) = G k) (c : Ev G r) : Ev F r := by
  obtain ⟨K, e⟩ := e
  obtain ⟨K', c⟩ := c
  refine ⟨max K K' + 1, fun n hn => ?_⟩
  obtain ⟨m, rfl⟩ : ∃ m, n = m + 1 := ⟨n - 1, by omega⟩
  exact (h m (e m (by omega))).trans (c m (by omega))
theorem ev_end {α β : Type} {g : Nat → Option α} {a : α} {F : Nat → Option β} {r : β} (e : Ev g a) (h : ∀ k, g k = some a → F k = some r) : Ev F r := by
  obtain ⟨K, e⟩ := e
  exact ⟨K, fun n hn => h n (e n hn)⟩
theorem ev_two {α β : Type} {g : Nat → Option α} {h : Nat → Option β} {a : α} {b : β} (e : Ev g a) (f : Ev h b) : ∃ k, g k = some a ∧ h k = some b := by
  obtain ⟨K, e⟩ := e
  obtain ⟨K', f⟩ := f
  exact ⟨max K K', e _ (by omega), f _ (by omega)⟩
theorem ev_ret {α : Type} {F : Nat → Option α} {r : α} (h : ∀ k, F (k + 1) = some r) : Ev F r := ⟨1, fun n hn => by obtain ⟨m, rfl⟩ : ∃ m, n = m + 1 := ⟨n - 1, by omega⟩; exact h m⟩

theorem in_spec (a b c : Int) : spec_l01In.f a b c = some (decide (b ≤ a ∧ a ≤ c)) := by
  unfold spec_l01In.f
  split
  · rename_i h
    have e : (decide (a ≤ c)) = decide (b ≤ a ∧ a ≤ c) := decide_eq_decide.mpr ⟨fun h' => ⟨h, h'⟩, fun h' => h'.2⟩
    rw [e]
  · rename_i h
    have e : (decide (b ≤ a ∧ a ≤ c)) = false := decide_eq_false fun h' => h h'.1
    rw [e]

theorem in_impl (a b c : Int) : impl_within.f a b c = some (decide (b ≤ a ∧ a ≤ c)) := by
  unfold impl_within.f
  split
  · rename_i h
    have e : (decide (a ≤ c)) = decide (b ≤ a ∧ a ≤ c) := decide_eq_decide.mpr ⟨fun h' => ⟨h, h'⟩, fun h' => h'.2⟩
    rw [e]
  · rename_i h
    have e : (decide (b ≤ a ∧ a ≤ c)) = false := decide_eq_false fun h' => h h'.1
    rw [e]


theorem rd_nat (l : List Int) (j : Nat) : rd l j = l.getD j 0 := by unfold rd; simp
theorem rd_getElem (l : List Int) (j : Nat) (h : j < l.length) : rd l j = l[j] := by rw [rd_nat, List.getD_eq_getElem?_getD, List.getElem?_eq_getElem h]; rfl
theorem rd_mem (l : List Int) (j : Nat) (h : j < l.length) : rd l j ∈ l := by rw [rd_getElem l j h]; exact List.getElem_mem h
theorem drop_rd (l : List Int) (j : Nat) (h : j < l.length) : l.drop j = rd l j :: l.drop (j + 1) := by rw [rd_getElem l j h]; exact List.drop_eq_getElem_cons h
theorem rd_set (l : List Int) (a : Nat) (v : Int) (j : Nat) (h : a < l.length) : rd (l.set a v) j = if j = a then v else rd l j := by
  rw [rd_nat, rd_nat, List.getD_eq_getElem?_getD, List.getD_eq_getElem?_getD, List.getElem?_set]
  by_cases e : j = a
  · subst e
    simp [h]
  · rw [if_neg (Ne.symm e), if_neg e]
theorem take_set_snoc (l : List Int) (j : Nat) (v : Int) (h : j < l.length) : (l.set j v).take (j + 1) = l.take j ++ [v] := by
  rw [List.take_succ_eq_append_getElem (by simpa using h)]
  simp [List.take_set_of_le]

theorem toIntS_loop (l : List Int) (hl : l.length ≤ 1048576) (d : Nat) : ∀ (j : Nat) (o : List Int), j + d = l.length → o.length = l.length → o.take j = l.take j → Ev (fun k => laws_toIntS.l0 k l o j) l := by
  induction d with
  | zero =>
    intro j o h ho hp
    refine ev_ret (fun k => ?_)
    rw [laws_toIntS.l0, if_neg (by omega)]
    have e1 : o.take j = o := List.take_of_length_le (by omega)
    have e2 : l.take j = l := List.take_of_length_le (by omega)
    rw [e1, e2] at hp
    rw [hp]
  | succ d ih =>
    intro j o h ho hp
    refine Ev.step (fun k => ?_) (ih (j + 1) (o.set j (rd l j)) (by omega) (by simpa using ho) ?_)
    · rw [laws_toIntS.l0, if_pos (by omega), if_pos (by omega), if_pos (by omega), w64_id (x := (j : Int) + 1) (by omega) (by omega), Int.toNat_natCast]
      rfl
    · rw [take_set_snoc o j _ (by omega), hp, rd_getElem l j (by omega), ← List.take_succ_eq_append_getElem (by omega)]
theorem toIntS_is (l : List Int) (hl : l.length ≤ 1048576) : Ev (fun k => laws_toIntS.f k l) l := by
  refine Ev.congr (fun k => ?_) (toIntS_loop l hl l.length 0 (List.replicate l.length 0) (by omega) (by simp) (by simp))
  unfold laws_toIntS.f
  rw [if_pos (by omega), Int.toNat_natCast, if_pos (by omega)]
  rfl
theorem eqIntS_loop (l : List Int) (hl : l.length ≤ 4611686018427387904) (d : Nat) : ∀ j : Nat, j + d = l.length → Ev (fun k => laws_eqIntS.l0 k l l j) true := by
  induction d with
  | zero => exact fun j h => ev_ret (fun k => by rw [laws_eqIntS.l0, if_neg (by omega)])
  | succ d ih =>
    intro j h
    refine Ev.step (fun k => ?_) (ih (j + 1) (by omega))
    rw [laws_eqIntS.l0, if_pos (by omega), if_pos (by omega), if_pos (by omega), if_pos rfl, w64_id (x := (j : Int) + 1) (by omega) (by omega)]
    rfl
theorem eqIntS_is (l : List Int) (hl : l.length ≤ 4611686018427387904) : Ev (fun k => laws_eqIntS.f k l l) true :=
  Ev.congr (fun k => by unfold laws_eqIntS.f; rw [if_pos rfl]; rfl) (eqIntS_loop l hl l.length 0 (by omega))
/-- Marks from a on. -/
def marks : Nat → Int → List Int
  | 0, _ => []
  | n + 1, a => a :: marks n (a + 1)
theorem marks_len : ∀ (n : Nat) (a : Int), (marks n a).length = n
  | 0, _ => rfl
  | n + 1, a => by simp [marks, marks_len n]
theorem marks_snoc : ∀ (n : Nat) (a : Int), marks (n + 1) a = marks n a ++ [a + n]
  | 0, a => by simp [marks]
  | n + 1, a => by
    rw [marks, marks_snoc n (a + 1), marks]
    simp
    omega
theorem marks_at (n : Nat) (a : Int) (j : Nat) (h : j < n) : rd (marks n a) j = a + j := by
  induction n generalizing a j with
  | zero => omega
  | succ n ih =>
    cases j with
    | zero => simp [rd, marks]
    | succ j =>
      have := ih (a + 1) j (by omega)
      rw [rd_nat] at this ⊢
      simp only [marks, List.getD_cons_succ]
      rw [this]
      omega
theorem mark_loop (n : Nat) (hn : n ≤ 4611686018427387904) (a : Int) (a0 : 0 ≤ a) (a1 : a ≤ 1048576) (d : Nat) : ∀ (j : Nat) (o : List Int), j + d = n → o.length = n → o.take j = marks j a →
    Ev (fun k => laws_markIntS.l0 k o (a + j) j) (a + n, marks n a) := by
  induction d with
  | zero =>
    intro j o h ho hp
    refine ev_ret (fun k => ?_)
    rw [laws_markIntS.l0, if_neg (by omega)]
    obtain rfl : j = n := by omega
    rw [List.take_of_length_le (by omega)] at hp
    rw [hp]
  | succ d ih =>
    intro j o h ho hp
    refine Ev.step (fun k => ?_) (ih (j + 1) (o.set j (a + j)) (by omega) (by simpa using ho) ?_)
    · rw [laws_markIntS.l0, if_pos (by omega), if_pos (by omega), w64_id (x := a + j + 1) (by omega) (by omega), w64_id (x := (j : Int) + 1) (by omega) (by omega), Int.toNat_natCast, Int.add_assoc]
      rfl
    · rw [take_set_snoc o j _ (by omega), hp, marks_snoc]
theorem mark_is (l : List Int) (hl : l.length ≤ 4611686018427387904) : Ev (fun k => laws_markIntS.f k l 1) (1 + (l.length : Int), marks l.length 1) := by
  have h := mark_loop l.length hl 1 (by omega) (by omega) l.length 0 l (by omega) rfl (by simp [marks])
  rw [show (1 : Int) + ((0 : Nat) : Int) = 1 by omega] at h
  exact h
theorem held_loop (n : Nat) (hn : n ≤ 4611686018427387904) (a : Int) (a0 : 0 ≤ a) (a1 : a ≤ 1048576) (d : Nat) : ∀ (j : Nat), j + d = n →
    Ev (fun k => laws_heldIntS.l0 k (marks n a) (a + j) j) (a + n) := by
  induction d with
  | zero =>
    intro j h
    refine ev_ret (fun k => ?_)
    rw [laws_heldIntS.l0, if_neg (by rw [marks_len]; omega)]
    obtain rfl : j = n := by omega
    rfl
  | succ d ih =>
    intro j h
    refine Ev.step (fun k => ?_) (ih (j + 1) (by omega))
    rw [laws_heldIntS.l0, if_pos (by rw [marks_len]; omega), if_pos (by omega), marks_at n a j (by omega), if_pos rfl, w64_id (x := a + j + 1) (by omega) (by omega), w64_id (x := (j : Int) + 1) (by omega) (by omega), Int.add_assoc]
    rfl
theorem held_is (n : Nat) (hn : n ≤ 4611686018427387904) : Ev (fun k => laws_heldIntS.f k (marks n 1) 1) (1 + (n : Int)) := by
  have h := held_loop n hn 1 (by omega) (by omega) n 0 (by omega)
  rw [show (1 : Int) + ((0 : Nat) : Int) = 1 by omega] at h
  exact h

/-- 2^n, as the loop doubles it. -/
theorem pow_loop (n : Int) (d : Nat) : ∀ (x i : Int), 0 ≤ i → i + d = n → 0 ≤ x → x * 2 ^ d ≤ 4611686018427387904 → n ≤ 62 →
    Ev (fun k => spec_l01Pow.l0 k n x i) (x * 2 ^ d) := by
  induction d with
  | zero =>
    intro x i h0 h hx hb hn
    refine ev_ret (fun k => ?_)
    rw [spec_l01Pow.l0, if_neg (by omega)]
    simp
  | succ d ih =>
    intro x i h0 h hx hb hn
    have e : x * 2 ^ (d + 1) = 2 * x * 2 ^ d := by rw [Int.pow_succ, ← Int.mul_assoc, Int.mul_comm (x * 2 ^ d) 2, ← Int.mul_assoc]
    have hp : (1 : Int) ≤ 2 ^ d := by have : (0 : Int) < 2 ^ d := Int.pow_pos (by omega); omega
    have h2 : 2 * x ≤ 2 * x * 2 ^ d := by
      have := Int.mul_le_mul_of_nonneg_left hp (show 0 ≤ 2 * x by omega)
      omega
    have h3 := ih (2 * x) (i + 1) (by omega) (by omega) (by omega) (by omega) hn
    rw [e]
    refine Ev.step (fun k => ?_) h3
    rw [spec_l01Pow.l0, if_pos (by omega), w64_id (x := 2 * x) (by omega) (by omega), w64_id (x := i + 1) (by omega) (by omega)]
theorem pow_is (n : Nat) (hn : n ≤ 62) : Ev (fun k => spec_l01Pow.f k (n : Int)) (2 ^ n) := by
  have hb : (2 : Int) ^ n ≤ 2 ^ 62 := by exact_mod_cast Nat.pow_le_pow_right (n := 2) (by omega) hn
  have h := pow_loop n n 1 0 (by omega) (by omega) (by omega) (by rw [Int.one_mul]; exact hb) (by omega)
  rw [Int.one_mul] at h
  exact h
theorem pow_at (n : Int) (h0 : 0 ≤ n) (hn : n ≤ 62) : Ev (fun k => spec_l01Pow.f k n) (2 ^ n.toNat) := by
  have h := pow_is n.toNat (by omega)
  rw [Int.toNat_of_nonneg h0] at h
  exact h

open Go.Proofs.Ytimomemkbcidnaa.MBook Go.Proofs.Ytimomemkbcidnaa.MCode
/-- Are these lengths right. -/
def okL (l : List Int) : Bool := l.all fun x => decide (0 ≤ x ∧ x ≤ 15)
theorem okL_cons (x : Int) (l : List Int) : okL (x :: l) = (decide (0 ≤ x ∧ x ≤ 15) && okL l) := by unfold okL; rw [List.all_cons]
theorem okL_mem {l : List Int} (h : okL l = true) : ∀ x ∈ l, 0 ≤ x ∧ x ≤ 15 := by
  intro x hx
  unfold okL at h
  have := List.all_eq_true.1 h x hx
  exact of_decide_eq_true this
theorem roomF_loop (l : List Int) (hl : l.length ≤ 320) (d : Nat) : ∀ (j : Nat) (s : Int), j + d = l.length → 0 ≤ s → s ≤ 16384 * j → Ev (fun k => spec_l03Room.l0 k l s j) (if okL (l.drop j) = true then (s + (fullS (l.drop j) : Nat), true) else (0, false)) := by
  induction d with
  | zero =>
    intro j s h s0 s1
    rw [List.drop_of_length_le (by omega)]
    exact ev_ret (fun k => by rw [spec_l03Room.l0, if_neg (by omega)]; simp [okL, fullS])
  | succ d ih =>
    intro j s h s0 s1
    rw [drop_rd l j (by omega), okL_cons, fullS]
    by_cases c : 0 ≤ rd l j ∧ rd l j ≤ 15
    · rw [decide_eq_true c, Bool.true_and]
      by_cases c1 : rd l j > 0
      · have w : wrap64 (15 - rd l j) = 15 - rd l j := w64_id (by omega) (by omega)
        have P := pow_at (15 - rd l j) (by omega) (by omega)
        have e0 : (15 - rd l (j : Int)).toNat = 15 - (rd l (j : Int)).toNat := by omega
        rw [e0] at P
        have p0 : (0 : Int) < 2 ^ (15 - (rd l j).toNat) := Int.pow_pos (by omega)
        have p1 : (2 : Int) ^ (15 - (rd l j).toNat) ≤ 2 ^ 14 := by exact_mod_cast Nat.pow_le_pow_right (n := 2) (by omega) (show 15 - (rd l j).toNat ≤ 14 by omega)
        have g := ih (j + 1) (s + 2 ^ (15 - (rd l j).toNat)) (by omega) (by omega) (by omega)
        have e2 : (if 0 < rd l (j : Int) then 2 ^ (15 - (rd l (j : Int)).toNat) else 0) = 2 ^ (15 - (rd l (j : Int)).toNat) := if_pos c1
        have e3 : s + ((2 ^ (15 - (rd l (j : Int)).toNat) + fullS (l.drop (j + 1)) : Nat) : Int) = s + 2 ^ (15 - (rd l (j : Int)).toNat) + ((fullS (l.drop (j + 1)) : Nat) : Int) := by
          rw [Int.natCast_add, Int.natCast_pow, Int.add_assoc]
          rfl
        rw [e2, e3]
        refine ev_use_step P (fun k hk => ?_) g
        rw [spec_l03Room.l0, if_pos (by omega), if_pos (by omega), in_spec, decide_eq_true c, Option.bind_some, if_pos rfl, if_pos c1, w, hk, Option.bind_some, w64_id (x := s + 2 ^ (15 - (rd l j).toNat)) (by omega) (by omega), w64_id (x := (j : Int) + 1) (by omega) (by omega)]
        rfl
      · have g := ih (j + 1) s (by omega) (by omega) (by omega)
        have e2 : (if 0 < rd l (j : Int) then 2 ^ (15 - (rd l (j : Int)).toNat) else 0) = 0 := if_neg c1
        rw [e2, Nat.zero_add]
        refine Ev.step (fun k => ?_) g
        rw [spec_l03Room.l0, if_pos (by omega), if_pos (by omega), in_spec, decide_eq_true c, Option.bind_some, if_pos rfl, if_neg c1, w64_id (x := (j : Int) + 1) (by omega) (by omega)]
        rfl
    · rw [decide_eq_false c, Bool.false_and, if_neg (by decide)]
      refine ev_ret (fun k => ?_)
      rw [spec_l03Room.l0, if_pos (by omega), if_pos (by omega), in_spec, decide_eq_false c, Option.bind_some, if_neg (by decide)]
theorem roomF_is (l : List Int) : Ev (fun k => spec_l03Room.f k l 288) (if okL l = true ∧ l.length ≤ 288 then (((fullS l : Nat) : Int), true) else (0, false)) := by
  by_cases h : l.length ≤ 288
  · have g := roomF_loop l (by omega) l.length 0 0 (by omega) (by omega) (by omega)
    rw [List.drop_zero, Int.zero_add] at g
    have e : (if okL l = true ∧ l.length ≤ 288 then (((fullS l : Nat) : Int), true) else (0, false)) = (if okL l = true then (((fullS l : Nat) : Int), true) else (0, false)) := by
      by_cases h2 : okL l = true
      · rw [if_pos ⟨h2, h⟩, if_pos h2]
      · rw [if_neg (fun h3 => h2 h3.1), if_neg h2]
    rw [e]
    refine Ev.congr (fun k => ?_) g
    unfold spec_l03Room.f
    rw [if_neg (by omega)]
    rfl
  · rw [if_neg (fun h2 => h h2.2)]
    refine Ev.congr (fun k => ?_) (Ev.now (0, false))
    unfold spec_l03Room.f
    rw [if_pos (by omega)]
theorem lensOk_at (l : List Int) (hl : l.length ≤ 1048576) (m : Int) (d : Nat) : ∀ (j k : Nat), j + d = l.length → d < k → impl_lengthsOk.l0 k l m l (l.length : Int) j = some (okL (l.drop j) && decide ((l.length : Int) ≤ m)) := by
  induction d with
  | zero =>
    intro j k h hk
    obtain ⟨k, rfl⟩ : ∃ q, k = q + 1 := ⟨k - 1, by omega⟩
    rw [impl_lengthsOk.l0, if_neg (by omega), List.drop_of_length_le (by omega)]
    simp [okL]
  | succ d ih =>
    intro j k h hk
    obtain ⟨k, rfl⟩ : ∃ q, k = q + 1 := ⟨k - 1, by omega⟩
    rw [drop_rd l j (by omega), okL_cons, impl_lengthsOk.l0, if_pos (by omega), if_pos (by omega), if_pos (by omega), in_impl, Option.bind_some]
    by_cases c : 0 ≤ rd l j ∧ rd l j ≤ 15
    · rw [decide_eq_true c, if_pos rfl, Bool.true_and, w64_id (x := (j : Int) + 1) (by omega) (by omega)]
      exact ih (j + 1) k (by omega) (by omega)
    · rw [decide_eq_false c, if_neg (by decide), Bool.false_and, Bool.false_and]
theorem lensOk_k (l : List Int) (hl : l.length ≤ 1048576) (m : Int) : impl_lengthsOk.f (l.length + 10) l m = some (okL l && decide ((l.length : Int) ≤ m)) := lensOk_at l hl m l.length 0 _ (by omega) (by omega)
/-- How many are above 0. -/
def nzL : List Int → Nat
  | [] => 0
  | x :: l => (if 0 < x then 1 else 0) + nzL l
theorem nzL_le : ∀ l, nzL l ≤ l.length
  | [] => Nat.le_refl _
  | x :: l => by
    have := nzL_le l
    rw [nzL, List.length_cons]
    split <;> omega
/-- What the kind is, of how full and how many. -/
def kindS (F n : Nat) : Int := if n = 0 then 1 else if F = 32768 then 2 else if F > 32768 then 5 else if n = 1 then (if F = 16384 then 3 else 4) else 4
theorem kind_loop (l : List Int) (hl : l.length ≤ 320) (F : Nat) (d : Nat) : ∀ (j n : Nat), j + d = l.length → n ≤ j → Ev (fun k => spec_CodeKind.l0 k l (F : Int) (n : Int) j) (kindS F (n + nzL (l.drop j))) := by
  induction d with
  | zero =>
    intro j n h hn
    rw [List.drop_of_length_le (by omega)]
    refine ev_ret (fun k => ?_)
    rw [spec_CodeKind.l0, if_neg (by omega)]
    have q1 : ((n : Int) = 0) ↔ n = 0 := by omega
    have q2 : ((F : Int) = 32768) ↔ F = 32768 := by omega
    have q3 : ((F : Int) > 32768) ↔ F > 32768 := by omega
    have q4 : ((n : Int) = 1) ↔ n = 1 := by omega
    have q5 : ((F : Int) = 16384) ↔ F = 16384 := by omega
    simp only [nzL, Nat.add_zero, q1, q2, q3, q4, q5]
    unfold kindS
    repeat' split
    all_goals first | rfl | omega
  | succ d ih =>
    intro j n h hn
    rw [drop_rd l j (by omega), nzL]
    by_cases c : rd l j > 0
    · have e : (if 0 < rd l (j : Int) then 1 else 0) = 1 := if_pos c
      have g := ih (j + 1) (n + 1) (by omega) (by omega)
      rw [e, ← Nat.add_assoc]
      refine Ev.step (fun k => ?_) g
      rw [spec_CodeKind.l0, if_pos (by omega), if_pos (by omega), if_pos c, w64_id (x := (n : Int) + 1) (by omega) (by omega), w64_id (x := (j : Int) + 1) (by omega) (by omega)]
      rfl
    · have e : (if 0 < rd l (j : Int) then 1 else 0) = 0 := if_neg c
      have g := ih (j + 1) n (by omega) (by omega)
      rw [e, Nat.zero_add]
      refine Ev.step (fun k => ?_) g
      rw [spec_CodeKind.l0, if_pos (by omega), if_pos (by omega), if_neg c, w64_id (x := (j : Int) + 1) (by omega) (by omega)]
      rfl
/-- The kind of any lengths. -/
def kindL (l : List Int) : Int := if okL l = true ∧ l.length ≤ 288 then kindS (fullS l) (nzL l) else 0
theorem kind_spec (l : List Int) : Ev (fun k => spec_CodeKind.f k l) (kindL l) := by
  have g := roomF_is l
  unfold kindL
  by_cases h : okL l = true ∧ l.length ≤ 288
  · rw [if_pos h] at g ⊢
    have g2 := kind_loop l (by omega) (fullS l) l.length 0 0 (by omega) (Nat.le_refl _)
    rw [List.drop_zero, Nat.zero_add] at g2
    refine ev_use g (fun k hk => ?_) g2
    unfold spec_CodeKind.f
    have hk : spec_l03Room.f k l 288 = _ := hk
    rw [hk, Option.bind_some, if_pos rfl]
    rfl
  · rw [if_neg h] at g ⊢
    refine ev_end g (fun k hk => ?_)
    show spec_CodeKind.f k l = _
    have hk : spec_l03Room.f k l 288 = _ := hk
    unfold spec_CodeKind.f
    rw [hk, Option.bind_some, if_neg (by decide)]
theorem nzTo_cons (x : Int) (l : List Int) : ∀ m, (symsTo (x :: l) m).length = (symsTo l m).length + if 0 < x ∧ x ≤ (m : Int) then 1 else 0
  | 0 => by rw [symsTo, symsTo, if_neg (by omega)]; rfl
  | m + 1 => by
    have ih := nzTo_cons x l m
    have e1 := syms_split (x :: l) (m + 1) (by omega)
    have e2 := syms_split l (m + 1) (by omega)
    rw [Nat.add_sub_cancel] at e1 e2
    rw [e1, e2, ih, cntN_cons]
    by_cases h1 : x = ((m + 1 : Nat) : Int)
    · have q1 : (if 0 < x ∧ x ≤ (m : Int) then 1 else 0) = 0 := if_neg (by omega)
      have q2 : (if 0 < m + 1 ∧ x = ((m + 1 : Nat) : Int) then 1 else 0) = 1 := if_pos ⟨by omega, h1⟩
      have q3 : (if 0 < x ∧ x ≤ ((m + 1 : Nat) : Int) then 1 else 0) = 1 := if_pos (by omega)
      rw [q1, q2, q3]
      omega
    · have q2 : (if 0 < m + 1 ∧ x = ((m + 1 : Nat) : Int) then 1 else 0) = 0 := if_neg (fun h => h1 h.2)
      have q3 : (if 0 < x ∧ x ≤ ((m + 1 : Nat) : Int) then 1 else 0) = (if 0 < x ∧ x ≤ (m : Int) then 1 else 0) := by
        by_cases h2 : 0 < x ∧ x ≤ (m : Int)
        · rw [if_pos h2, if_pos (by omega)]
        · rw [if_neg h2, if_neg (by omega)]
      rw [q2, q3]
      omega
theorem nz_is : ∀ (l : List Int), okL l = true → (symsTo l 15).length = nzL l
  | [], _ => by decide
  | x :: l, h => by
    rw [okL_cons, Bool.and_eq_true] at h
    have hx := of_decide_eq_true h.1
    rw [nzTo_cons, nz_is l h.2, nzL]
    by_cases h0 : 0 < x
    · rw [if_pos h0, if_pos (by omega)]; omega
    · rw [if_neg h0, if_neg (by omega)]; omega
theorem full_zero : ∀ (l : List Int), okL l = true → (fullS l = 0 ↔ nzL l = 0) ∧ (nzL l = 0 → cntN l 1 = 0) ∧ (nzL l = 1 → (fullS l = 16384 ↔ cntN l 1 = 1))
  | [], _ => by decide
  | x :: l, h => by
    rw [okL_cons, Bool.and_eq_true] at h
    have hx := of_decide_eq_true h.1
    obtain ⟨i1, i2, i3⟩ := full_zero l h.2
    rw [fullS, nzL, cntN_cons]
    by_cases h0 : 0 < x
    · have p : 0 < 2 ^ (15 - x.toNat) := Nat.pos_of_ne_zero (by simp)
      rw [if_pos h0, if_pos h0]
      refine ⟨by omega, by omega, fun h1 => ?_⟩
      have z := i2 (by omega)
      have y := i1.2 (by omega)
      rw [z, y]
      by_cases hx1 : x = 1
      · subst hx1; decide
      · have q : (if 0 < 1 ∧ x = ((1 : Nat) : Int) then 1 else 0) = 0 := if_neg (fun h => hx1 h.2)
        have p2 : 2 ^ (15 - x.toNat) ≤ 2 ^ 13 := Nat.pow_le_pow_right (by omega) (by omega)
        rw [q]
        omega
    · have q : (if 0 < 1 ∧ x = ((1 : Nat) : Int) then 1 else 0) = 0 := if_neg (fun h => by have := h.2; omega)
      rw [if_neg h0, if_neg h0, q]
      refine ⟨by omega, by omega, fun h1 => ?_⟩
      have := i3 (by omega)
      omega
theorem kindI_is (l : List Int) (h : okL l = true) : kindI l = kindS (fullS l) (nzL l) := by
  obtain ⟨i1, i2, i3⟩ := full_zero l h
  unfold kindI kindS
  rw [fullS_is l (okL_mem h), nz_is l h]
  by_cases h1 : fullS l = 0
  · rw [if_pos h1, if_pos (i1.1 h1)]
  · rw [if_neg h1, if_neg (fun h2 => h1 (i1.2 h2))]
    by_cases h2 : fullS l = 32768
    · rw [if_pos h2, if_pos h2]
    · rw [if_neg h2, if_neg h2]
      by_cases h3 : 32768 < fullS l
      · rw [if_pos h3, if_pos h3]
      · rw [if_neg h3, if_neg h3]
        by_cases h4 : nzL l = 1
        · rw [if_pos h4]
          by_cases h5 : fullS l = 16384
          · rw [if_pos h5, if_pos ⟨h4, (i3 h4).1 h5⟩]
          · rw [if_neg h5, if_neg (fun h6 => h5 ((i3 h4).2 h6.2))]
        · rw [if_neg (fun h6 => h4 h6.1), if_neg h4]
theorem kind_impl (l : List Int) (hl : l.length ≤ 1048576) : impl_CodeKind.f l = some (kindL l) := by
  unfold impl_CodeKind.f kindL
  rw [lensOk_k l hl, Option.bind_some]
  unfold kindF
  by_cases h : okL l = true ∧ l.length ≤ 288
  · rw [h.1, decide_eq_true (show (l.length : Int) ≤ 288 by omega), Bool.and_true, if_pos rfl, if_pos (by omega), if_pos ⟨rfl, h.2⟩, kindI_is l h.1]
  · rw [if_neg h]
    have e : (okL l && decide ((l.length : Int) ≤ 288)) = false := by
      by_cases h1 : okL l = true
      · rw [h1, Bool.true_and]
        exact decide_eq_false (fun h2 => h ⟨h1, by omega⟩)
      · have : okL l = false := by simpa using h1
        rw [this, Bool.false_and]
    rw [e, if_neg (by decide)]

/-- Have these lengths codes. -/
def hasC (l : List Int) : Bool := kindL l != 0 && kindL l != 5
theorem hasC_impl (l : List Int) (hl : l.length ≤ 1048576) : impl_hasCodes.f l = some (hasC l) := by
  unfold impl_hasCodes.f hasC
  rw [kind_impl l hl, Option.bind_some]
  by_cases h : kindL l = 0
  · rw [if_pos h, h]; rfl
  · rw [if_neg h]
    have : (kindL l != 0) = true := by simpa using h
    rw [this, Bool.true_and]
theorem hasC_ok {l : List Int} (h : hasC l = true) : okL l = true ∧ l.length ≤ 288 ∧ fullS l ≤ 32768 := by
  unfold hasC kindL at h
  by_cases h1 : okL l = true ∧ l.length ≤ 288
  · rw [if_pos h1] at h
    refine ⟨h1.1, h1.2, ?_⟩
    unfold kindS at h
    by_cases h2 : nzL l = 0
    · have := ((full_zero l h1.1).1).2 h2
      omega
    · rw [if_neg h2] at h
      by_cases h3 : fullS l = 32768
      · omega
      · rw [if_neg h3] at h
        by_cases h4 : fullS l > 32768
        · rw [if_pos h4] at h
          simp at h
        · omega
  · rw [if_neg h1] at h
    simp at h
/-- The codes as far as told: of less than n bits, and of n bits of the first i symbols. -/
def outS (l : List Int) (n i : Nat) : List Int := (List.range l.length).map fun j : Nat => if 0 < rd l (j : Int) ∧ (rd l (j : Int) < (n : Int) ∨ (rd l (j : Int) = (n : Int) ∧ j < i)) then ((codeN l j : Nat) : Int) else 0
theorem outS_len (l : List Int) (n i : Nat) : (outS l n i).length = l.length := by unfold outS; simp
theorem outS_set (l : List Int) (n i : Nat) (hn : 0 < n) (hi : i < l.length) (e : rd l (i : Int) = (n : Int)) : (outS l n i).set i (((firstN l n + rankN l n i : Nat) : Int)) = outS l n (i + 1) := by
  unfold outS
  apply List.ext_getElem
  · simp
  · intro j h1 h2
    simp only [List.getElem_set, List.getElem_map, List.getElem_range]
    by_cases h : i = j
    · subst h
      rw [if_pos rfl, if_pos ⟨by omega, Or.inr ⟨e, by omega⟩⟩]
      unfold codeN
      rw [e, Int.toNat_natCast]
    · rw [if_neg h]
      by_cases c : 0 < rd l (j : Int) ∧ (rd l (j : Int) < (n : Int) ∨ (rd l (j : Int) = (n : Int) ∧ j < i))
      · rw [if_pos c, if_pos (by omega)]
      · rw [if_neg c, if_neg (by omega)]
theorem outS_same (l : List Int) (n i : Nat) (e : ¬ rd l (i : Int) = (n : Int)) : outS l n (i + 1) = outS l n i := by
  unfold outS
  apply List.map_congr_left
  intro j _
  by_cases h : i = j
  · subst h
    by_cases c : 0 < rd l (i : Int) ∧ rd l (i : Int) < (n : Int)
    · rw [if_pos ⟨c.1, Or.inl c.2⟩, if_pos ⟨c.1, Or.inl c.2⟩]
    · rw [if_neg (by omega), if_neg (by omega)]
  · by_cases c : 0 < rd l (j : Int) ∧ (rd l (j : Int) < (n : Int) ∨ (rd l (j : Int) = (n : Int) ∧ j < i))
    · rw [if_pos c, if_pos (by omega)]
    · rw [if_neg c, if_neg (by omega)]
theorem outS_next (l : List Int) (n : Nat) : outS l n l.length = outS l (n + 1) 0 := by
  unfold outS
  apply List.map_congr_left
  intro j hj
  have := List.mem_range.1 hj
  by_cases c : 0 < rd l (j : Int) ∧ rd l (j : Int) < ((n + 1 : Nat) : Int)
  · rw [if_pos (by omega), if_pos ⟨c.1, Or.inl c.2⟩]
  · rw [if_neg (by omega), if_neg (by omega)]
theorem outS_start (l : List Int) : outS l 1 0 = List.replicate l.length 0 := by
  unfold outS
  apply List.ext_getElem
  · simp
  · intro j h1 h2
    simp only [List.getElem_map, List.getElem_range, List.getElem_replicate]
    rw [if_neg (by omega)]
theorem outS_end (l : List Int) (h : okL l = true) : outS l 16 0 = codesI l l.length := by
  unfold outS codesI
  apply List.map_congr_left
  intro j hj
  have hj := List.mem_range.1 hj
  have hm := okL_mem h _ (rd_mem l j hj)
  by_cases c : 0 < rd l (j : Int)
  · rw [if_pos ⟨c, Or.inl (by omega)⟩, if_pos c]
  · rw [if_neg (fun h => c h.1), if_neg c]
theorem codes_inner (l : List Int) (hl : l.length ≤ 288) (n : Nat) (hn : 0 < n) (hn2 : n ≤ 15) (R : List Int × Bool) (hR : Ev (fun k => spec_CodesOf.l0 k l (outS l n l.length) ((firstN l n + cntN l n : Nat) : Int) ((n + 1 : Nat) : Int)) R) (d : Nat) : ∀ i : Nat, i + d = l.length →
    Ev (fun k => spec_CodesOf.l1 k l (outS l n i) ((firstN l n + rankN l n i : Nat) : Int) (n : Int) (i : Int)) R := by
  induction d with
  | zero =>
    intro i h
    obtain rfl : i = l.length := by omega
    rw [rankN_all, ← cntN_pos l n hn]
    refine Ev.step (fun k => ?_) hR
    rw [spec_CodesOf.l1, if_neg (by omega), w64_id (x := (n : Int) + 1) (by omega) (by omega)]
    rfl
  | succ d ih =>
    intro i h
    have g := ih (i + 1) (by omega)
    have hb := firstB l (by omega) n hn2
    have hr := rank_le l n i
    by_cases c : rd l (i : Int) = (n : Int)
    · rw [← outS_set l n i hn (by omega) c, rankN, if_pos c] at g
      refine Ev.step (fun k => ?_) g
      rw [spec_CodesOf.l1, if_pos (by omega), if_pos (by omega), if_pos c, if_pos (by rw [outS_len]; omega), Int.toNat_natCast, w64_id (x := ((firstN l n + rankN l n i : Nat) : Int) + 1) (by omega) (by omega), w64_id (x := (i : Int) + 1) (by omega) (by omega)]
      have e1 : ((firstN l n + rankN l n i : Nat) : Int) + 1 = ((firstN l n + (rankN l n i + 1) : Nat) : Int) := by omega
      rw [e1]
      rfl
    · rw [outS_same l n i c, rankN, if_neg c] at g
      refine Ev.step (fun k => ?_) g
      rw [spec_CodesOf.l1, if_pos (by omega), if_pos (by omega), if_neg c, w64_id (x := (i : Int) + 1) (by omega) (by omega)]
      rfl
theorem codes_outer (l : List Int) (hl : l.length ≤ 288) (ho : okL l = true) (d : Nat) : ∀ m : Nat, m + d = 15 →
    Ev (fun k => spec_CodesOf.l0 k l (outS l (m + 1) 0) ((firstN l m + cntN l m : Nat) : Int) ((m + 1 : Nat) : Int)) (codesI l l.length, true) := by
  induction d with
  | zero =>
    intro m h
    obtain rfl : m = 15 := by omega
    refine ev_ret (fun k => ?_)
    rw [spec_CodesOf.l0, if_neg (by omega), outS_end l ho]
  | succ d ih =>
    intro m h
    have g := ih (m + 1) (by omega)
    rw [← outS_next] at g
    have g2 := codes_inner l hl (m + 1) (by omega) (by omega) _ g l.length 0 (by omega)
    have hb := firstB l (by omega) m (by omega)
    have hc := cnt_le l m
    rw [rankN, Nat.add_zero, firstN] at g2
    refine Ev.step (fun k => ?_) g2
    rw [spec_CodesOf.l0, if_pos (by omega), w64_id (x := 2 * ((firstN l m + cntN l m : Nat) : Int)) (by omega) (by omega)]
    rfl
/-- The codes of any lengths. -/
def codesR (l : List Int) : List Int × Bool := if hasC l = true then (codesI l l.length, true) else ([], false)
theorem codes_spec (l : List Int) : Ev (fun k => spec_CodesOf.f k l) (codesR l) := by
  have g := kind_spec l
  have hj : ∀ x : Bool, x = !hasC l → Ev (fun k => spec_CodesOf.j0 k l x) (codesR l) := by
    intro x hx
    unfold codesR
    by_cases h : hasC l = true
    · rw [if_pos h]
      obtain ⟨h1, h2, h3⟩ := hasC_ok h
      have e := codes_outer l h2 h1 15 0 (by omega)
      rw [show firstN l 0 + cntN l 0 = 0 by rfl, outS_start] at e
      have hx2 : x = false := by rw [hx, h]; rfl
      rw [hx2]
      refine Ev.step (fun k => ?_) e
      rw [spec_CodesOf.j0, if_neg (by decide), if_pos (by omega), Int.toNat_natCast, if_pos (by omega)]
      rfl
    · rw [if_neg h]
      have hx2 : x = true := by rw [hx]; simpa using h
      rw [hx2]
      exact ev_ret (fun k => by rw [spec_CodesOf.j0, if_pos rfl])
  by_cases h0 : kindL l = 0
  · have e := hj true (by unfold hasC; rw [h0]; rfl)
    refine ev_use g (fun k hk => ?_) e
    unfold spec_CodesOf.f
    have hk : spec_CodeKind.f k l = _ := hk
    rw [hk, Option.bind_some, if_pos h0]
  · have e := hj (kindL l == 5) (by
      unfold hasC
      have : (kindL l != 0) = true := by simpa using h0
      rw [this, Bool.true_and]
      cases h5 : (kindL l == 5) <;> simp [bne, h5])
    refine ev_use g (fun k hk => ?_) e
    unfold spec_CodesOf.f
    have hk : spec_CodeKind.f k l = _ := hk
    rw [hk, Option.bind_some, if_neg h0]
theorem codes_impl (l : List Int) (hl : l.length ≤ 1048576) : impl_CodesOf.f l = some (codesR l) := by
  unfold impl_CodesOf.f codesR
  rw [hasC_impl l hl, Option.bind_some]
  unfold codesF
  by_cases h : hasC l = true
  · obtain ⟨h1, h2, h3⟩ := hasC_ok h
    rw [if_pos h, if_pos h, if_pos ⟨by omega, okL_mem h1⟩]
  · rw [if_neg h, if_neg h]
theorem codesR_len (l : List Int) : (codesR l).1.length ≤ l.length := by
  unfold codesR
  split
  · rw [codesI_len]; exact Nat.le_refl _
  · exact Nat.zero_le _

theorem FnExactCodesOf : laws_FnExactCodesOf.Pure := by
  intro l h1 h2 hw
  by_cases hb : (l.length : Int) > 1048576
  · exact ⟨0, by unfold laws_FnExactCodesOf.f; rw [if_pos hb]⟩
  · obtain ⟨KT, T⟩ := toIntS_is l (by omega)
    have eS := codes_spec l
    have eI := codes_impl l (by omega)
    have hc := codesR_len l
    generalize codesR l = r at eS eI hc
    obtain ⟨c, b⟩ := r
    dsimp only at hc
    obtain ⟨KS, S⟩ := eS
    obtain ⟨KL, EL⟩ := eqIntS_is l (by omega)
    obtain ⟨KC, EC⟩ := eqIntS_is c (by omega)
    obtain ⟨KM, M⟩ := mark_is l (by omega)
    obtain ⟨KN, N⟩ := mark_is c (by omega)
    obtain ⟨KH, HH⟩ := held_is c.length (by omega)
    refine ⟨KT + KS + KL + KC + KM + KN + KH + 3, ?_⟩
    generalize hk : KT + KS + KL + KC + KM + KN + KH = K
    have bb : (b != b) = false := by simp
    unfold laws_FnExactCodesOf.f
    rw [if_neg hb]
    simp only [T _ (show KT ≤ K + 3 by omega), S _ (show KS ≤ K + 3 by omega), eI, EC _ (show KC ≤ K + 3 by omega), Option.bind_some, if_true, bb]
    rw [laws_FnExactCodesOf.j0, if_neg (by decide)]
    simp only [T _ (show KT ≤ K + 2 by omega), EL _ (show KL ≤ K + 2 by omega), M _ (show KM ≤ K + 2 by omega), EC _ (show KC ≤ K + 2 by omega), Option.bind_some, if_true, bb]
    rw [if_neg (by omega), laws_FnExactCodesOf.j1, if_neg (by decide)]
    simp only [N _ (show KN ≤ K + 1 by omega), HH _ (show KH ≤ K + 1 by omega), T _ (show KT ≤ K + 1 by omega), eI, EC _ (show KC ≤ K + 1 by omega), Option.bind_some, if_true, bb]
    rw [if_neg (by omega), laws_FnExactCodesOf.j2, if_neg (by decide)]
    simp only [HH _ (show KH ≤ K by omega), Option.bind_some]
    rw [if_neg (by omega)]
    all_goals simp

end Go.Proofs.Ytimomemkbcidnaa.Pure
