/- The law FnExactTakeSymbol: for every input within the row's bounds the printed function answers true: what the program's function tells is what the law asks. Conditions: only the bounds that the row itself gives (sizes of strings and slices, ranges of the number kinds). -/
import Derived.Test.YtimomemkbcidnaaPFnExactTakeSymbolx5
namespace Go.Proofs.Ytimomemkbcidnaa.Pure
open Go.RowKit Go.Proofs.Ytimomemkbcidnaa.PFnExactTakeSymbol Go.Proofs.YtimomemkbcidnaaW.PrintWords Go.Proofs.YtimomemkbcidnaaW.PrintLast Go.Proofs.YtimomemkbcidnaaW.PrintMore
set_option linter.unusedVariables false
set_option linter.unusedSimpArgs false

theorem w64_id {x : Int} (h0 : -9223372036854775808 ≤ x) (h1 : x ≤ 9223372036854775807) : wrap64 x = x := by unfold wrap64; omega
theorem tmod_nn {a : Int} (b : Int) (h : 0 ≤ a) : Int.tmod a b = a % b := Int.tmod_eq_emod_of_nonneg h
theorem tdiv_nn {a : Int} (b : Int) (h : 0 ≤ a) : Int.tdiv a b = a / b := Int.tdiv_eq_ediv_of_nonneg h
theorem wf64 {n : Int} (h : (Lit.int .i64 n).wf = true) : -9223372036854775808 ≤ n ∧ n ≤ 9223372036854775807 := by
  simp [Lit.wf, IntKind.min, IntKind.max, IntKind.signed, IntKind.bits] at h
  omega
theorem wfu32 {n : Int} (h : (Lit.int .u32 n).wf = true) : 0 ≤ n ∧ n ≤ 4294967295 := by
  simp [Lit.wf, IntKind.min, IntKind.max, IntKind.signed, IntKind.bits] at h
  omega
theorem wraps64 (n : Int) (h0 : 0 ≤ n) (h1 : n < 2 ^ 63) : IntKind.i64.wrap n = n := by rw [IntKind.wrap_i64]; omega
theorem wrapsu32 (n : Int) (h0 : 0 ≤ n) (h1 : n < 2 ^ 32) : IntKind.u32.wrap n = n := by rw [IntKind.wrap_u32]; omega
/-- a | b of parts that do not meet, of an int. -/
theorem or64 (i : Nat) (x y : Int) (hx0 : 0 ≤ x) (hx : x % 2 ^ i = 0) (hx1 : x < 2 ^ 63) (hy0 : 0 ≤ y) (hy : y < 2 ^ i) (hy1 : y < 2 ^ 63) : Go.bits .or .i64 x y = x + y :=
  bits_join .i64 63 (by decide) wraps64 i x y hx0 hx hx1 hy0 hy hy1
theorem ev_ite_pos {α : Type} {c : Prop} [Decidable c] {f g : Nat → Option α} {r : α} (h : c) (k : Ev f r) : Ev (fun n => if c then f n else g n) r := Ev.congr (fun n => if_pos h) k
theorem ev_ite_neg {α : Type} {c : Prop} [Decidable c] {f g : Nat → Option α} {r : α} (h : ¬ c) (k : Ev g r) : Ev (fun n => if c then f n else g n) r := Ev.congr (fun n => if_neg h) k
/-- A callee without rounds that answers. -/
theorem ev_bind0 {α β : Type} {o : Option α} {f : Nat → α → Option β} {a : α} {r : β} (h : o = some a) (k : Ev (fun n => f n a) r) : Ev (fun n => o.bind (f n)) r := Ev.congr (fun n => by rw [h]; rfl) k
theorem bt_lo (s : ByteArray) (i : Int) : 0 ≤ bt s i := (bt_range s i).1
theorem bt_hi (s : ByteArray) (i : Int) : bt s i ≤ 255 := (bt_range s i).2
/-- A callee that answers from some number of rounds on, used. -/
theorem ev_use {α β : Type} {g : Nat → Option α} {a : α} {F G : Nat → Option β} {r : β} (e : Ev g a) (h : ∀ k, g k = some a → F k = G k) (c : Ev G r) : Ev F r := by
  obtain ⟨K, e⟩ := e
  obtain ⟨K', c⟩ := c
  exact ⟨max K K', fun n hn => (h n (e n (by omega))).trans (c n (by omega))⟩
theorem ev_use_step {α β : Type} {g : Nat → Option α} {a : α} {F G : Nat → Option β} {r : β} (e : Ev g a) (h : ∀ k, g k = some a → F (k + 1) = G k) (c : Ev G r) : Ev F r := by
  obtain ⟨K, e⟩ := e
  obtain ⟨K', c⟩ := c
  refine ⟨max K K' + 1, fun n hn => ?_⟩
  obtain ⟨m, rfl⟩ : ∃ m, n = m + 1 := ⟨n - 1, by omega⟩
  exact (h m (e m (by omega))).trans (c m (by omega))
theorem ev_end {α β : Type} {g : Nat → Option α} {a : α} {F : Nat → Option β} {r : β} (e : Ev g a) (h : ∀ k, g k = some a → F k = some r) : Ev F r := by
  obtain ⟨K, e⟩ := e
  exact ⟨K, fun n hn => h n (e n hn)⟩
theorem ev_two {α β : Type} {g : Nat → Option α} {h : Nat → Option β} {a : α} {b : β} (e : Ev g a) (f : Ev h b) : ∃ k, g k = some a ∧ h k = some b := by
  obtain ⟨K, e⟩ := e
  obtain ⟨K', f⟩ := f
  exact ⟨max K K', e _ (by omega), f _ (by omega)⟩
theorem ev_ret {α : Type} {F : Nat → Option α} {r : α} (h : ∀ k, F (k + 1) = some r) : Ev F r := ⟨1, fun n hn => by obtain ⟨m, rfl⟩ : ∃ m, n = m + 1 := ⟨n - 1, by omega⟩; exact h m⟩

theorem in_spec (a b c : Int) : spec_l01In.f a b c = some (decide (b ≤ a ∧ a ≤ c)) := by
  unfold spec_l01In.f
  split
  · rename_i h
    have e : (decide (a ≤ c)) = decide (b ≤ a ∧ a ≤ c) := decide_eq_decide.mpr ⟨fun h' => ⟨h, h'⟩, fun h' => h'.2⟩
    rw [e]
  · rename_i h
    have e : (decide (b ≤ a ∧ a ≤ c)) = false := decide_eq_false fun h' => h h'.1
    rw [e]

theorem in_impl (a b c : Int) : impl_within.f a b c = some (decide (b ≤ a ∧ a ≤ c)) := by
  unfold impl_within.f
  split
  · rename_i h
    have e : (decide (a ≤ c)) = decide (b ≤ a ∧ a ≤ c) := decide_eq_decide.mpr ⟨fun h' => ⟨h, h'⟩, fun h' => h'.2⟩
    rw [e]
  · rename_i h
    have e : (decide (b ≤ a ∧ a ≤ c)) = false := decide_eq_false fun h' => h h'.1
    rw [e]


/-- Two callees that answer, together. -/
theorem ev_pair {α β : Type} {g : Nat → Option α} {h : Nat → Option β} {a : α} {b : β} (e : Ev g a) (f : Ev h b) : Ev (fun k => (g k).bind fun x => (h k).bind fun y => some (x, y)) (a, b) := by
  obtain ⟨K, e⟩ := e
  obtain ⟨K', f⟩ := f
  exact ⟨max K K', fun n hn => by show ((g n).bind fun x => (h n).bind fun y => some (x, y)) = _; rw [e n (by omega), f n (by omega)]; rfl⟩
theorem pair_some {α β : Type} {g : Option α} {h : Option β} {a : α} {b : β} (e : (g.bind fun x => h.bind fun y => some (x, y)) = some (a, b)) : g = some a ∧ h = some b := by
  cases g with
  | none => cases e
  | some x =>
    cases h with
    | none => cases e
    | some y =>
      injection e with e
      injection e with e1 e2
      exact ⟨by rw [e1], by rw [e2]⟩

theorem rd_nat (l : List Int) (j : Nat) : rd l j = l.getD j 0 := by unfold rd; simp
theorem rd_getElem (l : List Int) (j : Nat) (h : j < l.length) : rd l j = l[j] := by rw [rd_nat, List.getD_eq_getElem?_getD, List.getElem?_eq_getElem h]; rfl
theorem rd_mem (l : List Int) (j : Nat) (h : j < l.length) : rd l j ∈ l := by rw [rd_getElem l j h]; exact List.getElem_mem h
theorem drop_rd (l : List Int) (j : Nat) (h : j < l.length) : l.drop j = rd l j :: l.drop (j + 1) := by rw [rd_getElem l j h]; exact List.drop_eq_getElem_cons h
theorem rd_set (l : List Int) (a : Nat) (v : Int) (j : Nat) (h : a < l.length) : rd (l.set a v) j = if j = a then v else rd l j := by
  rw [rd_nat, rd_nat, List.getD_eq_getElem?_getD, List.getD_eq_getElem?_getD, List.getElem?_set]
  by_cases e : j = a
  · subst e
    simp [h]
  · rw [if_neg (Ne.symm e), if_neg e]
theorem take_set_snoc (l : List Int) (j : Nat) (v : Int) (h : j < l.length) : (l.set j v).take (j + 1) = l.take j ++ [v] := by
  rw [List.take_succ_eq_append_getElem (by simpa using h)]
  simp [List.take_set_of_le]

theorem toIntS_loop (l : List Int) (hl : l.length ≤ 1048576) (d : Nat) : ∀ (j : Nat) (o : List Int), j + d = l.length → o.length = l.length → o.take j = l.take j → Ev (fun k => laws_toIntS.l0 k l o j) l := by
  induction d with
  | zero =>
    intro j o h ho hp
    refine ev_ret (fun k => ?_)
    rw [laws_toIntS.l0, if_neg (by omega)]
    have e1 : o.take j = o := List.take_of_length_le (by omega)
    have e2 : l.take j = l := List.take_of_length_le (by omega)
    rw [e1, e2] at hp
    rw [hp]
  | succ d ih =>
    intro j o h ho hp
    refine Ev.step (fun k => ?_) (ih (j + 1) (o.set j (rd l j)) (by omega) (by simpa using ho) ?_)
    · rw [laws_toIntS.l0, if_pos (by omega), if_pos (by omega), if_pos (by omega), w64_id (x := (j : Int) + 1) (by omega) (by omega), Int.toNat_natCast]
      rfl
    · rw [take_set_snoc o j _ (by omega), hp, rd_getElem l j (by omega), ← List.take_succ_eq_append_getElem (by omega)]
theorem toIntS_is (l : List Int) (hl : l.length ≤ 1048576) : Ev (fun k => laws_toIntS.f k l) l := by
  refine Ev.congr (fun k => ?_) (toIntS_loop l hl l.length 0 (List.replicate l.length 0) (by omega) (by simp) (by simp))
  unfold laws_toIntS.f
  rw [if_pos (by omega), Int.toNat_natCast, if_pos (by omega)]
  rfl
theorem eqIntS_loop (l : List Int) (hl : l.length ≤ 4611686018427387904) (d : Nat) : ∀ j : Nat, j + d = l.length → Ev (fun k => laws_eqIntS.l0 k l l j) true := by
  induction d with
  | zero => exact fun j h => ev_ret (fun k => by rw [laws_eqIntS.l0, if_neg (by omega)])
  | succ d ih =>
    intro j h
    refine Ev.step (fun k => ?_) (ih (j + 1) (by omega))
    rw [laws_eqIntS.l0, if_pos (by omega), if_pos (by omega), if_pos (by omega), if_pos rfl, w64_id (x := (j : Int) + 1) (by omega) (by omega)]
    rfl
theorem eqIntS_is (l : List Int) (hl : l.length ≤ 4611686018427387904) : Ev (fun k => laws_eqIntS.f k l l) true :=
  Ev.congr (fun k => by unfold laws_eqIntS.f; rw [if_pos rfl]; rfl) (eqIntS_loop l hl l.length 0 (by omega))
/-- 2^n, as the loop doubles it. -/
theorem pow_loop (n : Int) (d : Nat) : ∀ (x i : Int), 0 ≤ i → i + d = n → 0 ≤ x → x * 2 ^ d ≤ 4611686018427387904 → n ≤ 62 →
    Ev (fun k => spec_l01Pow.l0 k n x i) (x * 2 ^ d) := by
  induction d with
  | zero =>
    intro x i h0 h hx hb hn
    refine ev_ret (fun k => ?_)
    rw [spec_l01Pow.l0, if_neg (by omega)]
    simp
  | succ d ih =>
    intro x i h0 h hx hb hn
    have e : x * 2 ^ (d + 1) = 2 * x * 2 ^ d := by rw [Int.pow_succ, ← Int.mul_assoc, Int.mul_comm (x * 2 ^ d) 2, ← Int.mul_assoc]
    have hp : (1 : Int) ≤ 2 ^ d := by have : (0 : Int) < 2 ^ d := Int.pow_pos (by omega); omega
    have h2 : 2 * x ≤ 2 * x * 2 ^ d := by
      have := Int.mul_le_mul_of_nonneg_left hp (show 0 ≤ 2 * x by omega)
      omega
    have h3 := ih (2 * x) (i + 1) (by omega) (by omega) (by omega) (by omega) hn
    rw [e]
    refine Ev.step (fun k => ?_) h3
    rw [spec_l01Pow.l0, if_pos (by omega), w64_id (x := 2 * x) (by omega) (by omega), w64_id (x := i + 1) (by omega) (by omega)]
theorem pow_is (n : Nat) (hn : n ≤ 62) : Ev (fun k => spec_l01Pow.f k (n : Int)) (2 ^ n) := by
  have hb : (2 : Int) ^ n ≤ 2 ^ 62 := by exact_mod_cast Nat.pow_le_pow_right (n := 2) (by omega) hn
  have h := pow_loop n n 1 0 (by omega) (by omega) (by omega) (by rw [Int.one_mul]; exact hb) (by omega)
  rw [Int.one_mul] at h
  exact h
theorem pow_at (n : Int) (h0 : 0 ≤ n) (hn : n ≤ 62) : Ev (fun k => spec_l01Pow.f k n) (2 ^ n.toNat) := by
  have h := pow_is n.toNat (by omega)
  rw [Int.toNat_of_nonneg h0] at h
  exact h

open Go.Proofs.Ytimomemkbcidnaa.MBook Go.Proofs.Ytimomemkbcidnaa.MCode
/-- Are these lengths right. -/
def okL (l : List Int) : Bool := l.all fun x => decide (0 ≤ x ∧ x ≤ 15)
theorem okL_cons (x : Int) (l : List Int) : okL (x :: l) = (decide (0 ≤ x ∧ x ≤ 15) && okL l) := by unfold okL; rw [List.all_cons]
theorem okL_mem {l : List Int} (h : okL l = true) : ∀ x ∈ l, 0 ≤ x ∧ x ≤ 15 := by
  intro x hx
  unfold okL at h
  have := List.all_eq_true.1 h x hx
  exact of_decide_eq_true this
theorem roomF_loop (l : List Int) (hl : l.length ≤ 320) (d : Nat) : ∀ (j : Nat) (s : Int), j + d = l.length → 0 ≤ s → s ≤ 16384 * j → Ev (fun k => spec_l03Room.l0 k l s j) (if okL (l.drop j) = true then (s + (fullS (l.drop j) : Nat), true) else (0, false)) := by
  induction d with
  | zero =>
    intro j s h s0 s1
    rw [List.drop_of_length_le (by omega)]
    exact ev_ret (fun k => by rw [spec_l03Room.l0, if_neg (by omega)]; simp [okL, fullS])
  | succ d ih =>
    intro j s h s0 s1
    rw [drop_rd l j (by omega), okL_cons, fullS]
    by_cases c : 0 ≤ rd l j ∧ rd l j ≤ 15
    · rw [decide_eq_true c, Bool.true_and]
      by_cases c1 : rd l j > 0
      · have w : wrap64 (15 - rd l j) = 15 - rd l j := w64_id (by omega) (by omega)
        have P := pow_at (15 - rd l j) (by omega) (by omega)
        have e0 : (15 - rd l (j : Int)).toNat = 15 - (rd l (j : Int)).toNat := by omega
        rw [e0] at P
        have p0 : (0 : Int) < 2 ^ (15 - (rd l j).toNat) := Int.pow_pos (by omega)
        have p1 : (2 : Int) ^ (15 - (rd l j).toNat) ≤ 2 ^ 14 := by exact_mod_cast Nat.pow_le_pow_right (n := 2) (by omega) (show 15 - (rd l j).toNat ≤ 14 by omega)
        have g := ih (j + 1) (s + 2 ^ (15 - (rd l j).toNat)) (by omega) (by omega) (by omega)
        have e2 : (if 0 < rd l (j : Int) then 2 ^ (15 - (rd l (j : Int)).toNat) else 0) = 2 ^ (15 - (rd l (j : Int)).toNat) := if_pos c1
        have e3 : s + ((2 ^ (15 - (rd l (j : Int)).toNat) + fullS (l.drop (j + 1)) : Nat) : Int) = s + 2 ^ (15 - (rd l (j : Int)).toNat) + ((fullS (l.drop (j + 1)) : Nat) : Int) := by
          rw [Int.natCast_add, Int.natCast_pow, Int.add_assoc]
          rfl
        rw [e2, e3]
        refine ev_use_step P (fun k hk => ?_) g
        rw [spec_l03Room.l0, if_pos (by omega), if_pos (by omega), in_spec, decide_eq_true c, Option.bind_some, if_pos rfl, if_pos c1, w, hk, Option.bind_some, w64_id (x := s + 2 ^ (15 - (rd l j).toNat)) (by omega) (by omega), w64_id (x := (j : Int) + 1) (by omega) (by omega)]
        rfl
      · have g := ih (j + 1) s (by omega) (by omega) (by omega)
        have e2 : (if 0 < rd l (j : Int) then 2 ^ (15 - (rd l (j : Int)).toNat) else 0) = 0 := if_neg c1
        rw [e2, Nat.zero_add]
        refine Ev.step (fun k => ?_) g
        rw [spec_l03Room.l0, if_pos (by omega), if_pos (by omega), in_spec, decide_eq_true c, Option.bind_some, if_pos rfl, if_neg c1, w64_id (x := (j : Int) + 1) (by omega) (by omega)]
        rfl
    · rw [decide_eq_false c, Bool.false_and, if_neg (by decide)]
      refine ev_ret (fun k => ?_)
      rw [spec_l03Room.l0, if_pos (by omega), if_pos (by omega), in_spec, decide_eq_false c, Option.bind_some, if_neg (by decide)]
theorem roomF_is (l : List Int) : Ev (fun k => spec_l03Room.f k l 288) (if okL l = true ∧ l.length ≤ 288 then (((fullS l : Nat) : Int), true) else (0, false)) := by
  by_cases h : l.length ≤ 288
  · have g := roomF_loop l (by omega) l.length 0 0 (by omega) (by omega) (by omega)
    rw [List.drop_zero, Int.zero_add] at g
    have e : (if okL l = true ∧ l.length ≤ 288 then (((fullS l : Nat) : Int), true) else (0, false)) = (if okL l = true then (((fullS l : Nat) : Int), true) else (0, false)) := by
      by_cases h2 : okL l = true
      · rw [if_pos ⟨h2, h⟩, if_pos h2]
      · rw [if_neg (fun h3 => h2 h3.1), if_neg h2]
    rw [e]
    refine Ev.congr (fun k => ?_) g
    unfold spec_l03Room.f
    rw [if_neg (by omega)]
    rfl
  · rw [if_neg (fun h2 => h h2.2)]
    refine Ev.congr (fun k => ?_) (Ev.now (0, false))
    unfold spec_l03Room.f
    rw [if_pos (by omega)]
theorem lensOk_at (l : List Int) (hl : l.length ≤ 1048576) (m : Int) (d : Nat) : ∀ (j k : Nat), j + d = l.length → d < k → impl_lengthsOk.l0 k l m l (l.length : Int) j = some (okL (l.drop j) && decide ((l.length : Int) ≤ m)) := by
  induction d with
  | zero =>
    intro j k h hk
    obtain ⟨k, rfl⟩ : ∃ q, k = q + 1 := ⟨k - 1, by omega⟩
    rw [impl_lengthsOk.l0, if_neg (by omega), List.drop_of_length_le (by omega)]
    simp [okL]
  | succ d ih =>
    intro j k h hk
    obtain ⟨k, rfl⟩ : ∃ q, k = q + 1 := ⟨k - 1, by omega⟩
    rw [drop_rd l j (by omega), okL_cons, impl_lengthsOk.l0, if_pos (by omega), if_pos (by omega), if_pos (by omega), in_impl, Option.bind_some]
    by_cases c : 0 ≤ rd l j ∧ rd l j ≤ 15
    · rw [decide_eq_true c, if_pos rfl, Bool.true_and, w64_id (x := (j : Int) + 1) (by omega) (by omega)]
      exact ih (j + 1) k (by omega) (by omega)
    · rw [decide_eq_false c, if_neg (by decide), Bool.false_and, Bool.false_and]
theorem lensOk_k (l : List Int) (hl : l.length ≤ 1048576) (m : Int) : impl_lengthsOk.f (l.length + 10) l m = some (okL l && decide ((l.length : Int) ≤ m)) := lensOk_at l hl m l.length 0 _ (by omega) (by omega)
/-- How many are above 0. -/
def nzL : List Int → Nat
  | [] => 0
  | x :: l => (if 0 < x then 1 else 0) + nzL l
theorem nzL_le : ∀ l, nzL l ≤ l.length
  | [] => Nat.le_refl _
  | x :: l => by
    have := nzL_le l
    rw [nzL, List.length_cons]
    split <;> omega
/-- What the kind is, of how full and how many. -/
def kindS (F n : Nat) : Int := if n = 0 then 1 else if F = 32768 then 2 else if F > 32768 then 5 else if n = 1 then (if F = 16384 then 3 else 4) else 4
theorem kind_loop (l : List Int) (hl : l.length ≤ 320) (F : Nat) (d : Nat) : ∀ (j n : Nat), j + d = l.length → n ≤ j → Ev (fun k => spec_CodeKind.l0 k l (F : Int) (n : Int) j) (kindS F (n + nzL (l.drop j))) := by
  induction d with
  | zero =>
    intro j n h hn
    rw [List.drop_of_length_le (by omega)]
    refine ev_ret (fun k => ?_)
    rw [spec_CodeKind.l0, if_neg (by omega)]
    have q1 : ((n : Int) = 0) ↔ n = 0 := by omega
    have q2 : ((F : Int) = 32768) ↔ F = 32768 := by omega
    have q3 : ((F : Int) > 32768) ↔ F > 32768 := by omega
    have q4 : ((n : Int) = 1) ↔ n = 1 := by omega
    have q5 : ((F : Int) = 16384) ↔ F = 16384 := by omega
    simp only [nzL, Nat.add_zero, q1, q2, q3, q4, q5]
    unfold kindS
    repeat' split
    all_goals first | rfl | omega
  | succ d ih =>
    intro j n h hn
    rw [drop_rd l j (by omega), nzL]
    by_cases c : rd l j > 0
    · have e : (if 0 < rd l (j : Int) then 1 else 0) = 1 := if_pos c
      have g := ih (j + 1) (n + 1) (by omega) (by omega)
      rw [e, ← Nat.add_assoc]
      refine Ev.step (fun k => ?_) g
      rw [spec_CodeKind.l0, if_pos (by omega), if_pos (by omega), if_pos c, w64_id (x := (n : Int) + 1) (by omega) (by omega), w64_id (x := (j : Int) + 1) (by omega) (by omega)]
      rfl
    · have e : (if 0 < rd l (j : Int) then 1 else 0) = 0 := if_neg c
      have g := ih (j + 1) n (by omega) (by omega)
      rw [e, Nat.zero_add]
      refine Ev.step (fun k => ?_) g
      rw [spec_CodeKind.l0, if_pos (by omega), if_pos (by omega), if_neg c, w64_id (x := (j : Int) + 1) (by omega) (by omega)]
      rfl
/-- The kind of any lengths. -/
def kindL (l : List Int) : Int := if okL l = true ∧ l.length ≤ 288 then kindS (fullS l) (nzL l) else 0
theorem kind_spec (l : List Int) : Ev (fun k => spec_CodeKind.f k l) (kindL l) := by
  have g := roomF_is l
  unfold kindL
  by_cases h : okL l = true ∧ l.length ≤ 288
  · rw [if_pos h] at g ⊢
    have g2 := kind_loop l (by omega) (fullS l) l.length 0 0 (by omega) (Nat.le_refl _)
    rw [List.drop_zero, Nat.zero_add] at g2
    refine ev_use g (fun k hk => ?_) g2
    unfold spec_CodeKind.f
    have hk : spec_l03Room.f k l 288 = _ := hk
    rw [hk, Option.bind_some, if_pos rfl]
    rfl
  · rw [if_neg h] at g ⊢
    refine ev_end g (fun k hk => ?_)
    show spec_CodeKind.f k l = _
    have hk : spec_l03Room.f k l 288 = _ := hk
    unfold spec_CodeKind.f
    rw [hk, Option.bind_some, if_neg (by decide)]
theorem nzTo_cons (x : Int) (l : List Int) : ∀ m, (symsTo (x :: l) m).length = (symsTo l m).length + if 0 < x ∧ x ≤ (m : Int) then 1 else 0
  | 0 => by rw [symsTo, symsTo, if_neg (by omega)]; rfl
  | m + 1 => by
    have ih := nzTo_cons x l m
    have e1 := syms_split (x :: l) (m + 1) (by omega)
    have e2 := syms_split l (m + 1) (by omega)
    rw [Nat.add_sub_cancel] at e1 e2
    rw [e1, e2, ih, cntN_cons]
    by_cases h1 : x = ((m + 1 : Nat) : Int)
    · have q1 : (if 0 < x ∧ x ≤ (m : Int) then 1 else 0) = 0 := if_neg (by omega)
      have q2 : (if 0 < m + 1 ∧ x = ((m + 1 : Nat) : Int) then 1 else 0) = 1 := if_pos ⟨by omega, h1⟩
      have q3 : (if 0 < x ∧ x ≤ ((m + 1 : Nat) : Int) then 1 else 0) = 1 := if_pos (by omega)
      rw [q1, q2, q3]
      omega
    · have q2 : (if 0 < m + 1 ∧ x = ((m + 1 : Nat) : Int) then 1 else 0) = 0 := if_neg (fun h => h1 h.2)
      have q3 : (if 0 < x ∧ x ≤ ((m + 1 : Nat) : Int) then 1 else 0) = (if 0 < x ∧ x ≤ (m : Int) then 1 else 0) := by
        by_cases h2 : 0 < x ∧ x ≤ (m : Int)
        · rw [if_pos h2, if_pos (by omega)]
        · rw [if_neg h2, if_neg (by omega)]
      rw [q2, q3]
      omega
theorem nz_is : ∀ (l : List Int), okL l = true → (symsTo l 15).length = nzL l
  | [], _ => by decide
  | x :: l, h => by
    rw [okL_cons, Bool.and_eq_true] at h
    have hx := of_decide_eq_true h.1
    rw [nzTo_cons, nz_is l h.2, nzL]
    by_cases h0 : 0 < x
    · rw [if_pos h0, if_pos (by omega)]; omega
    · rw [if_neg h0, if_neg (by omega)]; omega
theorem full_zero : ∀ (l : List Int), okL l = true → (fullS l = 0 ↔ nzL l = 0) ∧ (nzL l = 0 → cntN l 1 = 0) ∧ (nzL l = 1 → (fullS l = 16384 ↔ cntN l 1 = 1))
  | [], _ => by decide
  | x :: l, h => by
    rw [okL_cons, Bool.and_eq_true] at h
    have hx := of_decide_eq_true h.1
    obtain ⟨i1, i2, i3⟩ := full_zero l h.2
    rw [fullS, nzL, cntN_cons]
    by_cases h0 : 0 < x
    · have p : 0 < 2 ^ (15 - x.toNat) := Nat.pos_of_ne_zero (by simp)
      rw [if_pos h0, if_pos h0]
      refine ⟨by omega, by omega, fun h1 => ?_⟩
      have z := i2 (by omega)
      have y := i1.2 (by omega)
      rw [z, y]
      by_cases hx1 : x = 1
      · subst hx1; decide
      · have q : (if 0 < 1 ∧ x = ((1 : Nat) : Int) then 1 else 0) = 0 := if_neg (fun h => hx1 h.2)
        have p2 : 2 ^ (15 - x.toNat) ≤ 2 ^ 13 := Nat.pow_le_pow_right (by omega) (by omega)
        rw [q]
        omega
    · have q : (if 0 < 1 ∧ x = ((1 : Nat) : Int) then 1 else 0) = 0 := if_neg (fun h => by have := h.2; omega)
      rw [if_neg h0, if_neg h0, q]
      refine ⟨by omega, by omega, fun h1 => ?_⟩
      have := i3 (by omega)
      omega
theorem kindI_is (l : List Int) (h : okL l = true) : kindI l = kindS (fullS l) (nzL l) := by
  obtain ⟨i1, i2, i3⟩ := full_zero l h
  unfold kindI kindS
  rw [fullS_is l (okL_mem h), nz_is l h]
  by_cases h1 : fullS l = 0
  · rw [if_pos h1, if_pos (i1.1 h1)]
  · rw [if_neg h1, if_neg (fun h2 => h1 (i1.2 h2))]
    by_cases h2 : fullS l = 32768
    · rw [if_pos h2, if_pos h2]
    · rw [if_neg h2, if_neg h2]
      by_cases h3 : 32768 < fullS l
      · rw [if_pos h3, if_pos h3]
      · rw [if_neg h3, if_neg h3]
        by_cases h4 : nzL l = 1
        · rw [if_pos h4]
          by_cases h5 : fullS l = 16384
          · rw [if_pos h5, if_pos ⟨h4, (i3 h4).1 h5⟩]
          · rw [if_neg h5, if_neg (fun h6 => h5 ((i3 h4).2 h6.2))]
        · rw [if_neg (fun h6 => h4 h6.1), if_neg h4]
theorem kind_impl (l : List Int) (hl : l.length ≤ 1048576) : impl_CodeKind.f l = some (kindL l) := by
  unfold impl_CodeKind.f kindL
  rw [lensOk_k l hl, Option.bind_some]
  unfold kindF
  by_cases h : okL l = true ∧ l.length ≤ 288
  · rw [h.1, decide_eq_true (show (l.length : Int) ≤ 288 by omega), Bool.and_true, if_pos rfl, if_pos (by omega), if_pos ⟨rfl, h.2⟩, kindI_is l h.1]
  · rw [if_neg h]
    have e : (okL l && decide ((l.length : Int) ≤ 288)) = false := by
      by_cases h1 : okL l = true
      · rw [h1, Bool.true_and]
        exact decide_eq_false (fun h2 => h ⟨h1, by omega⟩)
      · have : okL l = false := by simpa using h1
        rw [this, Bool.false_and]
    rw [e, if_neg (by decide)]

/-- Have these lengths codes. -/
def hasC (l : List Int) : Bool := kindL l != 0 && kindL l != 5
theorem hasC_impl (l : List Int) (hl : l.length ≤ 1048576) : impl_hasCodes.f l = some (hasC l) := by
  unfold impl_hasCodes.f hasC
  rw [kind_impl l hl, Option.bind_some]
  by_cases h : kindL l = 0
  · rw [if_pos h, h]; rfl
  · rw [if_neg h]
    have : (kindL l != 0) = true := by simpa using h
    rw [this, Bool.true_and]
theorem hasC_ok {l : List Int} (h : hasC l = true) : okL l = true ∧ l.length ≤ 288 ∧ fullS l ≤ 32768 := by
  unfold hasC kindL at h
  by_cases h1 : okL l = true ∧ l.length ≤ 288
  · rw [if_pos h1] at h
    refine ⟨h1.1, h1.2, ?_⟩
    unfold kindS at h
    by_cases h2 : nzL l = 0
    · have := ((full_zero l h1.1).1).2 h2
      omega
    · rw [if_neg h2] at h
      by_cases h3 : fullS l = 32768
      · omega
      · rw [if_neg h3] at h
        by_cases h4 : fullS l > 32768
        · rw [if_pos h4] at h
          simp at h
        · omega
  · rw [if_neg h1] at h
    simp at h
/-- The codes as far as told: of less than n bits, and of n bits of the first i symbols. -/
def outS (l : List Int) (n i : Nat) : List Int := (List.range l.length).map fun j : Nat => if 0 < rd l (j : Int) ∧ (rd l (j : Int) < (n : Int) ∨ (rd l (j : Int) = (n : Int) ∧ j < i)) then ((codeN l j : Nat) : Int) else 0
theorem outS_len (l : List Int) (n i : Nat) : (outS l n i).length = l.length := by unfold outS; simp
theorem outS_set (l : List Int) (n i : Nat) (hn : 0 < n) (hi : i < l.length) (e : rd l (i : Int) = (n : Int)) : (outS l n i).set i (((firstN l n + rankN l n i : Nat) : Int)) = outS l n (i + 1) := by
  unfold outS
  apply List.ext_getElem
  · simp
  · intro j h1 h2
    simp only [List.getElem_set, List.getElem_map, List.getElem_range]
    by_cases h : i = j
    · subst h
      rw [if_pos rfl, if_pos ⟨by omega, Or.inr ⟨e, by omega⟩⟩]
      unfold codeN
      rw [e, Int.toNat_natCast]
    · rw [if_neg h]
      by_cases c : 0 < rd l (j : Int) ∧ (rd l (j : Int) < (n : Int) ∨ (rd l (j : Int) = (n : Int) ∧ j < i))
      · rw [if_pos c, if_pos (by omega)]
      · rw [if_neg c, if_neg (by omega)]
theorem outS_same (l : List Int) (n i : Nat) (e : ¬ rd l (i : Int) = (n : Int)) : outS l n (i + 1) = outS l n i := by
  unfold outS
  apply List.map_congr_left
  intro j _
  by_cases h : i = j
  · subst h
    by_cases c : 0 < rd l (i : Int) ∧ rd l (i : Int) < (n : Int)
    · rw [if_pos ⟨c.1, Or.inl c.2⟩, if_pos ⟨c.1, Or.inl c.2⟩]
    · rw [if_neg (by omega), if_neg (by omega)]
  · by_cases c : 0 < rd l (j : Int) ∧ (rd l (j : Int) < (n : Int) ∨ (rd l (j : Int) = (n : Int) ∧ j < i))
    · rw [if_pos c, if_pos (by omega)]
    · rw [if_neg c, if_neg (by omega)]
theorem outS_next (l : List Int) (n : Nat) : outS l n l.length = outS l (n + 1) 0 := by
  unfold outS
  apply List.map_congr_left
  intro j hj
  have := List.mem_range.1 hj
  by_cases c : 0 < rd l (j : Int) ∧ rd l (j : Int) < ((n + 1 : Nat) : Int)
  · rw [if_pos (by omega), if_pos ⟨c.1, Or.inl c.2⟩]
  · rw [if_neg (by omega), if_neg (by omega)]
theorem outS_start (l : List Int) : outS l 1 0 = List.replicate l.length 0 := by
  unfold outS
  apply List.ext_getElem
  · simp
  · intro j h1 h2
    simp only [List.getElem_map, List.getElem_range, List.getElem_replicate]
    rw [if_neg (by omega)]
theorem outS_end (l : List Int) (h : okL l = true) : outS l 16 0 = codesI l l.length := by
  unfold outS codesI
  apply List.map_congr_left
  intro j hj
  have hj := List.mem_range.1 hj
  have hm := okL_mem h _ (rd_mem l j hj)
  by_cases c : 0 < rd l (j : Int)
  · rw [if_pos ⟨c, Or.inl (by omega)⟩, if_pos c]
  · rw [if_neg (fun h => c h.1), if_neg c]
theorem codes_inner (l : List Int) (hl : l.length ≤ 288) (n : Nat) (hn : 0 < n) (hn2 : n ≤ 15) (R : List Int × Bool) (hR : Ev (fun k => spec_CodesOf.l0 k l (outS l n l.length) ((firstN l n + cntN l n : Nat) : Int) ((n + 1 : Nat) : Int)) R) (d : Nat) : ∀ i : Nat, i + d = l.length →
    Ev (fun k => spec_CodesOf.l1 k l (outS l n i) ((firstN l n + rankN l n i : Nat) : Int) (n : Int) (i : Int)) R := by
  induction d with
  | zero =>
    intro i h
    obtain rfl : i = l.length := by omega
    rw [rankN_all, ← cntN_pos l n hn]
    refine Ev.step (fun k => ?_) hR
    rw [spec_CodesOf.l1, if_neg (by omega), w64_id (x := (n : Int) + 1) (by omega) (by omega)]
    rfl
  | succ d ih =>
    intro i h
    have g := ih (i + 1) (by omega)
    have hb := firstB l (by omega) n hn2
    have hr := rank_le l n i
    by_cases c : rd l (i : Int) = (n : Int)
    · rw [← outS_set l n i hn (by omega) c, rankN, if_pos c] at g
      refine Ev.step (fun k => ?_) g
      rw [spec_CodesOf.l1, if_pos (by omega), if_pos (by omega), if_pos c, if_pos (by rw [outS_len]; omega), Int.toNat_natCast, w64_id (x := ((firstN l n + rankN l n i : Nat) : Int) + 1) (by omega) (by omega), w64_id (x := (i : Int) + 1) (by omega) (by omega)]
      have e1 : ((firstN l n + rankN l n i : Nat) : Int) + 1 = ((firstN l n + (rankN l n i + 1) : Nat) : Int) := by omega
      rw [e1]
      rfl
    · rw [outS_same l n i c, rankN, if_neg c] at g
      refine Ev.step (fun k => ?_) g
      rw [spec_CodesOf.l1, if_pos (by omega), if_pos (by omega), if_neg c, w64_id (x := (i : Int) + 1) (by omega) (by omega)]
      rfl
theorem codes_outer (l : List Int) (hl : l.length ≤ 288) (ho : okL l = true) (d : Nat) : ∀ m : Nat, m + d = 15 →
    Ev (fun k => spec_CodesOf.l0 k l (outS l (m + 1) 0) ((firstN l m + cntN l m : Nat) : Int) ((m + 1 : Nat) : Int)) (codesI l l.length, true) := by
  induction d with
  | zero =>
    intro m h
    obtain rfl : m = 15 := by omega
    refine ev_ret (fun k => ?_)
    rw [spec_CodesOf.l0, if_neg (by omega), outS_end l ho]
  | succ d ih =>
    intro m h
    have g := ih (m + 1) (by omega)
    rw [← outS_next] at g
    have g2 := codes_inner l hl (m + 1) (by omega) (by omega) _ g l.length 0 (by omega)
    have hb := firstB l (by omega) m (by omega)
    have hc := cnt_le l m
    rw [rankN, Nat.add_zero, firstN] at g2
    refine Ev.step (fun k => ?_) g2
    rw [spec_CodesOf.l0, if_pos (by omega), w64_id (x := 2 * ((firstN l m + cntN l m : Nat) : Int)) (by omega) (by omega)]
    rfl
/-- The codes of any lengths. -/
def codesR (l : List Int) : List Int × Bool := if hasC l = true then (codesI l l.length, true) else ([], false)
theorem codes_spec (l : List Int) : Ev (fun k => spec_CodesOf.f k l) (codesR l) := by
  have g := kind_spec l
  have hj : ∀ x : Bool, x = !hasC l → Ev (fun k => spec_CodesOf.j0 k l x) (codesR l) := by
    intro x hx
    unfold codesR
    by_cases h : hasC l = true
    · rw [if_pos h]
      obtain ⟨h1, h2, h3⟩ := hasC_ok h
      have e := codes_outer l h2 h1 15 0 (by omega)
      rw [show firstN l 0 + cntN l 0 = 0 by rfl, outS_start] at e
      have hx2 : x = false := by rw [hx, h]; rfl
      rw [hx2]
      refine Ev.step (fun k => ?_) e
      rw [spec_CodesOf.j0, if_neg (by decide), if_pos (by omega), Int.toNat_natCast, if_pos (by omega)]
      rfl
    · rw [if_neg h]
      have hx2 : x = true := by rw [hx]; simpa using h
      rw [hx2]
      exact ev_ret (fun k => by rw [spec_CodesOf.j0, if_pos rfl])
  by_cases h0 : kindL l = 0
  · have e := hj true (by unfold hasC; rw [h0]; rfl)
    refine ev_use g (fun k hk => ?_) e
    unfold spec_CodesOf.f
    have hk : spec_CodeKind.f k l = _ := hk
    rw [hk, Option.bind_some, if_pos h0]
  · have e := hj (kindL l == 5) (by
      unfold hasC
      have : (kindL l != 0) = true := by simpa using h0
      rw [this, Bool.true_and]
      cases h5 : (kindL l == 5) <;> simp [bne, h5])
    refine ev_use g (fun k hk => ?_) e
    unfold spec_CodesOf.f
    have hk : spec_CodeKind.f k l = _ := hk
    rw [hk, Option.bind_some, if_neg h0]
theorem codesR_len (l : List Int) : (codesR l).1.length ≤ l.length := by
  unfold codesR
  split
  · rw [codesI_len]; exact Nat.le_refl _
  · exact Nat.zero_le _

/-- Bit i of a text. -/
def bitB (s : ByteArray) (i : Int) : Int := bt s (i / 8) / 2 ^ (i % 8).toNat % 2
theorem bitB_01 (s : ByteArray) (i : Int) : bitB s i = 0 ∨ bitB s i = 1 := by unfold bitB; omega
theorem bitAt_is (s : ByteArray) (hs : s.size ≤ 1048576) (i : Int) (h0 : 0 ≤ i) (h1 : i < 8 * s.size) : impl_bitAt.f s i = some (bitB s i) := by
  unfold impl_bitAt.f bitB
  have b0 := bt_lo s (i / 8)
  have b1 := bt_hi s (i / 8)
  rw [tdiv_nn _ h0, tmod_nn _ h0, w64_id (x := i / 8) (by omega) (by omega), if_pos (by omega), if_pos (by omega), if_pos (by omega)]
  have e : shr .u8 (bt s (i / 8)) (i % 8) = bt s (i / 8) / 2 ^ (i % 8).toNat := (shr_small rfl (by simp [IntKind.bits]; omega)).symm
  have hp : (1 : Int) ≤ 2 ^ (i % 8).toNat := by have : (0 : Int) < 2 ^ (i % 8).toNat := Int.pow_pos (by omega); omega
  have q0 : 0 ≤ bt s (i / 8) / 2 ^ (i % 8).toNat := Int.ediv_nonneg b0 (by omega)
  have q1 : bt s (i / 8) / 2 ^ (i % 8).toNat ≤ bt s (i / 8) := Int.ediv_le_self _ b0
  have m : Go.bits .and .u8 (bt s (i / 8) / 2 ^ (i % 8).toNat) 1 = bt s (i / 8) / 2 ^ (i % 8).toNat % 2 := bits_mask .u8 8 (by decide) wraps_u8 1 (by decide) _ q0 (by omega)
  rw [e, m, w64_id (by omega) (by omega)]
theorem or_swap (x y : Int) : Go.bits .or .i64 x y = Go.bits .or .i64 y x := by
  unfold Go.bits
  simp only []
  rw [BitVec.or_comm]

theorem take1 (s : ByteArray) (hs : s.size ≤ 12000) (a : Nat) (ha : a < 8 * s.size) : Ev (fun k => spec_TakeBits.f k s (a : Int) 1) (bitB s a, s, ((a + 1 : Nat) : Int), true) := by
  have w8 : wrap64 (8 * (s.size : Int)) = 8 * s.size := w64_id (by omega) (by omega)
  have hw : wrap64 (8 * (s.size : Int) - 1) = 8 * s.size - 1 := w64_id (by omega) (by omega)
  have hd : decide ((a : Int) > 8 * (s.size : Int) - 1) = false := decide_eq_false (by omega)
  have b0 := bt_lo s ((a : Int) / 8)
  have b1 := bt_hi s ((a : Int) / 8)
  have A := pow_at ((a : Int) % 8) (by omega) (by omega)
  have B := pow_is 0 (by omega)
  have hq : (1 : Int) ≤ 2 ^ ((a : Int) % 8).toNat := by have : (0 : Int) < 2 ^ ((a : Int) % 8).toNat := Int.pow_pos (by omega); omega
  have q0 : 0 ≤ bt s ((a : Int) / 8) / 2 ^ ((a : Int) % 8).toNat := Int.ediv_nonneg b0 (by omega)
  have q1 : bt s ((a : Int) / 8) / 2 ^ ((a : Int) % 8).toNat ≤ bt s ((a : Int) / 8) := Int.ediv_le_self _ b0
  have e1 : Ev (fun k => spec_TakeBits.l0 k 1 (bitB s a) 1 s (a : Int)) (bitB s a, s, ((a + 1 : Nat) : Int), true) := ev_ret (fun k => by
    rw [spec_TakeBits.l0, if_neg (by omega), w64_id (x := (a : Int) + 1) (by omega) (by omega)]
    rfl)
  have hbb := bitB_01 s (a : Int)
  have e0 : Ev (fun k => spec_TakeBits.l0 k 1 0 0 s (a : Int)) (bitB s a, s, ((a + 1 : Nat) : Int), true) := by
    obtain ⟨K1, A⟩ := A
    obtain ⟨K2, B⟩ := B
    obtain ⟨K3, e1⟩ := e1
    refine ⟨max (max K1 K2) K3 + 1, fun k hk => ?_⟩
    obtain ⟨k, rfl⟩ : ∃ m, k = m + 1 := ⟨k - 1, by omega⟩
    have A := A k (by omega)
    have B := B k (by omega)
    have e1 := e1 k (by omega)
    have w0 : wrap64 ((a : Int) + 0) = (a : Int) := by rw [Int.add_zero]; exact w64_id (by omega) (by omega)
    have B' : spec_l01Pow.f k 0 = some (2 ^ 0) := B
    show spec_TakeBits.l0 (k + 1) 1 0 0 s (a : Int) = _
    rw [spec_TakeBits.l0, if_pos (by omega), w0, tdiv_nn _ (a := (a : Int)) (by omega), tmod_nn _ (a := (a : Int)) (by omega), w64_id (x := (a : Int) / 8) (by omega) (by omega), if_pos (by omega), if_pos (by omega)]
    simp only [A, B', Option.bind_some]
    rw [if_neg (by omega), w64_id (x := bt s ((a : Int) / 8)) (by omega) (by omega), tdiv_nn _ b0, w64_id (x := bt s ((a : Int) / 8) / 2 ^ ((a : Int) % 8).toNat) (by omega) (by omega), tmod_nn _ q0]
    show spec_TakeBits.l0 k 1 (wrap64 (0 + wrap64 (bitB s (a : Int) * 2 ^ 0))) (wrap64 ((0 : Int) + 1)) s (a : Int) = _
    have e : wrap64 (0 + wrap64 (bitB s (a : Int) * 2 ^ 0)) = bitB s a := by
      rw [w64_id (x := bitB s (a : Int) * 2 ^ 0) (by omega) (by omega), w64_id (by omega) (by omega)]
      omega
    have e' : wrap64 ((0 : Int) + 1) = 1 := w64_id (by omega) (by omega)
    rw [e, e']
    exact e1
  have s2 : Ev (fun k => spec_TakeBits.j0 k 1 false s (a : Int)) (bitB s a, s, ((a + 1 : Nat) : Int), true) := Ev.step (fun k => by rw [spec_TakeBits.j0, if_neg (by decide)]) e0
  refine Ev.congr (fun k => ?_) s2
  unfold spec_TakeBits.f
  rw [in_spec, decide_eq_true (⟨by omega, by omega⟩ : (0 : Int) ≤ 1 ∧ (1 : Int) ≤ 24), Option.bind_some, if_pos rfl, if_neg (by omega), if_neg (by omega), w8, hw, hd]
theorem take1_no (s : ByteArray) (hs : s.size ≤ 1048576) (a : Int) (h : s.size > 12000 ∨ a < 0 ∨ a ≥ 8 * (s.size : Int)) : Ev (fun k => spec_TakeBits.f k s a 1) (0, (⟨#[]⟩ : ByteArray), 0, false) := by
  have s1 : Ev (fun k => spec_TakeBits.j0 k 1 true s a) (0, (⟨#[]⟩ : ByteArray), 0, false) := ev_ret (fun k => by rw [spec_TakeBits.j0, if_pos rfl])
  have w8 : wrap64 (8 * (s.size : Int)) = 8 * s.size := w64_id (by omega) (by omega)
  refine Ev.congr (fun k => ?_) s1
  unfold spec_TakeBits.f
  rw [in_spec, decide_eq_true (⟨by omega, by omega⟩ : (0 : Int) ≤ 1 ∧ (1 : Int) ≤ 24), Option.bind_some, if_pos rfl]
  by_cases h1 : (s.size : Int) > 12000
  · rw [if_pos h1]
  · rw [if_neg h1]
    by_cases h2 : a < 0
    · rw [if_pos h2]
    · rw [if_neg h2, w8, w64_id (x := 8 * (s.size : Int) - 1) (by omega) (by omega), decide_eq_true (by omega)]
/-- What a look at all codes tells behind n bits x: the symbol of just these, or else whether a code goes on. -/
def scanS (l : List Int) (n x : Nat) : Nat → Nat → Bool → Option Nat × Bool
  | 0, _, b => (none, b)
  | d + 1, i, b => if rd l (i : Int) = 0 ∨ rd l (i : Int) < (n : Int) then scanS l n x d (i + 1) b else if codeN l i / 2 ^ ((rd l (i : Int)).toNat - n) = x then (if rd l (i : Int) = (n : Int) then (some i, b) else scanS l n x d (i + 1) true) else scanS l n x d (i + 1) b
theorem scan_props (l : List Int) (n x : Nat) (ho : ∀ y ∈ l, 0 ≤ y ∧ y ≤ 15) : ∀ (d i : Nat) (b : Bool), i + d = l.length →
    (∀ j b', scanS l n x d i b = (some j, b') → i ≤ j ∧ j < l.length ∧ 0 < n ∧ rd l (j : Int) = (n : Int) ∧ codeN l j = x) ∧
    (∀ b', scanS l n x d i b = (none, b') → (∀ j, i ≤ j → j < l.length → 0 < n → rd l (j : Int) = (n : Int) → codeN l j ≠ x) ∧ (b' = true ↔ b = true ∨ ∃ j, i ≤ j ∧ j < l.length ∧ rd l (j : Int) > (n : Int) ∧ codeN l j / 2 ^ ((rd l (j : Int)).toNat - n) = x))
  | 0, i, b, h => by
    refine ⟨fun j b' e => ?_, fun b' e => ?_⟩
    · cases e
    · have e1 : b = b' := by injection e
      subst e1
      refine ⟨fun j h1 h2 => by omega, ⟨fun h => Or.inl h, ?_⟩⟩
      rintro (h | ⟨j, h1, h2, _⟩)
      · exact h
      · omega
  | d + 1, i, b, h => by
    have hm := ho _ (rd_mem l i (by omega))
    rw [scanS]
    by_cases c : rd l (i : Int) = 0 ∨ rd l (i : Int) < (n : Int)
    · rw [if_pos c]
      obtain ⟨p1, p2⟩ := scan_props l n x ho d (i + 1) b (by omega)
      refine ⟨fun j b' e => ?_, fun b' e => ?_⟩
      · obtain ⟨q1, q2⟩ := p1 j b' e
        exact ⟨by omega, q2⟩
      · obtain ⟨q1, q2⟩ := p2 b' e
        refine ⟨fun j h1 h2 h3 h4 => ?_, ?_⟩
        · by_cases hj : j = i
          · subst hj; omega
          · exact q1 j (by omega) h2 h3 h4
        · rw [q2]
          constructor
          · rintro (h1 | ⟨j, h1, h2⟩)
            · exact Or.inl h1
            · exact Or.inr ⟨j, by omega, h2⟩
          · rintro (h1 | ⟨j, h1, h2, h3, h4⟩)
            · exact Or.inl h1
            · by_cases hj : j = i
              · subst hj; omega
              · exact Or.inr ⟨j, by omega, h2, h3, h4⟩
    · rw [if_neg c]
      by_cases c2 : codeN l i / 2 ^ ((rd l (i : Int)).toNat - n) = x
      · rw [if_pos c2]
        by_cases c3 : rd l (i : Int) = (n : Int)
        · rw [if_pos c3]
          refine ⟨fun j b' e => ?_, fun b' e => ?_⟩
          rotate_left
          · cases e
          injection e with e1 e2
          injection e1 with e1
          subst e1
          have : (rd l (i : Int)).toNat - n = 0 := by omega
          rw [this, Nat.pow_zero, Nat.div_one] at c2
          exact ⟨Nat.le_refl _, by omega, by omega, c3, c2⟩
        · rw [if_neg c3]
          obtain ⟨p1, p2⟩ := scan_props l n x ho d (i + 1) true (by omega)
          refine ⟨fun j b' e => ?_, fun b' e => ?_⟩
          · obtain ⟨q1, q2⟩ := p1 j b' e
            exact ⟨by omega, q2⟩
          · obtain ⟨q1, q2⟩ := p2 b' e
            refine ⟨fun j h1 h2 h3 h4 => ?_, ?_⟩
            · by_cases hj : j = i
              · subst hj; exact absurd h4 c3
              · exact q1 j (by omega) h2 h3 h4
            · have ht : b' = true := q2.2 (Or.inl rfl)
              rw [ht]
              exact ⟨fun _ => Or.inr ⟨i, Nat.le_refl _, by omega, by omega, c2⟩, fun _ => rfl⟩
      · rw [if_neg c2]
        obtain ⟨p1, p2⟩ := scan_props l n x ho d (i + 1) b (by omega)
        refine ⟨fun j b' e => ?_, fun b' e => ?_⟩
        · obtain ⟨q1, q2⟩ := p1 j b' e
          exact ⟨by omega, q2⟩
        · obtain ⟨q1, q2⟩ := p2 b' e
          refine ⟨fun j h1 h2 h3 h4 => ?_, ?_⟩
          · by_cases hj : j = i
            · subst hj
              intro h5
              have : (rd l (j : Int)).toNat - n = 0 := by omega
              rw [this, Nat.pow_zero, Nat.div_one] at c2
              exact c2 h5
            · exact q1 j (by omega) h2 h3 h4
          · rw [q2]
            constructor
            · rintro (h1 | ⟨j, h1, h2⟩)
              · exact Or.inl h1
              · exact Or.inr ⟨j, by omega, h2⟩
            · rintro (h1 | ⟨j, h1, h2, h3, h4⟩)
              · exact Or.inl h1
              · by_cases hj : j = i
                · subst hj; exact absurd h4 c2
                · exact Or.inr ⟨j, by omega, h2, h3, h4⟩
theorem codesI_rd (l : List Int) (i : Nat) (h : i < l.length) (h0 : 0 < rd l (i : Int)) : rd (codesI l l.length) (i : Int) = ((codeN l i : Nat) : Int) := by
  have e : (codesI l l.length)[i]? = some ((codeN l i : Nat) : Int) := by
    unfold codesI
    rw [List.getElem?_map, List.getElem?_range h]
    simp only [Option.map_some, if_pos h0]
  unfold rd
  rw [Int.toNat_natCast, List.getD_eq_getElem?_getD, e]
  rfl
theorem codeB (l : List Int) (hl : l.length ≤ 288) (i : Nat) (hi : i < l.length) (hm : rd l (i : Int) ≤ 15) : codeN l i ≤ 65536001000 := by
  unfold codeN
  have h1 := firstB l (by omega) (rd l (i : Int)).toNat (by omega)
  have h2 := rank_le l (rd l (i : Int)).toNat i
  omega
/-- One look over all codes. -/
theorem take_scan (l : List Int) (hl : l.length ≤ 288) (ho : ∀ y ∈ l, 0 ≤ y ∧ y ≤ 15) (s : ByteArray) (a : Int) (n x : Nat) (hn : n ≤ 15) (hx : x ≤ 100000) (R : Int × ByteArray × Int × Int) (d : Nat) : ∀ (i : Nat) (b : Bool), i + d = l.length →
    (∀ j b', scanS l n x d i b = (some j, b') → R = ((j : Int), s, a, 0)) →
    (scanS l n x d i b = (none, false) → R = (0, ⟨#[]⟩, 0, 1)) →
    (scanS l n x d i b = (none, true) → Ev (fun k => (spec_TakeBits.f k s a 1).bind fun bt => if bt.2.2.2 = true then spec_l03Take.l0 k l (codesI l l.length) (wrap64 ((wrap64 (2 * (x : Int))) + bt.1)) (wrap64 ((n : Int) + 1)) bt.2.1 bt.2.2.1 else some (0, (⟨#[]⟩ : ByteArray), 0, 2)) R) →
    Ev (fun k => spec_l03Take.l1 k l (codesI l l.length) (x : Int) (n : Int) b (i : Int) s a) R := by
  induction d with
  | zero =>
    intro i b h hA hB hC
    cases b with
    | false =>
      rw [hB rfl]
      exact ev_ret (fun k => by rw [spec_l03Take.l1, if_neg (by omega), if_neg (by decide)])
    | true =>
      refine Ev.step (fun k => ?_) (hC rfl)
      rw [spec_l03Take.l1, if_neg (by omega), if_pos rfl]
  | succ d ih =>
    intro i b h hA hB hC
    have hm := ho _ (rd_mem l i (by omega))
    rw [scanS] at hA hB hC
    have w1 : wrap64 ((i : Int) + 1) = ((i + 1 : Nat) : Int) := w64_id (by omega) (by omega)
    by_cases c : rd l (i : Int) = 0 ∨ rd l (i : Int) < (n : Int)
    · rw [if_pos c] at hB hC
      simp only [if_pos c] at hA
      have g := ih (i + 1) b (by omega) hA hB hC
      have g2 : Ev (fun k => spec_l03Take.j2 k l (codesI l l.length) (x : Int) (n : Int) b (i : Int) true s a) R := Ev.step (fun k => by rw [spec_l03Take.j2, if_pos rfl, w1]) g
      refine Ev.step (fun k => ?_) g2
      rw [spec_l03Take.l1, if_pos (by omega), if_pos (by omega)]
      by_cases c0 : rd l (i : Int) = 0
      · rw [if_pos c0]
      · rw [if_neg c0, if_pos (by omega)]
    · rw [if_neg c] at hB hC
      simp only [if_neg c] at hA
      have P := pow_at (rd l (i : Int) - (n : Int)) (by omega) (by omega)
      have et : (rd l (i : Int) - (n : Int)).toNat = (rd l (i : Int)).toNat - n := by omega
      rw [et] at P
      have hp : (0 : Int) < 2 ^ ((rd l (i : Int)).toNat - n) := Int.pow_pos (by omega)
      have hcb := codeB l hl i (by omega) hm.2
      have hcr := codesI_rd l i (by omega) (by omega)
      have hdiv : wrap64 (Int.tdiv ((codeN l i : Nat) : Int) (2 ^ ((rd l (i : Int)).toNat - n))) = ((codeN l i / 2 ^ ((rd l (i : Int)).toNat - n) : Nat) : Int) := by
        rw [tdiv_nn _ (by omega)]
        have e : ((codeN l i : Nat) : Int) / 2 ^ ((rd l (i : Int)).toNat - n) = ((codeN l i / 2 ^ ((rd l (i : Int)).toNat - n) : Nat) : Int) := by
          rw [Int.natCast_ediv, Int.natCast_pow]
          rfl
        have le := Nat.div_le_self (codeN l i) (2 ^ ((rd l (i : Int)).toNat - n))
        rw [e]
        generalize codeN l i / 2 ^ ((rd l (i : Int)).toNat - n) = z at le ⊢
        exact w64_id (by omega) (by omega)
      have hw : wrap64 (rd l (i : Int) - (n : Int)) = rd l (i : Int) - (n : Int) := w64_id (by omega) (by omega)
      have step : ∀ y : Bool, y = decide (codeN l i / 2 ^ ((rd l (i : Int)).toNat - n) ≠ x) → Ev (fun k => spec_l03Take.j2 k l (codesI l l.length) (x : Int) (n : Int) b (i : Int) y s a) R → Ev (fun k => spec_l03Take.l1 k l (codesI l l.length) (x : Int) (n : Int) b (i : Int) s a) R := by
        intro y hy g
        refine ev_use_step P (fun k hk => ?_) g
        rw [spec_l03Take.l1, if_pos (by omega), if_pos (by omega), if_neg (by omega), if_neg (by omega), if_pos (by rw [codesI_len]; omega), hw, hk, Option.bind_some, if_neg (by omega), hcr, hdiv]
        have e : (((codeN l i / 2 ^ ((rd l (i : Int)).toNat - n) : Nat) : Int) != (x : Int)) = y := by
          rw [hy]
          generalize codeN l i / 2 ^ ((rd l (i : Int)).toNat - n) = z
          rw [Bool.eq_iff_iff]
          simp
          omega
        rw [e]
      by_cases c2 : codeN l i / 2 ^ ((rd l (i : Int)).toNat - n) = x
      · rw [if_pos c2] at hB hC
        simp only [if_pos c2] at hA
        refine step false (by simp [c2]) ?_
        by_cases c3 : rd l (i : Int) = (n : Int)
        · rw [if_pos c3] at hB hC
          simp only [if_pos c3] at hA
          rw [hA i b rfl]
          exact ev_ret (fun k => by rw [spec_l03Take.j2, if_neg (by decide), if_pos (by omega), if_pos (by omega), if_pos c3])
        · rw [if_neg c3] at hB hC
          simp only [if_neg c3] at hA
          refine Ev.step (fun k => ?_) (ih (i + 1) true (by omega) hA hB hC)
          rw [spec_l03Take.j2, if_neg (by decide), if_pos (by omega), if_pos (by omega), if_neg c3, w1]
      · rw [if_neg c2] at hB hC
        simp only [if_neg c2] at hA
        refine step true (by simp [c2]) ?_
        refine Ev.step (fun k => ?_) (ih (i + 1) b (by omega) hA hB hC)
        rw [spec_l03Take.j2, if_pos rfl, w1]

theorem syms_pre (l : List Int) (m : Nat) : ∀ d, ∃ t, symsTo l (m + d) = symsTo l m ++ t
  | 0 => ⟨[], by simp⟩
  | d + 1 => by
    obtain ⟨t, e⟩ := syms_pre l m d
    exact ⟨t ++ symsAt l (m + d + 1) l.length, by rw [show m + (d + 1) = m + d + 1 by omega, symsTo, e, List.append_assoc]⟩
/-- The symbol of a code that is there. -/
theorem match_sym (l : List Int) (n x : Nat) (h0 : 0 < n) (hn : n ≤ 15) (h1 : firstN l n ≤ x) (h2 : x < firstN l n + cntN l n) :
    ∃ i, i < l.length ∧ rd l (i : Int) = (n : Int) ∧ codeN l i = x ∧ rd (symsTo l 15) (((symsTo l (n - 1)).length + (x - firstN l n) : Nat) : Int) = (i : Int) := by
  rw [cntN_pos l n h0, ← rankN_all, ← symsAt_len] at h2
  obtain ⟨i, i1, i2, i3, i4⟩ := symsAt_get l n l.length (x - firstN l n) (by omega)
  refine ⟨i, i1, i2, ?_, ?_⟩
  · unfold codeN
    rw [i2, Int.toNat_natCast, i3]
    omega
  · obtain ⟨t, e⟩ := syms_pre l n (15 - n)
    rw [show n + (15 - n) = 15 by omega] at e
    obtain ⟨m, rfl⟩ : ∃ m, n = m + 1 := ⟨n - 1, by omega⟩
    have e5 : symsTo l (m + 1) = symsTo l m ++ symsAt l (m + 1) l.length := rfl
    rw [e5] at e
    unfold rd
    rw [Int.toNat_natCast, e, Nat.add_sub_cancel, List.getD_eq_getElem?_getD, List.append_assoc, List.getElem?_append_right (by omega), Nat.add_sub_cancel_left, List.getElem?_append_left (by omega), List.getElem?_eq_getElem (by omega), i4]
    rfl
theorem code_inj (l : List Int) (i j n : Nat) (hi : i < l.length) (hj : j < l.length) (h0 : 0 < n) (ei : rd l (i : Int) = (n : Int)) (ej : rd l (j : Int) = (n : Int)) (h : codeN l i = codeN l j) : i = j := by
  by_cases hne : i = j
  · exact hne
  · have := code_apart l i j n n hi hj h0 (Nat.le_refl _) ei ej hne
    rw [Nat.sub_self, Nat.pow_zero, Nat.div_one] at this
    exact absurd h.symm this
theorem takeI_none (l : List Int) (s : ByteArray) (g : Int → Option Int) (hg : ∀ a : Nat, a < 8 * s.size → ∃ q, g (a : Int) = some q ∧ 0 ≤ q ∧ q ≤ 1) : ∀ (d n x y a : Nat), 1 ≤ n → n + d = 16 →
    (∀ i, i < l.length → rd l (i : Int) ≥ (n : Int) → codeN l i / 2 ^ ((rd l (i : Int)).toNat - (n - 1)) ≠ x) → takeI l s g d n x y a = some (0, ⟨#[]⟩, 0, false)
  | 0, n, x, y, a, _, _, _ => rfl
  | d + 1, n, x, y, a, hn, hnd, h => by
    rw [takeI]
    by_cases ha : a < 8 * s.size
    · obtain ⟨q, e, q0, q1⟩ := hg a ha
      rw [if_pos ha, e, Option.bind_some, if_pos ⟨q0, q1⟩]
      have hno : ¬ (firstN l n ≤ 2 * x + q.toNat ∧ 2 * x + q.toNat < firstN l n + cntN l n) := by
        intro hm
        obtain ⟨i, i1, i2, i3, _⟩ := match_sym l n _ (by omega) (by omega) hm.1 hm.2
        refine h i i1 (by omega) ?_
        rw [i2, Int.toNat_natCast, show n - (n - 1) = 1 by omega, i3, Nat.pow_one]
        omega
      rw [if_neg hno]
      refine takeI_none l s g hg d (n + 1) _ _ _ (by omega) (by omega) (fun i hi hr hc => ?_)
      refine h i hi (by omega) ?_
      rw [Nat.add_sub_cancel] at hc
      have e2 : (rd l (i : Int)).toNat - (n - 1) = ((rd l (i : Int)).toNat - n) + 1 := by omega
      rw [e2, Nat.pow_succ, ← Nat.div_div_eq_div_mul, hc]
      omega
    · rw [if_neg ha]
/-- A spec's answer, as the program gives it. -/
def ansT (r : Int × ByteArray × Int × Int) : Int × ByteArray × Int × Bool := if r.2.2.2 = 0 then (r.1, r.2.1, r.2.2.1, true) else (0, ⟨#[]⟩, 0, false)
theorem take_l0 (l : List Int) (hl : l.length ≤ 288) (ho : ∀ y ∈ l, 0 ≤ y ∧ y ≤ 15) (s : ByteArray) (a : Int) (n x : Nat) (hn : n ≤ 15) (hx : x ≤ 100000) (R : Int × ByteArray × Int × Int)
    (hA : ∀ j b', scanS l n x l.length 0 false = (some j, b') → R = ((j : Int), s, a, 0))
    (hB : scanS l n x l.length 0 false = (none, false) → R = (0, ⟨#[]⟩, 0, 1))
    (hC : scanS l n x l.length 0 false = (none, true) → Ev (fun k => (spec_TakeBits.f k s a 1).bind fun bt => if bt.2.2.2 = true then spec_l03Take.l0 k l (codesI l l.length) (wrap64 ((wrap64 (2 * (x : Int))) + bt.1)) (wrap64 ((n : Int) + 1)) bt.2.1 bt.2.2.1 else some (0, (⟨#[]⟩ : ByteArray), 0, 2)) R) :
    Ev (fun k => spec_l03Take.l0 k l (codesI l l.length) (x : Int) (n : Int) s a) R := by
  have g := take_scan l hl ho s a n x hn hx R l.length 0 false (by omega) hA hB hC
  refine Ev.step (fun k => ?_) g
  rw [spec_l03Take.l0, if_pos (by omega)]
  rfl
theorem take_up (l : List Int) (hl : l.length ≤ 288) (ho : ∀ y ∈ l, 0 ≤ y ∧ y ≤ 15) (s : ByteArray) (m x a q : Nat) (hm : m ≤ 14) (hx : x ≤ 50000) (hq : bitB s (a : Int) = (q : Int)) (q1 : q ≤ 1)
    (T : Ev (fun k => spec_TakeBits.f k s (a : Int) 1) (bitB s a, s, ((a + 1 : Nat) : Int), true))
    (hsome : ∀ j b', scanS l m x l.length 0 false ≠ (some j, b')) (hbeg : scanS l m x l.length 0 false = (none, true)) (r : Int × ByteArray × Int × Int)
    (hr : Ev (fun k => spec_l03Take.l0 k l (codesI l l.length) ((2 * x + q : Nat) : Int) ((m + 1 : Nat) : Int) s ((a + 1 : Nat) : Int)) r) :
    Ev (fun k => spec_l03Take.l0 k l (codesI l l.length) (x : Int) (m : Int) s (a : Int)) r := by
  rw [hq] at T
  have e1 : ((2 * x + q : Nat) : Int) = wrap64 (wrap64 (2 * (x : Int)) + (q : Int)) := by
    rw [w64_id (x := 2 * (x : Int)) (by omega) (by omega), w64_id (by omega) (by omega)]
    omega
  have e2 : ((m + 1 : Nat) : Int) = wrap64 ((m : Int) + 1) := by
    rw [w64_id (by omega) (by omega)]
    omega
  rw [e1, e2] at hr
  clear e1 e2 hq
  have m15 : m ≤ 15 := by omega
  have x100 : x ≤ 100000 := by omega
  refine take_l0 l hl ho s a m x m15 x100 r (fun j b' e => absurd e (hsome j b')) (fun e => ?_) (fun _ => ?_)
  · rw [hbeg] at e
    cases e
  · generalize ((a + 1 : Nat) : Int) = a1 at T hr
    generalize (q : Int) = qi at T hr
    refine ev_use T (fun k hk => ?_) hr
    have hk : spec_TakeBits.f k s (a : Int) 1 = _ := hk
    rw [hk]
    rfl
theorem take_main (l : List Int) (hl : l.length ≤ 288) (ho : ∀ y ∈ l, 0 ≤ y ∧ y ≤ 15) (s : ByteArray) (hs : s.size ≤ 12000) : ∀ (d m x y a : Nat), m + d = 15 → x < 2 ^ m → y = (symsTo l m).length →
    (0 < m → ∀ i, i < l.length → rd l (i : Int) = (m : Int) → codeN l i ≠ x) →
    ∃ r, Ev (fun k => spec_l03Take.l0 k l (codesI l l.length) (x : Int) (m : Int) s (a : Int)) r ∧ takeI l s (fun a_ => impl_bitAt.f s a_) d (m + 1) x y a = some (ansT r) := by
  have hg : ∀ a : Nat, a < 8 * s.size → ∃ q, (fun a_ => impl_bitAt.f s a_) (a : Int) = some q ∧ 0 ≤ q ∧ q ≤ 1 := fun a ha => ⟨bitB s a, bitAt_is s (by omega) a (by omega) (by omega), by have := bitB_01 s a; omega, by have := bitB_01 s a; omega⟩
  intro d
  induction d with
  | zero =>
    intro m x y a h hx hy hno
    obtain rfl : m = 15 := by omega
    obtain ⟨p1, p2⟩ := scan_props l 15 x ho l.length 0 false (by omega)
    refine ⟨(0, ⟨#[]⟩, 0, 1), take_l0 l hl ho s a 15 x (by omega) (by omega) _ (fun j b' e => ?_) (fun _ => rfl) (fun e => ?_), rfl⟩
    · obtain ⟨_, q2, _, q4, q5⟩ := p1 j b' e
      exact absurd q5 (hno (by omega) j q2 q4)
    · rcases (p2 true e).2.1 rfl with h1 | ⟨j, _, h2, h3, _⟩
      · cases h1
      · have := ho _ (rd_mem l j h2)
        omega
  | succ d ih =>
    intro m x y a h hx hy hno
    have hp : 2 ^ m ≤ 2 ^ 14 := Nat.pow_le_pow_right (by omega) (by omega)
    obtain ⟨p1, p2⟩ := scan_props l m x ho l.length 0 false (by omega)
    have hsome : ∀ j b', scanS l m x l.length 0 false ≠ (some j, b') := fun j b' e => by
      obtain ⟨_, q2, q3, q4, q5⟩ := p1 j b' e
      exact hno q3 j q2 q4 q5
    by_cases hbeg : scanS l m x l.length 0 false = (none, true)
    · by_cases ha : a < 8 * s.size
      · have hb := bitB_01 s a
        obtain ⟨q, hq⟩ : ∃ q : Nat, bitB s (a : Int) = (q : Int) := ⟨(bitB s (a : Int)).toNat, by omega⟩
        have q1 : q ≤ 1 := by omega
        have T := take1 s hs a ha
        have hx2 : 2 * x + q < 2 ^ (m + 1) := by rw [Nat.pow_succ]; omega
        have hy2 : y + cntN l (m + 1) = (symsTo l (m + 1)).length := by rw [syms_split l (m + 1) (by omega), Nat.add_sub_cancel, hy]
        have bit : impl_bitAt.f s (a : Int) = some (q : Int) := by rw [bitAt_is s (by omega) a (by omega) (by omega), hq]
        have up : ∀ r, Ev (fun k => spec_l03Take.l0 k l (codesI l l.length) ((2 * x + q : Nat) : Int) ((m + 1 : Nat) : Int) s ((a + 1 : Nat) : Int)) r → Ev (fun k => spec_l03Take.l0 k l (codesI l l.length) (x : Int) (m : Int) s (a : Int)) r := fun r hr => take_up l hl ho s m x a q (by omega) (by omega) hq q1 T hsome hbeg r hr
        rw [takeI, if_pos ha, bit, Option.bind_some, if_pos ⟨by omega, by omega⟩, Int.toNat_natCast]
        obtain ⟨r1, r2⟩ := scan_props l (m + 1) (2 * x + q) ho l.length 0 false (by omega)
        have hp2 : 2 ^ (m + 1) ≤ 2 ^ 15 := Nat.pow_le_pow_right (by omega) (by omega)
        cases hsc : scanS l (m + 1) (2 * x + q) l.length 0 false with
        | mk o b' =>
          cases o with
          | some j =>
            obtain ⟨_, j2, j3, j4, j5⟩ := r1 j b' hsc
            have hcl := code_lt l j (m + 1) j2 j3 j4
            rw [j5] at hcl
            obtain ⟨i, i1, i2, i3, i4⟩ := match_sym l (m + 1) _ (by omega) (by omega) hcl.1 hcl.2
            obtain rfl : i = j := code_inj l i j (m + 1) i1 j2 (by omega) i2 j4 (by rw [i3, j5])
            refine ⟨((i : Int), s, ((a + 1 : Nat) : Int), 0), up _ ?_, ?_⟩
            · refine take_l0 l hl ho s ((a + 1 : Nat) : Int) (m + 1) (2 * x + q) (by omega) (by omega) _ (fun j2 b2 e => ?_) (fun e => ?_) (fun e => ?_)
              · have e' := hsc.symm.trans e
                rw [Prod.mk.injEq, Option.some.injEq] at e'
                rw [e'.1]
              · exact absurd (hsc.symm.trans e) (by simp)
              · exact absurd (hsc.symm.trans e) (by simp)
            · rw [if_pos hcl, hy]
              rw [Nat.add_sub_cancel] at i4
              rw [i4]
              rfl
          | none =>
            have hno2 : ∀ i, i < l.length → rd l (i : Int) = ((m + 1 : Nat) : Int) → codeN l i ≠ 2 * x + q := fun i hi he => (r2 b' hsc).1 i (Nat.zero_le _) hi (by omega) he
            have hnm : ¬ (firstN l (m + 1) ≤ 2 * x + q ∧ 2 * x + q < firstN l (m + 1) + cntN l (m + 1)) := by
              intro hm
              obtain ⟨i, i1, i2, i3, _⟩ := match_sym l (m + 1) _ (by omega) (by omega) hm.1 hm.2
              exact hno2 i i1 i2 i3
            obtain ⟨r, e1, e2⟩ := ih (m + 1) (2 * x + q) (y + cntN l (m + 1)) (a + 1) (by omega) hx2 hy2 (fun _ => hno2)
            rw [if_neg hnm]
            exact ⟨r, up r e1, e2⟩
      · refine ⟨(0, ⟨#[]⟩, 0, 2), take_l0 l hl ho s a m x (by omega) (by omega) _ (fun j b' e => absurd e (hsome j b')) (fun e => ?_) (fun _ => ?_), ?_⟩
        · rw [hbeg] at e
          cases e
        · refine ev_end (take1_no s (by omega) a (Or.inr (Or.inr (by omega)))) (fun k hk => ?_)
          have hk : spec_TakeBits.f k s (a : Int) 1 = _ := hk
          rw [hk, Option.bind_some, if_neg (by decide)]
        · rw [takeI, if_neg ha]
          rfl
    · have hnone : scanS l m x l.length 0 false = (none, false) := by
        cases hsc : scanS l m x l.length 0 false with
        | mk o b' =>
          cases o with
          | some j => exact absurd hsc (hsome j b')
          | none =>
            cases b' with
            | false => rfl
            | true => exact absurd hsc hbeg
      refine ⟨(0, ⟨#[]⟩, 0, 1), take_l0 l hl ho s a m x (by omega) (by omega) _ (fun j b' e => absurd e (hsome j b')) (fun _ => rfl) (fun e => absurd e hbeg), ?_⟩
      rw [takeI_none l s _ hg (d + 1) (m + 1) x y a (by omega) (by omega) (fun i hi hr hc => ?_)]
      · rfl
      · have := (p2 false hnone).2.2 (Or.inr ⟨i, Nat.zero_le _, hi, by omega, by rw [Nat.add_sub_cancel] at hc; exact hc⟩)
        cases this
/-- What TakeSymbol tells. -/
theorem takeSymbol_both (l : List Int) (hl : l.length ≤ 1048576) (s : ByteArray) (hs : s.size ≤ 1048576) (a : Int) (a0 : -9223372036854775808 ≤ a) (a1 : a ≤ 9223372036854775807) : ∃ r, Ev (fun k => spec_TakeSymbol.f k l s a) r ∧ impl_TakeSymbol.f l s a = some r := by
  have C := codes_spec l
  unfold impl_TakeSymbol.f
  rw [hasC_impl l hl, Option.bind_some]
  unfold takeF
  unfold codesR at C
  by_cases h : hasC l = true
  · obtain ⟨h1, h2, h3⟩ := hasC_ok h
    have ho := okL_mem h1
    rw [if_pos h] at C
    have fin : ∀ r, Ev (fun k => spec_l03Take.l0 k l (codesI l l.length) 0 0 s a) r → Ev (fun k => spec_TakeSymbol.f k l s a) (ansT r) := by
      intro r hr
      refine ev_end (ev_pair C hr) (fun k hk => ?_)
      obtain ⟨k1, k2⟩ := pair_some hk
      unfold spec_TakeSymbol.f spec_l03Take.f
      rw [k1, Option.bind_some, if_pos rfl, k2, Option.bind_some]
      unfold ansT
      split <;> rfl
    rw [if_pos h]
    by_cases hb : s.size > 12000 ∨ a < 0
    · rw [if_pos hb]
      obtain ⟨p1, p2⟩ := scan_props l 0 0 ho l.length 0 false (by omega)
      have hsome : ∀ j b', scanS l 0 0 l.length 0 false ≠ (some j, b') := fun j b' e => by
        obtain ⟨_, _, q3, _⟩ := p1 j b' e
        omega
      cases hsc : scanS l 0 0 l.length 0 false with
      | mk o b' =>
        cases o with
        | some j => exact absurd hsc (hsome j b')
        | none =>
          cases b' with
          | false =>
            refine ⟨_, fin (0, ⟨#[]⟩, 0, 1) (take_l0 l h2 ho s a 0 0 (by omega) (by omega) _ (fun j b' e => absurd e (hsome j b')) (fun _ => rfl) (fun e => by rw [hsc] at e; cases e)), rfl⟩
          | true =>
            refine ⟨_, fin (0, ⟨#[]⟩, 0, 2) (take_l0 l h2 ho s a 0 0 (by omega) (by omega) _ (fun j b' e => absurd e (hsome j b')) (fun e => by rw [hsc] at e; cases e) (fun _ => ?_)), rfl⟩
            refine ev_end (take1_no s hs a (by omega)) (fun k hk => ?_)
            have hk : spec_TakeBits.f k s a 1 = _ := hk
            rw [hk, Option.bind_some, if_neg (by decide)]
    · rw [if_neg hb, if_pos (by omega)]
      obtain ⟨A, rfl⟩ := Int.eq_ofNat_of_zero_le (show 0 ≤ a by omega)
      obtain ⟨r, e1, e2⟩ := take_main l h2 ho s (by omega) 15 0 0 0 A (by omega) (by decide) rfl (by omega)
      exact ⟨ansT r, fin r e1, e2⟩
  · rw [if_neg h] at C
    rw [if_neg h]
    refine ⟨_, ev_end C (fun k hk => ?_), rfl⟩
    have hk : spec_CodesOf.f k l = _ := hk
    show spec_TakeSymbol.f k l s a = _
    unfold spec_TakeSymbol.f
    rw [hk, Option.bind_some, if_neg (by decide)]

theorem FnExactTakeSymbol : laws_FnExactTakeSymbol.Pure := by
  intro l s a h1 h2 hw hs ha
  have ha := wf64 ha
  have hs' : s.size ≤ 9223372036854775807 := by unfold maxLen at hs; omega
  have w : wrap64 (1048576 - (s.size : Int)) = 1048576 - s.size := w64_id (by omega) (by omega)
  by_cases hb : (l.length : Int) > 1048576
  · exact ⟨0, by unfold laws_FnExactTakeSymbol.f; rw [if_pos hb]⟩
  by_cases hb2 : 1048576 - (s.size : Int) < 0
  · refine ⟨0, ?_⟩
    unfold laws_FnExactTakeSymbol.f laws_szBits.f
    rw [if_neg hb, w, if_pos hb2, Option.bind_some, if_pos (by omega)]
  · obtain ⟨KT, T⟩ := toIntS_is l (by omega)
    obtain ⟨⟨r1, r2, r3, r4⟩, ⟨KS, S⟩, I⟩ := takeSymbol_both l (by omega) s (by omega) a ha.1 ha.2
    obtain ⟨KL, EL⟩ := eqIntS_is l (by omega)
    refine ⟨KT + KS + KL + 1, ?_⟩
    generalize hk : KT + KS + KL = K
    have bb : (r4 != r4) = false := by simp
    have t1 : laws_toIntS.f (K + 1) l = _ := T (K + 1) (by omega)
    have t0 : laws_toIntS.f K l = _ := T K (by omega)
    have s1 : spec_TakeSymbol.f (K + 1) l s a = _ := S (K + 1) (by omega)
    have q0 : laws_eqIntS.f K l l = _ := EL K (by omega)
    unfold laws_FnExactTakeSymbol.f laws_szBits.f laws_toBits.f
    rw [if_neg hb, w, if_neg hb2, Option.bind_some, if_neg hb2, t1, Option.bind_some, Option.bind_some, s1, Option.bind_some, Option.bind_some, Option.bind_some, I, Option.bind_some, if_pos rfl]
    unfold laws_eqBits.f
    rw [if_pos rfl, if_pos rfl, Option.bind_some, if_pos rfl, bb, laws_FnExactTakeSymbol.j0, if_neg (by decide), t0, Option.bind_some, q0, Option.bind_some, if_pos rfl]

end Go.Proofs.Ytimomemkbcidnaa.Pure
