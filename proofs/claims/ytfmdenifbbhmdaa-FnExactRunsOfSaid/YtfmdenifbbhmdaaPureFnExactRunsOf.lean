/- The law FnExactRunsOf: for every input within the row's bounds the printed function answers true: what the program's function tells is what the law asks. Conditions: only the bounds that the row itself gives (sizes of strings and slices, ranges of the number kinds). -/
import Derived.Test.YtfmdenifbbhmdaaPFnExactRunsOfx4
namespace Go.Proofs.Ytfmdenifbbhmdaa.Pure
open Go.RowKit Go.Proofs.Ytfmdenifbbhmdaa.PFnExactRunsOf Go.Proofs.YtfmdenifbbhmdaaW.PrintWords Go.Proofs.YtfmdenifbbhmdaaW.PrintLast Go.Proofs.YtfmdenifbbhmdaaW.PrintMore
set_option linter.unusedVariables false
set_option linter.unusedSimpArgs false

theorem w64_id {x : Int} (h0 : -9223372036854775808 ≤ x) (h1 : x ≤ 9223372036854775807) : wrap64 x = x := by unfold wrap64; omega
theorem tmod_nn {a : Int} (b : Int) (h : 0 ≤ a) : Int.tmod a b = a % b := Int.tmod_eq_emod_of_nonneg h
theorem tdiv_nn {a : Int} (b : Int) (h : 0 ≤ a) : Int.tdiv a b = a / b := Int.tdiv_eq_ediv_of_nonneg h
theorem wf64 {n : Int} (h : (Lit.int .i64 n).wf = true) : -9223372036854775808 ≤ n ∧ n ≤ 9223372036854775807 := by
  simp [Lit.wf, IntKind.min, IntKind.max, IntKind.signed, IntKind.bits] at h
  omega
theorem wfu32 {n : Int} (h : (Lit.int .u32 n).wf = true) : 0 ≤ n ∧ n ≤ 4294967295 := by
  simp [Lit.wf, IntKind.min, IntKind.max, IntKind.signed, IntKind.bits] at h
  omega
theorem wraps64 (n : Int) (h0 : 0 ≤ n) (h1 : n < 2 ^ 63) : IntKind.i64.wrap n = n := by rw [IntKind.wrap_i64]; omega
theorem wrapsu32 (n : Int) (h0 : 0 ≤ n) (h1 : n < 2 ^ 32) : IntKind.u32.wrap n = n := by rw [IntKind.wrap_u32]; omega
/-- a | b of parts that do not meet, of an int. -/
theorem or64 (i : Nat) (x y : Int) (hx0 : 0 ≤ x) (hx : x % 2 ^ i = 0) (hx1 : x < 2 ^ 63) (hy0 : 0 ≤ y) (hy : y < 2 ^ i) (hy1 : y < 2 ^ 63) : Go.bits .or .i64 x y = x + y :=
  bits_join .i64 63 (by decide) wraps64 i x y hx0 hx hx1 hy0 hy hy1
theorem ev_ite_pos {α : Type} {c : Prop} [Decidable c] {f g : Nat → Option α} {r : α} (h : c) (k : Ev f r) : Ev (fun n => if c then f n else g n) r := Ev.congr (fun n => if_pos h) k
theorem ev_ite_neg {α : Type} {c : Prop} [Decidable c] {f g : Nat → Option α} {r : α} (h : ¬ c) (k : Ev g r) : Ev (fun n => if c then f n else g n) r := Ev.congr (fun n => if_neg h) k
/-- A callee without rounds that answers. -/
theorem ev_bind0 {α β : Type} {o : Option α} {f : Nat → α → Option β} {a : α} {r : β} (h : o = some a) (k : Ev (fun n => f n a) r) : Ev (fun n => o.bind (f n)) r := Ev.congr (fun n => by rw [h]; rfl) k
theorem bt_lo (s : ByteArray) (i : Int) : 0 ≤ bt s i := (bt_range s i).1
theorem bt_hi (s : ByteArray) (i : Int) : bt s i ≤ 255 := (bt_range s i).2
/-- A callee that answers from some number of rounds on, used. -/
theorem ev_use {α β : Type} {g : Nat → Option α} {a : α} {F G : Nat → Option β} {r : β} (e : Ev g a) (h : ∀ k, g k = some a → F k = G k) (c : Ev G r) : Ev F r := by
  obtain ⟨K, e⟩ := e
  obtain ⟨K', c⟩ := c
  exact ⟨max K K', fun n hn => (h n (e n (by omega))).trans (c n (by omega))⟩
theorem ev_use_step {α β : Type} {g : Nat → Option α} {a : α} {F G : Nat → Option β} {r : β} (e : Ev g a) (h : ∀ k, g k = some a → F (k + 1) = G k) (c : Ev G r) : Ev F r := by
  obtain ⟨K, e⟩ := e
  obtain ⟨K', c⟩ := c
  refine ⟨max K K' + 1, fun n hn => ?_⟩
  obtain ⟨m, rfl⟩ : ∃ m, n = m + 1 := ⟨n - 1, by omega⟩
  exact (h m (e m (by omega))).trans (c m (by omega))
theorem ev_end {α β : Type} {g : Nat → Option α} {a : α} {F : Nat → Option β} {r : β} (e : Ev g a) (h : ∀ k, g k = some a → F k = some r) : Ev F r := by
  obtain ⟨K, e⟩ := e
  exact ⟨K, fun n hn => h n (e n hn)⟩
theorem ev_two {α β : Type} {g : Nat → Option α} {h : Nat → Option β} {a : α} {b : β} (e : Ev g a) (f : Ev h b) : ∃ k, g k = some a ∧ h k = some b := by
  obtain ⟨K, e⟩ := e
  obtain ⟨K', f⟩ := f
  exact ⟨max K K', e _ (by omega), f _ (by omega)⟩
theorem ev_ret {α : Type} {F : Nat → Option α} {r : α} (h : ∀ k, F (k + 1) = some r) : Ev F r := ⟨1, fun n hn => by obtain ⟨m, rfl⟩ : ∃ m, n = m + 1 := ⟨n - 1, by omega⟩; exact h m⟩

theorem in_spec (a b c : Int) : spec_l01In.f a b c = some (decide (b ≤ a ∧ a ≤ c)) := by
  unfold spec_l01In.f
  split
  · rename_i h
    have e : (decide (a ≤ c)) = decide (b ≤ a ∧ a ≤ c) := decide_eq_decide.mpr ⟨fun h' => ⟨h, h'⟩, fun h' => h'.2⟩
    rw [e]
  · rename_i h
    have e : (decide (b ≤ a ∧ a ≤ c)) = false := decide_eq_false fun h' => h h'.1
    rw [e]

theorem in_impl (a b c : Int) : impl_within.f a b c = some (decide (b ≤ a ∧ a ≤ c)) := by
  unfold impl_within.f
  split
  · rename_i h
    have e : (decide (a ≤ c)) = decide (b ≤ a ∧ a ≤ c) := decide_eq_decide.mpr ⟨fun h' => ⟨h, h'⟩, fun h' => h'.2⟩
    rw [e]
  · rename_i h
    have e : (decide (b ≤ a ∧ a ≤ c)) = false := decide_eq_false fun h' => h h'.1
    rw [e]


/-- 2^n, as the loop doubles it. -/
theorem pow_loop (n : Int) (d : Nat) : ∀ (x i : Int), 0 ≤ i → i + d = n → 0 ≤ x → x * 2 ^ d ≤ 4611686018427387904 → n ≤ 62 →
    Ev (fun k => spec_l01Pow.l0 k n x i) (x * 2 ^ d) := by
  induction d with
  | zero =>
    intro x i h0 h hx hb hn
    refine ev_ret (fun k => ?_)
    rw [spec_l01Pow.l0, if_neg (by omega)]
    simp
  | succ d ih =>
    intro x i h0 h hx hb hn
    have e : x * 2 ^ (d + 1) = 2 * x * 2 ^ d := by rw [Int.pow_succ, ← Int.mul_assoc, Int.mul_comm (x * 2 ^ d) 2, ← Int.mul_assoc]
    have hp : (1 : Int) ≤ 2 ^ d := by have : (0 : Int) < 2 ^ d := Int.pow_pos (by omega); omega
    have h2 : 2 * x ≤ 2 * x * 2 ^ d := by
      have := Int.mul_le_mul_of_nonneg_left hp (show 0 ≤ 2 * x by omega)
      omega
    have h3 := ih (2 * x) (i + 1) (by omega) (by omega) (by omega) (by omega) hn
    rw [e]
    refine Ev.step (fun k => ?_) h3
    rw [spec_l01Pow.l0, if_pos (by omega), w64_id (x := 2 * x) (by omega) (by omega), w64_id (x := i + 1) (by omega) (by omega)]
theorem pow_is (n : Nat) (hn : n ≤ 62) : Ev (fun k => spec_l01Pow.f k (n : Int)) (2 ^ n) := by
  have hb : (2 : Int) ^ n ≤ 2 ^ 62 := by exact_mod_cast Nat.pow_le_pow_right (n := 2) (by omega) hn
  have h := pow_loop n n 1 0 (by omega) (by omega) (by omega) (by rw [Int.one_mul]; exact hb) (by omega)
  rw [Int.one_mul] at h
  exact h
theorem pow_at (n : Int) (h0 : 0 ≤ n) (hn : n ≤ 62) : Ev (fun k => spec_l01Pow.f k n) (2 ^ n.toNat) := by
  have h := pow_is n.toNat (by omega)
  rw [Int.toNat_of_nonneg h0] at h
  exact h

theorem rd_nat (l : List Int) (j : Nat) : rd l j = l.getD j 0 := by unfold rd; simp
theorem rd_getElem (l : List Int) (j : Nat) (h : j < l.length) : rd l j = l[j] := by rw [rd_nat, List.getD_eq_getElem?_getD, List.getElem?_eq_getElem h]; rfl
theorem rd_mem (l : List Int) (j : Nat) (h : j < l.length) : rd l j ∈ l := by rw [rd_getElem l j h]; exact List.getElem_mem h
theorem drop_rd (l : List Int) (j : Nat) (h : j < l.length) : l.drop j = rd l j :: l.drop (j + 1) := by rw [rd_getElem l j h]; exact List.drop_eq_getElem_cons h
theorem rd_set (l : List Int) (a : Nat) (v : Int) (j : Nat) (h : a < l.length) : rd (l.set a v) j = if j = a then v else rd l j := by
  rw [rd_nat, rd_nat, List.getD_eq_getElem?_getD, List.getD_eq_getElem?_getD, List.getElem?_set]
  by_cases e : j = a
  · subst e
    simp [h]
  · rw [if_neg (Ne.symm e), if_neg e]
theorem take_set_snoc (l : List Int) (j : Nat) (v : Int) (h : j < l.length) : (l.set j v).take (j + 1) = l.take j ++ [v] := by
  rw [List.take_succ_eq_append_getElem (by simpa using h)]
  simp [List.take_set_of_le]

theorem toIntS_loop (l : List Int) (hl : l.length ≤ 1048576) (d : Nat) : ∀ (j : Nat) (o : List Int), j + d = l.length → o.length = l.length → o.take j = l.take j → Ev (fun k => laws_toIntS.l0 k l o j) l := by
  induction d with
  | zero =>
    intro j o h ho hp
    refine ev_ret (fun k => ?_)
    rw [laws_toIntS.l0, if_neg (by omega)]
    have e1 : o.take j = o := List.take_of_length_le (by omega)
    have e2 : l.take j = l := List.take_of_length_le (by omega)
    rw [e1, e2] at hp
    rw [hp]
  | succ d ih =>
    intro j o h ho hp
    refine Ev.step (fun k => ?_) (ih (j + 1) (o.set j (rd l j)) (by omega) (by simpa using ho) ?_)
    · rw [laws_toIntS.l0, if_pos (by omega), if_pos (by omega), if_pos (by omega), w64_id (x := (j : Int) + 1) (by omega) (by omega), Int.toNat_natCast]
      rfl
    · rw [take_set_snoc o j _ (by omega), hp, rd_getElem l j (by omega), ← List.take_succ_eq_append_getElem (by omega)]
theorem toIntS_is (l : List Int) (hl : l.length ≤ 1048576) : Ev (fun k => laws_toIntS.f k l) l := by
  refine Ev.congr (fun k => ?_) (toIntS_loop l hl l.length 0 (List.replicate l.length 0) (by omega) (by simp) (by simp))
  unfold laws_toIntS.f
  rw [if_pos (by omega), Int.toNat_natCast, if_pos (by omega)]
  rfl
theorem eqIntS_loop (l : List Int) (hl : l.length ≤ 4611686018427387904) (d : Nat) : ∀ j : Nat, j + d = l.length → Ev (fun k => laws_eqIntS.l0 k l l j) true := by
  induction d with
  | zero => exact fun j h => ev_ret (fun k => by rw [laws_eqIntS.l0, if_neg (by omega)])
  | succ d ih =>
    intro j h
    refine Ev.step (fun k => ?_) (ih (j + 1) (by omega))
    rw [laws_eqIntS.l0, if_pos (by omega), if_pos (by omega), if_pos (by omega), if_pos rfl, w64_id (x := (j : Int) + 1) (by omega) (by omega)]
    rfl
theorem eqIntS_is (l : List Int) (hl : l.length ≤ 4611686018427387904) : Ev (fun k => laws_eqIntS.f k l l) true :=
  Ev.congr (fun k => by unfold laws_eqIntS.f; rw [if_pos rfl]; rfl) (eqIntS_loop l hl l.length 0 (by omega))
/-- Marks from a on. -/
def marks : Nat → Int → List Int
  | 0, _ => []
  | n + 1, a => a :: marks n (a + 1)
theorem marks_len : ∀ (n : Nat) (a : Int), (marks n a).length = n
  | 0, _ => rfl
  | n + 1, a => by simp [marks, marks_len n]
theorem marks_snoc : ∀ (n : Nat) (a : Int), marks (n + 1) a = marks n a ++ [a + n]
  | 0, a => by simp [marks]
  | n + 1, a => by
    rw [marks, marks_snoc n (a + 1), marks]
    simp
    omega
theorem marks_at (n : Nat) (a : Int) (j : Nat) (h : j < n) : rd (marks n a) j = a + j := by
  induction n generalizing a j with
  | zero => omega
  | succ n ih =>
    cases j with
    | zero => simp [rd, marks]
    | succ j =>
      have := ih (a + 1) j (by omega)
      rw [rd_nat] at this ⊢
      simp only [marks, List.getD_cons_succ]
      rw [this]
      omega
theorem mark_loop (n : Nat) (hn : n ≤ 4611686018427387904) (a : Int) (a0 : 0 ≤ a) (a1 : a ≤ 1048576) (d : Nat) : ∀ (j : Nat) (o : List Int), j + d = n → o.length = n → o.take j = marks j a →
    Ev (fun k => laws_markIntS.l0 k o (a + j) j) (a + n, marks n a) := by
  induction d with
  | zero =>
    intro j o h ho hp
    refine ev_ret (fun k => ?_)
    rw [laws_markIntS.l0, if_neg (by omega)]
    obtain rfl : j = n := by omega
    rw [List.take_of_length_le (by omega)] at hp
    rw [hp]
  | succ d ih =>
    intro j o h ho hp
    refine Ev.step (fun k => ?_) (ih (j + 1) (o.set j (a + j)) (by omega) (by simpa using ho) ?_)
    · rw [laws_markIntS.l0, if_pos (by omega), if_pos (by omega), w64_id (x := a + j + 1) (by omega) (by omega), w64_id (x := (j : Int) + 1) (by omega) (by omega), Int.toNat_natCast, Int.add_assoc]
      rfl
    · rw [take_set_snoc o j _ (by omega), hp, marks_snoc]
theorem mark_is (l : List Int) (hl : l.length ≤ 4611686018427387904) : Ev (fun k => laws_markIntS.f k l 1) (1 + (l.length : Int), marks l.length 1) := by
  have h := mark_loop l.length hl 1 (by omega) (by omega) l.length 0 l (by omega) rfl (by simp [marks])
  rw [show (1 : Int) + ((0 : Nat) : Int) = 1 by omega] at h
  exact h
/-- Are these lengths right. -/
def okL (l : List Int) : Bool := l.all fun x => decide (0 ≤ x ∧ x ≤ 15)
theorem room_loop (l : List Int) (hl : l.length ≤ 320) (d : Nat) : ∀ (j : Nat) (s : Int), j + d = l.length → 0 ≤ s → s ≤ 16384 * j → ∃ r, Ev (fun k => spec_l03Room.l0 k l s j) (r, okL (l.drop j)) := by
  induction d with
  | zero =>
    intro j s h s0 s1
    rw [List.drop_of_length_le (by omega)]
    exact ⟨s, ev_ret (fun k => by rw [spec_l03Room.l0, if_neg (by omega)]; rfl)⟩
  | succ d ih =>
    intro j s h s0 s1
    rw [drop_rd l j (by omega)]
    by_cases c : 0 ≤ rd l j ∧ rd l j ≤ 15
    · have e : okL (rd l j :: l.drop (j + 1)) = okL (l.drop (j + 1)) := by unfold okL; rw [List.all_cons, decide_eq_true c, Bool.true_and]
      rw [e]
      by_cases c1 : rd l j > 0
      · have w : wrap64 (15 - rd l j) = 15 - rd l j := w64_id (by omega) (by omega)
        have P := pow_at (15 - rd l j) (by omega) (by omega)
        have p0 : (0 : Int) < 2 ^ (15 - rd l j).toNat := Int.pow_pos (by omega)
        have p1 : (2 : Int) ^ (15 - rd l j).toNat ≤ 2 ^ 14 := by exact_mod_cast Nat.pow_le_pow_right (n := 2) (by omega) (show (15 - rd l j).toNat ≤ 14 by omega)
        obtain ⟨r, g⟩ := ih (j + 1) (s + 2 ^ (15 - rd l j).toNat) (by omega) (by omega) (by omega)
        refine ⟨r, ev_use_step P (fun k hk => ?_) g⟩
        rw [spec_l03Room.l0, if_pos (by omega), if_pos (by omega), in_spec, decide_eq_true c, Option.bind_some, if_pos rfl, if_pos c1, w, hk, Option.bind_some, w64_id (x := s + 2 ^ (15 - rd l j).toNat) (by omega) (by omega), w64_id (x := (j : Int) + 1) (by omega) (by omega)]
        rfl
      · obtain ⟨r, g⟩ := ih (j + 1) s (by omega) (by omega) (by omega)
        refine ⟨r, Ev.step (fun k => ?_) g⟩
        rw [spec_l03Room.l0, if_pos (by omega), if_pos (by omega), in_spec, decide_eq_true c, Option.bind_some, if_pos rfl, if_neg c1, w64_id (x := (j : Int) + 1) (by omega) (by omega)]
        rfl
    · have e : okL (rd l j :: l.drop (j + 1)) = false := by unfold okL; rw [List.all_cons, decide_eq_false c, Bool.false_and]
      rw [e]
      refine ⟨0, ev_ret (fun k => ?_)⟩
      rw [spec_l03Room.l0, if_pos (by omega), if_pos (by omega), in_spec, decide_eq_false c, Option.bind_some, if_neg (by decide)]
theorem l05Ok_is (l : List Int) : Ev (fun k => spec_l05Ok.f k l) (okL l && decide (l.length ≤ 320)) := by
  by_cases h : l.length ≤ 320
  · obtain ⟨r, e⟩ := room_loop l h l.length 0 0 (by omega) (by omega) (by omega)
    rw [decide_eq_true h, Bool.and_true]
    refine ev_end e (fun k hk => ?_)
    unfold spec_l05Ok.f spec_l03Room.f
    rw [if_neg (by omega)]
    have hk' : spec_l03Room.l0 k l 0 0 = some (r, okL l) := hk
    rw [hk', Option.bind_some]
  · rw [decide_eq_false h, Bool.and_false]
    refine Ev.congr (fun k => ?_) (Ev.now false)
    unfold spec_l05Ok.f spec_l03Room.f
    rw [if_pos (by omega), Option.bind_some]
theorem lensOk_loop (l : List Int) (hl : l.length ≤ 1048576) (m : Int) (d : Nat) : ∀ (j : Nat), j + d = l.length → Ev (fun k => impl_lengthsOk.l0 k l m l (l.length : Int) j) (okL (l.drop j) && decide ((l.length : Int) ≤ m)) := by
  induction d with
  | zero =>
    intro j h
    rw [List.drop_of_length_le (by omega)]
    exact ev_ret (fun k => by rw [impl_lengthsOk.l0, if_neg (by omega)]; rfl)
  | succ d ih =>
    intro j h
    rw [drop_rd l j (by omega)]
    by_cases c : 0 ≤ rd l j ∧ rd l j ≤ 15
    · have e : okL (rd l j :: l.drop (j + 1)) = okL (l.drop (j + 1)) := by unfold okL; rw [List.all_cons, decide_eq_true c, Bool.true_and]
      rw [e]
      refine Ev.step (fun k => ?_) (ih (j + 1) (by omega))
      rw [impl_lengthsOk.l0, if_pos (by omega), if_pos (by omega), if_pos (by omega), in_impl, decide_eq_true c, Option.bind_some, if_pos rfl, w64_id (x := (j : Int) + 1) (by omega) (by omega)]
      rfl
    · have e : okL (rd l j :: l.drop (j + 1)) = false := by unfold okL; rw [List.all_cons, decide_eq_false c, Bool.false_and]
      rw [e, Bool.false_and]
      refine ev_ret (fun k => ?_)
      rw [impl_lengthsOk.l0, if_pos (by omega), if_pos (by omega), if_pos (by omega), in_impl, decide_eq_false c, Option.bind_some, if_neg (by decide)]
theorem lensOk_is (l : List Int) (hl : l.length ≤ 1048576) (m : Int) : Ev (fun k => impl_lengthsOk.f k l m) (okL l && decide ((l.length : Int) ≤ m)) := lensOk_loop l hl m l.length 0 (by omega)
/-- How many of the first numbers of a list are x. -/
def lead (x : Int) : List Int → Nat
  | [] => 0
  | y :: ys => if y = x then lead x ys + 1 else 0
theorem lead_cons (x y : Int) (ys : List Int) : lead x (y :: ys) = if y = x then lead x ys + 1 else 0 := rfl
theorem lead_le (x : Int) : ∀ l : List Int, lead x l ≤ l.length
  | [] => Nat.le_refl _
  | y :: ys => by
    unfold lead
    have := lead_le x ys
    split
    · simp; omega
    · simp
theorem lead_take (x : Int) : ∀ (l : List Int) (n : Nat), n ≤ lead x l → l.take n = List.replicate n x
  | [], n, h => by
    simp [lead] at h
    subst h
    rfl
  | y :: ys, 0, h => rfl
  | y :: ys, n + 1, h => by
    unfold lead at h
    split at h
    · rename_i e
      subst e
      rw [List.take_succ_cons, lead_take y ys n (by omega), List.replicate_succ]
    · omega
theorem same_spec (l : List Int) (hl : l.length ≤ 320) (i : Nat) (hi : i ≤ l.length) (x : Int) (m : Nat) (hm : m ≤ 138) (d : Nat) : ∀ n : Nat, n + d = m → i + n ≤ l.length →
    Ev (fun k => spec_l05Same.l0 k l i x m n) ((n + min (m - n) (lead x (l.drop (i + n))) : Nat) : Int) := by
  induction d with
  | zero =>
    intro n h hn
    refine ev_ret (fun k => ?_)
    rw [spec_l05Same.l0, w64_id (x := (i : Int) + n) (by omega) (by omega)]
    have e : n + min (m - n) (lead x (l.drop (i + n))) = n := by omega
    rw [e]
    split
    · rw [if_neg (by omega)]
    · rfl
  | succ d ih =>
    intro n h hn
    by_cases c : i + n < l.length
    · rw [drop_rd l (i + n) c]
      by_cases c1 : rd l ((i + n : Nat) : Int) = x
      · have e : n + min (m - n) (lead x (rd l ((i + n : Nat) : Int) :: l.drop (i + n + 1))) = (n + 1) + min (m - (n + 1)) (lead x (l.drop (i + (n + 1)))) := by
          rw [lead_cons, if_pos c1, ← Nat.add_assoc]
          omega
        rw [e]
        refine Ev.step (fun k => ?_) (ih (n + 1) (by omega) (by omega))
        rw [spec_l05Same.l0, w64_id (x := (i : Int) + n) (by omega) (by omega), if_pos (by omega), if_pos (by omega), if_pos (by omega), w64_id (x := (n : Int) + 1) (by omega) (by omega)]
        rw [show ((i : Int) + (n : Int)) = ((i + n : Nat) : Int) by omega, if_pos c1]
        rfl
      · have e : n + min (m - n) (lead x (rd l ((i + n : Nat) : Int) :: l.drop (i + n + 1))) = n := by
          rw [lead_cons, if_neg c1]
          omega
        rw [e]
        refine ev_ret (fun k => ?_)
        rw [spec_l05Same.l0, w64_id (x := (i : Int) + n) (by omega) (by omega), if_pos (by omega), if_pos (by omega), if_pos (by omega)]
        rw [show ((i : Int) + (n : Int)) = ((i + n : Nat) : Int) by omega, if_neg c1]
    · rw [List.drop_of_length_le (by omega)]
      have e : n + min (m - n) (lead x []) = n := by simp [lead]
      rw [e]
      refine ev_ret (fun k => ?_)
      rw [spec_l05Same.l0, w64_id (x := (i : Int) + n) (by omega) (by omega), if_neg (by omega)]
theorem same_impl (l : List Int) (hl : l.length ≤ 320) (i : Nat) (hi : i ≤ l.length) (x : Int) (d : Nat) : ∀ n : Nat, i + n + d = l.length →
    Ev (fun k => impl_sameFrom.l0 k l i x n) ((n + lead x (l.drop (i + n)) : Nat) : Int) := by
  induction d with
  | zero =>
    intro n h
    refine ev_ret (fun k => ?_)
    rw [impl_sameFrom.l0, w64_id (x := (i : Int) + n) (by omega) (by omega), if_neg (by omega), List.drop_of_length_le (by omega)]
    rfl
  | succ d ih =>
    intro n h
    rw [drop_rd l (i + n) (by omega)]
    by_cases c1 : rd l ((i + n : Nat) : Int) = x
    · have e : n + lead x (rd l ((i + n : Nat) : Int) :: l.drop (i + n + 1)) = (n + 1) + lead x (l.drop (i + (n + 1))) := by
        rw [lead_cons, if_pos c1, show i + (n + 1) = i + n + 1 by omega]
        omega
      rw [e]
      refine Ev.step (fun k => ?_) (ih (n + 1) (by omega))
      rw [impl_sameFrom.l0, w64_id (x := (i : Int) + n) (by omega) (by omega), if_pos (by omega), if_pos (by omega), w64_id (x := (n : Int) + 1) (by omega) (by omega)]
      rw [show ((i : Int) + (n : Int)) = ((i + n : Nat) : Int) by omega, if_pos c1]
      rfl
    · have e : n + lead x (rd l ((i + n : Nat) : Int) :: l.drop (i + n + 1)) = n := by
        rw [lead_cons, if_neg c1]
        rfl
      rw [e]
      refine ev_ret (fun k => ?_)
      rw [impl_sameFrom.l0, w64_id (x := (i : Int) + n) (by omega) (by omega), if_pos (by omega), if_pos (by omega)]
      rw [show ((i : Int) + (n : Int)) = ((i + n : Nat) : Int) by omega, if_neg c1]

/-- The run at a place: its symbol, its extra, how many lengths it tells. -/
def stepAt (l : List Int) (i : Nat) : Int × Int × Nat :=
  if 11 ≤ lead 0 (l.drop i) then (18, (min (lead 0 (l.drop i)) 138 : Nat) - 11, min (lead 0 (l.drop i)) 138)
  else if 3 ≤ lead 0 (l.drop i) then (17, (lead 0 (l.drop i) : Nat) - 3, lead 0 (l.drop i))
  else if 0 < i ∧ 3 ≤ lead (rd l ((i - 1 : Nat) : Int)) (l.drop i) then (16, (min (lead (rd l ((i - 1 : Nat) : Int)) (l.drop i)) 6 : Nat) - 3, min (lead (rd l ((i - 1 : Nat) : Int)) (l.drop i)) 6)
  else (rd l i, 0, 1)
theorem step_bd (l : List Int) (i : Nat) (hi : i < l.length) : 1 ≤ (stepAt l i).2.2 ∧ i + (stepAt l i).2.2 ≤ l.length := by
  have h0 := lead_le 0 (l.drop i)
  have h1 := lead_le (rd l ((i - 1 : Nat) : Int)) (l.drop i)
  rw [List.length_drop] at h0 h1
  unfold stepAt
  split
  · dsimp only; omega
  · split
    · dsimp only; omega
    · split
      · dsimp only; omega
      · dsimp only; omega
/-- The runs from a place on. -/
def runsL (l : List Int) : Nat → Nat → List S42
  | 0, _ => []
  | f + 1, i => if i < l.length then ⟨(stepAt l i).1, (stepAt l i).2.1⟩ :: runsL l f (i + (stepAt l i).2.2) else []
theorem runsL_len (l : List Int) : ∀ (f i : Nat), i ≤ l.length → (runsL l f i).length ≤ l.length - i
  | 0, _, _ => Nat.zero_le _
  | f + 1, i, h => by
    unfold runsL
    split
    · rename_i hi
      have b := step_bd l i hi
      have := runsL_len l f (i + (stepAt l i).2.2) (by omega)
      rw [List.length_cons]
      omega
    · exact Nat.zero_le _
theorem runAt_is (l : List Int) (hl : l.length ≤ 320) (i : Nat) (hi : i < l.length) : Ev (fun k => impl_runAt.f k l i) ((stepAt l i).1, (stepAt l i).2.1, ((stepAt l i).2.2 : Int)) := by
  have h0 := lead_le 0 (l.drop i)
  have h1 := lead_le (rd l ((i - 1 : Nat) : Int)) (l.drop i)
  rw [List.length_drop] at h0 h1
  have z := same_impl l hl i (by omega) 0 (l.length - i) 0 (by omega)
  rw [Nat.zero_add] at z
  have p := same_impl l hl i (by omega) (rd l ((i - 1 : Nat) : Int)) (l.length - i) 0 (by omega)
  rw [Nat.zero_add] at p
  have e1 : ∀ k, impl_runAt.f k l i = (impl_sameFrom.l0 k l i 0 ((0 : Nat) : Int)).bind fun t138 => (if t138 ≥ 11 then (some (18, wrap64 ((mn t138 138) - 11), mn t138 138)) else (if t138 ≥ 3 then (some (17, wrap64 (t138 - 3), t138)) else (if (i : Int) > 0 then (if 0 ≤ (wrap64 ((i : Int) - 1)) then (if (wrap64 ((i : Int) - 1)) < (l.length : Int) then ((impl_sameFrom.l0 k l i (rd l (wrap64 ((i : Int) - 1))) ((0 : Nat) : Int)).bind fun t140 => (if (mn t140 6) ≥ 3 then (some (16, wrap64 ((mn t140 6) - 3), mn t140 6)) else (if 0 ≤ (i : Int) then (if (i : Int) < (l.length : Int) then (some (rd l i, 0, 1)) else (none)) else (none)))) else (none)) else (none)) else (if 0 ≤ (i : Int) then (if (i : Int) < (l.length : Int) then (some (rd l i, 0, 1)) else (none)) else (none))))) := fun k => rfl
  have cast0 : l.drop (i + 0) = l.drop i := rfl
  unfold stepAt
  by_cases c0 : 11 ≤ lead 0 (l.drop i)
  · rw [if_pos c0]
    refine ev_end z (fun k hk => ?_)
    rw [e1, hk, Option.bind_some, if_pos (by simp; omega)]
    have m : mn ((lead 0 (l.drop (i + 0)) : Nat) : Int) 138 = ((min (lead 0 (l.drop i)) 138 : Nat) : Int) := by unfold mn; rw [cast0]; split <;> omega
    rw [m, w64_id (by omega) (by omega)]
  · rw [if_neg c0]
    by_cases c1 : 3 ≤ lead 0 (l.drop i)
    · rw [if_pos c1]
      refine ev_end z (fun k hk => ?_)
      rw [e1, hk, Option.bind_some, cast0, if_neg (by omega), if_pos (by omega), w64_id (by omega) (by omega)]
    · rw [if_neg c1]
      by_cases c2 : 0 < i
      · have w : wrap64 ((i : Int) - 1) = ((i - 1 : Nat) : Int) := by rw [w64_id (by omega) (by omega)]; omega
        have m : mn ((lead (rd l ((i - 1 : Nat) : Int)) (l.drop (i + 0)) : Nat) : Int) 6 = ((min (lead (rd l ((i - 1 : Nat) : Int)) (l.drop i)) 6 : Nat) : Int) := by unfold mn; rw [cast0]; split <;> omega
        obtain ⟨K1, z⟩ := z
        obtain ⟨K2, p⟩ := p
        by_cases c3 : 3 ≤ lead (rd l ((i - 1 : Nat) : Int)) (l.drop i)
        · rw [if_pos ⟨c2, c3⟩]
          refine ⟨max K1 K2, fun k hk => ?_⟩
          have z := z k (by omega)
          have p := p k (by omega)
          dsimp only at z p ⊢
          rw [e1, z, Option.bind_some, cast0, if_neg (by omega), if_neg (by omega), if_pos (by omega), w, if_pos (by omega), if_pos (by omega), p, Option.bind_some, m, if_pos (by omega), w64_id (by omega) (by omega)]
        · rw [if_neg (fun h => c3 h.2)]
          refine ⟨max K1 K2, fun k hk => ?_⟩
          have z := z k (by omega)
          have p := p k (by omega)
          dsimp only at z p ⊢
          rw [e1, z, Option.bind_some, cast0, if_neg (by omega), if_neg (by omega), if_pos (by omega), w, if_pos (by omega), if_pos (by omega), p, Option.bind_some, m, if_neg (by omega), if_pos (by omega), if_pos (by omega)]
          rfl
      · rw [if_neg (fun h => c2 h.1)]
        refine ev_end z (fun k hk => ?_)
        rw [e1, hk, Option.bind_some, cast0, if_neg (by omega), if_neg (by omega), if_neg (by omega), if_pos (by omega), if_pos (by omega)]
        rfl
theorem runs_impl (l : List Int) (hl : l.length ≤ 320) (f : Nat) : ∀ (i : Nat) (o : List S42), i ≤ l.length → l.length - i ≤ f → o.length ≤ i → Ev (fun k => impl_RunsOf.l0 k l o i) (o ++ runsL l f i, true) := by
  induction f with
  | zero =>
    intro i o hi hf ho
    exact ev_ret (fun k => by rw [impl_RunsOf.l0, if_neg (by omega), runsL, List.append_nil])
  | succ f ih =>
    intro i o hi hf ho
    unfold runsL
    by_cases c : i < l.length
    · rw [if_pos c]
      have b := step_bd l i c
      have g := ih (i + (stepAt l i).2.2) (o ++ [⟨(stepAt l i).1, (stepAt l i).2.1⟩]) (by omega) (by omega) (by simp; omega)
      rw [List.append_assoc, List.singleton_append] at g
      refine ev_use_step (runAt_is l hl i c) (fun k hk => ?_) g
      rw [impl_RunsOf.l0, if_pos (by omega), hk, Option.bind_some, if_pos (by omega)]
      dsimp only
      rw [w64_id (by omega) (by omega)]
      rfl
    · rw [if_neg c]
      exact ev_ret (fun k => by rw [impl_RunsOf.l0, if_neg (by omega), List.append_nil])
theorem runs_spec (l : List Int) (hl : l.length ≤ 320) (f : Nat) : ∀ (i : Nat) (o : List S42), i ≤ l.length → l.length - i ≤ f → o.length ≤ i → Ev (fun k => spec_RunsOf.l0 k l o i) (o ++ runsL l f i, true) := by
  induction f with
  | zero =>
    intro i o hi hf ho
    exact ev_ret (fun k => by rw [spec_RunsOf.l0, if_neg (by omega), runsL, List.append_nil])
  | succ f ih =>
    intro i o hi hf ho
    unfold runsL
    by_cases c : i < l.length
    · rw [if_pos c]
      have b := step_bd l i c
      have g := ih (i + (stepAt l i).2.2) (o ++ [⟨(stepAt l i).1, (stepAt l i).2.1⟩]) (by omega) (by omega) (by simp; omega)
      rw [List.append_assoc, List.singleton_append] at g
      have h0 := lead_le 0 (l.drop i)
      have h1 := lead_le (rd l ((i - 1 : Nat) : Int)) (l.drop i)
      rw [List.length_drop] at h0 h1
      have z := same_spec l hl i hi 0 138 (by omega) 138 0 (by omega) (by omega)
      have p := same_spec l hl i hi (rd l ((i - 1 : Nat) : Int)) 6 (by omega) 6 0 (by omega) (by omega)
      rw [Nat.zero_add, Nat.sub_zero] at z p
      -- what j1 does with the two numbers
      have j : ∀ s : Int, (s = if 0 < i then ((min 6 (lead (rd l ((i - 1 : Nat) : Int)) (l.drop i)) : Nat) : Int) else 0) → Ev (fun k => spec_RunsOf.j1 k l o i ((min 138 (lead 0 (l.drop i)) : Nat) : Int) s) (o ++ ⟨(stepAt l i).1, (stepAt l i).2.1⟩ :: runsL l f (i + (stepAt l i).2.2), true) := by
        intro s hs
        refine Ev.step (fun k => ?_) g
        rw [spec_RunsOf.j1]
        unfold stepAt at b ⊢
        by_cases c0 : 11 ≤ lead 0 (l.drop i)
        · rw [if_pos c0] at b ⊢
          dsimp only at b ⊢
          rw [if_pos (by omega), if_pos (by omega), w64_id (x := ((min 138 (lead 0 (l.drop i)) : Nat) : Int) - 11) (by omega) (by omega), w64_id (by omega) (by omega), Nat.min_comm]
          rfl
        · rw [if_neg c0] at b ⊢
          by_cases c1 : 3 ≤ lead 0 (l.drop i)
          · rw [if_pos c1] at b ⊢
            dsimp only at b ⊢
            have m : min 138 (lead 0 (l.drop i)) = lead 0 (l.drop i) := by omega
            rw [m, if_neg (by omega), if_pos (by omega), if_pos (by omega), w64_id (x := ((lead 0 (l.drop i) : Nat) : Int) - 3) (by omega) (by omega), w64_id (by omega) (by omega)]
            rfl
          · rw [if_neg c1] at b ⊢
            by_cases c2 : 0 < i ∧ 3 ≤ lead (rd l ((i - 1 : Nat) : Int)) (l.drop i)
            · rw [if_pos c2] at b ⊢
              rw [if_pos c2.1] at hs
              subst hs
              dsimp only at b ⊢
              rw [if_neg (by omega), if_neg (by omega), if_pos (by omega), if_pos (by omega), w64_id (x := ((min 6 (lead (rd l ((i - 1 : Nat) : Int)) (l.drop i)) : Nat) : Int) - 3) (by omega) (by omega), w64_id (by omega) (by omega), Nat.min_comm]
              rfl
            · rw [if_neg c2] at b ⊢
              dsimp only at b ⊢
              have hs3 : ¬ s ≥ 3 := by
                rw [hs]
                split
                · omega
                · omega
              rw [if_neg (by omega), if_neg (by omega), if_neg hs3, if_pos (by omega), if_pos (by omega), if_pos (by omega), w64_id (by omega) (by omega)]
              rfl
      obtain ⟨K1, z⟩ := z
      obtain ⟨K2, p⟩ := p
      by_cases c2 : 0 < i
      · have w : wrap64 ((i : Int) - 1) = ((i - 1 : Nat) : Int) := by rw [w64_id (by omega) (by omega)]; omega
        obtain ⟨K3, jj⟩ := j _ rfl
        refine ⟨max (max K1 K2) K3 + 1, fun k hk => ?_⟩
        obtain ⟨k, rfl⟩ : ∃ m, k = m + 1 := ⟨k - 1, by omega⟩
        have z := z k (by omega)
        have p := p k (by omega)
        have jj := jj k (by omega)
        have z' : spec_l05Same.f k l i 0 138 = some ((min 138 (lead 0 (l.drop i)) : Nat) : Int) := z
        have p' : spec_l05Same.f k l i (rd l ((i - 1 : Nat) : Int)) 6 = some ((min 6 (lead (rd l ((i - 1 : Nat) : Int)) (l.drop i)) : Nat) : Int) := p
        rw [if_pos c2] at jj
        show spec_RunsOf.l0 (k + 1) l o i = _
        rw [spec_RunsOf.l0, if_pos (by omega), z', Option.bind_some, if_pos (by omega), w, if_pos (by omega), if_pos (by omega), p', Option.bind_some]
        exact jj
      · obtain ⟨K3, jj⟩ := j _ rfl
        refine ⟨max K1 K3 + 1, fun k hk => ?_⟩
        obtain ⟨k, rfl⟩ : ∃ m, k = m + 1 := ⟨k - 1, by omega⟩
        have z := z k (by omega)
        have jj := jj k (by omega)
        have z' : spec_l05Same.f k l i 0 138 = some ((min 138 (lead 0 (l.drop i)) : Nat) : Int) := z
        rw [if_neg c2] at jj
        show spec_RunsOf.l0 (k + 1) l o i = _
        rw [spec_RunsOf.l0, if_pos (by omega), z', Option.bind_some, if_neg (by omega)]
        exact jj
    · rw [if_neg c]
      exact ev_ret (fun k => by rw [spec_RunsOf.l0, if_neg (by omega), List.append_nil])
/-- The runs of lengths. -/
def runsOf (l : List Int) : List S42 × Bool := if okL l = true ∧ l.length ≤ 320 then (runsL l l.length 0, true) else ([], false)
theorem runs_both (l : List Int) (hl : l.length ≤ 1048576) : Ev (fun k => spec_RunsOf.f k l) (runsOf l) ∧ Ev (fun k => impl_RunsOf.f k l) (runsOf l) := by
  have a := l05Ok_is l
  have b := lensOk_is l hl 320
  unfold runsOf
  by_cases c : okL l = true ∧ l.length ≤ 320
  · rw [if_pos c]
    rw [c.1, decide_eq_true c.2] at a
    rw [c.1, decide_eq_true (by omega)] at b
    have s := runs_spec l c.2 l.length 0 [] (by omega) (by omega) (by simp)
    have i := runs_impl l c.2 l.length 0 [] (by omega) (by omega) (by simp)
    rw [List.nil_append] at s i
    constructor
    · refine ev_use a (fun k hk => ?_) s
      have hk' : spec_l05Ok.f k l = some true := hk
      show spec_RunsOf.f k l = _
      unfold spec_RunsOf.f
      rw [Option.bind_some, hk', Option.bind_some, if_pos rfl]
      rfl
    · refine ev_use b (fun k hk => ?_) i
      have hk' : impl_lengthsOk.f k l 320 = some true := hk
      show impl_RunsOf.f k l = _
      unfold impl_RunsOf.f
      rw [hk', Option.bind_some, if_pos rfl]
      rfl
  · rw [if_neg c]
    have f1 : (okL l && decide (l.length ≤ 320)) = false := by
      by_cases c1 : okL l = true
      · rw [c1, decide_eq_false (fun h => c ⟨c1, h⟩)]; rfl
      · have : okL l = false := by simpa using c1
        rw [this]; rfl
    have f2 : (okL l && decide ((l.length : Int) ≤ 320)) = false := by
      by_cases c1 : okL l = true
      · rw [c1, decide_eq_false (fun h => c ⟨c1, by omega⟩)]; rfl
      · have : okL l = false := by simpa using c1
        rw [this]; rfl
    rw [f1] at a
    rw [f2] at b
    constructor
    · refine ev_end a (fun k hk => ?_)
      have hk' : spec_l05Ok.f k l = some false := hk
      show spec_RunsOf.f k l = _
      unfold spec_RunsOf.f
      rw [Option.bind_some, hk', Option.bind_some, if_neg (by decide)]
    · refine ev_end b (fun k hk => ?_)
      have hk' : impl_lengthsOk.f k l 320 = some false := hk
      show impl_RunsOf.f k l = _
      unfold impl_RunsOf.f
      rw [hk', Option.bind_some, if_neg (by decide)]
theorem runsOf_len (l : List Int) : (runsOf l).1.length ≤ 320 := by
  unfold runsOf
  split
  · rename_i h
    have := runsL_len l l.length 0 (by omega)
    dsimp only
    omega
  · simp

theorem gd_at {α : Type} (l : List α) (z : α) (j : Nat) (h : j < l.length) : l.getD (j : Int).toNat z = l[j] := by rw [Int.toNat_natCast, List.getD_eq_getElem?_getD, List.getElem?_eq_getElem h]; rfl
theorem gd_drop {α : Type} (l : List α) (z : α) (j : Nat) (h : j < l.length) : l.drop j = l.getD (j : Int).toNat z :: l.drop (j + 1) := by rw [gd_at l z j h]; exact List.drop_eq_getElem_cons h
theorem g_take_set {α : Type} (l : List α) (j : Nat) (v : α) (h : j < l.length) : (l.set j v).take (j + 1) = l.take j ++ [v] := by
  rw [List.take_succ_eq_append_getElem (by simpa using h)]
  simp [List.take_set_of_le]

theorem eqRunS_loop (l : List S42) (hl : l.length ≤ 4611686018427387904) (d : Nat) : ∀ j : Nat, j + d = l.length → Ev (fun k => laws_eqRunS.l0 k l l j) true := by
  induction d with
  | zero => exact fun j h => ev_ret (fun k => by rw [laws_eqRunS.l0, if_neg (by omega)])
  | succ d ih =>
    intro j h
    refine Ev.step (fun k => ?_) (ih (j + 1) (by omega))
    rw [laws_eqRunS.l0, if_pos (by omega), if_pos (by omega), if_pos (by omega)]
    unfold laws_eqRun.f
    rw [if_pos rfl, if_pos rfl, Option.bind_some, if_pos rfl, w64_id (x := (j : Int) + 1) (by omega) (by omega)]
    rfl
theorem eqRunS_is (l : List S42) (hl : l.length ≤ 4611686018427387904) : Ev (fun k => laws_eqRunS.f k l l) true :=
  Ev.congr (fun k => by unfold laws_eqRunS.f; rw [if_pos rfl]; rfl) (eqRunS_loop l hl l.length 0 (by omega))
/-- Marks from a on, two a run. -/
def rmarks : Nat → Int → List S42
  | 0, _ => []
  | n + 1, a => ⟨a, a + 1⟩ :: rmarks n (a + 2)
theorem rmarks_len : ∀ (n : Nat) (a : Int), (rmarks n a).length = n
  | 0, _ => rfl
  | n + 1, a => by simp [rmarks, rmarks_len n]
theorem rmarks_snoc : ∀ (n : Nat) (a : Int), rmarks (n + 1) a = rmarks n a ++ [⟨a + 2 * n, a + 2 * n + 1⟩]
  | 0, a => by simp [rmarks]
  | n + 1, a => by
    rw [rmarks, rmarks_snoc n (a + 2), rmarks]
    have e : a + 2 + 2 * (n : Int) = a + 2 * ((n + 1 : Nat) : Int) := by omega
    rw [e]
    rfl
theorem rmarks_at (n : Nat) (a : Int) (j : Nat) (h : j < n) : rd_T42 (rmarks n a) j = ⟨a + 2 * j, a + 2 * j + 1⟩ := by
  induction n generalizing a j with
  | zero => omega
  | succ n ih =>
    cases j with
    | zero => simp [rd_T42, rmarks]
    | succ j =>
      have := ih (a + 2) j (by omega)
      unfold rd_T42 at this ⊢
      rw [Int.toNat_natCast] at this ⊢
      simp only [rmarks, List.getD_cons_succ]
      rw [this]
      have e : a + 2 + 2 * (j : Int) = a + 2 * ((j + 1 : Nat) : Int) := by omega
      rw [e]
theorem rmark_loop (n : Nat) (hn : n ≤ 1048576) (a : Int) (a0 : 0 ≤ a) (a1 : a ≤ 1048576) (d : Nat) : ∀ (j : Nat) (o : List S42), j + d = n → o.length = n → o.take j = rmarks j a →
    Ev (fun k => laws_markRunS.l0 k o (a + 2 * j) j) (a + 2 * n, rmarks n a) := by
  induction d with
  | zero =>
    intro j o h ho hp
    refine ev_ret (fun k => ?_)
    rw [laws_markRunS.l0, if_neg (by omega)]
    obtain rfl : j = n := by omega
    rw [List.take_of_length_le (by omega)] at hp
    rw [hp]
  | succ d ih =>
    intro j o h ho hp
    have hj : j < o.length := by omega
    refine Ev.step (fun k => ?_) (ih (j + 1) (o.set j ⟨a + 2 * j, a + 2 * j + 1⟩) (by omega) (by simpa using ho) ?_)
    · rw [laws_markRunS.l0, if_pos (by omega), if_pos (by omega), Option.bind_some, Int.toNat_natCast, w64_id (x := a + 2 * j + 1) (by omega) (by omega), w64_id (x := a + 2 * j + 1 + 1) (by omega) (by omega), w64_id (x := (j : Int) + 1) (by omega) (by omega), List.set_set]
      have e : rd_T42 (o.set j ⟨a + 2 * j, (rd_T42 o j).f1⟩) j = ⟨a + 2 * j, (rd_T42 o j).f1⟩ := by
        have := gd_at (o.set j ⟨a + 2 * j, (rd_T42 o j).f1⟩) z42 j (by simpa using hj)
        rw [List.getElem_set_self] at this
        exact this
      rw [e]
      have e2 : a + 2 * (j : Int) + 1 + 1 = a + 2 * ((j + 1 : Nat) : Int) := by omega
      rw [e2]
      rfl
    · rw [g_take_set o j _ hj, hp, rmarks_snoc]
theorem rmark_is (l : List S42) (hl : l.length ≤ 1048576) : Ev (fun k => laws_markRunS.f k l 1) (1 + 2 * (l.length : Int), rmarks l.length 1) := by
  have h := rmark_loop l.length hl 1 (by omega) (by omega) l.length 0 l (by omega) rfl (by simp [rmarks])
  rw [show (1 : Int) + 2 * ((0 : Nat) : Int) = 1 by omega] at h
  exact h
theorem rheld_loop (n : Nat) (hn : n ≤ 1048576) (a : Int) (a0 : 0 ≤ a) (a1 : a ≤ 1048576) (d : Nat) : ∀ (j : Nat), j + d = n →
    Ev (fun k => laws_heldRunS.l0 k (rmarks n a) (a + 2 * j) j) (a + 2 * n) := by
  induction d with
  | zero =>
    intro j h
    refine ev_ret (fun k => ?_)
    rw [laws_heldRunS.l0, if_neg (by rw [rmarks_len]; omega)]
    obtain rfl : j = n := by omega
    rfl
  | succ d ih =>
    intro j h
    refine Ev.step (fun k => ?_) (ih (j + 1) (by omega))
    rw [laws_heldRunS.l0, if_pos (by rw [rmarks_len]; omega), if_pos (by omega), rmarks_at n a j (by omega)]
    dsimp only
    rw [if_pos rfl, w64_id (x := a + 2 * j + 1) (by omega) (by omega), if_pos rfl, w64_id (x := a + 2 * j + 1 + 1) (by omega) (by omega), w64_id (x := (j : Int) + 1) (by omega) (by omega)]
    have e2 : a + 2 * (j : Int) + 1 + 1 = a + 2 * ((j + 1 : Nat) : Int) := by omega
    rw [e2]
    rfl
theorem rheld_is (n : Nat) (hn : n ≤ 1048576) : Ev (fun k => laws_heldRunS.f k (rmarks n 1) 1) (1 + 2 * (n : Int)) := by
  have h := rheld_loop n hn 1 (by omega) (by omega) n 0 (by omega)
  rw [show (1 : Int) + 2 * ((0 : Nat) : Int) = 1 by omega] at h
  exact h

theorem FnExactRunsOf : laws_FnExactRunsOf.Pure := by
  intro l h1 h2 hw
  by_cases hb : (l.length : Int) > 1048576
  · exact ⟨0, by unfold laws_FnExactRunsOf.f; rw [if_pos hb]⟩
  · obtain ⟨KT, T⟩ := toIntS_is l (by omega)
    obtain ⟨eS, eI⟩ := runs_both l (by omega)
    have hc := runsOf_len l
    generalize runsOf l = r at eS eI hc
    obtain ⟨c, b⟩ := r
    dsimp only at hc
    obtain ⟨KS, S⟩ := eS
    obtain ⟨KI, I⟩ := eI
    obtain ⟨KL, EL⟩ := eqIntS_is l (by omega)
    obtain ⟨KC, EC⟩ := eqRunS_is c (by omega)
    obtain ⟨KM, M⟩ := mark_is l (by omega)
    obtain ⟨KN, N⟩ := rmark_is c (by omega)
    obtain ⟨KH, HH⟩ := rheld_is c.length (by omega)
    refine ⟨KT + KS + KI + KL + KC + KM + KN + KH + 3, ?_⟩
    generalize hk : KT + KS + KI + KL + KC + KM + KN + KH = K
    have bb : (b != b) = false := by simp
    unfold laws_FnExactRunsOf.f
    rw [if_neg hb]
    simp only [T _ (show KT ≤ K + 3 by omega), S _ (show KS ≤ K + 3 by omega), I _ (show KI ≤ K + 3 by omega), EC _ (show KC ≤ K + 3 by omega), Option.bind_some, if_true, bb]
    rw [laws_FnExactRunsOf.j0, if_neg (by decide)]
    simp only [T _ (show KT ≤ K + 2 by omega), EL _ (show KL ≤ K + 2 by omega), M _ (show KM ≤ K + 2 by omega), EC _ (show KC ≤ K + 2 by omega), Option.bind_some, if_true, bb]
    rw [if_neg (by omega), laws_FnExactRunsOf.j1, if_neg (by decide)]
    simp only [N _ (show KN ≤ K + 1 by omega), HH _ (show KH ≤ K + 1 by omega), T _ (show KT ≤ K + 1 by omega), I _ (show KI ≤ K + 1 by omega), EC _ (show KC ≤ K + 1 by omega), Option.bind_some, if_true, bb]
    rw [if_neg (by omega), laws_FnExactRunsOf.j2, if_neg (by decide)]
    simp only [HH _ (show KH ≤ K by omega), Option.bind_some]
    rw [if_neg (by omega)]
    all_goals simp

end Go.Proofs.Ytfmdenifbbhmdaa.Pure
