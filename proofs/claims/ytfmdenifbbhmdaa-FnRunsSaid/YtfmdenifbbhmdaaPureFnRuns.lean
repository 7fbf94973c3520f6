/- The law FnRuns: for every input within the row's bounds the printed function answers true: what the program's function tells is what the law asks. Conditions: only the bounds that the row itself gives (sizes of strings and slices, ranges of the number kinds). -/
import Derived.Test.YtfmdenifbbhmdaaPFnRunsx5
namespace Go.Proofs.Ytfmdenifbbhmdaa.Pure
open Go.RowKit Go.Proofs.Ytfmdenifbbhmdaa.PFnRuns Go.Proofs.YtfmdenifbbhmdaaW.PrintWords Go.Proofs.YtfmdenifbbhmdaaW.PrintLast Go.Proofs.YtfmdenifbbhmdaaW.PrintMore
set_option linter.unusedVariables false
set_option linter.unusedSimpArgs false

theorem w64_id {x : Int} (h0 : -9223372036854775808 ≤ x) (h1 : x ≤ 9223372036854775807) : wrap64 x = x := by unfold wrap64; omega
theorem tmod_nn {a : Int} (b : Int) (h : 0 ≤ a) : Int.tmod a b = a % b := Int.tmod_eq_emod_of_nonneg h
theorem tdiv_nn {a : Int} (b : Int) (h : 0 ≤ a) : Int.tdiv a b = a / b := Int.tdiv_eq_ediv_of_nonneg h
theorem wf64 {n : Int} (h : (Lit.int .i64 n).wf = true) : -9223372036854775808 ≤ n ∧ n ≤ 9223372036854775807 := by
  simp [Lit.wf, IntKind.min, IntKind.max, IntKind.signed, IntKind.bits] at h
  omega
theorem wfu32 {n : Int} (h : (Lit.int .u32 n).wf = true) : 0 ≤ n ∧ n ≤ 4294967295 := by
  simp [Lit.wf, IntKind.min, IntKind.max, IntKind.signed, IntKind.bits] at h
  omega
theorem wraps64 (n : Int) (h0 : 0 ≤ n) (h1 : n < 2 ^ 63) : IntKind.i64.wrap n = n := by rw [IntKind.wrap_i64]; omega
theorem wrapsu32 (n : Int) (h0 : 0 ≤ n) (h1 : n < 2 ^ 32) : IntKind.u32.wrap n = n := by rw [IntKind.wrap_u32]; omega
/-- a | b of parts that do not meet, of an int. -/
theorem or64 (i : Nat) (x y : Int) (hx0 : 0 ≤ x) (hx : x % 2 ^ i = 0) (hx1 : x < 2 ^ 63) (hy0 : 0 ≤ y) (hy : y < 2 ^ i) (hy1 : y < 2 ^ 63) : Go.bits .or .i64 x y = x + y :=
  bits_join .i64 63 (by decide) wraps64 i x y hx0 hx hx1 hy0 hy hy1
theorem ev_ite_pos {α : Type} {c : Prop} [Decidable c] {f g : Nat → Option α} {r : α} (h : c) (k : Ev f r) : Ev (fun n => if c then f n else g n) r := Ev.congr (fun n => if_pos h) k
theorem ev_ite_neg {α : Type} {c : Prop} [Decidable c] {f g : Nat → Option α} {r : α} (h : ¬ c) (k : Ev g r) : Ev (fun n => if c then f n else g n) r := Ev.congr (fun n => if_neg h) k
/-- A callee without rounds that answers. -/
theorem ev_bind0 {α β : Type} {o : Option α} {f : Nat → α → Option β} {a : α} {r : β} (h : o = some a) (k : Ev (fun n => f n a) r) : Ev (fun n => o.bind (f n)) r := Ev.congr (fun n => by rw [h]; rfl) k
theorem bt_lo (s : ByteArray) (i : Int) : 0 ≤ bt s i := (bt_range s i).1
theorem bt_hi (s : ByteArray) (i : Int) : bt s i ≤ 255 := (bt_range s i).2
/-- A callee that answers from some number of rounds on, used. -/
theorem ev_use {α β : Type} {g : Nat → Option α} {a : α} {F G : Nat → Option β} {r : β} (e : Ev g a) (h : ∀ k, g k = some a → F k = G k) (c : Ev G r) : Ev F r := by
  obtain ⟨K, e⟩ := e
  obtain ⟨K', c⟩ := c
  exact ⟨max K K', fun n hn => (h n (e n (by omega))).trans (c n (by omega))⟩
theorem ev_use_step {α β : Type} {g : Nat → Option α} {a : α} {F G : Nat → Option β} {r : β} (e : Ev g a) (h : ∀ k, g k = some a → F (k + 1) = G k) (c : Ev G r) : Ev F r := by
  obtain ⟨K, e⟩ := e
  obtain ⟨K', c⟩ := c
  refine ⟨max K K' + 1, fun n hn => ?_⟩
  obtain ⟨m, rfl⟩ : ∃ m, n = m + 1 := ⟨n - 1, by omega⟩
  exact (h m (e m (by omega))).trans (c m (by omega))
theorem ev_end {α β : Type} {g : Nat → Option α} {a : α} {F : Nat → Option β} {r : β} (e : Ev g a) (h : ∀ k, g k = some a → F k = some r) : Ev F r := by
  obtain ⟨K, e⟩ := e
  exact ⟨K, fun n hn => h n (e n hn)⟩
theorem ev_two {α β : Type} {g : Nat → Option α} {h : Nat → Option β} {a : α} {b : β} (e : Ev g a) (f : Ev h b) : ∃ k, g k = some a ∧ h k = some b := by
  obtain ⟨K, e⟩ := e
  obtain ⟨K', f⟩ := f
  exact ⟨max K K', e _ (by omega), f _ (by omega)⟩
theorem ev_ret {α : Type} {F : Nat → Option α} {r : α} (h : ∀ k, F (k + 1) = some r) : Ev F r := ⟨1, fun n hn => by obtain ⟨m, rfl⟩ : ∃ m, n = m + 1 := ⟨n - 1, by omega⟩; exact h m⟩

theorem in_spec (a b c : Int) : spec_l01In.f a b c = some (decide (b ≤ a ∧ a ≤ c)) := by
  unfold spec_l01In.f
  split
  · rename_i h
    have e : (decide (a ≤ c)) = decide (b ≤ a ∧ a ≤ c) := decide_eq_decide.mpr ⟨fun h' => ⟨h, h'⟩, fun h' => h'.2⟩
    rw [e]
  · rename_i h
    have e : (decide (b ≤ a ∧ a ≤ c)) = false := decide_eq_false fun h' => h h'.1
    rw [e]

theorem in_impl (a b c : Int) : impl_within.f a b c = some (decide (b ≤ a ∧ a ≤ c)) := by
  unfold impl_within.f
  split
  · rename_i h
    have e : (decide (a ≤ c)) = decide (b ≤ a ∧ a ≤ c) := decide_eq_decide.mpr ⟨fun h' => ⟨h, h'⟩, fun h' => h'.2⟩
    rw [e]
  · rename_i h
    have e : (decide (b ≤ a ∧ a ≤ c)) = false := decide_eq_false fun h' => h h'.1
    rw [e]


/-- 2^n, as the loop doubles it. -/
theorem pow_loop (n : Int) (d : Nat) : ∀ (x i : Int), 0 ≤ i → i + d = n → 0 ≤ x → x * 2 ^ d ≤ 4611686018427387904 → n ≤ 62 →
    Ev (fun k => spec_l01Pow.l0 k n x i) (x * 2 ^ d) := by
  induction d with
  | zero =>
    intro x i h0 h hx hb hn
    refine ev_ret (fun k => ?_)
    rw [spec_l01Pow.l0, if_neg (by omega)]
    simp
  | succ d ih =>
    intro x i h0 h hx hb hn
    have e : x * 2 ^ (d + 1) = 2 * x * 2 ^ d := by rw [Int.pow_succ, ← Int.mul_assoc, Int.mul_comm (x * 2 ^ d) 2, ← Int.mul_assoc]
    have hp : (1 : Int) ≤ 2 ^ d := by have : (0 : Int) < 2 ^ d := Int.pow_pos (by omega); omega
    have h2 : 2 * x ≤ 2 * x * 2 ^ d := by
      have := Int.mul_le_mul_of_nonneg_left hp (show 0 ≤ 2 * x by omega)
      omega
    have h3 := ih (2 * x) (i + 1) (by omega) (by omega) (by omega) (by omega) hn
    rw [e]
    refine Ev.step (fun k => ?_) h3
    rw [spec_l01Pow.l0, if_pos (by omega), w64_id (x := 2 * x) (by omega) (by omega), w64_id (x := i + 1) (by omega) (by omega)]
theorem pow_is (n : Nat) (hn : n ≤ 62) : Ev (fun k => spec_l01Pow.f k (n : Int)) (2 ^ n) := by
  have hb : (2 : Int) ^ n ≤ 2 ^ 62 := by exact_mod_cast Nat.pow_le_pow_right (n := 2) (by omega) hn
  have h := pow_loop n n 1 0 (by omega) (by omega) (by omega) (by rw [Int.one_mul]; exact hb) (by omega)
  rw [Int.one_mul] at h
  exact h
theorem pow_at (n : Int) (h0 : 0 ≤ n) (hn : n ≤ 62) : Ev (fun k => spec_l01Pow.f k n) (2 ^ n.toNat) := by
  have h := pow_is n.toNat (by omega)
  rw [Int.toNat_of_nonneg h0] at h
  exact h

theorem rd_nat (l : List Int) (j : Nat) : rd l j = l.getD j 0 := by unfold rd; simp
theorem rd_getElem (l : List Int) (j : Nat) (h : j < l.length) : rd l j = l[j] := by rw [rd_nat, List.getD_eq_getElem?_getD, List.getElem?_eq_getElem h]; rfl
theorem rd_mem (l : List Int) (j : Nat) (h : j < l.length) : rd l j ∈ l := by rw [rd_getElem l j h]; exact List.getElem_mem h
theorem drop_rd (l : List Int) (j : Nat) (h : j < l.length) : l.drop j = rd l j :: l.drop (j + 1) := by rw [rd_getElem l j h]; exact List.drop_eq_getElem_cons h
theorem rd_set (l : List Int) (a : Nat) (v : Int) (j : Nat) (h : a < l.length) : rd (l.set a v) j = if j = a then v else rd l j := by
  rw [rd_nat, rd_nat, List.getD_eq_getElem?_getD, List.getD_eq_getElem?_getD, List.getElem?_set]
  by_cases e : j = a
  · subst e
    simp [h]
  · rw [if_neg (Ne.symm e), if_neg e]
theorem take_set_snoc (l : List Int) (j : Nat) (v : Int) (h : j < l.length) : (l.set j v).take (j + 1) = l.take j ++ [v] := by
  rw [List.take_succ_eq_append_getElem (by simpa using h)]
  simp [List.take_set_of_le]

/-- Are these lengths right. -/
def okL (l : List Int) : Bool := l.all fun x => decide (0 ≤ x ∧ x ≤ 15)
theorem room_loop (l : List Int) (hl : l.length ≤ 320) (d : Nat) : ∀ (j : Nat) (s : Int), j + d = l.length → 0 ≤ s → s ≤ 16384 * j → ∃ r, Ev (fun k => spec_l03Room.l0 k l s j) (r, okL (l.drop j)) := by
  induction d with
  | zero =>
    intro j s h s0 s1
    rw [List.drop_of_length_le (by omega)]
    exact ⟨s, ev_ret (fun k => by rw [spec_l03Room.l0, if_neg (by omega)]; rfl)⟩
  | succ d ih =>
    intro j s h s0 s1
    rw [drop_rd l j (by omega)]
    by_cases c : 0 ≤ rd l j ∧ rd l j ≤ 15
    · have e : okL (rd l j :: l.drop (j + 1)) = okL (l.drop (j + 1)) := by unfold okL; rw [List.all_cons, decide_eq_true c, Bool.true_and]
      rw [e]
      by_cases c1 : rd l j > 0
      · have w : wrap64 (15 - rd l j) = 15 - rd l j := w64_id (by omega) (by omega)
        have P := pow_at (15 - rd l j) (by omega) (by omega)
        have p0 : (0 : Int) < 2 ^ (15 - rd l j).toNat := Int.pow_pos (by omega)
        have p1 : (2 : Int) ^ (15 - rd l j).toNat ≤ 2 ^ 14 := by exact_mod_cast Nat.pow_le_pow_right (n := 2) (by omega) (show (15 - rd l j).toNat ≤ 14 by omega)
        obtain ⟨r, g⟩ := ih (j + 1) (s + 2 ^ (15 - rd l j).toNat) (by omega) (by omega) (by omega)
        refine ⟨r, ev_use_step P (fun k hk => ?_) g⟩
        rw [spec_l03Room.l0, if_pos (by omega), if_pos (by omega), in_spec, decide_eq_true c, Option.bind_some, if_pos rfl, if_pos c1, w, hk, Option.bind_some, w64_id (x := s + 2 ^ (15 - rd l j).toNat) (by omega) (by omega), w64_id (x := (j : Int) + 1) (by omega) (by omega)]
        rfl
      · obtain ⟨r, g⟩ := ih (j + 1) s (by omega) (by omega) (by omega)
        refine ⟨r, Ev.step (fun k => ?_) g⟩
        rw [spec_l03Room.l0, if_pos (by omega), if_pos (by omega), in_spec, decide_eq_true c, Option.bind_some, if_pos rfl, if_neg c1, w64_id (x := (j : Int) + 1) (by omega) (by omega)]
        rfl
    · have e : okL (rd l j :: l.drop (j + 1)) = false := by unfold okL; rw [List.all_cons, decide_eq_false c, Bool.false_and]
      rw [e]
      refine ⟨0, ev_ret (fun k => ?_)⟩
      rw [spec_l03Room.l0, if_pos (by omega), if_pos (by omega), in_spec, decide_eq_false c, Option.bind_some, if_neg (by decide)]
theorem l05Ok_is (l : List Int) : Ev (fun k => spec_l05Ok.f k l) (okL l && decide (l.length ≤ 320)) := by
  by_cases h : l.length ≤ 320
  · obtain ⟨r, e⟩ := room_loop l h l.length 0 0 (by omega) (by omega) (by omega)
    rw [decide_eq_true h, Bool.and_true]
    refine ev_end e (fun k hk => ?_)
    unfold spec_l05Ok.f spec_l03Room.f
    rw [if_neg (by omega)]
    have hk' : spec_l03Room.l0 k l 0 0 = some (r, okL l) := hk
    rw [hk', Option.bind_some]
  · rw [decide_eq_false h, Bool.and_false]
    refine Ev.congr (fun k => ?_) (Ev.now false)
    unfold spec_l05Ok.f spec_l03Room.f
    rw [if_pos (by omega), Option.bind_some]
theorem lensOk_loop (l : List Int) (hl : l.length ≤ 1048576) (m : Int) (d : Nat) : ∀ (j : Nat), j + d = l.length → Ev (fun k => impl_lengthsOk.l0 k l m l (l.length : Int) j) (okL (l.drop j) && decide ((l.length : Int) ≤ m)) := by
  induction d with
  | zero =>
    intro j h
    rw [List.drop_of_length_le (by omega)]
    exact ev_ret (fun k => by rw [impl_lengthsOk.l0, if_neg (by omega)]; rfl)
  | succ d ih =>
    intro j h
    rw [drop_rd l j (by omega)]
    by_cases c : 0 ≤ rd l j ∧ rd l j ≤ 15
    · have e : okL (rd l j :: l.drop (j + 1)) = okL (l.drop (j + 1)) := by unfold okL; rw [List.all_cons, decide_eq_true c, Bool.true_and]
      rw [e]
      refine Ev.step (fun k => ?_) (ih (j + 1) (by omega))
      rw [impl_lengthsOk.l0, if_pos (by omega), if_pos (by omega), if_pos (by omega), in_impl, decide_eq_true c, Option.bind_some, if_pos rfl, w64_id (x := (j : Int) + 1) (by omega) (by omega)]
      rfl
    · have e : okL (rd l j :: l.drop (j + 1)) = false := by unfold okL; rw [List.all_cons, decide_eq_false c, Bool.false_and]
      rw [e, Bool.false_and]
      refine ev_ret (fun k => ?_)
      rw [impl_lengthsOk.l0, if_pos (by omega), if_pos (by omega), if_pos (by omega), in_impl, decide_eq_false c, Option.bind_some, if_neg (by decide)]
theorem lensOk_is (l : List Int) (hl : l.length ≤ 1048576) (m : Int) : Ev (fun k => impl_lengthsOk.f k l m) (okL l && decide ((l.length : Int) ≤ m)) := lensOk_loop l hl m l.length 0 (by omega)
/-- How many of the first numbers of a list are x. -/
def lead (x : Int) : List Int → Nat
  | [] => 0
  | y :: ys => if y = x then lead x ys + 1 else 0
theorem lead_cons (x y : Int) (ys : List Int) : lead x (y :: ys) = if y = x then lead x ys + 1 else 0 := rfl
theorem lead_le (x : Int) : ∀ l : List Int, lead x l ≤ l.length
  | [] => Nat.le_refl _
  | y :: ys => by
    unfold lead
    have := lead_le x ys
    split
    · simp; omega
    · simp
theorem lead_take (x : Int) : ∀ (l : List Int) (n : Nat), n ≤ lead x l → l.take n = List.replicate n x
  | [], n, h => by
    simp [lead] at h
    subst h
    rfl
  | y :: ys, 0, h => rfl
  | y :: ys, n + 1, h => by
    unfold lead at h
    split at h
    · rename_i e
      subst e
      rw [List.take_succ_cons, lead_take y ys n (by omega), List.replicate_succ]
    · omega
theorem same_spec (l : List Int) (hl : l.length ≤ 320) (i : Nat) (hi : i ≤ l.length) (x : Int) (m : Nat) (hm : m ≤ 138) (d : Nat) : ∀ n : Nat, n + d = m → i + n ≤ l.length →
    Ev (fun k => spec_l05Same.l0 k l i x m n) ((n + min (m - n) (lead x (l.drop (i + n))) : Nat) : Int) := by
  induction d with
  | zero =>
    intro n h hn
    refine ev_ret (fun k => ?_)
    rw [spec_l05Same.l0, w64_id (x := (i : Int) + n) (by omega) (by omega)]
    have e : n + min (m - n) (lead x (l.drop (i + n))) = n := by omega
    rw [e]
    split
    · rw [if_neg (by omega)]
    · rfl
  | succ d ih =>
    intro n h hn
    by_cases c : i + n < l.length
    · rw [drop_rd l (i + n) c]
      by_cases c1 : rd l ((i + n : Nat) : Int) = x
      · have e : n + min (m - n) (lead x (rd l ((i + n : Nat) : Int) :: l.drop (i + n + 1))) = (n + 1) + min (m - (n + 1)) (lead x (l.drop (i + (n + 1)))) := by
          rw [lead_cons, if_pos c1, ← Nat.add_assoc]
          omega
        rw [e]
        refine Ev.step (fun k => ?_) (ih (n + 1) (by omega) (by omega))
        rw [spec_l05Same.l0, w64_id (x := (i : Int) + n) (by omega) (by omega), if_pos (by omega), if_pos (by omega), if_pos (by omega), w64_id (x := (n : Int) + 1) (by omega) (by omega)]
        rw [show ((i : Int) + (n : Int)) = ((i + n : Nat) : Int) by omega, if_pos c1]
        rfl
      · have e : n + min (m - n) (lead x (rd l ((i + n : Nat) : Int) :: l.drop (i + n + 1))) = n := by
          rw [lead_cons, if_neg c1]
          omega
        rw [e]
        refine ev_ret (fun k => ?_)
        rw [spec_l05Same.l0, w64_id (x := (i : Int) + n) (by omega) (by omega), if_pos (by omega), if_pos (by omega), if_pos (by omega)]
        rw [show ((i : Int) + (n : Int)) = ((i + n : Nat) : Int) by omega, if_neg c1]
    · rw [List.drop_of_length_le (by omega)]
      have e : n + min (m - n) (lead x []) = n := by simp [lead]
      rw [e]
      refine ev_ret (fun k => ?_)
      rw [spec_l05Same.l0, w64_id (x := (i : Int) + n) (by omega) (by omega), if_neg (by omega)]
theorem same_impl (l : List Int) (hl : l.length ≤ 320) (i : Nat) (hi : i ≤ l.length) (x : Int) (d : Nat) : ∀ n : Nat, i + n + d = l.length →
    Ev (fun k => impl_sameFrom.l0 k l i x n) ((n + lead x (l.drop (i + n)) : Nat) : Int) := by
  induction d with
  | zero =>
    intro n h
    refine ev_ret (fun k => ?_)
    rw [impl_sameFrom.l0, w64_id (x := (i : Int) + n) (by omega) (by omega), if_neg (by omega), List.drop_of_length_le (by omega)]
    rfl
  | succ d ih =>
    intro n h
    rw [drop_rd l (i + n) (by omega)]
    by_cases c1 : rd l ((i + n : Nat) : Int) = x
    · have e : n + lead x (rd l ((i + n : Nat) : Int) :: l.drop (i + n + 1)) = (n + 1) + lead x (l.drop (i + (n + 1))) := by
        rw [lead_cons, if_pos c1, show i + (n + 1) = i + n + 1 by omega]
        omega
      rw [e]
      refine Ev.step (fun k => ?_) (ih (n + 1) (by omega))
      rw [impl_sameFrom.l0, w64_id (x := (i : Int) + n) (by omega) (by omega), if_pos (by omega), if_pos (by omega), w64_id (x := (n : Int) + 1) (by omega) (by omega)]
      rw [show ((i : Int) + (n : Int)) = ((i + n : Nat) : Int) by omega, if_pos c1]
      rfl
    · have e : n + lead x (rd l ((i + n : Nat) : Int) :: l.drop (i + n + 1)) = n := by
        rw [lead_cons, if_neg c1]
        rfl
      rw [e]
      refine ev_ret (fun k => ?_)
      rw [impl_sameFrom.l0, w64_id (x := (i : Int) + n) (by omega) (by omega), if_pos (by omega), if_pos (by omega)]
      rw [show ((i : Int) + (n : Int)) = ((i + n : Nat) : Int) by omega, if_neg c1]

/-- The run at a place: its symbol, its extra, how many lengths it tells. -/
def stepAt (l : List Int) (i : Nat) : Int × Int × Nat :=
  if 11 ≤ lead 0 (l.drop i) then (18, (min (lead 0 (l.drop i)) 138 : Nat) - 11, min (lead 0 (l.drop i)) 138)
  else if 3 ≤ lead 0 (l.drop i) then (17, (lead 0 (l.drop i) : Nat) - 3, lead 0 (l.drop i))
  else if 0 < i ∧ 3 ≤ lead (rd l ((i - 1 : Nat) : Int)) (l.drop i) then (16, (min (lead (rd l ((i - 1 : Nat) : Int)) (l.drop i)) 6 : Nat) - 3, min (lead (rd l ((i - 1 : Nat) : Int)) (l.drop i)) 6)
  else (rd l i, 0, 1)
theorem step_bd (l : List Int) (i : Nat) (hi : i < l.length) : 1 ≤ (stepAt l i).2.2 ∧ i + (stepAt l i).2.2 ≤ l.length := by
  have h0 := lead_le 0 (l.drop i)
  have h1 := lead_le (rd l ((i - 1 : Nat) : Int)) (l.drop i)
  rw [List.length_drop] at h0 h1
  unfold stepAt
  split
  · dsimp only; omega
  · split
    · dsimp only; omega
    · split
      · dsimp only; omega
      · dsimp only; omega
/-- The runs from a place on. -/
def runsL (l : List Int) : Nat → Nat → List S42
  | 0, _ => []
  | f + 1, i => if i < l.length then ⟨(stepAt l i).1, (stepAt l i).2.1⟩ :: runsL l f (i + (stepAt l i).2.2) else []
theorem runsL_len (l : List Int) : ∀ (f i : Nat), i ≤ l.length → (runsL l f i).length ≤ l.length - i
  | 0, _, _ => Nat.zero_le _
  | f + 1, i, h => by
    unfold runsL
    split
    · rename_i hi
      have b := step_bd l i hi
      have := runsL_len l f (i + (stepAt l i).2.2) (by omega)
      rw [List.length_cons]
      omega
    · exact Nat.zero_le _
theorem runAt_is (l : List Int) (hl : l.length ≤ 320) (i : Nat) (hi : i < l.length) : Ev (fun k => impl_runAt.f k l i) ((stepAt l i).1, (stepAt l i).2.1, ((stepAt l i).2.2 : Int)) := by
  have h0 := lead_le 0 (l.drop i)
  have h1 := lead_le (rd l ((i - 1 : Nat) : Int)) (l.drop i)
  rw [List.length_drop] at h0 h1
  have z := same_impl l hl i (by omega) 0 (l.length - i) 0 (by omega)
  rw [Nat.zero_add] at z
  have p := same_impl l hl i (by omega) (rd l ((i - 1 : Nat) : Int)) (l.length - i) 0 (by omega)
  rw [Nat.zero_add] at p
  have e1 : ∀ k, impl_runAt.f k l i = (impl_sameFrom.l0 k l i 0 ((0 : Nat) : Int)).bind fun t138 => (if t138 ≥ 11 then (some (18, wrap64 ((mn t138 138) - 11), mn t138 138)) else (if t138 ≥ 3 then (some (17, wrap64 (t138 - 3), t138)) else (if (i : Int) > 0 then (if 0 ≤ (wrap64 ((i : Int) - 1)) then (if (wrap64 ((i : Int) - 1)) < (l.length : Int) then ((impl_sameFrom.l0 k l i (rd l (wrap64 ((i : Int) - 1))) ((0 : Nat) : Int)).bind fun t140 => (if (mn t140 6) ≥ 3 then (some (16, wrap64 ((mn t140 6) - 3), mn t140 6)) else (if 0 ≤ (i : Int) then (if (i : Int) < (l.length : Int) then (some (rd l i, 0, 1)) else (none)) else (none)))) else (none)) else (none)) else (if 0 ≤ (i : Int) then (if (i : Int) < (l.length : Int) then (some (rd l i, 0, 1)) else (none)) else (none))))) := fun k => rfl
  have cast0 : l.drop (i + 0) = l.drop i := rfl
  unfold stepAt
  by_cases c0 : 11 ≤ lead 0 (l.drop i)
  · rw [if_pos c0]
    refine ev_end z (fun k hk => ?_)
    rw [e1, hk, Option.bind_some, if_pos (by simp; omega)]
    have m : mn ((lead 0 (l.drop (i + 0)) : Nat) : Int) 138 = ((min (lead 0 (l.drop i)) 138 : Nat) : Int) := by unfold mn; rw [cast0]; split <;> omega
    rw [m, w64_id (by omega) (by omega)]
  · rw [if_neg c0]
    by_cases c1 : 3 ≤ lead 0 (l.drop i)
    · rw [if_pos c1]
      refine ev_end z (fun k hk => ?_)
      rw [e1, hk, Option.bind_some, cast0, if_neg (by omega), if_pos (by omega), w64_id (by omega) (by omega)]
    · rw [if_neg c1]
      by_cases c2 : 0 < i
      · have w : wrap64 ((i : Int) - 1) = ((i - 1 : Nat) : Int) := by rw [w64_id (by omega) (by omega)]; omega
        have m : mn ((lead (rd l ((i - 1 : Nat) : Int)) (l.drop (i + 0)) : Nat) : Int) 6 = ((min (lead (rd l ((i - 1 : Nat) : Int)) (l.drop i)) 6 : Nat) : Int) := by unfold mn; rw [cast0]; split <;> omega
        obtain ⟨K1, z⟩ := z
        obtain ⟨K2, p⟩ := p
        by_cases c3 : 3 ≤ lead (rd l ((i - 1 : Nat) : Int)) (l.drop i)
        · rw [if_pos ⟨c2, c3⟩]
          refine ⟨max K1 K2, fun k hk => ?_⟩
          have z := z k (by omega)
          have p := p k (by omega)
          dsimp only at z p ⊢
          rw [e1, z, Option.bind_some, cast0, if_neg (by omega), if_neg (by omega), if_pos (by omega), w, if_pos (by omega), if_pos (by omega), p, Option.bind_some, m, if_pos (by omega), w64_id (by omega) (by omega)]
        · rw [if_neg (fun h => c3 h.2)]
          refine ⟨max K1 K2, fun k hk => ?_⟩
          have z := z k (by omega)
          have p := p k (by omega)
          dsimp only at z p ⊢
          rw [e1, z, Option.bind_some, cast0, if_neg (by omega), if_neg (by omega), if_pos (by omega), w, if_pos (by omega), if_pos (by omega), p, Option.bind_some, m, if_neg (by omega), if_pos (by omega), if_pos (by omega)]
          rfl
      · rw [if_neg (fun h => c2 h.1)]
        refine ev_end z (fun k hk => ?_)
        rw [e1, hk, Option.bind_some, cast0, if_neg (by omega), if_neg (by omega), if_neg (by omega), if_pos (by omega), if_pos (by omega)]
        rfl
theorem runs_impl (l : List Int) (hl : l.length ≤ 320) (f : Nat) : ∀ (i : Nat) (o : List S42), i ≤ l.length → l.length - i ≤ f → o.length ≤ i → Ev (fun k => impl_RunsOf.l0 k l o i) (o ++ runsL l f i, true) := by
  induction f with
  | zero =>
    intro i o hi hf ho
    exact ev_ret (fun k => by rw [impl_RunsOf.l0, if_neg (by omega), runsL, List.append_nil])
  | succ f ih =>
    intro i o hi hf ho
    unfold runsL
    by_cases c : i < l.length
    · rw [if_pos c]
      have b := step_bd l i c
      have g := ih (i + (stepAt l i).2.2) (o ++ [⟨(stepAt l i).1, (stepAt l i).2.1⟩]) (by omega) (by omega) (by simp; omega)
      rw [List.append_assoc, List.singleton_append] at g
      refine ev_use_step (runAt_is l hl i c) (fun k hk => ?_) g
      rw [impl_RunsOf.l0, if_pos (by omega), hk, Option.bind_some, if_pos (by omega)]
      dsimp only
      rw [w64_id (by omega) (by omega)]
      rfl
    · rw [if_neg c]
      exact ev_ret (fun k => by rw [impl_RunsOf.l0, if_neg (by omega), List.append_nil])
theorem runs_spec (l : List Int) (hl : l.length ≤ 320) (f : Nat) : ∀ (i : Nat) (o : List S42), i ≤ l.length → l.length - i ≤ f → o.length ≤ i → Ev (fun k => spec_RunsOf.l0 k l o i) (o ++ runsL l f i, true) := by
  induction f with
  | zero =>
    intro i o hi hf ho
    exact ev_ret (fun k => by rw [spec_RunsOf.l0, if_neg (by omega), runsL, List.append_nil])
  | succ f ih =>
    intro i o hi hf ho
    unfold runsL
    by_cases c : i < l.length
    · rw [if_pos c]
      have b := step_bd l i c
      have g := ih (i + (stepAt l i).2.2) (o ++ [⟨(stepAt l i).1, (stepAt l i).2.1⟩]) (by omega) (by omega) (by simp; omega)
      rw [List.append_assoc, List.singleton_append] at g
      have h0 := lead_le 0 (l.drop i)
      have h1 := lead_le (rd l ((i - 1 : Nat) : Int)) (l.drop i)
      rw [List.length_drop] at h0 h1
      have z := same_spec l hl i hi 0 138 (by omega) 138 0 (by omega) (by omega)
      have p := same_spec l hl i hi (rd l ((i - 1 : Nat) : Int)) 6 (by omega) 6 0 (by omega) (by omega)
      rw [Nat.zero_add, Nat.sub_zero] at z p
      -- what j1 does with the two numbers
      have j : ∀ s : Int, (s = if 0 < i then ((min 6 (lead (rd l ((i - 1 : Nat) : Int)) (l.drop i)) : Nat) : Int) else 0) → Ev (fun k => spec_RunsOf.j1 k l o i ((min 138 (lead 0 (l.drop i)) : Nat) : Int) s) (o ++ ⟨(stepAt l i).1, (stepAt l i).2.1⟩ :: runsL l f (i + (stepAt l i).2.2), true) := by
        intro s hs
        refine Ev.step (fun k => ?_) g
        rw [spec_RunsOf.j1]
        unfold stepAt at b ⊢
        by_cases c0 : 11 ≤ lead 0 (l.drop i)
        · rw [if_pos c0] at b ⊢
          dsimp only at b ⊢
          rw [if_pos (by omega), if_pos (by omega), w64_id (x := ((min 138 (lead 0 (l.drop i)) : Nat) : Int) - 11) (by omega) (by omega), w64_id (by omega) (by omega), Nat.min_comm]
          rfl
        · rw [if_neg c0] at b ⊢
          by_cases c1 : 3 ≤ lead 0 (l.drop i)
          · rw [if_pos c1] at b ⊢
            dsimp only at b ⊢
            have m : min 138 (lead 0 (l.drop i)) = lead 0 (l.drop i) := by omega
            rw [m, if_neg (by omega), if_pos (by omega), if_pos (by omega), w64_id (x := ((lead 0 (l.drop i) : Nat) : Int) - 3) (by omega) (by omega), w64_id (by omega) (by omega)]
            rfl
          · rw [if_neg c1] at b ⊢
            by_cases c2 : 0 < i ∧ 3 ≤ lead (rd l ((i - 1 : Nat) : Int)) (l.drop i)
            · rw [if_pos c2] at b ⊢
              rw [if_pos c2.1] at hs
              subst hs
              dsimp only at b ⊢
              rw [if_neg (by omega), if_neg (by omega), if_pos (by omega), if_pos (by omega), w64_id (x := ((min 6 (lead (rd l ((i - 1 : Nat) : Int)) (l.drop i)) : Nat) : Int) - 3) (by omega) (by omega), w64_id (by omega) (by omega), Nat.min_comm]
              rfl
            · rw [if_neg c2] at b ⊢
              dsimp only at b ⊢
              have hs3 : ¬ s ≥ 3 := by
                rw [hs]
                split
                · omega
                · omega
              rw [if_neg (by omega), if_neg (by omega), if_neg hs3, if_pos (by omega), if_pos (by omega), if_pos (by omega), w64_id (by omega) (by omega)]
              rfl
      obtain ⟨K1, z⟩ := z
      obtain ⟨K2, p⟩ := p
      by_cases c2 : 0 < i
      · have w : wrap64 ((i : Int) - 1) = ((i - 1 : Nat) : Int) := by rw [w64_id (by omega) (by omega)]; omega
        obtain ⟨K3, jj⟩ := j _ rfl
        refine ⟨max (max K1 K2) K3 + 1, fun k hk => ?_⟩
        obtain ⟨k, rfl⟩ : ∃ m, k = m + 1 := ⟨k - 1, by omega⟩
        have z := z k (by omega)
        have p := p k (by omega)
        have jj := jj k (by omega)
        have z' : spec_l05Same.f k l i 0 138 = some ((min 138 (lead 0 (l.drop i)) : Nat) : Int) := z
        have p' : spec_l05Same.f k l i (rd l ((i - 1 : Nat) : Int)) 6 = some ((min 6 (lead (rd l ((i - 1 : Nat) : Int)) (l.drop i)) : Nat) : Int) := p
        rw [if_pos c2] at jj
        show spec_RunsOf.l0 (k + 1) l o i = _
        rw [spec_RunsOf.l0, if_pos (by omega), z', Option.bind_some, if_pos (by omega), w, if_pos (by omega), if_pos (by omega), p', Option.bind_some]
        exact jj
      · obtain ⟨K3, jj⟩ := j _ rfl
        refine ⟨max K1 K3 + 1, fun k hk => ?_⟩
        obtain ⟨k, rfl⟩ : ∃ m, k = m + 1 := ⟨k - 1, by omega⟩
        have z := z k (by omega)
        have jj := jj k (by omega)
        have z' : spec_l05Same.f k l i 0 138 = some ((min 138 (lead 0 (l.drop i)) : Nat) : Int) := z
        rw [if_neg c2] at jj
        show spec_RunsOf.l0 (k + 1) l o i = _
        rw [spec_RunsOf.l0, if_pos (by omega), z', Option.bind_some, if_neg (by omega)]
        exact jj
    · rw [if_neg c]
      exact ev_ret (fun k => by rw [spec_RunsOf.l0, if_neg (by omega), List.append_nil])
/-- The runs of lengths. -/
def runsOf (l : List Int) : List S42 × Bool := if okL l = true ∧ l.length ≤ 320 then (runsL l l.length 0, true) else ([], false)
theorem runs_both (l : List Int) (hl : l.length ≤ 1048576) : Ev (fun k => spec_RunsOf.f k l) (runsOf l) ∧ Ev (fun k => impl_RunsOf.f k l) (runsOf l) := by
  have a := l05Ok_is l
  have b := lensOk_is l hl 320
  unfold runsOf
  by_cases c : okL l = true ∧ l.length ≤ 320
  · rw [if_pos c]
    rw [c.1, decide_eq_true c.2] at a
    rw [c.1, decide_eq_true (by omega)] at b
    have s := runs_spec l c.2 l.length 0 [] (by omega) (by omega) (by simp)
    have i := runs_impl l c.2 l.length 0 [] (by omega) (by omega) (by simp)
    rw [List.nil_append] at s i
    constructor
    · refine ev_use a (fun k hk => ?_) s
      have hk' : spec_l05Ok.f k l = some true := hk
      show spec_RunsOf.f k l = _
      unfold spec_RunsOf.f
      rw [Option.bind_some, hk', Option.bind_some, if_pos rfl]
      rfl
    · refine ev_use b (fun k hk => ?_) i
      have hk' : impl_lengthsOk.f k l 320 = some true := hk
      show impl_RunsOf.f k l = _
      unfold impl_RunsOf.f
      rw [hk', Option.bind_some, if_pos rfl]
      rfl
  · rw [if_neg c]
    have f1 : (okL l && decide (l.length ≤ 320)) = false := by
      by_cases c1 : okL l = true
      · rw [c1, decide_eq_false (fun h => c ⟨c1, h⟩)]; rfl
      · have : okL l = false := by simpa using c1
        rw [this]; rfl
    have f2 : (okL l && decide ((l.length : Int) ≤ 320)) = false := by
      by_cases c1 : okL l = true
      · rw [c1, decide_eq_false (fun h => c ⟨c1, by omega⟩)]; rfl
      · have : okL l = false := by simpa using c1
        rw [this]; rfl
    rw [f1] at a
    rw [f2] at b
    constructor
    · refine ev_end a (fun k hk => ?_)
      have hk' : spec_l05Ok.f k l = some false := hk
      show spec_RunsOf.f k l = _
      unfold spec_RunsOf.f
      rw [Option.bind_some, hk', Option.bind_some, if_neg (by decide)]
    · refine ev_end b (fun k hk => ?_)
      have hk' : impl_lengthsOk.f k l 320 = some false := hk
      show impl_RunsOf.f k l = _
      unfold impl_RunsOf.f
      rw [hk', Option.bind_some, if_neg (by decide)]
theorem runsOf_len (l : List Int) : (runsOf l).1.length ≤ 320 := by
  unfold runsOf
  split
  · rename_i h
    have := runsL_len l l.length 0 (by omega)
    dsimp only
    omega
  · simp

theorem gd_at {α : Type} (l : List α) (z : α) (j : Nat) (h : j < l.length) : l.getD (j : Int).toNat z = l[j] := by rw [Int.toNat_natCast, List.getD_eq_getElem?_getD, List.getElem?_eq_getElem h]; rfl
theorem gd_drop {α : Type} (l : List α) (z : α) (j : Nat) (h : j < l.length) : l.drop j = l.getD (j : Int).toNat z :: l.drop (j + 1) := by rw [gd_at l z j h]; exact List.drop_eq_getElem_cons h
theorem g_take_set {α : Type} (l : List α) (j : Nat) (v : α) (h : j < l.length) : (l.set j v).take (j + 1) = l.take j ++ [v] := by
  rw [List.take_succ_eq_append_getElem (by simpa using h)]
  simp [List.take_set_of_le]

/-- What a run tells behind some lengths; none: it is none. -/
def tellR (o : List Int) (s e : Int) : Option (List Int) :=
  if s = 16 then (if 0 ≤ e ∧ e ≤ 3 ∧ 0 < o.length then some (List.replicate (3 + e).toNat (rd o ((o.length - 1 : Nat) : Int))) else none)
  else if s = 17 then (if 0 ≤ e ∧ e ≤ 7 then some (List.replicate (3 + e).toNat 0) else none)
  else if s = 18 then (if 0 ≤ e ∧ e ≤ 127 then some (List.replicate (11 + e).toNat 0) else none)
  else if 0 ≤ s ∧ s ≤ 15 ∧ e = 0 then some [s] else none
theorem tellR_len (o : List Int) (s e : Int) (m : List Int) (h : tellR o s e = some m) : 1 ≤ m.length ∧ m.length ≤ 138 := by
  unfold tellR at h
  split at h
  · split at h
    · rename_i c
      obtain rfl := Option.some.inj h
      rw [List.length_replicate]
      omega
    · cases h
  · split at h
    · split at h
      · rename_i c
        obtain rfl := Option.some.inj h
        rw [List.length_replicate]
        omega
      · cases h
    · split at h
      · split at h
        · rename_i c
          obtain rfl := Option.some.inj h
          rw [List.length_replicate]
          omega
        · cases h
      · split at h
        · obtain rfl := Option.some.inj h
          simp
        · cases h
theorem told_loop (x : Int) (n : Nat) (hn : n ≤ 138) (d : Nat) : ∀ (j : Nat) (o : List Int), j + d = n → o.length ≤ 1048576 + j → Ev (fun k => impl_told.l0 k o x n j) (o ++ List.replicate (n - j) x) := by
  induction d with
  | zero =>
    intro j o h ho
    refine ev_ret (fun k => ?_)
    rw [impl_told.l0, if_neg (by omega), show n - j = 0 by omega]
    simp
  | succ d ih =>
    intro j o h ho
    have g := ih (j + 1) (o ++ [x]) (by omega) (by simp; omega)
    rw [List.append_assoc, List.singleton_append, ← List.replicate_succ, show n - (j + 1) + 1 = n - j by omega] at g
    refine Ev.step (fun k => ?_) g
    rw [impl_told.l0, if_pos (by omega), if_pos (by omega), w64_id (x := (j : Int) + 1) (by omega) (by omega)]
    rfl
theorem told_is (o : List Int) (ho : o.length ≤ 1048576) (s e : Int) (m : List Int) (h : tellR o s e = some m) : Ev (fun k => impl_told.f k o s e) (o ++ m) := by
  have J : ∀ (x : Int) (n : Int) (_ : 0 ≤ n) (_ : n ≤ 138), Ev (fun k => impl_told.j0 k o x n) (o ++ List.replicate n.toNat x) := by
    intro x n h0 h1
    obtain ⟨n, rfl⟩ := Int.eq_ofNat_of_zero_le h0
    have g := told_loop x n (by omega) n 0 o (by omega) (by omega)
    exact Ev.step (fun k => by rw [impl_told.j0]; rfl) g
  unfold tellR at h
  split at h
  · rename_i c16
    split at h
    · rename_i c
      obtain rfl := Option.some.inj h
      refine Ev.congr (fun k => ?_) (J (rd o ((o.length - 1 : Nat) : Int)) (3 + e) (by omega) (by omega))
      have w : wrap64 ((o.length : Int) - 1) = ((o.length - 1 : Nat) : Int) := by rw [w64_id (by omega) (by omega)]; omega
      unfold impl_told.f
      rw [if_pos c16, w, if_pos (by omega), if_pos (by omega), w64_id (by omega) (by omega)]
    · cases h
  · rename_i c16
    split at h
    · rename_i c17
      split at h
      · rename_i c
        obtain rfl := Option.some.inj h
        refine Ev.congr (fun k => ?_) (J 0 (3 + e) (by omega) (by omega))
        unfold impl_told.f
        rw [if_neg c16, if_pos c17, w64_id (by omega) (by omega)]
      · cases h
    · rename_i c17
      split at h
      · rename_i c18
        split at h
        · rename_i c
          obtain rfl := Option.some.inj h
          refine Ev.congr (fun k => ?_) (J 0 (11 + e) (by omega) (by omega))
          unfold impl_told.f
          rw [if_neg c16, if_neg c17, if_pos c18, w64_id (by omega) (by omega)]
        · cases h
      · rename_i c18
        split at h
        · obtain rfl := Option.some.inj h
          refine Ev.congr (fun k => ?_) (J s 1 (by omega) (by omega))
          unfold impl_told.f
          rw [if_neg c16, if_neg c17, if_neg c18]
        · cases h
theorem extra_pow (s : Int) : ∃ b, impl_ExtraBits.f s = some b ∧ impl_powerOf.f b = some (if s = 16 then 4 else if s = 17 then 8 else if s = 18 then 128 else 1) ∧ shl .i64 1 b = (if s = 16 then 4 else if s = 17 then 8 else if s = 18 then 128 else 1) ∧ 0 ≤ b := by
  unfold impl_ExtraBits.f
  by_cases c16 : s = 16
  · rw [if_pos c16, if_pos c16]
    exact ⟨2, rfl, by decide +kernel, by decide +kernel, by decide⟩
  · rw [if_neg c16, if_neg c16]
    by_cases c17 : s = 17
    · rw [if_pos c17, if_pos c17]
      exact ⟨3, rfl, by decide +kernel, by decide +kernel, by decide⟩
    · rw [if_neg c17, if_neg c17]
      by_cases c18 : s = 18
      · rw [if_pos c18, if_pos c18]
        exact ⟨7, rfl, by decide +kernel, by decide +kernel, by decide⟩
      · rw [if_neg c18, if_neg c18]
        exact ⟨0, rfl, by decide +kernel, by decide +kernel, by decide⟩
theorem runOk_is (s e : Int) : impl_runOk.f s e = some (decide (0 ≤ s ∧ s ≤ 18 ∧ 0 ≤ e ∧ e ≤ (if s = 16 then 4 else if s = 17 then 8 else if s = 18 then 128 else 1) - 1)) := by
  obtain ⟨b, h1, h2, _, _⟩ := extra_pow s
  unfold impl_runOk.f
  rw [in_impl, Option.bind_some]
  by_cases c : 0 ≤ s ∧ s ≤ 18
  · rw [if_pos (decide_eq_true c), h1, Option.bind_some, h2, Option.bind_some, in_impl, Option.bind_some]
    congr 1
    rw [decide_eq_decide, w64_id (by split <;> (try split) <;> (try split) <;> omega) (by split <;> (try split) <;> (try split) <;> omega)]
    constructor
    · intro h; exact ⟨c.1, c.2, h.1, h.2⟩
    · intro h; exact ⟨h.2.2.1, h.2.2.2⟩
  · rw [if_neg (by simpa using c)]
    congr 1
    symm
    exact decide_eq_false (fun h => c ⟨h.1, h.2.1⟩)
/-- A run is right where it tells something behind lengths that are there. -/
theorem runOk_tell (o : List Int) (s e : Int) (ho : 0 < o.length ∨ s ≠ 16) : impl_runOk.f s e = some (tellR o s e).isSome := by
  rw [runOk_is]
  congr 1
  unfold tellR
  by_cases c16 : s = 16
  · rw [if_pos c16, if_pos c16]
    by_cases c : 0 ≤ e ∧ e ≤ 3 ∧ 0 < o.length
    · rw [if_pos c]; exact decide_eq_true (by omega)
    · rw [if_neg c]; exact decide_eq_false (by omega)
  · rw [if_neg c16, if_neg c16]
    by_cases c17 : s = 17
    · rw [if_pos c17, if_pos c17]
      by_cases c : 0 ≤ e ∧ e ≤ 7
      · rw [if_pos c]; exact decide_eq_true (by omega)
      · rw [if_neg c]; exact decide_eq_false (by omega)
    · rw [if_neg c17, if_neg c17]
      by_cases c18 : s = 18
      · rw [if_pos c18, if_pos c18]
        by_cases c : 0 ≤ e ∧ e ≤ 127
        · rw [if_pos c]; exact decide_eq_true (by omega)
        · rw [if_neg c]; exact decide_eq_false (by omega)
      · rw [if_neg c18, if_neg c18]
        by_cases c : 0 ≤ s ∧ s ≤ 15 ∧ e = 0
        · rw [if_pos c]; exact decide_eq_true (by omega)
        · rw [if_neg c]; exact decide_eq_false (by omega)
/-- Runs, told one behind the other. -/
def backR (n : Int) : List S42 → List Int → List Int × Bool
  | [], o => if (o.length : Int) = n then (o, true) else ([], false)
  | r :: rs, o => match tellR o r.f0 r.f1 with
    | none => ([], false)
    | some m => if ((o ++ m).length : Int) > n then ([], false) else backR n rs (o ++ m)
theorem backR_len (n : Int) (h0 : 0 ≤ n) : ∀ (l : List S42) (o : List Int), ((backR n l o).1.length : Int) ≤ n
  | [], o => by
    unfold backR
    split
    · rename_i h; dsimp only; omega
    · simpa using h0
  | r :: rs, o => by
    unfold backR
    split
    · simpa using h0
    · split
      · simpa using h0
      · exact backR_len n h0 rs _
theorem back_impl (l : List S42) (hl : l.length ≤ 1048576) (n : Int) (hn : n ≤ 320) (d : Nat) : ∀ (j : Nat) (o : List Int), j + d = l.length → o.length ≤ 320 → (o = [] ↔ j = 0) →
    Ev (fun k => impl_RunsBack.l0 k n o l (l.length : Int) j) (backR n (l.drop j) o) := by
  induction d with
  | zero =>
    intro j o h ho hz
    rw [List.drop_of_length_le (by omega), backR]
    refine ev_ret (fun k => ?_)
    rw [impl_RunsBack.l0, if_neg (by omega)]
    split <;> rfl
  | succ d ih =>
    intro j o h ho hz
    have hj : j < l.length := by omega
    have dr : l.drop j = rd_T42 l j :: l.drop (j + 1) := gd_drop l _ j hj
    rw [dr, backR]
    generalize hr : rd_T42 l j = r
    have go : ∀ m, tellR o r.f0 r.f1 = some m → Ev (fun k => impl_RunsBack.j1 k n o l (l.length : Int) j false r.f0 r.f1) (if ((o ++ m).length : Int) > n then ([], false) else backR n (l.drop (j + 1)) (o ++ m)) := by
      intro m hm
      have hml := tellR_len o _ _ m hm
      by_cases c : ((o ++ m).length : Int) > n
      · rw [if_pos c]
        refine ev_use_step (told_is o (by omega) _ _ m hm) (fun k hk => ?_) (Ev.now _)
        rw [impl_RunsBack.j1, if_neg (by decide), hk, Option.bind_some, if_pos c]
      · rw [if_neg c]
        refine ev_use_step (told_is o (by omega) _ _ m hm) (fun k hk => ?_) (ih (j + 1) (o ++ m) (by omega) (by omega) ?_)
        · rw [impl_RunsBack.j1, if_neg (by decide), hk, Option.bind_some, if_neg c, w64_id (x := (j : Int) + 1) (by omega) (by omega)]
          rfl
        · constructor
          · intro h1
            have := congrArg List.length h1
            simp at this
            have := this.2
            subst this
            simp at hml
          · intro h1; omega
    have no : Ev (fun k => impl_RunsBack.j1 k n o l (l.length : Int) j true r.f0 r.f1) ([], false) := ev_ret (fun k => by rw [impl_RunsBack.j1, if_pos rfl])
    by_cases h16 : j = 0 ∧ r.f0 = 16
    · obtain ⟨h0, h16⟩ := h16
      have ho0 := hz.2 h0
      have t : tellR o r.f0 r.f1 = none := by
        unfold tellR
        rw [if_pos h16, if_neg (by rw [ho0]; simp)]
      rw [t]
      dsimp only
      refine Ev.step (fun k => ?_) no
      rw [impl_RunsBack.l0, if_pos (by omega), if_pos (by omega), if_pos (by omega), hr, runOk_is, Option.bind_some]
      have e0 : (j : Int) = 0 := by omega
      have e1 : (r.f0 == 16) = true := by rw [h16]; rfl
      rw [if_pos e0, e1, ite_self]
    · have hok : impl_runOk.f r.f0 r.f1 = some (tellR o r.f0 r.f1).isSome := runOk_tell o _ _ (by
        by_cases c : j = 0
        · right; intro h; exact h16 ⟨c, h⟩
        · left
          rcases Nat.eq_zero_or_pos o.length with h | h
          · exact absurd (hz.1 (List.eq_nil_of_length_eq_zero h)) c
          · exact h)
      have e16 : ¬ ((j : Int) = 0 ∧ r.f0 = 16) := fun h => h16 ⟨by omega, h.2⟩
      cases hm : tellR o r.f0 r.f1 with
      | none =>
        dsimp only
        rw [hm] at hok
        refine Ev.step (fun k => ?_) no
        rw [impl_RunsBack.l0, if_pos (by omega), if_pos (by omega), if_pos (by omega), hr, hok, Option.bind_some, if_neg (by decide)]
      | some m =>
        dsimp only
        rw [hm] at hok
        refine Ev.step (fun k => ?_) (go m hm)
        rw [impl_RunsBack.l0, if_pos (by omega), if_pos (by omega), if_pos (by omega), hr, hok, Option.bind_some, if_pos (show (some m).isSome = true from rfl)]
        split
        · rename_i h0
          have : (r.f0 == 16) = false := by
            rw [beq_eq_false_iff_ne]
            exact fun h => e16 ⟨h0, h⟩
          rw [this]
        · rfl
theorem back_impl_is (l : List S42) (hl : l.length ≤ 1048576) (n : Int) : Ev (fun k => impl_RunsBack.f k l n) (if 0 ≤ n ∧ n ≤ 320 then backR n l [] else ([], false)) := by
  by_cases c : 0 ≤ n ∧ n ≤ 320
  · rw [if_pos c]
    refine Ev.congr (fun k => ?_) (back_impl l hl n c.2 l.length 0 [] (by omega) (by simp) (by simp))
    unfold impl_RunsBack.f
    rw [in_impl, decide_eq_true c, Option.bind_some, if_pos rfl]
    rfl
  · rw [if_neg c]
    refine Ev.congr (fun k => ?_) (Ev.now _)
    unfold impl_RunsBack.f
    rw [in_impl, decide_eq_false c, Option.bind_some, if_neg (by decide)]

/-- x & 255 is a byte, whatever x is. -/
theorem and255 (x : Int) : 0 ≤ Go.bits .and .i64 x 255 ∧ Go.bits .and .i64 x 255 ≤ 255 := by
  have h : (BitVec.ofInt 64 x &&& BitVec.ofInt 64 255).toNat ≤ 255 := by
    rw [BitVec.toNat_and]
    exact Nat.le_trans Nat.and_le_right (by decide)
  have e : Go.bits .and .i64 x 255 = IntKind.i64.wrap ((BitVec.ofInt 64 x &&& BitVec.ofInt 64 255).toNat : Int) := rfl
  rw [e, wraps64 _ (by omega) (by omega)]
  omega
theorem new_ends (l : List Int) (d : Nat) : ∀ (h : Int) (i : Nat), i + d = 4000 → ∃ h', Ev (fun k => spec_l01New.l0 k l h i) (l, 0, h') := by
  induction d with
  | zero =>
    intro h i hi
    exact ⟨h, ev_ret (fun k => by
      rw [spec_l01New.l0]
      split
      · rw [if_neg (by omega)]
      · rfl)⟩
  | succ d ih =>
    intro h i hi
    by_cases c : (i : Int) < (l.length : Int)
    · obtain ⟨h', e⟩ := ih (Go.bits .and .i64 (wrap64 ((wrap64 ((wrap64 (h * 131)) + (wrap64 (rd l i)))) + 7)) 1073741823) (i + 1) (by omega)
      exact ⟨h', Ev.step (fun k => by rw [spec_l01New.l0, if_pos c, if_pos (by omega), if_pos (by omega), w64_id (x := (i : Int) + 1) (by omega) (by omega)]; rfl) e⟩
    · exact ⟨h, ev_ret (fun k => by rw [spec_l01New.l0, if_neg c])⟩
theorem new_is (l : List Int) : ∃ h, Ev (fun k => spec_l01New.f k l) (l, 0, h) := new_ends l 4000 _ 0 (by omega)
theorem byte_is (l : List Int) (hl : l.length ≤ 9223372036854775807) (i h : Int) (hi : 0 ≤ i) : ∃ x i' h', spec_l01Byte.f l i h = some (x, i', h') ∧ 0 ≤ x ∧ x ≤ 255 ∧ 0 ≤ i' := by
  unfold spec_l01Byte.f
  by_cases c : i < (l.length : Int)
  · rw [if_pos c, if_pos hi]
    have := and255 (wrap64 ((Go.bits .and .i64 (Go.bits .xor .i64 ((wrap64 ((wrap64 (h * 6364136223846793005)) + 1442695040888963407)) / 8589934592) ((wrap64 ((wrap64 (h * 6364136223846793005)) + 1442695040888963407)) / 35184372088832)) 255) + (wrap64 (rd l i))))
    exact ⟨_, _, _, rfl, this.1, this.2, by rw [w64_id (by omega) (by omega)]; omega⟩
  · rw [if_neg c]
    have := and255 (Go.bits .xor .i64 ((wrap64 ((wrap64 (h * 6364136223846793005)) + 1442695040888963407)) / 8589934592) ((wrap64 ((wrap64 (h * 6364136223846793005)) + 1442695040888963407)) / 35184372088832))
    exact ⟨_, _, _, rfl, this.1, this.2, hi⟩
theorem below_is (l : List Int) (hl : l.length ≤ 9223372036854775807) (i h n : Int) (hi : 0 ≤ i) : ∃ x i' h', spec_l01Below.f l i h n = some (x, i', h') ∧ 0 ≤ x ∧ (0 < n → x < n) ∧ 0 ≤ i' := by
  unfold spec_l01Below.f
  by_cases c0 : n ≤ 0
  · rw [if_pos c0]
    exact ⟨_, _, _, rfl, by omega, by omega, hi⟩
  · rw [if_neg c0]
    by_cases c1 : n ≤ 256
    · rw [if_pos c1]
      obtain ⟨x, i1, h1, e, x0, x1, hi1⟩ := byte_is l hl i h hi
      rw [e, Option.bind_some, if_neg (by omega)]
      refine ⟨_, _, _, rfl, ?_, fun _ => ?_, hi1⟩
      · rw [tmod_nn _ x0]; exact Int.emod_nonneg _ (by omega)
      · rw [tmod_nn _ x0]; exact Int.emod_lt_of_pos _ (by omega)
    · rw [if_neg c1]
      obtain ⟨x, i1, h1, e1, x0, x1, hi1⟩ := byte_is l hl i h hi
      obtain ⟨y, i2, h2, e2, y0, y1, hi2⟩ := byte_is l hl i1 h1 hi1
      obtain ⟨z, i3, h3, e3, z0, z1, hi3⟩ := byte_is l hl i2 h2 hi2
      obtain ⟨w, i4, h4, e4, w0, w1, hi4⟩ := byte_is l hl i3 h3 hi3
      simp only [e1, e2, e3, e4, Option.bind_some]
      rw [if_neg (by omega)]
      rw [w64_id (x := x * 16777216) (by omega) (by omega), w64_id (x := y * 65536) (by omega) (by omega), w64_id (x := z * 256) (by omega) (by omega), w64_id (x := x * 16777216 + y * 65536) (by omega) (by omega), w64_id (x := x * 16777216 + y * 65536 + z * 256) (by omega) (by omega), w64_id (x := x * 16777216 + y * 65536 + z * 256 + w) (by omega) (by omega)]
      refine ⟨_, _, _, rfl, ?_, fun _ => ?_, hi4⟩
      · rw [tmod_nn _ (by omega)]; exact Int.emod_nonneg _ (by omega)
      · rw [tmod_nn _ (by omega)]; exact Int.emod_lt_of_pos _ (by omega)

theorem pick_is (l : List Int) (hl : l.length ≤ 9223372036854775807) (i h : Int) (p : List Int) (hp : 0 < p.length) (hi : 0 ≤ i) : ∃ x i' h', spec_l01PickInt.f l i h p = some (x, i', h') ∧ x ∈ p ∧ 0 ≤ i' := by
  unfold spec_l01PickInt.f
  obtain ⟨x, i1, h1, e, x0, x1, hi1⟩ := below_is l hl i h p.length hi
  have x1 := x1 (by omega)
  rw [e]
  simp only [Option.bind_some]
  rw [if_pos x0, if_pos x1]
  obtain ⟨j, rfl⟩ := Int.eq_ofNat_of_zero_le x0
  exact ⟨_, _, _, rfl, rd_mem p j (by omega), hi1⟩

/-- The end of the draw: at most 321 lengths. -/
theorem drawn_end (o : List Int) (i h : Int) : ∃ p : List Int × Int × Int, (if (o.length : Int) > 321 then (if 321 ≤ (o.length : Int) then (some ((o.take (321 : Int).toNat), i, h)) else (none)) else (some (o, i, h))) = some p ∧ p.1.length ≤ 321 := by
  by_cases c : (o.length : Int) > 321
  · rw [if_pos c, if_pos (by omega)]
    exact ⟨_, rfl, by simp; omega⟩
  · rw [if_neg c]
    exact ⟨_, rfl, by dsimp only; omega⟩
theorem l2_ends (l : List Int) (hl : l.length ≤ 9223372036854775807) (x : Int) (d : Nat) : ∀ (o : List Int) (i h : Int), 321 ≤ o.length + d → o.length ≤ 400 → 0 ≤ i → ∃ p, Ev (fun k => spec_l05Lengths.l2 k o x l i h) p ∧ p.1.length ≤ 321 := by
  induction d with
  | zero =>
    intro o i h h1 h2 hi
    obtain ⟨y, i1, h1', e, y0, y1, hi1⟩ := below_is l hl i h 2 hi
    have y1 := y1 (by omega)
    obtain ⟨p, hp, hpl⟩ := drawn_end o i1 h1'
    refine ⟨p, ev_ret (fun k => ?_), hpl⟩
    rw [spec_l05Lengths.l2, e, Option.bind_some]
    dsimp only
    rw [w64_id (x := 320 + y) (by omega) (by omega), if_neg (by omega)]
    exact hp
  | succ d ih =>
    intro o i h h1 h2 hi
    obtain ⟨y, i1, h1', e, y0, y1, hi1⟩ := below_is l hl i h 2 hi
    have y1 := y1 (by omega)
    by_cases c : (o.length : Int) < 320 + y
    · obtain ⟨p, ep, hp⟩ := ih (o ++ [x]) i1 h1' (by simp; omega) (by simp; omega) hi1
      refine ⟨p, Ev.step (fun k => ?_) ep, hp⟩
      rw [spec_l05Lengths.l2, e, Option.bind_some]
      dsimp only
      rw [w64_id (x := 320 + y) (by omega) (by omega), if_pos c, if_pos (by omega)]
    · obtain ⟨p, hp, hpl⟩ := drawn_end o i1 h1'
      refine ⟨p, ev_ret (fun k => ?_), hpl⟩
      rw [spec_l05Lengths.l2, e, Option.bind_some]
      dsimp only
      rw [w64_id (x := 320 + y) (by omega) (by omega), if_neg c]
      exact hp
theorem l1_ends (l : List Int) (hl : l.length ≤ 9223372036854775807) (x j : Int) (B : Nat) (hB : B ≤ 1000) (K : ∀ (o : List Int) (i h : Int), o.length ≤ B → 0 ≤ i → ∃ p, Ev (fun k => spec_l05Lengths.l0 k o (wrap64 (j + 1)) l i h) p ∧ p.1.length ≤ 321) (d : Nat) :
    ∀ (o : List Int) (n : Nat) (i h : Int), n + d = 31 → o.length + d ≤ B → 0 ≤ i → ∃ p, Ev (fun k => spec_l05Lengths.l1 k o j x n l i h) p ∧ p.1.length ≤ 321 := by
  induction d with
  | zero =>
    intro o n i h hn ho hi
    obtain ⟨y, i1, h1, e, y0, y1, hi1⟩ := below_is l hl i h 16 hi
    have y1 := y1 (by omega)
    obtain ⟨z, i2, h2, e2, z0, z1, hi2⟩ := below_is l hl i1 h1 3 hi1
    have z1 := z1 (by omega)
    have zz : z = 0 ∨ z = 1 ∨ z = 2 := by omega
    obtain ⟨p, ep, hp⟩ := K o i2 h2 (by omega) hi2
    refine ⟨p, Ev.step (fun k => ?_) ep, hp⟩
    rw [spec_l05Lengths.l1, e, Option.bind_some]
    dsimp only
    rw [e2, Option.bind_some]
    dsimp only
    have hm : 0 ≤ y * z ∧ y * z ≤ 30 := by rcases zz with rfl | rfl | rfl <;> omega
    rw [w64_id (x := y * z) (by omega) (by omega), w64_id (x := 1 + y * z) (by omega) (by omega), if_neg (by omega)]
  | succ d ih =>
    intro o n i h hn ho hi
    obtain ⟨y, i1, h1, e, y0, y1, hi1⟩ := below_is l hl i h 16 hi
    have y1 := y1 (by omega)
    obtain ⟨z, i2, h2, e2, z0, z1, hi2⟩ := below_is l hl i1 h1 3 hi1
    have z1 := z1 (by omega)
    have zz : z = 0 ∨ z = 1 ∨ z = 2 := by omega
    have hm : 0 ≤ y * z ∧ y * z ≤ 30 := by rcases zz with rfl | rfl | rfl <;> omega
    by_cases c : (n : Int) < 1 + y * z
    · obtain ⟨p, ep, hp⟩ := ih (o ++ [x]) (n + 1) i2 h2 (by omega) (by simp; omega) hi2
      refine ⟨p, Ev.step (fun k => ?_) ep, hp⟩
      rw [spec_l05Lengths.l1, e, Option.bind_some]
      dsimp only
      rw [e2, Option.bind_some]
      dsimp only
      rw [w64_id (x := y * z) (by omega) (by omega), w64_id (x := 1 + y * z) (by omega) (by omega), if_pos c, if_pos (by omega), w64_id (x := (n : Int) + 1) (by omega) (by omega)]
      rfl
    · obtain ⟨p, ep, hp⟩ := K o i2 h2 (by omega) hi2
      refine ⟨p, Ev.step (fun k => ?_) ep, hp⟩
      rw [spec_l05Lengths.l1, e, Option.bind_some]
      dsimp only
      rw [e2, Option.bind_some]
      dsimp only
      rw [w64_id (x := y * z) (by omega) (by omega), w64_id (x := 1 + y * z) (by omega) (by omega), if_neg c]
theorem l0_tail (l : List Int) (hl : l.length ≤ 9223372036854775807) (o : List Int) (ho : o.length ≤ 400) (j : Int) (i h : Int) (hi : 0 ≤ i) (w i1 h1 : Int) (e : spec_l01Below.f l i h 9 = some (w, i1, h1)) (hi1 : 0 ≤ i1) (c : ¬ j < w) :
    ∃ p, Ev (fun k => spec_l05Lengths.l0 k o j l i h) p ∧ p.1.length ≤ 321 := by
  obtain ⟨y, i2, h2, e2, y0, y1, hi2⟩ := below_is l hl i1 h1 30 hi1
  by_cases c0 : y = 0
  · obtain ⟨u, i3, h3, e3, _, hi3⟩ := pick_is l hl i2 h2 [(-1), 16] (by simp) hi2
    obtain ⟨p, hp, hpl⟩ := drawn_end (o ++ [u]) i3 h3
    refine ⟨p, ev_ret (fun k => ?_), hpl⟩
    rw [spec_l05Lengths.l0, e, Option.bind_some]
    dsimp only
    rw [if_neg c, e2, Option.bind_some]
    dsimp only
    rw [if_pos c0, e3, Option.bind_some]
    dsimp only
    rw [if_pos (by omega), Option.bind_some]
    exact hp
  · by_cases c1 : y = 1
    · obtain ⟨u, i3, h3, e3, _, hi3⟩ := pick_is l hl i2 h2 [0, 9] (by simp) hi2
      obtain ⟨p, ep, hp⟩ := l2_ends l hl u 321 o i3 h3 (by omega) ho hi3
      refine ⟨p, Ev.step (fun k => ?_) ep, hp⟩
      rw [spec_l05Lengths.l0, e, Option.bind_some]
      dsimp only
      rw [if_neg c, e2, Option.bind_some]
      dsimp only
      rw [if_neg c0, if_pos c1, e3, Option.bind_some]
    · obtain ⟨p, hp, hpl⟩ := drawn_end o i2 h2
      refine ⟨p, ev_ret (fun k => ?_), hpl⟩
      rw [spec_l05Lengths.l0, e, Option.bind_some]
      dsimp only
      rw [if_neg c, e2, Option.bind_some]
      dsimp only
      rw [if_neg c0, if_neg c1]
      exact hp
theorem l0_ends (l : List Int) (hl : l.length ≤ 9223372036854775807) (d : Nat) : ∀ (o : List Int) (j : Nat) (i h : Int), j + d = 9 → o.length ≤ 32 * j → 0 ≤ i → ∃ p, Ev (fun k => spec_l05Lengths.l0 k o j l i h) p ∧ p.1.length ≤ 321 := by
  induction d with
  | zero =>
    intro o j i h hj ho hi
    obtain ⟨w, i1, h1, e, w0, w1, hi1⟩ := below_is l hl i h 9 hi
    have w1 := w1 (by omega)
    exact l0_tail l hl o (by omega) j i h hi w i1 h1 e hi1 (by omega)
  | succ d ih =>
    intro o j i h hj ho hi
    obtain ⟨w, i1, h1, e, w0, w1, hi1⟩ := below_is l hl i h 9 hi
    have w1 := w1 (by omega)
    by_cases c : (j : Int) < w
    · obtain ⟨x, i2, h2, e2, _, hi2⟩ := pick_is l hl i1 h1 [0, 0, 3, 5, 15] (by simp) hi1
      have wj : wrap64 ((j : Int) + 1) = ((j + 1 : Nat) : Int) := by rw [w64_id (by omega) (by omega)]; omega
      obtain ⟨p, ep, hp⟩ := l1_ends l hl x j (32 * (j + 1)) (by omega) (fun o' i' h' ho' hi' => by rw [wj]; exact ih o' (j + 1) i' h' (by omega) ho' hi') 31 o 0 i2 h2 (by omega) (by omega) hi2
      refine ⟨p, Ev.step (fun k => ?_) ep, hp⟩
      rw [spec_l05Lengths.l0, e, Option.bind_some]
      dsimp only
      rw [if_pos c, e2, Option.bind_some]
      rfl
    · exact l0_tail l hl o (by omega) j i h hi w i1 h1 e hi1 c
theorem drawn_is (l : List Int) (hl : l.length ≤ 9223372036854775807) : ∃ p, Ev (fun k => spec_DrawRunsOf.f k l) p ∧ p.length ≤ 321 := by
  obtain ⟨h, e⟩ := new_is l
  obtain ⟨p, e2, hp⟩ := l0_ends l hl 9 [] 0 0 h (by omega) (by simp) (by omega)
  obtain ⟨k1, e⟩ := e
  obtain ⟨k2, e2⟩ := e2
  refine ⟨p.1, ⟨max k1 k2, fun k hk => ?_⟩, hp⟩
  have e' : spec_l01New.f k l = some (l, 0, h) := e k (by omega)
  have e2' : spec_l05Lengths.l0 k [] 0 l 0 h = some p := e2 k (by omega)
  show spec_DrawRunsOf.f k l = _
  unfold spec_DrawRunsOf.f spec_l05Lengths.f
  rw [e', Option.bind_some]
  dsimp only
  rw [e2', Option.bind_some]
/-- The run at a place tells just the lengths that stand there. -/
theorem step_tells (l : List Int) (hok : okL l = true) (i : Nat) (hi : i < l.length) : tellR (l.take i) (stepAt l i).1 (stepAt l i).2.1 = some ((l.drop i).take (stepAt l i).2.2) := by
  have h0 := lead_le 0 (l.drop i)
  unfold stepAt
  by_cases c0 : 11 ≤ lead 0 (l.drop i)
  · rw [if_pos c0]
    dsimp only
    rw [lead_take 0 (l.drop i) _ (by omega)]
    unfold tellR
    rw [if_neg (by omega), if_neg (by omega), if_pos rfl, if_pos (by omega)]
    congr 2
    omega
  · rw [if_neg c0]
    by_cases c1 : 3 ≤ lead 0 (l.drop i)
    · rw [if_pos c1]
      dsimp only
      rw [lead_take 0 (l.drop i) _ (by omega)]
      unfold tellR
      rw [if_neg (by omega), if_pos rfl, if_pos (by omega)]
      congr 2
      omega
    · rw [if_neg c1]
      by_cases c2 : 0 < i ∧ 3 ≤ lead (rd l ((i - 1 : Nat) : Int)) (l.drop i)
      · rw [if_pos c2]
        dsimp only
        rw [lead_take (rd l ((i - 1 : Nat) : Int)) (l.drop i) _ (by omega)]
        have hlen : (l.take i).length = i := by rw [List.length_take]; omega
        have hr : rd (l.take i) (((l.take i).length - 1 : Nat) : Int) = rd l ((i - 1 : Nat) : Int) := by
          rw [hlen, rd_getElem _ _ (by omega), rd_getElem _ _ (by omega), List.getElem_take]
        unfold tellR
        rw [if_pos rfl, if_pos ⟨by omega, by omega, by omega⟩, hr]
        congr 2
        omega
      · rw [if_neg c2]
        dsimp only
        have hb : 0 ≤ rd l i ∧ rd l i ≤ 15 := by
          have := List.all_eq_true.1 hok _ (rd_mem l i hi)
          exact of_decide_eq_true this
        unfold tellR
        rw [if_neg (by omega), if_neg (by omega), if_neg (by omega), if_pos ⟨hb.1, hb.2, rfl⟩, drop_rd l i hi]
        rfl
theorem back_runs (l : List Int) (hok : okL l = true) (f : Nat) : ∀ i, i ≤ l.length → l.length - i ≤ f → backR l.length (runsL l f i) (l.take i) = (l, true) := by
  induction f with
  | zero =>
    intro i hi hf
    rw [runsL, backR, List.take_of_length_le (by omega), if_pos rfl]
  | succ f ih =>
    intro i hi hf
    unfold runsL
    by_cases c : i < l.length
    · have b := step_bd l i c
      rw [if_pos c, backR]
      dsimp only
      rw [step_tells l hok i c]
      dsimp only
      have e : l.take i ++ (l.drop i).take (stepAt l i).2.2 = l.take (i + (stepAt l i).2.2) := by rw [List.take_add]
      rw [e, if_neg (by rw [List.length_take]; omega)]
      exact ih _ (by omega) (by omega)
    · rw [if_neg c, backR, List.take_of_length_le (by omega), if_pos rfl]
theorem tell_extra (o : List Int) (s e : Int) (m : List Int) (h : tellR o s e = some m) : 0 ≤ e ∧ e < (if s = 16 then 4 else if s = 17 then 8 else if s = 18 then 128 else 1) := by
  unfold tellR at h
  split at h
  · rename_i c; rw [if_pos c]
    split at h
    · omega
    · cases h
  · rename_i c; rw [if_neg c]
    split at h
    · rename_i c; rw [if_pos c]
      split at h
      · omega
      · cases h
    · rename_i c; rw [if_neg c]
      split at h
      · rename_i c; rw [if_pos c]
        split at h
        · omega
        · cases h
      · rename_i c; rw [if_neg c]
        split at h
        · omega
        · cases h
theorem runs_extra (l : List Int) (hok : okL l = true) : ∀ (f i : Nat), ∀ r ∈ runsL l f i, 0 ≤ r.f1 ∧ r.f1 < (if r.f0 = 16 then 4 else if r.f0 = 17 then 8 else if r.f0 = 18 then 128 else 1)
  | 0, _, r, hr => by simp [runsL] at hr
  | f + 1, i, r, hr => by
    unfold runsL at hr
    split at hr
    · rename_i c
      rcases List.mem_cons.1 hr with rfl | hr
      · exact tell_extra _ _ _ _ (step_tells l hok i c)
      · exact runs_extra l hok f _ r hr
    · simp at hr
theorem same_loop (l : List Int) (hl : l.length ≤ 1048576) (d : Nat) : ∀ j : Nat, j + d = l.length → Ev (fun k => laws_sameInts.l0 k l l j) true := by
  induction d with
  | zero => exact fun j h => ev_ret (fun k => by rw [laws_sameInts.l0, if_neg (by omega)])
  | succ d ih =>
    intro j h
    refine Ev.step (fun k => ?_) (ih (j + 1) (by omega))
    rw [laws_sameInts.l0, if_pos (by omega), if_pos (by omega), if_pos (by omega), if_pos rfl, w64_id (x := (j : Int) + 1) (by omega) (by omega)]
    rfl
theorem law_loop (l : List Int) (hl : l.length ≤ 320) (c : List S42) (hc : c.length ≤ l.length) (hx : ∀ r ∈ c, 0 ≤ r.f1 ∧ r.f1 < (if r.f0 = 16 then 4 else if r.f0 = 17 then 8 else if r.f0 = 18 then 128 else 1)) (d : Nat) : ∀ j : Nat, j + d = c.length →
    Ev (fun k => laws_FnRuns.l0 k l c l true j) true := by
  induction d with
  | zero =>
    intro j h
    refine ev_use_step (same_loop l (by omega) l.length 0 (by omega)) (fun k hk => ?_) (Ev.now true)
    have hk' : laws_sameInts.f k l l = some true := by unfold laws_sameInts.f; rw [if_pos rfl]; exact hk
    rw [laws_FnRuns.l0, if_neg (by omega), if_pos rfl, hk', Option.bind_some, if_pos rfl]
    congr 1
    simp
    exact hc
  | succ d ih =>
    intro j h
    have hj : j < c.length := by omega
    have hr : rd_T42 c (j : Int) = c[j] := gd_at c _ j hj
    have hb := hx c[j] (List.getElem_mem hj)
    obtain ⟨b, e1, _, e3, b0⟩ := extra_pow c[j].f0
    refine Ev.step (fun k => ?_) (ih (j + 1) (by omega))
    rw [laws_FnRuns.l0, if_pos (by omega), if_pos (by omega), hr, if_neg (by omega), e1, Option.bind_some, if_pos b0, e3, if_neg (by omega), w64_id (x := (j : Int) + 1) (by omega) (by omega)]
    rfl
theorem FnRuns : laws_FnRuns.Pure := by
  intro l0 hl0 _ hw
  have hl' : l0.length ≤ 9223372036854775807 := by unfold maxLen at hl0; omega
  obtain ⟨l, eD, hl⟩ := drawn_is l0 hl'
  obtain ⟨eS, eI⟩ := runs_both l (by omega)
  unfold runsOf at eS eI
  obtain ⟨K1, eD⟩ := eD
  by_cases c : okL l = true ∧ l.length ≤ 320
  · rw [if_pos c] at eS eI
    have eB := back_impl_is (runsL l l.length 0) (by have := runsL_len l l.length 0 (by omega); omega) (l.length : Int)
    rw [if_pos (by omega)] at eB
    have bb := back_runs l c.1 l.length 0 (by omega) (by omega)
    rw [List.take_zero] at bb
    rw [bb] at eB
    have eL := law_loop l c.2 (runsL l l.length 0) (by have := runsL_len l l.length 0 (by omega); omega) (runs_extra l c.1 _ _) (runsL l l.length 0).length 0 (by omega)
    obtain ⟨K2, eS⟩ := eS
    obtain ⟨K3, eI⟩ := eI
    obtain ⟨K4, eB⟩ := eB
    obtain ⟨K5, eL⟩ := eL
    refine ⟨K1 + K2 + K3 + K4 + K5, ?_⟩
    generalize hk : K1 + K2 + K3 + K4 + K5 = K
    have d1 : spec_DrawRunsOf.f K l0 = _ := eD K (by omega)
    have d2 : spec_RunsOf.f K l = _ := eS K (by omega)
    have d3 : impl_RunsOf.f K l = _ := eI K (by omega)
    have d4 : impl_RunsBack.f K _ _ = _ := eB K (by omega)
    have d5 : laws_FnRuns.l0 K l _ l true 0 = _ := eL K (by omega)
    unfold laws_FnRuns.f laws_big.f
    rw [Option.bind_some]
    by_cases big : decide ((l0.length : Int) > 1048576) = true
    · rw [if_pos big]
    · rw [if_neg big, d1, Option.bind_some, d3, Option.bind_some, d2, Option.bind_some]
      dsimp only
      rw [if_neg (by decide), if_pos rfl, d4, Option.bind_some]
      exact d5
  · rw [if_neg c] at eS eI
    obtain ⟨K2, eS⟩ := eS
    obtain ⟨K3, eI⟩ := eI
    refine ⟨K1 + K2 + K3, ?_⟩
    generalize hk : K1 + K2 + K3 = K
    have d1 : spec_DrawRunsOf.f K l0 = _ := eD K (by omega)
    have d2 : spec_RunsOf.f K l = _ := eS K (by omega)
    have d3 : impl_RunsOf.f K l = _ := eI K (by omega)
    unfold laws_FnRuns.f laws_big.f
    rw [Option.bind_some]
    by_cases big : decide ((l0.length : Int) > 1048576) = true
    · rw [if_pos big]
    · rw [if_neg big, d1, Option.bind_some, d3, Option.bind_some, d2, Option.bind_some]
      dsimp only
      rw [if_neg (by decide), if_neg (by decide)]
      rfl

end Go.Proofs.Ytfmdenifbbhmdaa.Pure
