/- The law FnCodes: for every input within the row's bounds the printed function answers true: what the program's function tells is what the law asks. Conditions: only the bounds that the row itself gives (sizes of strings and slices, ranges of the number kinds). -/
import Derived.Test.YtimomemkbcidnaaPFnCodesx3
namespace Go.Proofs.Ytimomemkbcidnaa.Pure
open Go.RowKit Go.Proofs.Ytimomemkbcidnaa.PFnCodes Go.Proofs.YtimomemkbcidnaaW.PrintWords Go.Proofs.YtimomemkbcidnaaW.PrintLast Go.Proofs.YtimomemkbcidnaaW.PrintMore
set_option linter.unusedVariables false
set_option linter.unusedSimpArgs false

theorem w64_id {x : Int} (h0 : -9223372036854775808 ≤ x) (h1 : x ≤ 9223372036854775807) : wrap64 x = x := by unfold wrap64; omega
theorem tmod_nn {a : Int} (b : Int) (h : 0 ≤ a) : Int.tmod a b = a % b := Int.tmod_eq_emod_of_nonneg h
theorem tdiv_nn {a : Int} (b : Int) (h : 0 ≤ a) : Int.tdiv a b = a / b := Int.tdiv_eq_ediv_of_nonneg h
theorem wf64 {n : Int} (h : (Lit.int .i64 n).wf = true) : -9223372036854775808 ≤ n ∧ n ≤ 9223372036854775807 := by
  simp [Lit.wf, IntKind.min, IntKind.max, IntKind.signed, IntKind.bits] at h
  omega
theorem wfu32 {n : Int} (h : (Lit.int .u32 n).wf = true) : 0 ≤ n ∧ n ≤ 4294967295 := by
  simp [Lit.wf, IntKind.min, IntKind.max, IntKind.signed, IntKind.bits] at h
  omega
theorem wraps64 (n : Int) (h0 : 0 ≤ n) (h1 : n < 2 ^ 63) : IntKind.i64.wrap n = n := by rw [IntKind.wrap_i64]; omega
theorem wrapsu32 (n : Int) (h0 : 0 ≤ n) (h1 : n < 2 ^ 32) : IntKind.u32.wrap n = n := by rw [IntKind.wrap_u32]; omega
/-- a | b of parts that do not meet, of an int. -/
theorem or64 (i : Nat) (x y : Int) (hx0 : 0 ≤ x) (hx : x % 2 ^ i = 0) (hx1 : x < 2 ^ 63) (hy0 : 0 ≤ y) (hy : y < 2 ^ i) (hy1 : y < 2 ^ 63) : Go.bits .or .i64 x y = x + y :=
  bits_join .i64 63 (by decide) wraps64 i x y hx0 hx hx1 hy0 hy hy1
theorem ev_ite_pos {α : Type} {c : Prop} [Decidable c] {f g : Nat → Option α} {r : α} (h : c) (k : Ev f r) : Ev (fun n => if c then f n else g n) r := Ev.congr (fun n => if_pos h) k
theorem ev_ite_neg {α : Type} {c : Prop} [Decidable c] {f g : Nat → Option α} {r : α} (h : ¬ c) (k : Ev g r) : Ev (fun n => if c then f n else g n) r := Ev.congr (fun n => if_neg h) k
/-- A callee without rounds that answers. -/
theorem ev_bind0 {α β : Type} {o : Option α} {f : Nat → α → Option β} {a : α} {r : β} (h : o = some a) (k : Ev (fun n => f n a) r) : Ev (fun n => o.bind (f n)) r := Ev.congr (fun n => by rw [h]; rfl) k
theorem bt_lo (s : ByteArray) (i : Int) : 0 ≤ bt s i := (bt_range s i).1
theorem bt_hi (s : ByteArray) (i : Int) : bt s i ≤ 255 := (bt_range s i).2
/-- A callee that answers from some number of rounds on, used. -/
theorem ev_use {α β : Type} {g : Nat → Option α} {a : α} {F G : Nat → Option β} {r : β} (e : Ev g a) (h : ∀ k, g k = some a → F k = G k) (c : Ev G r) : Ev F r := by
  obtain ⟨K, e⟩ := e
  obtain ⟨K', c⟩ := c
  exact ⟨max K K', fun n hn => (h n (e n (by omega))).trans (c n (by omega))⟩
theorem ev_use_step {α β : Type} {g : Nat → Option α} {a : α} {F G : Nat → Option β} {r : β} (e : Ev g a) (h : ∀ k, g k = some a → F (k + 1) = G k) (c : Ev G r) : Ev F r := by
  obtain ⟨K, e⟩ := e
  obtain ⟨K', c⟩ := c
  refine ⟨max K K' + 1, fun n hn => ?_⟩
  obtain ⟨m, rfl⟩ : ∃ m, n = m + 1 := ⟨n - 1, by omega⟩
  exact (h m (e m (by omega))).trans (c m (by omega))
theorem ev_end {α β : Type} {g : Nat → Option α} {a : α} {F : Nat → Option β} {r : β} (e : Ev g a) (h : ∀ k, g k = some a → F k = some r) : Ev F r := by
  obtain ⟨K, e⟩ := e
  exact ⟨K, fun n hn => h n (e n hn)⟩
theorem ev_two {α β : Type} {g : Nat → Option α} {h : Nat → Option β} {a : α} {b : β} (e : Ev g a) (f : Ev h b) : ∃ k, g k = some a ∧ h k = some b := by
  obtain ⟨K, e⟩ := e
  obtain ⟨K', f⟩ := f
  exact ⟨max K K', e _ (by omega), f _ (by omega)⟩
theorem ev_ret {α : Type} {F : Nat → Option α} {r : α} (h : ∀ k, F (k + 1) = some r) : Ev F r := ⟨1, fun n hn => by obtain ⟨m, rfl⟩ : ∃ m, n = m + 1 := ⟨n - 1, by omega⟩; exact h m⟩

theorem in_spec (a b c : Int) : spec_l01In.f a b c = some (decide (b ≤ a ∧ a ≤ c)) := by
  unfold spec_l01In.f
  split
  · rename_i h
    have e : (decide (a ≤ c)) = decide (b ≤ a ∧ a ≤ c) := decide_eq_decide.mpr ⟨fun h' => ⟨h, h'⟩, fun h' => h'.2⟩
    rw [e]
  · rename_i h
    have e : (decide (b ≤ a ∧ a ≤ c)) = false := decide_eq_false fun h' => h h'.1
    rw [e]

theorem in_impl (a b c : Int) : impl_within.f a b c = some (decide (b ≤ a ∧ a ≤ c)) := by
  unfold impl_within.f
  split
  · rename_i h
    have e : (decide (a ≤ c)) = decide (b ≤ a ∧ a ≤ c) := decide_eq_decide.mpr ⟨fun h' => ⟨h, h'⟩, fun h' => h'.2⟩
    rw [e]
  · rename_i h
    have e : (decide (b ≤ a ∧ a ≤ c)) = false := decide_eq_false fun h' => h h'.1
    rw [e]


/-- Two callees that answer, together. -/
theorem ev_pair {α β : Type} {g : Nat → Option α} {h : Nat → Option β} {a : α} {b : β} (e : Ev g a) (f : Ev h b) : Ev (fun k => (g k).bind fun x => (h k).bind fun y => some (x, y)) (a, b) := by
  obtain ⟨K, e⟩ := e
  obtain ⟨K', f⟩ := f
  exact ⟨max K K', fun n hn => by show ((g n).bind fun x => (h n).bind fun y => some (x, y)) = _; rw [e n (by omega), f n (by omega)]; rfl⟩
theorem pair_some {α β : Type} {g : Option α} {h : Option β} {a : α} {b : β} (e : (g.bind fun x => h.bind fun y => some (x, y)) = some (a, b)) : g = some a ∧ h = some b := by
  cases g with
  | none => cases e
  | some x =>
    cases h with
    | none => cases e
    | some y =>
      injection e with e
      injection e with e1 e2
      exact ⟨by rw [e1], by rw [e2]⟩

/-- 2^n, as the loop doubles it. -/
theorem pow_loop (n : Int) (d : Nat) : ∀ (x i : Int), 0 ≤ i → i + d = n → 0 ≤ x → x * 2 ^ d ≤ 4611686018427387904 → n ≤ 62 →
    Ev (fun k => spec_l01Pow.l0 k n x i) (x * 2 ^ d) := by
  induction d with
  | zero =>
    intro x i h0 h hx hb hn
    refine ev_ret (fun k => ?_)
    rw [spec_l01Pow.l0, if_neg (by omega)]
    simp
  | succ d ih =>
    intro x i h0 h hx hb hn
    have e : x * 2 ^ (d + 1) = 2 * x * 2 ^ d := by rw [Int.pow_succ, ← Int.mul_assoc, Int.mul_comm (x * 2 ^ d) 2, ← Int.mul_assoc]
    have hp : (1 : Int) ≤ 2 ^ d := by have : (0 : Int) < 2 ^ d := Int.pow_pos (by omega); omega
    have h2 : 2 * x ≤ 2 * x * 2 ^ d := by
      have := Int.mul_le_mul_of_nonneg_left hp (show 0 ≤ 2 * x by omega)
      omega
    have h3 := ih (2 * x) (i + 1) (by omega) (by omega) (by omega) (by omega) hn
    rw [e]
    refine Ev.step (fun k => ?_) h3
    rw [spec_l01Pow.l0, if_pos (by omega), w64_id (x := 2 * x) (by omega) (by omega), w64_id (x := i + 1) (by omega) (by omega)]
theorem pow_is (n : Nat) (hn : n ≤ 62) : Ev (fun k => spec_l01Pow.f k (n : Int)) (2 ^ n) := by
  have hb : (2 : Int) ^ n ≤ 2 ^ 62 := by exact_mod_cast Nat.pow_le_pow_right (n := 2) (by omega) hn
  have h := pow_loop n n 1 0 (by omega) (by omega) (by omega) (by rw [Int.one_mul]; exact hb) (by omega)
  rw [Int.one_mul] at h
  exact h
theorem pow_at (n : Int) (h0 : 0 ≤ n) (hn : n ≤ 62) : Ev (fun k => spec_l01Pow.f k n) (2 ^ n.toNat) := by
  have h := pow_is n.toNat (by omega)
  rw [Int.toNat_of_nonneg h0] at h
  exact h

theorem rd_nat (l : List Int) (j : Nat) : rd l j = l.getD j 0 := by unfold rd; simp
theorem rd_getElem (l : List Int) (j : Nat) (h : j < l.length) : rd l j = l[j] := by rw [rd_nat, List.getD_eq_getElem?_getD, List.getElem?_eq_getElem h]; rfl
theorem rd_mem (l : List Int) (j : Nat) (h : j < l.length) : rd l j ∈ l := by rw [rd_getElem l j h]; exact List.getElem_mem h
theorem drop_rd (l : List Int) (j : Nat) (h : j < l.length) : l.drop j = rd l j :: l.drop (j + 1) := by rw [rd_getElem l j h]; exact List.drop_eq_getElem_cons h
theorem rd_set (l : List Int) (a : Nat) (v : Int) (j : Nat) (h : a < l.length) : rd (l.set a v) j = if j = a then v else rd l j := by
  rw [rd_nat, rd_nat, List.getD_eq_getElem?_getD, List.getD_eq_getElem?_getD, List.getElem?_set]
  by_cases e : j = a
  · subst e
    simp [h]
  · rw [if_neg (Ne.symm e), if_neg e]
theorem take_set_snoc (l : List Int) (j : Nat) (v : Int) (h : j < l.length) : (l.set j v).take (j + 1) = l.take j ++ [v] := by
  rw [List.take_succ_eq_append_getElem (by simpa using h)]
  simp [List.take_set_of_le]

open Go.Proofs.Ytimomemkbcidnaa.MBook Go.Proofs.Ytimomemkbcidnaa.MCode
/-- Are these lengths right. -/
def okL (l : List Int) : Bool := l.all fun x => decide (0 ≤ x ∧ x ≤ 15)
theorem okL_cons (x : Int) (l : List Int) : okL (x :: l) = (decide (0 ≤ x ∧ x ≤ 15) && okL l) := by unfold okL; rw [List.all_cons]
theorem okL_mem {l : List Int} (h : okL l = true) : ∀ x ∈ l, 0 ≤ x ∧ x ≤ 15 := by
  intro x hx
  unfold okL at h
  have := List.all_eq_true.1 h x hx
  exact of_decide_eq_true this
theorem roomF_loop (l : List Int) (hl : l.length ≤ 320) (d : Nat) : ∀ (j : Nat) (s : Int), j + d = l.length → 0 ≤ s → s ≤ 16384 * j → Ev (fun k => spec_l03Room.l0 k l s j) (if okL (l.drop j) = true then (s + (fullS (l.drop j) : Nat), true) else (0, false)) := by
  induction d with
  | zero =>
    intro j s h s0 s1
    rw [List.drop_of_length_le (by omega)]
    exact ev_ret (fun k => by rw [spec_l03Room.l0, if_neg (by omega)]; simp [okL, fullS])
  | succ d ih =>
    intro j s h s0 s1
    rw [drop_rd l j (by omega), okL_cons, fullS]
    by_cases c : 0 ≤ rd l j ∧ rd l j ≤ 15
    · rw [decide_eq_true c, Bool.true_and]
      by_cases c1 : rd l j > 0
      · have w : wrap64 (15 - rd l j) = 15 - rd l j := w64_id (by omega) (by omega)
        have P := pow_at (15 - rd l j) (by omega) (by omega)
        have e0 : (15 - rd l (j : Int)).toNat = 15 - (rd l (j : Int)).toNat := by omega
        rw [e0] at P
        have p0 : (0 : Int) < 2 ^ (15 - (rd l j).toNat) := Int.pow_pos (by omega)
        have p1 : (2 : Int) ^ (15 - (rd l j).toNat) ≤ 2 ^ 14 := by exact_mod_cast Nat.pow_le_pow_right (n := 2) (by omega) (show 15 - (rd l j).toNat ≤ 14 by omega)
        have g := ih (j + 1) (s + 2 ^ (15 - (rd l j).toNat)) (by omega) (by omega) (by omega)
        have e2 : (if 0 < rd l (j : Int) then 2 ^ (15 - (rd l (j : Int)).toNat) else 0) = 2 ^ (15 - (rd l (j : Int)).toNat) := if_pos c1
        have e3 : s + ((2 ^ (15 - (rd l (j : Int)).toNat) + fullS (l.drop (j + 1)) : Nat) : Int) = s + 2 ^ (15 - (rd l (j : Int)).toNat) + ((fullS (l.drop (j + 1)) : Nat) : Int) := by
          rw [Int.natCast_add, Int.natCast_pow, Int.add_assoc]
          rfl
        rw [e2, e3]
        refine ev_use_step P (fun k hk => ?_) g
        rw [spec_l03Room.l0, if_pos (by omega), if_pos (by omega), in_spec, decide_eq_true c, Option.bind_some, if_pos rfl, if_pos c1, w, hk, Option.bind_some, w64_id (x := s + 2 ^ (15 - (rd l j).toNat)) (by omega) (by omega), w64_id (x := (j : Int) + 1) (by omega) (by omega)]
        rfl
      · have g := ih (j + 1) s (by omega) (by omega) (by omega)
        have e2 : (if 0 < rd l (j : Int) then 2 ^ (15 - (rd l (j : Int)).toNat) else 0) = 0 := if_neg c1
        rw [e2, Nat.zero_add]
        refine Ev.step (fun k => ?_) g
        rw [spec_l03Room.l0, if_pos (by omega), if_pos (by omega), in_spec, decide_eq_true c, Option.bind_some, if_pos rfl, if_neg c1, w64_id (x := (j : Int) + 1) (by omega) (by omega)]
        rfl
    · rw [decide_eq_false c, Bool.false_and, if_neg (by decide)]
      refine ev_ret (fun k => ?_)
      rw [spec_l03Room.l0, if_pos (by omega), if_pos (by omega), in_spec, decide_eq_false c, Option.bind_some, if_neg (by decide)]
theorem roomF_is (l : List Int) : Ev (fun k => spec_l03Room.f k l 288) (if okL l = true ∧ l.length ≤ 288 then (((fullS l : Nat) : Int), true) else (0, false)) := by
  by_cases h : l.length ≤ 288
  · have g := roomF_loop l (by omega) l.length 0 0 (by omega) (by omega) (by omega)
    rw [List.drop_zero, Int.zero_add] at g
    have e : (if okL l = true ∧ l.length ≤ 288 then (((fullS l : Nat) : Int), true) else (0, false)) = (if okL l = true then (((fullS l : Nat) : Int), true) else (0, false)) := by
      by_cases h2 : okL l = true
      · rw [if_pos ⟨h2, h⟩, if_pos h2]
      · rw [if_neg (fun h3 => h2 h3.1), if_neg h2]
    rw [e]
    refine Ev.congr (fun k => ?_) g
    unfold spec_l03Room.f
    rw [if_neg (by omega)]
    rfl
  · rw [if_neg (fun h2 => h h2.2)]
    refine Ev.congr (fun k => ?_) (Ev.now (0, false))
    unfold spec_l03Room.f
    rw [if_pos (by omega)]
theorem lensOk_at (l : List Int) (hl : l.length ≤ 1048576) (m : Int) (d : Nat) : ∀ (j k : Nat), j + d = l.length → d < k → impl_lengthsOk.l0 k l m l (l.length : Int) j = some (okL (l.drop j) && decide ((l.length : Int) ≤ m)) := by
  induction d with
  | zero =>
    intro j k h hk
    obtain ⟨k, rfl⟩ : ∃ q, k = q + 1 := ⟨k - 1, by omega⟩
    rw [impl_lengthsOk.l0, if_neg (by omega), List.drop_of_length_le (by omega)]
    simp [okL]
  | succ d ih =>
    intro j k h hk
    obtain ⟨k, rfl⟩ : ∃ q, k = q + 1 := ⟨k - 1, by omega⟩
    rw [drop_rd l j (by omega), okL_cons, impl_lengthsOk.l0, if_pos (by omega), if_pos (by omega), if_pos (by omega), in_impl, Option.bind_some]
    by_cases c : 0 ≤ rd l j ∧ rd l j ≤ 15
    · rw [decide_eq_true c, if_pos rfl, Bool.true_and, w64_id (x := (j : Int) + 1) (by omega) (by omega)]
      exact ih (j + 1) k (by omega) (by omega)
    · rw [decide_eq_false c, if_neg (by decide), Bool.false_and, Bool.false_and]
theorem lensOk_k (l : List Int) (hl : l.length ≤ 1048576) (m : Int) : impl_lengthsOk.f (l.length + 10) l m = some (okL l && decide ((l.length : Int) ≤ m)) := lensOk_at l hl m l.length 0 _ (by omega) (by omega)
/-- How many are above 0. -/
def nzL : List Int → Nat
  | [] => 0
  | x :: l => (if 0 < x then 1 else 0) + nzL l
theorem nzL_le : ∀ l, nzL l ≤ l.length
  | [] => Nat.le_refl _
  | x :: l => by
    have := nzL_le l
    rw [nzL, List.length_cons]
    split <;> omega
/-- What the kind is, of how full and how many. -/
def kindS (F n : Nat) : Int := if n = 0 then 1 else if F = 32768 then 2 else if F > 32768 then 5 else if n = 1 then (if F = 16384 then 3 else 4) else 4
theorem kind_loop (l : List Int) (hl : l.length ≤ 320) (F : Nat) (d : Nat) : ∀ (j n : Nat), j + d = l.length → n ≤ j → Ev (fun k => spec_CodeKind.l0 k l (F : Int) (n : Int) j) (kindS F (n + nzL (l.drop j))) := by
  induction d with
  | zero =>
    intro j n h hn
    rw [List.drop_of_length_le (by omega)]
    refine ev_ret (fun k => ?_)
    rw [spec_CodeKind.l0, if_neg (by omega)]
    have q1 : ((n : Int) = 0) ↔ n = 0 := by omega
    have q2 : ((F : Int) = 32768) ↔ F = 32768 := by omega
    have q3 : ((F : Int) > 32768) ↔ F > 32768 := by omega
    have q4 : ((n : Int) = 1) ↔ n = 1 := by omega
    have q5 : ((F : Int) = 16384) ↔ F = 16384 := by omega
    simp only [nzL, Nat.add_zero, q1, q2, q3, q4, q5]
    unfold kindS
    repeat' split
    all_goals first | rfl | omega
  | succ d ih =>
    intro j n h hn
    rw [drop_rd l j (by omega), nzL]
    by_cases c : rd l j > 0
    · have e : (if 0 < rd l (j : Int) then 1 else 0) = 1 := if_pos c
      have g := ih (j + 1) (n + 1) (by omega) (by omega)
      rw [e, ← Nat.add_assoc]
      refine Ev.step (fun k => ?_) g
      rw [spec_CodeKind.l0, if_pos (by omega), if_pos (by omega), if_pos c, w64_id (x := (n : Int) + 1) (by omega) (by omega), w64_id (x := (j : Int) + 1) (by omega) (by omega)]
      rfl
    · have e : (if 0 < rd l (j : Int) then 1 else 0) = 0 := if_neg c
      have g := ih (j + 1) n (by omega) (by omega)
      rw [e, Nat.zero_add]
      refine Ev.step (fun k => ?_) g
      rw [spec_CodeKind.l0, if_pos (by omega), if_pos (by omega), if_neg c, w64_id (x := (j : Int) + 1) (by omega) (by omega)]
      rfl
/-- The kind of any lengths. -/
def kindL (l : List Int) : Int := if okL l = true ∧ l.length ≤ 288 then kindS (fullS l) (nzL l) else 0
theorem kind_spec (l : List Int) : Ev (fun k => spec_CodeKind.f k l) (kindL l) := by
  have g := roomF_is l
  unfold kindL
  by_cases h : okL l = true ∧ l.length ≤ 288
  · rw [if_pos h] at g ⊢
    have g2 := kind_loop l (by omega) (fullS l) l.length 0 0 (by omega) (Nat.le_refl _)
    rw [List.drop_zero, Nat.zero_add] at g2
    refine ev_use g (fun k hk => ?_) g2
    unfold spec_CodeKind.f
    have hk : spec_l03Room.f k l 288 = _ := hk
    rw [hk, Option.bind_some, if_pos rfl]
    rfl
  · rw [if_neg h] at g ⊢
    refine ev_end g (fun k hk => ?_)
    show spec_CodeKind.f k l = _
    have hk : spec_l03Room.f k l 288 = _ := hk
    unfold spec_CodeKind.f
    rw [hk, Option.bind_some, if_neg (by decide)]
theorem nzTo_cons (x : Int) (l : List Int) : ∀ m, (symsTo (x :: l) m).length = (symsTo l m).length + if 0 < x ∧ x ≤ (m : Int) then 1 else 0
  | 0 => by rw [symsTo, symsTo, if_neg (by omega)]; rfl
  | m + 1 => by
    have ih := nzTo_cons x l m
    have e1 := syms_split (x :: l) (m + 1) (by omega)
    have e2 := syms_split l (m + 1) (by omega)
    rw [Nat.add_sub_cancel] at e1 e2
    rw [e1, e2, ih, cntN_cons]
    by_cases h1 : x = ((m + 1 : Nat) : Int)
    · have q1 : (if 0 < x ∧ x ≤ (m : Int) then 1 else 0) = 0 := if_neg (by omega)
      have q2 : (if 0 < m + 1 ∧ x = ((m + 1 : Nat) : Int) then 1 else 0) = 1 := if_pos ⟨by omega, h1⟩
      have q3 : (if 0 < x ∧ x ≤ ((m + 1 : Nat) : Int) then 1 else 0) = 1 := if_pos (by omega)
      rw [q1, q2, q3]
      omega
    · have q2 : (if 0 < m + 1 ∧ x = ((m + 1 : Nat) : Int) then 1 else 0) = 0 := if_neg (fun h => h1 h.2)
      have q3 : (if 0 < x ∧ x ≤ ((m + 1 : Nat) : Int) then 1 else 0) = (if 0 < x ∧ x ≤ (m : Int) then 1 else 0) := by
        by_cases h2 : 0 < x ∧ x ≤ (m : Int)
        · rw [if_pos h2, if_pos (by omega)]
        · rw [if_neg h2, if_neg (by omega)]
      rw [q2, q3]
      omega
theorem nz_is : ∀ (l : List Int), okL l = true → (symsTo l 15).length = nzL l
  | [], _ => by decide
  | x :: l, h => by
    rw [okL_cons, Bool.and_eq_true] at h
    have hx := of_decide_eq_true h.1
    rw [nzTo_cons, nz_is l h.2, nzL]
    by_cases h0 : 0 < x
    · rw [if_pos h0, if_pos (by omega)]; omega
    · rw [if_neg h0, if_neg (by omega)]; omega
theorem full_zero : ∀ (l : List Int), okL l = true → (fullS l = 0 ↔ nzL l = 0) ∧ (nzL l = 0 → cntN l 1 = 0) ∧ (nzL l = 1 → (fullS l = 16384 ↔ cntN l 1 = 1))
  | [], _ => by decide
  | x :: l, h => by
    rw [okL_cons, Bool.and_eq_true] at h
    have hx := of_decide_eq_true h.1
    obtain ⟨i1, i2, i3⟩ := full_zero l h.2
    rw [fullS, nzL, cntN_cons]
    by_cases h0 : 0 < x
    · have p : 0 < 2 ^ (15 - x.toNat) := Nat.pos_of_ne_zero (by simp)
      rw [if_pos h0, if_pos h0]
      refine ⟨by omega, by omega, fun h1 => ?_⟩
      have z := i2 (by omega)
      have y := i1.2 (by omega)
      rw [z, y]
      by_cases hx1 : x = 1
      · subst hx1; decide
      · have q : (if 0 < 1 ∧ x = ((1 : Nat) : Int) then 1 else 0) = 0 := if_neg (fun h => hx1 h.2)
        have p2 : 2 ^ (15 - x.toNat) ≤ 2 ^ 13 := Nat.pow_le_pow_right (by omega) (by omega)
        rw [q]
        omega
    · have q : (if 0 < 1 ∧ x = ((1 : Nat) : Int) then 1 else 0) = 0 := if_neg (fun h => by have := h.2; omega)
      rw [if_neg h0, if_neg h0, q]
      refine ⟨by omega, by omega, fun h1 => ?_⟩
      have := i3 (by omega)
      omega
theorem kindI_is (l : List Int) (h : okL l = true) : kindI l = kindS (fullS l) (nzL l) := by
  obtain ⟨i1, i2, i3⟩ := full_zero l h
  unfold kindI kindS
  rw [fullS_is l (okL_mem h), nz_is l h]
  by_cases h1 : fullS l = 0
  · rw [if_pos h1, if_pos (i1.1 h1)]
  · rw [if_neg h1, if_neg (fun h2 => h1 (i1.2 h2))]
    by_cases h2 : fullS l = 32768
    · rw [if_pos h2, if_pos h2]
    · rw [if_neg h2, if_neg h2]
      by_cases h3 : 32768 < fullS l
      · rw [if_pos h3, if_pos h3]
      · rw [if_neg h3, if_neg h3]
        by_cases h4 : nzL l = 1
        · rw [if_pos h4]
          by_cases h5 : fullS l = 16384
          · rw [if_pos h5, if_pos ⟨h4, (i3 h4).1 h5⟩]
          · rw [if_neg h5, if_neg (fun h6 => h5 ((i3 h4).2 h6.2))]
        · rw [if_neg (fun h6 => h4 h6.1), if_neg h4]
theorem kind_impl (l : List Int) (hl : l.length ≤ 1048576) : impl_CodeKind.f l = some (kindL l) := by
  unfold impl_CodeKind.f kindL
  rw [lensOk_k l hl, Option.bind_some]
  unfold kindF
  by_cases h : okL l = true ∧ l.length ≤ 288
  · rw [h.1, decide_eq_true (show (l.length : Int) ≤ 288 by omega), Bool.and_true, if_pos rfl, if_pos (by omega), if_pos ⟨rfl, h.2⟩, kindI_is l h.1]
  · rw [if_neg h]
    have e : (okL l && decide ((l.length : Int) ≤ 288)) = false := by
      by_cases h1 : okL l = true
      · rw [h1, Bool.true_and]
        exact decide_eq_false (fun h2 => h ⟨h1, by omega⟩)
      · have : okL l = false := by simpa using h1
        rw [this, Bool.false_and]
    rw [e, if_neg (by decide)]

/-- Have these lengths codes. -/
def hasC (l : List Int) : Bool := kindL l != 0 && kindL l != 5
theorem hasC_impl (l : List Int) (hl : l.length ≤ 1048576) : impl_hasCodes.f l = some (hasC l) := by
  unfold impl_hasCodes.f hasC
  rw [kind_impl l hl, Option.bind_some]
  by_cases h : kindL l = 0
  · rw [if_pos h, h]; rfl
  · rw [if_neg h]
    have : (kindL l != 0) = true := by simpa using h
    rw [this, Bool.true_and]
theorem hasC_ok {l : List Int} (h : hasC l = true) : okL l = true ∧ l.length ≤ 288 ∧ fullS l ≤ 32768 := by
  unfold hasC kindL at h
  by_cases h1 : okL l = true ∧ l.length ≤ 288
  · rw [if_pos h1] at h
    refine ⟨h1.1, h1.2, ?_⟩
    unfold kindS at h
    by_cases h2 : nzL l = 0
    · have := ((full_zero l h1.1).1).2 h2
      omega
    · rw [if_neg h2] at h
      by_cases h3 : fullS l = 32768
      · omega
      · rw [if_neg h3] at h
        by_cases h4 : fullS l > 32768
        · rw [if_pos h4] at h
          simp at h
        · omega
  · rw [if_neg h1] at h
    simp at h
theorem codesI_rd (l : List Int) (i : Nat) (h : i < l.length) (h0 : 0 < rd l (i : Int)) : rd (codesI l l.length) (i : Int) = ((codeN l i : Nat) : Int) := by
  have e : (codesI l l.length)[i]? = some ((codeN l i : Nat) : Int) := by
    unfold codesI
    rw [List.getElem?_map, List.getElem?_range h]
    simp only [Option.map_some, if_pos h0]
  unfold rd
  rw [Int.toNat_natCast, List.getD_eq_getElem?_getD, e]
  rfl
/-- The codes of any lengths. -/
def codesR (l : List Int) : List Int × Bool := if hasC l = true then (codesI l l.length, true) else ([], false)
theorem codes_impl (l : List Int) (hl : l.length ≤ 1048576) : impl_CodesOf.f l = some (codesR l) := by
  unfold impl_CodesOf.f codesR
  rw [hasC_impl l hl, Option.bind_some]
  unfold codesF
  by_cases h : hasC l = true
  · obtain ⟨h1, h2, h3⟩ := hasC_ok h
    rw [if_pos h, if_pos h, if_pos ⟨by omega, okL_mem h1⟩]
  · rw [if_neg h, if_neg h]
/-- x & 255 is a byte, whatever x is. -/
theorem and255 (x : Int) : 0 ≤ Go.bits .and .i64 x 255 ∧ Go.bits .and .i64 x 255 ≤ 255 := by
  have h : (BitVec.ofInt 64 x &&& BitVec.ofInt 64 255).toNat ≤ 255 := by
    rw [BitVec.toNat_and]
    exact Nat.le_trans Nat.and_le_right (by decide)
  have e : Go.bits .and .i64 x 255 = IntKind.i64.wrap ((BitVec.ofInt 64 x &&& BitVec.ofInt 64 255).toNat : Int) := rfl
  rw [e, wraps64 _ (by omega) (by omega)]
  omega
theorem new_ends (l : List Int) (d : Nat) : ∀ (h : Int) (i : Nat), i + d = 4000 → ∃ h', Ev (fun k => spec_l01New.l0 k l h i) (l, 0, h') := by
  induction d with
  | zero =>
    intro h i hi
    exact ⟨h, ev_ret (fun k => by
      rw [spec_l01New.l0]
      split
      · rw [if_neg (by omega)]
      · rfl)⟩
  | succ d ih =>
    intro h i hi
    by_cases c : (i : Int) < (l.length : Int)
    · obtain ⟨h', e⟩ := ih (Go.bits .and .i64 (wrap64 ((wrap64 ((wrap64 (h * 131)) + (wrap64 (rd l i)))) + 7)) 1073741823) (i + 1) (by omega)
      exact ⟨h', Ev.step (fun k => by rw [spec_l01New.l0, if_pos c, if_pos (by omega), if_pos (by omega), w64_id (x := (i : Int) + 1) (by omega) (by omega)]; rfl) e⟩
    · exact ⟨h, ev_ret (fun k => by rw [spec_l01New.l0, if_neg c])⟩
theorem new_is (l : List Int) : ∃ h, Ev (fun k => spec_l01New.f k l) (l, 0, h) := new_ends l 4000 _ 0 (by omega)
theorem byte_is (l : List Int) (hl : l.length ≤ 9223372036854775807) (i h : Int) (hi : 0 ≤ i) : ∃ x i' h', spec_l01Byte.f l i h = some (x, i', h') ∧ 0 ≤ x ∧ x ≤ 255 ∧ 0 ≤ i' := by
  unfold spec_l01Byte.f
  by_cases c : i < (l.length : Int)
  · rw [if_pos c, if_pos hi]
    have := and255 (wrap64 ((Go.bits .and .i64 (Go.bits .xor .i64 ((wrap64 ((wrap64 (h * 6364136223846793005)) + 1442695040888963407)) / 8589934592) ((wrap64 ((wrap64 (h * 6364136223846793005)) + 1442695040888963407)) / 35184372088832)) 255) + (wrap64 (rd l i))))
    exact ⟨_, _, _, rfl, this.1, this.2, by rw [w64_id (by omega) (by omega)]; omega⟩
  · rw [if_neg c]
    have := and255 (Go.bits .xor .i64 ((wrap64 ((wrap64 (h * 6364136223846793005)) + 1442695040888963407)) / 8589934592) ((wrap64 ((wrap64 (h * 6364136223846793005)) + 1442695040888963407)) / 35184372088832))
    exact ⟨_, _, _, rfl, this.1, this.2, hi⟩
theorem below_is (l : List Int) (hl : l.length ≤ 9223372036854775807) (i h n : Int) (hi : 0 ≤ i) : ∃ x i' h', spec_l01Below.f l i h n = some (x, i', h') ∧ 0 ≤ x ∧ (0 < n → x < n) ∧ 0 ≤ i' := by
  unfold spec_l01Below.f
  by_cases c0 : n ≤ 0
  · rw [if_pos c0]
    exact ⟨_, _, _, rfl, by omega, by omega, hi⟩
  · rw [if_neg c0]
    by_cases c1 : n ≤ 256
    · rw [if_pos c1]
      obtain ⟨x, i1, h1, e, x0, x1, hi1⟩ := byte_is l hl i h hi
      rw [e, Option.bind_some, if_neg (by omega)]
      refine ⟨_, _, _, rfl, ?_, fun _ => ?_, hi1⟩
      · rw [tmod_nn _ x0]; exact Int.emod_nonneg _ (by omega)
      · rw [tmod_nn _ x0]; exact Int.emod_lt_of_pos _ (by omega)
    · rw [if_neg c1]
      obtain ⟨x, i1, h1, e1, x0, x1, hi1⟩ := byte_is l hl i h hi
      obtain ⟨y, i2, h2, e2, y0, y1, hi2⟩ := byte_is l hl i1 h1 hi1
      obtain ⟨z, i3, h3, e3, z0, z1, hi3⟩ := byte_is l hl i2 h2 hi2
      obtain ⟨w, i4, h4, e4, w0, w1, hi4⟩ := byte_is l hl i3 h3 hi3
      simp only [e1, e2, e3, e4, Option.bind_some]
      rw [if_neg (by omega)]
      rw [w64_id (x := x * 16777216) (by omega) (by omega), w64_id (x := y * 65536) (by omega) (by omega), w64_id (x := z * 256) (by omega) (by omega), w64_id (x := x * 16777216 + y * 65536) (by omega) (by omega), w64_id (x := x * 16777216 + y * 65536 + z * 256) (by omega) (by omega), w64_id (x := x * 16777216 + y * 65536 + z * 256 + w) (by omega) (by omega)]
      refine ⟨_, _, _, rfl, ?_, fun _ => ?_, hi4⟩
      · rw [tmod_nn _ (by omega)]; exact Int.emod_nonneg _ (by omega)
      · rw [tmod_nn _ (by omega)]; exact Int.emod_lt_of_pos _ (by omega)

theorem pick_is (l : List Int) (hl : l.length ≤ 9223372036854775807) (i h : Int) (p : List Int) (hp : 0 < p.length) (hi : 0 ≤ i) : ∃ x i' h', spec_l01PickInt.f l i h p = some (x, i', h') ∧ x ∈ p ∧ 0 ≤ i' := by
  unfold spec_l01PickInt.f
  obtain ⟨x, i1, h1, e, x0, x1, hi1⟩ := below_is l hl i h p.length hi
  have x1 := x1 (by omega)
  rw [e]
  simp only [Option.bind_some]
  rw [if_pos x0, if_pos x1]
  obtain ⟨j, rfl⟩ := Int.eq_ofNat_of_zero_le x0
  exact ⟨_, _, _, rfl, rd_mem p j (by omega), hi1⟩

theorem lens3 (c : List Int) (hc : c.length ≤ 9223372036854775807) (d : Nat) : ∀ (o : List Int) (i h : Int), o.length + d = 300 → 0 ≤ i → ∃ r, Ev (fun k => spec_l03Lengths.l3 k o c i h) r ∧ r.1.length ≤ 300 := by
  induction d with
  | zero =>
    intro o i h ho hi
    obtain ⟨x, i1, h1, e1, x0, x1, i10⟩ := below_is c hc i h 2 hi
    have x1 := x1 (by omega)
    refine ⟨(o, i1, h1), ev_ret (fun k => ?_), by show o.length ≤ 300; omega⟩
    rw [spec_l03Lengths.l3, e1, Option.bind_some, w64_id (x := 288 + x) (by omega) (by omega), if_neg (by omega)]
  | succ d ih =>
    intro o i h ho hi
    obtain ⟨x, i1, h1, e1, x0, x1, i10⟩ := below_is c hc i h 2 hi
    have x1 := x1 (by omega)
    by_cases hl : (o.length : Int) < 288 + x
    · obtain ⟨r, g, gs⟩ := ih (o ++ [0]) i1 h1 (by simp; omega) i10
      refine ⟨r, Ev.step (fun k => ?_) g, gs⟩
      rw [spec_l03Lengths.l3, e1, Option.bind_some, w64_id (x := 288 + x) (by omega) (by omega), if_pos hl, if_pos (by omega)]
    · refine ⟨(o, i1, h1), ev_ret (fun k => ?_), by show o.length ≤ 300; omega⟩
      rw [spec_l03Lengths.l3, e1, Option.bind_some, w64_id (x := 288 + x) (by omega) (by omega), if_neg hl]
theorem lens2 (c : List Int) (hc : c.length ≤ 9223372036854775807) (d : Nat) : ∀ (j : Nat) (o : List Int) (i h : Int), j + d = o.length → 0 < o.length → o.length ≤ 100 → 0 ≤ i → ∃ r, Ev (fun k => spec_l03Lengths.l2 k o (j : Int) c i h) r ∧ r.1.length ≤ 300 := by
  induction d with
  | zero =>
    intro j o i h hj h0 ho hi
    obtain ⟨x, i1, h1, e1, x0, x1, i10⟩ := below_is c hc i h 24 hi
    by_cases c0 : x = 0
    · obtain ⟨y, i2, h2, e2, y0, y1, i20⟩ := below_is c hc i1 h1 (o.length : Int) i10
      obtain ⟨z, i3, h3, e3, _, i30⟩ := pick_is c hc i2 h2 [-1, 15, 16, 1, 0] (by simp) i20
      refine ⟨(o.set y.toNat z, i3, h3), ev_ret (fun k => ?_), by show (o.set y.toNat z).length ≤ 300; rw [List.length_set]; omega⟩
      rw [spec_l03Lengths.l2, if_neg (by omega), e1, Option.bind_some, if_pos c0, e2, Option.bind_some, e3, Option.bind_some, if_pos y0, if_pos (y1 (by omega))]
    · by_cases c1 : x = 1
      · refine ⟨([0, 1, 0], i1, h1), ev_ret (fun k => ?_), by show ([0, 1, 0] : List Int).length ≤ 300; simp⟩
        rw [spec_l03Lengths.l2, if_neg (by omega), e1, Option.bind_some, if_neg c0, if_pos c1]
      · by_cases c2 : x = 2
        · obtain ⟨y, i2, h2, e2, y0, y1, i20⟩ := below_is c hc i1 h1 15 i10
          refine ⟨(o ++ [wrap64 (1 + y)], i2, h2), ev_ret (fun k => ?_), by show (o ++ [wrap64 (1 + y)]).length ≤ 300; simp; omega⟩
          rw [spec_l03Lengths.l2, if_neg (by omega), e1, Option.bind_some, if_neg c0, if_neg c1, if_pos c2, e2, Option.bind_some, if_pos (by omega)]
        · by_cases c3 : x = 3
          · obtain ⟨r, g, gs⟩ := lens3 c hc (300 - o.length) o i1 h1 (by omega) i10
            refine ⟨r, Ev.step (fun k => ?_) g, gs⟩
            rw [spec_l03Lengths.l2, if_neg (by omega), e1, Option.bind_some, if_neg c0, if_neg c1, if_neg c2, if_pos c3]
          · refine ⟨(o, i1, h1), ev_ret (fun k => ?_), by show o.length ≤ 300; omega⟩
            rw [spec_l03Lengths.l2, if_neg (by omega), e1, Option.bind_some, if_neg c0, if_neg c1, if_neg c2, if_neg c3]
  | succ d ih =>
    intro j o i h hj h0 ho hi
    obtain ⟨y, i2, h2, e2, y0, y1, i20⟩ := below_is c hc i h (o.length : Int) hi
    obtain ⟨r, g, gs⟩ := ih (j + 1) ((o.set j (rd o y)).set y.toNat (rd o j)) i2 h2 (by simp; omega) (by simp; omega) (by simp; omega) i20
    refine ⟨r, Ev.step (fun k => ?_) g, gs⟩
    rw [spec_l03Lengths.l2, if_pos (by omega), e2, Option.bind_some, if_pos (by omega), if_pos y0, if_pos (y1 (by omega)), w64_id (x := (j : Int) + 1) (by omega) (by omega), Int.toNat_natCast]
    rfl
theorem lens1 (c : List Int) (hc : c.length ≤ 9223372036854775807) (d : Nat) : ∀ (j : Nat) (o : List Int) (i h : Int), j + d = 4 → 0 < o.length → o.length ≤ 50 + j → 0 ≤ i → ∃ r, Ev (fun k => spec_l03Lengths.l1 k o (j : Int) c i h) r ∧ r.1.length ≤ 300 := by
  induction d with
  | zero =>
    intro j o i h hj h0 ho hi
    obtain ⟨x, i1, h1, e1, x0, x1, i10⟩ := below_is c hc i h 4 hi
    have x1 := x1 (by omega)
    obtain ⟨r, g, gs⟩ := lens2 c hc o.length 0 o i1 h1 (by omega) h0 (by omega) i10
    refine ⟨r, Ev.step (fun k => ?_) g, gs⟩
    rw [spec_l03Lengths.l1, e1, Option.bind_some, if_neg (by omega)]
    rfl
  | succ d ih =>
    intro j o i h hj h0 ho hi
    obtain ⟨x, i1, h1, e1, x0, x1, i10⟩ := below_is c hc i h 4 hi
    by_cases hx : (j : Int) < x
    · obtain ⟨r, g, gs⟩ := ih (j + 1) (o ++ [0]) i1 h1 (by omega) (by simp) (by simp; omega) i10
      refine ⟨r, Ev.step (fun k => ?_) g, gs⟩
      rw [spec_l03Lengths.l1, e1, Option.bind_some, if_pos hx, if_pos (by omega), w64_id (x := (j : Int) + 1) (by omega) (by omega)]
      rfl
    · obtain ⟨r, g, gs⟩ := lens2 c hc o.length 0 o i1 h1 (by omega) h0 (by omega) i10
      refine ⟨r, Ev.step (fun k => ?_) g, gs⟩
      rw [spec_l03Lengths.l1, e1, Option.bind_some, if_neg hx]
      rfl
theorem lens0 (c : List Int) (hc : c.length ≤ 9223372036854775807) (d : Nat) : ∀ (j : Nat) (o : List Int) (i h : Int), j + d = 12 → 0 < o.length → o.length ≤ 1 + j → 0 ≤ i → ∃ r, Ev (fun k => spec_l03Lengths.l0 k o (j : Int) c i h) r ∧ r.1.length ≤ 300 := by
  induction d with
  | zero =>
    intro j o i h hj h0 ho hi
    obtain ⟨x, i1, h1, e1, x0, x1, i10⟩ := below_is c hc i h 12 hi
    have x1 := x1 (by omega)
    obtain ⟨r, g, gs⟩ := lens1 c hc 4 0 o i1 h1 (by omega) h0 (by omega) i10
    refine ⟨r, Ev.step (fun k => ?_) g, gs⟩
    rw [spec_l03Lengths.l0, e1, Option.bind_some, if_neg (by omega)]
    rfl
  | succ d ih =>
    intro j o i h hj h0 ho hi
    obtain ⟨x, i1, h1, e1, x0, x1, i10⟩ := below_is c hc i h 12 hi
    have w1 : wrap64 ((j : Int) + 1) = ((j + 1 : Nat) : Int) := w64_id (by omega) (by omega)
    by_cases hx : (j : Int) < x
    · obtain ⟨y, i2, h2, e2, y0, y1, i20⟩ := below_is c hc i1 h1 (o.length : Int) i10
      have y1 := y1 (by omega)
      by_cases h14 : rd o y < 14
      · obtain ⟨r, g, gs⟩ := ih (j + 1) (o.set y.toNat (wrap64 (rd o y + 1)) ++ [rd (o.set y.toNat (wrap64 (rd o y + 1))) y]) i2 h2 (by omega) (by simp) (by simp; omega) i20
        refine ⟨r, Ev.step (fun k => ?_) g, gs⟩
        rw [spec_l03Lengths.l0, e1, Option.bind_some, if_pos hx, e2, Option.bind_some, if_pos y0, if_pos y1, if_pos h14, Option.bind_some, if_pos (by rw [List.length_set]; omega), w1]
      · obtain ⟨r, g, gs⟩ := ih (j + 1) o i2 h2 (by omega) h0 (by omega) i20
        refine ⟨r, Ev.step (fun k => ?_) g, gs⟩
        rw [spec_l03Lengths.l0, e1, Option.bind_some, if_pos hx, e2, Option.bind_some, if_pos y0, if_pos y1, if_neg h14, w1]
    · obtain ⟨r, g, gs⟩ := lens1 c hc 4 0 o i1 h1 (by omega) h0 (by omega) i10
      refine ⟨r, Ev.step (fun k => ?_) g, gs⟩
      rw [spec_l03Lengths.l0, e1, Option.bind_some, if_neg hx]
      rfl

theorem drawCodes_is (l : List Int) (hl : l.length ≤ 9223372036854775807) : ∃ r, Ev (fun k => spec_DrawCodesOf.f k l) r ∧ r.length ≤ 300 := by
  obtain ⟨h, e⟩ := new_is l
  obtain ⟨r, g, gs⟩ := lens0 l hl 12 0 [0] 0 h (by omega) (by simp) (by simp) (by omega)
  refine ⟨r.1, ev_end (ev_pair e g) (fun k hk => ?_), gs⟩
  obtain ⟨k1, k2⟩ := pair_some hk
  have k2 : spec_l03Lengths.f k l 0 h = some r := k2
  unfold spec_DrawCodesOf.f
  rw [k1, Option.bind_some, k2, Option.bind_some]
theorem apart_inner (l : List Int) (hl : l.length ≤ 288) (ho : ∀ y ∈ l, 0 ≤ y ∧ y ≤ 15) (i : Nat) (hi : i < l.length) (hR : Ev (fun k => laws_FnCodes.l0 k l (codesI l l.length) ((i + 1 : Nat) : Int)) true) (d : Nat) : ∀ j : Nat, j + d = l.length → Ev (fun k => laws_FnCodes.l1 k l (codesI l l.length) (i : Int) (j : Int)) true := by
  have hlen := codesI_len l l.length
  have wi : wrap64 ((i : Int) + 1) = ((i + 1 : Nat) : Int) := w64_id (by omega) (by omega)
  have out : ∀ j : Nat, Ev (fun k => laws_FnCodes.j3 k l (codesI l l.length) (i : Int) (j : Int) false) true := fun j => Ev.step (fun k => by rw [laws_FnCodes.j3, if_neg (by decide), wi]) hR
  induction d with
  | zero =>
    intro j h
    refine Ev.step (fun k => ?_) (out j)
    rw [laws_FnCodes.l1, if_neg (by omega)]
  | succ d ih =>
    intro j h
    have next := ih (j + 1) (by omega)
    have wj : wrap64 ((j : Int) + 1) = ((j + 1 : Nat) : Int) := w64_id (by omega) (by omega)
    by_cases h40 : (j : Int) < 40
    · have skip : Ev (fun k => laws_FnCodes.j4 k l (codesI l l.length) (i : Int) (j : Int) true) true := Ev.step (fun k => by rw [laws_FnCodes.j4, if_pos rfl, wj]) next
      have g3 : Ev (fun k => laws_FnCodes.j3 k l (codesI l l.length) (i : Int) (j : Int) true) true := by
        by_cases e1 : (i : Int) = (j : Int)
        · exact Ev.step (fun k => by rw [laws_FnCodes.j3, if_pos rfl, if_pos e1]) skip
        · by_cases e2 : rd l (i : Int) = 0
          · exact Ev.step (fun k => by rw [laws_FnCodes.j3, if_pos rfl, if_neg e1, if_pos (by omega), if_pos (by omega), if_pos e2]) skip
          · by_cases e3 : rd l (j : Int) = 0
            · exact Ev.step (fun k => by rw [laws_FnCodes.j3, if_pos rfl, if_neg e1, if_pos (by omega), if_pos (by omega), if_neg e2, if_pos (by omega), if_pos (by omega), if_pos e3]) skip
            · have hmi := ho _ (rd_mem l i hi)
              have hmj := ho _ (rd_mem l j (by omega))
              have base : ∀ k, laws_FnCodes.j3 (k + 1) l (codesI l l.length) (i : Int) (j : Int) true = laws_FnCodes.j4 k l (codesI l l.length) (i : Int) (j : Int) (decide (rd l (i : Int) > rd l (j : Int))) := fun k => by
                rw [laws_FnCodes.j3, if_pos rfl, if_neg e1, if_pos (by omega), if_pos (by omega), if_neg e2, if_pos (by omega), if_pos (by omega), if_neg e3]
              by_cases e4 : rd l (i : Int) > rd l (j : Int)
              · exact Ev.step (fun k => by rw [base k, decide_eq_true e4]) skip
              · obtain ⟨a, ha⟩ : ∃ a : Nat, rd l (i : Int) = (a : Int) := ⟨(rd l (i : Int)).toNat, by omega⟩
                obtain ⟨b, hb⟩ : ∃ b : Nat, rd l (j : Int) = (b : Int) := ⟨(rd l (j : Int)).toNat, by omega⟩
                have ap := code_apart l i j a b hi (by omega) (by omega) (by omega) ha hb (by omega)
                have hw : wrap64 (rd l (j : Int) - rd l (i : Int)) = ((b - a : Nat) : Int) := by rw [w64_id (by omega) (by omega)]; omega
                have hs : shr .i64 (rd (codesI l l.length) (j : Int)) ((b - a : Nat) : Int) = ((codeN l j / 2 ^ (b - a) : Nat) : Int) := by
                  have e := shr_small (k := .i64) (x := rd (codesI l l.length) (j : Int)) (y := ((b - a : Nat) : Int)) rfl (by simp [IntKind.bits]; omega)
                  rw [← e, codesI_rd l j (by omega) (by omega), Int.toNat_natCast, Int.natCast_ediv, Int.natCast_pow]
                  rfl
                have hne : ¬ ((codeN l j / 2 ^ (b - a) : Nat) : Int) = ((codeN l i : Nat) : Int) := by
                  intro h
                  exact ap (Int.ofNat.inj h)
                have g4 : Ev (fun k => laws_FnCodes.j4 k l (codesI l l.length) (i : Int) (j : Int) false) true := by
                  refine Ev.step (fun k => ?_) next
                  rw [laws_FnCodes.j4, if_neg (by decide), if_pos (by omega), if_pos (by omega), if_pos (by omega), if_pos (by omega), if_pos (by omega), hw, if_pos (by omega), if_pos (by omega), hs, codesI_rd l i hi (by omega), if_neg hne, wj]
                exact Ev.step (fun k => by rw [base k, decide_eq_false e4]) g4
      refine Ev.step (fun k => ?_) g3
      rw [laws_FnCodes.l1, if_pos (by omega), decide_eq_true h40]
    · refine Ev.step (fun k => ?_) (out j)
      rw [laws_FnCodes.l1, if_pos (by omega), decide_eq_false h40]
theorem apart_outer (l : List Int) (hl : l.length ≤ 288) (ho : ∀ y ∈ l, 0 ≤ y ∧ y ≤ 15) (d : Nat) : ∀ i : Nat, i + d = l.length → Ev (fun k => laws_FnCodes.l0 k l (codesI l l.length) (i : Int)) true := by
  have hlen := codesI_len l l.length
  induction d with
  | zero => exact fun i h => ev_ret (fun k => by rw [laws_FnCodes.l0, if_neg (by omega)])
  | succ d ih =>
    intro i h
    refine Ev.step (fun k => ?_) (apart_inner l hl ho i (by omega) (ih (i + 1) (by omega)) l.length 0 (by omega))
    rw [laws_FnCodes.l0, if_pos (by omega)]
    rfl
theorem FnCodes : laws_FnCodes.Pure := by
  intro l hm hl hw
  have hbig : laws_big.f l = some (decide ((l.length : Int) > 1048576)) := rfl
  by_cases hb : (l.length : Int) > 1048576
  · refine ⟨0, ?_⟩
    unfold laws_FnCodes.f
    rw [hbig, decide_eq_true hb, Option.bind_some, if_pos rfl]
  · obtain ⟨q, gD, hq⟩ := drawCodes_is l (by omega)
    have gI := codes_impl q (by omega)
    have gS := kind_spec q
    have gK := kind_impl q (by omega)
    have gJ : Ev (fun k => laws_FnCodes.j0 k q (codesR q).1 (codesR q).2 false) true := by
      unfold codesR
      by_cases h : hasC q = true
      · obtain ⟨h1, h2, h3⟩ := hasC_ok h
        rw [if_pos h]
        refine Ev.step (fun k => ?_) (apart_outer q h2 (okL_mem h1) q.length 0 (by omega))
        rw [laws_FnCodes.j0, if_neg (by decide), if_pos rfl, if_pos (by rw [codesI_len])]
        rfl
      · rw [if_neg h]
        refine ev_ret (fun k => ?_)
        rw [laws_FnCodes.j0, if_neg (by decide), if_neg (by decide)]
        rfl
    have hc2 : (codesR q).2 = hasC q := by
      unfold codesR
      cases hasC q <;> rfl
    obtain ⟨K1, gD⟩ := gD
    obtain ⟨K2, gS⟩ := gS
    obtain ⟨K3, gJ⟩ := gJ
    refine ⟨K1 + K2 + K3, ?_⟩
    generalize hK : K1 + K2 + K3 = K
    have d1 : spec_DrawCodesOf.f K l = some q := gD K (by omega)
    have d2 : spec_CodeKind.f K q = some (kindL q) := gS K (by omega)
    have d3 : laws_FnCodes.j0 K q (codesR q).1 (codesR q).2 false = some true := gJ K (by omega)
    have bb : (kindL q != kindL q) = false := by simp
    unfold laws_FnCodes.f
    rw [hbig, decide_eq_false hb, Option.bind_some, if_neg (by decide), d1, Option.bind_some, gI, Option.bind_some, d2, Option.bind_some]
    by_cases h0 : kindL q = 0
    · rw [if_pos h0, hc2]
      have e : hasC q = false := by unfold hasC; rw [h0]; rfl
      rw [e] at hc2 ⊢
      rw [if_neg (by decide), gK, Option.bind_some, bb]
      rw [hc2] at d3
      exact d3
    · rw [if_neg h0, hc2]
      have e : hasC q = (kindL q != 5) := by
        unfold hasC
        have : (kindL q != 0) = true := by simpa using h0
        rw [this, Bool.true_and]
      have e2 : (hasC q != (kindL q != 5)) = false := by rw [e]; simp
      rw [e2, if_neg (by decide), gK, Option.bind_some, bb, ← hc2]
      exact d3

end Go.Proofs.Ytimomemkbcidnaa.Pure
