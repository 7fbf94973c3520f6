/- The law FnPackage: for every input within the row's bounds the printed function answers true: what the program's function tells is what the law asks. Conditions: only the bounds that the row itself gives (sizes of strings and slices, ranges of the number kinds). -/
import Derived.Test.YtimomemkbcidnaaPFnPackagex10
namespace Go.Proofs.Ytimomemkbcidnaa.Pure
open Go.RowKit Go.Proofs.Ytimomemkbcidnaa.PFnPackage Go.Proofs.YtimomemkbcidnaaW.PrintWords Go.Proofs.YtimomemkbcidnaaW.PrintLast Go.Proofs.YtimomemkbcidnaaW.PrintMore
set_option linter.unusedVariables false
set_option linter.unusedSimpArgs false

theorem w64_id {x : Int} (h0 : -9223372036854775808 ≤ x) (h1 : x ≤ 9223372036854775807) : wrap64 x = x := by unfold wrap64; omega
theorem tmod_nn {a : Int} (b : Int) (h : 0 ≤ a) : Int.tmod a b = a % b := Int.tmod_eq_emod_of_nonneg h
theorem wraps64 (n : Int) (h0 : 0 ≤ n) (h1 : n < 2 ^ 63) : IntKind.i64.wrap n = n := by rw [IntKind.wrap_i64]; omega
/-- A callee that answers from some number of rounds on, used. -/
theorem ev_use {α β : Type} {g : Nat → Option α} {a : α} {F G : Nat → Option β} {r : β} (e : Ev g a) (h : ∀ k, g k = some a → F k = G k) (c : Ev G r) : Ev F r := by
 obtain ⟨K, e⟩ := e
 obtain ⟨K', c⟩ := c
 exact ⟨max K K', fun n hn => (h n (e n (by omega))).trans (c n (by omega))⟩
theorem ev_use_step {α β : Type} {g : Nat → Option α} {a : α} {F G : Nat → Option β} {r : β} (e : Ev g a) (h : ∀ k, g k = some a → F (k + 1) = G k) (c : Ev G r) : Ev F r := by
 obtain ⟨K, e⟩ := e
 obtain ⟨K', c⟩ := c
 refine ⟨max K K' + 1, fun n hn => ?_⟩
 obtain ⟨m, rfl⟩ : ∃ m, n = m + 1 := ⟨n - 1, by omega⟩
 exact (h m (e m (by omega))).trans (c m (by omega))
theorem ev_end {α β : Type} {g : Nat → Option α} {a : α} {F : Nat → Option β} {r : β} (e : Ev g a) (h : ∀ k, g k = some a → F k = some r) : Ev F r := by
 obtain ⟨K, e⟩ := e
 exact ⟨K, fun n hn => h n (e n hn)⟩
theorem ev_ret {α : Type} {F : Nat → Option α} {r : α} (h : ∀ k, F (k + 1) = some r) : Ev F r := ⟨1, fun n hn => by obtain ⟨m, rfl⟩ : ∃ m, n = m + 1 := ⟨n - 1, by omega⟩; exact h m⟩

theorem in_spec (a b c : Int) : spec_l01In.f a b c = some (decide (b ≤ a ∧ a ≤ c)) := by
 unfold spec_l01In.f
 split
 ·rename_i h
  have e : (decide (a ≤ c)) = decide (b ≤ a ∧ a ≤ c) := decide_eq_decide.mpr ⟨fun h' => ⟨h, h'⟩, fun h' => h'.2⟩
  rw [e]
 ·rename_i h
  have e : (decide (b ≤ a ∧ a ≤ c)) = false := decide_eq_false fun h' => h h'.1
  rw [e]

theorem in_impl (a b c : Int) : impl_within.f a b c = some (decide (b ≤ a ∧ a ≤ c)) := by
 unfold impl_within.f
 split
 ·rename_i h
  have e : (decide (a ≤ c)) = decide (b ≤ a ∧ a ≤ c) := decide_eq_decide.mpr ⟨fun h' => ⟨h, h'⟩, fun h' => h'.2⟩
  rw [e]
 ·rename_i h
  have e : (decide (b ≤ a ∧ a ≤ c)) = false := decide_eq_false fun h' => h h'.1
  rw [e]


/-- Two callees that answer, together. -/
theorem ev_pair {α β : Type} {g : Nat → Option α} {h : Nat → Option β} {a : α} {b : β} (e : Ev g a) (f : Ev h b) : Ev (fun k => (g k).bind fun x => (h k).bind fun y => some (x, y)) (a, b) := by
 obtain ⟨K, e⟩ := e
 obtain ⟨K', f⟩ := f
 exact ⟨max K K', fun n hn => by show ((g n).bind fun x => (h n).bind fun y => some (x, y)) = _; rw [e n (by omega), f n (by omega)]; rfl⟩
theorem pair_some {α β : Type} {g : Option α} {h : Option β} {a : α} {b : β} (e : (g.bind fun x => h.bind fun y => some (x, y)) = some (a, b)) : g = some a ∧ h = some b := by
 cases g with
 | none => cases e
 | some x =>
  cases h with
  | none => cases e
  | some y =>
   injection e with e
   injection e with e1 e2
   exact ⟨by rw [e1], by rw [e2]⟩

theorem rd_nat (l : List Int) (j : Nat) : rd l j = l.getD j 0 := by unfold rd; simp
theorem rd_getElem (l : List Int) (j : Nat) (h : j < l.length) : rd l j = l[j] := by rw [rd_nat, List.getD_eq_getElem?_getD, List.getElem?_eq_getElem h]; rfl
theorem rd_mem (l : List Int) (j : Nat) (h : j < l.length) : rd l j ∈ l := by rw [rd_getElem l j h]; exact List.getElem_mem h
theorem drop_rd (l : List Int) (j : Nat) (h : j < l.length) : l.drop j = rd l j :: l.drop (j + 1) := by rw [rd_getElem l j h]; exact List.drop_eq_getElem_cons h
theorem rd_set (l : List Int) (a : Nat) (v : Int) (j : Nat) (h : a < l.length) : rd (l.set a v) j = if j = a then v else rd l j := by
 rw [rd_nat, rd_nat, List.getD_eq_getElem?_getD, List.getD_eq_getElem?_getD, List.getElem?_set]
 by_cases e : j = a
 ·subst e
  simp [h]
 ·rw [if_neg (Ne.symm e), if_neg e]
/-- 2^n, as the loop doubles it. -/
theorem pow_loop (n : Int) (d : Nat) : ∀ (x i : Int), 0 ≤ i → i + d = n → 0 ≤ x → x * 2 ^ d ≤ 4611686018427387904 → n ≤ 62 →
  Ev (fun k => spec_l01Pow.l0 k n x i) (x * 2 ^ d) := by
 induction d with
 | zero =>
  intro x i h0 h hx hb hn
  refine ev_ret (fun k => ?_)
  rw [spec_l01Pow.l0, if_neg (by omega)]
  simp
 | succ d ih =>
  intro x i h0 h hx hb hn
  have e : x * 2 ^ (d + 1) = 2 * x * 2 ^ d := by rw [Int.pow_succ, ← Int.mul_assoc, Int.mul_comm (x * 2 ^ d) 2, ← Int.mul_assoc]
  have hp : (1 : Int) ≤ 2 ^ d := by have : (0 : Int) < 2 ^ d := Int.pow_pos (by omega); omega
  have h2 : 2 * x ≤ 2 * x * 2 ^ d := by
   have := Int.mul_le_mul_of_nonneg_left hp (show 0 ≤ 2 * x by omega)
   omega
  have h3 := ih (2 * x) (i + 1) (by omega) (by omega) (by omega) (by omega) hn
  rw [e]
  refine Ev.step (fun k => ?_) h3
  rw [spec_l01Pow.l0, if_pos (by omega), w64_id (x := 2 * x) (by omega) (by omega), w64_id (x := i + 1) (by omega) (by omega)]
theorem pow_is (n : Nat) (hn : n ≤ 62) : Ev (fun k => spec_l01Pow.f k (n : Int)) (2 ^ n) := by
 have hb : (2 : Int) ^ n ≤ 2 ^ 62 := by exact_mod_cast Nat.pow_le_pow_right (n := 2) (by omega) hn
 have h := pow_loop n n 1 0 (by omega) (by omega) (by omega) (by rw [Int.one_mul]; exact hb) (by omega)
 rw [Int.one_mul] at h
 exact h
theorem pow_at (n : Int) (h0 : 0 ≤ n) (hn : n ≤ 62) : Ev (fun k => spec_l01Pow.f k n) (2 ^ n.toNat) := by
 have h := pow_is n.toNat (by omega)
 rw [Int.toNat_of_nonneg h0] at h
 exact h

/-- x & 255 is a byte, whatever x is. -/
theorem and255 (x : Int) : 0 ≤ Go.bits .and .i64 x 255 ∧ Go.bits .and .i64 x 255 ≤ 255 := by
 have h : (BitVec.ofInt 64 x &&& BitVec.ofInt 64 255).toNat ≤ 255 := by
  rw [BitVec.toNat_and]
  exact Nat.le_trans Nat.and_le_right (by decide)
 have e : Go.bits .and .i64 x 255 = IntKind.i64.wrap ((BitVec.ofInt 64 x &&& BitVec.ofInt 64 255).toNat : Int) := rfl
 rw [e, wraps64 _ (by omega) (by omega)]
 omega
theorem new_ends (l : List Int) (d : Nat) : ∀ (h : Int) (i : Nat), i + d = 4000 → ∃ h', Ev (fun k => spec_l01New.l0 k l h i) (l, 0, h') := by
 induction d with
 | zero =>
  intro h i hi
  exact ⟨h, ev_ret (fun k => by
   rw [spec_l01New.l0]
   split
   ·rw [if_neg (by omega)]
   ·rfl)⟩
 | succ d ih =>
  intro h i hi
  by_cases c : (i : Int) < (l.length : Int)
  ·obtain ⟨h', e⟩ := ih (Go.bits .and .i64 (wrap64 ((wrap64 ((wrap64 (h * 131)) + (wrap64 (rd l i)))) + 7)) 1073741823) (i + 1) (by omega)
   exact ⟨h', Ev.step (fun k => by rw [spec_l01New.l0, if_pos c, if_pos (by omega), if_pos (by omega), w64_id (x := (i : Int) + 1) (by omega) (by omega)]; rfl) e⟩
  ·exact ⟨h, ev_ret (fun k => by rw [spec_l01New.l0, if_neg c])⟩
theorem new_is (l : List Int) : ∃ h, Ev (fun k => spec_l01New.f k l) (l, 0, h) := new_ends l 4000 _ 0 (by omega)
theorem byte_is (l : List Int) (hl : l.length ≤ 9223372036854775807) (i h : Int) (hi : 0 ≤ i) : ∃ x i' h', spec_l01Byte.f l i h = some (x, i', h') ∧ 0 ≤ x ∧ x ≤ 255 ∧ 0 ≤ i' := by
 unfold spec_l01Byte.f
 by_cases c : i < (l.length : Int)
 ·rw [if_pos c, if_pos hi]
  have := and255 (wrap64 ((Go.bits .and .i64 (Go.bits .xor .i64 ((wrap64 ((wrap64 (h * 6364136223846793005)) + 1442695040888963407)) / 8589934592) ((wrap64 ((wrap64 (h * 6364136223846793005)) + 1442695040888963407)) / 35184372088832)) 255) + (wrap64 (rd l i))))
  exact ⟨_, _, _, rfl, this.1, this.2, by rw [w64_id (by omega) (by omega)]; omega⟩
 ·rw [if_neg c]
  have := and255 (Go.bits .xor .i64 ((wrap64 ((wrap64 (h * 6364136223846793005)) + 1442695040888963407)) / 8589934592) ((wrap64 ((wrap64 (h * 6364136223846793005)) + 1442695040888963407)) / 35184372088832))
  exact ⟨_, _, _, rfl, this.1, this.2, hi⟩
theorem below_is (l : List Int) (hl : l.length ≤ 9223372036854775807) (i h n : Int) (hi : 0 ≤ i) : ∃ x i' h', spec_l01Below.f l i h n = some (x, i', h') ∧ 0 ≤ x ∧ (0 < n → x < n) ∧ 0 ≤ i' := by
 unfold spec_l01Below.f
 by_cases c0 : n ≤ 0
 ·rw [if_pos c0]
  exact ⟨_, _, _, rfl, by omega, by omega, hi⟩
 ·rw [if_neg c0]
  by_cases c1 : n ≤ 256
  ·rw [if_pos c1]
   obtain ⟨x, i1, h1, e, x0, x1, hi1⟩ := byte_is l hl i h hi
   rw [e, Option.bind_some, if_neg (by omega)]
   refine ⟨_, _, _, rfl, ?_, fun _ => ?_, hi1⟩
   ·rw [tmod_nn _ x0]; exact Int.emod_nonneg _ (by omega)
   ·rw [tmod_nn _ x0]; exact Int.emod_lt_of_pos _ (by omega)
  ·rw [if_neg c1]
   obtain ⟨x, i1, h1, e1, x0, x1, hi1⟩ := byte_is l hl i h hi
   obtain ⟨y, i2, h2, e2, y0, y1, hi2⟩ := byte_is l hl i1 h1 hi1
   obtain ⟨z, i3, h3, e3, z0, z1, hi3⟩ := byte_is l hl i2 h2 hi2
   obtain ⟨w, i4, h4, e4, w0, w1, hi4⟩ := byte_is l hl i3 h3 hi3
   simp only [e1, e2, e3, e4, Option.bind_some]
   rw [if_neg (by omega)]
   rw [w64_id (x := x * 16777216) (by omega) (by omega), w64_id (x := y * 65536) (by omega) (by omega), w64_id (x := z * 256) (by omega) (by omega), w64_id (x := x * 16777216 + y * 65536) (by omega) (by omega), w64_id (x := x * 16777216 + y * 65536 + z * 256) (by omega) (by omega), w64_id (x := x * 16777216 + y * 65536 + z * 256 + w) (by omega) (by omega)]
   refine ⟨_, _, _, rfl, ?_, fun _ => ?_, hi4⟩
   ·rw [tmod_nn _ (by omega)]; exact Int.emod_nonneg _ (by omega)
   ·rw [tmod_nn _ (by omega)]; exact Int.emod_lt_of_pos _ (by omega)

theorem pick_is (l : List Int) (hl : l.length ≤ 9223372036854775807) (i h : Int) (p : List Int) (hp : 0 < p.length) (hi : 0 ≤ i) : ∃ x i' h', spec_l01PickInt.f l i h p = some (x, i', h') ∧ x ∈ p ∧ 0 ≤ i' := by
 unfold spec_l01PickInt.f
 obtain ⟨x, i1, h1, e, x0, x1, hi1⟩ := below_is l hl i h p.length hi
 have x1 := x1 (by omega)
 rw [e]
 simp only [Option.bind_some]
 rw [if_pos x0, if_pos x1]
 obtain ⟨j, rfl⟩ := Int.eq_ofNat_of_zero_le x0
 exact ⟨_, _, _, rfl, rd_mem p j (by omega), hi1⟩

open Go.Proofs.Ytimomemkbcidnaa.MBook Go.Proofs.Ytimomemkbcidnaa.MCode
/-- Are these lengths right. -/
def okL (l : List Int) : Bool := l.all fun x => decide (0 ≤ x ∧ x ≤ 15)
theorem okL_cons (x : Int) (l : List Int) : okL (x :: l) = (decide (0 ≤ x ∧ x ≤ 15) && okL l) := by unfold okL; rw [List.all_cons]
theorem okL_mem {l : List Int} (h : okL l = true) : ∀ x ∈ l, 0 ≤ x ∧ x ≤ 15 := by
 intro x hx
 unfold okL at h
 have := List.all_eq_true.1 h x hx
 exact of_decide_eq_true this
theorem lensOk_at (l : List Int) (hl : l.length ≤ 1048576) (m : Int) (d : Nat) : ∀ (j k : Nat), j + d = l.length → d < k → impl_lengthsOk.l0 k l m l (l.length : Int) j = some (okL (l.drop j) && decide ((l.length : Int) ≤ m)) := by
 induction d with
 | zero =>
  intro j k h hk
  obtain ⟨k, rfl⟩ : ∃ q, k = q + 1 := ⟨k - 1, by omega⟩
  rw [impl_lengthsOk.l0, if_neg (by omega), List.drop_of_length_le (by omega)]
  simp [okL]
 | succ d ih =>
  intro j k h hk
  obtain ⟨k, rfl⟩ : ∃ q, k = q + 1 := ⟨k - 1, by omega⟩
  rw [drop_rd l j (by omega), okL_cons, impl_lengthsOk.l0, if_pos (by omega), if_pos (by omega), if_pos (by omega), in_impl, Option.bind_some]
  by_cases c : 0 ≤ rd l j ∧ rd l j ≤ 15
  ·rw [decide_eq_true c, if_pos rfl, Bool.true_and, w64_id (x := (j : Int) + 1) (by omega) (by omega)]
   exact ih (j + 1) k (by omega) (by omega)
  ·rw [decide_eq_false c, if_neg (by decide), Bool.false_and, Bool.false_and]
theorem lensOk_k (l : List Int) (hl : l.length ≤ 1048576) (m : Int) : impl_lengthsOk.f (l.length + 10) l m = some (okL l && decide ((l.length : Int) ≤ m)) := lensOk_at l hl m l.length 0 _ (by omega) (by omega)
/-- How many are above 0. -/
def nzL : List Int → Nat
 | [] => 0
 | x :: l => (if 0 < x then 1 else 0) + nzL l
/-- What the kind is, of how full and how many. -/
def kindS (F n : Nat) : Int := if n = 0 then 1 else if F = 32768 then 2 else if F > 32768 then 5 else if n = 1 then (if F = 16384 then 3 else 4) else 4
/-- The kind of any lengths. -/
def kindL (l : List Int) : Int := if okL l = true ∧ l.length ≤ 288 then kindS (fullS l) (nzL l) else 0
theorem nzTo_cons (x : Int) (l : List Int) : ∀ m, (symsTo (x :: l) m).length = (symsTo l m).length + if 0 < x ∧ x ≤ (m : Int) then 1 else 0
 | 0 => by rw [symsTo, symsTo, if_neg (by omega)]; rfl
 | m + 1 => by
  have ih := nzTo_cons x l m
  have e1 := syms_split (x :: l) (m + 1) (by omega)
  have e2 := syms_split l (m + 1) (by omega)
  rw [Nat.add_sub_cancel] at e1 e2
  rw [e1, e2, ih, cntN_cons]
  by_cases h1 : x = ((m + 1 : Nat) : Int)
  ·have q1 : (if 0 < x ∧ x ≤ (m : Int) then 1 else 0) = 0 := if_neg (by omega)
   have q2 : (if 0 < m + 1 ∧ x = ((m + 1 : Nat) : Int) then 1 else 0) = 1 := if_pos ⟨by omega, h1⟩
   have q3 : (if 0 < x ∧ x ≤ ((m + 1 : Nat) : Int) then 1 else 0) = 1 := if_pos (by omega)
   rw [q1, q2, q3]
   omega
  ·have q2 : (if 0 < m + 1 ∧ x = ((m + 1 : Nat) : Int) then 1 else 0) = 0 := if_neg (fun h => h1 h.2)
   have q3 : (if 0 < x ∧ x ≤ ((m + 1 : Nat) : Int) then 1 else 0) = (if 0 < x ∧ x ≤ (m : Int) then 1 else 0) := by
    by_cases h2 : 0 < x ∧ x ≤ (m : Int)
    ·rw [if_pos h2, if_pos (by omega)]
    ·rw [if_neg h2, if_neg (by omega)]
   rw [q2, q3]
   omega
theorem nz_is : ∀ (l : List Int), okL l = true → (symsTo l 15).length = nzL l
 | [], _ => by decide
 | x :: l, h => by
  rw [okL_cons, Bool.and_eq_true] at h
  have hx := of_decide_eq_true h.1
  rw [nzTo_cons, nz_is l h.2, nzL]
  by_cases h0 : 0 < x
  ·rw [if_pos h0, if_pos (by omega)]; omega
  ·rw [if_neg h0, if_neg (by omega)]; omega
theorem full_zero : ∀ (l : List Int), okL l = true → (fullS l = 0 ↔ nzL l = 0) ∧ (nzL l = 0 → cntN l 1 = 0) ∧ (nzL l = 1 → (fullS l = 16384 ↔ cntN l 1 = 1))
 | [], _ => by decide
 | x :: l, h => by
  rw [okL_cons, Bool.and_eq_true] at h
  have hx := of_decide_eq_true h.1
  obtain ⟨i1, i2, i3⟩ := full_zero l h.2
  rw [fullS, nzL, cntN_cons]
  by_cases h0 : 0 < x
  ·have p : 0 < 2 ^ (15 - x.toNat) := Nat.pos_of_ne_zero (by simp)
   rw [if_pos h0, if_pos h0]
   refine ⟨by omega, by omega, fun h1 => ?_⟩
   have z := i2 (by omega)
   have y := i1.2 (by omega)
   rw [z, y]
   by_cases hx1 : x = 1
   ·subst hx1; decide
   ·have q : (if 0 < 1 ∧ x = ((1 : Nat) : Int) then 1 else 0) = 0 := if_neg (fun h => hx1 h.2)
    have p2 : 2 ^ (15 - x.toNat) ≤ 2 ^ 13 := Nat.pow_le_pow_right (by omega) (by omega)
    rw [q]
    omega
  ·have q : (if 0 < 1 ∧ x = ((1 : Nat) : Int) then 1 else 0) = 0 := if_neg (fun h => by have := h.2; omega)
   rw [if_neg h0, if_neg h0, q]
   refine ⟨by omega, by omega, fun h1 => ?_⟩
   have := i3 (by omega)
   omega
theorem kindI_is (l : List Int) (h : okL l = true) : kindI l = kindS (fullS l) (nzL l) := by
 obtain ⟨i1, i2, i3⟩ := full_zero l h
 unfold kindI kindS
 rw [fullS_is l (okL_mem h), nz_is l h]
 by_cases h1 : fullS l = 0
 ·rw [if_pos h1, if_pos (i1.1 h1)]
 ·rw [if_neg h1, if_neg (fun h2 => h1 (i1.2 h2))]
  by_cases h2 : fullS l = 32768
  ·rw [if_pos h2, if_pos h2]
  ·rw [if_neg h2, if_neg h2]
   by_cases h3 : 32768 < fullS l
   ·rw [if_pos h3, if_pos h3]
   ·rw [if_neg h3, if_neg h3]
    by_cases h4 : nzL l = 1
    ·rw [if_pos h4]
     by_cases h5 : fullS l = 16384
     ·rw [if_pos h5, if_pos ⟨h4, (i3 h4).1 h5⟩]
     ·rw [if_neg h5, if_neg (fun h6 => h5 ((i3 h4).2 h6.2))]
    ·rw [if_neg (fun h6 => h4 h6.1), if_neg h4]
theorem kind_impl (l : List Int) (hl : l.length ≤ 1048576) : impl_CodeKind.f l = some (kindL l) := by
 unfold impl_CodeKind.f kindL
 rw [lensOk_k l hl, Option.bind_some]
 unfold kindF
 by_cases h : okL l = true ∧ l.length ≤ 288
 ·rw [h.1, decide_eq_true (show (l.length : Int) ≤ 288 by omega), Bool.and_true, if_pos rfl, if_pos (by omega), if_pos ⟨rfl, h.2⟩, kindI_is l h.1]
 ·rw [if_neg h]
  have e : (okL l && decide ((l.length : Int) ≤ 288)) = false := by
   by_cases h1 : okL l = true
   ·rw [h1, Bool.true_and]
    exact decide_eq_false (fun h2 => h ⟨h1, by omega⟩)
   ·have : okL l = false := by simpa using h1
    rw [this, Bool.false_and]
  rw [e, if_neg (by decide)]
theorem roomF_loop (l : List Int) (hl : l.length ≤ 320) (d : Nat) : ∀ (j : Nat) (s : Int), j + d = l.length → 0 ≤ s → s ≤ 16384 * j → Ev (fun k => spec_l03Room.l0 k l s j) (if okL (l.drop j) = true then (s + (fullS (l.drop j) : Nat), true) else (0, false)) := by
 induction d with
 | zero =>
  intro j s h s0 s1
  rw [List.drop_of_length_le (by omega)]
  exact ev_ret (fun k => by rw [spec_l03Room.l0, if_neg (by omega)]; simp [okL, fullS])
 | succ d ih =>
  intro j s h s0 s1
  rw [drop_rd l j (by omega), okL_cons, fullS]
  by_cases c : 0 ≤ rd l j ∧ rd l j ≤ 15
  ·rw [decide_eq_true c, Bool.true_and]
   by_cases c1 : rd l j > 0
   ·have w : wrap64 (15 - rd l j) = 15 - rd l j := w64_id (by omega) (by omega)
    have P := pow_at (15 - rd l j) (by omega) (by omega)
    have e0 : (15 - rd l (j : Int)).toNat = 15 - (rd l (j : Int)).toNat := by omega
    rw [e0] at P
    have p0 : (0 : Int) < 2 ^ (15 - (rd l j).toNat) := Int.pow_pos (by omega)
    have p1 : (2 : Int) ^ (15 - (rd l j).toNat) ≤ 2 ^ 14 := by exact_mod_cast Nat.pow_le_pow_right (n := 2) (by omega) (show 15 - (rd l j).toNat ≤ 14 by omega)
    have g := ih (j + 1) (s + 2 ^ (15 - (rd l j).toNat)) (by omega) (by omega) (by omega)
    have e2 : (if 0 < rd l (j : Int) then 2 ^ (15 - (rd l (j : Int)).toNat) else 0) = 2 ^ (15 - (rd l (j : Int)).toNat) := if_pos c1
    have e3 : s + ((2 ^ (15 - (rd l (j : Int)).toNat) + fullS (l.drop (j + 1)) : Nat) : Int) = s + 2 ^ (15 - (rd l (j : Int)).toNat) + ((fullS (l.drop (j + 1)) : Nat) : Int) := by
     rw [Int.natCast_add, Int.natCast_pow, Int.add_assoc]
     rfl
    rw [e2, e3]
    refine ev_use_step P (fun k hk => ?_) g
    rw [spec_l03Room.l0, if_pos (by omega), if_pos (by omega), in_spec, decide_eq_true c, Option.bind_some, if_pos rfl, if_pos c1, w, hk, Option.bind_some, w64_id (x := s + 2 ^ (15 - (rd l j).toNat)) (by omega) (by omega), w64_id (x := (j : Int) + 1) (by omega) (by omega)]
    rfl
   ·have g := ih (j + 1) s (by omega) (by omega) (by omega)
    have e2 : (if 0 < rd l (j : Int) then 2 ^ (15 - (rd l (j : Int)).toNat) else 0) = 0 := if_neg c1
    rw [e2, Nat.zero_add]
    refine Ev.step (fun k => ?_) g
    rw [spec_l03Room.l0, if_pos (by omega), if_pos (by omega), in_spec, decide_eq_true c, Option.bind_some, if_pos rfl, if_neg c1, w64_id (x := (j : Int) + 1) (by omega) (by omega)]
    rfl
  ·rw [decide_eq_false c, Bool.false_and, if_neg (by decide)]
   refine ev_ret (fun k => ?_)
   rw [spec_l03Room.l0, if_pos (by omega), if_pos (by omega), in_spec, decide_eq_false c, Option.bind_some, if_neg (by decide)]
theorem roomF_is (l : List Int) : Ev (fun k => spec_l03Room.f k l 288) (if okL l = true ∧ l.length ≤ 288 then (((fullS l : Nat) : Int), true) else (0, false)) := by
 by_cases h : l.length ≤ 288
 ·have g := roomF_loop l (by omega) l.length 0 0 (by omega) (by omega) (by omega)
  rw [List.drop_zero, Int.zero_add] at g
  have e : (if okL l = true ∧ l.length ≤ 288 then (((fullS l : Nat) : Int), true) else (0, false)) = (if okL l = true then (((fullS l : Nat) : Int), true) else (0, false)) := by
   by_cases h2 : okL l = true
   ·rw [if_pos ⟨h2, h⟩, if_pos h2]
   ·rw [if_neg (fun h3 => h2 h3.1), if_neg h2]
  rw [e]
  refine Ev.congr (fun k => ?_) g
  unfold spec_l03Room.f
  rw [if_neg (by omega)]
  rfl
 ·rw [if_neg (fun h2 => h h2.2)]
  refine Ev.congr (fun k => ?_) (Ev.now (0, false))
  unfold spec_l03Room.f
  rw [if_pos (by omega)]
theorem kind_loop (l : List Int) (hl : l.length ≤ 320) (F : Nat) (d : Nat) : ∀ (j n : Nat), j + d = l.length → n ≤ j → Ev (fun k => spec_CodeKind.l0 k l (F : Int) (n : Int) j) (kindS F (n + nzL (l.drop j))) := by
 induction d with
 | zero =>
  intro j n h hn
  rw [List.drop_of_length_le (by omega)]
  refine ev_ret (fun k => ?_)
  rw [spec_CodeKind.l0, if_neg (by omega)]
  have q1 : ((n : Int) = 0) ↔ n = 0 := by omega
  have q2 : ((F : Int) = 32768) ↔ F = 32768 := by omega
  have q3 : ((F : Int) > 32768) ↔ F > 32768 := by omega
  have q4 : ((n : Int) = 1) ↔ n = 1 := by omega
  have q5 : ((F : Int) = 16384) ↔ F = 16384 := by omega
  simp only [nzL, Nat.add_zero, q1, q2, q3, q4, q5]
  unfold kindS
  repeat' split
  all_goals first | rfl | omega
 | succ d ih =>
  intro j n h hn
  rw [drop_rd l j (by omega), nzL]
  by_cases c : rd l j > 0
  ·have e : (if 0 < rd l (j : Int) then 1 else 0) = 1 := if_pos c
   have g := ih (j + 1) (n + 1) (by omega) (by omega)
   rw [e, ← Nat.add_assoc]
   refine Ev.step (fun k => ?_) g
   rw [spec_CodeKind.l0, if_pos (by omega), if_pos (by omega), if_pos c, w64_id (x := (n : Int) + 1) (by omega) (by omega), w64_id (x := (j : Int) + 1) (by omega) (by omega)]
   rfl
  ·have e : (if 0 < rd l (j : Int) then 1 else 0) = 0 := if_neg c
   have g := ih (j + 1) n (by omega) (by omega)
   rw [e, Nat.zero_add]
   refine Ev.step (fun k => ?_) g
   rw [spec_CodeKind.l0, if_pos (by omega), if_pos (by omega), if_neg c, w64_id (x := (j : Int) + 1) (by omega) (by omega)]
   rfl
theorem kind_spec (l : List Int) : Ev (fun k => spec_CodeKind.f k l) (kindL l) := by
 have g := roomF_is l
 unfold kindL
 by_cases h : okL l = true ∧ l.length ≤ 288
 ·rw [if_pos h] at g ⊢
  have g2 := kind_loop l (by omega) (fullS l) l.length 0 0 (by omega) (Nat.le_refl _)
  rw [List.drop_zero, Nat.zero_add] at g2
  refine ev_use g (fun k hk => ?_) g2
  unfold spec_CodeKind.f
  have hk : spec_l03Room.f k l 288 = _ := hk
  rw [hk, Option.bind_some, if_pos rfl]
  rfl
 ·rw [if_neg h] at g ⊢
  refine ev_end g (fun k hk => ?_)
  show spec_CodeKind.f k l = _
  have hk : spec_l03Room.f k l 288 = _ := hk
  unfold spec_CodeKind.f
  rw [hk, Option.bind_some, if_neg (by decide)]

/-- What counts cost, from a symbol on. -/
def costL (l c : List Int) : Nat → Nat → Int → Int × Bool
 | 0, _, s => (s, true)
 | d + 1, j, s => if 0 ≤ rd c (j : Int) ∧ rd c (j : Int) ≤ 12000 then (if rd c (j : Int) > 0 ∧ rd l (j : Int) = 0 then (0, false) else costL l c d (j + 1) (s + rd c (j : Int) * rd l (j : Int))) else (0, false)
theorem prod_rng {a b : Int} (a0 : 0 ≤ a) (a1 : a ≤ 12000) (b0 : 0 ≤ b) (b1 : b ≤ 15) : 0 ≤ a * b ∧ a * b ≤ 180000 := by
 refine ⟨Int.mul_nonneg a0 b0, ?_⟩
 have h1 : a * b ≤ 12000 * b := Int.mul_le_mul_of_nonneg_right a1 b0
 omega
/-- What counts cost. -/
def costR (l c : List Int) : Int × Bool := if kindL l = 0 ∨ c.length ≠ l.length then (0, false) else costL l c c.length 0 0
theorem kindL_ok {l : List Int} (h : kindL l ≠ 0) : okL l = true ∧ l.length ≤ 288 := by
 unfold kindL at h
 by_cases h1 : okL l = true ∧ l.length ≤ 288
 ·exact h1
 ·rw [if_neg h1] at h
  exact absurd rfl h
theorem cost_spec_loop (l c : List Int) (hl : l.length ≤ 288) (ho : okL l = true) (he : c.length = l.length) (d : Nat) : ∀ (j : Nat) (s : Int), j + d = c.length → 0 ≤ s → s ≤ 180000 * j →
  Ev (fun k => spec_CostOf.l0 k l c s (j : Int)) (costL l c d j s) := by
 induction d with
 | zero =>
  intro j s h s0 s1
  exact ev_ret (fun k => by rw [spec_CostOf.l0, if_neg (by omega)]; rfl)
 | succ d ih =>
  intro j s h s0 s1
  rw [costL]
  by_cases c0 : 0 ≤ rd c (j : Int) ∧ rd c (j : Int) ≤ 12000
  ·rw [if_pos c0]
   have hm := okL_mem ho _ (rd_mem l j (by omega))
   obtain ⟨p0, p1⟩ := prod_rng c0.1 c0.2 hm.1 hm.2
   by_cases c1 : rd c (j : Int) > 0
   ·by_cases c2 : rd l (j : Int) = 0
    ·rw [if_pos ⟨c1, c2⟩]
     refine ev_ret (fun k => ?_)
     rw [spec_CostOf.l0, if_pos (by omega), if_pos (by omega), in_spec, decide_eq_true c0, Option.bind_some, if_pos rfl, if_pos c1, if_pos (by omega), if_pos c2]
    ·rw [if_neg (fun h => c2 h.2)]
     have g1 := ih (j + 1) (s + rd c (j : Int) * rd l (j : Int)) (by omega) (by omega) (by omega)
     refine Ev.step (fun k => ?_) g1
     rw [spec_CostOf.l0, if_pos (by omega), if_pos (by omega), in_spec, decide_eq_true c0, Option.bind_some, if_pos rfl, if_pos c1, if_pos (by omega), if_neg c2, w64_id (x := rd c (j : Int) * rd l (j : Int)) (by omega) (by omega), w64_id (x := s + rd c (j : Int) * rd l (j : Int)) (by omega) (by omega), w64_id (x := (j : Int) + 1) (by omega) (by omega)]
     rfl
   ·rw [if_neg (fun h => c1 h.1)]
    have g1 := ih (j + 1) (s + rd c (j : Int) * rd l (j : Int)) (by omega) (by omega) (by omega)
    refine Ev.step (fun k => ?_) g1
    rw [spec_CostOf.l0, if_pos (by omega), if_pos (by omega), in_spec, decide_eq_true c0, Option.bind_some, if_pos rfl, if_neg c1, if_pos (by omega), w64_id (x := rd c (j : Int) * rd l (j : Int)) (by omega) (by omega), w64_id (x := s + rd c (j : Int) * rd l (j : Int)) (by omega) (by omega), w64_id (x := (j : Int) + 1) (by omega) (by omega)]
    rfl
  ·rw [if_neg c0]
   refine ev_ret (fun k => ?_)
   rw [spec_CostOf.l0, if_pos (by omega), if_pos (by omega), in_spec, decide_eq_false c0, Option.bind_some, if_neg (by decide)]
theorem cost_spec (l c : List Int) : Ev (fun k => spec_CostOf.f k l c) (costR l c) := by
 have gk := kind_spec l
 have js : ∀ x : Bool, x = decide (kindL l = 0 ∨ c.length ≠ l.length) → Ev (fun k => spec_CostOf.j0 k l c x) (costR l c) := by
  intro x hx
  unfold costR
  by_cases h : kindL l = 0 ∨ c.length ≠ l.length
  ·rw [if_pos h]
   rw [decide_eq_true h] at hx
   subst hx
   exact ev_ret (fun k => by rw [spec_CostOf.j0, if_pos rfl])
  ·rw [if_neg h]
   rw [decide_eq_false h] at hx
   subst hx
   obtain ⟨h1, h2⟩ := kindL_ok (fun e => h (Or.inl e))
   have g1 := cost_spec_loop l c h2 h1 (by omega) c.length 0 0 (by omega) (by omega) (by omega)
   exact Ev.step (fun k => by rw [spec_CostOf.j0, if_neg (by decide)]; rfl) g1
 by_cases h0 : kindL l = 0
 ·have g1 := js true (by rw [decide_eq_true (Or.inl h0)])
  refine ev_use gk (fun k hk => ?_) g1
  have hk : spec_CodeKind.f k l = _ := hk
  unfold spec_CostOf.f
  rw [hk, Option.bind_some, if_pos h0]
 ·have g1 := js ((c.length : Int) != (l.length : Int)) (by
   rw [Bool.eq_iff_iff]
   simp [h0]
   omega)
  refine ev_use gk (fun k hk => ?_) g1
  have hk : spec_CodeKind.f k l = _ := hk
  unfold spec_CostOf.f
  rw [hk, Option.bind_some, if_neg h0]
theorem cost_impl_loop (l c : List Int) (hl : l.length ≤ 288) (ho : okL l = true) (he : c.length = l.length) (d : Nat) : ∀ (j : Nat) (s : Int), j + d = c.length → 0 ≤ s → s ≤ 180000 * j →
  Ev (fun k => impl_CostOf.l0 k l s c (c.length : Int) (j : Int)) (costL l c d j s) := by
 induction d with
 | zero =>
  intro j s h s0 s1
  exact ev_ret (fun k => by rw [impl_CostOf.l0, if_neg (by omega)]; rfl)
 | succ d ih =>
  intro j s h s0 s1
  rw [costL]
  by_cases c0 : 0 ≤ rd c (j : Int) ∧ rd c (j : Int) ≤ 12000
  ·rw [if_pos c0]
   have hm := okL_mem ho _ (rd_mem l j (by omega))
   obtain ⟨p0, p1⟩ := prod_rng c0.1 c0.2 hm.1 hm.2
   by_cases c1 : rd c (j : Int) > 0
   ·by_cases c2 : rd l (j : Int) = 0
    ·rw [if_pos ⟨c1, c2⟩]
     refine ev_ret (fun k => ?_)
     rw [impl_CostOf.l0, if_pos (by omega), if_pos (by omega), if_pos (by omega), in_impl, decide_eq_true c0, Option.bind_some, if_pos rfl, if_pos c1, if_pos (by omega), if_pos c2]
    ·rw [if_neg (fun h => c2 h.2)]
     have g1 := ih (j + 1) (s + rd c (j : Int) * rd l (j : Int)) (by omega) (by omega) (by omega)
     refine Ev.step (fun k => ?_) g1
     rw [impl_CostOf.l0, if_pos (by omega), if_pos (by omega), if_pos (by omega), in_impl, decide_eq_true c0, Option.bind_some, if_pos rfl, if_pos c1, if_pos (by omega), if_neg c2, w64_id (x := rd c (j : Int) * rd l (j : Int)) (by omega) (by omega), w64_id (x := s + rd c (j : Int) * rd l (j : Int)) (by omega) (by omega), w64_id (x := (j : Int) + 1) (by omega) (by omega)]
     rfl
   ·rw [if_neg (fun h => c1 h.1)]
    have g1 := ih (j + 1) (s + rd c (j : Int) * rd l (j : Int)) (by omega) (by omega) (by omega)
    refine Ev.step (fun k => ?_) g1
    rw [impl_CostOf.l0, if_pos (by omega), if_pos (by omega), if_pos (by omega), in_impl, decide_eq_true c0, Option.bind_some, if_pos rfl, if_neg c1, if_pos (by omega), w64_id (x := rd c (j : Int) * rd l (j : Int)) (by omega) (by omega), w64_id (x := s + rd c (j : Int) * rd l (j : Int)) (by omega) (by omega), w64_id (x := (j : Int) + 1) (by omega) (by omega)]
    rfl
  ·rw [if_neg c0]
   refine ev_ret (fun k => ?_)
   rw [impl_CostOf.l0, if_pos (by omega), if_pos (by omega), if_pos (by omega), in_impl, decide_eq_false c0, Option.bind_some, if_neg (by decide)]
theorem cost_impl (l c : List Int) (hl : l.length ≤ 1048576) : Ev (fun k => impl_CostOf.f k l c) (costR l c) := by
 have gk := kind_impl l hl
 have js : ∀ x : Bool, x = decide (kindL l = 0 ∨ c.length ≠ l.length) → Ev (fun k => impl_CostOf.j0 k l c x) (costR l c) := by
  intro x hx
  unfold costR
  by_cases h : kindL l = 0 ∨ c.length ≠ l.length
  ·rw [if_pos h]
   rw [decide_eq_true h] at hx
   subst hx
   exact ev_ret (fun k => by rw [impl_CostOf.j0, if_pos rfl])
  ·rw [if_neg h]
   rw [decide_eq_false h] at hx
   subst hx
   obtain ⟨h1, h2⟩ := kindL_ok (fun e => h (Or.inl e))
   have g1 := cost_impl_loop l c h2 h1 (by omega) c.length 0 0 (by omega) (by omega) (by omega)
   exact Ev.step (fun k => by rw [impl_CostOf.j0, if_neg (by decide)]; rfl) g1
 by_cases h0 : kindL l = 0
 ·have g1 := js true (by rw [decide_eq_true (Or.inl h0)])
  refine Ev.congr (fun k => ?_) g1
  unfold impl_CostOf.f
  rw [gk, Option.bind_some, if_pos h0]
 ·have g1 := js ((l.length : Int) != (c.length : Int)) (by
   rw [Bool.eq_iff_iff]
   simp [h0]
   omega)
  refine Ev.congr (fun k => ?_) g1
  unfold impl_CostOf.f
  rw [gk, Option.bind_some, if_neg h0]
/-- What a length is worth. -/
def wortN (x : Int) : Nat := if 0 < x then 2 ^ (15 - x.toNat) else 0
theorem fullS_set : ∀ (l : List Int) (i : Nat) (v : Int), i < l.length → fullS (l.set i v) + wortN (rd l (i : Int)) = fullS l + wortN v
 | [], i, v, h => absurd h (Nat.not_lt_zero _)
 | x :: l, 0, v, h => by
  rw [List.set_cons_zero, fullS, fullS]
  have e : rd (x :: l) ((0 : Nat) : Int) = x := rfl
  rw [e]
  unfold wortN
  omega
 | x :: l, i + 1, v, h => by
  have ih := fullS_set l i v (by simpa using h)
  have e : rd (x :: l) ((i + 1 : Nat) : Int) = rd l (i : Int) := by unfold rd; rw [Int.toNat_natCast, Int.toNat_natCast, List.getD_cons_succ]
  rw [List.set_cons_succ, fullS, fullS, e]
  omega
theorem fullS_snoc : ∀ (l : List Int) (v : Int), fullS (l ++ [v]) = fullS l + wortN v
 | [], v => by
  show fullS [v] = fullS [] + wortN v
  simp [fullS, wortN]
 | x :: l, v => by
  rw [List.cons_append, fullS, fullS_snoc l v, fullS]
  omega
def rngL (l : List Int) : Prop := ∀ x ∈ l, 1 ≤ x ∧ x ≤ 15
theorem rngL_set (l : List Int) (i : Nat) (v : Int) (h : rngL l) (hv : 1 ≤ v ∧ v ≤ 15) : rngL (l.set i v) := by
 intro x hx
 rcases List.mem_or_eq_of_mem_set hx with h1 | h1
 ·exact h x h1
 ·rw [h1]; exact hv
theorem whole1 (c : List Int) (hc : c.length ≤ 9223372036854775807) (d : Nat) : ∀ (j : Nat) (o : List Int) (i h : Int), j + d = o.length → 2 ≤ o.length → o.length ≤ 100 → 0 ≤ i → rngL o → fullS o = 32768 →
  ∃ r, Ev (fun k => spec_DrawWhole.l1 k o (j : Int) c i h) r ∧ 2 ≤ r.length ∧ r.length ≤ 100 ∧ rngL r ∧ fullS r = 32768 := by
 induction d with
 | zero =>
  intro j o i h hj h0 ho hi hr hf
  exact ⟨o, ev_ret (fun k => by rw [spec_DrawWhole.l1, if_neg (by omega)]), h0, ho, hr, hf⟩
 | succ d ih =>
  intro j o i h hj h0 ho hi hr hf
  obtain ⟨y, i2, h2, e2, y0, y1, i20⟩ := below_is c hc i h (o.length : Int) hi
  have y1 := y1 (by omega)
  obtain ⟨Y, rfl⟩ := Int.eq_ofNat_of_zero_le y0
  have rj := hr _ (rd_mem o j (by omega))
  have rY := hr _ (rd_mem o Y (by omega))
  have s1 := fullS_set o j (rd o (Y : Int)) (by omega)
  have s2 := fullS_set (o.set j (rd o (Y : Int))) Y (rd o (j : Int)) (by simp; omega)
  have e3 : rd (o.set j (rd o (Y : Int))) (Y : Int) = rd o (Y : Int) := by
   rw [rd_set o j _ Y (by omega)]
   split
   ·rfl
   ·rfl
  rw [e3] at s2
  obtain ⟨r, g, gs⟩ := ih (j + 1) ((o.set j (rd o (Y : Int))).set Y (rd o (j : Int))) i2 h2 (by simp; omega) (by simp; omega) (by simp; omega) i20 (rngL_set _ _ _ (rngL_set _ _ _ hr rY) rj) (by omega)
  refine ⟨r, Ev.step (fun k => ?_) g, gs⟩
  rw [spec_DrawWhole.l1, if_pos (by omega), e2, Option.bind_some, if_pos (by omega), if_pos (by omega), if_pos y1, w64_id (x := (j : Int) + 1) (by omega) (by omega), Int.toNat_natCast]
  rfl
theorem whole0 (c : List Int) (hc : c.length ≤ 9223372036854775807) (d : Nat) : ∀ (j : Nat) (o : List Int) (i h : Int), j + d = 14 → 2 ≤ o.length → o.length ≤ 2 + j → 0 ≤ i → rngL o → fullS o = 32768 →
  ∃ r, Ev (fun k => spec_DrawWhole.l0 k o (j : Int) c i h) r ∧ 2 ≤ r.length ∧ r.length ≤ 100 ∧ rngL r ∧ fullS r = 32768 := by
 have endL : ∀ (o : List Int) (i h : Int), 2 ≤ o.length → o.length ≤ 100 → 0 ≤ i → rngL o → fullS o = 32768 → ∃ r, Ev (fun k => spec_DrawWhole.l1 k o 0 c i h) r ∧ 2 ≤ r.length ∧ r.length ≤ 100 ∧ rngL r ∧ fullS r = 32768 := fun o i h h0 ho hi hr hf => whole1 c hc o.length 0 o i h (by omega) h0 ho hi hr hf
 induction d with
 | zero =>
  intro j o i h hj h0 ho hi hr hf
  obtain ⟨x, i1, h1, e1, x0, x1, i10⟩ := below_is c hc i h 14 hi
  have x1 := x1 (by omega)
  obtain ⟨r, g, gs⟩ := endL o i1 h1 h0 (by omega) i10 hr hf
  refine ⟨r, Ev.step (fun k => ?_) g, gs⟩
  rw [spec_DrawWhole.l0, e1, Option.bind_some, if_neg (by omega)]
 | succ d ih =>
  intro j o i h hj h0 ho hi hr hf
  obtain ⟨x, i1, h1, e1, x0, x1, i10⟩ := below_is c hc i h 14 hi
  have w1 : wrap64 ((j : Int) + 1) = ((j + 1 : Nat) : Int) := w64_id (by omega) (by omega)
  by_cases hx : (j : Int) < x
  ·obtain ⟨y, i2, h2, e2, y0, y1, i20⟩ := below_is c hc i1 h1 (o.length : Int) i10
   have y1 := y1 (by omega)
   obtain ⟨Y, rfl⟩ := Int.eq_ofNat_of_zero_le y0
   have rY := hr _ (rd_mem o Y (by omega))
   by_cases h15 : rd o (Y : Int) < 15
   ·have hw : wrap64 (rd o (Y : Int) + 1) = rd o (Y : Int) + 1 := w64_id (by omega) (by omega)
    have s1 := fullS_set o Y (rd o (Y : Int) + 1) (by omega)
    have e3 : rd (o.set Y (rd o (Y : Int) + 1)) (Y : Int) = rd o (Y : Int) + 1 := by rw [rd_set o Y _ Y (by omega), if_pos rfl]
    have s2 := fullS_snoc (o.set Y (rd o (Y : Int) + 1)) (rd o (Y : Int) + 1)
    have hhalf : wortN (rd o (Y : Int)) = 2 * wortN (rd o (Y : Int) + 1) := by
     unfold wortN
     rw [if_pos (by omega), if_pos (by omega), show (rd o (Y : Int) + 1).toNat = (rd o (Y : Int)).toNat + 1 by omega, show 15 - (rd o (Y : Int)).toNat = (15 - ((rd o (Y : Int)).toNat + 1)) + 1 by omega, Nat.pow_succ]
     omega
    obtain ⟨r, g, gs⟩ := ih (j + 1) (o.set Y (rd o (Y : Int) + 1) ++ [rd o (Y : Int) + 1]) i2 h2 (by omega) (by simp; omega) (by simp; omega) i20 (by
     intro z hz
     rcases List.mem_append.1 hz with h5 | h5
     ·exact rngL_set _ _ _ hr (by omega) z h5
     ·rw [List.mem_singleton.1 h5]; omega) (by omega)
    refine ⟨r, Ev.step (fun k => ?_) g, gs⟩
    rw [spec_DrawWhole.l0, e1, Option.bind_some, if_pos hx, e2, Option.bind_some, if_pos (by omega), if_pos y1, if_pos h15, Option.bind_some, hw, Int.toNat_natCast, if_pos (by rw [List.length_set]; omega), w1, e3]
   ·obtain ⟨r, g, gs⟩ := ih (j + 1) o i2 h2 (by omega) h0 (by omega) i20 hr hf
    refine ⟨r, Ev.step (fun k => ?_) g, gs⟩
    rw [spec_DrawWhole.l0, e1, Option.bind_some, if_pos hx, e2, Option.bind_some, if_pos (by omega), if_pos y1, if_neg h15, w1]
  ·obtain ⟨r, g, gs⟩ := endL o i1 h1 h0 (by omega) i10 hr hf
   refine ⟨r, Ev.step (fun k => ?_) g, gs⟩
   rw [spec_DrawWhole.l0, e1, Option.bind_some, if_neg hx]
/-- Drawn whole lengths. -/
theorem drawWhole_is (l : List Int) (hl : l.length ≤ 9223372036854775807) : ∃ r, Ev (fun k => spec_DrawWhole.f k l) r ∧ 2 ≤ r.length ∧ r.length ≤ 100 ∧ rngL r ∧ fullS r = 32768 := by
 obtain ⟨h, e⟩ := new_is l
 obtain ⟨r, g, gs⟩ := whole0 l hl 14 0 [1, 1] 0 h (by omega) (by simp) (by simp) (by omega) (by intro x hx; simp at hx; omega) (by decide)
 refine ⟨r, ev_end (ev_pair e g) (fun k hk => ?_), gs⟩
 obtain ⟨k1, k2⟩ := pair_some hk
 have k2 : spec_DrawWhole.l0 k l.toArray.toList 0 l 0 h = spec_DrawWhole.l0 k l.toArray.toList 0 l 0 h → spec_DrawWhole.l0 k [1, 1] 0 l 0 h = some r := fun _ => k2
 unfold spec_DrawWhole.f
 rw [k1, Option.bind_some]
 exact k2 rfl
/-- What items weigh. -/
def wsum : List (Int × List Int) → Int
 | [] => 0
 | x :: l => x.1 + wsum l
/-- Two sorted lists made one; of equal ones those of the first come first. -/
def mergeP : List (Int × List Int) → List (Int × List Int) → List (Int × List Int)
 | [], B => B
 | x :: A, [] => x :: A
 | x :: A, y :: B => if x.1 ≤ y.1 then x :: mergeP A (y :: B) else y :: mergeP (x :: A) B
termination_by A B => A.length + B.length
/-- Each two neighbours, together. -/
def pairP : List (Int × List Int) → List (Int × List Int)
 | a :: b :: r => (a.1 + b.1, a.2 ++ b.2) :: pairP r
 | _ => []
/-- The list behind k steps. -/
def lev (F : List (Int × List Int)) : Nat → List (Int × List Int)
 | 0 => F
 | k + 1 => mergeP F (pairP (lev F k))
def SortedP (l : List (Int × List Int)) : Prop := l.Pairwise (fun x y => x.1 ≤ y.1)
theorem merge_nil (A : List (Int × List Int)) : mergeP A [] = A := by cases A <;> rw [mergeP]
theorem merge_mem : ∀ (A B : List (Int × List Int)) (z : Int × List Int), z ∈ mergeP A B ↔ z ∈ A ∨ z ∈ B
 | [], B, z => by rw [mergeP]; simp
 | x :: A, [], z => by rw [mergeP]; simp
 | x :: A, y :: B, z => by
  rw [mergeP]
  split
  ·rw [List.mem_cons, merge_mem A (y :: B) z, List.mem_cons, List.mem_cons]
   constructor
   ·rintro (h | h | h | h) <;> simp [h]
   ·rintro ((h | h) | h | h) <;> simp [h]
  ·rw [List.mem_cons, merge_mem (x :: A) B z, List.mem_cons, List.mem_cons]
   constructor
   ·rintro (h | (h | h) | h) <;> simp [h]
   ·rintro ((h | h) | h | h) <;> simp [h]
termination_by A B => A.length + B.length
theorem merge_len : ∀ (A B : List (Int × List Int)), (mergeP A B).length = A.length + B.length
 | [], B => by rw [mergeP]; simp
 | x :: A, [] => by rw [mergeP]; simp
 | x :: A, y :: B => by
  rw [mergeP]
  split
  ·rw [List.length_cons, merge_len A (y :: B)]; simp; omega
  ·rw [List.length_cons, merge_len (x :: A) B]; simp; omega
termination_by A B => A.length + B.length
theorem merge_sorted : ∀ (A B : List (Int × List Int)), SortedP A → SortedP B → SortedP (mergeP A B)
 | [], B, _, hB => by rw [mergeP]; exact hB
 | x :: A, [], hA, _ => by rw [mergeP]; exact hA
 | x :: A, y :: B, hA, hB => by
  obtain ⟨a1, a2⟩ := List.pairwise_cons.1 hA
  obtain ⟨b1, b2⟩ := List.pairwise_cons.1 hB
  rw [mergeP]
  split
  ·rename_i h
   refine List.pairwise_cons.2 ⟨fun z hz => ?_, merge_sorted A (y :: B) a2 hB⟩
   rcases (merge_mem _ _ _).1 hz with h1 | h1
   ·exact a1 z h1
   ·rcases List.mem_cons.1 h1 with rfl | h1
    ·exact h
    ·have := b1 z h1; omega
  ·rename_i h
   refine List.pairwise_cons.2 ⟨fun z hz => ?_, merge_sorted (x :: A) B hA b2⟩
   rcases (merge_mem _ _ _).1 hz with h1 | h1
   ·rcases List.mem_cons.1 h1 with rfl | h1
    ·omega
    ·have := a1 z h1; omega
   ·exact b1 z h1
termination_by A B => A.length + B.length
theorem wsum_append : ∀ (A B : List (Int × List Int)), wsum (A ++ B) = wsum A + wsum B
 | [], B => by simp [wsum]
 | x :: A, B => by rw [List.cons_append, wsum, wsum_append A B, wsum]; omega
theorem wsum_take_succ (l : List (Int × List Int)) (n : Nat) (h : n < l.length) : wsum (l.take (n + 1)) = wsum (l.take n) + l[n].1 := by
 rw [List.take_succ_eq_append_getElem h, wsum_append]
 simp [wsum]
/-- The first of a merged list weigh no more than as many of the two, however parted. -/
theorem merge_take : ∀ (A B : List (Int × List Int)), SortedP A → SortedP B → ∀ a b, a ≤ A.length → b ≤ B.length → wsum ((mergeP A B).take (a + b)) ≤ wsum (A.take a) + wsum (B.take b)
 | [], B, _, _, a, b, ha, hb => by
  obtain rfl : a = 0 := by simpa using ha
  rw [mergeP]
  simp [wsum]
 | x :: A, [], _, _, a, b, ha, hb => by
  obtain rfl : b = 0 := by simpa using hb
  rw [mergeP]
  simp [wsum]
 | x :: A, y :: B, hA, hB, a, b, ha, hb => by
  obtain ⟨a1, a2⟩ := List.pairwise_cons.1 hA
  obtain ⟨b1, b2⟩ := List.pairwise_cons.1 hB
  rw [mergeP]
  split
  ·rename_i h
   cases a with
   | succ a =>
    have := merge_take A (y :: B) a2 hB a b (by simpa using ha) hb
    rw [show a + 1 + b = (a + b) + 1 by omega, List.take_succ_cons, List.take_succ_cons, wsum, wsum]
    omega
   | zero =>
    cases b with
    | zero => simp [wsum]
    | succ b =>
     have h1 := merge_take A (y :: B) a2 hB 0 b (Nat.zero_le _) (by omega)
     have hlt : b < (y :: B).length := by omega
     have h2 := wsum_take_succ (y :: B) b hlt
     have h3 : x.1 ≤ ((y :: B)[b]).1 := by
      rcases List.mem_cons.1 (List.getElem_mem hlt) with h4 | h4
      ·rw [h4]; exact h
      ·have := b1 _ h4; omega
     rw [show 0 + (b + 1) = b + 1 by omega, List.take_succ_cons, wsum]
     rw [show 0 + b = b by omega] at h1
     simp only [List.take_zero, wsum] at h1 ⊢
     omega
  ·rename_i h
   cases b with
   | succ b =>
    have := merge_take (x :: A) B hA b2 a b ha (by simpa using hb)
    rw [show a + (b + 1) = (a + b) + 1 by omega, List.take_succ_cons, List.take_succ_cons, wsum, wsum]
    omega
   | zero =>
    cases a with
    | zero => simp [wsum]
    | succ a =>
     have h1 := merge_take (x :: A) B hA b2 a 0 (by omega) (Nat.zero_le _)
     have hlt : a < (x :: A).length := by omega
     have h2 := wsum_take_succ (x :: A) a hlt
     have h3 : y.1 ≤ ((x :: A)[a]).1 := by
      rcases List.mem_cons.1 (List.getElem_mem hlt) with h4 | h4
      ·rw [h4]; omega
      ·have := a1 _ h4; omega
     rw [show a + 1 + 0 = a + 1 by omega, List.take_succ_cons, wsum]
     rw [show a + 0 = a by omega] at h1
     simp only [List.take_zero, wsum] at h1 ⊢
     omega
termination_by A B => A.length + B.length
def PosP (l : List (Int × List Int)) : Prop := ∀ x ∈ l, 0 < x.1
theorem pair_pos : ∀ (l : List (Int × List Int)), PosP l → PosP (pairP l)
 | [], _ => by intro x hx; simp [pairP] at hx
 | [a], _ => by intro x hx; simp [pairP] at hx
 | a :: b :: r, h => by
  intro x hx
  rw [pairP] at hx
  rcases List.mem_cons.1 hx with rfl | hx
  ·have h1 := h a (by simp)
   have h2 := h b (by simp)
   show 0 < a.1 + b.1
   omega
  ·exact pair_pos r (fun y hy => h y (by simp [hy])) x hx
theorem pair_len : ∀ (l : List (Int × List Int)), (pairP l).length = l.length / 2
 | [] => rfl
 | [a] => by simp [pairP]
 | a :: b :: r => by
  rw [pairP, List.length_cons, pair_len r]
  simp
  omega
theorem pair_take : ∀ (l : List (Int × List Int)) (b : Nat), 2 * b ≤ l.length → (pairP l).take b = pairP (l.take (2 * b)) ∧ wsum ((pairP l).take b) = wsum (l.take (2 * b))
 | _, 0, _ => by simp [pairP, wsum]
 | [], b + 1, h => by simp at h
 | [a], b + 1, h => by simp at h; omega
 | a :: c :: r, b + 1, h => by
  obtain ⟨h1, h2⟩ := pair_take r b (by simp at h; omega)
  rw [show 2 * (b + 1) = (2 * b + 1) + 1 by omega, pairP, List.take_succ_cons, List.take_succ_cons, List.take_succ_cons, pairP, h1]
  refine ⟨rfl, ?_⟩
  rw [wsum, ← h1, h2, wsum, wsum]
  show a.1 + c.1 + _ = _
  omega
theorem pair_ge2 : ∀ (l : List (Int × List Int)) (c : Int), 0 ≤ c → (∀ x ∈ l, c ≤ x.1) → ∀ x ∈ pairP l, 2 * c ≤ x.1
 | [], c, _, _, x, hx => by simp [pairP] at hx
 | [a], c, _, _, x, hx => by simp [pairP] at hx
 | a :: b :: r, c, h0, h, x, hx => by
  rw [pairP] at hx
  rcases List.mem_cons.1 hx with rfl | hx
  ·have h1 := h a (by simp)
   have h2 := h b (by simp)
   show 2 * c ≤ a.1 + b.1
   omega
  ·exact pair_ge2 r c h0 (fun y hy => h y (by simp [hy])) x hx
theorem pair_sorted : ∀ (l : List (Int × List Int)), SortedP l → PosP l → SortedP (pairP l)
 | [], _, _ => List.Pairwise.nil
 | [a], _, _ => List.Pairwise.nil
 | a :: b :: r, h, hp => by
  obtain ⟨a1, h2⟩ := List.pairwise_cons.1 h
  obtain ⟨b1, h3⟩ := List.pairwise_cons.1 h2
  rw [pairP]
  refine List.pairwise_cons.2 ⟨fun z hz => ?_, pair_sorted r h3 (fun y hy => hp y (by simp [hy]))⟩
  have hb := hp b (by simp)
  have h4 := pair_ge2 r b.1 (by omega) (fun y hy => b1 y hy) z hz
  have h5 := a1 b (by simp)
  show a.1 + b.1 ≤ z.1
  omega
theorem lev_ok (F : List (Int × List Int)) (hs : SortedP F) (hp : PosP F) : ∀ k, SortedP (lev F k) ∧ PosP (lev F k)
 | 0 => ⟨hs, hp⟩
 | k + 1 => by
  obtain ⟨h1, h2⟩ := lev_ok F hs hp k
  refine ⟨merge_sorted _ _ hs (pair_sorted _ h1 h2), fun x hx => ?_⟩
  rcases (merge_mem _ _ _).1 hx with h | h
  ·exact hp x h
  ·exact pair_pos _ h2 x h
theorem wsum_nonneg : ∀ (l : List (Int × List Int)), PosP l → 0 ≤ wsum l
 | [], _ => by simp [wsum]
 | x :: l, h => by
  have h1 := h x (by simp)
  have h2 := wsum_nonneg l (fun y hy => h y (by simp [hy]))
  rw [wsum]
  omega
theorem wsum_take_mono (l : List (Int × List Int)) (h : PosP l) (a : Nat) : ∀ d, wsum (l.take a) ≤ wsum (l.take (a + d))
 | 0 => by simp
 | d + 1 => by
  have ih := wsum_take_mono l h a d
  by_cases hl : a + d < l.length
  ·have h1 := wsum_take_succ l (a + d) hl
   have h2 := h _ (List.getElem_mem hl)
   rw [show a + (d + 1) = a + d + 1 by omega]
   omega
  ·rw [List.take_of_length_le (i := a + (d + 1)) (by omega)]
   rw [List.take_of_length_le (i := a + d) (by omega)] at ih
   exact ih
/-- As many of a sorted list's first weigh no more than some of it, one behind the other. -/
theorem wsum_sub : ∀ (s l : List (Int × List Int)), s.Sublist l → SortedP l → wsum (l.take s.length) ≤ wsum s := by
 intro s l h
 induction h with
 | slnil => intro _; simp [wsum]
 | @cons s l a hsub ih =>
  intro hs
  obtain ⟨h1, h2⟩ := List.pairwise_cons.1 hs
  have ih := ih h2
  cases s with
  | nil => simp [wsum]
  | cons x s =>
   have hlen := hsub.length_le
   rw [List.length_cons] at hlen ih ⊢
   have hlt : s.length < l.length := by omega
   rw [List.take_succ_cons, wsum]
   have h3 := wsum_take_succ l s.length hlt
   have h4 := h1 _ (List.getElem_mem hlt)
   omega
 | @cons_cons s l a hsub ih =>
  intro hs
  obtain ⟨h1, h2⟩ := List.pairwise_cons.1 hs
  have ih := ih h2
  rw [List.length_cons, List.take_succ_cons, wsum, wsum]
  omega

section
variable (f : Int × List Int → Nat) (L : Nat)
/-- How many of the levels 0 to k an item of length v stands on: those from L - v on. -/
def hN (v : Nat) : Nat → Nat
 | 0 => if L ≤ v then 1 else 0
 | k + 1 => hN v k + if L ≤ v + (k + 1) then 1 else 0
/-- What it is worth there, in parts of the least. -/
def gN (v : Nat) : Nat → Nat
 | 0 => if L ≤ v then 1 else 0
 | k + 1 => gN v k + if L ≤ v + (k + 1) then 2 ^ (k + 1) else 0
def sumH (k : Nat) : List (Int × List Int) → Int
 | [] => 0
 | x :: l => x.1 * (hN L (f x) k : Nat) + sumH k l
def sumG (k : Nat) : List (Int × List Int) → Nat
 | [] => 0
 | x :: l => gN L (f x) k + sumG k l
def onL (k : Nat) (l : List (Int × List Int)) : List (Int × List Int) := l.filter (fun x => decide (L ≤ f x + k))
theorem sumH_zero : ∀ l, sumH f L 0 l = wsum (onL f L 0 l)
 | [] => rfl
 | x :: l => by
  rw [sumH, sumH_zero l, hN]
  unfold onL
  by_cases h : L ≤ f x
  ·rw [if_pos h, List.filter_cons_of_pos (by simpa using h), wsum]
   simp
  ·rw [if_neg h, List.filter_cons_of_neg (by simpa using h)]
   simp
theorem sumH_succ (k : Nat) : ∀ l, sumH f L (k + 1) l = sumH f L k l + wsum (onL f L (k + 1) l)
 | [] => rfl
 | x :: l => by
  rw [sumH, sumH_succ k l, hN, sumH]
  unfold onL
  by_cases h : L ≤ f x + (k + 1)
  ·rw [if_pos h, List.filter_cons_of_pos (by simpa using h), wsum, Int.natCast_add, Int.mul_add]
   simp
   omega
  ·rw [if_neg h, List.filter_cons_of_neg (by simpa using h)]
   simp
   omega
theorem sumG_zero : ∀ l, sumG f L 0 l = (onL f L 0 l).length
 | [] => rfl
 | x :: l => by
  rw [sumG, sumG_zero l, gN]
  unfold onL
  by_cases h : L ≤ f x
  ·rw [if_pos h, List.filter_cons_of_pos (by simpa using h), List.length_cons]
   omega
  ·rw [if_neg h, List.filter_cons_of_neg (by simpa using h)]
   omega
theorem sumG_succ (k : Nat) : ∀ l, sumG f L (k + 1) l = sumG f L k l + (onL f L (k + 1) l).length * 2 ^ (k + 1)
 | [] => by simp [sumG, onL]
 | x :: l => by
  rw [sumG, sumG_succ k l, gN, sumG]
  unfold onL
  by_cases h : L ≤ f x + (k + 1)
  ·rw [if_pos h, List.filter_cons_of_pos (by simpa using h), List.length_cons, Nat.add_mul]
   omega
  ·rw [if_neg h, List.filter_cons_of_neg (by simpa using h)]
   omega
theorem onL_pos (k : Nat) (F : List (Int × List Int)) (hp : PosP F) : 0 ≤ wsum (onL f L k F) := wsum_nonneg _ (fun x hx => hp x (List.mem_filter.1 hx).1)
theorem sumH_nonneg (F : List (Int × List Int)) (hp : PosP F) : ∀ k, 0 ≤ sumH f L k F
 | 0 => by rw [sumH_zero]; exact onL_pos f L 0 F hp
 | k + 1 => by
  rw [sumH_succ]
  have h1 := sumH_nonneg F hp k
  have h2 := onL_pos f L (k + 1) F hp
  omega
theorem onL_len (k : Nat) (F : List (Int × List Int)) : (onL f L k F).length ≤ F.length := List.length_filter_le _ _
theorem onL_take (k : Nat) (F : List (Int × List Int)) (hs : SortedP F) : wsum (F.take (onL f L k F).length) ≤ wsum (onL f L k F) := wsum_sub _ _ List.filter_sublist hs
/-- THE LEAST WEIGHT: whatever is chosen on the levels weighs no less than the first of the list. -/
theorem pack_least (F : List (Int × List Int)) (hs : SortedP F) (hp : PosP F) : ∀ k j, j * 2 ^ k ≤ sumG f L k F → j ≤ (lev F k).length ∧ wsum ((lev F k).take j) ≤ sumH f L k F
 | 0, j, h => by
  rw [sumG_zero, Nat.pow_zero, Nat.mul_one] at h
  have h1 := onL_len f L 0 F
  have h2 := onL_take f L 0 F hs
  have h3 := wsum_take_mono F hp j ((onL f L 0 F).length - j)
  rw [show j + ((onL f L 0 F).length - j) = (onL f L 0 F).length by omega] at h3
  rw [sumH_zero]
  exact ⟨by show j ≤ F.length; omega, by show wsum (F.take j) ≤ _; omega⟩
 | k + 1, j, h => by
  obtain ⟨h1, h2⟩ := lev_ok F hs hp k
  have c0 := onL_len f L (k + 1) F
  have c1 := onL_take f L (k + 1) F hs
  have c2 := onL_pos f L (k + 1) F hp
  have c3 := sumH_nonneg f L F hp k
  rw [sumG_succ] at h
  rw [sumH_succ]
  show j ≤ (mergeP F (pairP (lev F k))).length ∧ wsum ((mergeP F (pairP (lev F k))).take j) ≤ _
  rw [merge_len, pair_len]
  by_cases hj : j ≤ (onL f L (k + 1) F).length
  ·have m := merge_take F (pairP (lev F k)) hs (pair_sorted _ h1 h2) j 0 (by omega) (Nat.zero_le _)
   have h3 := wsum_take_mono F hp j ((onL f L (k + 1) F).length - j)
   rw [show j + ((onL f L (k + 1) F).length - j) = (onL f L (k + 1) F).length by omega] at h3
   simp only [Nat.add_zero, List.take_zero, wsum] at m
   exact ⟨by omega, by omega⟩
  ·obtain ⟨b, rfl⟩ : ∃ b, j = (onL f L (k + 1) F).length + b := ⟨j - (onL f L (k + 1) F).length, by omega⟩
   rw [Nat.add_mul] at h
   have hb : (2 * b) * 2 ^ k ≤ sumG f L k F := by
    have e : (2 * b) * 2 ^ k = b * 2 ^ (k + 1) := by rw [Nat.pow_succ, Nat.mul_comm 2 b, Nat.mul_assoc, Nat.mul_comm 2]
    omega
   obtain ⟨i1, i2⟩ := pack_least F hs hp k (2 * b) hb
   obtain ⟨p1, p2⟩ := pair_take (lev F k) b i1
   have m := merge_take F (pairP (lev F k)) hs (pair_sorted _ h1 h2) (onL f L (k + 1) F).length b c0 (by rw [pair_len]; omega)
   exact ⟨by omega, by omega⟩
theorem hN_all (v : Nat) (hv : v ≤ L) : ∀ k, k < L → hN L v k = (v + k + 1) - L
 | 0, h => by
  rw [hN]
  split <;> omega
 | k + 1, h => by
  rw [hN, hN_all v hv k (by omega)]
  split <;> omega
theorem gN_all (v : Nat) (hv : v ≤ L) : ∀ k, k < L → gN L v k = 2 ^ (k + 1) - 2 ^ (min (k + 1) (L - v))
 | 0, h => by
  rw [gN]
  split
  ·rw [show min (0 + 1) (L - v) = 0 by omega]
  ·rw [show min (0 + 1) (L - v) = 1 by omega]
 | k + 1, h => by
  rw [gN, gN_all v hv k (by omega)]
  split
  ·by_cases h1 : L ≤ v + k + 1
   ·rw [show min (k + 1) (L - v) = L - v by omega, show min (k + 1 + 1) (L - v) = L - v by omega]
    have h2 : 2 ^ (L - v) ≤ 2 ^ (k + 1) := Nat.pow_le_pow_right (by omega) (by omega)
    rw [Nat.pow_succ 2 (k + 1)]
    omega
   ·omega
  ·rw [show min (k + 1) (L - v) = k + 1 by omega, show min (k + 1 + 1) (L - v) = k + 1 + 1 by omega, Nat.sub_self, Nat.sub_self]
end

open Go.Proofs.Ytimomemkbcidnaa.MStab (insK isort insK_perm isort_perm isort_map)
def c101 (p : Int × List Int) : S101 := ⟨p.1, p.2⟩
def c96 (p : Int × List Int) : S96 := ⟨p.1, p.2⟩
def pAt (l : List (Int × List Int)) (i : Nat) : Int × List Int := l.getD i (0, [])
theorem rd101 (l : List (Int × List Int)) (i : Nat) : rd_T101 (l.map c101) (i : Int) = c101 (pAt l i) := by
 unfold rd_T101 pAt
 rw [Int.toNat_natCast, List.getD_eq_getElem?_getD, List.getD_eq_getElem?_getD, List.getElem?_map]
 cases l[i]? <;> rfl
theorem rd96 (l : List (Int × List Int)) (i : Nat) : rd_T96 (l.map c96) (i : Int) = c96 (pAt l i) := by
 unfold rd_T96 pAt
 rw [Int.toNat_natCast, List.getD_eq_getElem?_getD, List.getD_eq_getElem?_getD, List.getElem?_map]
 cases l[i]? <;> rfl
theorem w64_1 (j : Nat) (h : j ≤ 1000000000000) : wrap64 ((j : Int) + 1) = ((j + 1 : Nat) : Int) := by rw [w64_id (by omega) (by omega)]; rfl
theorem w64_2 (j : Nat) (h : j ≤ 1000000000000) : wrap64 ((j : Int) + 2) = ((j + 2 : Nat) : Int) := by rw [w64_id (by omega) (by omega)]; rfl
theorem w64_m (m : Nat) (h : m ≤ 1000000000000) : wrap64 (((m + 1 : Nat) : Int) - 1) = (m : Int) := by rw [w64_id (by omega) (by omega)]; omega
theorem pAt_eq (l : List (Int × List Int)) (i : Nat) (h : i < l.length) : pAt l i = l[i] := by unfold pAt; rw [List.getD_eq_getElem?_getD, List.getElem?_eq_getElem h]; rfl
theorem pAt_mem (l : List (Int × List Int)) (i : Nat) (h : i < l.length) : pAt l i ∈ l := by rw [pAt_eq l i h]; exact List.getElem_mem h
theorem drop_pAt (l : List (Int × List Int)) (i : Nat) (h : i < l.length) : l.drop i = pAt l i :: l.drop (i + 1) := by rw [pAt_eq l i h]; exact List.drop_eq_getElem_cons h
/-- The items of one symbol each. -/
def rawC : Nat → List Int → List (Int × List Int)
 | _, [] => []
 | i, c :: cs => if 0 < c then (c, [(i : Int)]) :: rawC (i + 1) cs else rawC (i + 1) cs
theorem rawC_len : ∀ (l : List Int) (i : Nat), (rawC i l).length ≤ l.length
 | [], _ => Nat.le_refl _
 | c :: cs, i => by
  have := rawC_len cs (i + 1)
  rw [rawC]
  split
  ·simp only [List.length_cons]; omega
  ·simp only [List.length_cons]; omega
theorem rawC_mem : ∀ (l : List Int) (i : Nat) (p : Int × List Int), p ∈ rawC i l → 0 < p.1 ∧ p.1 ∈ l ∧ ∃ s : Nat, p.2 = [(s : Int)] ∧ i ≤ s ∧ s < i + l.length
 | [], _, p, h => by cases h
 | c :: cs, i, p, h => by
  rw [rawC] at h
  have ih := rawC_mem cs (i + 1) p
  have key : p ∈ rawC (i + 1) cs → 0 < p.1 ∧ p.1 ∈ c :: cs ∧ ∃ s : Nat, p.2 = [(s : Int)] ∧ i ≤ s ∧ s < i + (c :: cs).length := fun h => by
   obtain ⟨h1, h2, s, h3, h4, h5⟩ := ih h
   exact ⟨h1, List.mem_cons_of_mem _ h2, s, h3, by omega, by simp only [List.length_cons]; omega⟩
  split at h
  ·rename_i hc
   rcases List.mem_cons.1 h with rfl | h
   ·exact ⟨hc, List.mem_cons_self, i, rfl, Nat.le_refl _, by simp only [List.length_cons]; omega⟩
   ·exact key h
  ·exact key h

/-! the sort by weight -/
theorem insK_end (x : Int × List Int) : ∀ acc : List (Int × List Int), (∀ y ∈ acc, y.1 ≤ x.1) → insK Prod.fst x acc = acc ++ [x]
 | [], _ => rfl
 | y :: ys, h => by
  have := h y List.mem_cons_self
  rw [insK, if_neg (by omega), insK_end x ys (fun z hz => h z (List.mem_cons_of_mem _ hz))]
  rfl
theorem insK_at (x : Int × List Int) : ∀ (m : Nat) (l : List (Int × List Int)), m ≤ l.length → (∀ y ∈ l.take m, y.1 ≤ x.1) → (∀ y ∈ l.drop m, x.1 < y.1) → insK Prod.fst x l = l.take m ++ x :: l.drop m
 | 0, [], _, _, _ => rfl
 | 0, y :: ys, _, _, h => by
  rw [insK, if_pos (h y List.mem_cons_self)]
  rfl
 | m + 1, [], h, _, _ => by simp at h
 | m + 1, y :: ys, h1, h2, h3 => by
  have := h2 y List.mem_cons_self
  rw [insK, if_neg (by omega), insK_at x m ys (by simpa using h1) (fun z hz => h2 z (List.mem_cons_of_mem _ hz)) h3]
  rfl
theorem insK_sortedP (x : Int × List Int) : ∀ l : List (Int × List Int), SortedP l → SortedP (insK Prod.fst x l)
 | [], _ => List.pairwise_singleton _ _
 | y :: ys, h => by
  obtain ⟨h1, h2⟩ := List.pairwise_cons.1 h
  rw [insK]
  split
  ·rename_i hc
   refine List.pairwise_cons.2 ⟨fun z hz => ?_, h⟩
   rcases List.mem_cons.1 hz with rfl | hz
   ·omega
   ·have := h1 z hz; omega
  ·rename_i hc
   refine List.pairwise_cons.2 ⟨fun z hz => ?_, insK_sortedP x ys h2⟩
   rcases List.mem_cons.1 ((insK_perm _ x ys).mem_iff.1 hz) with rfl | hz
   ·omega
   ·exact h1 z hz
theorem fold_sortedP : ∀ (B A : List (Int × List Int)), SortedP A → SortedP (B.foldl (fun acc x => insK Prod.fst x acc) A)
 | [], A, h => h
 | x :: B, A, h => by rw [List.foldl_cons]; exact fold_sortedP B _ (insK_sortedP x A h)
theorem isort_sortedP (l : List (Int × List Int)) : SortedP (isort Prod.fst l) := fold_sortedP l [] List.Pairwise.nil
theorem fold_end : ∀ (B A : List (Int × List Int)), (∀ y ∈ A, ∀ x ∈ B, y.1 ≤ x.1) → SortedP B → B.foldl (fun acc x => insK Prod.fst x acc) A = A ++ B
 | [], A, _, _ => by simp
 | x :: B, A, h, hB => by
  obtain ⟨h1, h2⟩ := List.pairwise_cons.1 hB
  rw [List.foldl_cons, insK_end x A (fun y hy => h y hy x List.mem_cons_self), fold_end B (A ++ [x]) ?_ h2]
  ·simp
  ·intro y hy z hz
   rcases List.mem_append.1 hy with hy | hy
   ·exact h y hy z (List.mem_cons_of_mem _ hz)
   ·rw [List.mem_singleton.1 hy]; exact h1 z hz
theorem fold_head (a : Int × List Int) : ∀ (B A : List (Int × List Int)), (∀ x ∈ B, a.1 ≤ x.1) → B.foldl (fun acc x => insK Prod.fst x acc) (a :: A) = a :: B.foldl (fun acc x => insK Prod.fst x acc) A
 | [], A, _ => rfl
 | x :: B, A, h => by
  have := h x List.mem_cons_self
  rw [List.foldl_cons, List.foldl_cons, insK, if_neg (by omega), fold_head a B _ (fun y hy => h y (List.mem_cons_of_mem _ hy))]
theorem fold_merge : ∀ (A B : List (Int × List Int)), SortedP A → SortedP B → B.foldl (fun acc x => insK Prod.fst x acc) A = mergeP A B
 | [], B, _, hB => by rw [mergeP, fold_end B [] (fun y hy => by cases hy) hB]; rfl
 | x :: A, [], _, _ => by rw [mergeP]; rfl
 | x :: A, y :: B, hA, hB => by
  obtain ⟨a1, a2⟩ := List.pairwise_cons.1 hA
  obtain ⟨b1, b2⟩ := List.pairwise_cons.1 hB
  rw [mergeP]
  split
  ·rename_i hc
   rw [fold_head x (y :: B) A ?_, fold_merge A (y :: B) a2 hB]
   intro z hz
   rcases List.mem_cons.1 hz with rfl | hz
   ·exact hc
   ·have := b1 z hz; omega
  ·rename_i hc
   rw [List.foldl_cons, insK, if_pos (by omega), fold_head y B (x :: A) b1, fold_merge (x :: A) B hA b2]
termination_by A B => A.length + B.length
theorem isort_append (A B : List (Int × List Int)) (hA : SortedP A) (hB : SortedP B) : isort Prod.fst (A ++ B) = mergeP A B := by
 have h1 := fold_end A [] (fun y hy => by cases hy) hA
 unfold isort
 rw [List.foldl_append, h1]
 exact fold_merge A B hA hB

/-! the program's two lists -/
theorem coinsOf_loop (l : List Int) (hl : l.length ≤ 288) (d : Nat) : ∀ (j : Nat) (x : List (Int × List Int)), j + d = l.length → x.length ≤ j →
  Ev (fun k => impl_coinsOf.l0 k (x.map c101) l (l.length : Int) (j : Int)) ((x ++ rawC j (l.drop j)).map c101) := by
 induction d with
 | zero =>
  intro j x h hx
  refine ev_ret (fun k => ?_)
  rw [List.drop_of_length_le (by omega), rawC, List.append_nil, impl_coinsOf.l0, if_neg (by omega)]
 | succ d ih =>
  intro j x h hx
  rw [drop_rd l j (by omega), rawC]
  by_cases hc : 0 < rd l j
  ·rw [if_pos hc]
   have e := ih (j + 1) (x ++ [(rd l j, [(j : Int)])]) (by omega) (by simp; omega)
   rw [List.append_assoc] at e
   refine Ev.step (fun k => ?_) e
   rw [impl_coinsOf.l0, if_pos (by omega), if_pos (by omega), if_pos (by omega), if_pos hc, if_pos (by simp; omega), w64_1 j (by omega), List.map_append]
   rfl
  ·rw [if_neg hc]
   refine Ev.step (fun k => ?_) (ih (j + 1) x (by omega) (by omega))
   rw [impl_coinsOf.l0, if_pos (by omega), if_pos (by omega), if_pos (by omega), if_neg hc, w64_1 j (by omega)]
/-- The first list. -/
def firstP (l : List Int) : List (Int × List Int) := isort Prod.fst (rawC 0 l)
theorem firstP_len (l : List Int) : (firstP l).length ≤ l.length := by
 unfold firstP
 rw [(isort_perm _ _).length_eq]
 exact rawC_len l 0
theorem coinsOf_is (l : List Int) (hl : l.length ≤ 288) : Ev (fun k => impl_coinsOf.f k l) ((firstP l).map c101) := by
 have e := coinsOf_loop l hl l.length 0 [] (by omega) (by simp)
 have hlen := rawC_len l 0
 refine ev_end e (fun k h => ?_)
 have h2 : impl_coinsOf.u k l = some ((rawC 0 l).map c101) := h
 unfold impl_coinsOf.f firstP
 rw [h2, Option.bind_some, if_pos (by rw [List.length_map]; omega), isort_map Prod.fst S101.f0 c101 (rawC 0 l) (fun _ _ => rfl)]
theorem pairP_short : ∀ l : List (Int × List Int), l.length ≤ 1 → pairP l = []
 | [], _ => by rw [pairP]; intro a b r h; cases h
 | [a], _ => by rw [pairP]; intro a b r h; cases h
 | a :: b :: r, h => by simp at h
theorem concat2 (a b : List Int) (ha : 0 < a.length) (h : a.length + b.length ≤ 1000000) : slices_Concat_int_int.f [a, b] = some (a ++ b) := by
 have e1 : MSlices.sumLen [a, b] = a.length + b.length := by simp [MSlices.sumLen]
 have e2 : MSlices.joined [a, b] = a ++ b := by simp [MSlices.joined]
 unfold slices_Concat_int_int.f MCoins.concatF
 rw [if_pos ⟨by simp, by omega, by omega⟩, e2]
/-- What a list's items are bound to. -/
structure Small (N : Nat) (B : Int) (C : Nat) (l : List (Int × List Int)) : Prop where
 wt : ∀ p ∈ l, 0 < p.1 ∧ p.1 ≤ B
 ne : ∀ p ∈ l, 0 < p.2.length ∧ p.2.length ≤ C
 rg : ∀ p ∈ l, ∀ s ∈ p.2, 0 ≤ s ∧ s < (N : Int)
theorem nextCoins_loop (N : Nat) (B : Int) (C : Nat) (hB : B ≤ 1000000000000) (hC : C ≤ 100000) (L : List (Int × List Int)) (hS : Small N B C L) (hL : L.length ≤ 1000) (d : Nat) : ∀ (j : Nat) (x : List (Int × List Int)), (L.length - j) / 2 = d → j ≤ L.length → x.length ≤ j + 1000 →
  Ev (fun k => impl_nextCoins.l0 k (L.map c101) (x.map c101) (j : Int)) ((x ++ pairP (L.drop j)).map c101) := by
 induction d with
 | zero =>
  intro j x h hj hx
  refine ev_ret (fun k => ?_)
  rw [pairP_short _ (by rw [List.length_drop]; omega), List.append_nil, impl_nextCoins.l0, w64_id (x := (j : Int) + 1) (by omega) (by omega), List.length_map, if_neg (by omega)]
 | succ d ih =>
  intro j x h hj hx
  have m1 := pAt_mem L j (by omega)
  have m2 := pAt_mem L (j + 1) (by omega)
  have a1 := hS.wt _ m1
  have a2 := hS.wt _ m2
  have b1 := hS.ne _ m1
  have b2 := hS.ne _ m2
  rw [drop_pAt L j (by omega), drop_pAt L (j + 1) (by omega), pairP]
  have e := ih (j + 2) (x ++ [((pAt L j).1 + (pAt L (j + 1)).1, (pAt L j).2 ++ (pAt L (j + 1)).2)]) (by omega) (by omega) (by simp; omega)
  rw [List.append_assoc] at e
  refine Ev.step (fun k => ?_) e
  rw [impl_nextCoins.l0, w64_1 j (by omega), w64_2 j (by omega), List.length_map, if_pos (by omega), if_pos (by omega), if_pos (by omega), if_pos (by omega), rd101, rd101]
  show (slices_Concat_int_int.f [(pAt L j).2, (pAt L (j + 1)).2]).bind _ = _
  rw [concat2 _ _ b1.1 (by omega), Option.bind_some, if_pos (by rw [List.length_map]; omega), List.map_append]
  show impl_nextCoins.l0 k _ (_ ++ [(⟨wrap64 ((pAt L j).1 + (pAt L (j + 1)).1), _⟩ : S101)]) _ = _
  rw [w64_id (x := (pAt L j).1 + (pAt L (j + 1)).1) (by omega) (by omega)]
  rfl
theorem nextCoins_is (N : Nat) (B : Int) (C : Nat) (hB : B ≤ 1000000000000) (hC : C ≤ 100000) (F L : List (Int × List Int)) (hS : Small N B C L) (hF : F.length ≤ 1000) (hL : L.length ≤ 1000) (sF : SortedP F) (sL : SortedP L) :
  Ev (fun k => impl_nextCoins.f k (F.map c101) (L.map c101)) ((mergeP F (pairP L)).map c101) := by
 have e := nextCoins_loop N B C hB hC L hS hL (L.length / 2) 0 F (by omega) (by omega) (by omega)
 rw [List.drop_zero] at e
 refine ev_end e (fun k h => ?_)
 have h2 : impl_nextCoins.u k (F.map c101) (L.map c101) = some ((F ++ pairP L).map c101) := by
  unfold impl_nextCoins.u
  rw [Option.bind_some, if_pos (by simp; omega)]
  exact h
 have hlen : (F ++ pairP L).length < 1000000000000 := by rw [List.length_append, pair_len]; omega
 unfold impl_nextCoins.f
 rw [h2, Option.bind_some, if_pos (by rw [List.length_map]; exact hlen), ← isort_map Prod.fst S101.f0 c101 (F ++ pairP L) (fun _ _ => rfl), isort_append F (pairP L) sF (pair_sorted L sL (fun p hp => (hS.wt p hp).1))]

/-! the reference's two lists -/
theorem drop_gt (x : List (Int × List Int)) (w : Int) (m : Nat) (h : ∀ i, m ≤ i → i < x.length → w < (pAt x i).1) : ∀ y ∈ x.drop m, w < y.1 := by
 intro y hy
 obtain ⟨i, hi, e⟩ := List.getElem_of_mem hy
 rw [List.length_drop] at hi
 rw [List.getElem_drop] at e
 rw [← e, ← pAt_eq x (m + i) (by omega)]
 exact h (m + i) (by omega) (by omega)
theorem take_le (x : List (Int × List Int)) (w : Int) (m : Nat) (hm : m < x.length) (hs : SortedP x) (h : (pAt x m).1 ≤ w) : ∀ y ∈ x.take (m + 1), y.1 ≤ w := by
 intro y hy
 obtain ⟨i, hi, e⟩ := List.getElem_of_mem hy
 rw [List.length_take] at hi
 rw [List.getElem_take] at e
 rw [pAt_eq x m hm] at h
 by_cases him : i = m
 ·subst him; rw [← e]; exact h
 ·have := List.pairwise_iff_getElem.1 hs i m (by omega) hm (by omega)
  rw [← e]
  omega
theorem firstS_ins (l : List Int) (hl : l.length ≤ 288) (j : Nat) (hj : j < l.length) (x : List (Int × List Int)) (hx : x.length ≤ j) (hs : SortedP x) (R : List S96)
  (e : Ev (fun k => spec_l04First.l0 k l ((insK Prod.fst (rd l j, [(j : Int)]) x).map c96) ((j + 1 : Nat) : Int)) R) : ∀ m : Nat, m ≤ x.length → (∀ i, m ≤ i → i < x.length → rd l j < (pAt x i).1) →
  Ev (fun k => spec_l04First.l1 k l (x.map c96) (j : Int) (m : Int) (rd l j) [(j : Int)]) R := by
 intro m
 induction m with
 | zero =>
  intro hm hg
  have hi := insK_at (rd l j, [(j : Int)]) 0 x (Nat.zero_le _) (fun y hy => by cases hy) (drop_gt x _ 0 hg)
  rw [hi] at e
  refine Ev.step (fun k => ?_) e
  rw [spec_l04First.l1, if_neg (by omega)]
  simp only [Option.bind_some, Int.toNat_natCast, List.nil_append, List.length_append, List.length_take, List.length_map, List.length_drop, List.length_nil, List.length_cons]
  rw [if_pos (by omega), if_pos (by omega), if_pos (by omega), if_pos (by omega), if_pos (by omega), w64_1 j (by omega)]
  rw [List.map_append, List.map_cons, List.map_take, List.map_drop, List.append_assoc]
  rfl
 | succ m ih =>
  intro hm hg
  by_cases hc : rd l j < (pAt x m).1
  ·refine Ev.step (fun k => ?_) (ih (by omega) (fun i h1 h2 => by
    by_cases him : i = m
    ·subst him; exact hc
    ·exact hg i (by omega) h2))
   rw [spec_l04First.l1, if_pos (by omega), w64_m m (by omega), if_pos (by omega), List.length_map, if_pos (by omega), rd96, if_pos (show (c96 (pAt x m)).f0 > rd l j from hc)]
  ·have hi := insK_at (rd l j, [(j : Int)]) (m + 1) x hm (take_le x _ m (by omega) hs (by omega)) (drop_gt x _ (m + 1) hg)
   rw [hi] at e
   refine Ev.step (fun k => ?_) e
   rw [spec_l04First.l1, if_pos (by omega), w64_m m (by omega), if_pos (by omega), List.length_map, if_pos (by omega), rd96, if_neg (show ¬ (c96 (pAt x m)).f0 > rd l j from hc)]
   simp only [Option.bind_some, Int.toNat_natCast, List.nil_append, List.length_append, List.length_take, List.length_map, List.length_drop, List.length_nil, List.length_cons]
   rw [if_pos (by omega), if_pos (by omega), if_pos (by omega), if_pos (by omega), if_pos (by omega), w64_1 j (by omega)]
   rw [List.map_append, List.map_cons, List.map_take, List.map_drop, List.append_assoc]
   rfl
theorem firstS_loop (l : List Int) (hl : l.length ≤ 288) (hp : ∀ j, j < l.length → 0 ≤ rd l j) (d : Nat) : ∀ (j : Nat) (x : List (Int × List Int)), j + d = l.length → x.length ≤ j → SortedP x →
  Ev (fun k => spec_l04First.l0 k l (x.map c96) (j : Int)) (((rawC j (l.drop j)).foldl (fun acc p => insK Prod.fst p acc) x).map c96) := by
 induction d with
 | zero =>
  intro j x h hx hs
  refine ev_ret (fun k => ?_)
  rw [List.drop_of_length_le (by omega), rawC, spec_l04First.l0, if_neg (by omega)]
  rfl
 | succ d ih =>
  intro j x h hx hs
  have h0 := hp j (by omega)
  rw [drop_rd l j (by omega), rawC]
  by_cases hc : 0 < rd l j
  ·rw [if_pos hc, List.foldl_cons]
   have hil : (insK Prod.fst (rd l j, [(j : Int)]) x).length = x.length + 1 := (insK_perm _ _ x).length_eq
   have e := firstS_ins l hl j (by omega) x hx hs _ (ih (j + 1) (insK Prod.fst (rd l j, [(j : Int)]) x) (by omega) (by omega) (insK_sortedP _ x hs)) x.length (Nat.le_refl _) (fun i h1 h2 => by omega)
   refine Ev.step (fun k => ?_) e
   rw [spec_l04First.l0, if_pos (by omega), if_pos (by omega), if_neg (by omega), List.length_map]
  ·rw [if_neg hc]
   refine Ev.step (fun k => ?_) (ih (j + 1) x (by omega) (by omega) hs)
   rw [spec_l04First.l0, if_pos (by omega), if_pos (by omega), if_pos (by omega), w64_1 j (by omega)]
theorem firstS_is (l : List Int) (hl : l.length ≤ 288) (hp : ∀ j, j < l.length → 0 ≤ rd l j) : Ev (fun k => spec_l04First.f k l) ((firstP l).map c96) :=
 firstS_loop l hl hp l.length 0 [] (by omega) (by simp) List.Pairwise.nil
theorem merge_nil_left (B : List (Int × List Int)) : mergeP [] B = B := by rw [mergeP]
theorem nextS_in (F L : List (Int × List Int)) (j : Nat) (hj : j + 1 < L.length) (hL : L.length ≤ 1000) (hF : F.length ≤ 1000) (p : Int × List Int)
  (ih : ∀ (a : Nat) (x : List (Int × List Int)), a ≤ F.length → x.length ≤ a + j + 2 → Ev (fun k => spec_l04Next.l0 k (F.map c96) (L.map c96) (x.map c96) (a : Int) ((j + 2 : Nat) : Int)) ((x ++ mergeP (F.drop a) (pairP (L.drop (j + 2)))).map c96)) (d : Nat) :
  ∀ (a : Nat) (x : List (Int × List Int)), a + d = F.length → x.length ≤ a + j →
   Ev (fun k => spec_l04Next.l1 k (F.map c96) (L.map c96) (x.map c96) (a : Int) (j : Int) p.1 p.2) ((x ++ mergeP (F.drop a) (p :: pairP (L.drop (j + 2)))).map c96) := by
 induction d with
 | zero =>
  intro a x h hx
  have e := ih a (x ++ [p]) (by omega) (by simp; omega)
  rw [List.drop_of_length_le (by omega), merge_nil_left] at e ⊢
  rw [List.append_assoc] at e
  refine Ev.step (fun k => ?_) e
  rw [spec_l04Next.l1, List.length_map, if_neg (by omega), List.length_map, if_pos (by omega), w64_2 j (by omega), List.map_append]
  rfl
 | succ d ihd =>
  intro a x h hx
  rw [drop_pAt F a (by omega), mergeP]
  by_cases hc : (pAt F a).1 ≤ p.1
  ·rw [if_pos hc]
   have e := ihd (a + 1) (x ++ [pAt F a]) (by omega) (by simp; omega)
   rw [List.append_assoc] at e
   refine Ev.step (fun k => ?_) e
   rw [spec_l04Next.l1, List.length_map, if_pos (by omega), if_pos (by omega), rd96, if_pos (show (c96 (pAt F a)).f0 ≤ p.1 from hc), List.length_map, if_pos (by omega), w64_1 a (by omega), List.map_append]
   rfl
  ·rw [if_neg hc]
   have e := ih a (x ++ [p]) (by omega) (by simp; omega)
   rw [List.append_assoc, drop_pAt F a (by omega)] at e
   refine Ev.step (fun k => ?_) e
   rw [spec_l04Next.l1, List.length_map, if_pos (by omega), if_pos (by omega), rd96, if_neg (show ¬ (c96 (pAt F a)).f0 ≤ p.1 from hc), List.length_map, if_pos (by omega), w64_2 j (by omega), List.map_append]
   rfl
theorem nextS_loop (N : Nat) (B : Int) (C : Nat) (hB : B ≤ 1000000000000) (hC : C ≤ 100000) (F L : List (Int × List Int)) (hS : Small N B C L) (hL : L.length ≤ 1000) (hF : F.length ≤ 1000) (d : Nat) : ∀ (j a : Nat) (x : List (Int × List Int)), (L.length - j) / 2 = d → j ≤ L.length → a ≤ F.length → x.length ≤ a + j →
  Ev (fun k => spec_l04Next.l0 k (F.map c96) (L.map c96) (x.map c96) (a : Int) (j : Int)) ((x ++ mergeP (F.drop a) (pairP (L.drop j))).map c96) := by
 induction d with
 | zero =>
  intro j a x h hj ha hx
  refine ev_ret (fun k => ?_)
  rw [pairP_short (L.drop j) (by rw [List.length_drop]; omega), merge_nil, spec_l04Next.l0, w64_id (x := (j : Int) + 1) (by omega) (by omega), List.length_map, if_neg (by omega), if_pos (by omega), List.length_map, if_pos (by omega), Int.toNat_natCast, Option.bind_some, List.length_map, List.length_drop, List.length_map, if_pos (by omega), List.map_append, List.map_drop]
 | succ d ih =>
  intro j a x h hj ha hx
  have m1 := pAt_mem L j (by omega)
  have m2 := pAt_mem L (j + 1) (by omega)
  have a1 := hS.wt _ m1
  have a2 := hS.wt _ m2
  have b1 := hS.ne _ m1
  have b2 := hS.ne _ m2
  rw [drop_pAt L j (by omega), drop_pAt L (j + 1) (by omega), pairP]
  have e := nextS_in F L j (by omega) hL hF ((pAt L j).1 + (pAt L (j + 1)).1, (pAt L j).2 ++ (pAt L (j + 1)).2) (fun a x ha hx => ih (j + 2) a x (by omega) (by omega) ha (by omega)) (F.length - a) a x (by omega) hx
  refine Ev.step (fun k => ?_) e
  rw [spec_l04Next.l0, w64_1 j (by omega), List.length_map, if_pos (by omega), if_pos (by omega), if_pos (by omega), if_pos (by omega), rd96, rd96]
  show (if ([] : List Int).length + (pAt L j).2.length < 17592186044416 then _ else _) = _
  rw [if_pos (by simp; omega), Option.bind_some, List.nil_append]
  show (if (pAt L j).2.length + (pAt L (j + 1)).2.length < 17592186044416 then spec_l04Next.l1 k (F.map c96) (L.map c96) (x.map c96) (a : Int) (j : Int) (wrap64 ((pAt L j).1 + (pAt L (j + 1)).1)) ((pAt L j).2 ++ (pAt L (j + 1)).2) else _) = _
  rw [if_pos (by omega), w64_id (x := (pAt L j).1 + (pAt L (j + 1)).1) (by omega) (by omega)]
theorem nextS_is (N : Nat) (B : Int) (C : Nat) (hB : B ≤ 1000000000000) (hC : C ≤ 100000) (F L : List (Int × List Int)) (hS : Small N B C L) (hF : F.length ≤ 1000) (hL : L.length ≤ 1000) :
  Ev (fun k => spec_l04Next.f k (F.map c96) (L.map c96)) ((mergeP F (pairP L)).map c96) :=
 nextS_loop N B C hB hC F L hS hL hF (L.length / 2) 0 0 [] (by omega) (by omega) (by omega) (by simp)

/-! the lists' bounds -/
theorem merge_small {N : Nat} {B : Int} {C : Nat} {A L : List (Int × List Int)} (h1 : Small N B C A) (h2 : Small N B C L) : Small N B C (mergeP A L) where
 wt p hp := by rcases (merge_mem _ _ _).1 hp with h | h; exact h1.wt p h; exact h2.wt p h
 ne p hp := by rcases (merge_mem _ _ _).1 hp with h | h; exact h1.ne p h; exact h2.ne p h
 rg p hp := by rcases (merge_mem _ _ _).1 hp with h | h; exact h1.rg p h; exact h2.rg p h
theorem small_le {N : Nat} {B B' : Int} {C C' : Nat} {A : List (Int × List Int)} (h : Small N B C A) (hB : B ≤ B') (hC : C ≤ C') : Small N B' C' A where
 wt p hp := ⟨(h.wt p hp).1, Int.le_trans (h.wt p hp).2 hB⟩
 ne p hp := ⟨(h.ne p hp).1, Nat.le_trans (h.ne p hp).2 hC⟩
 rg := h.rg
theorem small_nil (N : Nat) (B : Int) (C : Nat) : Small N B C [] := ⟨(fun p h => nomatch h), (fun p h => nomatch h), (fun p h => nomatch h)⟩
theorem pair_small {N : Nat} {B : Int} {C : Nat} : ∀ {L : List (Int × List Int)}, Small N B C L → Small N (2 * B) (2 * C) (pairP L)
 | [], _ => by rw [pairP_short [] (by simp)]; exact small_nil _ _ _
 | [a], _ => by rw [pairP_short [a] (by simp)]; exact small_nil _ _ _
 | a :: b :: r, h => by
  have ih := pair_small (L := r) ⟨fun p hp => h.wt p (by simp [hp]), fun p hp => h.ne p (by simp [hp]), fun p hp => h.rg p (by simp [hp])⟩
  have a1 := h.wt a (by simp)
  have a2 := h.wt b (by simp)
  have b1 := h.ne a (by simp)
  have b2 := h.ne b (by simp)
  rw [pairP]
  refine ⟨fun p hp => ?_, fun p hp => ?_, fun p hp => ?_⟩
  ·rcases List.mem_cons.1 hp with rfl | hp
   ·show 0 < a.1 + b.1 ∧ a.1 + b.1 ≤ _; omega
   ·exact ih.wt p hp
  ·rcases List.mem_cons.1 hp with rfl | hp
   ·show 0 < (a.2 ++ b.2).length ∧ (a.2 ++ b.2).length ≤ _; rw [List.length_append]; omega
   ·exact ih.ne p hp
  ·rcases List.mem_cons.1 hp with rfl | hp
   ·intro s hs
    rcases List.mem_append.1 (show s ∈ a.2 ++ b.2 from hs) with hs | hs
    ·exact h.rg a (by simp) s hs
    ·exact h.rg b (by simp) s hs
   ·exact ih.rg p hp
theorem firstP_small (l : List Int) (hv : ∀ x ∈ l, x ≤ 12000) : Small l.length 12000 1 (firstP l) := by
 have key : ∀ p ∈ firstP l, p ∈ rawC 0 l := fun p hp => (isort_perm _ _).mem_iff.1 hp
 refine ⟨fun p hp => ?_, fun p hp => ?_, fun p hp => ?_⟩
 ·obtain ⟨h1, h2, _⟩ := rawC_mem l 0 p (key p hp)
  exact ⟨h1, hv _ h2⟩
 ·obtain ⟨_, _, s, h3, _⟩ := rawC_mem l 0 p (key p hp)
  rw [h3]
  exact ⟨Nat.lt_add_one 0, Nat.le_refl _⟩
 ·obtain ⟨_, _, s, h3, h4, h5⟩ := rawC_mem l 0 p (key p hp)
  intro t ht
  rw [h3] at ht
  rw [List.mem_singleton.1 ht]
  omega
theorem lev_small {N : Nat} {B : Int} {F : List (Int × List Int)} (hB : 0 ≤ B) (h : Small N B 1 F) : ∀ k, Small N (B * 2 ^ k) (2 ^ k) (lev F k)
 | 0 => by rw [Int.pow_zero, Int.mul_one]; exact h
 | k + 1 => by
  have ih := lev_small hB h k
  have e1 : B * 2 ^ (k + 1) = 2 * (B * 2 ^ k) := by rw [Int.pow_succ, ← Int.mul_assoc, Int.mul_comm]
  have e2 : 2 ^ (k + 1) = 2 * 2 ^ k := by rw [Nat.pow_succ, Nat.mul_comm]
  have hp : (1 : Int) ≤ 2 ^ (k + 1) := by have : (0 : Int) < 2 ^ (k + 1) := Int.pow_pos (by omega); omega
  rw [lev]
  refine merge_small (small_le h ?_ (Nat.one_le_two_pow)) ?_
  ·have := Int.mul_le_mul_of_nonneg_left hp hB
   rwa [Int.mul_one] at this
  ·rw [e1, e2]
   exact pair_small ih
theorem lev_len {F : List (Int × List Int)} : ∀ k, (lev F k).length ≤ 2 * F.length
 | 0 => by show F.length ≤ _; omega
 | k + 1 => by
  have := lev_len (F := F) k
  rw [lev, merge_len, pair_len]
  omega
theorem lev_many {F : List (Int × List Int)} (L : Nat) (h : F.length ≤ 2 ^ L) : ∀ k, k ≤ L → 2 * F.length ≤ (lev F k).length + 2 ^ (L - k)
 | 0, _ => by show 2 * F.length ≤ F.length + 2 ^ L; omega
 | k + 1, hk => by
  have ih := lev_many L h k (by omega)
  have e : 2 ^ (L - k) = 2 * 2 ^ (L - (k + 1)) := by rw [show L - k = (L - (k + 1)) + 1 by omega, Nat.pow_succ, Nat.mul_comm]
  rw [e] at ih
  rw [lev, merge_len, pair_len]
  omega
/-! the levels, on both sides -/
theorem pow15 (k : Nat) (h : k ≤ 14) : (2 : Int) ^ k ≤ 16384 ∧ (2 : Nat) ^ k ≤ 16384 := by
 have h2 : (2 : Nat) ^ k ≤ 2 ^ 14 := Nat.pow_le_pow_right (by omega) h
 have h1 : (2 : Int) ^ k = ((2 ^ k : Nat) : Int) := by simp
 rw [h1]
 omega
theorem lev_small15 {N : Nat} {F : List (Int × List Int)} (h : Small N 12000 1 F) (k : Nat) (hk : k ≤ 14) : Small N 1000000000000 16384 (lev F k) := by
 have h1 := pow15 k hk
 refine small_le (lev_small (by omega) h k) ?_ h1.2
 have := Int.mul_le_mul_of_nonneg_left h1.1 (show (0 : Int) ≤ 12000 by omega)
 omega
theorem tally_sub {N : Nat} {F : List (Int × List Int)} (h : Small N 12000 1 F) (hF : F.length ≤ 288) (sF : SortedP F) (k : Nat) (hk : k ≤ 14) (n : Nat) : Small N 1000000000000 16384 ((lev F k).take n) := by
 have := lev_small15 h k hk
 exact ⟨fun p hp => this.wt p (List.mem_of_mem_take hp), fun p hp => this.ne p (List.mem_of_mem_take hp), fun p hp => this.rg p (List.mem_of_mem_take hp)⟩
/-- One more for each symbol. -/
def tallyS (o : List Int) (s : List Int) : List Int := s.foldl (fun o x => o.set x.toNat (rd o x + 1)) o
def tally (o : List Int) (l : List (Int × List Int)) : List Int := l.foldl (fun o p => tallyS o p.2) o
theorem tallyS_len : ∀ (s o : List Int), (tallyS o s).length = o.length
 | [], o => rfl
 | x :: s, o => by
  show (tallyS (o.set x.toNat (rd o x + 1)) s).length = _
  rw [tallyS_len s, List.length_set]
theorem tally_len : ∀ (l : List (Int × List Int)) (o : List Int), (tally o l).length = o.length
 | [], o => rfl
 | p :: l, o => by
  show (tally (tallyS o p.2) l).length = _
  rw [tally_len l, tallyS_len]
def Bnd (o : List Int) (c : Nat) : Prop := ∀ i : Nat, 0 ≤ rd o i ∧ rd o i ≤ c
theorem bnd_set {o : List Int} {c : Nat} (h : Bnd o c) (i : Nat) (hi : i < o.length) : Bnd (o.set i (rd o i + 1)) (c + 1) := by
 intro j
 have h1 := h i
 have h2 := h j
 rw [rd_set o i _ j hi]
 split <;> omega
theorem bnd_tallyS : ∀ (s o : List Int) (c : Nat), Bnd o c → (∀ x ∈ s, 0 ≤ x ∧ x < (o.length : Int)) → Bnd (tallyS o s) (c + s.length)
 | [], o, c, h, _ => h
 | x :: s, o, c, h, hs => by
  obtain ⟨h1, h2⟩ := hs x List.mem_cons_self
  obtain ⟨n, rfl⟩ := Int.eq_ofNat_of_zero_le h1
  have := bnd_tallyS s (o.set n (rd o n + 1)) (c + 1) (bnd_set h n (by omega)) (fun y hy => by rw [List.length_set]; exact hs y (List.mem_cons_of_mem _ hy))
  rw [List.length_cons, show c + (s.length + 1) = c + 1 + s.length by omega]
  exact this

/-! the last loops -/
theorem tallyS_cons (o : List Int) (x : Nat) (s : List Int) : tallyS o ((x : Int) :: s) = tallyS (o.set x (rd o x + 1)) s := rfl
theorem tallyI (s : List Int) (N c : Nat) (hc : c + s.length ≤ 1000000000000) (hr : ∀ x ∈ s, 0 ≤ x ∧ x < (N : Int)) (L' : List S101) (m t : Int) (R : List Int × Bool) (d : Nat) : ∀ (i : Nat) (o : List Int), i + d = s.length → o.length = N → Bnd o (c + i) →
  Ev (fun k => impl_LimitedLengths.l2 k (tallyS o (s.drop i)) L' m (wrap64 (t + 1))) R → Ev (fun k => impl_LimitedLengths.l3 k o L' m t s (s.length : Int) (i : Int)) R := by
 induction d with
 | zero =>
  intro i o h ho hb e
  rw [List.drop_of_length_le (by omega)] at e
  refine Ev.step (fun k => ?_) e
  rw [impl_LimitedLengths.l3, if_neg (by omega)]
  rfl
 | succ d ih =>
  intro i o h ho hb e
  rw [drop_rd s i (by omega)] at e
  obtain ⟨h1, h2⟩ := hr _ (rd_mem s i (by omega))
  obtain ⟨x, hx⟩ := Int.eq_ofNat_of_zero_le h1
  rw [hx] at e h2
  rw [tallyS_cons] at e
  have hbx := hb x
  have e2 := ih (i + 1) (o.set x (rd o x + 1)) (by omega) (by rw [List.length_set]; exact ho) (bnd_set hb x (by omega)) e
  refine Ev.step (fun k => ?_) e2
  rw [impl_LimitedLengths.l3, if_pos (by omega), if_pos (by omega), if_pos (by omega), hx, if_pos (by omega), if_pos (by omega), Int.toNat_natCast, w64_id (x := rd o x + 1) (by omega) (by omega), w64_1 i (by omega)]
theorem tally_cons (o : List Int) (p : Int × List Int) (l : List (Int × List Int)) : tally o (p :: l) = tally (tallyS o p.2) l := rfl
theorem tallysI (N : Nat) (L : List (Int × List Int)) (hS : Small N 1000000000000 16384 L) (hL : L.length ≤ 1000) (d : Nat) : ∀ (t : Nat) (o : List Int), t + d = L.length → o.length = N → Bnd o (16384 * t) →
  Ev (fun k => impl_LimitedLengths.l2 k o (L.map c101) (L.length : Int) (t : Int)) (tally o (L.drop t), true) := by
 induction d with
 | zero =>
  intro t o h ho hb
  refine ev_ret (fun k => ?_)
  rw [List.drop_of_length_le (by omega), impl_LimitedLengths.l2, if_neg (by omega)]
  rfl
 | succ d ih =>
  intro t o h ho hb
  have hm := pAt_mem L t (by omega)
  have hn := hS.ne _ hm
  have hr := hS.rg _ hm
  have b1 := bnd_tallyS (pAt L t).2 o (16384 * t) hb (fun x hx => by rw [ho]; exact hr x hx)
  have e := ih (t + 1) (tallyS o (pAt L t).2) (by omega) (by rw [tallyS_len]; exact ho) (fun i => by have := b1 i; omega)
  rw [← w64_1 t (by omega)] at e
  have e2 := tallyI (pAt L t).2 N (16384 * t) (by omega) hr (L.map c101) (L.length : Int) (t : Int) _ (pAt L t).2.length 0 o (by omega) ho hb e
  rw [drop_pAt L t (by omega), tally_cons]
  refine Ev.step (fun k => ?_) e2
  rw [impl_LimitedLengths.l2, if_pos (by omega), if_pos (by omega), List.length_map, if_pos (by omega), rd101]
  rfl
theorem tallyR (N c : Nat) (L : List (Int × List Int)) (t : Nat) (ht : t < L.length) (hL : L.length ≤ 1000) (hc : c + (pAt L t).2.length ≤ 1000000000000) (hr : ∀ x ∈ (pAt L t).2, 0 ≤ x ∧ x < (N : Int)) (n : Int) (R : List Int × Bool) (d : Nat) : ∀ (i : Nat) (o : List Int), i + d = (pAt L t).2.length → o.length = N → Bnd o (c + i) →
  Ev (fun k => spec_LimitedLengths.l2 k n (tallyS o ((pAt L t).2.drop i)) (L.map c96) ((t + 1 : Nat) : Int)) R → Ev (fun k => spec_LimitedLengths.l3 k n o (L.map c96) (t : Int) (i : Int)) R := by
 have e0 : (c96 (pAt L t)).f1 = (pAt L t).2 := rfl
 induction d with
 | zero =>
  intro i o h ho hb e
  rw [List.drop_of_length_le (by omega)] at e
  refine Ev.step (fun k => ?_) e
  rw [spec_LimitedLengths.l3, if_pos (by omega), List.length_map, if_pos (by omega), rd96, e0, if_neg (by omega), w64_1 t (by omega)]
  rfl
 | succ d ih =>
  intro i o h ho hb e
  rw [drop_rd _ i (by omega)] at e
  obtain ⟨h1, h2⟩ := hr _ (rd_mem _ i (by omega))
  obtain ⟨x, hx⟩ := Int.eq_ofNat_of_zero_le h1
  rw [hx] at e h2
  rw [tallyS_cons] at e
  have hbx := hb x
  have e2 := ih (i + 1) (o.set x (rd o x + 1)) (by omega) (by rw [List.length_set]; exact ho) (bnd_set hb x (by omega)) e
  refine Ev.step (fun k => ?_) e2
  rw [spec_LimitedLengths.l3, if_pos (by omega), List.length_map, if_pos (by omega), rd96, e0, if_pos (by omega), if_pos (by omega), hx, if_pos (by omega), if_pos (by omega), Int.toNat_natCast, w64_id (x := rd o x + 1) (by omega) (by omega), w64_1 i (by omega)]
theorem pAt_take (L : List (Int × List Int)) (M t : Nat) (h : t < M) : pAt (L.take M) t = pAt L t := by unfold pAt; rw [List.getD_eq_getElem?_getD, List.getD_eq_getElem?_getD, List.getElem?_take_of_lt h]
theorem w64_2n (n : Nat) (h1 : 1 ≤ n) (h : n ≤ 1000000) : wrap64 (wrap64 (2 * (n : Int)) - 2) = ((2 * n - 2 : Nat) : Int) := by
 rw [w64_id (x := 2 * (n : Int)) (by omega) (by omega), w64_id (by omega) (by omega)]
 omega
theorem tallysR (N n : Nat) (L : List (Int × List Int)) (hS : Small N 1000000000000 16384 L) (hL : L.length ≤ 1000) (h1 : 1 ≤ n) (hn : 2 * n - 2 ≤ L.length) (d : Nat) : ∀ (t : Nat) (o : List Int), t + d = 2 * n - 2 → o.length = N → Bnd o (16384 * t) →
  Ev (fun k => spec_LimitedLengths.l2 k (n : Int) o (L.map c96) (t : Int)) (tally o ((L.take (2 * n - 2)).drop t), true) := by
 induction d with
 | zero =>
  intro t o h ho hb
  refine ev_ret (fun k => ?_)
  rw [List.drop_of_length_le (by rw [List.length_take]; omega), spec_LimitedLengths.l2, w64_2n n h1 (by omega), if_neg (by omega)]
  rfl
 | succ d ih =>
  intro t o h ho hb
  have hm := pAt_mem L t (by omega)
  have hn2 := hS.ne _ hm
  have hr := hS.rg _ hm
  have b1 := bnd_tallyS (pAt L t).2 o (16384 * t) hb (fun x hx => by rw [ho]; exact hr x hx)
  have e := ih (t + 1) (tallyS o (pAt L t).2) (by omega) (by rw [tallyS_len]; exact ho) (fun i => by have := b1 i; omega)
  have e2 := tallyR N (16384 * t) L t (by omega) hL (by omega) hr (n : Int) _ (pAt L t).2.length 0 o (by omega) ho hb e
  rw [drop_pAt (L.take (2 * n - 2)) t (by rw [List.length_take]; omega), tally_cons, pAt_take L _ t (by omega)]
  refine Ev.step (fun k => ?_) e2
  rw [spec_LimitedLengths.l2, w64_2n n h1 (by omega), if_pos (by omega)]
  rfl

/-! the levels -/
theorem bnd_zero (n : Nat) : Bnd (List.replicate n 0) 0 := by
 intro i
 rw [rd_nat, List.getD_eq_getElem?_getD, List.getElem?_replicate]
 split <;> simp
/-- What is known of the first list. -/
structure First (N : Nat) (F : List (Int × List Int)) : Prop where
 small : Small N 12000 1 F
 len : F.length ≤ 288
 sorted : SortedP F
theorem first_pos {N : Nat} {F : List (Int × List Int)} (h : First N F) : PosP F := fun p hp => (h.small.wt p hp).1
theorem levelsI (N : Nat) (F : List (Int × List Int)) (hF : First N F) (h2 : 2 ≤ F.length) (L : Nat) (h1 : 1 ≤ L) (hL : L ≤ 15) (hm : F.length ≤ 2 ^ L) (o : List Int) (ho : o.length = N) (hb : Bnd o 0) (d : Nat) : ∀ t : Nat, t + d = L - 1 →
  Ev (fun k => impl_LimitedLengths.l1 k (F.map c101) (F.length : Int) o ((lev F t).map c101) ((L - 1 : Nat) : Int) (t : Int)) (tally o ((lev F (L - 1)).take (2 * F.length - 2)), true) := by
 have hlen := hF.len
 induction d with
 | zero =>
  intro t h
  obtain rfl : t = L - 1 := by omega
  have hl := lev_len (F := F) (L - 1)
  have hg := lev_many (F := F) L hm (L - 1) (by omega)
  rw [show L - (L - 1) = 1 by omega, Nat.pow_one] at hg
  have hS := tally_sub hF.small hF.len hF.sorted (L - 1) (by omega) (2 * F.length - 2)
  have hml : ((lev F (L - 1)).take (2 * F.length - 2)).length = 2 * F.length - 2 := by rw [List.length_take]; omega
  have e := tallysI N _ hS (by omega) ((lev F (L - 1)).take (2 * F.length - 2)).length 0 o (by omega) ho hb
  rw [List.drop_zero] at e
  refine Ev.step (fun k => ?_) e
  rw [impl_LimitedLengths.l1, if_neg (by omega), w64_2n F.length (by omega) (by omega), if_pos (by omega), List.length_map, if_pos (by omega), Option.bind_some, Int.toNat_natCast, ← List.map_take, List.length_map]
  rfl
 | succ d ih =>
  intro t h
  have hl := lev_len (F := F) t
  have hS := lev_small15 hF.small t (by omega)
  obtain ⟨s1, s2⟩ := lev_ok F hF.sorted (first_pos hF) t
  refine ev_use_step (nextCoins_is N _ _ (Int.le_refl _) (by omega) F (lev F t) hS (by omega) (by omega) hF.sorted s1) (fun k hk => ?_) (ih (t + 1) (by omega))
  rw [impl_LimitedLengths.l1, if_pos (by omega), hk, Option.bind_some, w64_1 t (by omega)]
  rfl
theorem levelsR (N : Nat) (F : List (Int × List Int)) (hF : First N F) (h2 : 2 ≤ F.length) (L : Nat) (h1 : 1 ≤ L) (hL : L ≤ 15) (hm : F.length ≤ 2 ^ L) (o : List Int) (ho : o.length = N) (hb : Bnd o 0) (d : Nat) : ∀ t : Nat, t + d = L - 1 →
  Ev (fun k => spec_LimitedLengths.l1 k (L : Int) (F.length : Int) o (F.map c96) ((lev F t).map c96) ((t + 1 : Nat) : Int)) (tally o ((lev F (L - 1)).take (2 * F.length - 2)), true) := by
 have hlen := hF.len
 induction d with
 | zero =>
  intro t h
  obtain rfl : t = L - 1 := by omega
  have hl := lev_len (F := F) (L - 1)
  have hg := lev_many (F := F) L hm (L - 1) (by omega)
  rw [show L - (L - 1) = 1 by omega, Nat.pow_one] at hg
  have hS := lev_small15 hF.small (L - 1) (by omega)
  have e := tallysR N F.length _ hS (by omega) (by omega) (by omega) (2 * F.length - 2) 0 o (by omega) ho hb
  rw [List.drop_zero] at e
  refine Ev.step (fun k => ?_) e
  rw [spec_LimitedLengths.l1, if_neg (by omega)]
  rfl
 | succ d ih =>
  intro t h
  have hl := lev_len (F := F) t
  have hS := lev_small15 hF.small t (by omega)
  refine ev_use_step (nextS_is N _ _ (Int.le_refl _) (by omega) F (lev F t) hS (by omega) (by omega)) (fun k hk => ?_) (ih (t + 1) (by omega))
  rw [spec_LimitedLengths.l1, if_pos (by omega), hk, Option.bind_some, w64_1 (t + 1) (by omega)]
  rfl

/-! the whole of it -/
/-- What LimitedLengths comes to, on both sides. -/
def limited (l : List Int) (n : Int) : List Int × Bool :=
 if (∀ x ∈ l, 0 ≤ x ∧ x ≤ 12000) ∧ l.length ≤ 288 ∧ 1 ≤ n ∧ n ≤ 15 ∧ ((firstP l).length : Int) ≤ 2 ^ n.toNat then
  if (firstP l).length = 1 then ((List.replicate l.length 0).set (rd (pAt (firstP l) 0).2 0).toNat 1, true)
  else if (firstP l).length < 2 then (List.replicate l.length 0, true)
  else (tally (List.replicate l.length 0) ((lev (firstP l) (n.toNat - 1)).take (2 * (firstP l).length - 2)), true)
 else ([], false)
theorem firstP_First (l : List Int) (hl : l.length ≤ 288) (hv : ∀ x ∈ l, 0 ≤ x ∧ x ≤ 12000) : First l.length (firstP l) where
 small := firstP_small l (fun x hx => (hv x hx).2)
 len := Nat.le_trans (firstP_len l) hl
 sorted := isort_sortedP _
theorem firstP_one {l : List Int} (hF : First l.length (firstP l)) (h : 0 < (firstP l).length) : 0 < (pAt (firstP l) 0).2.length ∧ 0 ≤ rd (pAt (firstP l) 0).2 0 ∧ rd (pAt (firstP l) 0).2 0 < (l.length : Int) := by
 have hm := pAt_mem (firstP l) 0 h
 have h1 := hF.small.ne _ hm
 have h2 := hF.small.rg _ hm _ (rd_mem (pAt (firstP l) 0).2 0 h1.1)
 exact ⟨h1.1, h2.1, h2.2⟩
/-- the numbers are looked at, one after the other -/
theorem checkI (l : List Int) (hl : l.length ≤ 1048576) (n : Int) (R : List Int × Bool) (e : Ev (fun k => if (l.length : Int) > 288 then impl_LimitedLengths.j1 k l n true else (impl_within.f n 1 15).bind fun t => impl_LimitedLengths.j1 k l n (!t)) R) (d : Nat) : ∀ j : Nat, j + d = l.length → (∀ i, j ≤ i → i < l.length → 0 ≤ rd l i ∧ rd l i ≤ 12000) →
  Ev (fun k => impl_LimitedLengths.l0 k l n l (l.length : Int) (j : Int)) R := by
 induction d with
 | zero =>
  intro j h _
  refine Ev.step (fun k => ?_) e
  rw [impl_LimitedLengths.l0, if_neg (by omega)]
 | succ d ih =>
  intro j h hg
  refine Ev.step (fun k => ?_) (ih (j + 1) (by omega) (fun i h1 h2 => hg i (by omega) h2))
  rw [impl_LimitedLengths.l0, if_pos (by omega), if_pos (by omega), if_pos (by omega), in_impl, decide_eq_true (hg j (Nat.le_refl _) (by omega)), Option.bind_some, if_pos rfl, w64_1 j (by omega)]
theorem checkI_bad (l : List Int) (hl : l.length ≤ 1048576) (n : Int) (d : Nat) : ∀ j : Nat, j + d = l.length → (∃ i, j ≤ i ∧ i < l.length ∧ ¬ (0 ≤ rd l i ∧ rd l i ≤ 12000)) →
  Ev (fun k => impl_LimitedLengths.l0 k l n l (l.length : Int) (j : Int)) ([], false) := by
 induction d with
 | zero =>
  rintro j h ⟨i, h1, h2, _⟩
  omega
 | succ d ih =>
  rintro j h ⟨i, h1, h2, h3⟩
  by_cases hc : 0 ≤ rd l j ∧ rd l j ≤ 12000
  ·refine Ev.step (fun k => ?_) (ih (j + 1) (by omega) ⟨i, by
    by_cases hij : i = j
    ·subst hij; exact absurd hc h3
    ·omega, h2, h3⟩)
   rw [impl_LimitedLengths.l0, if_pos (by omega), if_pos (by omega), if_pos (by omega), in_impl, decide_eq_true hc, Option.bind_some, if_pos rfl, w64_1 j (by omega)]
  ·refine ev_ret (fun k => ?_)
   rw [impl_LimitedLengths.l0, if_pos (by omega), if_pos (by omega), if_pos (by omega), in_impl, decide_eq_false hc, Option.bind_some, if_neg (by decide)]
theorem shl15 : ∀ m : Fin 16, shl .i64 1 ((m : Nat) : Int) = 2 ^ (m : Nat) := by decide +kernel
theorem power_is (n : Int) (h1 : 1 ≤ n) (h2 : n ≤ 15) : impl_powerOf.f n = some (2 ^ n.toNat) := by
 unfold impl_powerOf.f
 rw [in_impl, decide_eq_true (by omega), Option.bind_some, if_pos rfl, if_pos (by omega)]
 have := shl15 ⟨n.toNat, by omega⟩
 rw [show (((⟨n.toNat, by omega⟩ : Fin 16) : Nat) : Int) = n by show ((n.toNat : Nat) : Int) = n; omega] at this
 rw [this]
theorem limI (l : List Int) (hl : l.length ≤ 1048576) (n : Int) : Ev (fun k => impl_LimitedLengths.f k l n) (limited l n) := by
 have start : Ev (fun k => impl_LimitedLengths.l0 k l n l (l.length : Int) ((0 : Nat) : Int)) (limited l n) → Ev (fun k => impl_LimitedLengths.f k l n) (limited l n) := fun e => e
 apply start
 have bad : Ev (fun k => impl_LimitedLengths.j1 k l n true) ([], false) := ev_ret (fun k => by rw [impl_LimitedLengths.j1, if_pos rfl])
 by_cases hv : ∀ x ∈ l, 0 ≤ x ∧ x ≤ 12000
 ·refine checkI l hl n _ ?_ l.length 0 (by omega) (fun i _ h => hv _ (rd_mem l i h))
  by_cases hlen : l.length ≤ 288
  ·by_cases hn : 1 ≤ n ∧ n ≤ 15
   ·refine Ev.congr (fun k => by rw [if_neg (by omega), in_impl, decide_eq_true hn, Option.bind_some]) ?_
    have hF := firstP_First l hlen hv
    have hp := power_is n hn.1 hn.2
    refine ev_use_step (coinsOf_is l hlen) (fun k hk => by rw [impl_LimitedLengths.j1, if_neg (by decide), hk, Option.bind_some, hp, Option.bind_some, List.length_map]) ?_
    by_cases hc : ((firstP l).length : Int) ≤ 2 ^ n.toNat
    ·have hlim : limited l n = if (firstP l).length = 1 then ((List.replicate l.length 0).set (rd (pAt (firstP l) 0).2 0).toNat 1, true) else if (firstP l).length < 2 then (List.replicate l.length 0, true) else (tally (List.replicate l.length 0) ((lev (firstP l) (n.toNat - 1)).take (2 * (firstP l).length - 2)), true) := by
      unfold limited
      rw [if_pos ⟨hv, hlen, hn.1, hn.2, hc⟩]
     rw [hlim]
     refine Ev.congr (fun k => by rw [if_neg (by omega), if_pos (by omega), if_pos (by omega), Option.bind_some, Int.toNat_natCast]) ?_
     by_cases h1 : (firstP l).length = 1
     ·rw [if_pos h1]
      obtain ⟨g1, g2, g3⟩ := firstP_one hF (by omega)
      have e0 : (c101 (pAt (firstP l) 0)).f1 = (pAt (firstP l) 0).2 := rfl
      have e1 : rd_T101 ((firstP l).map c101) 0 = c101 (pAt (firstP l) 0) := rd101 (firstP l) 0
      refine Ev.congr (fun k => by rw [if_pos (by omega), if_pos (by omega), e1, e0, if_pos (by omega), if_pos g2, List.length_replicate, if_pos g3]) ?_
      refine ev_ret (fun k => ?_)
      rw [impl_LimitedLengths.j2, if_pos (by omega)]
     ·rw [if_neg h1]
      refine Ev.congr (fun k => by rw [if_neg (by omega)]) ?_
      by_cases h2 : (firstP l).length < 2
      ·rw [if_pos h2]
       refine ev_ret (fun k => ?_)
       rw [impl_LimitedLengths.j2, if_pos (by omega)]
      ·rw [if_neg h2]
       have hnn : ((n.toNat : Nat) : Int) = n := by omega
       have hm : (firstP l).length ≤ 2 ^ n.toNat := by exact_mod_cast hc
       have e := levelsI l.length (firstP l) hF (by omega) n.toNat (by omega) (by omega) hm (List.replicate l.length 0) (by simp) (bnd_zero _) (n.toNat - 1) 0 (by omega)
       refine Ev.step (fun k => ?_) e
       rw [impl_LimitedLengths.j2, if_neg (by omega), w64_id (x := n - 1) (by omega) (by omega), show n - 1 = ((n.toNat - 1 : Nat) : Int) by omega]
       rfl
    ·have hlim : limited l n = ([], false) := by
      unfold limited
      rw [if_neg (fun h => hc h.2.2.2.2)]
     rw [hlim]
     exact ev_ret (fun k => by rw [if_pos (by omega)])
   ·have hlim : limited l n = ([], false) := by
     unfold limited
     rw [if_neg (fun h => hn ⟨h.2.2.1, h.2.2.2.1⟩)]
    rw [hlim]
    exact Ev.congr (fun k => by rw [if_neg (by omega), in_impl, decide_eq_false hn, Option.bind_some]; rfl) bad
  ·have hlim : limited l n = ([], false) := by
    unfold limited
    rw [if_neg (fun h => hlen h.2.1)]
   rw [hlim]
   exact Ev.congr (fun k => by rw [if_pos (by omega)]) bad
 ·have hlim : limited l n = ([], false) := by
   unfold limited
   rw [if_neg (fun h => hv h.1)]
  rw [hlim]
  refine checkI_bad l hl n l.length 0 (by omega) ?_
  refine Classical.byContradiction (fun hno => hv (fun x hx => ?_))
  obtain ⟨i, hi, rfl⟩ := List.getElem_of_mem hx
  refine Classical.byContradiction (fun h3 => hno ⟨i, Nat.zero_le _, hi, ?_⟩)
  rw [rd_getElem l i hi]
  exact h3

/-! .. and the reference's -/
theorem falseR (l : List Int) (n c : Int) (j : Int) : Ev (fun k => spec_LimitedLengths.l0 k l n false c j) ([], false) := by
 have e3 : Ev (fun k => spec_LimitedLengths.j3 k l n c true) ([], false) := ev_ret (fun k => by rw [spec_LimitedLengths.j3, if_pos rfl])
 have e2 : Ev (fun k => spec_LimitedLengths.j2 k l n false c j false) ([], false) := Ev.step (fun k => by rw [spec_LimitedLengths.j2, if_neg (by decide), if_neg (by decide)]) e3
 refine Ev.step (fun k => ?_) e2
 rw [spec_LimitedLengths.l0]
 split <;> rfl
theorem checkR (l : List Int) (hl : l.length ≤ 288) (n : Int) (R : List Int × Bool) (e : ∀ j : Int, Ev (fun k => spec_LimitedLengths.j2 k l n true ((firstP l).length : Int) j false) R) (d : Nat) : ∀ (j c : Nat), j + d = l.length → c + (rawC j (l.drop j)).length = (firstP l).length → (∀ i, j ≤ i → i < l.length → 0 ≤ rd l i ∧ rd l i ≤ 12000) →
  Ev (fun k => spec_LimitedLengths.l0 k l n true (c : Int) (j : Int)) R := by
 induction d with
 | zero =>
  intro j c h hc _
  rw [List.drop_of_length_le (by omega)] at hc
  have hc2 : c = (firstP l).length := hc
  subst hc2
  refine Ev.step (fun k => ?_) (e (j : Int))
  rw [spec_LimitedLengths.l0, if_neg (by omega)]
 | succ d ih =>
  intro j c h hc hg
  have hr := hg j (Nat.le_refl _) (by omega)
  have hl2 := firstP_len l
  rw [drop_rd l j (by omega), rawC] at hc
  have e2 : Ev (fun k => spec_LimitedLengths.j2 k l n true (c : Int) (j : Int) true) R := by
   by_cases h0 : 0 < rd l j
   ·rw [if_pos h0, List.length_cons] at hc
    refine Ev.step (fun k => ?_) (ih (j + 1) (c + 1) (by omega) (by omega) (fun i h1 h2 => hg i (by omega) h2))
    rw [spec_LimitedLengths.j2, if_pos rfl, if_pos (by omega), if_pos (by omega), in_spec, decide_eq_true hr, Option.bind_some, if_pos h0, w64_1 j (by omega), w64_1 c (by omega)]
   ·rw [if_neg h0] at hc
    refine Ev.step (fun k => ?_) (ih (j + 1) c (by omega) hc (fun i h1 h2 => hg i (by omega) h2))
    rw [spec_LimitedLengths.j2, if_pos rfl, if_pos (by omega), if_pos (by omega), in_spec, decide_eq_true hr, Option.bind_some, if_neg h0, w64_1 j (by omega)]
  refine Ev.step (fun k => ?_) e2
  rw [spec_LimitedLengths.l0, if_pos (by omega)]
theorem checkR_bad (l : List Int) (hl : l.length ≤ 288) (n : Int) (d : Nat) : ∀ (j c : Nat), j + d = l.length → c ≤ j → (∃ i, j ≤ i ∧ i < l.length ∧ ¬ (0 ≤ rd l i ∧ rd l i ≤ 12000)) →
  Ev (fun k => spec_LimitedLengths.l0 k l n true (c : Int) (j : Int)) ([], false) := by
 induction d with
 | zero =>
  rintro j c h _ ⟨i, h1, h2, _⟩
  omega
 | succ d ih =>
  rintro j c h hcj ⟨i, h1, h2, h3⟩
  have e2 : Ev (fun k => spec_LimitedLengths.j2 k l n true (c : Int) (j : Int) true) ([], false) := by
   by_cases hc : 0 ≤ rd l j ∧ rd l j ≤ 12000
   ·have hex : ∃ i, j + 1 ≤ i ∧ i < l.length ∧ ¬ (0 ≤ rd l i ∧ rd l i ≤ 12000) := ⟨i, by
     by_cases hij : i = j
     ·subst hij; exact absurd hc h3
     ·omega, h2, h3⟩
    by_cases h0 : 0 < rd l j
    ·refine Ev.step (fun k => ?_) (ih (j + 1) (c + 1) (by omega) (by omega) hex)
     rw [spec_LimitedLengths.j2, if_pos rfl, if_pos (by omega), if_pos (by omega), in_spec, decide_eq_true hc, Option.bind_some, if_pos h0, w64_1 j (by omega), w64_1 c (by omega)]
    ·refine Ev.step (fun k => ?_) (ih (j + 1) c (by omega) (by omega) hex)
     rw [spec_LimitedLengths.j2, if_pos rfl, if_pos (by omega), if_pos (by omega), in_spec, decide_eq_true hc, Option.bind_some, if_neg h0, w64_1 j (by omega)]
   ·by_cases h0 : 0 < rd l j
    ·refine Ev.step (fun k => ?_) (falseR l n (wrap64 ((c : Int) + 1)) (wrap64 ((j : Int) + 1)))
     rw [spec_LimitedLengths.j2, if_pos rfl, if_pos (by omega), if_pos (by omega), in_spec, decide_eq_false hc, Option.bind_some, if_pos h0]
    ·refine Ev.step (fun k => ?_) (falseR l n (c : Int) (wrap64 ((j : Int) + 1)))
     rw [spec_LimitedLengths.j2, if_pos rfl, if_pos (by omega), if_pos (by omega), in_spec, decide_eq_false hc, Option.bind_some, if_neg h0]
  refine Ev.step (fun k => ?_) e2
  rw [spec_LimitedLengths.l0, if_pos (by omega)]
theorem limR (l : List Int) (hl : l.length ≤ 1048576) (n : Int) : Ev (fun k => spec_LimitedLengths.f k l n) (limited l n) := by
 have j0F : Ev (fun k => spec_LimitedLengths.j0 k l n false) ([], false) := Ev.step (fun k => by rw [spec_LimitedLengths.j0]) (falseR l n 0 0)
 by_cases hlen : l.length ≤ 288
 ·refine Ev.congr (fun k => by unfold spec_LimitedLengths.f; rw [if_pos (by omega), in_spec, Option.bind_some]) ?_
  by_cases hn : 1 ≤ n ∧ n ≤ 15
  ·rw [decide_eq_true hn]
   have start : Ev (fun k => spec_LimitedLengths.l0 k l n true ((0 : Nat) : Int) ((0 : Nat) : Int)) (limited l n) → Ev (fun k => spec_LimitedLengths.j0 k l n true) (limited l n) := fun e => Ev.step (fun k => by rw [spec_LimitedLengths.j0]; rfl) e
   apply start
   by_cases hv : ∀ x ∈ l, 0 ≤ x ∧ x ≤ 12000
   ·have hF := firstP_First l hlen hv
    refine checkR l hlen n _ (fun j => ?_) l.length 0 0 (by omega) (by rw [List.drop_zero]; unfold firstP; rw [(isort_perm _ _).length_eq]; omega) (fun i _ h => hv _ (rd_mem l i h))
    refine ev_use_step (pow_at n (by omega) (by omega)) (fun k hk => by rw [spec_LimitedLengths.j2, if_neg (by decide), if_pos rfl, hk, Option.bind_some]) ?_
    by_cases hc : ((firstP l).length : Int) ≤ 2 ^ n.toNat
    ·have hlim : limited l n = if (firstP l).length = 1 then ((List.replicate l.length 0).set (rd (pAt (firstP l) 0).2 0).toNat 1, true) else if (firstP l).length < 2 then (List.replicate l.length 0, true) else (tally (List.replicate l.length 0) ((lev (firstP l) (n.toNat - 1)).take (2 * (firstP l).length - 2)), true) := by
      unfold limited
      rw [if_pos ⟨hv, hlen, hn.1, hn.2, hc⟩]
     rw [hlim, decide_eq_false (show ¬ ((firstP l).length : Int) > 2 ^ n.toNat by omega)]
     refine ev_use_step (firstS_is l hlen (fun j hj => (hv _ (rd_mem l j hj)).1)) (fun k hk => by rw [spec_LimitedLengths.j3, if_neg (by decide), if_pos (by omega), if_pos (by omega), Option.bind_some, Int.toNat_natCast, hk, Option.bind_some]) ?_
     by_cases h1 : (firstP l).length = 1
     ·rw [if_pos h1]
      obtain ⟨g1, g2, g3⟩ := firstP_one hF (by omega)
      have e0 : (c96 (pAt (firstP l) 0)).f1 = (pAt (firstP l) 0).2 := rfl
      have e1 : rd_T96 ((firstP l).map c96) 0 = c96 (pAt (firstP l) 0) := rd96 (firstP l) 0
      refine Ev.congr (fun k => by rw [if_pos (by omega), List.length_map, if_pos (by omega), e1, e0, if_pos (by omega), if_pos g2, List.length_replicate, if_pos g3]) ?_
      refine ev_ret (fun k => ?_)
      rw [spec_LimitedLengths.j4, if_pos (by omega)]
     ·rw [if_neg h1]
      refine Ev.congr (fun k => by rw [if_neg (by omega)]) ?_
      by_cases h2 : (firstP l).length < 2
      ·rw [if_pos h2]
       refine ev_ret (fun k => ?_)
       rw [spec_LimitedLengths.j4, if_pos (by omega)]
      ·rw [if_neg h2]
       have hnn : ((n.toNat : Nat) : Int) = n := by omega
       have hm : (firstP l).length ≤ 2 ^ n.toNat := by exact_mod_cast hc
       have e := levelsR l.length (firstP l) hF (by omega) n.toNat (by omega) (by omega) hm (List.replicate l.length 0) (by simp) (bnd_zero _) (n.toNat - 1) 0 (by omega)
       rw [hnn] at e
       refine Ev.step (fun k => ?_) e
       rw [spec_LimitedLengths.j4, if_neg (by omega)]
       rfl
    ·have hlim : limited l n = ([], false) := by
      unfold limited
      rw [if_neg (fun h => hc h.2.2.2.2)]
     rw [hlim, decide_eq_true (show ((firstP l).length : Int) > 2 ^ n.toNat by omega)]
     exact ev_ret (fun k => by rw [spec_LimitedLengths.j3, if_pos rfl])
   ·have hlim : limited l n = ([], false) := by
     unfold limited
     rw [if_neg (fun h => hv h.1)]
    rw [hlim]
    refine checkR_bad l hlen n l.length 0 0 (by omega) (Nat.le_refl _) ?_
    refine Classical.byContradiction (fun hno => hv (fun x hx => ?_))
    obtain ⟨i, hi, rfl⟩ := List.getElem_of_mem hx
    refine Classical.byContradiction (fun h3 => hno ⟨i, Nat.zero_le _, hi, ?_⟩)
    rw [rd_getElem l i hi]
    exact h3
  ·have hlim : limited l n = ([], false) := by
    unfold limited
    rw [if_neg (fun h => hn ⟨h.2.2.1, h.2.2.2.1⟩)]
   rw [hlim, decide_eq_false hn]
   exact j0F
 ·have hlim : limited l n = ([], false) := by
   unfold limited
   rw [if_neg (fun h => hlen h.2.1)]
  rw [hlim]
  exact Ev.congr (fun k => by unfold spec_LimitedLengths.f; rw [if_neg (by omega)]) j0F

/-! What the first items of a level are made of: of each level below so many leaves, ever fewer the lower it is. -/
def flatP (l : List (Int × List Int)) : List Int := l.flatMap (·.2)
theorem flatP_append (A B : List (Int × List Int)) : flatP (A ++ B) = flatP A ++ flatP B := List.flatMap_append
theorem flatP_perm {A B : List (Int × List Int)} (h : A.Perm B) : (flatP A).Perm (flatP B) := h.flatMap_right _
theorem wsum_perm {A B : List (Int × List Int)} (h : A.Perm B) : wsum A = wsum B := by
 induction h with
 | nil => rfl
 | cons x _ ih => rw [wsum, wsum, ih]
 | swap x y l => rw [wsum, wsum, wsum, wsum]; omega
 | trans _ _ h1 h2 => exact h1.trans h2
theorem merge_part : ∀ (A B : List (Int × List Int)), SortedP A → ∀ j, j ≤ A.length + B.length → ∃ a b, a + b = j ∧ a ≤ A.length ∧ b ≤ B.length ∧ ((mergeP A B).take j).Perm (A.take a ++ B.take b) ∧ ∀ x ∈ A.drop a, ∀ y ∈ B.take b, y.1 < x.1
 | [], B, _, j, hj => ⟨0, j, by omega, Nat.zero_le _, by simpa using hj, by rw [mergeP]; exact List.Perm.refl _, fun x hx => by simp at hx⟩
 | x :: A, [], _, j, hj => ⟨j, 0, by omega, by simpa using hj, Nat.zero_le _, by rw [mergeP]; simp, fun x _ y hy => by simp at hy⟩
 | x :: A, y :: B, hA, 0, _ => ⟨0, 0, rfl, Nat.zero_le _, Nat.zero_le _, by simp, fun x _ y hy => by simp at hy⟩
 | x :: A, y :: B, hA, j + 1, hj => by
  obtain ⟨a1, a2⟩ := List.pairwise_cons.1 hA
  rw [mergeP]
  split
  ·rename_i hc
   obtain ⟨a, b, h1, h2, h3, h4, h5⟩ := merge_part A (y :: B) a2 j (by simp at hj ⊢; omega)
   refine ⟨a + 1, b, by omega, by simpa using h2, h3, ?_, fun z hz => h5 z (by simpa using hz)⟩
   rw [List.take_succ_cons, List.take_succ_cons, List.cons_append]
   exact h4.cons x
  ·rename_i hc
   obtain ⟨a, b, h1, h2, h3, h4, h5⟩ := merge_part (x :: A) B hA j (by simp at hj ⊢; omega)
   refine ⟨a, b + 1, by omega, h2, by simpa using h3, ?_, fun z hz w hw => ?_⟩
   ·rw [List.take_succ_cons, List.take_succ_cons]
    exact (h4.cons y).trans List.perm_middle.symm
   ·rw [List.take_succ_cons] at hw
    rcases List.mem_cons.1 hw with rfl | hw
    ·have hz2 := List.mem_of_mem_drop hz
     rcases List.mem_cons.1 hz2 with rfl | hz2
     ·omega
     ·have := a1 z hz2; omega
    ·exact h5 z hz w hw
termination_by A B => A.length + B.length
theorem flat_pair : ∀ (l : List (Int × List Int)), l.length % 2 = 0 → flatP (pairP l) = flatP l
 | [], _ => by rw [pairP]; intro a b r h; cases h
 | [a], h => by simp at h
 | a :: b :: r, h => by
  have ih := flat_pair r (by simp at h; omega)
  rw [pairP]
  show (a.2 ++ b.2) ++ flatP (pairP r) = a.2 ++ (b.2 ++ flatP r)
  rw [ih, List.append_assoc]
theorem pair_cover : ∀ (l : List (Int × List Int)), l.length % 2 = 0 → PosP l → ∀ x ∈ l, ∃ y ∈ pairP l, x.1 < y.1
 | [], _, _, x, hx => by cases hx
 | [a], h, _, _, _ => by simp at h
 | a :: b :: r, h, hp, x, hx => by
  have ha := hp a (by simp)
  have hb := hp b (by simp)
  rw [pairP]
  rcases List.mem_cons.1 hx with rfl | hx
  ·exact ⟨_, List.mem_cons_self, by show x.1 < x.1 + b.1; omega⟩
  ·rcases List.mem_cons.1 hx with rfl | hx
   ·exact ⟨_, List.mem_cons_self, by show x.1 < a.1 + x.1; omega⟩
   ·obtain ⟨y, hy, hl⟩ := pair_cover r (by simp at h; omega) (fun z hz => hp z (by simp [hz])) x hx
    exact ⟨y, List.mem_cons_of_mem _ hy, hl⟩
def wid (az : Nat → Nat) : Nat → Nat
 | 0 => az 0
 | k + 1 => wid az k + az (k + 1) * 2 ^ (k + 1)
def occs (F : List (Int × List Int)) (az : Nat → Nat) (s : Int) : Nat → Nat
 | 0 => (flatP (F.take (az 0))).count s
 | k + 1 => occs F az s k + (flatP (F.take (az (k + 1)))).count s
def wsums (F : List (Int × List Int)) (az : Nat → Nat) : Nat → Int
 | 0 => wsum (F.take (az 0))
 | k + 1 => wsums F az k + wsum (F.take (az (k + 1)))
theorem wid_congr {az bs : Nat → Nat} : ∀ k, (∀ t, t ≤ k → az t = bs t) → wid az k = wid bs k
 | 0, h => h 0 (Nat.le_refl _)
 | k + 1, h => by rw [wid, wid, wid_congr k (fun t ht => h t (by omega)), h (k + 1) (Nat.le_refl _)]
theorem occs_congr {F : List (Int × List Int)} {az bs : Nat → Nat} {s : Int} : ∀ k, (∀ t, t ≤ k → az t = bs t) → occs F az s k = occs F bs s k
 | 0, h => by rw [occs, occs, h 0 (Nat.le_refl _)]
 | k + 1, h => by rw [occs, occs, occs_congr k (fun t ht => h t (by omega)), h (k + 1) (Nat.le_refl _)]
theorem wsums_congr {F : List (Int × List Int)} {az bs : Nat → Nat} : ∀ k, (∀ t, t ≤ k → az t = bs t) → wsums F az k = wsums F bs k
 | 0, h => by rw [wsums, wsums, h 0 (Nat.le_refl _)]
 | k + 1, h => by rw [wsums, wsums, wsums_congr k (fun t ht => h t (by omega)), h (k + 1) (Nat.le_refl _)]
/-- How the first j of a level are made up. -/
structure Prof (F : List (Int × List Int)) (k j : Nat) (az : Nat → Nat) : Prop where
 le : ∀ t, t ≤ k → az t ≤ F.length
 up : ∀ t, t < k → az t ≤ az (t + 1)
 wid : wid az k = j * 2 ^ k
 occ : ∀ s, (flatP ((lev F k).take j)).count s = occs F az s k
 sum : wsum ((lev F k).take j) = wsums F az k
 sub : ∀ x ∈ F.take (az k), x ∈ (lev F k).take j
theorem profile (F : List (Int × List Int)) (hs : SortedP F) (hp : PosP F) : ∀ k j, j ≤ (lev F k).length → ∃ az, Prof F k j az
 | 0, j, hj => ⟨fun _ => j, fun _ _ => hj, fun _ h => by omega, by simp [wid], fun s => rfl, rfl, fun x hx => hx⟩
 | k + 1, j, hj => by
  have hl : (lev F (k + 1)).length = F.length + (lev F k).length / 2 := by rw [lev, merge_len, pair_len]
  obtain ⟨s1, s2⟩ := lev_ok F hs hp k
  obtain ⟨a, b, h1, h2, h3, h4, h5⟩ := merge_part F (pairP (lev F k)) hs j (by rw [pair_len]; omega)
  rw [pair_len] at h3
  obtain ⟨az, P⟩ := profile F hs hp k (2 * b) (by omega)
  obtain ⟨q1, q2⟩ := pair_take (lev F k) b (by omega)
  have hev : ((lev F k).take (2 * b)).length % 2 = 0 := by rw [List.length_take]; omega
  have hmono : az k ≤ a := by
   refine Classical.byContradiction fun hn => ?_
   have hle := P.le k (Nat.le_refl _)
   have hx : F[a]'(by omega) ∈ F.take (az k) := by
    rw [List.mem_take_iff_getElem]
    exact ⟨a, by omega, rfl⟩
   obtain ⟨y, hy, hlt⟩ := pair_cover _ hev (fun z hz => s2 z (List.mem_of_mem_take hz)) _ (P.sub _ hx)
   rw [← q1] at hy
   have hd : F[a]'(by omega) ∈ F.drop a := by
    rw [List.drop_eq_getElem_cons (by omega)]
    exact List.mem_cons_self
   have := h5 _ hd y hy
   omega
  obtain ⟨bs, hbs⟩ : ∃ bs : Nat → Nat, bs = fun t => if t ≤ k then az t else a := ⟨_, rfl⟩
  have hcong : ∀ t, t ≤ k → bs t = az t := fun t ht => by rw [hbs]; exact if_pos ht
  have htop : bs (k + 1) = a := by rw [hbs]; exact if_neg (by omega)
  have e : lev F (k + 1) = mergeP F (pairP (lev F k)) := rfl
  refine ⟨bs, fun t ht => ?_, fun t ht => ?_, ?_, fun s => ?_, ?_, fun x hx => ?_⟩
  ·by_cases htk : t ≤ k
   ·rw [hcong t htk]; exact P.le t htk
   ·rw [show t = k + 1 by omega, htop]; exact h2
  ·by_cases htk : t < k
   ·rw [hcong t (by omega), hcong (t + 1) htk]; exact P.up t htk
   ·obtain rfl : t = k := by omega
    rw [hcong t (Nat.le_refl _), htop]
    exact hmono
  ·rw [wid, wid_congr k hcong, htop, P.wid, ← h1, Nat.add_mul, Nat.pow_succ, Nat.mul_comm 2 b, Nat.mul_assoc, Nat.mul_comm 2]
   omega
  ·rw [occs, occs_congr k hcong, htop, e, (flatP_perm h4).count_eq, flatP_append, List.count_append, q1, flat_pair _ hev, P.occ s]
   omega
  ·rw [wsums, wsums_congr k hcong, htop, e, wsum_perm h4, wsum_append, q2, P.sum]
   omega
  ·rw [htop] at hx
   rw [e]
   exact h4.mem_iff.2 (List.mem_append_left _ hx)

/-! by places -/
/-- In how many of the levels the place is taken. -/
def lenAt (az : Nat → Nat) (i : Nat) : Nat → Nat
 | 0 => if i < az 0 then 1 else 0
 | k + 1 => lenAt az i k + if i < az (k + 1) then 1 else 0
def widAt (az : Nat → Nat) (i : Nat) : Nat → Nat
 | 0 => if i < az 0 then 1 else 0
 | k + 1 => widAt az i k + if i < az (k + 1) then 2 ^ (k + 1) else 0
def sumTo (f : Nat → Nat) : Nat → Nat
 | 0 => 0
 | n + 1 => sumTo f n + f n
def sumToI (f : Nat → Int) : Nat → Int
 | 0 => 0
 | n + 1 => sumToI f n + f n
theorem lenAt_le (az : Nat → Nat) (i : Nat) : ∀ k, lenAt az i k ≤ k + 1
 | 0 => by rw [lenAt]; split <;> omega
 | k + 1 => by
  have := lenAt_le az i k
  rw [lenAt]; split <;> omega
theorem lenAt_zero (az : Nat → Nat) (i : Nat) : ∀ k, (∀ t, t ≤ k → az t ≤ i) → lenAt az i k = 0 ∧ widAt az i k = 0
 | 0, h => by have := h 0 (Nat.le_refl _); rw [lenAt, widAt, if_neg (by omega)]; exact ⟨rfl, rfl⟩
 | k + 1, h => by
  obtain ⟨h1, h2⟩ := lenAt_zero az i k (fun t ht => h t (by omega))
  have := h (k + 1) (Nat.le_refl _)
  rw [lenAt, widAt, h1, h2, if_neg (by omega), if_neg (by omega)]
  exact ⟨rfl, rfl⟩
theorem up_le {az : Nat → Nat} {k : Nat} (h : ∀ t, t < k → az t ≤ az (t + 1)) (d : Nat) : ∀ t, t + d = k → az t ≤ az k := by
 induction d with
 | zero => intro t ht; rw [show t = k by omega]; exact Nat.le_refl _
 | succ d ih => intro t ht; exact Nat.le_trans (h t (by omega)) (ih (t + 1) (by omega))
theorem widAt_is (az : Nat → Nat) (i : Nat) : ∀ k, (∀ t, t < k → az t ≤ az (t + 1)) → widAt az i k + 2 ^ (k + 1 - lenAt az i k) = 2 ^ (k + 1)
 | 0, _ => by
  rw [widAt, lenAt]
  split <;> simp
 | k + 1, h => by
  have ih := widAt_is az i k (fun t ht => h t (by omega))
  have hle := lenAt_le az i k
  by_cases hc : i < az (k + 1)
  ·rw [widAt, lenAt, if_pos hc, if_pos hc, show k + 1 + 1 - (lenAt az i k + 1) = k + 1 - lenAt az i k by omega, Nat.pow_succ 2 (k + 1)]
   omega
  ·obtain ⟨z1, z2⟩ := lenAt_zero az i k (fun t ht => by have := up_le (k := k + 1) h (k + 1 - t) t (by omega); omega)
   rw [widAt, lenAt, if_neg hc, if_neg hc, z1, z2]
   simp
theorem sumTo_lt (c a : Nat) : ∀ n, a ≤ n → sumTo (fun i => if i < a then c else 0) n = a * c
 | 0, h => by rw [show a = 0 by omega]; simp [sumTo]
 | n + 1, h => by
  rw [sumTo]
  by_cases hc : a ≤ n
  ·rw [sumTo_lt c a n hc, if_neg (by omega)]; rfl
  ·obtain rfl : a = n + 1 := by omega
   have e : sumTo (fun i => if i < n + 1 then c else 0) n = n * c := by
    have key : ∀ m, m ≤ n + 1 → sumTo (fun i => if i < n + 1 then c else 0) m = m * c := by
     intro m
     induction m with
     | zero => intro _; simp [sumTo]
     | succ m ih => intro hm; rw [sumTo, ih (by omega), if_pos (by omega), Nat.add_mul]; omega
    exact key n (by omega)
   rw [e, if_pos (by omega), Nat.add_mul]
   omega
theorem sumTo_add (f g : Nat → Nat) : ∀ n, sumTo (fun i => f i + g i) n = sumTo f n + sumTo g n
 | 0 => rfl
 | n + 1 => by rw [sumTo, sumTo, sumTo, sumTo_add f g n]; omega
theorem sumTo_congr {f g : Nat → Nat} : ∀ n, (∀ i, i < n → f i = g i) → sumTo f n = sumTo g n
 | 0, _ => rfl
 | n + 1, h => by rw [sumTo, sumTo, sumTo_congr n (fun i hi => h i (by omega)), h n (by omega)]
theorem widAt_sum (az : Nat → Nat) (n : Nat) : ∀ k, (∀ t, t ≤ k → az t ≤ n) → sumTo (fun i => widAt az i k) n = wid az k
 | 0, h => by
  have := sumTo_lt 1 (az 0) n (h 0 (Nat.le_refl _))
  rw [Nat.mul_one] at this
  exact this
 | k + 1, h => by
  have ih := widAt_sum az n k (fun t ht => h t (by omega))
  have h2 := sumTo_lt (2 ^ (k + 1)) (az (k + 1)) n (h (k + 1) (Nat.le_refl _))
  rw [wid, ← ih, ← h2, ← sumTo_add]
  rfl
/-- THE CODE IS WHOLE: n symbols of 2 n - 2 items at the top of k + 1 levels. -/
theorem whole_at {F : List (Int × List Int)} {k : Nat} {az : Nat → Nat} (h2 : 2 ≤ F.length) (P : Prof F k (2 * F.length - 2) az) :
  sumTo (fun i => 2 ^ (k + 1 - lenAt az i k)) F.length = 2 ^ (k + 1) ∧ ∀ i, i < F.length → 1 ≤ lenAt az i k := by
 have e1 := widAt_sum az F.length k P.le
 have e2 : sumTo (fun i => widAt az i k + 2 ^ (k + 1 - lenAt az i k)) F.length = F.length * 2 ^ (k + 1) := by
  rw [sumTo_congr F.length (fun i _ => widAt_is az i k P.up)]
  have := sumTo_lt (2 ^ (k + 1)) F.length F.length (Nat.le_refl _)
  rw [← this]
  exact sumTo_congr _ (fun i hi => (if_pos hi).symm)
 rw [sumTo_add, e1, P.wid] at e2
 have e3 : (2 * F.length - 2) * 2 ^ k = (F.length - 1) * 2 ^ (k + 1) := by rw [show 2 * F.length - 2 = (F.length - 1) * 2 by omega, Nat.mul_assoc, Nat.pow_succ, Nat.mul_comm (2 ^ k)]
 have e4 : F.length * 2 ^ (k + 1) = (F.length - 1) * 2 ^ (k + 1) + 2 ^ (k + 1) := by
  have : F.length = (F.length - 1) + 1 := by omega
  rw [this, Nat.add_mul]
  simp
 have e5 : sumTo (fun i => 2 ^ (k + 1 - lenAt az i k)) F.length = 2 ^ (k + 1) := by omega
 refine ⟨e5, fun i hi => ?_⟩
 refine Classical.byContradiction fun hn => ?_
 have z : lenAt az i k = 0 := by omega
 have key : ∀ n, i < n → 2 ^ (k + 1) + (n - 1) ≤ sumTo (fun i => 2 ^ (k + 1 - lenAt az i k)) n := by
  intro n
  induction n with
  | zero => intro h; omega
  | succ n ih =>
   intro h
   have hp : 0 < 2 ^ (k + 1 - lenAt az n k) := Nat.pos_of_ne_zero (by simp)
   rw [sumTo]
   by_cases hin : i = n
   ·subst hin
    rw [z]
    have low : ∀ m, m ≤ sumTo (fun i => 2 ^ (k + 1 - lenAt az i k)) m := by
     intro m
     induction m with
     | zero => exact Nat.le_refl _
     | succ m ihm =>
      have hp : 0 < 2 ^ (k + 1 - lenAt az m k) := Nat.pos_of_ne_zero (by simp)
      rw [sumTo]
      omega
    have := low i
    rw [Nat.sub_zero]
    omega
   ·have := ih (by omega)
    omega
 have := key F.length hi
 omega
theorem wsum_sum (F : List (Int × List Int)) : ∀ n, n ≤ F.length → wsum (F.take n) = sumToI (fun i => (F.getD i (0, [])).1) n
 | 0, _ => by simp [wsum, sumToI]
 | n + 1, h => by
  rw [wsum_take_succ F n h, wsum_sum F n (by omega), sumToI, List.getD_eq_getElem?_getD, List.getElem?_eq_getElem h]
  rfl
theorem sumToI_add (f g : Nat → Int) : ∀ n, sumToI (fun i => f i + g i) n = sumToI f n + sumToI g n
 | 0 => rfl
 | n + 1 => by rw [sumToI, sumToI, sumToI, sumToI_add f g n]; omega
theorem sumToI_congr {f g : Nat → Int} : ∀ n, (∀ i, i < n → f i = g i) → sumToI f n = sumToI g n
 | 0, _ => rfl
 | n + 1, h => by rw [sumToI, sumToI, sumToI_congr n (fun i hi => h i (by omega)), h n (by omega)]
theorem sumToI_part (f : Nat → Int) (a : Nat) : ∀ n, a ≤ n → sumToI f a = sumToI (fun i => f i * ((if i < a then 1 else 0 : Nat) : Int)) n
 | 0, h => by rw [show a = 0 by omega]; rfl
 | n + 1, h => by
  by_cases hc : a ≤ n
  ·rw [sumToI, ← sumToI_part f a n hc, if_neg (by omega)]
   simp
  ·obtain rfl : a = n + 1 := by omega
   exact sumToI_congr _ (fun i hi => by rw [if_pos hi]; simp)
theorem wsums_sum (F : List (Int × List Int)) (az : Nat → Nat) : ∀ k, (∀ t, t ≤ k → az t ≤ F.length) → wsums F az k = sumToI (fun i => (F.getD i (0, [])).1 * (lenAt az i k : Nat)) F.length
 | 0, h => by
  have h0 := h 0 (Nat.le_refl _)
  rw [wsums, wsum_sum F _ h0, sumToI_part _ _ F.length h0]
  rfl
 | k + 1, h => by
  have h0 := h (k + 1) (Nat.le_refl _)
  rw [wsums, wsums_sum F az k (fun t ht => h t (by omega)), wsum_sum F _ h0, sumToI_part _ _ F.length h0, ← sumToI_add]
  refine sumToI_congr _ (fun i _ => ?_)
  rw [lenAt, Int.natCast_add, Int.mul_add]

/-! lengths, by symbols -/
/-- An item's symbol. -/
def sy (p : Int × List Int) : Int := rd p.2 0
def sumL (g : Int × List Int → Nat) : List (Int × List Int) → Nat
 | [] => 0
 | p :: l => g p + sumL g l
def sumLI (g : Int × List Int → Int) : List (Int × List Int) → Int
 | [] => 0
 | p :: l => g p + sumLI g l
theorem sumL_perm (g : Int × List Int → Nat) {A B : List (Int × List Int)} (h : A.Perm B) : sumL g A = sumL g B := by
 induction h with
 | nil => rfl
 | cons x _ ih => rw [sumL, sumL, ih]
 | swap x y l => rw [sumL, sumL, sumL, sumL]; omega
 | trans _ _ h1 h2 => exact h1.trans h2
theorem sumLI_perm (g : Int × List Int → Int) {A B : List (Int × List Int)} (h : A.Perm B) : sumLI g A = sumLI g B := by
 induction h with
 | nil => rfl
 | cons x _ ih => rw [sumLI, sumLI, ih]
 | swap x y l => rw [sumLI, sumLI, sumLI, sumLI]; omega
 | trans _ _ h1 h2 => exact h1.trans h2
theorem sumL_congr {g h : Int × List Int → Nat} : ∀ (l : List (Int × List Int)), (∀ p ∈ l, g p = h p) → sumL g l = sumL h l
 | [], _ => rfl
 | p :: l, e => by rw [sumL, sumL, e p List.mem_cons_self, sumL_congr l (fun q hq => e q (List.mem_cons_of_mem _ hq))]
theorem sumLI_congr {g h : Int × List Int → Int} : ∀ (l : List (Int × List Int)), (∀ p ∈ l, g p = h p) → sumLI g l = sumLI h l
 | [], _ => rfl
 | p :: l, e => by rw [sumLI, sumLI, e p List.mem_cons_self, sumLI_congr l (fun q hq => e q (List.mem_cons_of_mem _ hq))]
theorem sumL_snoc (g : Int × List Int → Nat) (x : Int × List Int) : ∀ l, sumL g (l ++ [x]) = sumL g l + g x
 | [] => by simp [sumL]
 | p :: l => by rw [List.cons_append, sumL, sumL_snoc g x l, sumL]; omega
theorem sumLI_snoc (g : Int × List Int → Int) (x : Int × List Int) : ∀ l, sumLI g (l ++ [x]) = sumLI g l + g x
 | [] => by simp [sumLI]
 | p :: l => by rw [List.cons_append, sumLI, sumLI_snoc g x l, sumLI]; omega
theorem sumL_at (g : Int × List Int → Nat) (F : List (Int × List Int)) : ∀ n, n ≤ F.length → sumL g (F.take n) = sumTo (fun i => g (pAt F i)) n
 | 0, _ => by simp [sumL, sumTo]
 | n + 1, h => by rw [List.take_succ_eq_append_getElem h, sumL_snoc, sumL_at g F n (by omega), sumTo, pAt_eq F n h]
theorem sumLI_at (g : Int × List Int → Int) (F : List (Int × List Int)) : ∀ n, n ≤ F.length → sumLI g (F.take n) = sumToI (fun i => g (pAt F i)) n
 | 0, _ => by simp [sumLI, sumToI]
 | n + 1, h => by rw [List.take_succ_eq_append_getElem h, sumLI_snoc, sumLI_at g F n (by omega), sumToI, pAt_eq F n h]
theorem sumL_all (g : Int × List Int → Nat) (F : List (Int × List Int)) : sumL g F = sumTo (fun i => g (pAt F i)) F.length := by
 have := sumL_at g F F.length (Nat.le_refl _)
 rwa [List.take_length] at this
theorem sumLI_all (g : Int × List Int → Int) (F : List (Int × List Int)) : sumLI g F = sumToI (fun i => g (pAt F i)) F.length := by
 have := sumLI_at g F F.length (Nat.le_refl _)
 rwa [List.take_length] at this
theorem sumL_mul (c : Nat) (g : Int × List Int → Nat) : ∀ l, sumL (fun p => c * g p) l = c * sumL g l
 | [] => rfl
 | p :: l => by rw [sumL, sumL, sumL_mul c g l, Nat.mul_add]
/-- The items of one symbol each, with their counts. -/
theorem raw_mem (l : List Int) (d : Nat) : ∀ (j : Nat), j + d = l.length → ∀ p ∈ rawC j (l.drop j), ∃ s : Nat, p = (rd l s, [(s : Int)]) ∧ j ≤ s ∧ s < l.length ∧ 0 < rd l s := by
 induction d with
 | zero =>
  intro j h p hp
  rw [List.drop_of_length_le (by omega)] at hp
  cases hp
 | succ d ih =>
  intro j h p hp
  rw [drop_rd l j (by omega), rawC] at hp
  have key : p ∈ rawC (j + 1) (l.drop (j + 1)) → ∃ s : Nat, p = (rd l s, [(s : Int)]) ∧ j ≤ s ∧ s < l.length ∧ 0 < rd l s := fun hp => by
   obtain ⟨s, h1, h2, h3⟩ := ih (j + 1) (by omega) p hp
   exact ⟨s, h1, by omega, h3⟩
  split at hp
  ·rename_i hc
   rcases List.mem_cons.1 hp with rfl | hp
   ·exact ⟨j, rfl, Nat.le_refl _, by omega, hc⟩
   ·exact key hp
  ·exact key hp
theorem raw_has (l : List Int) (d : Nat) : ∀ (j : Nat), j + d = l.length → ∀ s : Nat, j ≤ s → s < l.length → 0 < rd l s → (rd l s, [(s : Int)]) ∈ rawC j (l.drop j) := by
 induction d with
 | zero => intro j h s h1 h2; omega
 | succ d ih =>
  intro j h s h1 h2 h3
  rw [drop_rd l j (by omega), rawC]
  by_cases hs : s = j
  ·subst hs
   rw [if_pos h3]
   exact List.mem_cons_self
  ·have := ih (j + 1) (by omega) s (by omega) h2 h3
   split
   ·exact List.mem_cons_of_mem _ this
   ·exact this
theorem raw_nodup (l : List Int) (d : Nat) : ∀ (j : Nat), j + d = l.length → ((rawC j (l.drop j)).map sy).Nodup := by
 induction d with
 | zero =>
  intro j h
  rw [List.drop_of_length_le (by omega)]
  exact List.nodup_nil
 | succ d ih =>
  intro j h
  rw [drop_rd l j (by omega), rawC]
  split
  ·rw [List.map_cons, List.nodup_cons]
   refine ⟨fun hm => ?_, ih (j + 1) (by omega)⟩
   obtain ⟨p, hp, e⟩ := List.mem_map.1 hm
   obtain ⟨s, rfl, h1, _⟩ := raw_mem l d (j + 1) (by omega) p hp
   have e : (s : Int) = (j : Int) := e
   omega
  ·exact ih (j + 1) (by omega)
theorem fullS_raw_le (l o : List Int) (ho : o.length = l.length) (d : Nat) : ∀ (j : Nat), j + d = l.length → (∀ x : Nat, j ≤ x → x < l.length → 0 < rd l x → 0 < rd o x) →
  sumL (fun p => 2 ^ (15 - (rd o (sy p)).toNat)) (rawC j (l.drop j)) ≤ fullS (o.drop j) := by
 induction d with
 | zero =>
  intro j h _
  rw [List.drop_of_length_le (by omega)]
  exact Nat.zero_le _
 | succ d ih =>
  intro j h hp
  have i1 := ih (j + 1) (by omega) (fun x h1 h2 h3 => hp x (by omega) h2 h3)
  rw [drop_rd l j (by omega), drop_rd o j (by omega), rawC, fullS]
  by_cases hc : 0 < rd l (j : Int)
  ·have := hp j (Nat.le_refl _) (by omega) hc
   rw [if_pos hc, if_pos this, sumL]
   have e : sy (rd l (j : Int), [(j : Int)]) = (j : Int) := rfl
   rw [e]
   omega
  ·rw [if_neg hc]
   omega
theorem fullS_raw (l o : List Int) (ho : o.length = l.length) (d : Nat) : ∀ (j : Nat), j + d = l.length → (∀ x : Nat, j ≤ x → x < l.length → (0 < rd l x ↔ 0 < rd o x)) →
  fullS (o.drop j) = sumL (fun p => 2 ^ (15 - (rd o (sy p)).toNat)) (rawC j (l.drop j)) := by
 induction d with
 | zero =>
  intro j h _
  rw [List.drop_of_length_le (by omega), List.drop_of_length_le (by omega)]
  rfl
 | succ d ih =>
  intro j h hp
  have i1 := ih (j + 1) (by omega) (fun x h1 h2 => hp x (by omega) h2)
  have h0 := hp j (Nat.le_refl _) (by omega)
  rw [drop_rd l j (by omega), drop_rd o j (by omega), rawC, fullS]
  by_cases hc : 0 < rd l (j : Int)
  ·rw [if_pos hc, if_pos (h0.1 hc), sumL, i1]
   have e : sy (rd l (j : Int), [(j : Int)]) = (j : Int) := rfl
   rw [e]
  ·rw [if_neg hc, if_neg (fun h => hc (h0.2 h)), i1, Nat.zero_add]

theorem rd_snoc_lt (l : List Int) (v : Int) (x : Nat) (h : x < l.length) : rd (l ++ [v]) (x : Int) = rd l (x : Int) := by
 unfold rd
 rw [Int.toNat_natCast, List.getD_eq_getElem?_getD, List.getD_eq_getElem?_getD, List.getElem?_append_left h]
theorem rd_snoc_eq (l : List Int) (v : Int) (x : Nat) (h : x = l.length) : rd (l ++ [v]) (x : Int) = v := by
 unfold rd
 rw [Int.toNat_natCast, List.getD_eq_getElem?_getD, List.getElem?_append_right (by omega), h, Nat.sub_self]
 rfl

/-! the tally, by symbols -/
theorem tallyS_rd : ∀ (s o : List Int), (∀ x ∈ s, 0 ≤ x ∧ x < (o.length : Int)) → ∀ y : Nat, rd (tallyS o s) y = rd o y + (s.count (y : Int) : Nat)
 | [], o, _, y => by simp [tallyS]
 | x :: s, o, h, y => by
  obtain ⟨h1, h2⟩ := h x List.mem_cons_self
  obtain ⟨n, rfl⟩ := Int.eq_ofNat_of_zero_le h1
  have ih := tallyS_rd s (o.set n (rd o n + 1)) (fun z hz => by rw [List.length_set]; exact h z (List.mem_cons_of_mem _ hz)) y
  rw [tallyS_cons, ih, rd_set o n _ y (by omega), List.count_cons]
  by_cases hy : y = n
  ·subst hy
   rw [if_pos rfl, beq_self_eq_true, if_pos rfl]
   omega
  ·have hb : ((n : Int) == (y : Int)) = false := by
    rw [beq_eq_false_iff_ne]
    omega
   rw [if_neg hy, hb, if_neg (by decide)]
   omega
theorem tally_rd (N : Nat) : ∀ (l : List (Int × List Int)) (o : List Int), o.length = N → (∀ p ∈ l, ∀ s ∈ p.2, 0 ≤ s ∧ s < (N : Int)) → ∀ y : Nat, rd (tally o l) y = rd o y + ((flatP l).count (y : Int) : Nat)
 | [], o, _, _, y => by simp [tally, flatP]
 | p :: l, o, ho, h, y => by
  have ih := tally_rd N l (tallyS o p.2) (by rw [tallyS_len]; exact ho) (fun q hq => h q (List.mem_cons_of_mem _ hq)) y
  have e : flatP (p :: l) = p.2 ++ flatP l := rfl
  rw [tally_cons, ih, tallyS_rd p.2 o (fun x hx => by rw [ho]; exact h p List.mem_cons_self x hx) y, e, List.count_append]
  omega
theorem rd_zero (n y : Nat) : rd (List.replicate n 0) (y : Int) = 0 := by
 have := bnd_zero n y
 omega
/-- The first list's symbols: each once. -/
theorem flat_take (F : List (Int × List Int)) (h : ∀ p ∈ F, p.2 = [sy p]) : ∀ a, flatP (F.take a) = (F.map sy).take a := by
 induction F with
 | nil => intro a; simp [flatP]
 | cons p F ih =>
  intro a
  cases a with
  | zero => rfl
  | succ a =>
   have e : flatP (p :: F.take a) = p.2 ++ flatP (F.take a) := rfl
   rw [List.take_succ_cons, e, List.map_cons, List.take_succ_cons, h p List.mem_cons_self, ih (fun q hq => h q (List.mem_cons_of_mem _ hq))]
   rfl
theorem count_take (S : List Int) (h : S.Nodup) (a i : Nat) (hi : i < S.length) : (S.take a).count S[i] = if i < a then 1 else 0 := by
 have hn : (S.take a).Nodup := h.sublist (List.take_sublist _ _)
 rw [hn.count]
 by_cases hc : i < a
 ·rw [if_pos hc, if_pos]
  rw [List.mem_take_iff_getElem]
  exact ⟨i, by omega, rfl⟩
 ·rw [if_neg hc, if_neg]
  intro hm
  rw [List.mem_take_iff_getElem] at hm
  obtain ⟨j, hj, e⟩ := hm
  have := (List.getElem_inj h).1 e
  omega
theorem occs_at (F : List (Int × List Int)) (h : ∀ p ∈ F, p.2 = [sy p]) (hn : (F.map sy).Nodup) (az : Nat → Nat) (i : Nat) (hi : i < F.length) : ∀ k, occs F az (sy (pAt F i)) k = lenAt az i k := by
 have key : ∀ a, (flatP (F.take a)).count (sy (pAt F i)) = if i < a then 1 else 0 := by
  intro a
  have e : sy (pAt F i) = (F.map sy)[i]'(by rw [List.length_map]; exact hi) := by rw [List.getElem_map, pAt_eq F i hi]
  rw [flat_take F h, e]
  exact count_take (F.map sy) hn a i (by rw [List.length_map]; exact hi)
 intro k
 induction k with
 | zero => rw [occs, lenAt, key]
 | succ k ih => rw [occs, lenAt, key, ih]
theorem occs_none (F : List (Int × List Int)) (h : ∀ p ∈ F, p.2 = [sy p]) (az : Nat → Nat) (s : Int) (hs : s ∉ F.map sy) : ∀ k, occs F az s k = 0 := by
 have key : ∀ a, (flatP (F.take a)).count s = 0 := by
  intro a
  rw [flat_take F h, List.count_eq_zero]
  exact fun hm => hs (List.mem_of_mem_take hm)
 intro k
 induction k with
 | zero => rw [occs, key]
 | succ k ih => rw [occs, key, ih]
/-- What is known of the first list, once more. -/
structure FirstS (l : List Int) (F : List (Int × List Int)) : Prop where
 perm : F.Perm (rawC 0 l)
 one : ∀ p ∈ F, p.2 = [sy p]
 nodup : (F.map sy).Nodup
 mem : ∀ p ∈ F, ∃ s : Nat, p = (rd l s, [(s : Int)]) ∧ s < l.length ∧ 0 < rd l s
 has : ∀ s : Nat, s < l.length → 0 < rd l s → (rd l s, [(s : Int)]) ∈ F
theorem firstP_S (l : List Int) : FirstS l (firstP l) := by
 have hp : (firstP l).Perm (rawC 0 l) := isort_perm _ _
 have hm : ∀ p ∈ firstP l, ∃ s : Nat, p = (rd l s, [(s : Int)]) ∧ s < l.length ∧ 0 < rd l s := fun p hp2 => by
  obtain ⟨s, h1, _, h3⟩ := raw_mem l l.length 0 (by omega) p (by rw [List.drop_zero]; exact hp.mem_iff.1 hp2)
  exact ⟨s, h1, h3⟩
 refine ⟨hp, fun p hp2 => ?_, ?_, hm, fun s h1 h2 => ?_⟩
 ·obtain ⟨s, rfl, _⟩ := hm p hp2
  rfl
 ·have := raw_nodup l l.length 0 (by omega)
  rw [List.drop_zero] at this
  exact (hp.map sy).nodup_iff.2 this
 ·have := raw_has l l.length 0 (by omega) s (Nat.zero_le _) h1 h2
  rw [List.drop_zero] at this
  exact hp.mem_iff.2 this

/-! what LimitedLengths tells is the best -/
structure Best (l : List Int) (L : Nat) (q : List Int) : Prop where
 len : q.length = l.length
 pos : ∀ x : Nat, x < l.length → (0 < rd l x ↔ 0 < rd q x)
 rng : ∀ x : Nat, x < l.length → 0 ≤ rd q x ∧ rd q x ≤ (L : Int)
 least : ∀ o : List Int, o.length = l.length → (∀ x : Nat, x < l.length → 0 ≤ rd o x ∧ rd o x ≤ (L : Int)) → fullS o ≤ 32768 → (∀ x : Nat, x < l.length → 0 < rd l x → 0 < rd o x) →
  sumLI (fun p => p.1 * rd q (sy p)) (rawC 0 l) ≤ sumLI (fun p => p.1 * rd o (sy p)) (rawC 0 l)
 whole : 2 ≤ (firstP l).length → fullS q = 32768
theorem sumH_is (f : Int × List Int → Nat) (L : Nat) (h1 : 1 ≤ L) : ∀ F : List (Int × List Int), (∀ p ∈ F, f p ≤ L) → sumH f L (L - 1) F = sumLI (fun p => p.1 * (f p : Nat)) F
 | [], _ => rfl
 | p :: F, h => by
  rw [sumH, sumLI, sumH_is f L h1 F (fun q hq => h q (List.mem_cons_of_mem _ hq)), hN_all L (f p) (h p List.mem_cons_self) (L - 1) (by omega), show f p + (L - 1) + 1 - L = f p by omega]
theorem sumG_is (f : Int × List Int → Nat) (L : Nat) (h1 : 1 ≤ L) : ∀ F : List (Int × List Int), (∀ p ∈ F, f p ≤ L) → sumG f L (L - 1) F + sumL (fun p => 2 ^ (L - f p)) F = F.length * 2 ^ L
 | [], _ => by simp [sumG, sumL]
 | p :: F, h => by
  have ih := sumG_is f L h1 F (fun q hq => h q (List.mem_cons_of_mem _ hq))
  have hf := h p List.mem_cons_self
  have hp : 2 ^ (L - f p) ≤ 2 ^ L := Nat.pow_le_pow_right (by omega) (by omega)
  rw [sumG, sumL, gN_all L (f p) hf (L - 1) (by omega), show L - 1 + 1 = L by omega, show min L (L - f p) = L - f p by omega, List.length_cons, Nat.add_mul]
  omega
theorem best_many (l : List Int) (hl : l.length ≤ 288) (hv : ∀ x ∈ l, 0 ≤ x ∧ x ≤ 12000) (L : Nat) (h1 : 1 ≤ L) (hL : L ≤ 15) (h2 : 2 ≤ (firstP l).length) (hm : (firstP l).length ≤ 2 ^ L) :
  Best l L (tally (List.replicate l.length 0) ((lev (firstP l) (L - 1)).take (2 * (firstP l).length - 2))) := by
 have hF := firstP_First l hl hv
 have hS := firstP_S l
 have hpos := first_pos hF
 generalize firstP l = F at h2 hm hF hS hpos ⊢
 have hg := lev_many (F := F) L hm (L - 1) (by omega)
 rw [show L - (L - 1) = 1 by omega, Nat.pow_one] at hg
 obtain ⟨az, P⟩ := profile F hF.sorted hpos (L - 1) (2 * F.length - 2) (by omega)
 obtain ⟨w1, w2⟩ := whole_at h2 P
 rw [show L - 1 + 1 = L by omega] at w1
 have hT := tally_sub hF.small hF.len hF.sorted (L - 1) (by omega) (2 * F.length - 2)
 obtain ⟨T, hTe⟩ : ∃ T, T = (lev F (L - 1)).take (2 * F.length - 2) := ⟨_, rfl⟩
 rw [← hTe] at hT ⊢
 obtain ⟨q, hq⟩ : ∃ q, q = tally (List.replicate l.length 0) T := ⟨_, rfl⟩
 rw [← hq]
 have hql : q.length = l.length := by rw [hq, tally_len, List.length_replicate]
 have hrd : ∀ y : Nat, rd q y = (occs F az (y : Int) (L - 1) : Nat) := fun y => by
  rw [hq, tally_rd l.length T _ (by simp) hT.rg, rd_zero, hTe, P.occ]
  omega
 have hat : ∀ i, i < F.length → rd q (sy (pAt F i)) = (lenAt az i (L - 1) : Nat) := fun i hi => by
  obtain ⟨s, he, h3, _⟩ := hS.mem _ (pAt_mem F i hi)
  have e : sy (pAt F i) = (s : Int) := by rw [he]; rfl
  rw [e, hrd s, ← e, occs_at F hS.one hS.nodup az i hi]
 have hsym : ∀ x : Nat, x < l.length → 0 < rd l x → ∃ i, i < F.length ∧ sy (pAt F i) = (x : Int) := fun x hx h0 => by
  obtain ⟨i, hi, e⟩ := List.getElem_of_mem (hS.has x hx h0)
  exact ⟨i, hi, by rw [pAt_eq F i hi, e]; rfl⟩
 have hle : ∀ i, i < F.length → lenAt az i (L - 1) ≤ L := fun i _ => by have := lenAt_le az i (L - 1); omega
 have hzero : ∀ x : Nat, ¬ 0 < rd l x → rd q x = 0 := fun x h0 => by
  rw [hrd, occs_none F hS.one az (x : Int)]
  ·rfl
  ·intro hmem
   obtain ⟨p, hp, e⟩ := List.mem_map.1 hmem
   obtain ⟨s, rfl, _, h3⟩ := hS.mem p hp
   have e : (s : Int) = (x : Int) := e
   have e2 : s = x := by omega
   subst e2
   exact h0 h3
 have hpos2 : ∀ x : Nat, x < l.length → (0 < rd l x ↔ 0 < rd q x) := fun x hx => by
  constructor
  ·intro h0
   obtain ⟨i, hi, e⟩ := hsym x hx h0
   have := hat i hi
   rw [e] at this
   have := w2 i hi
   omega
  ·intro h0
   refine Classical.byContradiction fun hn => ?_
   have := hzero x hn
   omega
 refine ⟨hql, hpos2, fun x hx => ?_, fun o ho hr hfo hop => ?_, fun _ => ?_⟩
 ·by_cases h0 : 0 < rd l x
  ·obtain ⟨i, hi, e⟩ := hsym x hx h0
   have e2 := hat i hi
   rw [e] at e2
   have := hle i hi
   omega
  ·rw [hzero x h0]
   omega
 ·have c1 : sumLI (fun p => p.1 * rd q (sy p)) (rawC 0 l) = wsum T := by
   rw [← sumLI_perm _ hS.perm, sumLI_all, hTe, P.sum, wsums_sum F az (L - 1) P.le]
   refine sumToI_congr _ (fun i hi => ?_)
   rw [hat i hi]
   rfl
  have c2 := sumLI_perm (fun p => p.1 * rd o (sy p)) hS.perm
  have hfp : ∀ p ∈ F, 0 ≤ rd o (sy p) ∧ rd o (sy p) ≤ (L : Int) := fun p hp => by
   obtain ⟨s, rfl, h3, _⟩ := hS.mem p hp
   exact hr s h3
  have k1 := fullS_raw_le l o ho l.length 0 (by omega) (fun x _ h3 h4 => hop x h3 h4)
  rw [List.drop_zero, List.drop_zero, ← sumL_perm _ hS.perm] at k1
  have k2 : sumL (fun p => 2 ^ (15 - (rd o (sy p)).toNat)) F = 2 ^ (15 - L) * sumL (fun p => 2 ^ (L - (rd o (sy p)).toNat)) F := by
   rw [← sumL_mul]
   refine sumL_congr F (fun p hp => ?_)
   have := hfp p hp
   rw [← Nat.pow_add]
   congr 1
   omega
  have k3 : sumL (fun p => 2 ^ (L - (rd o (sy p)).toNat)) F ≤ 2 ^ L := by
   have e : (32768 : Nat) = 2 ^ (15 - L) * 2 ^ L := by rw [← Nat.pow_add, show 15 - L + L = 15 by omega]
   have hle2 : 2 ^ (15 - L) * sumL (fun p => 2 ^ (L - (rd o (sy p)).toNat)) F ≤ 2 ^ (15 - L) * 2 ^ L := by omega
   exact Nat.le_of_mul_le_mul_left hle2 (Nat.pos_of_ne_zero (by simp))
  have k4 := sumG_is (fun p => (rd o (sy p)).toNat) L h1 F (fun p hp => by have := hfp p hp; show (rd o (sy p)).toNat ≤ L; omega)
  have k5 : (2 * F.length - 2) * 2 ^ (L - 1) ≤ sumG (fun p => (rd o (sy p)).toNat) L (L - 1) F := by
   have e3 : (2 * F.length - 2) * 2 ^ (L - 1) = (F.length - 1) * 2 ^ L := by
    obtain ⟨M, rfl⟩ : ∃ M, L = M + 1 := ⟨L - 1, by omega⟩
    rw [show 2 * F.length - 2 = (F.length - 1) * 2 by omega, Nat.mul_assoc, Nat.pow_succ, Nat.mul_comm (2 ^ M), Nat.add_sub_cancel]
   have e4 : F.length * 2 ^ L = (F.length - 1) * 2 ^ L + 2 ^ L := by
    obtain ⟨m, hm2⟩ : ∃ m, F.length = m + 1 := ⟨F.length - 1, by omega⟩
    rw [hm2, Nat.add_mul]
    simp
   have k4' : sumG (fun p => (rd o (sy p)).toNat) L (L - 1) F + sumL (fun p => 2 ^ (L - (rd o (sy p)).toNat)) F = F.length * 2 ^ L := k4
   omega
  have k6 := (pack_least (fun p => (rd o (sy p)).toNat) L F hF.sorted hpos (L - 1) (2 * F.length - 2) k5).2
  rw [sumH_is (fun p => (rd o (sy p)).toNat) L h1 F (fun p hp => by have := hfp p hp; show (rd o (sy p)).toNat ≤ L; omega), ← hTe] at k6
  rw [c1, ← c2]
  refine Int.le_trans k6 (Int.le_of_eq (sumLI_congr F (fun p hp => ?_)))
  have := hfp p hp
  show p.1 * (((rd o (sy p)).toNat : Nat) : Int) = p.1 * rd o (sy p)
  rw [Int.toNat_of_nonneg this.1]
 ·have k1 := fullS_raw l q hql l.length 0 (by omega) (fun x _ h3 => hpos2 x h3)
  rw [List.drop_zero, List.drop_zero, ← sumL_perm _ hS.perm, sumL_all] at k1
  rw [k1]
  have e : ∀ i, i < F.length → 2 ^ (15 - (rd q (sy (pAt F i))).toNat) = 2 ^ (15 - L) * 2 ^ (L - lenAt az i (L - 1)) := fun i hi => by
   have := hle i hi
   rw [hat i hi, Int.toNat_natCast, ← Nat.pow_add]
   congr 1
   omega
  have mul : ∀ n, n ≤ F.length → sumTo (fun i => 2 ^ (15 - (rd q (sy (pAt F i))).toNat)) n = 2 ^ (15 - L) * sumTo (fun i => 2 ^ (L - lenAt az i (L - 1))) n := by
   intro n
   induction n with
   | zero => intro _; rfl
   | succ n ih => intro hn; rw [sumTo, sumTo, ih (by omega), e n (by omega), Nat.mul_add]
  rw [mul _ (Nat.le_refl _), w1, ← Nat.pow_add, show 15 - L + L = 15 by omega]

theorem ev_bind {α β : Type} {A : Nat → Option α} {B : Nat → α → Option β} {a : α} {r : β} (e : Ev A a) (c : Ev (fun k => B k a) r) : Ev (fun k => (A k).bind (B k)) r := ev_use e (fun k hk => by rw [hk]; rfl) c
theorem best_zero (l : List Int) (L : Nat) (h : (firstP l).length = 0) : Best l L (List.replicate l.length 0) := by
 have hS := firstP_S l
 have he : firstP l = [] := List.length_eq_zero_iff.1 h
 have hno : ∀ x : Nat, x < l.length → ¬ 0 < rd l x := fun x hx h0 => by
  have := hS.has x hx h0
  rw [he] at this
  cases this
 refine ⟨by rw [List.length_replicate], fun x hx => ⟨fun h0 => absurd h0 (hno x hx), fun h0 => by rw [rd_zero] at h0; omega⟩, fun x hx => by rw [rd_zero]; omega, fun o _ _ _ _ => ?_, fun h2 => by omega⟩
 rw [← sumLI_perm _ hS.perm, ← sumLI_perm _ hS.perm, he]
 exact Int.le_refl _
theorem best_one (l : List Int) (L : Nat) (hL : 1 ≤ L) (h : (firstP l).length = 1) : Best l L ((List.replicate l.length 0).set (rd (pAt (firstP l) 0).2 0).toNat 1) := by
 have hS := firstP_S l
 obtain ⟨p, he⟩ := List.length_eq_one_iff.1 h
 obtain ⟨s, hp, hs, h0⟩ := hS.mem p (by rw [he]; exact List.mem_singleton.2 rfl)
 have e1 : (rd (pAt (firstP l) 0).2 0).toNat = s := by
  rw [he, hp]
  exact Int.toNat_natCast s
 rw [e1]
 have hat : ∀ x : Nat, rd ((List.replicate l.length 0).set s 1) x = if x = s then 1 else 0 := fun x => by
  rw [rd_set _ s 1 x (by rw [List.length_replicate]; exact hs), rd_zero]
 have hone : ∀ x : Nat, x < l.length → 0 < rd l x → x = s := fun x hx hx0 => by
  have := hS.has x hx hx0
  rw [he, List.mem_singleton, hp] at this
  injection this with _ h2
  injection h2 with h2 _
  omega
 refine ⟨by rw [List.length_set, List.length_replicate], fun x hx => ?_, fun x hx => ?_, fun o ho hr _ hop => ?_, fun h2 => by omega⟩
 ·rw [hat]
  by_cases hx2 : x = s
  ·rw [if_pos hx2, hx2]
   exact ⟨fun _ => by decide, fun _ => h0⟩
  ·rw [if_neg hx2]
   exact ⟨fun h3 => absurd (hone x hx h3) hx2, fun h3 => by omega⟩
 ·rw [hat]
  split <;> omega
 ·rw [← sumLI_perm _ hS.perm, ← sumLI_perm _ hS.perm, he, hp]
  have e2 : sy (rd l s, [(s : Int)]) = (s : Int) := rfl
  have := hop s hs h0
  rw [sumLI, sumLI, sumLI, sumLI, e2, hat, if_pos rfl]
  have h3 : rd l s * 1 ≤ rd l s * rd o s := Int.mul_le_mul_of_nonneg_left (by omega) (by omega)
  show rd l s * 1 + 0 ≤ rd l s * rd o s + 0
  omega
/-- What LimitedLengths tells is the best, or nothing. -/
theorem limited_best (l : List Int) (n : Int) : ((limited l n).2 = false ∧ (limited l n).1 = []) ∨ ((limited l n).2 = true ∧ (∀ x ∈ l, 0 ≤ x ∧ x ≤ 12000) ∧ l.length ≤ 288 ∧ 1 ≤ n ∧ n ≤ 15 ∧ Best l n.toNat (limited l n).1) := by
 unfold limited
 by_cases h : (∀ x ∈ l, 0 ≤ x ∧ x ≤ 12000) ∧ l.length ≤ 288 ∧ 1 ≤ n ∧ n ≤ 15 ∧ ((firstP l).length : Int) ≤ 2 ^ n.toNat
 ·rw [if_pos h]
  obtain ⟨h1, h2, h3, h4, h5⟩ := h
  refine Or.inr ?_
  by_cases c1 : (firstP l).length = 1
  ·rw [if_pos c1]
   exact ⟨rfl, h1, h2, h3, h4, best_one l n.toNat (by omega) c1⟩
  ·rw [if_neg c1]
   by_cases c2 : (firstP l).length < 2
   ·rw [if_pos c2]
    exact ⟨rfl, h1, h2, h3, h4, best_zero l n.toNat (by omega)⟩
   ·rw [if_neg c2]
    have hm : (firstP l).length ≤ 2 ^ n.toNat := by exact_mod_cast h5
    exact ⟨rfl, h1, h2, h3, h4, best_many l h2 h1 n.toNat (by omega) (by omega) (by omega) hm⟩
 ·rw [if_neg h]
  exact Or.inl ⟨rfl, rfl⟩

/-! what lengths cost -/
theorem costL_ok (q l : List Int) (hv : ∀ x : Nat, x < l.length → 0 ≤ rd l x ∧ rd l x ≤ 12000) (hq : ∀ x : Nat, x < l.length → 0 < rd l x → rd q x ≠ 0) (d : Nat) : ∀ (j : Nat) (s : Int), j + d = l.length →
  costL q l d j s = (s + sumLI (fun p => p.1 * rd q (sy p)) (rawC j (l.drop j)), true) := by
 induction d with
 | zero =>
  intro j s h
  rw [List.drop_of_length_le (by omega), costL, rawC, sumLI]
  simp
 | succ d ih =>
  intro j s h
  have h1 := hv j (by omega)
  have h2 := hq j (by omega)
  rw [costL, if_pos h1, if_neg (fun h3 => h2 h3.1 h3.2), ih (j + 1) _ (by omega), drop_rd l j (by omega), rawC]
  by_cases hc : 0 < rd l (j : Int)
  ·have e : sy (rd l (j : Int), [(j : Int)]) = (j : Int) := rfl
   rw [if_pos hc, sumLI, e, Int.add_assoc]
  ·have e : rd l (j : Int) = 0 := by omega
   rw [if_neg hc, e, Int.zero_mul, Int.add_zero]
theorem costL_true (o l : List Int) (d : Nat) : ∀ (j : Nat) (s r : Int), j + d = l.length → costL o l d j s = (r, true) →
  r = s + sumLI (fun p => p.1 * rd o (sy p)) (rawC j (l.drop j)) ∧ ∀ x : Nat, j ≤ x → x < l.length → 0 < rd l x → rd o x ≠ 0 := by
 induction d with
 | zero =>
  intro j s r h e
  rw [costL] at e
  injection e with e _
  rw [List.drop_of_length_le (by omega), rawC, sumLI]
  exact ⟨by omega, fun x h1 h2 => by omega⟩
 | succ d ih =>
  intro j s r h e
  rw [costL] at e
  by_cases h1 : 0 ≤ rd l (j : Int) ∧ rd l (j : Int) ≤ 12000
  ·rw [if_pos h1] at e
   by_cases h2 : rd l (j : Int) > 0 ∧ rd o (j : Int) = 0
   ·rw [if_pos h2] at e
    injection e with _ e
    cases e
   ·rw [if_neg h2] at e
    obtain ⟨i1, i2⟩ := ih (j + 1) _ r (by omega) e
    refine ⟨?_, fun x h3 h4 h5 h6 => ?_⟩
    ·rw [i1, drop_rd l j (by omega), rawC]
     by_cases hc : 0 < rd l (j : Int)
     ·have e : sy (rd l (j : Int), [(j : Int)]) = (j : Int) := rfl
      rw [if_pos hc, sumLI, e, Int.add_assoc]
     ·have e : rd l (j : Int) = 0 := by omega
      rw [if_neg hc, e, Int.zero_mul, Int.add_zero]
    ·by_cases hx : x = j
     ·subst hx
      exact h2 ⟨h5, h6⟩
     ·exact i2 x (by omega) h4 h5 h6
  ·rw [if_neg h1] at e
   injection e with _ e
   cases e
theorem kindS_ne (f n : Nat) : kindS f n ≠ 0 := by
 unfold kindS
 split
 ·decide
 ·split
  ·decide
  ·split
   ·decide
   ·split
    ·split <;> decide
    ·decide
theorem best_ok {l : List Int} {L : Nat} {q : List Int} (hL : L ≤ 15) (B : Best l L q) : okL q = true := by
 unfold okL
 rw [List.all_eq_true]
 intro x hx
 obtain ⟨i, hi, rfl⟩ := List.getElem_of_mem hx
 have := B.rng i (by rw [← B.len]; exact hi)
 rw [rd_getElem q i hi] at this
 exact decide_eq_true (by omega)
theorem best_kind {l : List Int} {L : Nat} {q : List Int} (hl : l.length ≤ 288) (hL : L ≤ 15) (B : Best l L q) : kindL q ≠ 0 ∧ (2 ≤ (firstP l).length → kindL q = 2) := by
 have ho := best_ok hL B
 have e : kindL q = kindS (fullS q) (nzL q) := by
  unfold kindL
  rw [if_pos ⟨ho, by rw [B.len]; exact hl⟩]
 rw [e]
 refine ⟨kindS_ne _ _, fun h2 => ?_⟩
 have hf := B.whole h2
 unfold kindS
 have h0 : nzL q ≠ 0 := by
  intro h
  have := ((full_zero q ho).1).2 h
  omega
 rw [if_neg h0, if_pos hf]
def costOf (l q : List Int) : Int := sumLI (fun p => p.1 * rd q (sy p)) (rawC 0 l)
theorem cost_best {l : List Int} {L : Nat} {q : List Int} (hl : l.length ≤ 288) (hv : ∀ x ∈ l, 0 ≤ x ∧ x ≤ 12000) (hL : L ≤ 15) (B : Best l L q) : costR q l = (costOf l q, true) := by
 unfold costR
 rw [if_neg (fun h => by
  rcases h with h | h
  ·exact (best_kind hl hL B).1 h
  ·exact h B.len.symm)]
 rw [costL_ok q l (fun x hx => hv _ (rd_mem l x hx)) (fun x hx h0 => by have := (B.pos x hx).1 h0; omega) l.length 0 0 (by omega), List.drop_zero, Int.zero_add]
 rfl
theorem cost_one {l : List Int} {L : Nat} {q : List Int} (B : Best l L q) (h : (firstP l).length = 1) : costOf l q ≠ 0 := by
 have hS := firstP_S l
 obtain ⟨p, he⟩ := List.length_eq_one_iff.1 h
 obtain ⟨s, hp, hs, h0⟩ := hS.mem p (by rw [he]; exact List.mem_singleton.2 rfl)
 have h1 := (B.pos s hs).1 h0
 unfold costOf
 rw [← sumLI_perm _ hS.perm, he, hp]
 have e2 : sy (rd l s, [(s : Int)]) = (s : Int) := rfl
 rw [sumLI, sumLI, e2]
 have := Int.mul_pos h0 h1
 show rd l s * rd q s + 0 ≠ 0
 omega
theorem cost_other {l : List Int} {L : Nat} {q : List Int} (B : Best l L q) (o : List Int) (ho : o.length = l.length) (hr : ∀ x : Nat, x < l.length → 0 ≤ rd o x ∧ rd o x ≤ (L : Int)) (hf : fullS o ≤ 32768) (r : Int) (h : costR o l = (r, true)) : costOf l q ≤ r := by
 unfold costR at h
 by_cases hc : kindL o = 0 ∨ l.length ≠ o.length
 ·rw [if_pos hc] at h
  injection h with _ h
  cases h
 ·rw [if_neg hc] at h
  obtain ⟨h1, h2⟩ := costL_true o l l.length 0 0 r (by omega) h
  rw [List.drop_zero, Int.zero_add] at h1
  rw [h1]
  exact B.least o ho hr hf (fun x hx h0 => by
   have := h2 x (Nat.zero_le _) hx h0
   have := (hr x hx).1
   omega)

/-! the law's loops -/
theorem other_loop (l : List Int) (hl : l.length ≤ 288) (n : Int) (h1 : 1 ≤ n) (h15 : n ≤ 15) (q : List Int) (B : Best l n.toNat q) (W : List Int) (hW : rngL W) (hWl : W.length ≤ 100) (d : Nat) : ∀ (j kk : Nat) (dn : List Int), j + d = l.length → dn.length = j → kk ≤ W.length →
  (∀ x : Nat, x < j → 0 ≤ rd dn x ∧ rd dn x ≤ n) → fullS dn + fullS (W.drop kk) ≤ 32768 → Ev (fun k => laws_FnPackage.l1 k l n (costOf l q) W (dn ++ List.replicate d 0) (kk : Int) (j : Int)) true := by
 induction d with
 | zero =>
  intro j kk dn h hd hk hr hf
  have e := cost_spec dn l
  rw [List.replicate_zero, List.append_nil]
  refine ev_use_step (G := fun _ => some true) e (fun k hk2 => ?_) (Ev.now true)
  rw [laws_FnPackage.l1, if_neg (by omega), hk2, Option.bind_some]
  cases hc : costR dn l with
  | mk r b =>
   cases b with
   | false => exact if_neg (fun h => Bool.noConfusion h)
   | true =>
    have := cost_other B dn (by omega) (fun x hx => by have := hr x (by omega); omega) (by omega) r hc
    rw [if_pos rfl]
    exact congrArg some (decide_eq_true this)
 | succ d ih =>
  intro j kk dn h hd hk hr hf
  have e0 : dn ++ List.replicate (d + 1) 0 = (dn ++ [0]) ++ List.replicate d 0 := by rw [List.replicate_succ, List.append_assoc]; rfl
  have hskip : Ev (fun k => laws_FnPackage.j4 k l n (costOf l q) W (dn ++ List.replicate (d + 1) 0) (kk : Int) (j : Int) false) true := by
   have g := ih (j + 1) kk (dn ++ [0]) (by omega) (by simp; omega) hk (fun x hx => by
    by_cases hxj : x < j
    ·have e : rd (dn ++ [0]) (x : Int) = rd dn (x : Int) := rd_snoc_lt dn 0 x (by omega)
     rw [e]; exact hr x hxj
    ·obtain rfl : x = j := by omega
     have e : rd (dn ++ [0]) (x : Int) = 0 := rd_snoc_eq dn 0 x hd.symm
     rw [e]; omega) (by rw [fullS_snoc]; have : wortN 0 = 0 := rfl; omega)
   rw [← e0] at g
   refine Ev.step (fun k => ?_) g
   rw [laws_FnPackage.j4, if_neg (by decide), w64_1 j (by omega)]
  by_cases hc : rd l (j : Int) > 0
  ·by_cases hkk : kk < W.length
   ·have hj4 : Ev (fun k => laws_FnPackage.j4 k l n (costOf l q) W (dn ++ List.replicate (d + 1) 0) (kk : Int) (j : Int) true) true := by
     have hy := hW _ (rd_mem W kk hkk)
     by_cases hbig : rd W (kk : Int) > n
     ·refine ev_ret (fun k => ?_)
      rw [laws_FnPackage.j4, if_pos rfl, if_pos (by omega), if_pos (by omega), if_pos hbig]
     ·have hfd : fullS (W.drop kk) = wortN (rd W (kk : Int)) + fullS (W.drop (kk + 1)) := by rw [drop_rd W kk hkk, fullS]; rfl
      have g := ih (j + 1) (kk + 1) (dn ++ [rd W (kk : Int)]) (by omega) (by simp; omega) (by omega) (fun x hx => by
       by_cases hxj : x < j
       ·have e : rd (dn ++ [rd W (kk : Int)]) (x : Int) = rd dn (x : Int) := rd_snoc_lt dn _ x (by omega)
        rw [e]; exact hr x hxj
       ·obtain rfl : x = j := by omega
        have e : rd (dn ++ [rd W (kk : Int)]) (x : Int) = rd W (kk : Int) := rd_snoc_eq dn _ x hd.symm
        rw [e]; omega) (by rw [fullS_snoc]; omega)
      have e1 : (dn ++ List.replicate (d + 1) 0).set j (rd W (kk : Int)) = (dn ++ [rd W (kk : Int)]) ++ List.replicate d 0 := by
       rw [List.set_append, if_neg (by omega), hd, Nat.sub_self, List.replicate_succ, List.set_cons_zero, List.append_assoc]
       rfl
      rw [← e1] at g
      refine Ev.step (fun k => ?_) g
      rw [laws_FnPackage.j4, if_pos rfl, if_pos (by omega), if_pos (by omega), if_neg hbig, if_pos (by omega), if_pos (by rw [List.length_append, List.length_replicate]; omega), Int.toNat_natCast, w64_1 kk (by omega), w64_1 j (by omega)]
    refine Ev.step (fun k => ?_) hj4
    rw [laws_FnPackage.l1, if_pos (by omega), if_pos (by omega), if_pos hc, decide_eq_true (show (kk : Int) < (W.length : Int) by omega)]
   ·refine Ev.step (fun k => ?_) hskip
    rw [laws_FnPackage.l1, if_pos (by omega), if_pos (by omega), if_pos hc, decide_eq_false (show ¬ (kk : Int) < (W.length : Int) by omega)]
  ·refine Ev.step (fun k => ?_) hskip
   rw [laws_FnPackage.l1, if_pos (by omega), if_pos (by omega), if_neg hc]
theorem check_loop (c0 l : List Int) (hl : l.length ≤ 288) (hv : ∀ x ∈ l, 0 ≤ x ∧ x ≤ 12000) (n : Int) (h1 : 1 ≤ n) (h15 : n ≤ 15) (q : List Int) (B : Best l n.toNat q) (g : Ev (fun k => laws_FnPackage.j2 k c0 l n (costOf l q) false) true) (d : Nat) : ∀ (j c : Nat), j + d = l.length → c + (rawC j (l.drop j)).length = (firstP l).length →
  Ev (fun k => laws_FnPackage.l0 k c0 l n q (c : Int) (j : Int)) true := by
 have hql := B.len
 have hFl := firstP_len l
 induction d with
 | zero =>
  intro j c h hc
  rw [List.drop_of_length_le (by omega)] at hc
  have hc2 : c = (firstP l).length := hc
  have e := cost_impl q l (by omega)
  rw [cost_best hl hv (by omega) B] at e
  refine ev_use_step e (fun k hk => by rw [laws_FnPackage.l0, if_neg (by omega), hk, Option.bind_some, if_pos rfl]) ?_
  by_cases c1 : (c : Int) > 1
  ·refine Ev.congr (fun k => by rw [if_pos c1]) ?_
   have ek := kind_spec q
   rw [(best_kind hl (by omega) B).2 (by omega)] at ek
   refine ev_use ek (fun k hk => ?_) g
   have hk : spec_CodeKind.f k q = _ := hk
   rw [hk, Option.bind_some, if_pos rfl, if_neg (by omega)]
  ·refine Ev.congr (fun k => by rw [if_neg c1]) ?_
   by_cases c2 : (c : Int) = 1
   ·refine Ev.congr (fun k => ?_) g
    have hne := cost_one B (by omega)
    have hb : (costOf l q == 0) = false := beq_eq_false_iff_ne.2 hne
    rw [if_pos c2, hb]
   ·exact Ev.congr (fun k => by rw [if_neg c2]) g
 | succ d ih =>
  intro j c h hc
  have hp := B.pos j (by omega)
  have hr := B.rng j (by omega)
  rw [drop_rd l j (by omega), rawC] at hc
  have e0 : (decide (rd l (j : Int) > 0) != decide (rd q (j : Int) > 0)) = false := by
   have : decide (rd l (j : Int) > 0) = decide (rd q (j : Int) > 0) := decide_eq_decide.2 hp
   rw [this]
   simp
  have e1 : decide (rd q (j : Int) > n) = false := decide_eq_false (by omega)
  have g2 : Ev (fun k => laws_FnPackage.j1 k c0 l n q (c : Int) (j : Int) false) true := by
   by_cases h0 : 0 < rd l (j : Int)
   ·rw [if_pos h0, List.length_cons] at hc
    refine Ev.step (fun k => ?_) (ih (j + 1) (c + 1) (by omega) (by omega))
    rw [laws_FnPackage.j1, if_neg (by decide), if_pos (by omega), if_pos (by omega), if_pos h0, w64_1 c (by omega), w64_1 j (by omega)]
   ·rw [if_neg h0] at hc
    refine Ev.step (fun k => ?_) (ih (j + 1) c (by omega) hc)
    rw [laws_FnPackage.j1, if_neg (by decide), if_pos (by omega), if_pos (by omega), if_neg h0, w64_1 j (by omega)]
  refine Ev.step (fun k => ?_) g2
  rw [laws_FnPackage.l0, if_pos (by omega), if_pos (by omega), if_pos (by omega), e0, if_neg (by decide), e1]

/-! what is drawn -/
theorem once_is (l : List Int) (hl : l.length ≤ 9223372036854775807) (i h n : Int) (hi : 0 ≤ i) : ∃ b i' h', spec_l01Once.f l i h n = some (b, i', h') ∧ 0 ≤ i' := by
 obtain ⟨x, i1, h1, e, _, _, hi1⟩ := below_is l hl i h n hi
 unfold spec_l01Once.f
 rw [e]
 exact ⟨_, _, _, rfl, hi1⟩
theorem countsL1 (c : List Int) (hc : c.length ≤ 9223372036854775807) (d : Nat) : ∀ (x : List Int) (i h : Int), 0 ≤ i → x.length ≤ 300 → 300 - x.length ≤ d → ∃ r, Ev (fun k => spec_l04Counts.l1 k x c i h) r ∧ r.1.length ≤ 1000 := by
 induction d with
 | zero =>
  intro x i h hi hx hd
  obtain ⟨y, i1, h1, e1, y0, y1, i10⟩ := below_is c hc i h 2 hi
  have y1 := y1 (by omega)
  refine ⟨(x, i1, h1), ev_ret (fun k => ?_), by show x.length ≤ 1000; omega⟩
  rw [spec_l04Counts.l1, e1, Option.bind_some]
  dsimp only
  rw [w64_id (x := 288 + y) (by omega) (by omega), if_neg (by omega)]
 | succ d ih =>
  intro x i h hi hx hd
  obtain ⟨y, i1, h1, e1, y0, y1, i10⟩ := below_is c hc i h 2 hi
  have y1 := y1 (by omega)
  by_cases hlt : (x.length : Int) < 288 + y
  ·obtain ⟨z, i2, h2, e2, z0, z1, i20⟩ := below_is c hc i1 h1 3 i10
   obtain ⟨r, g, gl⟩ := ih (x ++ [wrap64 (1 + z)]) i2 h2 i20 (by simp; omega) (by simp; omega)
   refine ⟨r, Ev.step (fun k => ?_) g, gl⟩
   rw [spec_l04Counts.l1, e1, Option.bind_some]
   dsimp only
   rw [w64_id (x := 288 + y) (by omega) (by omega), if_pos hlt, e2, Option.bind_some, if_pos (by omega)]
  ·refine ⟨(x, i1, h1), ev_ret (fun k => ?_), by show x.length ≤ 1000; omega⟩
   rw [spec_l04Counts.l1, e1, Option.bind_some]
   dsimp only
   rw [w64_id (x := 288 + y) (by omega) (by omega), if_neg hlt]
theorem countsL2 (c : List Int) (i h : Int) (d : Nat) : ∀ (j : Nat) (x : List Int) (y : Int), j + d = 13 → x.length ≤ j → ∃ r, Ev (fun k => spec_l04Counts.l2 k x y (j : Int) c i h) r ∧ r.1.length ≤ 1000 := by
 induction d with
 | zero =>
  intro j x y hj hx
  refine ⟨(x, i, h), ev_ret (fun k => ?_), by show x.length ≤ 1000; omega⟩
  rw [spec_l04Counts.l2, if_neg (by omega)]
 | succ d ih =>
  intro j x y hj hx
  obtain ⟨r, g, gl⟩ := ih (j + 1) (x ++ [y]) (wrap64 (wrap64 (2 * y) + 1)) (by omega) (by simp; omega)
  refine ⟨r, Ev.step (fun k => ?_) g, gl⟩
  rw [spec_l04Counts.l2, if_pos (by omega), if_pos (by omega), w64_1 j (by omega)]
theorem countsL0 (c : List Int) (hc : c.length ≤ 9223372036854775807) (m : Int) (d : Nat) : ∀ (j : Nat) (x : List Int) (i h : Int), j + d = 24 → x.length ≤ j → 0 ≤ i → ∃ r, Ev (fun k => spec_l04Counts.l0 k x m (j : Int) c i h) r ∧ r.1.length ≤ 1000 := by
 have tail : ∀ (j : Nat) (x : List Int) (i h b i1 h1 : Int), x.length ≤ 24 → 0 ≤ i1 → spec_l01Below.f c i h 24 = some (b, i1, h1) → ¬ (j : Int) < b → ∃ r, Ev (fun k => spec_l04Counts.l0 k x m (j : Int) c i h) r ∧ r.1.length ≤ 1000 := by
  intro j x i h b i1 h1 hx i10 e1 hb
  obtain ⟨t, i2, h2, e2, t0, t1, i20⟩ := below_is c hc i1 h1 30 i10
  have start : ∀ k, spec_l04Counts.l0 (k + 1) x m (j : Int) c i h = if t = 0 then ((spec_l01PickInt.f c i2 h2 (([(-1), 12000, 12001] : List Int))).bind fun bt379 => (if x.length < 17592186044416 then (some ((x ++ [bt379.1]), bt379.2.1, bt379.2.2)) else (none))) else (if t = 1 then (spec_l04Counts.l1 k x c i2 h2) else (if t = 2 then (spec_l04Counts.l2 k (([] : List Int)) 1 0 c i2 h2) else (some (x, i2, h2)))) := by
   intro k
   rw [spec_l04Counts.l0, e1, Option.bind_some]
   dsimp only
   rw [if_neg hb, e2, Option.bind_some]
  by_cases c0 : t = 0
  ·obtain ⟨y, i3, h3, e3, _, i30⟩ := pick_is c hc i2 h2 [(-1), 12000, 12001] (by simp) i20
   refine ⟨(x ++ [y], i3, h3), ev_ret (fun k => ?_), by show (x ++ [y]).length ≤ 1000; simp; omega⟩
   rw [start, if_pos c0, e3, Option.bind_some, if_pos (by omega)]
  ·by_cases c1 : t = 1
   ·obtain ⟨r, g, gl⟩ := countsL1 c hc 300 x i2 h2 i20 (by omega) (by omega)
    exact ⟨r, Ev.step (fun k => by rw [start, if_neg c0, if_pos c1]) g, gl⟩
   ·by_cases c2 : t = 2
    ·obtain ⟨r, g, gl⟩ := countsL2 c i2 h2 13 0 [] 1 (by omega) (by simp)
     exact ⟨r, Ev.step (fun k => by rw [start, if_neg c0, if_neg c1, if_pos c2]; rfl) g, gl⟩
    ·exact ⟨(x, i2, h2), ev_ret (fun k => by rw [start, if_neg c0, if_neg c1, if_neg c2]), by show x.length ≤ 1000; omega⟩
 induction d with
 | zero =>
  intro j x i h hj hx hi
  obtain ⟨b, i1, h1, e1, b0, b1, i10⟩ := below_is c hc i h 24 hi
  have b1 := b1 (by omega)
  exact tail j x i h b i1 h1 (by omega) i10 e1 (by omega)
 | succ d ih =>
  intro j x i h hj hx hi
  obtain ⟨b, i1, h1, e1, b0, b1, i10⟩ := below_is c hc i h 24 hi
  by_cases hb : (j : Int) < b
  ·obtain ⟨y, i2, h2, e2, _, _, i20⟩ := below_is c hc i1 h1 m i10
   obtain ⟨z, i3, h3, e3, i30⟩ := once_is c hc i2 h2 3 i20
   cases z with
   | true =>
    obtain ⟨r, g, gl⟩ := ih (j + 1) (x ++ [0]) i3 h3 (by omega) (by simp; omega) i30
    refine ⟨r, Ev.step (fun k => ?_) g, gl⟩
    rw [spec_l04Counts.l0, e1, Option.bind_some]
    dsimp only
    rw [if_pos hb, e2, Option.bind_some]
    dsimp only
    rw [e3, Option.bind_some, if_pos rfl, if_pos (by omega), w64_1 j (by omega)]
   | false =>
    obtain ⟨r, g, gl⟩ := ih (j + 1) (x ++ [y]) i3 h3 (by omega) (by simp; omega) i30
    refine ⟨r, Ev.step (fun k => ?_) g, gl⟩
    rw [spec_l04Counts.l0, e1, Option.bind_some]
    dsimp only
    rw [if_pos hb, e2, Option.bind_some]
    dsimp only
    rw [e3, Option.bind_some]
    dsimp only
    rw [if_neg (by decide), if_pos (by omega), w64_1 j (by omega)]
  ·exact tail j x i h b i1 h1 (by omega) i10 e1 hb
theorem counts_is (c : List Int) (hc : c.length ≤ 9223372036854775807) (i h : Int) (hi : 0 ≤ i) : ∃ r, Ev (fun k => spec_l04Counts.f k c i h) r ∧ r.1.length ≤ 1000 := by
 obtain ⟨m, i1, h1, e1, _, i10⟩ := pick_is c hc i h [2, 5, 40, 2000] (by simp) hi
 obtain ⟨r, g, gl⟩ := countsL0 c hc m 24 0 [] i1 h1 (by omega) (by simp) i10
 refine ⟨r, Ev.congr (fun k => ?_) g, gl⟩
 unfold spec_l04Counts.f
 rw [e1, Option.bind_some]
 rfl
theorem draw_is (c : List Int) (hc : c.length ≤ 9223372036854775807) : ∃ r : List Int × Int, Ev (fun k => spec_DrawLimitedLengths.f k c) r ∧ r.1.length ≤ 1000 := by
 obtain ⟨h, e⟩ := new_is c
 obtain ⟨x, i1, h1, e1, _, _, i10⟩ := below_is c hc 0 h 12 (by omega)
 obtain ⟨b, i2, h2, e2, i20⟩ := once_is c hc i1 h1 6 i10
 cases b with
 | true =>
  obtain ⟨y, i3, h3, e3, _, i30⟩ := pick_is c hc i2 h2 [0, 1, 2, 3, 15, 16, 7] (by simp) i20
  obtain ⟨r, g, gl⟩ := counts_is c hc i3 h3 i30
  refine ⟨(r.1, y), ev_end (ev_pair e g) (fun k hk => ?_), gl⟩
  obtain ⟨k1, k2⟩ := pair_some hk
  have k2 : spec_l04Counts.f k c i3 h3 = some r := k2
  unfold spec_DrawLimitedLengths.f
  rw [k1, Option.bind_some]
  dsimp only
  rw [e1, Option.bind_some]
  dsimp only
  rw [e2, Option.bind_some, if_pos rfl]
  dsimp only
  rw [e3, Option.bind_some]
  dsimp only
  rw [k2, Option.bind_some]
 | false =>
  obtain ⟨r, g, gl⟩ := counts_is c hc i2 h2 i20
  refine ⟨(r.1, wrap64 (4 + x)), ev_end (ev_pair e g) (fun k hk => ?_), gl⟩
  obtain ⟨k1, k2⟩ := pair_some hk
  have k2 : spec_l04Counts.f k c i2 h2 = some r := k2
  unfold spec_DrawLimitedLengths.f
  rw [k1, Option.bind_some]
  dsimp only
  rw [e1, Option.bind_some]
  dsimp only
  rw [e2, Option.bind_some]
  dsimp only
  rw [if_neg (by decide), k2, Option.bind_some]
theorem FnPackage : laws_FnPackage.Pure := by
 intro c hc1 hc2 hw
 have hlen : c.length ≤ 9223372036854775807 := by unfold maxLen at hc1; omega
 by_cases hb : (c.length : Int) > 1048576
 ·refine ⟨0, ?_⟩
  unfold laws_FnPackage.f laws_big.f
  rw [Option.bind_some, decide_eq_true hb, if_pos rfl]
 ·obtain ⟨⟨l, n⟩, eD, hl⟩ := draw_is c hlen
  dsimp only at hl
  obtain ⟨W, eW, w2, w3, w4, w5⟩ := drawWhole_is c hlen
  have eI := limI l (by omega) n
  have eR := limR l (by omega) n
  have e3 : Ev (fun k => if (limited l n).2 = true then (laws_FnPackage.l0 k c l n (limited l n).1 0 0) else (some (((limited l n).1.length : Int) == 0))) true := by
   rcases limited_best l n with ⟨h1, h2⟩ | ⟨h1, hv, hl2, n1, n15, B⟩
   ·rw [h1, h2]
    exact Ev.congr (fun k => by rw [if_neg (by decide)]; rfl) (Ev.now true)
   ·rw [h1]
    generalize (limited l n).1 = q at B
    have g : Ev (fun k => laws_FnPackage.j2 k c l n (costOf l q) false) true := by
     have go := other_loop l hl2 n n1 n15 q B W w4 w3 l.length 0 0 [] (by omega) rfl (Nat.zero_le _) (fun x hx => by omega) (by rw [List.drop_zero, w5]; exact Nat.le_refl _)
     refine ev_use_step eW (fun k hk => ?_) go
     rw [laws_FnPackage.j2, if_neg (by decide), hk, Option.bind_some, if_pos (by omega), if_pos (by omega), Int.toNat_natCast]
     rfl
    have gc := check_loop c l hl2 hv n n1 n15 q B g l.length 0 0 (by omega) (by rw [List.drop_zero]; unfold firstP; rw [(isort_perm _ _).length_eq]; omega)
    exact Ev.congr (fun k => by rw [if_pos rfl]; rfl) gc
  have e2 : Ev (fun k => (impl_LimitedLengths.f k l n).bind fun bt431 => ((spec_LimitedLengths.f k l n).bind fun bt435 => (if (bt431.2 != bt435.2) = true then (some false) else (if bt431.2 = true then (laws_FnPackage.l0 k c l n bt431.1 0 0) else (some ((bt431.1.length : Int) == 0)))))) true :=
   ev_bind eI (ev_bind eR (Ev.congr (fun k => by rw [bne_self_eq_false, if_neg (by decide)]) e3))
  have main : Ev (fun k => laws_FnPackage.f k c) true := by
   refine ev_use eD (fun k hk => ?_) e2
   have hk : spec_DrawLimitedLengths.f k c = _ := hk
   show laws_FnPackage.f k c = _
   unfold laws_FnPackage.f laws_big.f
   rw [Option.bind_some, decide_eq_false hb, if_neg (by decide), hk, Option.bind_some]
  obtain ⟨K, e⟩ := main
  exact ⟨K, e K (Nat.le_refl _)⟩

end Go.Proofs.Ytimomemkbcidnaa.Pure
