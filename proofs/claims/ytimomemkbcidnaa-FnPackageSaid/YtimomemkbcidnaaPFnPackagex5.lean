-- Written by a program of this session (a changed print); Lean checks it.
import Derived.Test.YtimomemkbcidnaaPFnPackagex0
import Derived.Test.YtimomemkbcidnaaPFnPackagex1
import Derived.Test.YtimomemkbcidnaaPFnPackagex3
import Derived.Test.YtimomemkbcidnaaPFnPackagex4
namespace Go.Proofs.Ytimomemkbcidnaa.PFnPackage
open Go.RowKit Go.Proofs.YtimomemkbcidnaaW.PrintWords Go.Proofs.YtimomemkbcidnaaW.PrintLast Go.Proofs.YtimomemkbcidnaaW.PrintMore
attribute [local go_sem] max2_int min2_int max_two min_two max_three min_three max_four min_four   -- for this text's walks alone
set_option linter.unusedVariables false
set_option linter.unusedSimpArgs false
open Act renaming put → sPu
open List renaming setIfInBounds_toArray → sIa, set_cons_zero → sCz, set_cons_succ → sCs
open Bool renaming true → Y, false → Z

/-! ### spec_LimitedLengths: function 38 -/
mutual
def spec_LimitedLengths.j0 : Nat → List Int → Int → Bool → Option (List Int × Bool)
  | 0, _, _, _ => none
  | k + 1, x0, x1, x6 => spec_LimitedLengths.l0 k x0 x1 x6 0 0
def spec_LimitedLengths.l0 : Nat → List Int → Int → Bool → Int → Int → Option (List Int × Bool)
  | 0, _, _, _, _, _ => none
  | k + 1, x0, x1, x6, x7, x8 => if x8 < (x0.length : Int) then (spec_LimitedLengths.j2 k x0 x1 x6 x7 x8 x6) else (spec_LimitedLengths.j2 k x0 x1 x6 x7 x8 false)
def spec_LimitedLengths.j2 : Nat → List Int → Int → Bool → Int → Int → Bool → Option (List Int × Bool)
  | 0, _, _, _, _, _, _ => none
  | k + 1, x0, x1, x6, x7, x8, x28 => if x28 = true then (if 0 ≤ x8 then (if x8 < (x0.length : Int) then ((spec_l01In.f (rd x0 x8) 0 12000).bind fun t261 => (if (rd x0 x8) > 0 then (spec_LimitedLengths.l0 k x0 x1 t261 (wrap64 (x7 + 1)) (wrap64 (x8 + 1))) else (spec_LimitedLengths.l0 k x0 x1 t261 x7 (wrap64 (x8 + 1))))) else (none)) else (none)) else (if x6 = true then ((spec_l01Pow.f k x1).bind fun t263 => (spec_LimitedLengths.j3 k x0 x1 x7 (decide (x7 > t263)))) else (spec_LimitedLengths.j3 k x0 x1 x7 true))
def spec_LimitedLengths.j3 : Nat → List Int → Int → Int → Bool → Option (List Int × Bool)
  | 0, _, _, _, _ => none
  | k + 1, x0, x1, x7, x50 => if x50 = true then (some ((([] : List Int)), false)) else (if 0 ≤ (x0.length : Int) then (if ((x0.length : Int) : Int).toNat ≤ 35184372088832 then ((some (List.replicate ((x0.length : Int) : Int).toNat 0 : List Int)).bind fun y267 => ((spec_l04First.f k x0).bind fun t270 => (if x7 = 1 then (if 0 < (t270.length : Int) then (if 0 < (((rd_T96 t270 0).f1).length : Int) then (if 0 ≤ (rd ((rd_T96 t270 0).f1) 0) then (if (rd ((rd_T96 t270 0).f1) 0) < (y267.length : Int) then (spec_LimitedLengths.j4 k x1 x7 (y267.set ((rd ((rd_T96 t270 0).f1) 0) : Int).toNat 1) t270) else (none)) else (none)) else (none)) else (none)) else (spec_LimitedLengths.j4 k x1 x7 y267 t270)))) else (none)) else (none))
def spec_LimitedLengths.j4 : Nat → Int → Int → List Int → List (S96) → Option (List Int × Bool)
  | 0, _, _, _, _ => none
  | k + 1, x1, x7, x9, x10 => if x7 < 2 then (some (x9, true)) else (spec_LimitedLengths.l1 k x1 x7 x9 x10 x10 1)
def spec_LimitedLengths.l1 : Nat → Int → Int → List Int → List (S96) → List (S96) → Int → Option (List Int × Bool)
  | 0, _, _, _, _, _, _ => none
  | k + 1, x1, x7, x9, x10, x11, x12 => if x12 < x1 then ((spec_l04Next.f k x10 x11).bind fun t276 => (spec_LimitedLengths.l1 k x1 x7 x9 x10 t276 (wrap64 (x12 + 1)))) else (spec_LimitedLengths.l2 k x7 x9 x11 0)
def spec_LimitedLengths.l2 : Nat → Int → List Int → List (S96) → Int → Option (List Int × Bool)
  | 0, _, _, _, _ => none
  | k + 1, x7, x9, x11, x13 => if x13 < (wrap64 ((wrap64 (2 * x7)) - 2)) then (spec_LimitedLengths.l3 k x7 x9 x11 x13 0) else (some (x9, true))
def spec_LimitedLengths.l3 : Nat → Int → List Int → List (S96) → Int → Int → Option (List Int × Bool)
  | 0, _, _, _, _, _ => none
  | k + 1, x7, x9, x11, x13, x14 => if 0 ≤ x13 then (if x13 < (x11.length : Int) then (if x14 < (((rd_T96 x11 x13).f1).length : Int) then (if 0 ≤ x14 then (if 0 ≤ (rd ((rd_T96 x11 x13).f1) x14) then (if (rd ((rd_T96 x11 x13).f1) x14) < (x9.length : Int) then (spec_LimitedLengths.l3 k x7 (x9.set ((rd ((rd_T96 x11 x13).f1) x14) : Int).toNat (wrap64 ((rd x9 (rd ((rd_T96 x11 x13).f1) x14)) + 1))) x11 x13 (wrap64 (x14 + 1))) else (none)) else (none)) else (none)) else (spec_LimitedLengths.l2 k x7 x9 x11 (wrap64 (x13 + 1)))) else (none)) else (none)
end
def spec_LimitedLengths.f (k : Nat) (l0 : List Int) (a1 : Int) : Option (List Int × Bool) := if (l0.length : Int) ≤ 288 then ((spec_l01In.f a1 1 15).bind fun t259 => (spec_LimitedLengths.j0 k l0 a1 t259)) else (spec_LimitedLengths.j0 k l0 a1 false)
theorem spec_LimitedLengths.mono_l : ∀ k, (∀ y0 y1 y2, LeO (spec_LimitedLengths.j0 k y0 y1 y2) (spec_LimitedLengths.j0 (k + 1) y0 y1 y2)) ∧ (∀ y0 y1 y2 y3 y4, LeO (spec_LimitedLengths.l0 k y0 y1 y2 y3 y4) (spec_LimitedLengths.l0 (k + 1) y0 y1 y2 y3 y4)) ∧ (∀ y0 y1 y2 y3 y4 y5, LeO (spec_LimitedLengths.j2 k y0 y1 y2 y3 y4 y5) (spec_LimitedLengths.j2 (k + 1) y0 y1 y2 y3 y4 y5)) ∧ (∀ y0 y1 y2 y3, LeO (spec_LimitedLengths.j3 k y0 y1 y2 y3) (spec_LimitedLengths.j3 (k + 1) y0 y1 y2 y3)) ∧ (∀ y0 y1 y2 y3, LeO (spec_LimitedLengths.j4 k y0 y1 y2 y3) (spec_LimitedLengths.j4 (k + 1) y0 y1 y2 y3)) ∧ (∀ y0 y1 y2 y3 y4 y5, LeO (spec_LimitedLengths.l1 k y0 y1 y2 y3 y4 y5) (spec_LimitedLengths.l1 (k + 1) y0 y1 y2 y3 y4 y5)) ∧ (∀ y0 y1 y2 y3, LeO (spec_LimitedLengths.l2 k y0 y1 y2 y3) (spec_LimitedLengths.l2 (k + 1) y0 y1 y2 y3)) ∧ (∀ y0 y1 y2 y3 y4, LeO (spec_LimitedLengths.l3 k y0 y1 y2 y3 y4) (spec_LimitedLengths.l3 (k + 1) y0 y1 y2 y3 y4))
  | 0 => ⟨fun _ _ _ r h => by simp [spec_LimitedLengths.j0] at h, fun _ _ _ _ _ r h => by simp [spec_LimitedLengths.l0] at h, fun _ _ _ _ _ _ r h => by simp [spec_LimitedLengths.j2] at h, fun _ _ _ _ r h => by simp [spec_LimitedLengths.j3] at h, fun _ _ _ _ r h => by simp [spec_LimitedLengths.j4] at h, fun _ _ _ _ _ _ r h => by simp [spec_LimitedLengths.l1] at h, fun _ _ _ _ r h => by simp [spec_LimitedLengths.l2] at h, fun _ _ _ _ _ r h => by simp [spec_LimitedLengths.l3] at h⟩
  | k + 1 => by
    obtain ⟨ih0, ih1, ih2, ih3, ih4, ih5, ih6, ih7⟩ := spec_LimitedLengths.mono_l k
    refine ⟨?_, ?_, ?_, ?_, ?_, ?_, ?_, ?_⟩
    · intro y0 y1 y2
      unfold spec_LimitedLengths.j0
      repeat' first
      | (with_reducible exact ih0 _ _ _)
      | (with_reducible exact ih1 _ _ _ _ _)
      | (with_reducible exact ih2 _ _ _ _ _ _)
      | (with_reducible exact ih3 _ _ _ _)
      | (with_reducible exact ih4 _ _ _ _)
      | (with_reducible exact ih5 _ _ _ _ _ _)
      | (with_reducible exact ih6 _ _ _ _)
      | (with_reducible exact ih7 _ _ _ _ _)
      | (with_reducible exact spec_l01Pow.mono _ _)
      | (with_reducible exact spec_l04First.mono _ _)
      | (with_reducible exact spec_l04Next.mono _ _ _)
      | (with_reducible exact LeO.refl _)
      | (with_reducible exact LeO.none _)
      | (with_reducible refine LeO.ite ?_ ?_)
      | (with_reducible refine LeO.bind ?_ (fun _ => ?_))
      | exact ih0 _ _ _
      | exact ih1 _ _ _ _ _
      | exact ih2 _ _ _ _ _ _
      | exact ih3 _ _ _ _
      | exact ih4 _ _ _ _
      | exact ih5 _ _ _ _ _ _
      | exact ih6 _ _ _ _
      | exact ih7 _ _ _ _ _
      | exact spec_l01Pow.mono _ _
      | exact spec_l04First.mono _ _
      | exact spec_l04Next.mono _ _ _
      | exact LeO.none _
      | refine LeO.ite ?_ ?_
      | refine LeO.bind ?_ (fun _ => ?_)
    · intro y0 y1 y2 y3 y4
      unfold spec_LimitedLengths.l0
      repeat' first
      | (with_reducible exact ih0 _ _ _)
      | (with_reducible exact ih1 _ _ _ _ _)
      | (with_reducible exact ih2 _ _ _ _ _ _)
      | (with_reducible exact ih3 _ _ _ _)
      | (with_reducible exact ih4 _ _ _ _)
      | (with_reducible exact ih5 _ _ _ _ _ _)
      | (with_reducible exact ih6 _ _ _ _)
      | (with_reducible exact ih7 _ _ _ _ _)
      | (with_reducible exact spec_l01Pow.mono _ _)
      | (with_reducible exact spec_l04First.mono _ _)
      | (with_reducible exact spec_l04Next.mono _ _ _)
      | (with_reducible exact LeO.refl _)
      | (with_reducible exact LeO.none _)
      | (with_reducible refine LeO.ite ?_ ?_)
      | (with_reducible refine LeO.bind ?_ (fun _ => ?_))
      | exact ih0 _ _ _
      | exact ih1 _ _ _ _ _
      | exact ih2 _ _ _ _ _ _
      | exact ih3 _ _ _ _
      | exact ih4 _ _ _ _
      | exact ih5 _ _ _ _ _ _
      | exact ih6 _ _ _ _
      | exact ih7 _ _ _ _ _
      | exact spec_l01Pow.mono _ _
      | exact spec_l04First.mono _ _
      | exact spec_l04Next.mono _ _ _
      | exact LeO.none _
      | refine LeO.ite ?_ ?_
      | refine LeO.bind ?_ (fun _ => ?_)
    · intro y0 y1 y2 y3 y4 y5
      unfold spec_LimitedLengths.j2
      repeat' first
      | (with_reducible exact ih0 _ _ _)
      | (with_reducible exact ih1 _ _ _ _ _)
      | (with_reducible exact ih2 _ _ _ _ _ _)
      | (with_reducible exact ih3 _ _ _ _)
      | (with_reducible exact ih4 _ _ _ _)
      | (with_reducible exact ih5 _ _ _ _ _ _)
      | (with_reducible exact ih6 _ _ _ _)
      | (with_reducible exact ih7 _ _ _ _ _)
      | (with_reducible exact spec_l01Pow.mono _ _)
      | (with_reducible exact spec_l04First.mono _ _)
      | (with_reducible exact spec_l04Next.mono _ _ _)
      | (with_reducible exact LeO.refl _)
      | (with_reducible exact LeO.none _)
      | (with_reducible refine LeO.ite ?_ ?_)
      | (with_reducible refine LeO.bind ?_ (fun _ => ?_))
      | exact ih0 _ _ _
      | exact ih1 _ _ _ _ _
      | exact ih2 _ _ _ _ _ _
      | exact ih3 _ _ _ _
      | exact ih4 _ _ _ _
      | exact ih5 _ _ _ _ _ _
      | exact ih6 _ _ _ _
      | exact ih7 _ _ _ _ _
      | exact spec_l01Pow.mono _ _
      | exact spec_l04First.mono _ _
      | exact spec_l04Next.mono _ _ _
      | exact LeO.none _
      | refine LeO.ite ?_ ?_
      | refine LeO.bind ?_ (fun _ => ?_)
    · intro y0 y1 y2 y3
      unfold spec_LimitedLengths.j3
      repeat' first
      | (with_reducible exact ih0 _ _ _)
      | (with_reducible exact ih1 _ _ _ _ _)
      | (with_reducible exact ih2 _ _ _ _ _ _)
      | (with_reducible exact ih3 _ _ _ _)
      | (with_reducible exact ih4 _ _ _ _)
      | (with_reducible exact ih5 _ _ _ _ _ _)
      | (with_reducible exact ih6 _ _ _ _)
      | (with_reducible exact ih7 _ _ _ _ _)
      | (with_reducible exact spec_l01Pow.mono _ _)
      | (with_reducible exact spec_l04First.mono _ _)
      | (with_reducible exact spec_l04Next.mono _ _ _)
      | (with_reducible exact LeO.refl _)
      | (with_reducible exact LeO.none _)
      | (with_reducible refine LeO.ite ?_ ?_)
      | (with_reducible refine LeO.bind ?_ (fun _ => ?_))
      | exact ih0 _ _ _
      | exact ih1 _ _ _ _ _
      | exact ih2 _ _ _ _ _ _
      | exact ih3 _ _ _ _
      | exact ih4 _ _ _ _
      | exact ih5 _ _ _ _ _ _
      | exact ih6 _ _ _ _
      | exact ih7 _ _ _ _ _
      | exact spec_l01Pow.mono _ _
      | exact spec_l04First.mono _ _
      | exact spec_l04Next.mono _ _ _
      | exact LeO.none _
      | refine LeO.ite ?_ ?_
      | refine LeO.bind ?_ (fun _ => ?_)
    · intro y0 y1 y2 y3
      unfold spec_LimitedLengths.j4
      repeat' first
      | (with_reducible exact ih0 _ _ _)
      | (with_reducible exact ih1 _ _ _ _ _)
      | (with_reducible exact ih2 _ _ _ _ _ _)
      | (with_reducible exact ih3 _ _ _ _)
      | (with_reducible exact ih4 _ _ _ _)
      | (with_reducible exact ih5 _ _ _ _ _ _)
      | (with_reducible exact ih6 _ _ _ _)
      | (with_reducible exact ih7 _ _ _ _ _)
      | (with_reducible exact spec_l01Pow.mono _ _)
      | (with_reducible exact spec_l04First.mono _ _)
      | (with_reducible exact spec_l04Next.mono _ _ _)
      | (with_reducible exact LeO.refl _)
      | (with_reducible exact LeO.none _)
      | (with_reducible refine LeO.ite ?_ ?_)
      | (with_reducible refine LeO.bind ?_ (fun _ => ?_))
      | exact ih0 _ _ _
      | exact ih1 _ _ _ _ _
      | exact ih2 _ _ _ _ _ _
      | exact ih3 _ _ _ _
      | exact ih4 _ _ _ _
      | exact ih5 _ _ _ _ _ _
      | exact ih6 _ _ _ _
      | exact ih7 _ _ _ _ _
      | exact spec_l01Pow.mono _ _
      | exact spec_l04First.mono _ _
      | exact spec_l04Next.mono _ _ _
      | exact LeO.none _
      | refine LeO.ite ?_ ?_
      | refine LeO.bind ?_ (fun _ => ?_)
    · intro y0 y1 y2 y3 y4 y5
      unfold spec_LimitedLengths.l1
      repeat' first
      | (with_reducible exact ih0 _ _ _)
      | (with_reducible exact ih1 _ _ _ _ _)
      | (with_reducible exact ih2 _ _ _ _ _ _)
      | (with_reducible exact ih3 _ _ _ _)
      | (with_reducible exact ih4 _ _ _ _)
      | (with_reducible exact ih5 _ _ _ _ _ _)
      | (with_reducible exact ih6 _ _ _ _)
      | (with_reducible exact ih7 _ _ _ _ _)
      | (with_reducible exact spec_l01Pow.mono _ _)
      | (with_reducible exact spec_l04First.mono _ _)
      | (with_reducible exact spec_l04Next.mono _ _ _)
      | (with_reducible exact LeO.refl _)
      | (with_reducible exact LeO.none _)
      | (with_reducible refine LeO.ite ?_ ?_)
      | (with_reducible refine LeO.bind ?_ (fun _ => ?_))
      | exact ih0 _ _ _
      | exact ih1 _ _ _ _ _
      | exact ih2 _ _ _ _ _ _
      | exact ih3 _ _ _ _
      | exact ih4 _ _ _ _
      | exact ih5 _ _ _ _ _ _
      | exact ih6 _ _ _ _
      | exact ih7 _ _ _ _ _
      | exact spec_l01Pow.mono _ _
      | exact spec_l04First.mono _ _
      | exact spec_l04Next.mono _ _ _
      | exact LeO.none _
      | refine LeO.ite ?_ ?_
      | refine LeO.bind ?_ (fun _ => ?_)
    · intro y0 y1 y2 y3
      unfold spec_LimitedLengths.l2
      repeat' first
      | (with_reducible exact ih0 _ _ _)
      | (with_reducible exact ih1 _ _ _ _ _)
      | (with_reducible exact ih2 _ _ _ _ _ _)
      | (with_reducible exact ih3 _ _ _ _)
      | (with_reducible exact ih4 _ _ _ _)
      | (with_reducible exact ih5 _ _ _ _ _ _)
      | (with_reducible exact ih6 _ _ _ _)
      | (with_reducible exact ih7 _ _ _ _ _)
      | (with_reducible exact spec_l01Pow.mono _ _)
      | (with_reducible exact spec_l04First.mono _ _)
      | (with_reducible exact spec_l04Next.mono _ _ _)
      | (with_reducible exact LeO.refl _)
      | (with_reducible exact LeO.none _)
      | (with_reducible refine LeO.ite ?_ ?_)
      | (with_reducible refine LeO.bind ?_ (fun _ => ?_))
      | exact ih0 _ _ _
      | exact ih1 _ _ _ _ _
      | exact ih2 _ _ _ _ _ _
      | exact ih3 _ _ _ _
      | exact ih4 _ _ _ _
      | exact ih5 _ _ _ _ _ _
      | exact ih6 _ _ _ _
      | exact ih7 _ _ _ _ _
      | exact spec_l01Pow.mono _ _
      | exact spec_l04First.mono _ _
      | exact spec_l04Next.mono _ _ _
      | exact LeO.none _
      | refine LeO.ite ?_ ?_
      | refine LeO.bind ?_ (fun _ => ?_)
    · intro y0 y1 y2 y3 y4
      unfold spec_LimitedLengths.l3
      repeat' first
      | (with_reducible exact ih0 _ _ _)
      | (with_reducible exact ih1 _ _ _ _ _)
      | (with_reducible exact ih2 _ _ _ _ _ _)
      | (with_reducible exact ih3 _ _ _ _)
      | (with_reducible exact ih4 _ _ _ _)
      | (with_reducible exact ih5 _ _ _ _ _ _)
      | (with_reducible exact ih6 _ _ _ _)
      | (with_reducible exact ih7 _ _ _ _ _)
      | (with_reducible exact spec_l01Pow.mono _ _)
      | (with_reducible exact spec_l04First.mono _ _)
      | (with_reducible exact spec_l04Next.mono _ _ _)
      | (with_reducible exact LeO.refl _)
      | (with_reducible exact LeO.none _)
      | (with_reducible refine LeO.ite ?_ ?_)
      | (with_reducible refine LeO.bind ?_ (fun _ => ?_))
      | exact ih0 _ _ _
      | exact ih1 _ _ _ _ _
      | exact ih2 _ _ _ _ _ _
      | exact ih3 _ _ _ _
      | exact ih4 _ _ _ _
      | exact ih5 _ _ _ _ _ _
      | exact ih6 _ _ _ _
      | exact ih7 _ _ _ _ _
      | exact spec_l01Pow.mono _ _
      | exact spec_l04First.mono _ _
      | exact spec_l04Next.mono _ _ _
      | exact LeO.none _
      | refine LeO.ite ?_ ?_
      | refine LeO.bind ?_ (fun _ => ?_)
theorem spec_LimitedLengths.mono : ∀ a0 a1 k, LeO (spec_LimitedLengths.f k a0 a1) (spec_LimitedLengths.f (k + 1) a0 a1) := by
  intro a0 a1 k
  obtain ⟨ih0, ih1, ih2, ih3, ih4, ih5, ih6, ih7⟩ := spec_LimitedLengths.mono_l k
  unfold spec_LimitedLengths.f
  repeat' first
      | (with_reducible exact ih0 _ _ _)
      | (with_reducible exact ih1 _ _ _ _ _)
      | (with_reducible exact ih2 _ _ _ _ _ _)
      | (with_reducible exact ih3 _ _ _ _)
      | (with_reducible exact ih4 _ _ _ _)
      | (with_reducible exact ih5 _ _ _ _ _ _)
      | (with_reducible exact ih6 _ _ _ _)
      | (with_reducible exact ih7 _ _ _ _ _)
      | (with_reducible exact spec_l01Pow.mono _ _)
      | (with_reducible exact spec_l04First.mono _ _)
      | (with_reducible exact spec_l04Next.mono _ _ _)
      | (with_reducible exact LeO.refl _)
      | (with_reducible exact LeO.none _)
      | (with_reducible refine LeO.ite ?_ ?_)
      | (with_reducible refine LeO.bind ?_ (fun _ => ?_))
      | exact ih0 _ _ _
      | exact ih1 _ _ _ _ _
      | exact ih2 _ _ _ _ _ _
      | exact ih3 _ _ _ _
      | exact ih4 _ _ _ _
      | exact ih5 _ _ _ _ _ _
      | exact ih6 _ _ _ _
      | exact ih7 _ _ _ _ _
      | exact spec_l01Pow.mono _ _
      | exact spec_l04First.mono _ _
      | exact spec_l04Next.mono _ _ _
      | exact LeO.none _
      | refine LeO.ite ?_ ?_
      | refine LeO.bind ?_ (fun _ => ?_)
def spec_LimitedLengths.T28 : Bool × List (List Nat × List Nat) := (true, [([], []), ([], []), ([], []), ([1, 2], [1, 2]), ([3], [3]), ([4], [4]), ([], []), ([5, 6], [5, 6]), ([7], [7]), ([], []), ([], []), ([], []), ([10, 11], [10, 11]), ([12], [12]), ([13], [13]), ([], []), ([14, 15], [14, 15]), ([16], [16]), ([9, 17], [9, 17]), ([18], [18]), ([19], [19]), ([0, 8, 0, 1, 2, 3, 4, 5, 6, 7, 8, 9, 10, 11, 12, 13, 14, 15, 16, 17, 18, 19, 20], [0, 8]), ([21, 20, 0, 1, 2, 3, 4, 5, 6, 7, 8, 9, 10, 11, 12, 13, 14, 15, 16, 17, 18, 19, 20], [20, 21])])
def spec_LimitedLengths.B28 : List Nat := [0, 0, 0, 6, 14, 30, 0, 126, 254, 0, 0, 0, 3072, 7168, 15360, 0, 64512, 130048, 261632, 523776, 1048064, 2097151, 4194303]
theorem spec_LimitedLengths.tab28 : rtab .any (opsOf Try.f38 28) = spec_LimitedLengths.T28 := by kernel_rfl
theorem spec_LimitedLengths.bits28 : waitsOk spec_LimitedLengths.T28.2 spec_LimitedLengths.B28 = true := by kernel_rfl
set_option maxHeartbeats 8000000 in
set_option maxRecDepth 100000 in
theorem spec_LimitedLengths.calls (k : Nat) (A0 : Option Addr) (c0 : Nat) (l0 : List Int) (a1 : Int) (r1 : List Int) (r2 : Bool) (w : World) (hr0 : Kd.C (Kd.int .i64) w A0 l0.length l0) (hc0 : l0.length ≤ c0) (h : spec_LimitedLengths.f k l0 a1 = some (r1, r2)) :
    Calls Try.prog 38 #[.slice A0 l0.length c0, .int .i64 a1] w fun e w' => ∃ v0_ : Value, e = .returned (.tuple #[v0_, .bool r2]) ∧ Kd.R (Kd.int .i64) 3 w' w.heap.size (fun _ => True) v0_ r1 ∧ Below w.heap.size w w' := by
 have HR0:=Aside0.mk hr0
 have HC0:=Aside0.mk hc0
 clear hr0 hc0
 have HB:=Aside0.mk (Below.refl w.heap.size w)
 have H : (if (l0.length : Int) ≤ 288 then ((spec_l01In.f a1 1 15).bind fun t259 => (spec_LimitedLengths.j0 k l0 a1 t259)) else (spec_LimitedLengths.j0 k l0 a1 false)) = some (r1,r2):=h
 clear h
 have HC3:=Aside0.mk H
 clear H
 go_enter Try.func38,Try.ntmps38
 go_upto_region 1 with (fail)
 go_cut [6] (fun v6 wc => ∃ (kq : Nat) (x6_2 : Bool),v6 = .bool x6_2∧Aside0 (spec_LimitedLengths.j0 kq l0 a1 x6_2 = some (r1,r2))∧Aside0 (kq ≤ k)∧Aside0 (Below w.heap.size w wc))
 case first =>
  have H:=HC3.out
  clear HC3
  by_cases c4 : (l0.length : Int) ≤ 288
  rotate_left
  ·rw [if_neg c4] at H
   have c4b0 : decide ((l0.length : Int) ≤ 288) = false:=decide_eq_false c4
   have c4b1 : decide (l0.length ≤ 288) = false:=decide_eq_false (by omega)
   clear c4
   (first|rw [c4b0]|(simp only [i64_w,i32_w];rw [c4b0])|skip)
   have H':=Aside0.mk H
   clear H
   go_wp2
   go_meet
   case rel => exact ⟨_,(false),(by first|rfl|(simp;done)|(simp [*];done)),H',⟨by first|omega|exact Nat.le_refl _⟩,⟨by repeat (first|(with_reducible first|exact HB.out|apply below_alloc|apply pw_below_drewN|apply below_drew1)|exact HB.out)⟩⟩
  rw [if_pos c4] at H
  have c4b0 : decide ((l0.length : Int) ≤ 288) = true:=decide_eq_true c4
  have c4b1 : decide (l0.length ≤ 288) = true:=decide_eq_true (by omega)
  clear c4
  (first|rw [c4b0]|(simp only [i64_w,i32_w];rw [c4b0])|skip)
  replace H:=Option.bind_eq_some_iff.mp H
  obtain ⟨t259,A50,H⟩:=H
  replace H : (spec_LimitedLengths.j0 k l0 a1 t259) = some (r1,r2):=H
  have A5:=Aside0.mk A50
  clear A50
  have H':=Aside0.mk H
  clear H
  go_wp2_with (first|(go_at_call 52;(with_reducible refine (spec_l01In.calls a1 1 15 t259 _ A5.out).mono ?_);rintro e w' ⟨rfl,⟨nd,rfl⟩⟩))
  go_meet
  case rel => exact ⟨_,(t259),(by first|rfl|(simp;done)|(simp [*];done)),H',⟨by first|omega|exact Nat.le_refl _⟩,⟨by repeat (first|(with_reducible first|exact HB.out|apply below_alloc|apply pw_below_drewN|apply below_drew1)|exact HB.out)⟩⟩
 case rest =>
  clear HC3
  obtain ⟨kq,x6_2,rfl,HA,HJ2,HB⟩:=hcut
  cases kq with
  | zero => exact absurd HA.out (by simp [spec_LimitedLengths.j0])
  | succ kj2 =>
   have H:=HA.out
   clear HA
   simp only [spec_LimitedLengths.j0] at H
   have H':=Aside0.mk H
   clear H
   go_wp2
   go_loopg [6,7,8] kj2 (fun kq v6 v7 v8 w' => ∃ (x6_2 : Bool) (x7_2 : Int) (x8_2 : Int),v6 = .bool x6_2∧v7 = .int .i64 x7_2∧v8 = .int .i64 x8_2∧Aside0 (spec_LimitedLengths.l0 kq l0 a1 x6_2 x7_2 x8_2 = some (r1,r2))∧Aside0 (kq ≤ kj2)∧Aside0 (Below w.heap.size w w'))
   case atStart => exact ⟨(x6_2),(0),(0),(by first|rfl|(simp;done)|(simp [*];done)),(by first|rfl|(simp;done)|(simp [*];done)),(by first|rfl|(simp;done)|(simp [*];done)),H',⟨Nat.le_refl _⟩,⟨by repeat (first|(with_reducible first|exact HB.out|apply below_alloc|apply pw_below_drewN|apply below_drew1)|exact HB.out)⟩⟩
   case round =>
    clear H'
    obtain ⟨x6_2,x7_2,x8_2,rfl,rfl,rfl,HA,HK2,HB⟩:=hrel
    cases gk with
    | zero => exact absurd HA.out (by simp [spec_LimitedLengths.l0])
    | succ k2 =>
     have H:=HA.out
     clear HA
     simp only [spec_LimitedLengths.l0] at H
     have HC6:=Aside0.mk H
     clear H
     go_upto_region 4 with (fail)
     go_cut [28] (fun v28 wc => ∃ (kq : Nat) (x28_5 : Bool),v28 = .bool x28_5∧Aside0 (spec_LimitedLengths.j2 kq l0 a1 x6_2 x7_2 x8_2 x28_5 = some (r1,r2))∧Aside0 (kq ≤ k2)∧Aside0 (Below w.heap.size w wc))
     case first =>
      have H:=HC6.out
      clear HC6
      by_cases c7 : x8_2 < (l0.length : Int)
      ·rw [if_pos c7] at H
       have c7b0 : decide (x8_2 < (l0.length : Int)) = true:=decide_eq_true c7
       clear c7
       (first|rw [c7b0]|(simp only [i64_w,i32_w];rw [c7b0])|skip)
       have H':=Aside0.mk H
       clear H
       go_wp2
       go_meet
       case rel => exact ⟨_,(x6_2),(by first|rfl|(simp;done)|(simp [*];done)),H',⟨by have:=HJ2.out;have:=HK2.out;first|omega|exact Nat.le_refl _⟩,⟨by repeat (first|(with_reducible first|exact HB.out|apply below_alloc|apply pw_below_drewN|apply below_drew1)|exact HB.out)⟩⟩
      rw [if_neg c7] at H
      have c7b0 : decide (x8_2 < (l0.length : Int)) = false:=decide_eq_false c7
      clear c7
      (first|rw [c7b0]|(simp only [i64_w,i32_w];rw [c7b0])|skip)
      have H':=Aside0.mk H
      clear H
      go_wp2
      go_meet
      case rel => exact ⟨_,(false),(by first|rfl|(simp;done)|(simp [*];done)),H',⟨by have:=HJ2.out;have:=HK2.out;first|omega|exact Nat.le_refl _⟩,⟨by repeat (first|(with_reducible first|exact HB.out|apply below_alloc|apply pw_below_drewN|apply below_drew1)|exact HB.out)⟩⟩
     case rest =>
      clear HC6
      obtain ⟨kq,x28_5,rfl,HA,HJ5,HB⟩:=hcut
      cases kq with
      | zero => exact absurd HA.out (by simp [spec_LimitedLengths.j2])
      | succ kj5 =>
       have H:=HA.out
       clear HA
       simp only [spec_LimitedLengths.j2] at H
       by_cases c8 : x28_5 = true
       ·subst c8
        have H1 : (if 0 ≤ x8_2 then (if x8_2 < (l0.length : Int) then ((spec_l01In.f (rd l0 x8_2) 0 12000).bind fun t261 => (if (rd l0 x8_2) > 0 then (spec_LimitedLengths.l0 kj5 l0 a1 t261 (wrap64 (x7_2 + 1)) (wrap64 (x8_2 + 1))) else (spec_LimitedLengths.l0 kj5 l0 a1 t261 x7_2 (wrap64 (x8_2 + 1))))) else (none)) else (none)) = some (r1,r2):=by rw [if_pos rfl] at H;exact H
        clear H
        have H:=H1
        clear H1
        by_cases c9 : 0 ≤ x8_2
        rotate_left
        ·rw [if_neg c9] at H
         exact absurd H (by simp)
        rw [if_pos c9] at H
        have c9b0 : decide (0 ≤ x8_2) = true:=decide_eq_true c9
        clear c9
        by_cases c10 : x8_2 < (l0.length : Int)
        rotate_left
        ·rw [if_neg c10] at H
         exact absurd H (by simp)
        rw [if_pos c10] at H
        have c10b0 : decide (x8_2 < (l0.length : Int)) = true:=decide_eq_true c10
        clear c10
        replace H:=Option.bind_eq_some_iff.mp H
        obtain ⟨t261,A110,H⟩:=H
        replace H : (if (rd l0 x8_2) > 0 then (spec_LimitedLengths.l0 kj5 l0 a1 t261 (wrap64 (x7_2 + 1)) (wrap64 (x8_2 + 1))) else (spec_LimitedLengths.l0 kj5 l0 a1 t261 x7_2 (wrap64 (x8_2 + 1)))) = some (r1,r2):=H
        have A11:=Aside0.mk A110
        clear A110
        by_cases c12 : (rd l0 x8_2) > 0
        rotate_left
        ·rw [if_neg c12] at H
         have c12b0 : decide (0 < (rd l0 x8_2)) = false:=decide_eq_false c12
         clear c12
         have H':=Aside0.mk H
         clear H
         have p260 : 0 ≤ (x8_2 : Int):=of_decide_eq_true (by assumption)
         have q260 : x8_2 < (l0.length : Int):=of_decide_eq_true (by assumption)
         obtain ⟨ad260,e260,hx260_0⟩:=Kd.at_int HR0.out x8_2 p260 q260
         cases e260
         replace hx260_0:=(HB.out.cell (World.block_lt_of_cell? w _ hx260_0)).trans hx260_0
         replace p260:=eq_true p260
         replace q260:=eq_true q260
         go_wp2_with (first|((with_reducible refine gate_callee (f:=52) rfl ?_);refine goesL_ (some 35) rfl rfl Try.func52 (by kernel_rfl) rfl #[.int .i64 (rd l0 x8_2),.int .i64 0,.int .i64 12000] rfl (by (try simp only [List.map_toArray,List.map_cons,List.map_nil]);first|done|rfl|(simp only [List.length_drop,List.length_take];rfl)) ?_;(with_reducible refine (spec_l01In.calls (rd l0 x8_2) 0 12000 t261 _ A11.out).mono ?_);rintro e w' ⟨rfl,⟨nd,rfl⟩⟩;refine ⟨_,rfl,?_⟩;have p262 : 0 ≤ (x8_2 : Int):=of_decide_eq_true (by assumption);have q262 : x8_2 < (l0.length : Int):=of_decide_eq_true (by assumption);obtain ⟨ad262,e262,hx262_0⟩:=Kd.at_int HR0.out x8_2 p262 q262;obtain rfl : ad260 = ad262:=(by injection e262);replace hx262_0:=(HB.out.cell (World.block_lt_of_cell? w _ hx262_0)).trans hx262_0;replace p262:=eq_true p262;replace q262:=eq_true q262))
         go_roundg kj5
         case measure => have:=HJ2.out;have:=HK2.out;have:=HJ5.out;omega
         case rel => exact ⟨(t261),(x7_2),(wrap64 (x8_2 + 1)),(by first|rfl|(simp;done)|(simp [*];done)),(by first|rfl|(simp;done)|(simp [*];done)),(by first|rfl|(simp;done)|(simp [*];done)),H',⟨by have:=HJ2.out;have:=HK2.out;have:=HJ5.out;omega⟩,⟨by repeat (first|(with_reducible first|exact HB.out|apply below_alloc|apply pw_below_drewN|apply below_drew1)|exact HB.out)⟩⟩
        rw [if_pos c12] at H
        have c12b0 : decide (0 < (rd l0 x8_2)) = true:=decide_eq_true c12
        clear c12
        have H':=Aside0.mk H
        clear H
        have p260 : 0 ≤ (x8_2 : Int):=of_decide_eq_true (by assumption)
        have q260 : x8_2 < (l0.length : Int):=of_decide_eq_true (by assumption)
        obtain ⟨ad260,e260,hx260_0⟩:=Kd.at_int HR0.out x8_2 p260 q260
        cases e260
        replace hx260_0:=(HB.out.cell (World.block_lt_of_cell? w _ hx260_0)).trans hx260_0
        replace p260:=eq_true p260
        replace q260:=eq_true q260
        go_wp2_with (first|((with_reducible refine gate_callee (f:=52) rfl ?_);refine goesL_ (some 35) rfl rfl Try.func52 (by kernel_rfl) rfl #[.int .i64 (rd l0 x8_2),.int .i64 0,.int .i64 12000] rfl (by (try simp only [List.map_toArray,List.map_cons,List.map_nil]);first|done|rfl|(simp only [List.length_drop,List.length_take];rfl)) ?_;(with_reducible refine (spec_l01In.calls (rd l0 x8_2) 0 12000 t261 _ A11.out).mono ?_);rintro e w' ⟨rfl,⟨nd,rfl⟩⟩;refine ⟨_,rfl,?_⟩;have p262 : 0 ≤ (x8_2 : Int):=of_decide_eq_true (by assumption);have q262 : x8_2 < (l0.length : Int):=of_decide_eq_true (by assumption);obtain ⟨ad262,e262,hx262_0⟩:=Kd.at_int HR0.out x8_2 p262 q262;obtain rfl : ad260 = ad262:=(by injection e262);replace hx262_0:=(HB.out.cell (World.block_lt_of_cell? w _ hx262_0)).trans hx262_0;replace p262:=eq_true p262;replace q262:=eq_true q262))
        go_roundg kj5
        case measure => have:=HJ2.out;have:=HK2.out;have:=HJ5.out;omega
        case rel => exact ⟨(t261),(wrap64 (x7_2 + 1)),(wrap64 (x8_2 + 1)),(by first|rfl|(simp;done)|(simp [*];done)),(by first|rfl|(simp;done)|(simp [*];done)),(by first|rfl|(simp;done)|(simp [*];done)),H',⟨by have:=HJ2.out;have:=HK2.out;have:=HJ5.out;omega⟩,⟨by repeat (first|(with_reducible first|exact HB.out|apply below_alloc|apply pw_below_drewN|apply below_drew1)|exact HB.out)⟩⟩
       replace c8:=Bool.eq_false_iff.mpr c8
       subst c8
       have H1 : (if x6_2 = true then ((spec_l01Pow.f kj5 a1).bind fun t263 => (spec_LimitedLengths.j3 kj5 l0 a1 x7_2 (decide (x7_2 > t263)))) else (spec_LimitedLengths.j3 kj5 l0 a1 x7_2 true)) = some (r1,r2):=by rw [if_neg (show ¬ (false = true) by decide)] at H;exact H
       clear H
       have H:=H1
       clear H1
       have HC13:=Aside0.mk H
       clear H
       go_upto_region 9 with (fail)
       go_cut [50] (fun v50 wc => ∃ (kq : Nat) (x50_12 : Bool),v50 = .bool x50_12∧Aside0 (spec_LimitedLengths.j3 kq l0 a1 x7_2 x50_12 = some (r1,r2))∧Aside0 (kq ≤ kj5)∧Aside0 (Below w.heap.size w wc))
       case first =>
        have H:=HC13.out
        clear HC13
        by_cases c14 : x6_2 = true
        rotate_left
        ·replace c14:=Bool.eq_false_iff.mpr c14
         subst c14
         have H1 : (spec_LimitedLengths.j3 kj5 l0 a1 x7_2 true) = some (r1,r2):=by rw [if_neg (show ¬ (false = true) by decide)] at H;exact H
         clear H
         have H:=H1
         clear H1
         have H':=Aside0.mk H
         clear H
         go_wp2
         go_meet
         case rel => exact ⟨_,(true),(by first|rfl|(simp;done)|(simp [*];done)),H',⟨by have:=HJ2.out;have:=HK2.out;have:=HJ5.out;first|omega|exact Nat.le_refl _⟩,⟨by repeat (first|(with_reducible first|exact HB.out|apply below_alloc|apply pw_below_drewN|apply below_drew1)|exact HB.out)⟩⟩
        subst c14
        have H1 : ((spec_l01Pow.f kj5 a1).bind fun t263 => (spec_LimitedLengths.j3 kj5 l0 a1 x7_2 (decide (x7_2 > t263)))) = some (r1,r2):=by rw [if_pos rfl] at H;exact H
        clear H
        have H:=H1
        clear H1
        replace H:=Option.bind_eq_some_iff.mp H
        obtain ⟨t263,A150,H⟩:=H
        replace H : (spec_LimitedLengths.j3 kj5 l0 a1 x7_2 (decide (x7_2 > t263))) = some (r1,r2):=H
        have A15:=Aside0.mk A150
        clear A150
        have H':=Aside0.mk H
        clear H
        go_wp2_with (first|(go_at_call 67;(with_reducible refine (spec_l01Pow.calls kj5 a1 t263 _ A15.out).mono ?_);rintro e w' ⟨rfl,⟨nd,rfl⟩⟩))
        go_meet
        case rel => exact ⟨_,(decide (x7_2 > t263)),(by first|rfl|(simp;done)|(simp [*];done)),H',⟨by have:=HJ2.out;have:=HK2.out;have:=HJ5.out;first|omega|exact Nat.le_refl _⟩,⟨by repeat (first|(with_reducible first|exact HB.out|apply below_alloc|apply pw_below_drewN|apply below_drew1)|exact HB.out)⟩⟩
       case rest =>
        clear HC13
        obtain ⟨kq,x50_12,rfl,HA,HJ12,HB⟩:=hcut
        cases kq with
        | zero => exact absurd HA.out (by simp [spec_LimitedLengths.j3])
        | succ kj12 =>
         have H:=HA.out
         clear HA
         simp only [spec_LimitedLengths.j3] at H
         by_cases c16 : x50_12 = true
         ·subst c16
          have H1 : (some ((([] : List Int)),false)) = some (r1,r2):=by rw [if_pos rfl] at H;exact H
          clear H
          have H:=H1
          clear H1
          obtain ⟨y264,hy264⟩ : ∃ y_ : List Int,y_ = (([] : List Int)):=⟨_,rfl⟩
          replace H : (some (y264,false)) = some (r1,r2):=by first|(rw [hy264];with_reducible exact H)|(have H2_:=(Option.bind_some _ _).symm.trans H;rw [hy264];with_reducible exact H2_)|(have H2_:=(Option.bind_some _ _).symm.trans H;with_reducible exact H2_)|with_reducible exact H|(rw [hy264];exact H)|exact H
          have Ny264:=Aside0.mk hy264
          clear hy264
          simp only [Option.some.injEq,Prod.mk.injEq] at H
          obtain ⟨rfl,rfl⟩:=H
          go_wp2_with (first|((with_reducible refine gate_dst (N:=51) rfl ?_);refine Kd.R_lit (Kd.int .i64) _ 3 ?hg (N:=51) ?hd (xs:=([] : List Int)) (inner:=[]) (ok:=fun _ => True) (okp:=fun _ => True) ?hr ?hp (fun _ hk => hk) trivial (Below.refl _ _) (Nat.le_refl _) (by simp) ?_;(case hd => rfl);(case hg => rfl);(case hr => first|(go_simp;done)|(go_simp;rfl));(case hp => exact (Reps.none _ _));intro v265 w17 ho18 hb hg_ hnew_;clear hg_ hnew_;(first|rw [← Ny264.out] at ho18|(simp only [Int.reduceToNat] at ho18;rw [← Ny264.out] at ho18));have n0_:=Aside0.mk (Kd.R_lower ho18 (below_size (by repeat (first|(with_reducible first|exact HB.out|apply below_alloc|apply pw_below_drewN|apply below_drew1)|exact HB.out))));have n1_:=Aside0.mk (below_step (by repeat (first|(with_reducible first|exact HB.out|apply below_alloc|apply pw_below_drewN|apply below_drew1)|exact HB.out)) hb);clear HB;have HO266:=n0_;have HB:=n1_;clear n0_ n1_;clear hb ho18))
          go_ret2
          exact ⟨_,by first|rfl|(simp [errW_none,errW_some] <;> rfl)|(simp [*,errW_none,errW_some] <;> rfl),by (with_reducible repeat (first|apply Kd.R_alloc|apply Kd.R_drewN|apply Kd.R_drew));exact HO266.out,by repeat (first|(with_reducible first|exact HB.out|apply below_alloc|apply pw_below_drewN|apply below_drew1)|exact HB.out)⟩
         replace c16:=Bool.eq_false_iff.mpr c16
         subst c16
         have H1 : (if 0 ≤ (l0.length : Int) then (if ((l0.length : Int) : Int).toNat ≤ 35184372088832 then ((some (List.replicate ((l0.length : Int) : Int).toNat 0 : List Int)).bind fun y267 => ((spec_l04First.f kj12 l0).bind fun t270 => (if x7_2 = 1 then (if 0 < (t270.length : Int) then (if 0 < (((rd_T96 t270 0).f1).length : Int) then (if 0 ≤ (rd ((rd_T96 t270 0).f1) 0) then (if (rd ((rd_T96 t270 0).f1) 0) < (y267.length : Int) then (spec_LimitedLengths.j4 kj12 a1 x7_2 (y267.set ((rd ((rd_T96 t270 0).f1) 0) : Int).toNat 1) t270) else (none)) else (none)) else (none)) else (none)) else (spec_LimitedLengths.j4 kj12 a1 x7_2 y267 t270)))) else (none)) else (none)) = some (r1,r2):=by rw [if_neg (show ¬ (false = true) by decide)] at H;exact H
         clear H
         have H:=H1
         clear H1
         by_cases c19 : 0 ≤ (l0.length : Int)
         rotate_left
         ·rw [if_neg c19] at H
          exact absurd H (by simp)
         rw [if_pos c19] at H
         have c19b0:=eq_true c19
         have c19b1 : decide (0 ≤ (l0.length : Int)) = true:=decide_eq_true c19
         clear c19
         by_cases c20 : ((l0.length : Int) : Int).toNat ≤ 35184372088832
         rotate_left
         ·rw [if_neg c20] at H
          exact absurd H (by simp)
         rw [if_pos c20] at H
         have c20b0:=eq_true c20
         have c20b1 : decide (((l0.length : Int) : Int).toNat ≤ 35184372088832) = true:=decide_eq_true c20
         clear c20
         obtain ⟨y267,hy267⟩ : ∃ y_ : List Int,y_ = (List.replicate ((l0.length : Int) : Int).toNat 0):=⟨_,rfl⟩
         replace H : ((spec_l04First.f kj12 l0).bind fun t270 => (if x7_2 = 1 then (if 0 < (t270.length : Int) then (if 0 < (((rd_T96 t270 0).f1).length : Int) then (if 0 ≤ (rd ((rd_T96 t270 0).f1) 0) then (if (rd ((rd_T96 t270 0).f1) 0) < (y267.length : Int) then (spec_LimitedLengths.j4 kj12 a1 x7_2 (y267.set ((rd ((rd_T96 t270 0).f1) 0) : Int).toNat 1) t270) else (none)) else (none)) else (none)) else (none)) else (spec_LimitedLengths.j4 kj12 a1 x7_2 y267 t270))) = some (r1,r2):=by first|(rw [hy267];with_reducible exact H)|(have H2_:=(Option.bind_some _ _).symm.trans H;rw [hy267];with_reducible exact H2_)|(have H2_:=(Option.bind_some _ _).symm.trans H;with_reducible exact H2_)|with_reducible exact H|(rw [hy267];exact H)|exact H
         have Ny267:=Aside0.mk hy267
         clear hy267
         replace H:=Option.bind_eq_some_iff.mp H
         obtain ⟨t270,A210,H⟩:=H
         replace H : (if x7_2 = 1 then (if 0 < (t270.length : Int) then (if 0 < (((rd_T96 t270 0).f1).length : Int) then (if 0 ≤ (rd ((rd_T96 t270 0).f1) 0) then (if (rd ((rd_T96 t270 0).f1) 0) < (y267.length : Int) then (spec_LimitedLengths.j4 kj12 a1 x7_2 (y267.set ((rd ((rd_T96 t270 0).f1) 0) : Int).toNat 1) t270) else (none)) else (none)) else (none)) else (none)) else (spec_LimitedLengths.j4 kj12 a1 x7_2 y267 t270)) = some (r1,r2):=H
         have A21:=Aside0.mk A210
         clear A210
         have HC22:=Aside0.mk H
         clear H
         go_upto_if 58 with (first|((with_reducible refine gate_dst (N:=54) rfl ?_);refine Kd.R_make (Kd.int .i64) _ 3 rfl (N:=54) rfl 22 _ _ rfl (l0.length : Int) rfl rfl Try.underlying22 (.int .i64 0) 8 info3 rfl (by decide) (by omega) 0 (ok:=fun _ => True) (okp:=fun _ => True) rfl (fun _ hk => hk) trivial (of_decide_eq_true (by assumption)) (Nat.le_trans (Nat.mul_le_mul_right _ (of_decide_eq_true (by assumption) : (l0.length : Int).toNat ≤ 35184372088832)) (by omega)) (Below.refl _ _) (Nat.le_refl _) ?_;intro v268 w23 ho24 hb hg_ hnew_;clear hg_ hnew_;(first|rw [← Ny267.out] at ho24|(simp only [Int.reduceToNat] at ho24;rw [← Ny267.out] at ho24));have n0_:=Aside0.mk (Kd.R_lower ho24 (below_size (by repeat (first|(with_reducible first|exact HB.out|apply below_alloc|apply pw_below_drewN|apply below_drew1)|exact HB.out))));have n1_:=Aside0.mk (below_step (by repeat (first|(with_reducible first|exact HB.out|apply below_alloc|apply pw_below_drewN|apply below_drew1)|exact HB.out)) hb);clear HB;have HO269:=n0_;have HB:=n1_;clear n0_ n1_;clear hb ho24)|((with_reducible refine gate_callee (f:=68) rfl ?_);refine goesL_ (some 56) rfl rfl Try.func68 (by kernel_rfl) rfl #[.slice A0 l0.length c0] rfl (by (try simp only [List.map_toArray,List.map_cons,List.map_nil]);first|done|rfl|(simp only [List.length_drop,List.length_take];rfl)) ?_;(with_reducible refine (spec_l04First.calls kj12 _ _ l0 t270 _ ?side1 ?side2 A21.out).mono ?_);(case side1 => repeat (first|exact (Kd.C_below HR0.out HB.out)|(with_reducible refine Kd.C_alloc ?_ _)|(with_reducible refine Kd.C_drewN ?_ _)|(with_reducible refine Kd.C_drew ?_)));(case side2 => exact HC0.out);rintro e w25 ⟨v271,rfl,ho0,hb⟩;refine ⟨_,rfl,?_⟩;have n0_:=Aside0.mk (Kd.R_below (by (with_reducible repeat (first|apply Kd.R_alloc|apply Kd.R_drewN|apply Kd.R_drew));exact HO269.out) hb);have n1_:=Aside0.mk (Kd.N_lower (Kd.N_mono (ok':=fun k_ => some k_ ≠ (v268 : Value).ownBlock) ho0 (fun k_ hk_ => (Kd.fresh' (Kd.R_lt (by (with_reducible repeat (first|apply Kd.R_alloc|apply Kd.R_drewN|apply Kd.R_drew));exact HO269.out)) k_ hk_))) (below_size (by repeat (first|(with_reducible first|exact HB.out|apply below_alloc|apply pw_below_drewN|apply below_drew1)|exact HB.out))));have n2_:=Aside0.mk (below_step (by repeat (first|(with_reducible first|exact HB.out|apply below_alloc|apply pw_below_drewN|apply below_drew1)|exact HB.out)) hb);clear HO269;clear HB;have HO269:=n0_;have HO272:=n1_;have HB:=n2_;clear n0_ n1_ n2_;(try clear hb);(try clear hb2);(try clear hk);(try clear hi);(try clear ho0)))
         (try simp only [Act.put,List.setIfInBounds_toArray,List.set_cons_zero,List.set_cons_succ])
         go_cut [] (fun wc => ∃ (kq : Nat) (x9_21 : List Int),Aside0 (spec_LimitedLengths.j4 kq a1 x7_2 x9_21 t270 = some (r1,r2))∧Aside0 (kq ≤ kj12)∧Aside0 (Kd.R (Kd.int .i64) 3 wc w.heap.size (fun _ => True) v268 x9_21)∧Aside0 (Kd.N k96 96 wc w.heap.size (fun k_ => some k_ ≠ (v268 : Value).ownBlock) v271 t270)∧Aside0 (Below w.heap.size w wc))
         case first =>
          have H:=HC22.out
          clear HC22
          by_cases c26 : x7_2 = 1
          rotate_left
          ·rw [if_neg c26] at H
           have c26b0 : (x7_2 == 1) = false:=beq_eq_false_iff_ne.mpr c26
           have c26b1 : (x7_2 != 1) = true:=bne_iff_ne.mpr c26
           (first|rw [c26b0]|(simp only [i64_w,i32_w];rw [c26b0])|skip)
           have H':=Aside0.mk H
           clear H
           go_wp2
           go_meet
           case rel => exact ⟨_,(y267),H',⟨by have:=HJ2.out;have:=HK2.out;have:=HJ5.out;have:=HJ12.out;first|omega|exact Nat.le_refl _⟩,⟨by (with_reducible repeat (first|apply Kd.R_alloc|apply Kd.R_drewN|apply Kd.R_drew));exact HO269.out⟩,⟨by (with_reducible repeat (first|apply Kd.N_alloc|apply Kd.N_drewN|apply Kd.N_drew));exact HO272.out⟩,⟨by repeat (first|(with_reducible first|exact HB.out|apply below_alloc|apply pw_below_drewN|apply below_drew1)|exact HB.out)⟩⟩
          rw [if_pos c26] at H
          have c26b0 : (x7_2 == 1) = true:=beq_iff_eq.mpr c26
          have c26b1 : (x7_2 != 1) = false:=bne_eq_false_iff_eq.mpr c26
          clear c26
          (first|rw [c26b0]|(simp only [i64_w,i32_w];rw [c26b0])|skip)
          by_cases c27 : 0 < (t270.length : Int)
          rotate_left
          ·rw [if_neg c27] at H
           exact absurd H (by simp)
          rw [if_pos c27] at H
          have c27b0 : decide (0 < (t270.length : Int)) = true:=decide_eq_true c27
          have c27b1 : decide (0 < t270.length) = true:=decide_eq_true (by omega)
          clear c27
          by_cases c28 : 0 < (((rd_T96 t270 0).f1).length : Int)
          rotate_left
          ·rw [if_neg c28] at H
           exact absurd H (by simp)
          rw [if_pos c28] at H
          have c28b0 : decide (0 < (((rd_T96 t270 0).f1).length : Int)) = true:=decide_eq_true c28
          have c28b1 : decide (0 < ((rd_T96 t270 0).f1).length) = true:=decide_eq_true (by omega)
          clear c28
          by_cases c29 : 0 ≤ (rd ((rd_T96 t270 0).f1) 0)
          rotate_left
          ·rw [if_neg c29] at H
           exact absurd H (by simp)
          rw [if_pos c29] at H
          have c29b0 : decide (0 ≤ (rd ((rd_T96 t270 0).f1) 0)) = true:=decide_eq_true c29
          clear c29
          by_cases c30 : (rd ((rd_T96 t270 0).f1) 0) < (y267.length : Int)
          rotate_left
          ·rw [if_neg c30] at H
           exact absurd H (by simp)
          rw [if_pos c30] at H
          have c30b0 : decide ((rd ((rd_T96 t270 0).f1) 0) < (y267.length : Int)) = true:=decide_eq_true c30
          clear c30
          obtain ⟨y275,hy275⟩ : ∃ y_ : List Int,y_ = (y267.set ((rd ((rd_T96 t270 0).f1) 0) : Int).toNat 1):=⟨_,rfl⟩
          replace H : (spec_LimitedLengths.j4 kj12 a1 x7_2 y275 t270) = some (r1,r2):=by first|(rw [hy275];with_reducible exact H)|(have H2_:=(Option.bind_some _ _).symm.trans H;rw [hy275];with_reducible exact H2_)|(have H2_:=(Option.bind_some _ _).symm.trans H;with_reducible exact H2_)|with_reducible exact H|(rw [hy275];exact H)|exact H
          have Ny275:=Aside0.mk hy275
          clear hy275
          have H':=Aside0.mk H
          clear H
          obtain ⟨Ao32,co32,eo32⟩:=Kd.N_slice HO272.out
          subst eo32
          have p273 : 0 ≤ (0 : Int):=(by omega)
          have q273 : 0 < (t270.length : Int):=of_decide_eq_true (by assumption)
          obtain ⟨ad273,A273_1,c273_1,e273,hx273_0,hx273_1,hl273_1,hi273_1⟩:=at_T96 (Kd.N_reads' HO272.out).2.2 0 p273 q273
          cases e273
          obtain ⟨ce273,hce273,hMe273,hcc273⟩:=Kd.N_get HO272.out z96 0 p273 (by first|exact q273|exact of_decide_eq_true (by assumption)|(have e_:=(Kd.N_reads' HO272.out).1;omega))
          obtain ⟨ua273_1,uc273_1,rfl,ul273_1,ge273_1⟩:=k96_openF hMe273
          have hv273_1:=hcc273 1 _ rfl
          rw [add_field _ _ 1 (by omega)] at hv273_1
          replace hv273_1:=Option.some.inj (hv273_1.symm.trans hx273_1)
          injection hv273_1 with hva_ hvn_ hvc_
          rw [hva_] at ge273_1
          rw [hvc_] at ul273_1
          have HL273_1:=Aside0.mk (show Kd.V (Kd.int .i64) 3 _ w.heap.size _ _ ((rd_T96 t270 0).f1) from Kd.V_mk ul273_1 ge273_1)
          clear hva_ hvn_ hvc_ ge273_1 ul273_1
          clear hcc273 hce273
          have qi273 : (0 < t270.length) = True:=eq_true (by omega)
          (try rw [show ((0 : Int)).toNat = 0 from rfl] at hx273_0)
          (try rw [show 0 * 2 = 0 from rfl] at hx273_0)
          (try rw [Addr.add_zero'] at hx273_0)
          (try rw [show ((0 : Int)).toNat = 0 from rfl] at hx273_1)
          (try rw [show 0 * 2 = 0 from rfl] at hx273_1)
          (try rw [Addr.add_zero'] at hx273_1)
          have HR273_1:=Aside0.mk hi273_1
          have HC273_1:=Aside0.mk hl273_1
          clear hi273_1 hl273_1
          replace p273:=eq_true p273
          replace q273:=eq_true q273
          have p274 : 0 ≤ (0 : Int):=(by omega)
          have q274 : 0 < (((rd_T96 t270 0).f1).length : Int):=of_decide_eq_true (by assumption)
          obtain ⟨ad274,e274,hx274_0⟩:=Kd.at_int (by repeat (first|(with_reducible exact HR273_1.out)|(with_reducible refine Kd.C_alloc ?_ _)|(with_reducible refine Kd.C_drewN ?_ _)|(with_reducible refine Kd.C_drew ?_)|exact HR273_1.out)) 0 p274 q274
          cases e274
          have qi274 : (0 < ((rd_T96 t270 0).f1).length) = True:=eq_true (by omega)
          (try rw [show ((0 : Int)).toNat = 0 from rfl] at hx274_0)
          (try rw [Addr.add_zero'] at hx274_0)
          replace p274:=eq_true p274
          replace q274:=eq_true q274
          have p31 : 0 ≤ ((rd ((rd_T96 t270 0).f1) 0) : Int):=of_decide_eq_true (by assumption)
          have q31 : ((rd ((rd_T96 t270 0).f1) 0) : Int) < ((y267.length : Int) : Int):=of_decide_eq_true (by assumption)
          obtain ⟨go31,co31,eo31,gb31,gl31,cl31,HG31⟩:=Kd.R_form HO269.out (by omega)
          (first|cases eo31|(injection eo31 with ea_ en_ ec_;(first|subst ea_|(injection ea_ with ea_;subst ea_));subst ec_;clear en_))
          have GB31:=Aside0.mk gb31
          have GG31:=Aside0.mk HG31
          clear gb31 gl31 HG31
          obtain ⟨hx31_0,hf31_0⟩:=Kd.R_celln 0 HO269.out ((rd ((rd_T96 t270 0).f1) 0) : Int) p31 q31
          replace p31:=eq_true p31
          replace q31:=eq_true q31
          have HP33:=Kd.R_putg HO269.out ((rd ((rd_T96 t270 0).f1) 0) : Int) 1
          go_wp2_with (first|((with_reducible refine gate_store (t:=3) (p:=66) rfl ?_);refine store_event (t:=3) (p:=66) (v:=?vo_w34) (w1:=(w25.setCell ⟨go31,((rd ((rd_T96 t270 0).f1) 0) : Int).toNat,none⟩ (.int .i64 1))) ?hg ?ho ?hn ?hr ?_;(case ho => rfl);(case hg => rfl);(case hn => rfl);(case hr => first|(go_simp;done)|(go_simp;rfl));intro w34 hw;have hg : w25.grownBy w34 (some go31):=(by rw [hw];exact HP33.2);have hp_ : Kd.R (Kd.int .i64) 3 w34 w.heap.size (fun _ => True) (.slice (some ⟨go31,0,none⟩) y267.length co31) y275:=(by rw [hw,Ny275.out];exact HP33.1);clear HP33;have n0_:=Aside0.mk (hp_);have n1_:=Aside0.mk (Kd.N_afterv (v:=(.slice (some ⟨go31,0,none⟩) y267.length co31)) (v1:=(.slice (some ⟨go31,0,none⟩) y267.length co31)) (ok:=(fun _ => True)) (by (with_reducible repeat (first|apply Kd.N_alloc|apply Kd.N_drewN|apply Kd.N_drew));exact Kd.N_mono HO272.out (fun _ hk => ⟨trivial,hk⟩)) hg (.inl rfl));have n2_:=Aside0.mk (Kd.V_afterv (v:=(.slice (some ⟨go31,0,none⟩) y267.length co31)) (v1:=(.slice (some ⟨go31,0,none⟩) y267.length co31)) (ok:=(fun k_ => some k_ ≠ (.slice (some ad273) t270.length co32 : Value).ownBlock)) (by (with_reducible repeat (first|apply Kd.V_alloc|apply Kd.V_drewN|apply Kd.V_drew));exact Kd.V_mono HL273_1.out (fun _ hk => ⟨hk.2,hk.1⟩)) hg (.inl rfl));have n3_:=Aside0.mk ((by rw [hw];exact below_set (HB.out) GB31.out : Below w.heap.size w w34));clear HO269;clear HO272;clear HL273_1;clear HB;have HO269:=n0_;have HO272:=n1_;have HL273_1:=n2_;have HB:=n3_;clear n0_ n1_ n2_ n3_;clear hg hw hp_))
          go_meet
          case rel => exact ⟨_,(y275),H',⟨by have:=HJ2.out;have:=HK2.out;have:=HJ5.out;have:=HJ12.out;first|omega|exact Nat.le_refl _⟩,⟨by (with_reducible repeat (first|apply Kd.R_alloc|apply Kd.R_drewN|apply Kd.R_drew));exact HO269.out⟩,⟨by (with_reducible repeat (first|apply Kd.N_alloc|apply Kd.N_drewN|apply Kd.N_drew));exact Kd.N_mono HO272.out (fun _ hk => hk.2)⟩,⟨by repeat (first|(with_reducible first|exact HB.out|apply below_alloc|apply pw_below_drewN|apply below_drew1)|exact HB.out)⟩⟩
         case rest =>
          clear HC22
          obtain ⟨kq,x9_21,HA,HJ21,HO_9,HO_10,HB⟩:=hcut
          cases kq with
          | zero => exact absurd HA.out (by simp [spec_LimitedLengths.j4])
          | succ kj21 =>
           have H:=HA.out
           clear HA
           simp only [spec_LimitedLengths.j4] at H
           by_cases c35 : x7_2 < 2
           ·rw [if_pos c35] at H
            have c35b0 : decide (x7_2 < 2) = true:=decide_eq_true c35
            clear c35
            simp only [Option.some.injEq,Prod.mk.injEq] at H
            obtain ⟨rfl,rfl⟩:=H
            go_wp2
            go_ret2
            exact ⟨_,by first|rfl|(simp [errW_none,errW_some] <;> rfl)|(simp [*,errW_none,errW_some] <;> rfl),by (with_reducible repeat (first|apply Kd.R_alloc|apply Kd.R_drewN|apply Kd.R_drew));exact HO_9.out,by repeat (first|(with_reducible first|exact HB.out|apply below_alloc|apply pw_below_drewN|apply below_drew1)|exact HB.out)⟩
           rw [if_neg c35] at H
           have c35b0 : decide (x7_2 < 2) = false:=decide_eq_false c35
           clear c35
           have H':=Aside0.mk H
           clear H
           go_wp2
           go_loopg [11,12] kj21 (fun kq v11 v12 w' => ∃ (x11_6 : List (S96)) (x12_6 : Int),v12 = .int .i64 x12_6∧Aside0 (spec_LimitedLengths.l1 kq a1 x7_2 x9_21 t270 x11_6 x12_6 = some (r1,r2))∧Aside0 (kq ≤ kj21)∧Aside0 (Kd.R (Kd.int .i64) 3 w' w.heap.size (fun _ => True) v268 x9_21)∧Aside0 (Kd.N k96 96 w' w.heap.size (fun k_ => some k_ ≠ (v268 : Value).ownBlock) v271 t270)∧Aside0 (Kd.N k96 96 w' w.heap.size (fun k_ => some k_ ≠ (v268 : Value).ownBlock) v11 x11_6)∧Aside0 (Below w.heap.size w w'))
           case atStart => exact ⟨(t270),(1),(by first|rfl|(simp;done)|(simp [*];done)),H',⟨Nat.le_refl _⟩,⟨by (with_reducible repeat (first|apply Kd.R_alloc|apply Kd.R_drewN|apply Kd.R_drew));exact HO_9.out⟩,⟨by (with_reducible repeat (first|apply Kd.N_alloc|apply Kd.N_drewN|apply Kd.N_drew));exact HO_10.out⟩,⟨by (with_reducible repeat (first|apply Kd.N_alloc|apply Kd.N_drewN|apply Kd.N_drew));exact HO_10.out⟩,⟨by repeat (first|(with_reducible first|exact HB.out|apply below_alloc|apply pw_below_drewN|apply below_drew1)|exact HB.out)⟩⟩
           case round =>
            clear H'
            obtain ⟨x11_6,x12_6,rfl,HA,HK6,HO_9,HO_10,HO_11,HB⟩:=hrel
            cases gk with
            | zero => exact absurd HA.out (by simp [spec_LimitedLengths.l1])
            | succ k6 =>
             have H:=HA.out
             clear HA
             simp only [spec_LimitedLengths.l1] at H
             by_cases c36 : x12_6 < a1
             ·rw [if_pos c36] at H
              have c36b0 : decide (x12_6 < a1) = true:=decide_eq_true c36
              clear c36
              replace H:=Option.bind_eq_some_iff.mp H
              obtain ⟨t276,A370,H⟩:=H
              replace H : (spec_LimitedLengths.l1 k6 a1 x7_2 x9_21 t270 t276 (wrap64 (x12_6 + 1))) = some (r1,r2):=H
              have A37:=Aside0.mk A370
              clear A370
              have H':=Aside0.mk H
              clear H
              obtain ⟨Ao38,co38,eo38⟩:=Kd.N_slice HO_10.out
              subst eo38
              obtain ⟨Ao39,co39,eo39⟩:=Kd.N_slice HO_11.out
              subst eo39
              go_wp2_with (first|((with_reducible refine gate_callee (f:=69) rfl ?_);refine goesL_ (some 78) rfl rfl Try.func69 (by kernel_rfl) rfl #[.slice Ao38 t270.length co38,.slice Ao39 x11_6.length co39] rfl (by (try simp only [List.map_toArray,List.map_cons,List.map_nil]);first|done|rfl|(simp only [List.length_drop,List.length_take];rfl)) ?_;(with_reducible refine (spec_l04Next.calls k6 (fun k_ => some k_ ≠ (v268 : Value).ownBlock) _ _ t270 _ _ x11_6 t276 _ ?side1 ?side2 ?side3 A37.out).mono ?_);(case side1 => exact Kd.N_V (HO_10.out));(case side2 => repeat (first|exact (Kd.N_reads' HO_11.out).2.2|(with_reducible refine Kd.C_alloc ?_ _)|(with_reducible refine Kd.C_drewN ?_ _)|(with_reducible refine Kd.C_drew ?_)));(case side3 => exact (Kd.N_reads' HO_11.out).2.1);rintro e w40 ⟨v277,rfl,ho0,hb⟩;refine ⟨_,rfl,?_⟩;have n0_:=Aside0.mk (Kd.R_below (by (with_reducible repeat (first|apply Kd.R_alloc|apply Kd.R_drewN|apply Kd.R_drew));exact HO_9.out) hb);have n1_:=Aside0.mk (Kd.N_elder' (by (with_reducible repeat (first|apply Kd.N_alloc|apply Kd.N_drewN|apply Kd.N_drew));exact HO_10.out) (Kd.N_base ho0) hb);have n2_:=Aside0.mk (Kd.N_elder' (by (with_reducible repeat (first|apply Kd.N_alloc|apply Kd.N_drewN|apply Kd.N_drew));exact HO_11.out) (Kd.N_base ho0) hb);have n3_:=Aside0.mk (Kd.N_lower (Kd.N_mono (ok':=fun k_ => some k_ ≠ (v268 : Value).ownBlock) ho0 (fun k_ hk_ => Or.elim hk_ (fun hs_ => hs_) (fun hn_ => (Kd.fresh' (Kd.R_lt (by (with_reducible repeat (first|apply Kd.R_alloc|apply Kd.R_drewN|apply Kd.R_drew));exact HO_9.out)) k_ hn_)))) (below_size (by repeat (first|(with_reducible first|exact HB.out|apply below_alloc|apply pw_below_drewN|apply below_drew1)|exact HB.out))));have n4_:=Aside0.mk (below_step (by repeat (first|(with_reducible first|exact HB.out|apply below_alloc|apply pw_below_drewN|apply below_drew1)|exact HB.out)) hb);clear HO_9;clear HO_10;clear HO_11;clear HB;have HO_9:=n0_;have HO_10:=n1_;have HO_11:=n2_;have HO278:=n3_;have HB:=n4_;clear n0_ n1_ n2_ n3_ n4_;(try clear hb);(try clear hb2);(try clear hk);(try clear hi);(try clear ho0)))
              go_roundg k6
              case measure => have:=HJ2.out;have:=HK2.out;have:=HJ5.out;have:=HJ12.out;have:=HJ21.out;have:=HK6.out;omega
              case rel => exact ⟨(t276),(wrap64 (x12_6 + 1)),(by first|rfl|(simp;done)|(simp [*];done)),H',⟨by have:=HJ2.out;have:=HK2.out;have:=HJ5.out;have:=HJ12.out;have:=HJ21.out;have:=HK6.out;omega⟩,⟨by (with_reducible repeat (first|apply Kd.R_alloc|apply Kd.R_drewN|apply Kd.R_drew));exact HO_9.out⟩,⟨by (with_reducible repeat (first|apply Kd.N_alloc|apply Kd.N_drewN|apply Kd.N_drew));first|exact HO_10.out|exact Kd.N_mono HO_10.out (fun _ hk_ => hk_.1)⟩,⟨by (with_reducible repeat (first|apply Kd.N_alloc|apply Kd.N_drewN|apply Kd.N_drew));exact HO278.out⟩,⟨by repeat (first|(with_reducible first|exact HB.out|apply below_alloc|apply pw_below_drewN|apply below_drew1)|exact HB.out)⟩⟩
             rw [if_neg c36] at H
             have c36b0 : decide (x12_6 < a1) = false:=decide_eq_false c36
             clear c36
             have H':=Aside0.mk H
             clear H
             go_wp2
             go_loopg [13] k6 (fun kq v13 w' => ∃ (x9_7 : List Int) (x13_7 : Int),v13 = .int .i64 x13_7∧Aside0 (spec_LimitedLengths.l2 kq x7_2 x9_7 x11_6 x13_7 = some (r1,r2))∧Aside0 (kq ≤ k6)∧Aside0 (Kd.R (Kd.int .i64) 3 w' w.heap.size (fun _ => True) v268 x9_7)∧Aside0 (Kd.N k96 96 w' w.heap.size (fun k_ => some k_ ≠ (v268 : Value).ownBlock) u11 x11_6)∧Aside0 (Below w.heap.size w w'))
             case atStart => exact ⟨(x9_21),(0),(by first|rfl|(simp;done)|(simp [*];done)),H',⟨Nat.le_refl _⟩,⟨by (with_reducible repeat (first|apply Kd.R_alloc|apply Kd.R_drewN|apply Kd.R_drew));exact HO_9.out⟩,⟨by (with_reducible repeat (first|apply Kd.N_alloc|apply Kd.N_drewN|apply Kd.N_drew));exact HO_11.out⟩,⟨by repeat (first|(with_reducible first|exact HB.out|apply below_alloc|apply pw_below_drewN|apply below_drew1)|exact HB.out)⟩⟩
             case round =>
              clear H'
              obtain ⟨x9_7,x13_7,rfl,HA,HK7,HO_9,HO_11,HB⟩:=hrel
              cases gk with
              | zero => exact absurd HA.out (by simp [spec_LimitedLengths.l2])
              | succ k7 =>
               have H:=HA.out
               clear HA
               simp only [spec_LimitedLengths.l2] at H
               by_cases c41 : x13_7 < (wrap64 ((wrap64 (2 * x7_2)) - 2))
               rotate_left
               ·rw [if_neg c41] at H
                have c41b0 : decide (x13_7 < (wrap64 ((wrap64 (2 * x7_2)) - 2))) = false:=decide_eq_false c41
                clear c41
                simp only [Option.some.injEq,Prod.mk.injEq] at H
                obtain ⟨rfl,rfl⟩:=H
                go_wp2
                go_ret2
                exact ⟨_,by first|rfl|(simp [errW_none,errW_some] <;> rfl)|(simp [*,errW_none,errW_some] <;> rfl),by (with_reducible repeat (first|apply Kd.R_alloc|apply Kd.R_drewN|apply Kd.R_drew));exact HO_9.out,by repeat (first|(with_reducible first|exact HB.out|apply below_alloc|apply pw_below_drewN|apply below_drew1)|exact HB.out)⟩
               rw [if_pos c41] at H
               have c41b0 : decide (x13_7 < (wrap64 ((wrap64 (2 * x7_2)) - 2))) = true:=decide_eq_true c41
               clear c41
               have H':=Aside0.mk H
               clear H
               go_wp2
               go_loopg [14] k7 (fun kq v14 w' => ∃ (x9_8 : List Int) (x14_8 : Int),v14 = .int .i64 x14_8∧Aside0 (spec_LimitedLengths.l3 kq x7_2 x9_8 x11_6 x13_7 x14_8 = some (r1,r2))∧Aside0 (kq ≤ k7)∧Aside0 (Kd.R (Kd.int .i64) 3 w' w.heap.size (fun _ => True) v268 x9_8)∧Aside0 (Kd.N k96 96 w' w.heap.size (fun k_ => some k_ ≠ (v268 : Value).ownBlock) u11 x11_6)∧Aside0 (Below w.heap.size w w'))
               case atStart => exact ⟨(x9_7),(0),(by first|rfl|(simp;done)|(simp [*];done)),H',⟨Nat.le_refl _⟩,⟨by (with_reducible repeat (first|apply Kd.R_alloc|apply Kd.R_drewN|apply Kd.R_drew));exact HO_9.out⟩,⟨by (with_reducible repeat (first|apply Kd.N_alloc|apply Kd.N_drewN|apply Kd.N_drew));exact HO_11.out⟩,⟨by repeat (first|(with_reducible first|exact HB.out|apply below_alloc|apply pw_below_drewN|apply below_drew1)|exact HB.out)⟩⟩
               case round =>
                clear H'
                obtain ⟨x9_8,x14_8,rfl,HA,HK8,HO_9,HO_11,HB⟩:=hrel
                cases gk with
                | zero => exact absurd HA.out (by simp [spec_LimitedLengths.l3])
                | succ k8 =>
                 have H:=HA.out
                 clear HA
                 simp only [spec_LimitedLengths.l3] at H
                 by_cases c42 : 0 ≤ x13_7
                 rotate_left
                 ·rw [if_neg c42] at H
                  exact absurd H (by simp)
                 rw [if_pos c42] at H
                 have c42b0 : decide (0 ≤ x13_7) = true:=decide_eq_true c42
                 clear c42
                 by_cases c43 : x13_7 < (x11_6.length : Int)
                 rotate_left
                 ·rw [if_neg c43] at H
                  exact absurd H (by simp)
                 rw [if_pos c43] at H
                 have c43b0 : decide (x13_7 < (x11_6.length : Int)) = true:=decide_eq_true c43
                 clear c43
                 by_cases c44 : x14_8 < (((rd_T96 x11_6 x13_7).f1).length : Int)
                 rotate_left
                 ·rw [if_neg c44] at H
                  have c44b0 : decide (x14_8 < (((rd_T96 x11_6 x13_7).f1).length : Int)) = false:=decide_eq_false c44
                  clear c44
                  have H':=Aside0.mk H
                  clear H
                  obtain ⟨Ao53,co53,eo53⟩:=Kd.N_slice HO_11.out
                  subst eo53
                  have p279 : 0 ≤ (x13_7 : Int):=of_decide_eq_true (by assumption)
                  have q279 : x13_7 < (x11_6.length : Int):=of_decide_eq_true (by assumption)
                  obtain ⟨ad279,A279_1,c279_1,e279,hx279_0,hx279_1,hl279_1,hi279_1⟩:=at_T96 (Kd.N_reads' HO_11.out).2.2 x13_7 p279 q279
                  cases e279
                  obtain ⟨ce279,hce279,hMe279,hcc279⟩:=Kd.N_get HO_11.out z96 x13_7 p279 (by first|exact q279|exact of_decide_eq_true (by assumption)|(have e_:=(Kd.N_reads' HO_11.out).1;omega))
                  obtain ⟨ua279_1,uc279_1,rfl,ul279_1,ge279_1⟩:=k96_openF hMe279
                  have hv279_1:=hcc279 1 _ rfl
                  rw [add_field _ _ 1 (by omega)] at hv279_1
                  replace hv279_1:=Option.some.inj (hv279_1.symm.trans hx279_1)
                  injection hv279_1 with hva_ hvn_ hvc_
                  rw [hva_] at ge279_1
                  rw [hvc_] at ul279_1
                  have HL279_1:=Aside0.mk (show Kd.V (Kd.int .i64) 3 _ w.heap.size _ _ ((rd_T96 x11_6 x13_7).f1) from Kd.V_mk ul279_1 ge279_1)
                  clear hva_ hvn_ hvc_ ge279_1 ul279_1
                  clear hcc279 hce279
                  have HR279_1:=Aside0.mk hi279_1
                  have HC279_1:=Aside0.mk hl279_1
                  clear hi279_1 hl279_1
                  replace p279:=eq_true p279
                  replace q279:=eq_true q279
                  go_wp2
                  go_roundg k8
                  case measure => have:=HJ2.out;have:=HK2.out;have:=HJ5.out;have:=HJ12.out;have:=HJ21.out;have:=HK6.out;have:=HK7.out;have:=HK8.out;omega
                  case rel => exact ⟨(x9_8),(wrap64 (x13_7 + 1)),(by first|rfl|(simp;done)|(simp [*];done)),H',⟨by have:=HJ2.out;have:=HK2.out;have:=HJ5.out;have:=HJ12.out;have:=HJ21.out;have:=HK6.out;have:=HK7.out;have:=HK8.out;omega⟩,⟨by (with_reducible repeat (first|apply Kd.R_alloc|apply Kd.R_drewN|apply Kd.R_drew));exact HO_9.out⟩,⟨by (with_reducible repeat (first|apply Kd.N_alloc|apply Kd.N_drewN|apply Kd.N_drew));exact HO_11.out⟩,⟨by repeat (first|(with_reducible first|exact HB.out|apply below_alloc|apply pw_below_drewN|apply below_drew1)|exact HB.out)⟩⟩
                 rw [if_pos c44] at H
                 have c44b0 : decide (x14_8 < (((rd_T96 x11_6 x13_7).f1).length : Int)) = true:=decide_eq_true c44
                 clear c44
                 by_cases c45 : 0 ≤ x14_8
                 rotate_left
                 ·rw [if_neg c45] at H
                  exact absurd H (by simp)
                 rw [if_pos c45] at H
                 have c45b0 : decide (0 ≤ x14_8) = true:=decide_eq_true c45
                 clear c45
                 by_cases c46 : 0 ≤ (rd ((rd_T96 x11_6 x13_7).f1) x14_8)
                 rotate_left
                 ·rw [if_neg c46] at H
                  exact absurd H (by simp)
                 rw [if_pos c46] at H
                 have c46b0 : decide (0 ≤ (rd ((rd_T96 x11_6 x13_7).f1) x14_8)) = true:=decide_eq_true c46
                 clear c46
                 by_cases c47 : (rd ((rd_T96 x11_6 x13_7).f1) x14_8) < (x9_8.length : Int)
                 rotate_left
                 ·rw [if_neg c47] at H
                  exact absurd H (by simp)
                 rw [if_pos c47] at H
                 have c47b0 : decide ((rd ((rd_T96 x11_6 x13_7).f1) x14_8) < (x9_8.length : Int)) = true:=decide_eq_true c47
                 clear c47
                 obtain ⟨y285,hy285⟩ : ∃ y_ : List Int,y_ = (x9_8.set ((rd ((rd_T96 x11_6 x13_7).f1) x14_8) : Int).toNat (wrap64 ((rd x9_8 (rd ((rd_T96 x11_6 x13_7).f1) x14_8)) + 1))):=⟨_,rfl⟩
                 replace H : (spec_LimitedLengths.l3 k8 x7_2 y285 x11_6 x13_7 (wrap64 (x14_8 + 1))) = some (r1,r2):=by first|(rw [hy285];with_reducible exact H)|(have H2_:=(Option.bind_some _ _).symm.trans H;rw [hy285];with_reducible exact H2_)|(have H2_:=(Option.bind_some _ _).symm.trans H;with_reducible exact H2_)|with_reducible exact H|(rw [hy285];exact H)|exact H
                 have Ny285:=Aside0.mk hy285
                 clear hy285
                 have H':=Aside0.mk H
                 clear H
                 obtain ⟨Ao49,co49,eo49⟩:=Kd.N_slice HO_11.out
                 subst eo49
                 have p279 : 0 ≤ (x13_7 : Int):=of_decide_eq_true (by assumption)
                 have q279 : x13_7 < (x11_6.length : Int):=of_decide_eq_true (by assumption)
                 obtain ⟨ad279,A279_1,c279_1,e279,hx279_0,hx279_1,hl279_1,hi279_1⟩:=at_T96 (Kd.N_reads' HO_11.out).2.2 x13_7 p279 q279
                 cases e279
                 obtain ⟨ce279,hce279,hMe279,hcc279⟩:=Kd.N_get HO_11.out z96 x13_7 p279 (by first|exact q279|exact of_decide_eq_true (by assumption)|(have e_:=(Kd.N_reads' HO_11.out).1;omega))
                 obtain ⟨ua279_1,uc279_1,rfl,ul279_1,ge279_1⟩:=k96_openF hMe279
                 have hv279_1:=hcc279 1 _ rfl
                 rw [add_field _ _ 1 (by omega)] at hv279_1
                 replace hv279_1:=Option.some.inj (hv279_1.symm.trans hx279_1)
                 injection hv279_1 with hva_ hvn_ hvc_
                 rw [hva_] at ge279_1
                 rw [hvc_] at ul279_1
                 have HL279_1:=Aside0.mk (show Kd.V (Kd.int .i64) 3 _ w.heap.size _ _ ((rd_T96 x11_6 x13_7).f1) from Kd.V_mk ul279_1 ge279_1)
                 clear hva_ hvn_ hvc_ ge279_1 ul279_1
                 clear hcc279 hce279
                 have HR279_1:=Aside0.mk hi279_1
                 have HC279_1:=Aside0.mk hl279_1
                 clear hi279_1 hl279_1
                 replace p279:=eq_true p279
                 replace q279:=eq_true q279
                 try go_wp2
                 have n0_:=Aside0.mk (Kd.R_drew HO_9.out)
                 have n1_:=Aside0.mk (Kd.N_drew HO_11.out)
                 have n2_:=Aside0.mk (Kd.V_drew HL279_1.out)
                 have n3_:=Aside0.mk (Kd.C_drew HR279_1.out)
                 have n4_:=Aside0.mk (below_drew1 HB.out)
                 clear HO_9
                 clear HO_11
                 clear HL279_1
                 clear HR279_1
                 clear HB
                 have HO_9:=n0_
                 have HO_11:=n1_
                 have HL279_1:=n2_
                 have HR279_1:=n3_
                 have HB:=n4_
                 clear n0_ n1_ n2_ n3_ n4_
                 have p280 : 0 ≤ (x13_7 : Int):=of_decide_eq_true (by assumption)
                 have q280 : x13_7 < (x11_6.length : Int):=of_decide_eq_true (by assumption)
                 obtain ⟨ad280,A280_1,c280_1,e280,hx280_0,hx280_1,hl280_1,hi280_1⟩:=at_T96 (Kd.N_reads' HO_11.out).2.2 x13_7 p280 q280
                 obtain rfl : ad279 = ad280:=(by injection e280)
                 obtain ⟨ce280,hce280,hMe280,hcc280⟩:=Kd.N_get HO_11.out z96 x13_7 p280 (by first|exact q280|exact of_decide_eq_true (by assumption)|(have e_:=(Kd.N_reads' HO_11.out).1;omega))
                 obtain ⟨ua280_1,uc280_1,rfl,ul280_1,ge280_1⟩:=k96_openF hMe280
                 have hv280_1:=hcc280 1 _ rfl
                 rw [add_field _ _ 1 (by omega)] at hv280_1
                 replace hv280_1:=Option.some.inj (hv280_1.symm.trans hx280_1)
                 injection hv280_1 with hva_ hvn_ hvc_
                 rw [hva_] at ge280_1
                 rw [hvc_] at ul280_1
                 have HL280_1:=Aside0.mk (show Kd.V (Kd.int .i64) 3 _ w.heap.size _ _ ((rd_T96 x11_6 x13_7).f1) from Kd.V_mk ul280_1 ge280_1)
                 clear hva_ hvn_ hvc_ ge280_1 ul280_1
                 clear hcc280 hce280
                 have HR280_1:=Aside0.mk hi280_1
                 have HC280_1:=Aside0.mk hl280_1
                 clear hi280_1 hl280_1
                 replace p280:=eq_true p280
                 replace q280:=eq_true q280
                 have p281 : 0 ≤ (x14_8 : Int):=of_decide_eq_true (by assumption)
                 have q281 : x14_8 < (((rd_T96 x11_6 x13_7).f1).length : Int):=of_decide_eq_true (by assumption)
                 obtain ⟨ad281,e281,hx281_0⟩:=Kd.at_int (by repeat (first|(with_reducible exact HR280_1.out)|(with_reducible refine Kd.C_alloc ?_ _)|(with_reducible refine Kd.C_drewN ?_ _)|(with_reducible refine Kd.C_drew ?_)|exact HR280_1.out)) x14_8 p281 q281
                 cases e281
                 replace p281:=eq_true p281
                 replace q281:=eq_true q281
                 have p282 : 0 ≤ (x13_7 : Int):=of_decide_eq_true (by assumption)
                 have q282 : x13_7 < (x11_6.length : Int):=of_decide_eq_true (by assumption)
                 obtain ⟨ad282,A282_1,c282_1,e282,hx282_0,hx282_1,hl282_1,hi282_1⟩:=at_T96 (Kd.N_reads' HO_11.out).2.2 x13_7 p282 q282
                 obtain rfl : ad279 = ad282:=(by injection e282)
                 obtain ⟨ce282,hce282,hMe282,hcc282⟩:=Kd.N_get HO_11.out z96 x13_7 p282 (by first|exact q282|exact of_decide_eq_true (by assumption)|(have e_:=(Kd.N_reads' HO_11.out).1;omega))
                 obtain ⟨ua282_1,uc282_1,rfl,ul282_1,ge282_1⟩:=k96_openF hMe282
                 have hv282_1:=hcc282 1 _ rfl
                 rw [add_field _ _ 1 (by omega)] at hv282_1
                 replace hv282_1:=Option.some.inj (hv282_1.symm.trans hx282_1)
                 injection hv282_1 with hva_ hvn_ hvc_
                 rw [hva_] at ge282_1
                 rw [hvc_] at ul282_1
                 have HL282_1:=Aside0.mk (show Kd.V (Kd.int .i64) 3 _ w.heap.size _ _ ((rd_T96 x11_6 x13_7).f1) from Kd.V_mk ul282_1 ge282_1)
                 clear hva_ hvn_ hvc_ ge282_1 ul282_1
                 clear hcc282 hce282
                 have HR282_1:=Aside0.mk hi282_1
                 have HC282_1:=Aside0.mk hl282_1
                 clear hi282_1 hl282_1
                 replace p282:=eq_true p282
                 replace q282:=eq_true q282
                 have ea_:=Option.some.inj (hx280_1.symm.trans hx282_1)
                 injection ea_ with ea_ en_ ec_
                 subst ea_
                 subst ec_
                 clear en_
                 have p283 : 0 ≤ (x14_8 : Int):=of_decide_eq_true (by assumption)
                 have q283 : x14_8 < (((rd_T96 x11_6 x13_7).f1).length : Int):=of_decide_eq_true (by assumption)
                 obtain ⟨ad283,e283,hx283_0⟩:=Kd.at_int (by repeat (first|(with_reducible exact HR282_1.out)|(with_reducible refine Kd.C_alloc ?_ _)|(with_reducible refine Kd.C_drewN ?_ _)|(with_reducible refine Kd.C_drew ?_)|exact HR282_1.out)) x14_8 p283 q283
                 cases e283
                 replace p283:=eq_true p283
                 replace q283:=eq_true q283
                 obtain ⟨Ao51,co51,eo51⟩:=Kd.R_slice HO_9.out
                 (first|subst eo51|(injection eo51 with f1_ f2_ f3_;have f4_:=f1_.symm;have f5_:=f3_.symm;clear f1_ f2_ f3_;subst f4_;subst f5_))
                 have p284 : 0 ≤ ((rd ((rd_T96 x11_6 x13_7).f1) x14_8) : Int):=of_decide_eq_true (by assumption)
                 have q284 : (rd ((rd_T96 x11_6 x13_7).f1) x14_8) < (x9_8.length : Int):=of_decide_eq_true (by assumption)
                 obtain ⟨ad284,e284,hx284_0⟩:=Kd.at_int (Kd.R_reads' HO_9.out).2.2 (rd ((rd_T96 x11_6 x13_7).f1) x14_8) p284 q284
                 cases e284
                 replace p284:=eq_true p284
                 replace q284:=eq_true q284
                 have p48 : 0 ≤ ((rd ((rd_T96 x11_6 x13_7).f1) x14_8) : Int):=of_decide_eq_true (by assumption)
                 have q48 : ((rd ((rd_T96 x11_6 x13_7).f1) x14_8) : Int) < ((x9_8.length : Int) : Int):=of_decide_eq_true (by assumption)
                 obtain ⟨go48,co48,eo48,gb48,gl48,cl48,HG48⟩:=Kd.R_form HO_9.out (by omega)
                 (first|cases eo48|(injection eo48 with ea_ en_ ec_;(first|subst ea_|(injection ea_ with ea_;subst ea_));subst ec_;clear en_))
                 have GB48:=Aside0.mk gb48
                 have GG48:=Aside0.mk HG48
                 clear gb48 gl48 HG48
                 (first|simp only [add_plain] at hx284_0|skip)
                 obtain ⟨hx48_0,hf48_0⟩:=Kd.R_celln 0 HO_9.out ((rd ((rd_T96 x11_6 x13_7).f1) x14_8) : Int) p48 q48
                 replace p48:=eq_true p48
                 replace q48:=eq_true q48
                 have HP52:=Kd.R_putn HO_9.out ((rd ((rd_T96 x11_6 x13_7).f1) x14_8) : Int) (wrap64 ((rd x9_8 (rd ((rd_T96 x11_6 x13_7).f1) x14_8)) + 1))
                 rw [← Ny285.out] at HP52
                 have HQ52:=Aside0.mk HP52
                 clear HP52
                 refine start_ (n:=23) (S:=fun w' => w'.cell? (ad279.add ((x13_7).toNat * 2)) = some (.int .i64 ((rd_T96 x11_6 x13_7).f0))∧w'.cell? ⟨(ad279.add ((x13_7).toNat * 2)).block,(ad279.add ((x13_7).toNat * 2)).off + 1,none⟩ = some (.slice (some ad281) ((rd_T96 x11_6 x13_7).f1).length c280_1)∧w'.cell? (ad281.add (x14_8).toNat) = some (.int .i64 (rd ((rd_T96 x11_6 x13_7).f1) x14_8))∧w'.cell? (ad279.add ((x13_7).toNat * 2)) = some (.int .i64 ((rd_T96 x11_6 x13_7).f0))∧w'.cell? ⟨(ad279.add ((x13_7).toNat * 2)).block,(ad279.add ((x13_7).toNat * 2)).off + 1,none⟩ = some (.slice (some ad281) ((rd_T96 x11_6 x13_7).f1).length c280_1)∧w'.cell? (ad281.add (x14_8).toNat) = some (.int .i64 (rd ((rd_T96 x11_6 x13_7).f1) x14_8))∧w'.cell? ⟨go48,(rd ((rd_T96 x11_6 x13_7).f1) x14_8).toNat,none⟩ = some (.int .i64 (rd x9_8 (rd ((rd_T96 x11_6 x13_7).f1) x14_8)))) (ds:=[22]) #[Z,Z,Z,Z,Z,Z,Z,Z,Z,Z,Z,Z,Z,Z,Z,Z,Z,Z,Z,Z,Z,Z,Z] (by kernel_rfl) rfl rfl ⟨hx280_0,hx280_1,hx281_0,hx282_0,hx282_1,hx283_0,hx284_0⟩ (fun hHeld => ?_);refine with_tabW spec_LimitedLengths.tab28 spec_LimitedLengths.bits28 (fun HT_ HW_ => ?_)
                 generalize wr.drew = w50 at HO_9 HO_11 HL279_1 HR279_1 HB GG48 HL280_1 HL282_1 HQ52 HR280_1 HR282_1 hf48_0 hx280_0 hx280_1 hx281_0 hx282_0 hx282_1 hx283_0 hx284_0 hx48_0 hHeld ⊢
                 refine pure_ (i:=0) (N:=some 96) (v:=?_) (a':=?_) #[Y,Z,Z,Z,Z,Z,Z,Z,Z,Z,Z,Z,Z,Z,Z,Z,Z,Z,Z,Z,Z,Z,Z] rfl rfl (any_of HT_.out (by kernel_rfl)) (fun _ _ _ h => h) (Or.inl ⟨by rfl,?_⟩) ?_ ?_
                 rotate_left
                 ·intro w'
                  go_simp
                  with_reducible rfl
                 rotate_left
                 ·simp only [sPu,sIa,sCz,sCs,i64_w,i32_w]
                  rfl
                 refine pure_ (i:=1) (N:=some 97) (v:=?_) (a':=?_) #[Y,Y,Z,Z,Z,Z,Z,Z,Z,Z,Z,Z,Z,Z,Z,Z,Z,Z,Z,Z,Z,Z,Z] rfl rfl (any_of HT_.out (by kernel_rfl)) (fun _ _ _ h => h) (Or.inl ⟨by rfl,?_⟩) ?_ ?_
                 rotate_left
                 ·intro w'
                  go_simp
                  with_reducible rfl
                 rotate_left
                 ·simp only [sPu,sIa,sCz,sCs,i64_w,i32_w]
                  rfl
                 refine pure_ (i:=2) (N:=some 98) (v:=?_) (a':=?_) #[Y,Y,Y,Z,Z,Z,Z,Z,Z,Z,Z,Z,Z,Z,Z,Z,Z,Z,Z,Z,Z,Z,Z] rfl rfl (any_of HT_.out (by kernel_rfl)) (fun _ _ _ h => h) (Or.inl ⟨by rfl,?_⟩) ?_ ?_
                 rotate_left
                 ·intro w'
                  go_simp
                  with_reducible rfl
                 rotate_left
                 ·simp only [sPu,sIa,sCz,sCs,i64_w,i32_w]
                  rfl
                 refine pure_ (i:=3) (N:=some 99) (v:=?_) (a':=?_) #[Y,Y,Y,Y,Z,Z,Z,Z,Z,Z,Z,Z,Z,Z,Z,Z,Z,Z,Z,Z,Z,Z,Z] rfl rfl (any_of HT_.out (by kernel_rfl)) (fun _ _ _ h => h) (Or.inl ⟨by rfl,?_⟩) ?_ ?_
                 rotate_left
                 ·intro w'
                  go_simp
                  with_reducible rfl
                 rotate_left
                 ·simp only [sPu,sIa,sCz,sCs,i64_w,i32_w]
                  rfl
                 refine pure_ (i:=4) (N:=some 100) (v:=?_) (a':=?_) #[Y,Y,Y,Y,Y,Z,Z,Z,Z,Z,Z,Z,Z,Z,Z,Z,Z,Z,Z,Z,Z,Z,Z] rfl rfl (any_of HT_.out (by kernel_rfl)) (fun _ _ _ h => h) (Or.inl ⟨by rfl,?_⟩) ?_ ?_
                 rotate_left
                 ·intro w'
                  go_simp
                  with_reducible rfl
                 rotate_left
                 ·simp only [sPu,sIa,sCz,sCs,i64_w,i32_w]
                  rfl
                 refine pure_ (i:=6) (N:=some 102) (v:=?_) (a':=?_) #[Y,Y,Y,Y,Y,Z,Y,Z,Z,Z,Z,Z,Z,Z,Z,Z,Z,Z,Z,Z,Z,Z,Z] rfl rfl (any_of HT_.out (by kernel_rfl)) (fun _ _ _ h => h) (Or.inl ⟨by rfl,?_⟩) ?_ ?_
                 rotate_left
                 ·intro w'
                  go_simp
                  with_reducible rfl
                 rotate_left
                 ·simp only [sPu,sIa,sCz,sCs,i64_w,i32_w]
                  rfl
                 refine pure_ (i:=9) (N:=some 105) (v:=?_) (a':=?_) #[Y,Y,Y,Y,Y,Z,Y,Z,Z,Y,Z,Z,Z,Z,Z,Z,Z,Z,Z,Z,Z,Z,Z] rfl rfl (any_of HT_.out (by kernel_rfl)) (fun _ _ _ h => h) (Or.inl ⟨by rfl,?_⟩) ?_ ?_
                 rotate_left
                 ·intro w'
                  go_simp
                  with_reducible rfl
                 rotate_left
                 ·simp only [sPu,sIa,sCz,sCs,i64_w,i32_w]
                  rfl
                 refine pure_ (i:=10) (N:=some 106) (v:=?_) (a':=?_) #[Y,Y,Y,Y,Y,Z,Y,Z,Z,Y,Y,Z,Z,Z,Z,Z,Z,Z,Z,Z,Z,Z,Z] rfl rfl (any_of HT_.out (by kernel_rfl)) (fun _ _ _ h => h) (Or.inl ⟨by rfl,?_⟩) ?_ ?_
                 rotate_left
                 ·intro w'
                  go_simp
                  with_reducible rfl
                 rotate_left
                 ·simp only [sPu,sIa,sCz,sCs,i64_w,i32_w]
                  rfl
                 refine pure_ (i:=11) (N:=some 107) (v:=?_) (a':=?_) #[Y,Y,Y,Y,Y,Z,Y,Z,Z,Y,Y,Y,Z,Z,Z,Z,Z,Z,Z,Z,Z,Z,Z] rfl rfl (any_of HT_.out (by kernel_rfl)) (fun _ _ _ h => h) (Or.inl ⟨by rfl,?_⟩) ?_ ?_
                 rotate_left
                 ·intro w'
                  go_simp
                  with_reducible rfl
                 rotate_left
                 ·simp only [sPu,sIa,sCz,sCs,i64_w,i32_w]
                  rfl
                 refine pure_ (i:=12) (N:=some 108) (v:=?_) (a':=?_) #[Y,Y,Y,Y,Y,Z,Y,Z,Z,Y,Y,Y,Y,Z,Z,Z,Z,Z,Z,Z,Z,Z,Z] rfl rfl (any_of HT_.out (by kernel_rfl)) (fun _ _ _ h => h) (Or.inl ⟨by rfl,?_⟩) ?_ ?_
                 rotate_left
                 ·intro w'
                  go_simp
                  with_reducible rfl
                 rotate_left
                 ·simp only [sPu,sIa,sCz,sCs,i64_w,i32_w]
                  rfl
                 refine pure_ (i:=13) (N:=some 109) (v:=?_) (a':=?_) #[Y,Y,Y,Y,Y,Z,Y,Z,Z,Y,Y,Y,Y,Y,Z,Z,Z,Z,Z,Z,Z,Z,Z] rfl rfl (any_of HT_.out (by kernel_rfl)) (fun _ _ _ h => h) (Or.inl ⟨by rfl,?_⟩) ?_ ?_
                 rotate_left
                 ·intro w'
                  go_simp
                  with_reducible rfl
                 rotate_left
                 ·simp only [sPu,sIa,sCz,sCs,i64_w,i32_w]
                  rfl
                 refine pure_ (i:=15) (N:=some 111) (v:=?_) (a':=?_) #[Y,Y,Y,Y,Y,Z,Y,Z,Z,Y,Y,Y,Y,Y,Z,Y,Z,Z,Z,Z,Z,Z,Z] rfl rfl (any_of HT_.out (by kernel_rfl)) (fun _ _ _ h => h) (Or.inl ⟨by rfl,?_⟩) ?_ ?_
                 rotate_left
                 ·intro w'
                  go_simp
                  with_reducible rfl
                 rotate_left
                 ·simp only [sPu,sIa,sCz,sCs,i64_w,i32_w]
                  rfl
                 refine take_ (i:=5) (N:=some 101) (v:=?_) (a':=?_) #[Y,Y,Y,Y,Y,Y,Y,Z,Z,Y,Y,Y,Y,Y,Z,Y,Z,Z,Z,Z,Z,Z,Z] rfl rfl (take_ofW HT_.out HW_.out (by kernel_rfl)) (fun _ _ _ h => h) (Or.inl ⟨by rfl,?_⟩) hHeld ?_ ?_
                 rotate_left
                 ·rintro w' ⟨s0,s1,s2,s3,s4,s5,s6⟩
                  go_simp
                  with_reducible rfl
                 rotate_left
                 ·simp only [sPu,sIa,sCz,sCs,i64_w,i32_w]
                  rfl
                 refine pure_ (i:=7) (N:=some 103) (v:=?_) (a':=?_) #[Y,Y,Y,Y,Y,Y,Y,Y,Z,Y,Y,Y,Y,Y,Z,Y,Z,Z,Z,Z,Z,Z,Z] rfl rfl (any_of HT_.out (by kernel_rfl)) (fun _ _ _ h => h) (Or.inl ⟨by rfl,?_⟩) ?_ ?_
                 rotate_left
                 ·intro w'
                  go_simp
                  with_reducible rfl
                 rotate_left
                 ·simp only [sPu,sIa,sCz,sCs,i64_w,i32_w]
                  rfl
                 refine take_ (i:=8) (N:=some 104) (v:=?_) (a':=?_) #[Y,Y,Y,Y,Y,Y,Y,Y,Y,Y,Y,Y,Y,Y,Z,Y,Z,Z,Z,Z,Z,Z,Z] rfl rfl (take_ofW HT_.out HW_.out (by kernel_rfl)) (fun _ _ _ h => h) (Or.inl ⟨by rfl,?_⟩) hHeld ?_ ?_
                 rotate_left
                 ·rintro w' ⟨s0,s1,s2,s3,s4,s5,s6⟩
                  go_simp
                  with_reducible rfl
                 rotate_left
                 ·simp only [sPu,sIa,sCz,sCs,i64_w,i32_w]
                  rfl
                 refine take_ (i:=14) (N:=some 110) (v:=?_) (a':=?_) #[Y,Y,Y,Y,Y,Y,Y,Y,Y,Y,Y,Y,Y,Y,Y,Y,Z,Z,Z,Z,Z,Z,Z] rfl rfl (take_ofW HT_.out HW_.out (by kernel_rfl)) (fun _ _ _ h => h) (Or.inl ⟨by rfl,?_⟩) hHeld ?_ ?_
                 rotate_left
                 ·rintro w' ⟨s0,s1,s2,s3,s4,s5,s6⟩
                  go_simp
                  with_reducible rfl
                 rotate_left
                 ·simp only [sPu,sIa,sCz,sCs,i64_w,i32_w]
                  rfl
                 refine pure_ (i:=16) (N:=some 112) (v:=?_) (a':=?_) #[Y,Y,Y,Y,Y,Y,Y,Y,Y,Y,Y,Y,Y,Y,Y,Y,Y,Z,Z,Z,Z,Z,Z] rfl rfl (any_of HT_.out (by kernel_rfl)) (fun _ _ _ h => h) (Or.inl ⟨by rfl,?_⟩) ?_ ?_
                 rotate_left
                 ·intro w'
                  go_simp
                  with_reducible rfl
                 rotate_left
                 ·simp only [sPu,sIa,sCz,sCs,i64_w,i32_w]
                  rfl
                 refine take_ (i:=17) (N:=some 113) (v:=?_) (a':=?_) #[Y,Y,Y,Y,Y,Y,Y,Y,Y,Y,Y,Y,Y,Y,Y,Y,Y,Y,Z,Z,Z,Z,Z] rfl rfl (take_ofW HT_.out HW_.out (by kernel_rfl)) (fun _ _ _ h => h) (Or.inl ⟨by rfl,?_⟩) hHeld ?_ ?_
                 rotate_left
                 ·rintro w' ⟨s0,s1,s2,s3,s4,s5,s6⟩
                  go_simp
                  with_reducible rfl
                 rotate_left
                 ·simp only [sPu,sIa,sCz,sCs,i64_w,i32_w]
                  rfl
                 refine pure_ (i:=18) (N:=some 114) (v:=?_) (a':=?_) #[Y,Y,Y,Y,Y,Y,Y,Y,Y,Y,Y,Y,Y,Y,Y,Y,Y,Y,Y,Z,Z,Z,Z] rfl rfl (any_of HT_.out (by kernel_rfl)) (fun _ _ _ h => h) (Or.inl ⟨by rfl,?_⟩) ?_ ?_
                 rotate_left
                 ·intro w'
                  go_simp
                  with_reducible rfl
                 rotate_left
                 ·simp only [sPu,sIa,sCz,sCs,i64_w,i32_w]
                  rfl
                 refine take_ (i:=19) (N:=some 115) (v:=?_) (a':=?_) #[Y,Y,Y,Y,Y,Y,Y,Y,Y,Y,Y,Y,Y,Y,Y,Y,Y,Y,Y,Y,Z,Z,Z] rfl rfl (take_ofW HT_.out HW_.out (by kernel_rfl)) (fun _ _ _ h => h) (Or.inl ⟨by rfl,?_⟩) hHeld ?_ ?_
                 rotate_left
                 ·rintro w' ⟨s0,s1,s2,s3,s4,s5,s6⟩
                  go_simp
                  with_reducible rfl
                 rotate_left
                 ·simp only [sPu,sIa,sCz,sCs,i64_w,i32_w]
                  rfl
                 refine pure_ (i:=20) (N:=some 116) (v:=?_) (a':=?_) #[Y,Y,Y,Y,Y,Y,Y,Y,Y,Y,Y,Y,Y,Y,Y,Y,Y,Y,Y,Y,Y,Z,Z] rfl rfl (any_of HT_.out (by kernel_rfl)) (fun _ _ _ h => h) (Or.inl ⟨by rfl,?_⟩) ?_ ?_
                 rotate_left
                 ·intro w'
                  go_simp
                  with_reducible rfl
                 rotate_left
                 ·simp only [sPu,sIa,sCz,sCs,i64_w,i32_w]
                  rfl
                 refine pure_ (i:=21) (N:=some 117) (v:=?_) (a':=?_) #[Y,Y,Y,Y,Y,Y,Y,Y,Y,Y,Y,Y,Y,Y,Y,Y,Y,Y,Y,Y,Y,Y,Z] rfl rfl (any_of HT_.out (by kernel_rfl)) (fun _ _ _ h => h) (Or.inl ⟨by rfl,?_⟩) ?_ ?_
                 rotate_left
                 ·intro w'
                  go_simp
                  with_reducible rfl
                 rotate_left
                 ·simp only [sPu,sIa,sCz,sCs,i64_w,i32_w]
                  rfl
                 refine last_ (i:=22) (N:=none) #[Y,Y,Y,Y,Y,Y,Y,Y,Y,Y,Y,Y,Y,Y,Y,Y,Y,Y,Y,Y,Y,Y,Y] rfl rfl (one_of HT_.out (by kernel_rfl)) (by decide) (fun K hK => ?_)
                 refine skip_ (w1:=?_) (by rfl) rfl ?_ ?_
                 rotate_left
                 ·go_simp
                  rfl
                 refine hK.out _ _ ?_
                 clear hK K
                 refine done_ (done_of HT_.out (by kernel_rfl)) ?_
                 try go_wp2
                 go_roundg k8
                 case measure => have:=HJ2.out;have:=HK2.out;have:=HJ5.out;have:=HJ12.out;have:=HJ21.out;have:=HK6.out;have:=HK7.out;have:=HK8.out;omega
                 case rel => exact ⟨(y285),(wrap64 (x14_8 + 1)),(by first|rfl|(simp;done)|(simp [*];done)),H',⟨by have:=HJ2.out;have:=HK2.out;have:=HJ5.out;have:=HJ12.out;have:=HJ21.out;have:=HK6.out;have:=HK7.out;have:=HK8.out;omega⟩,⟨by (with_reducible repeat (first|apply Kd.R_alloc|apply Kd.R_drewN|apply Kd.R_drew));exact HQ52.out⟩,⟨by (with_reducible repeat (first|apply Kd.N_alloc|apply Kd.N_drewN|apply Kd.N_drew));exact Kd.N_mono (Kd.N_far (p:=⟨go48,((rd ((rd_T96 x11_6 x13_7).f1) x14_8) : Int).toNat,none⟩) (Kd.N_mono HO_11.out (fun k_ hk => (⟨hk,fun e_ => hk (by rw [e_];rfl)⟩ : _∧k_ ≠ go48))) (fun _ hk => hk.2) (.int .i64 (wrap64 ((rd x9_8 (rd ((rd_T96 x11_6 x13_7).f1) x14_8)) + 1)))) (fun _ hk => hk.1)⟩,⟨by repeat (first|(with_reducible first|exact HB.out|apply below_alloc|apply pw_below_drewN|apply below_drew1|refine below_set ?_ GB48.out)|exact HB.out)⟩⟩
end Go.Proofs.Ytimomemkbcidnaa.PFnPackage
