-- Written by a program of this session (a changed print); Lean checks it.
import Derived.Test.YtimomemkbcidnaaPFnPackagex0
import Derived.Test.YtimomemkbcidnaaPFnPackagex1
import Derived.Test.YtimomemkbcidnaaPFnPackagex2
import Derived.Test.YtimomemkbcidnaaPFnPackagex5
import Derived.Test.YtimomemkbcidnaaPFnPackagex8
import Derived.Test.YtimomemkbcidnaaPFnPackagex9
namespace Go.Proofs.Ytimomemkbcidnaa.PFnPackage
open Go.RowKit Go.Proofs.YtimomemkbcidnaaW.PrintWords Go.Proofs.YtimomemkbcidnaaW.PrintLast Go.Proofs.YtimomemkbcidnaaW.PrintMore
attribute [local go_sem] max2_int min2_int max_two min_two max_three min_three max_four min_four   -- for this text's walks alone
set_option linter.unusedVariables false
set_option linter.unusedSimpArgs false
open Act renaming put → sPu
open List renaming setIfInBounds_toArray → sIa, set_cons_zero → sCz, set_cons_succ → sCs
open Bool renaming true → Y, false → Z

/-! ### laws_FnPackage: function 11 -/
mutual
def laws_FnPackage.l0 : Nat → List Int → List Int → Int → List Int → Int → Int → Option (Bool)
  | 0, _, _, _, _, _, _ => none
  | k + 1, x0, x3, x4, x5, x9, x10 => if x10 < (x3.length : Int) then (if 0 ≤ x10 then (if x10 < (x5.length : Int) then (if ((decide ((rd x3 x10) > 0)) != (decide ((rd x5 x10) > 0))) = true then (laws_FnPackage.j1 k x0 x3 x4 x5 x9 x10 true) else (laws_FnPackage.j1 k x0 x3 x4 x5 x9 x10 (decide ((rd x5 x10) > x4)))) else (none)) else (none)) else ((impl_CostOf.f k x5 x3).bind fun bt443 => (if bt443.2 = true then (if x9 > 1 then ((spec_CodeKind.f k x5).bind fun t445 => (if t445 = 2 then (if x9 = 1 then (laws_FnPackage.j2 k x0 x3 x4 bt443.1 (bt443.1 == 0)) else (laws_FnPackage.j2 k x0 x3 x4 bt443.1 false)) else (laws_FnPackage.j2 k x0 x3 x4 bt443.1 true))) else (if x9 = 1 then (laws_FnPackage.j2 k x0 x3 x4 bt443.1 (bt443.1 == 0)) else (laws_FnPackage.j2 k x0 x3 x4 bt443.1 false))) else (laws_FnPackage.j2 k x0 x3 x4 bt443.1 true)))
def laws_FnPackage.j1 : Nat → List Int → List Int → Int → List Int → Int → Int → Bool → Option (Bool)
  | 0, _, _, _, _, _, _, _ => none
  | k + 1, x0, x3, x4, x5, x9, x10, x70 => if x70 = true then (some false) else (if 0 ≤ x10 then (if x10 < (x3.length : Int) then (if (rd x3 x10) > 0 then (laws_FnPackage.l0 k x0 x3 x4 x5 (wrap64 (x9 + 1)) (wrap64 (x10 + 1))) else (laws_FnPackage.l0 k x0 x3 x4 x5 x9 (wrap64 (x10 + 1)))) else (none)) else (none))
def laws_FnPackage.j2 : Nat → List Int → List Int → Int → Int → Bool → Option (Bool)
  | 0, _, _, _, _, _ => none
  | k + 1, x0, x3, x4, x11, x102 => if x102 = true then (some false) else ((spec_DrawWhole.f k x0).bind fun t446 => (if 0 ≤ (x3.length : Int) then (if ((x3.length : Int) : Int).toNat ≤ 35184372088832 then (laws_FnPackage.l1 k x3 x4 x11 t446 (List.replicate ((x3.length : Int) : Int).toNat 0) 0 0) else (none)) else (none)))
def laws_FnPackage.l1 : Nat → List Int → Int → Int → List Int → List Int → Int → Int → Option (Bool)
  | 0, _, _, _, _, _, _, _ => none
  | k + 1, x3, x4, x11, x13, x14, x15, x16 => if x16 < (x3.length : Int) then (if 0 ≤ x16 then (if (rd x3 x16) > 0 then (laws_FnPackage.j4 k x3 x4 x11 x13 x14 x15 x16 (decide (x15 < (x13.length : Int)))) else (laws_FnPackage.j4 k x3 x4 x11 x13 x14 x15 x16 false)) else (none)) else ((spec_CostOf.f k x14 x3).bind fun bt452 => (if bt452.2 = true then (some (decide (x11 ≤ bt452.1))) else (some true)))
def laws_FnPackage.j4 : Nat → List Int → Int → Int → List Int → List Int → Int → Int → Bool → Option (Bool)
  | 0, _, _, _, _, _, _, _, _ => none
  | k + 1, x3, x4, x11, x13, x14, x15, x16, x124 => if x124 = true then (if 0 ≤ x15 then (if x15 < (x13.length : Int) then (if (rd x13 x15) > x4 then (some true) else (if 0 ≤ x16 then (if x16 < (x14.length : Int) then (laws_FnPackage.l1 k x3 x4 x11 x13 (x14.set (x16 : Int).toNat (rd x13 x15)) (wrap64 (x15 + 1)) (wrap64 (x16 + 1))) else (none)) else (none))) else (none)) else (none)) else (laws_FnPackage.l1 k x3 x4 x11 x13 x14 x15 (wrap64 (x16 + 1)))
end
def laws_FnPackage.f (k : Nat) (l0 : List Int) : Option (Bool) := (laws_big.f l0).bind fun t426 => (if t426 = true then (some true) else ((spec_DrawLimitedLengths.f k l0).bind fun bt427 => ((impl_LimitedLengths.f k bt427.1 bt427.2).bind fun bt431 => ((spec_LimitedLengths.f k bt427.1 bt427.2).bind fun bt435 => (if (bt431.2 != bt435.2) = true then (some false) else (if bt431.2 = true then (laws_FnPackage.l0 k l0 bt427.1 bt427.2 bt431.1 0 0) else (some ((bt431.1.length : Int) == 0))))))))
theorem laws_FnPackage.mono_l : ∀ k, (∀ y0 y1 y2 y3 y4 y5, LeO (laws_FnPackage.l0 k y0 y1 y2 y3 y4 y5) (laws_FnPackage.l0 (k + 1) y0 y1 y2 y3 y4 y5)) ∧ (∀ y0 y1 y2 y3 y4 y5 y6, LeO (laws_FnPackage.j1 k y0 y1 y2 y3 y4 y5 y6) (laws_FnPackage.j1 (k + 1) y0 y1 y2 y3 y4 y5 y6)) ∧ (∀ y0 y1 y2 y3 y4, LeO (laws_FnPackage.j2 k y0 y1 y2 y3 y4) (laws_FnPackage.j2 (k + 1) y0 y1 y2 y3 y4)) ∧ (∀ y0 y1 y2 y3 y4 y5 y6, LeO (laws_FnPackage.l1 k y0 y1 y2 y3 y4 y5 y6) (laws_FnPackage.l1 (k + 1) y0 y1 y2 y3 y4 y5 y6)) ∧ (∀ y0 y1 y2 y3 y4 y5 y6 y7, LeO (laws_FnPackage.j4 k y0 y1 y2 y3 y4 y5 y6 y7) (laws_FnPackage.j4 (k + 1) y0 y1 y2 y3 y4 y5 y6 y7))
  | 0 => ⟨fun _ _ _ _ _ _ r h => by simp [laws_FnPackage.l0] at h, fun _ _ _ _ _ _ _ r h => by simp [laws_FnPackage.j1] at h, fun _ _ _ _ _ r h => by simp [laws_FnPackage.j2] at h, fun _ _ _ _ _ _ _ r h => by simp [laws_FnPackage.l1] at h, fun _ _ _ _ _ _ _ _ r h => by simp [laws_FnPackage.j4] at h⟩
  | k + 1 => by
    obtain ⟨ih0, ih1, ih2, ih3, ih4⟩ := laws_FnPackage.mono_l k
    refine ⟨?_, ?_, ?_, ?_, ?_⟩
    · intro y0 y1 y2 y3 y4 y5
      unfold laws_FnPackage.l0
      repeat' first
      | (with_reducible exact ih0 _ _ _ _ _ _)
      | (with_reducible exact ih1 _ _ _ _ _ _ _)
      | (with_reducible exact ih2 _ _ _ _ _)
      | (with_reducible exact ih3 _ _ _ _ _ _ _)
      | (with_reducible exact ih4 _ _ _ _ _ _ _ _)
      | (with_reducible exact impl_CostOf.mono _ _ _)
      | (with_reducible exact impl_LimitedLengths.mono _ _ _)
      | (with_reducible exact spec_CodeKind.mono _ _)
      | (with_reducible exact spec_CostOf.mono _ _ _)
      | (with_reducible exact spec_DrawLimitedLengths.mono _ _)
      | (with_reducible exact spec_DrawWhole.mono _ _)
      | (with_reducible exact spec_LimitedLengths.mono _ _ _)
      | (with_reducible exact LeO.refl _)
      | (with_reducible exact LeO.none _)
      | (with_reducible refine LeO.ite ?_ ?_)
      | (with_reducible refine LeO.bind ?_ (fun _ => ?_))
      | exact ih0 _ _ _ _ _ _
      | exact ih1 _ _ _ _ _ _ _
      | exact ih2 _ _ _ _ _
      | exact ih3 _ _ _ _ _ _ _
      | exact ih4 _ _ _ _ _ _ _ _
      | exact impl_CostOf.mono _ _ _
      | exact impl_LimitedLengths.mono _ _ _
      | exact spec_CodeKind.mono _ _
      | exact spec_CostOf.mono _ _ _
      | exact spec_DrawLimitedLengths.mono _ _
      | exact spec_DrawWhole.mono _ _
      | exact spec_LimitedLengths.mono _ _ _
      | exact LeO.none _
      | refine LeO.ite ?_ ?_
      | refine LeO.bind ?_ (fun _ => ?_)
    · intro y0 y1 y2 y3 y4 y5 y6
      unfold laws_FnPackage.j1
      repeat' first
      | (with_reducible exact ih0 _ _ _ _ _ _)
      | (with_reducible exact ih1 _ _ _ _ _ _ _)
      | (with_reducible exact ih2 _ _ _ _ _)
      | (with_reducible exact ih3 _ _ _ _ _ _ _)
      | (with_reducible exact ih4 _ _ _ _ _ _ _ _)
      | (with_reducible exact impl_CostOf.mono _ _ _)
      | (with_reducible exact impl_LimitedLengths.mono _ _ _)
      | (with_reducible exact spec_CodeKind.mono _ _)
      | (with_reducible exact spec_CostOf.mono _ _ _)
      | (with_reducible exact spec_DrawLimitedLengths.mono _ _)
      | (with_reducible exact spec_DrawWhole.mono _ _)
      | (with_reducible exact spec_LimitedLengths.mono _ _ _)
      | (with_reducible exact LeO.refl _)
      | (with_reducible exact LeO.none _)
      | (with_reducible refine LeO.ite ?_ ?_)
      | (with_reducible refine LeO.bind ?_ (fun _ => ?_))
      | exact ih0 _ _ _ _ _ _
      | exact ih1 _ _ _ _ _ _ _
      | exact ih2 _ _ _ _ _
      | exact ih3 _ _ _ _ _ _ _
      | exact ih4 _ _ _ _ _ _ _ _
      | exact impl_CostOf.mono _ _ _
      | exact impl_LimitedLengths.mono _ _ _
      | exact spec_CodeKind.mono _ _
      | exact spec_CostOf.mono _ _ _
      | exact spec_DrawLimitedLengths.mono _ _
      | exact spec_DrawWhole.mono _ _
      | exact spec_LimitedLengths.mono _ _ _
      | exact LeO.none _
      | refine LeO.ite ?_ ?_
      | refine LeO.bind ?_ (fun _ => ?_)
    · intro y0 y1 y2 y3 y4
      unfold laws_FnPackage.j2
      repeat' first
      | (with_reducible exact ih0 _ _ _ _ _ _)
      | (with_reducible exact ih1 _ _ _ _ _ _ _)
      | (with_reducible exact ih2 _ _ _ _ _)
      | (with_reducible exact ih3 _ _ _ _ _ _ _)
      | (with_reducible exact ih4 _ _ _ _ _ _ _ _)
      | (with_reducible exact impl_CostOf.mono _ _ _)
      | (with_reducible exact impl_LimitedLengths.mono _ _ _)
      | (with_reducible exact spec_CodeKind.mono _ _)
      | (with_reducible exact spec_CostOf.mono _ _ _)
      | (with_reducible exact spec_DrawLimitedLengths.mono _ _)
      | (with_reducible exact spec_DrawWhole.mono _ _)
      | (with_reducible exact spec_LimitedLengths.mono _ _ _)
      | (with_reducible exact LeO.refl _)
      | (with_reducible exact LeO.none _)
      | (with_reducible refine LeO.ite ?_ ?_)
      | (with_reducible refine LeO.bind ?_ (fun _ => ?_))
      | exact ih0 _ _ _ _ _ _
      | exact ih1 _ _ _ _ _ _ _
      | exact ih2 _ _ _ _ _
      | exact ih3 _ _ _ _ _ _ _
      | exact ih4 _ _ _ _ _ _ _ _
      | exact impl_CostOf.mono _ _ _
      | exact impl_LimitedLengths.mono _ _ _
      | exact spec_CodeKind.mono _ _
      | exact spec_CostOf.mono _ _ _
      | exact spec_DrawLimitedLengths.mono _ _
      | exact spec_DrawWhole.mono _ _
      | exact spec_LimitedLengths.mono _ _ _
      | exact LeO.none _
      | refine LeO.ite ?_ ?_
      | refine LeO.bind ?_ (fun _ => ?_)
    · intro y0 y1 y2 y3 y4 y5 y6
      unfold laws_FnPackage.l1
      repeat' first
      | (with_reducible exact ih0 _ _ _ _ _ _)
      | (with_reducible exact ih1 _ _ _ _ _ _ _)
      | (with_reducible exact ih2 _ _ _ _ _)
      | (with_reducible exact ih3 _ _ _ _ _ _ _)
      | (with_reducible exact ih4 _ _ _ _ _ _ _ _)
      | (with_reducible exact impl_CostOf.mono _ _ _)
      | (with_reducible exact impl_LimitedLengths.mono _ _ _)
      | (with_reducible exact spec_CodeKind.mono _ _)
      | (with_reducible exact spec_CostOf.mono _ _ _)
      | (with_reducible exact spec_DrawLimitedLengths.mono _ _)
      | (with_reducible exact spec_DrawWhole.mono _ _)
      | (with_reducible exact spec_LimitedLengths.mono _ _ _)
      | (with_reducible exact LeO.refl _)
      | (with_reducible exact LeO.none _)
      | (with_reducible refine LeO.ite ?_ ?_)
      | (with_reducible refine LeO.bind ?_ (fun _ => ?_))
      | exact ih0 _ _ _ _ _ _
      | exact ih1 _ _ _ _ _ _ _
      | exact ih2 _ _ _ _ _
      | exact ih3 _ _ _ _ _ _ _
      | exact ih4 _ _ _ _ _ _ _ _
      | exact impl_CostOf.mono _ _ _
      | exact impl_LimitedLengths.mono _ _ _
      | exact spec_CodeKind.mono _ _
      | exact spec_CostOf.mono _ _ _
      | exact spec_DrawLimitedLengths.mono _ _
      | exact spec_DrawWhole.mono _ _
      | exact spec_LimitedLengths.mono _ _ _
      | exact LeO.none _
      | refine LeO.ite ?_ ?_
      | refine LeO.bind ?_ (fun _ => ?_)
    · intro y0 y1 y2 y3 y4 y5 y6 y7
      unfold laws_FnPackage.j4
      repeat' first
      | (with_reducible exact ih0 _ _ _ _ _ _)
      | (with_reducible exact ih1 _ _ _ _ _ _ _)
      | (with_reducible exact ih2 _ _ _ _ _)
      | (with_reducible exact ih3 _ _ _ _ _ _ _)
      | (with_reducible exact ih4 _ _ _ _ _ _ _ _)
      | (with_reducible exact impl_CostOf.mono _ _ _)
      | (with_reducible exact impl_LimitedLengths.mono _ _ _)
      | (with_reducible exact spec_CodeKind.mono _ _)
      | (with_reducible exact spec_CostOf.mono _ _ _)
      | (with_reducible exact spec_DrawLimitedLengths.mono _ _)
      | (with_reducible exact spec_DrawWhole.mono _ _)
      | (with_reducible exact spec_LimitedLengths.mono _ _ _)
      | (with_reducible exact LeO.refl _)
      | (with_reducible exact LeO.none _)
      | (with_reducible refine LeO.ite ?_ ?_)
      | (with_reducible refine LeO.bind ?_ (fun _ => ?_))
      | exact ih0 _ _ _ _ _ _
      | exact ih1 _ _ _ _ _ _ _
      | exact ih2 _ _ _ _ _
      | exact ih3 _ _ _ _ _ _ _
      | exact ih4 _ _ _ _ _ _ _ _
      | exact impl_CostOf.mono _ _ _
      | exact impl_LimitedLengths.mono _ _ _
      | exact spec_CodeKind.mono _ _
      | exact spec_CostOf.mono _ _ _
      | exact spec_DrawLimitedLengths.mono _ _
      | exact spec_DrawWhole.mono _ _
      | exact spec_LimitedLengths.mono _ _ _
      | exact LeO.none _
      | refine LeO.ite ?_ ?_
      | refine LeO.bind ?_ (fun _ => ?_)
theorem laws_FnPackage.mono : ∀ a0 k, LeO (laws_FnPackage.f k a0) (laws_FnPackage.f (k + 1) a0) := by
  intro a0 k
  obtain ⟨ih0, ih1, ih2, ih3, ih4⟩ := laws_FnPackage.mono_l k
  unfold laws_FnPackage.f
  repeat' first
      | (with_reducible exact ih0 _ _ _ _ _ _)
      | (with_reducible exact ih1 _ _ _ _ _ _ _)
      | (with_reducible exact ih2 _ _ _ _ _)
      | (with_reducible exact ih3 _ _ _ _ _ _ _)
      | (with_reducible exact ih4 _ _ _ _ _ _ _ _)
      | (with_reducible exact impl_CostOf.mono _ _ _)
      | (with_reducible exact impl_LimitedLengths.mono _ _ _)
      | (with_reducible exact spec_CodeKind.mono _ _)
      | (with_reducible exact spec_CostOf.mono _ _ _)
      | (with_reducible exact spec_DrawLimitedLengths.mono _ _)
      | (with_reducible exact spec_DrawWhole.mono _ _)
      | (with_reducible exact spec_LimitedLengths.mono _ _ _)
      | (with_reducible exact LeO.refl _)
      | (with_reducible exact LeO.none _)
      | (with_reducible refine LeO.ite ?_ ?_)
      | (with_reducible refine LeO.bind ?_ (fun _ => ?_))
      | exact ih0 _ _ _ _ _ _
      | exact ih1 _ _ _ _ _ _ _
      | exact ih2 _ _ _ _ _
      | exact ih3 _ _ _ _ _ _ _
      | exact ih4 _ _ _ _ _ _ _ _
      | exact impl_CostOf.mono _ _ _
      | exact impl_LimitedLengths.mono _ _ _
      | exact spec_CodeKind.mono _ _
      | exact spec_CostOf.mono _ _ _
      | exact spec_DrawLimitedLengths.mono _ _
      | exact spec_DrawWhole.mono _ _
      | exact spec_LimitedLengths.mono _ _ _
      | exact LeO.none _
      | refine LeO.ite ?_ ?_
      | refine LeO.bind ?_ (fun _ => ?_)
set_option maxHeartbeats 8000000 in
set_option maxRecDepth 100000 in
theorem laws_FnPackage.calls (k : Nat) (A0 : Option Addr) (c0 : Nat) (l0 : List Int) (r : Bool) (w : World) (hr0 : Kd.C (Kd.int .u8) w A0 l0.length l0) (hc0 : l0.length ≤ c0) (h : laws_FnPackage.f k l0 = some r) :
    Calls Try.prog 11 #[.slice A0 l0.length c0] w fun e w' => e = .returned (.bool r) ∧ Below w.heap.size w w' := by
 have HR0:=Aside0.mk hr0
 have HC0:=Aside0.mk hc0
 clear hr0 hc0
 have HB:=Aside0.mk (Below.refl w.heap.size w)
 have H : ((laws_big.f l0).bind fun t426 => (if t426 = true then (some true) else ((spec_DrawLimitedLengths.f k l0).bind fun bt427 => ((impl_LimitedLengths.f k bt427.1 bt427.2).bind fun bt431 => ((spec_LimitedLengths.f k bt427.1 bt427.2).bind fun bt435 => (if (bt431.2 != bt435.2) = true then (some false) else (if bt431.2 = true then (laws_FnPackage.l0 k l0 bt427.1 bt427.2 bt431.1 0 0) else (some ((bt431.1.length : Int) == 0))))))))) = some r:=h
 clear h
 replace H:=Option.bind_eq_some_iff.mp H
 obtain ⟨t426,A20,H⟩:=H
 replace H : (if t426 = true then (some true) else ((spec_DrawLimitedLengths.f k l0).bind fun bt427 => ((impl_LimitedLengths.f k bt427.1 bt427.2).bind fun bt431 => ((spec_LimitedLengths.f k bt427.1 bt427.2).bind fun bt435 => (if (bt431.2 != bt435.2) = true then (some false) else (if bt431.2 = true then (laws_FnPackage.l0 k l0 bt427.1 bt427.2 bt431.1 0 0) else (some ((bt431.1.length : Int) == 0)))))))) = some r:=H
 have A2:=Aside0.mk A20
 clear A20
 by_cases c3 : t426 = true
 ·subst c3
  have H1 : (some true) = some r:=by rw [if_pos rfl] at H;exact H
  clear H
  have H:=H1
  clear H1
  obtain rfl:=Option.some.inj H
  go_enter Try.func11,Try.ntmps11
  go_wp2_with (first|(go_at_call 24;(with_reducible refine (laws_big.calls _ _ l0 true _ ?side1 ?side2 A2.out).mono ?_);(case side1 => repeat (first|exact HR0.out|(with_reducible refine Kd.C_alloc ?_ _)|(with_reducible refine Kd.C_drewN ?_ _)|(with_reducible refine Kd.C_drew ?_)));(case side2 => exact HC0.out);rintro e w' ⟨rfl,⟨nd,rfl⟩⟩;(try first|exact ⟨rfl,_,World.drewN_drewN _ _ _⟩|exact ⟨rfl,_,Eq.trans (World.drewN_drewN _ _ _) (congrArg (World.drewN _) (Nat.add_assoc _ _ _))⟩)))
  repeat (go_quiet (first|(go_at_call 24;(with_reducible refine (laws_big.calls _ _ l0 true _ ?side1 ?side2 A2.out).mono ?_);(case side1 => repeat (first|exact HR0.out|(with_reducible refine Kd.C_alloc ?_ _)|(with_reducible refine Kd.C_drewN ?_ _)|(with_reducible refine Kd.C_drew ?_)));(case side2 => exact HC0.out);rintro e w' ⟨rfl,⟨nd,rfl⟩⟩;(try first|exact ⟨rfl,_,World.drewN_drewN _ _ _⟩|exact ⟨rfl,_,Eq.trans (World.drewN_drewN _ _ _) (congrArg (World.drewN _) (Nat.add_assoc _ _ _))⟩)));try go_wp2_with (first|(go_at_call 24;(with_reducible refine (laws_big.calls _ _ l0 true _ ?side1 ?side2 A2.out).mono ?_);(case side1 => repeat (first|exact HR0.out|(with_reducible refine Kd.C_alloc ?_ _)|(with_reducible refine Kd.C_drewN ?_ _)|(with_reducible refine Kd.C_drew ?_)));(case side2 => exact HC0.out);rintro e w' ⟨rfl,⟨nd,rfl⟩⟩;(try first|exact ⟨rfl,_,World.drewN_drewN _ _ _⟩|exact ⟨rfl,_,Eq.trans (World.drewN_drewN _ _ _) (congrArg (World.drewN _) (Nat.add_assoc _ _ _))⟩))))
  go_ret
  exact ⟨by first|rfl|(simp [errW_none,errW_some] <;> rfl)|(simp [*,errW_none,errW_some] <;> rfl),by repeat (first|(with_reducible first|exact HB.out|apply below_alloc|apply pw_below_drewN|apply below_drew1)|exact HB.out)⟩
 replace c3:=Bool.eq_false_iff.mpr c3
 subst c3
 have H1 : ((spec_DrawLimitedLengths.f k l0).bind fun bt427 => ((impl_LimitedLengths.f k bt427.1 bt427.2).bind fun bt431 => ((spec_LimitedLengths.f k bt427.1 bt427.2).bind fun bt435 => (if (bt431.2 != bt435.2) = true then (some false) else (if bt431.2 = true then (laws_FnPackage.l0 k l0 bt427.1 bt427.2 bt431.1 0 0) else (some ((bt431.1.length : Int) == 0))))))) = some r:=by rw [if_neg (show ¬ (false = true) by decide)] at H;exact H
 clear H
 have H:=H1
 clear H1
 replace H:=Option.bind_eq_some_iff.mp H
 obtain ⟨⟨t427,t428⟩,A40,H⟩:=H
 replace H : ((impl_LimitedLengths.f k t427 t428).bind fun bt431 => ((spec_LimitedLengths.f k t427 t428).bind fun bt435 => (if (bt431.2 != bt435.2) = true then (some false) else (if bt431.2 = true then (laws_FnPackage.l0 k l0 t427 t428 bt431.1 0 0) else (some ((bt431.1.length : Int) == 0)))))) = some r:=H
 have A4:=Aside0.mk A40
 clear A40
 replace H:=Option.bind_eq_some_iff.mp H
 obtain ⟨⟨t431,t432⟩,A50,H⟩:=H
 replace H : ((spec_LimitedLengths.f k t427 t428).bind fun bt435 => (if (t432 != bt435.2) = true then (some false) else (if t432 = true then (laws_FnPackage.l0 k l0 t427 t428 t431 0 0) else (some ((t431.length : Int) == 0))))) = some r:=H
 have A5:=Aside0.mk A50
 clear A50
 replace H:=Option.bind_eq_some_iff.mp H
 obtain ⟨⟨t435,t436⟩,A60,H⟩:=H
 replace H : (if (t432 != t436) = true then (some false) else (if t432 = true then (laws_FnPackage.l0 k l0 t427 t428 t431 0 0) else (some ((t431.length : Int) == 0)))) = some r:=H
 have A6:=Aside0.mk A60
 clear A60
 by_cases c7 : (t432 != t436) = true
 ·rw [if_pos c7] at H
  have c7b0 : (t432 != t436) = true:=c7
  (try (have c7b1 : decide (t432 = t436) = false:=by simpa using c7))
  (try (have c7b2 : (t432 == t436) = false:=by simpa using c7))
  (try (have c7b3 : ¬ (t432 = t436):=by simpa using c7))
  clear c7
  obtain rfl:=Option.some.inj H
  go_enter Try.func11,Try.ntmps11
  go_wp2_with (first|(go_at_call 24;(with_reducible refine (laws_big.calls _ _ l0 false _ ?side1 ?side2 A2.out).mono ?_);(case side1 => repeat (first|exact HR0.out|(with_reducible refine Kd.C_alloc ?_ _)|(with_reducible refine Kd.C_drewN ?_ _)|(with_reducible refine Kd.C_drew ?_)));(case side2 => exact HC0.out);rintro e w' ⟨rfl,⟨nd,rfl⟩⟩;(try first|exact ⟨rfl,_,World.drewN_drewN _ _ _⟩|exact ⟨rfl,_,Eq.trans (World.drewN_drewN _ _ _) (congrArg (World.drewN _) (Nat.add_assoc _ _ _))⟩))|(go_at_call 40;(with_reducible refine (spec_DrawLimitedLengths.calls k _ _ l0 t427 t428 _ ?side1 ?side2 A4.out).mono ?_);(case side1 => repeat (first|exact HR0.out|(with_reducible refine Kd.C_alloc ?_ _)|(with_reducible refine Kd.C_drewN ?_ _)|(with_reducible refine Kd.C_drew ?_)));(case side2 => exact HC0.out);rintro e w8 ⟨v429,rfl,ho0,hb⟩;have n0_:=Aside0.mk (Kd.R_lower ho0 (below_size (by repeat (first|(with_reducible first|exact HB.out|apply below_alloc|apply pw_below_drewN|apply below_drew1)|exact HB.out))));have n1_:=Aside0.mk (below_step (by repeat (first|(with_reducible first|exact HB.out|apply below_alloc|apply pw_below_drewN|apply below_drew1)|exact HB.out)) hb);clear HB;have HO430:=n0_;have HB:=n1_;clear n0_ n1_;(try clear hb);(try clear hb2);(try clear hk);(try clear hi);(try clear ho0);obtain ⟨Ao9,co9,eo9⟩:=Kd.R_slice HO430.out;subst eo9)|(go_at_call 39;(with_reducible refine (impl_LimitedLengths.calls k _ _ t427 t428 t431 t432 _ ?side1 ?side2 A5.out).mono ?_);(case side1 => repeat (first|exact (Kd.R_reads' HO430.out).2.2|(with_reducible refine Kd.C_alloc ?_ _)|(with_reducible refine Kd.C_drewN ?_ _)|(with_reducible refine Kd.C_drew ?_)));(case side2 => exact (Kd.R_reads' HO430.out).2.1);rintro e w10 ⟨v433,rfl,ho0,hb⟩;have n0_:=Aside0.mk (Kd.R_elder' (by (with_reducible repeat (first|apply Kd.R_alloc|apply Kd.R_drewN|apply Kd.R_drew));exact HO430.out) (Kd.R_base ho0) hb);have n1_:=Aside0.mk (Kd.R_lower (Kd.R_new' ho0 (Kd.R_lt (by (with_reducible repeat (first|apply Kd.R_alloc|apply Kd.R_drewN|apply Kd.R_drew));exact HO430.out))) (below_size (by repeat (first|(with_reducible first|exact HB.out|apply below_alloc|apply pw_below_drewN|apply below_drew1)|exact HB.out))));have n2_:=Aside0.mk (below_step (by repeat (first|(with_reducible first|exact HB.out|apply below_alloc|apply pw_below_drewN|apply below_drew1)|exact HB.out)) hb);clear HO430;clear HB;have HO430:=n0_;have HO434:=n1_;have HB:=n2_;clear n0_ n1_ n2_;(try clear hb);(try clear hb2);(try clear hk);(try clear hi);(try clear ho0))|(go_at_call 38;(with_reducible refine (spec_LimitedLengths.calls k _ _ t427 t428 t435 t436 _ ?side1 ?side2 A6.out).mono ?_);(case side1 => repeat (first|exact (Kd.R_reads' HO430.out).2.2|(with_reducible refine Kd.C_alloc ?_ _)|(with_reducible refine Kd.C_drewN ?_ _)|(with_reducible refine Kd.C_drew ?_)));(case side2 => exact (Kd.R_reads' HO430.out).2.1);rintro e w11 ⟨v437,rfl,ho0,hb⟩;have n0_:=Aside0.mk (Kd.R_elder' (by (with_reducible repeat (first|apply Kd.R_alloc|apply Kd.R_drewN|apply Kd.R_drew));exact HO430.out) (Kd.R_base ho0) hb);have n1_:=Aside0.mk (Kd.R_elder' (by (with_reducible repeat (first|apply Kd.R_alloc|apply Kd.R_drewN|apply Kd.R_drew));exact HO434.out) (Kd.R_base ho0) hb);have n2_:=Aside0.mk (Kd.R_lower (Kd.R_new' (Kd.R_new' ho0 (Kd.R_lt (by (with_reducible repeat (first|apply Kd.R_alloc|apply Kd.R_drewN|apply Kd.R_drew));exact HO430.out))) (Kd.R_lt (by (with_reducible repeat (first|apply Kd.R_alloc|apply Kd.R_drewN|apply Kd.R_drew));exact HO434.out))) (below_size (by repeat (first|(with_reducible first|exact HB.out|apply below_alloc|apply pw_below_drewN|apply below_drew1)|exact HB.out))));have n3_:=Aside0.mk (below_step (by repeat (first|(with_reducible first|exact HB.out|apply below_alloc|apply pw_below_drewN|apply below_drew1)|exact HB.out)) hb);clear HO430;clear HO434;clear HB;have HO430:=n0_;have HO434:=n1_;have HO438:=n2_;have HB:=n3_;clear n0_ n1_ n2_ n3_;(try clear hb);(try clear hb2);(try clear hk);(try clear hi);(try clear ho0)))
  repeat (go_quiet (first|(go_at_call 24;(with_reducible refine (laws_big.calls _ _ l0 false _ ?side1 ?side2 A2.out).mono ?_);(case side1 => repeat (first|exact HR0.out|(with_reducible refine Kd.C_alloc ?_ _)|(with_reducible refine Kd.C_drewN ?_ _)|(with_reducible refine Kd.C_drew ?_)));(case side2 => exact HC0.out);rintro e w' ⟨rfl,⟨nd,rfl⟩⟩;(try first|exact ⟨rfl,_,World.drewN_drewN _ _ _⟩|exact ⟨rfl,_,Eq.trans (World.drewN_drewN _ _ _) (congrArg (World.drewN _) (Nat.add_assoc _ _ _))⟩))|(go_at_call 40;(with_reducible refine (spec_DrawLimitedLengths.calls k _ _ l0 t427 t428 _ ?side1 ?side2 A4.out).mono ?_);(case side1 => repeat (first|exact HR0.out|(with_reducible refine Kd.C_alloc ?_ _)|(with_reducible refine Kd.C_drewN ?_ _)|(with_reducible refine Kd.C_drew ?_)));(case side2 => exact HC0.out);rintro e w8 ⟨v429,rfl,ho0,hb⟩;have n0_:=Aside0.mk (Kd.R_lower ho0 (below_size (by repeat (first|(with_reducible first|exact HB.out|apply below_alloc|apply pw_below_drewN|apply below_drew1)|exact HB.out))));have n1_:=Aside0.mk (below_step (by repeat (first|(with_reducible first|exact HB.out|apply below_alloc|apply pw_below_drewN|apply below_drew1)|exact HB.out)) hb);clear HB;have HO430:=n0_;have HB:=n1_;clear n0_ n1_;(try clear hb);(try clear hb2);(try clear hk);(try clear hi);(try clear ho0);obtain ⟨Ao9,co9,eo9⟩:=Kd.R_slice HO430.out;subst eo9)|(go_at_call 39;(with_reducible refine (impl_LimitedLengths.calls k _ _ t427 t428 t431 t432 _ ?side1 ?side2 A5.out).mono ?_);(case side1 => repeat (first|exact (Kd.R_reads' HO430.out).2.2|(with_reducible refine Kd.C_alloc ?_ _)|(with_reducible refine Kd.C_drewN ?_ _)|(with_reducible refine Kd.C_drew ?_)));(case side2 => exact (Kd.R_reads' HO430.out).2.1);rintro e w10 ⟨v433,rfl,ho0,hb⟩;have n0_:=Aside0.mk (Kd.R_elder' (by (with_reducible repeat (first|apply Kd.R_alloc|apply Kd.R_drewN|apply Kd.R_drew));exact HO430.out) (Kd.R_base ho0) hb);have n1_:=Aside0.mk (Kd.R_lower (Kd.R_new' ho0 (Kd.R_lt (by (with_reducible repeat (first|apply Kd.R_alloc|apply Kd.R_drewN|apply Kd.R_drew));exact HO430.out))) (below_size (by repeat (first|(with_reducible first|exact HB.out|apply below_alloc|apply pw_below_drewN|apply below_drew1)|exact HB.out))));have n2_:=Aside0.mk (below_step (by repeat (first|(with_reducible first|exact HB.out|apply below_alloc|apply pw_below_drewN|apply below_drew1)|exact HB.out)) hb);clear HO430;clear HB;have HO430:=n0_;have HO434:=n1_;have HB:=n2_;clear n0_ n1_ n2_;(try clear hb);(try clear hb2);(try clear hk);(try clear hi);(try clear ho0))|(go_at_call 38;(with_reducible refine (spec_LimitedLengths.calls k _ _ t427 t428 t435 t436 _ ?side1 ?side2 A6.out).mono ?_);(case side1 => repeat (first|exact (Kd.R_reads' HO430.out).2.2|(with_reducible refine Kd.C_alloc ?_ _)|(with_reducible refine Kd.C_drewN ?_ _)|(with_reducible refine Kd.C_drew ?_)));(case side2 => exact (Kd.R_reads' HO430.out).2.1);rintro e w11 ⟨v437,rfl,ho0,hb⟩;have n0_:=Aside0.mk (Kd.R_elder' (by (with_reducible repeat (first|apply Kd.R_alloc|apply Kd.R_drewN|apply Kd.R_drew));exact HO430.out) (Kd.R_base ho0) hb);have n1_:=Aside0.mk (Kd.R_elder' (by (with_reducible repeat (first|apply Kd.R_alloc|apply Kd.R_drewN|apply Kd.R_drew));exact HO434.out) (Kd.R_base ho0) hb);have n2_:=Aside0.mk (Kd.R_lower (Kd.R_new' (Kd.R_new' ho0 (Kd.R_lt (by (with_reducible repeat (first|apply Kd.R_alloc|apply Kd.R_drewN|apply Kd.R_drew));exact HO430.out))) (Kd.R_lt (by (with_reducible repeat (first|apply Kd.R_alloc|apply Kd.R_drewN|apply Kd.R_drew));exact HO434.out))) (below_size (by repeat (first|(with_reducible first|exact HB.out|apply below_alloc|apply pw_below_drewN|apply below_drew1)|exact HB.out))));have n3_:=Aside0.mk (below_step (by repeat (first|(with_reducible first|exact HB.out|apply below_alloc|apply pw_below_drewN|apply below_drew1)|exact HB.out)) hb);clear HO430;clear HO434;clear HB;have HO430:=n0_;have HO434:=n1_;have HO438:=n2_;have HB:=n3_;clear n0_ n1_ n2_ n3_;(try clear hb);(try clear hb2);(try clear hk);(try clear hi);(try clear ho0)));try go_wp2_with (first|(go_at_call 24;(with_reducible refine (laws_big.calls _ _ l0 false _ ?side1 ?side2 A2.out).mono ?_);(case side1 => repeat (first|exact HR0.out|(with_reducible refine Kd.C_alloc ?_ _)|(with_reducible refine Kd.C_drewN ?_ _)|(with_reducible refine Kd.C_drew ?_)));(case side2 => exact HC0.out);rintro e w' ⟨rfl,⟨nd,rfl⟩⟩;(try first|exact ⟨rfl,_,World.drewN_drewN _ _ _⟩|exact ⟨rfl,_,Eq.trans (World.drewN_drewN _ _ _) (congrArg (World.drewN _) (Nat.add_assoc _ _ _))⟩))|(go_at_call 40;(with_reducible refine (spec_DrawLimitedLengths.calls k _ _ l0 t427 t428 _ ?side1 ?side2 A4.out).mono ?_);(case side1 => repeat (first|exact HR0.out|(with_reducible refine Kd.C_alloc ?_ _)|(with_reducible refine Kd.C_drewN ?_ _)|(with_reducible refine Kd.C_drew ?_)));(case side2 => exact HC0.out);rintro e w8 ⟨v429,rfl,ho0,hb⟩;have n0_:=Aside0.mk (Kd.R_lower ho0 (below_size (by repeat (first|(with_reducible first|exact HB.out|apply below_alloc|apply pw_below_drewN|apply below_drew1)|exact HB.out))));have n1_:=Aside0.mk (below_step (by repeat (first|(with_reducible first|exact HB.out|apply below_alloc|apply pw_below_drewN|apply below_drew1)|exact HB.out)) hb);clear HB;have HO430:=n0_;have HB:=n1_;clear n0_ n1_;(try clear hb);(try clear hb2);(try clear hk);(try clear hi);(try clear ho0);obtain ⟨Ao9,co9,eo9⟩:=Kd.R_slice HO430.out;subst eo9)|(go_at_call 39;(with_reducible refine (impl_LimitedLengths.calls k _ _ t427 t428 t431 t432 _ ?side1 ?side2 A5.out).mono ?_);(case side1 => repeat (first|exact (Kd.R_reads' HO430.out).2.2|(with_reducible refine Kd.C_alloc ?_ _)|(with_reducible refine Kd.C_drewN ?_ _)|(with_reducible refine Kd.C_drew ?_)));(case side2 => exact (Kd.R_reads' HO430.out).2.1);rintro e w10 ⟨v433,rfl,ho0,hb⟩;have n0_:=Aside0.mk (Kd.R_elder' (by (with_reducible repeat (first|apply Kd.R_alloc|apply Kd.R_drewN|apply Kd.R_drew));exact HO430.out) (Kd.R_base ho0) hb);have n1_:=Aside0.mk (Kd.R_lower (Kd.R_new' ho0 (Kd.R_lt (by (with_reducible repeat (first|apply Kd.R_alloc|apply Kd.R_drewN|apply Kd.R_drew));exact HO430.out))) (below_size (by repeat (first|(with_reducible first|exact HB.out|apply below_alloc|apply pw_below_drewN|apply below_drew1)|exact HB.out))));have n2_:=Aside0.mk (below_step (by repeat (first|(with_reducible first|exact HB.out|apply below_alloc|apply pw_below_drewN|apply below_drew1)|exact HB.out)) hb);clear HO430;clear HB;have HO430:=n0_;have HO434:=n1_;have HB:=n2_;clear n0_ n1_ n2_;(try clear hb);(try clear hb2);(try clear hk);(try clear hi);(try clear ho0))|(go_at_call 38;(with_reducible refine (spec_LimitedLengths.calls k _ _ t427 t428 t435 t436 _ ?side1 ?side2 A6.out).mono ?_);(case side1 => repeat (first|exact (Kd.R_reads' HO430.out).2.2|(with_reducible refine Kd.C_alloc ?_ _)|(with_reducible refine Kd.C_drewN ?_ _)|(with_reducible refine Kd.C_drew ?_)));(case side2 => exact (Kd.R_reads' HO430.out).2.1);rintro e w11 ⟨v437,rfl,ho0,hb⟩;have n0_:=Aside0.mk (Kd.R_elder' (by (with_reducible repeat (first|apply Kd.R_alloc|apply Kd.R_drewN|apply Kd.R_drew));exact HO430.out) (Kd.R_base ho0) hb);have n1_:=Aside0.mk (Kd.R_elder' (by (with_reducible repeat (first|apply Kd.R_alloc|apply Kd.R_drewN|apply Kd.R_drew));exact HO434.out) (Kd.R_base ho0) hb);have n2_:=Aside0.mk (Kd.R_lower (Kd.R_new' (Kd.R_new' ho0 (Kd.R_lt (by (with_reducible repeat (first|apply Kd.R_alloc|apply Kd.R_drewN|apply Kd.R_drew));exact HO430.out))) (Kd.R_lt (by (with_reducible repeat (first|apply Kd.R_alloc|apply Kd.R_drewN|apply Kd.R_drew));exact HO434.out))) (below_size (by repeat (first|(with_reducible first|exact HB.out|apply below_alloc|apply pw_below_drewN|apply below_drew1)|exact HB.out))));have n3_:=Aside0.mk (below_step (by repeat (first|(with_reducible first|exact HB.out|apply below_alloc|apply pw_below_drewN|apply below_drew1)|exact HB.out)) hb);clear HO430;clear HO434;clear HB;have HO430:=n0_;have HO434:=n1_;have HO438:=n2_;have HB:=n3_;clear n0_ n1_ n2_ n3_;(try clear hb);(try clear hb2);(try clear hk);(try clear hi);(try clear ho0))))
  go_ret
  exact ⟨by first|rfl|(simp [errW_none,errW_some] <;> rfl)|(simp [*,errW_none,errW_some] <;> rfl),by repeat (first|(with_reducible first|exact HB.out|apply below_alloc|apply pw_below_drewN|apply below_drew1)|exact HB.out)⟩
 rw [if_neg c7] at H
 have c7b0 : (t432 != t436) = false:=by simpa using c7
 (try (have c7b1 : decide (t432 = t436) = true:=by simpa using c7))
 (try (have c7b2 : (t432 == t436) = true:=by simpa using c7))
 clear c7
 by_cases c12 : t432 = true
 rotate_left
 ·replace c12:=Bool.eq_false_iff.mpr c12
  subst c12
  have H1 : (some ((t431.length : Int) == 0)) = some r:=by rw [if_neg (show ¬ (false = true) by decide)] at H;exact H
  clear H
  have H:=H1
  clear H1
  obtain rfl:=Option.some.inj H
  go_enter Try.func11,Try.ntmps11
  go_wp2_with (first|(go_at_call 24;(with_reducible refine (laws_big.calls _ _ l0 false _ ?side1 ?side2 A2.out).mono ?_);(case side1 => repeat (first|exact HR0.out|(with_reducible refine Kd.C_alloc ?_ _)|(with_reducible refine Kd.C_drewN ?_ _)|(with_reducible refine Kd.C_drew ?_)));(case side2 => exact HC0.out);rintro e w' ⟨rfl,⟨nd,rfl⟩⟩;(try first|exact ⟨rfl,_,World.drewN_drewN _ _ _⟩|exact ⟨rfl,_,Eq.trans (World.drewN_drewN _ _ _) (congrArg (World.drewN _) (Nat.add_assoc _ _ _))⟩))|(go_at_call 40;(with_reducible refine (spec_DrawLimitedLengths.calls k _ _ l0 t427 t428 _ ?side1 ?side2 A4.out).mono ?_);(case side1 => repeat (first|exact HR0.out|(with_reducible refine Kd.C_alloc ?_ _)|(with_reducible refine Kd.C_drewN ?_ _)|(with_reducible refine Kd.C_drew ?_)));(case side2 => exact HC0.out);rintro e w65 ⟨v429,rfl,ho0,hb⟩;have n0_:=Aside0.mk (Kd.R_lower ho0 (below_size (by repeat (first|(with_reducible first|exact HB.out|apply below_alloc|apply pw_below_drewN|apply below_drew1)|exact HB.out))));have n1_:=Aside0.mk (below_step (by repeat (first|(with_reducible first|exact HB.out|apply below_alloc|apply pw_below_drewN|apply below_drew1)|exact HB.out)) hb);clear HB;have HO430:=n0_;have HB:=n1_;clear n0_ n1_;(try clear hb);(try clear hb2);(try clear hk);(try clear hi);(try clear ho0);obtain ⟨Ao66,co66,eo66⟩:=Kd.R_slice HO430.out;subst eo66)|(go_at_call 39;(with_reducible refine (impl_LimitedLengths.calls k _ _ t427 t428 t431 false _ ?side1 ?side2 A5.out).mono ?_);(case side1 => repeat (first|exact (Kd.R_reads' HO430.out).2.2|(with_reducible refine Kd.C_alloc ?_ _)|(with_reducible refine Kd.C_drewN ?_ _)|(with_reducible refine Kd.C_drew ?_)));(case side2 => exact (Kd.R_reads' HO430.out).2.1);rintro e w67 ⟨v433,rfl,ho0,hb⟩;have n0_:=Aside0.mk (Kd.R_elder' (by (with_reducible repeat (first|apply Kd.R_alloc|apply Kd.R_drewN|apply Kd.R_drew));exact HO430.out) (Kd.R_base ho0) hb);have n1_:=Aside0.mk (Kd.R_lower (Kd.R_new' ho0 (Kd.R_lt (by (with_reducible repeat (first|apply Kd.R_alloc|apply Kd.R_drewN|apply Kd.R_drew));exact HO430.out))) (below_size (by repeat (first|(with_reducible first|exact HB.out|apply below_alloc|apply pw_below_drewN|apply below_drew1)|exact HB.out))));have n2_:=Aside0.mk (below_step (by repeat (first|(with_reducible first|exact HB.out|apply below_alloc|apply pw_below_drewN|apply below_drew1)|exact HB.out)) hb);clear HO430;clear HB;have HO430:=n0_;have HO434:=n1_;have HB:=n2_;clear n0_ n1_ n2_;(try clear hb);(try clear hb2);(try clear hk);(try clear hi);(try clear ho0))|(go_at_call 38;(with_reducible refine (spec_LimitedLengths.calls k _ _ t427 t428 t435 t436 _ ?side1 ?side2 A6.out).mono ?_);(case side1 => repeat (first|exact (Kd.R_reads' HO430.out).2.2|(with_reducible refine Kd.C_alloc ?_ _)|(with_reducible refine Kd.C_drewN ?_ _)|(with_reducible refine Kd.C_drew ?_)));(case side2 => exact (Kd.R_reads' HO430.out).2.1);rintro e w68 ⟨v437,rfl,ho0,hb⟩;have n0_:=Aside0.mk (Kd.R_elder' (by (with_reducible repeat (first|apply Kd.R_alloc|apply Kd.R_drewN|apply Kd.R_drew));exact HO430.out) (Kd.R_base ho0) hb);have n1_:=Aside0.mk (Kd.R_elder' (by (with_reducible repeat (first|apply Kd.R_alloc|apply Kd.R_drewN|apply Kd.R_drew));exact HO434.out) (Kd.R_base ho0) hb);have n2_:=Aside0.mk (Kd.R_lower (Kd.R_new' (Kd.R_new' ho0 (Kd.R_lt (by (with_reducible repeat (first|apply Kd.R_alloc|apply Kd.R_drewN|apply Kd.R_drew));exact HO430.out))) (Kd.R_lt (by (with_reducible repeat (first|apply Kd.R_alloc|apply Kd.R_drewN|apply Kd.R_drew));exact HO434.out))) (below_size (by repeat (first|(with_reducible first|exact HB.out|apply below_alloc|apply pw_below_drewN|apply below_drew1)|exact HB.out))));have n3_:=Aside0.mk (below_step (by repeat (first|(with_reducible first|exact HB.out|apply below_alloc|apply pw_below_drewN|apply below_drew1)|exact HB.out)) hb);clear HO430;clear HO434;clear HB;have HO430:=n0_;have HO434:=n1_;have HO438:=n2_;have HB:=n3_;clear n0_ n1_ n2_ n3_;(try clear hb);(try clear hb2);(try clear hk);(try clear hi);(try clear ho0);obtain ⟨Ao69,co69,eo69⟩:=Kd.R_slice HO434.out;subst eo69))
  repeat (go_quiet (first|(go_at_call 24;(with_reducible refine (laws_big.calls _ _ l0 false _ ?side1 ?side2 A2.out).mono ?_);(case side1 => repeat (first|exact HR0.out|(with_reducible refine Kd.C_alloc ?_ _)|(with_reducible refine Kd.C_drewN ?_ _)|(with_reducible refine Kd.C_drew ?_)));(case side2 => exact HC0.out);rintro e w' ⟨rfl,⟨nd,rfl⟩⟩;(try first|exact ⟨rfl,_,World.drewN_drewN _ _ _⟩|exact ⟨rfl,_,Eq.trans (World.drewN_drewN _ _ _) (congrArg (World.drewN _) (Nat.add_assoc _ _ _))⟩))|(go_at_call 40;(with_reducible refine (spec_DrawLimitedLengths.calls k _ _ l0 t427 t428 _ ?side1 ?side2 A4.out).mono ?_);(case side1 => repeat (first|exact HR0.out|(with_reducible refine Kd.C_alloc ?_ _)|(with_reducible refine Kd.C_drewN ?_ _)|(with_reducible refine Kd.C_drew ?_)));(case side2 => exact HC0.out);rintro e w65 ⟨v429,rfl,ho0,hb⟩;have n0_:=Aside0.mk (Kd.R_lower ho0 (below_size (by repeat (first|(with_reducible first|exact HB.out|apply below_alloc|apply pw_below_drewN|apply below_drew1)|exact HB.out))));have n1_:=Aside0.mk (below_step (by repeat (first|(with_reducible first|exact HB.out|apply below_alloc|apply pw_below_drewN|apply below_drew1)|exact HB.out)) hb);clear HB;have HO430:=n0_;have HB:=n1_;clear n0_ n1_;(try clear hb);(try clear hb2);(try clear hk);(try clear hi);(try clear ho0);obtain ⟨Ao66,co66,eo66⟩:=Kd.R_slice HO430.out;subst eo66)|(go_at_call 39;(with_reducible refine (impl_LimitedLengths.calls k _ _ t427 t428 t431 false _ ?side1 ?side2 A5.out).mono ?_);(case side1 => repeat (first|exact (Kd.R_reads' HO430.out).2.2|(with_reducible refine Kd.C_alloc ?_ _)|(with_reducible refine Kd.C_drewN ?_ _)|(with_reducible refine Kd.C_drew ?_)));(case side2 => exact (Kd.R_reads' HO430.out).2.1);rintro e w67 ⟨v433,rfl,ho0,hb⟩;have n0_:=Aside0.mk (Kd.R_elder' (by (with_reducible repeat (first|apply Kd.R_alloc|apply Kd.R_drewN|apply Kd.R_drew));exact HO430.out) (Kd.R_base ho0) hb);have n1_:=Aside0.mk (Kd.R_lower (Kd.R_new' ho0 (Kd.R_lt (by (with_reducible repeat (first|apply Kd.R_alloc|apply Kd.R_drewN|apply Kd.R_drew));exact HO430.out))) (below_size (by repeat (first|(with_reducible first|exact HB.out|apply below_alloc|apply pw_below_drewN|apply below_drew1)|exact HB.out))));have n2_:=Aside0.mk (below_step (by repeat (first|(with_reducible first|exact HB.out|apply below_alloc|apply pw_below_drewN|apply below_drew1)|exact HB.out)) hb);clear HO430;clear HB;have HO430:=n0_;have HO434:=n1_;have HB:=n2_;clear n0_ n1_ n2_;(try clear hb);(try clear hb2);(try clear hk);(try clear hi);(try clear ho0))|(go_at_call 38;(with_reducible refine (spec_LimitedLengths.calls k _ _ t427 t428 t435 t436 _ ?side1 ?side2 A6.out).mono ?_);(case side1 => repeat (first|exact (Kd.R_reads' HO430.out).2.2|(with_reducible refine Kd.C_alloc ?_ _)|(with_reducible refine Kd.C_drewN ?_ _)|(with_reducible refine Kd.C_drew ?_)));(case side2 => exact (Kd.R_reads' HO430.out).2.1);rintro e w68 ⟨v437,rfl,ho0,hb⟩;have n0_:=Aside0.mk (Kd.R_elder' (by (with_reducible repeat (first|apply Kd.R_alloc|apply Kd.R_drewN|apply Kd.R_drew));exact HO430.out) (Kd.R_base ho0) hb);have n1_:=Aside0.mk (Kd.R_elder' (by (with_reducible repeat (first|apply Kd.R_alloc|apply Kd.R_drewN|apply Kd.R_drew));exact HO434.out) (Kd.R_base ho0) hb);have n2_:=Aside0.mk (Kd.R_lower (Kd.R_new' (Kd.R_new' ho0 (Kd.R_lt (by (with_reducible repeat (first|apply Kd.R_alloc|apply Kd.R_drewN|apply Kd.R_drew));exact HO430.out))) (Kd.R_lt (by (with_reducible repeat (first|apply Kd.R_alloc|apply Kd.R_drewN|apply Kd.R_drew));exact HO434.out))) (below_size (by repeat (first|(with_reducible first|exact HB.out|apply below_alloc|apply pw_below_drewN|apply below_drew1)|exact HB.out))));have n3_:=Aside0.mk (below_step (by repeat (first|(with_reducible first|exact HB.out|apply below_alloc|apply pw_below_drewN|apply below_drew1)|exact HB.out)) hb);clear HO430;clear HO434;clear HB;have HO430:=n0_;have HO434:=n1_;have HO438:=n2_;have HB:=n3_;clear n0_ n1_ n2_ n3_;(try clear hb);(try clear hb2);(try clear hk);(try clear hi);(try clear ho0);obtain ⟨Ao69,co69,eo69⟩:=Kd.R_slice HO434.out;subst eo69));try go_wp2_with (first|(go_at_call 24;(with_reducible refine (laws_big.calls _ _ l0 false _ ?side1 ?side2 A2.out).mono ?_);(case side1 => repeat (first|exact HR0.out|(with_reducible refine Kd.C_alloc ?_ _)|(with_reducible refine Kd.C_drewN ?_ _)|(with_reducible refine Kd.C_drew ?_)));(case side2 => exact HC0.out);rintro e w' ⟨rfl,⟨nd,rfl⟩⟩;(try first|exact ⟨rfl,_,World.drewN_drewN _ _ _⟩|exact ⟨rfl,_,Eq.trans (World.drewN_drewN _ _ _) (congrArg (World.drewN _) (Nat.add_assoc _ _ _))⟩))|(go_at_call 40;(with_reducible refine (spec_DrawLimitedLengths.calls k _ _ l0 t427 t428 _ ?side1 ?side2 A4.out).mono ?_);(case side1 => repeat (first|exact HR0.out|(with_reducible refine Kd.C_alloc ?_ _)|(with_reducible refine Kd.C_drewN ?_ _)|(with_reducible refine Kd.C_drew ?_)));(case side2 => exact HC0.out);rintro e w65 ⟨v429,rfl,ho0,hb⟩;have n0_:=Aside0.mk (Kd.R_lower ho0 (below_size (by repeat (first|(with_reducible first|exact HB.out|apply below_alloc|apply pw_below_drewN|apply below_drew1)|exact HB.out))));have n1_:=Aside0.mk (below_step (by repeat (first|(with_reducible first|exact HB.out|apply below_alloc|apply pw_below_drewN|apply below_drew1)|exact HB.out)) hb);clear HB;have HO430:=n0_;have HB:=n1_;clear n0_ n1_;(try clear hb);(try clear hb2);(try clear hk);(try clear hi);(try clear ho0);obtain ⟨Ao66,co66,eo66⟩:=Kd.R_slice HO430.out;subst eo66)|(go_at_call 39;(with_reducible refine (impl_LimitedLengths.calls k _ _ t427 t428 t431 false _ ?side1 ?side2 A5.out).mono ?_);(case side1 => repeat (first|exact (Kd.R_reads' HO430.out).2.2|(with_reducible refine Kd.C_alloc ?_ _)|(with_reducible refine Kd.C_drewN ?_ _)|(with_reducible refine Kd.C_drew ?_)));(case side2 => exact (Kd.R_reads' HO430.out).2.1);rintro e w67 ⟨v433,rfl,ho0,hb⟩;have n0_:=Aside0.mk (Kd.R_elder' (by (with_reducible repeat (first|apply Kd.R_alloc|apply Kd.R_drewN|apply Kd.R_drew));exact HO430.out) (Kd.R_base ho0) hb);have n1_:=Aside0.mk (Kd.R_lower (Kd.R_new' ho0 (Kd.R_lt (by (with_reducible repeat (first|apply Kd.R_alloc|apply Kd.R_drewN|apply Kd.R_drew));exact HO430.out))) (below_size (by repeat (first|(with_reducible first|exact HB.out|apply below_alloc|apply pw_below_drewN|apply below_drew1)|exact HB.out))));have n2_:=Aside0.mk (below_step (by repeat (first|(with_reducible first|exact HB.out|apply below_alloc|apply pw_below_drewN|apply below_drew1)|exact HB.out)) hb);clear HO430;clear HB;have HO430:=n0_;have HO434:=n1_;have HB:=n2_;clear n0_ n1_ n2_;(try clear hb);(try clear hb2);(try clear hk);(try clear hi);(try clear ho0))|(go_at_call 38;(with_reducible refine (spec_LimitedLengths.calls k _ _ t427 t428 t435 t436 _ ?side1 ?side2 A6.out).mono ?_);(case side1 => repeat (first|exact (Kd.R_reads' HO430.out).2.2|(with_reducible refine Kd.C_alloc ?_ _)|(with_reducible refine Kd.C_drewN ?_ _)|(with_reducible refine Kd.C_drew ?_)));(case side2 => exact (Kd.R_reads' HO430.out).2.1);rintro e w68 ⟨v437,rfl,ho0,hb⟩;have n0_:=Aside0.mk (Kd.R_elder' (by (with_reducible repeat (first|apply Kd.R_alloc|apply Kd.R_drewN|apply Kd.R_drew));exact HO430.out) (Kd.R_base ho0) hb);have n1_:=Aside0.mk (Kd.R_elder' (by (with_reducible repeat (first|apply Kd.R_alloc|apply Kd.R_drewN|apply Kd.R_drew));exact HO434.out) (Kd.R_base ho0) hb);have n2_:=Aside0.mk (Kd.R_lower (Kd.R_new' (Kd.R_new' ho0 (Kd.R_lt (by (with_reducible repeat (first|apply Kd.R_alloc|apply Kd.R_drewN|apply Kd.R_drew));exact HO430.out))) (Kd.R_lt (by (with_reducible repeat (first|apply Kd.R_alloc|apply Kd.R_drewN|apply Kd.R_drew));exact HO434.out))) (below_size (by repeat (first|(with_reducible first|exact HB.out|apply below_alloc|apply pw_below_drewN|apply below_drew1)|exact HB.out))));have n3_:=Aside0.mk (below_step (by repeat (first|(with_reducible first|exact HB.out|apply below_alloc|apply pw_below_drewN|apply below_drew1)|exact HB.out)) hb);clear HO430;clear HO434;clear HB;have HO430:=n0_;have HO434:=n1_;have HO438:=n2_;have HB:=n3_;clear n0_ n1_ n2_ n3_;(try clear hb);(try clear hb2);(try clear hk);(try clear hi);(try clear ho0);obtain ⟨Ao69,co69,eo69⟩:=Kd.R_slice HO434.out;subst eo69)))
  go_ret
  exact ⟨by first|rfl|(simp [errW_none,errW_some] <;> rfl)|(simp [*,errW_none,errW_some] <;> rfl),by repeat (first|(with_reducible first|exact HB.out|apply below_alloc|apply pw_below_drewN|apply below_drew1)|exact HB.out)⟩
 subst c12
 have H1 : (laws_FnPackage.l0 k l0 t427 t428 t431 0 0) = some r:=by rw [if_pos rfl] at H;exact H
 clear H
 have H:=H1
 clear H1
 have H':=Aside0.mk H
 clear H
 go_enter Try.func11,Try.ntmps11
 go_wp2_with (first|(go_at_call 24;(with_reducible refine (laws_big.calls _ _ l0 false _ ?side1 ?side2 A2.out).mono ?_);(case side1 => repeat (first|exact HR0.out|(with_reducible refine Kd.C_alloc ?_ _)|(with_reducible refine Kd.C_drewN ?_ _)|(with_reducible refine Kd.C_drew ?_)));(case side2 => exact HC0.out);rintro e w' ⟨rfl,⟨nd,rfl⟩⟩;(try first|exact ⟨rfl,_,World.drewN_drewN _ _ _⟩|exact ⟨rfl,_,Eq.trans (World.drewN_drewN _ _ _) (congrArg (World.drewN _) (Nat.add_assoc _ _ _))⟩))|(go_at_call 40;(with_reducible refine (spec_DrawLimitedLengths.calls k _ _ l0 t427 t428 _ ?side1 ?side2 A4.out).mono ?_);(case side1 => repeat (first|exact HR0.out|(with_reducible refine Kd.C_alloc ?_ _)|(with_reducible refine Kd.C_drewN ?_ _)|(with_reducible refine Kd.C_drew ?_)));(case side2 => exact HC0.out);rintro e w13 ⟨v429,rfl,ho0,hb⟩;have n0_:=Aside0.mk (Kd.R_lower ho0 (below_size (by repeat (first|(with_reducible first|exact HB.out|apply below_alloc|apply pw_below_drewN|apply below_drew1)|exact HB.out))));have n1_:=Aside0.mk (below_step (by repeat (first|(with_reducible first|exact HB.out|apply below_alloc|apply pw_below_drewN|apply below_drew1)|exact HB.out)) hb);clear HB;have HO430:=n0_;have HB:=n1_;clear n0_ n1_;(try clear hb);(try clear hb2);(try clear hk);(try clear hi);(try clear ho0);obtain ⟨Ao14,co14,eo14⟩:=Kd.R_slice HO430.out;subst eo14)|(go_at_call 39;(with_reducible refine (impl_LimitedLengths.calls k _ _ t427 t428 t431 true _ ?side1 ?side2 A5.out).mono ?_);(case side1 => repeat (first|exact (Kd.R_reads' HO430.out).2.2|(with_reducible refine Kd.C_alloc ?_ _)|(with_reducible refine Kd.C_drewN ?_ _)|(with_reducible refine Kd.C_drew ?_)));(case side2 => exact (Kd.R_reads' HO430.out).2.1);rintro e w15 ⟨v433,rfl,ho0,hb⟩;have n0_:=Aside0.mk (Kd.R_elder' (by (with_reducible repeat (first|apply Kd.R_alloc|apply Kd.R_drewN|apply Kd.R_drew));exact HO430.out) (Kd.R_base ho0) hb);have n1_:=Aside0.mk (Kd.R_lower (Kd.R_new' ho0 (Kd.R_lt (by (with_reducible repeat (first|apply Kd.R_alloc|apply Kd.R_drewN|apply Kd.R_drew));exact HO430.out))) (below_size (by repeat (first|(with_reducible first|exact HB.out|apply below_alloc|apply pw_below_drewN|apply below_drew1)|exact HB.out))));have n2_:=Aside0.mk (below_step (by repeat (first|(with_reducible first|exact HB.out|apply below_alloc|apply pw_below_drewN|apply below_drew1)|exact HB.out)) hb);clear HO430;clear HB;have HO430:=n0_;have HO434:=n1_;have HB:=n2_;clear n0_ n1_ n2_;(try clear hb);(try clear hb2);(try clear hk);(try clear hi);(try clear ho0))|(go_at_call 38;(with_reducible refine (spec_LimitedLengths.calls k _ _ t427 t428 t435 t436 _ ?side1 ?side2 A6.out).mono ?_);(case side1 => repeat (first|exact (Kd.R_reads' HO430.out).2.2|(with_reducible refine Kd.C_alloc ?_ _)|(with_reducible refine Kd.C_drewN ?_ _)|(with_reducible refine Kd.C_drew ?_)));(case side2 => exact (Kd.R_reads' HO430.out).2.1);rintro e w16 ⟨v437,rfl,ho0,hb⟩;have n0_:=Aside0.mk (Kd.R_elder' (by (with_reducible repeat (first|apply Kd.R_alloc|apply Kd.R_drewN|apply Kd.R_drew));exact HO430.out) (Kd.R_base ho0) hb);have n1_:=Aside0.mk (Kd.R_elder' (by (with_reducible repeat (first|apply Kd.R_alloc|apply Kd.R_drewN|apply Kd.R_drew));exact HO434.out) (Kd.R_base ho0) hb);have n2_:=Aside0.mk (Kd.R_lower (Kd.R_new' (Kd.R_new' ho0 (Kd.R_lt (by (with_reducible repeat (first|apply Kd.R_alloc|apply Kd.R_drewN|apply Kd.R_drew));exact HO430.out))) (Kd.R_lt (by (with_reducible repeat (first|apply Kd.R_alloc|apply Kd.R_drewN|apply Kd.R_drew));exact HO434.out))) (below_size (by repeat (first|(with_reducible first|exact HB.out|apply below_alloc|apply pw_below_drewN|apply below_drew1)|exact HB.out))));have n3_:=Aside0.mk (below_step (by repeat (first|(with_reducible first|exact HB.out|apply below_alloc|apply pw_below_drewN|apply below_drew1)|exact HB.out)) hb);clear HO430;clear HO434;clear HB;have HO430:=n0_;have HO434:=n1_;have HO438:=n2_;have HB:=n3_;clear n0_ n1_ n2_ n3_;(try clear hb);(try clear hb2);(try clear hk);(try clear hi);(try clear ho0)))
 repeat (go_quiet (first|(go_at_call 24;(with_reducible refine (laws_big.calls _ _ l0 false _ ?side1 ?side2 A2.out).mono ?_);(case side1 => repeat (first|exact HR0.out|(with_reducible refine Kd.C_alloc ?_ _)|(with_reducible refine Kd.C_drewN ?_ _)|(with_reducible refine Kd.C_drew ?_)));(case side2 => exact HC0.out);rintro e w' ⟨rfl,⟨nd,rfl⟩⟩;(try first|exact ⟨rfl,_,World.drewN_drewN _ _ _⟩|exact ⟨rfl,_,Eq.trans (World.drewN_drewN _ _ _) (congrArg (World.drewN _) (Nat.add_assoc _ _ _))⟩))|(go_at_call 40;(with_reducible refine (spec_DrawLimitedLengths.calls k _ _ l0 t427 t428 _ ?side1 ?side2 A4.out).mono ?_);(case side1 => repeat (first|exact HR0.out|(with_reducible refine Kd.C_alloc ?_ _)|(with_reducible refine Kd.C_drewN ?_ _)|(with_reducible refine Kd.C_drew ?_)));(case side2 => exact HC0.out);rintro e w13 ⟨v429,rfl,ho0,hb⟩;have n0_:=Aside0.mk (Kd.R_lower ho0 (below_size (by repeat (first|(with_reducible first|exact HB.out|apply below_alloc|apply pw_below_drewN|apply below_drew1)|exact HB.out))));have n1_:=Aside0.mk (below_step (by repeat (first|(with_reducible first|exact HB.out|apply below_alloc|apply pw_below_drewN|apply below_drew1)|exact HB.out)) hb);clear HB;have HO430:=n0_;have HB:=n1_;clear n0_ n1_;(try clear hb);(try clear hb2);(try clear hk);(try clear hi);(try clear ho0);obtain ⟨Ao14,co14,eo14⟩:=Kd.R_slice HO430.out;subst eo14)|(go_at_call 39;(with_reducible refine (impl_LimitedLengths.calls k _ _ t427 t428 t431 true _ ?side1 ?side2 A5.out).mono ?_);(case side1 => repeat (first|exact (Kd.R_reads' HO430.out).2.2|(with_reducible refine Kd.C_alloc ?_ _)|(with_reducible refine Kd.C_drewN ?_ _)|(with_reducible refine Kd.C_drew ?_)));(case side2 => exact (Kd.R_reads' HO430.out).2.1);rintro e w15 ⟨v433,rfl,ho0,hb⟩;have n0_:=Aside0.mk (Kd.R_elder' (by (with_reducible repeat (first|apply Kd.R_alloc|apply Kd.R_drewN|apply Kd.R_drew));exact HO430.out) (Kd.R_base ho0) hb);have n1_:=Aside0.mk (Kd.R_lower (Kd.R_new' ho0 (Kd.R_lt (by (with_reducible repeat (first|apply Kd.R_alloc|apply Kd.R_drewN|apply Kd.R_drew));exact HO430.out))) (below_size (by repeat (first|(with_reducible first|exact HB.out|apply below_alloc|apply pw_below_drewN|apply below_drew1)|exact HB.out))));have n2_:=Aside0.mk (below_step (by repeat (first|(with_reducible first|exact HB.out|apply below_alloc|apply pw_below_drewN|apply below_drew1)|exact HB.out)) hb);clear HO430;clear HB;have HO430:=n0_;have HO434:=n1_;have HB:=n2_;clear n0_ n1_ n2_;(try clear hb);(try clear hb2);(try clear hk);(try clear hi);(try clear ho0))|(go_at_call 38;(with_reducible refine (spec_LimitedLengths.calls k _ _ t427 t428 t435 t436 _ ?side1 ?side2 A6.out).mono ?_);(case side1 => repeat (first|exact (Kd.R_reads' HO430.out).2.2|(with_reducible refine Kd.C_alloc ?_ _)|(with_reducible refine Kd.C_drewN ?_ _)|(with_reducible refine Kd.C_drew ?_)));(case side2 => exact (Kd.R_reads' HO430.out).2.1);rintro e w16 ⟨v437,rfl,ho0,hb⟩;have n0_:=Aside0.mk (Kd.R_elder' (by (with_reducible repeat (first|apply Kd.R_alloc|apply Kd.R_drewN|apply Kd.R_drew));exact HO430.out) (Kd.R_base ho0) hb);have n1_:=Aside0.mk (Kd.R_elder' (by (with_reducible repeat (first|apply Kd.R_alloc|apply Kd.R_drewN|apply Kd.R_drew));exact HO434.out) (Kd.R_base ho0) hb);have n2_:=Aside0.mk (Kd.R_lower (Kd.R_new' (Kd.R_new' ho0 (Kd.R_lt (by (with_reducible repeat (first|apply Kd.R_alloc|apply Kd.R_drewN|apply Kd.R_drew));exact HO430.out))) (Kd.R_lt (by (with_reducible repeat (first|apply Kd.R_alloc|apply Kd.R_drewN|apply Kd.R_drew));exact HO434.out))) (below_size (by repeat (first|(with_reducible first|exact HB.out|apply below_alloc|apply pw_below_drewN|apply below_drew1)|exact HB.out))));have n3_:=Aside0.mk (below_step (by repeat (first|(with_reducible first|exact HB.out|apply below_alloc|apply pw_below_drewN|apply below_drew1)|exact HB.out)) hb);clear HO430;clear HO434;clear HB;have HO430:=n0_;have HO434:=n1_;have HO438:=n2_;have HB:=n3_;clear n0_ n1_ n2_ n3_;(try clear hb);(try clear hb2);(try clear hk);(try clear hi);(try clear ho0)));try go_wp2_with (first|(go_at_call 24;(with_reducible refine (laws_big.calls _ _ l0 false _ ?side1 ?side2 A2.out).mono ?_);(case side1 => repeat (first|exact HR0.out|(with_reducible refine Kd.C_alloc ?_ _)|(with_reducible refine Kd.C_drewN ?_ _)|(with_reducible refine Kd.C_drew ?_)));(case side2 => exact HC0.out);rintro e w' ⟨rfl,⟨nd,rfl⟩⟩;(try first|exact ⟨rfl,_,World.drewN_drewN _ _ _⟩|exact ⟨rfl,_,Eq.trans (World.drewN_drewN _ _ _) (congrArg (World.drewN _) (Nat.add_assoc _ _ _))⟩))|(go_at_call 40;(with_reducible refine (spec_DrawLimitedLengths.calls k _ _ l0 t427 t428 _ ?side1 ?side2 A4.out).mono ?_);(case side1 => repeat (first|exact HR0.out|(with_reducible refine Kd.C_alloc ?_ _)|(with_reducible refine Kd.C_drewN ?_ _)|(with_reducible refine Kd.C_drew ?_)));(case side2 => exact HC0.out);rintro e w13 ⟨v429,rfl,ho0,hb⟩;have n0_:=Aside0.mk (Kd.R_lower ho0 (below_size (by repeat (first|(with_reducible first|exact HB.out|apply below_alloc|apply pw_below_drewN|apply below_drew1)|exact HB.out))));have n1_:=Aside0.mk (below_step (by repeat (first|(with_reducible first|exact HB.out|apply below_alloc|apply pw_below_drewN|apply below_drew1)|exact HB.out)) hb);clear HB;have HO430:=n0_;have HB:=n1_;clear n0_ n1_;(try clear hb);(try clear hb2);(try clear hk);(try clear hi);(try clear ho0);obtain ⟨Ao14,co14,eo14⟩:=Kd.R_slice HO430.out;subst eo14)|(go_at_call 39;(with_reducible refine (impl_LimitedLengths.calls k _ _ t427 t428 t431 true _ ?side1 ?side2 A5.out).mono ?_);(case side1 => repeat (first|exact (Kd.R_reads' HO430.out).2.2|(with_reducible refine Kd.C_alloc ?_ _)|(with_reducible refine Kd.C_drewN ?_ _)|(with_reducible refine Kd.C_drew ?_)));(case side2 => exact (Kd.R_reads' HO430.out).2.1);rintro e w15 ⟨v433,rfl,ho0,hb⟩;have n0_:=Aside0.mk (Kd.R_elder' (by (with_reducible repeat (first|apply Kd.R_alloc|apply Kd.R_drewN|apply Kd.R_drew));exact HO430.out) (Kd.R_base ho0) hb);have n1_:=Aside0.mk (Kd.R_lower (Kd.R_new' ho0 (Kd.R_lt (by (with_reducible repeat (first|apply Kd.R_alloc|apply Kd.R_drewN|apply Kd.R_drew));exact HO430.out))) (below_size (by repeat (first|(with_reducible first|exact HB.out|apply below_alloc|apply pw_below_drewN|apply below_drew1)|exact HB.out))));have n2_:=Aside0.mk (below_step (by repeat (first|(with_reducible first|exact HB.out|apply below_alloc|apply pw_below_drewN|apply below_drew1)|exact HB.out)) hb);clear HO430;clear HB;have HO430:=n0_;have HO434:=n1_;have HB:=n2_;clear n0_ n1_ n2_;(try clear hb);(try clear hb2);(try clear hk);(try clear hi);(try clear ho0))|(go_at_call 38;(with_reducible refine (spec_LimitedLengths.calls k _ _ t427 t428 t435 t436 _ ?side1 ?side2 A6.out).mono ?_);(case side1 => repeat (first|exact (Kd.R_reads' HO430.out).2.2|(with_reducible refine Kd.C_alloc ?_ _)|(with_reducible refine Kd.C_drewN ?_ _)|(with_reducible refine Kd.C_drew ?_)));(case side2 => exact (Kd.R_reads' HO430.out).2.1);rintro e w16 ⟨v437,rfl,ho0,hb⟩;have n0_:=Aside0.mk (Kd.R_elder' (by (with_reducible repeat (first|apply Kd.R_alloc|apply Kd.R_drewN|apply Kd.R_drew));exact HO430.out) (Kd.R_base ho0) hb);have n1_:=Aside0.mk (Kd.R_elder' (by (with_reducible repeat (first|apply Kd.R_alloc|apply Kd.R_drewN|apply Kd.R_drew));exact HO434.out) (Kd.R_base ho0) hb);have n2_:=Aside0.mk (Kd.R_lower (Kd.R_new' (Kd.R_new' ho0 (Kd.R_lt (by (with_reducible repeat (first|apply Kd.R_alloc|apply Kd.R_drewN|apply Kd.R_drew));exact HO430.out))) (Kd.R_lt (by (with_reducible repeat (first|apply Kd.R_alloc|apply Kd.R_drewN|apply Kd.R_drew));exact HO434.out))) (below_size (by repeat (first|(with_reducible first|exact HB.out|apply below_alloc|apply pw_below_drewN|apply below_drew1)|exact HB.out))));have n3_:=Aside0.mk (below_step (by repeat (first|(with_reducible first|exact HB.out|apply below_alloc|apply pw_below_drewN|apply below_drew1)|exact HB.out)) hb);clear HO430;clear HO434;clear HB;have HO430:=n0_;have HO434:=n1_;have HO438:=n2_;have HB:=n3_;clear n0_ n1_ n2_ n3_;(try clear hb);(try clear hb2);(try clear hk);(try clear hi);(try clear ho0))))
 go_loopg [9,10] k (fun kq v9 v10 w' => ∃ (x9_1 : Int) (x10_1 : Int),v9 = .int .i64 x9_1∧v10 = .int .i64 x10_1∧Aside0 (laws_FnPackage.l0 kq l0 t427 t428 t431 x9_1 x10_1 = some r)∧Aside0 (kq ≤ k)∧Aside0 (Kd.R (Kd.int .i64) 3 w' w.heap.size (fun k_ => some k_ ≠ (v433 : Value).ownBlock) (.slice Ao14 t427.length co14) t427)∧Aside0 (Kd.R (Kd.int .i64) 3 w' w.heap.size (fun k_ => some k_ ≠ ((.slice Ao14 t427.length co14) : Value).ownBlock) v433 t431)∧Aside0 (Below w.heap.size w w'))
 case atStart => exact ⟨(0),(0),(by first|rfl|(simp;done)|(simp [*];done)),(by first|rfl|(simp;done)|(simp [*];done)),H',⟨Nat.le_refl _⟩,⟨by (with_reducible repeat (first|apply Kd.R_alloc|apply Kd.R_drewN|apply Kd.R_drew));exact Kd.R_mono HO430.out (fun _ hk => hk.1.2)⟩,⟨by (with_reducible repeat (first|apply Kd.R_alloc|apply Kd.R_drewN|apply Kd.R_drew));exact Kd.R_mono HO434.out (fun _ hk => hk.1.2)⟩,⟨by repeat (first|(with_reducible first|exact HB.out|apply below_alloc|apply pw_below_drewN|apply below_drew1)|exact HB.out)⟩⟩
 case round =>
  clear H'
  obtain ⟨x9_1,x10_1,rfl,rfl,HA,HK1,HO_3,HO_5,HB⟩:=hrel
  cases gk with
  | zero => exact absurd HA.out (by simp [laws_FnPackage.l0])
  | succ k1 =>
   have H:=HA.out
   clear HA
   simp only [laws_FnPackage.l0] at H
   by_cases c17 : x10_1 < (t427.length : Int)
   ·rw [if_pos c17] at H
    have c17b0 : decide (x10_1 < (t427.length : Int)) = true:=decide_eq_true c17
    clear c17
    have HC18:=Aside0.mk H
    clear H
    go_upto_region 14 with (fail)
    repeat (go_quiet (fail);go_upto_region 14 with (fail))
    go_cut [70] (fun v70 wc => ∃ (kq : Nat) (x70_17 : Bool),v70 = .bool x70_17∧Aside0 (laws_FnPackage.j1 kq l0 t427 t428 t431 x9_1 x10_1 x70_17 = some r)∧Aside0 (kq ≤ k1)∧Aside0 (Kd.R (Kd.int .i64) 3 wc w.heap.size (fun k_ => some k_ ≠ (v433 : Value).ownBlock) (.slice Ao14 t427.length co14) t427)∧Aside0 (Kd.R (Kd.int .i64) 3 wc w.heap.size (fun k_ => some k_ ≠ ((.slice Ao14 t427.length co14) : Value).ownBlock) v433 t431)∧Aside0 (Below w.heap.size w wc))
    case first =>
     have H:=HC18.out
     clear HC18
     by_cases c19 : 0 ≤ x10_1
     rotate_left
     ·rw [if_neg c19] at H
      exact absurd H (by simp)
     rw [if_pos c19] at H
     have c19b0 : decide (0 ≤ x10_1) = true:=decide_eq_true c19
     clear c19
     (first|rw [c19b0]|(simp only [i64_w,i32_w];rw [c19b0])|skip)
     by_cases c20 : x10_1 < (t431.length : Int)
     rotate_left
     ·rw [if_neg c20] at H
      exact absurd H (by simp)
     rw [if_pos c20] at H
     have c20b0 : decide (x10_1 < (t431.length : Int)) = true:=decide_eq_true c20
     clear c20
     by_cases c21 : ((decide ((rd t427 x10_1) > 0)) != (decide ((rd t431 x10_1) > 0))) = true
     ·rw [if_pos c21] at H
      have c21b0 : ((decide ((rd t427 x10_1) > 0)) != (decide ((rd t431 x10_1) > 0))) = true:=c21
      (try (have c21b1 : decide ((decide ((rd t427 x10_1) > 0)) = (decide ((rd t431 x10_1) > 0))) = false:=by simpa using c21))
      (try (have c21b2 : ((decide ((rd t427 x10_1) > 0)) == (decide ((rd t431 x10_1) > 0))) = false:=by simpa using c21))
      (try (have c21b3 : ¬ ((decide ((rd t427 x10_1) > 0)) = (decide ((rd t431 x10_1) > 0))):=by simpa using c21))
      clear c21
      have H':=Aside0.mk H
      clear H
      have p439 : 0 ≤ (x10_1 : Int):=of_decide_eq_true (by assumption)
      have q439 : x10_1 < (t427.length : Int):=of_decide_eq_true (by assumption)
      obtain ⟨ad439,e439,hx439_0⟩:=Kd.at_int (Kd.R_reads' HO_3.out).2.2 x10_1 p439 q439
      cases e439
      replace p439:=eq_true p439
      replace q439:=eq_true q439
      obtain ⟨Ao22,co22,eo22⟩:=Kd.R_slice HO_5.out
      subst eo22
      have p440 : 0 ≤ (x10_1 : Int):=of_decide_eq_true (by assumption)
      have q440 : x10_1 < (t431.length : Int):=of_decide_eq_true (by assumption)
      obtain ⟨ad440,e440,hx440_0⟩:=Kd.at_int (Kd.R_reads' HO_5.out).2.2 x10_1 p440 q440
      cases e440
      replace p440:=eq_true p440
      replace q440:=eq_true q440
      go_wp2
      repeat (go_quiet (fail);try go_wp2)
      go_meet
      case rel => exact ⟨_,(true),(by first|rfl|(simp;done)|(simp [*];done)),H',⟨by have:=HK1.out;first|omega|exact Nat.le_refl _⟩,⟨by (with_reducible repeat (first|apply Kd.R_alloc|apply Kd.R_drewN|apply Kd.R_drew));exact HO_3.out⟩,⟨by (with_reducible repeat (first|apply Kd.R_alloc|apply Kd.R_drewN|apply Kd.R_drew));exact HO_5.out⟩,⟨by repeat (first|(with_reducible first|exact HB.out|apply below_alloc|apply pw_below_drewN|apply below_drew1)|exact HB.out)⟩⟩
     rw [if_neg c21] at H
     have c21b0 : ((decide ((rd t427 x10_1) > 0)) != (decide ((rd t431 x10_1) > 0))) = false:=by simpa using c21
     (try (have c21b1 : decide ((decide ((rd t427 x10_1) > 0)) = (decide ((rd t431 x10_1) > 0))) = true:=by simpa using c21))
     (try (have c21b2 : ((decide ((rd t427 x10_1) > 0)) == (decide ((rd t431 x10_1) > 0))) = true:=by simpa using c21))
     clear c21
     have H':=Aside0.mk H
     clear H
     have p439 : 0 ≤ (x10_1 : Int):=of_decide_eq_true (by assumption)
     have q439 : x10_1 < (t427.length : Int):=of_decide_eq_true (by assumption)
     obtain ⟨ad439,e439,hx439_0⟩:=Kd.at_int (Kd.R_reads' HO_3.out).2.2 x10_1 p439 q439
     cases e439
     replace p439:=eq_true p439
     replace q439:=eq_true q439
     obtain ⟨Ao23,co23,eo23⟩:=Kd.R_slice HO_5.out
     subst eo23
     have p440 : 0 ≤ (x10_1 : Int):=of_decide_eq_true (by assumption)
     have q440 : x10_1 < (t431.length : Int):=of_decide_eq_true (by assumption)
     obtain ⟨ad440,e440,hx440_0⟩:=Kd.at_int (Kd.R_reads' HO_5.out).2.2 x10_1 p440 q440
     cases e440
     replace p440:=eq_true p440
     replace q440:=eq_true q440
     have p441 : 0 ≤ (x10_1 : Int):=of_decide_eq_true (by assumption)
     have q441 : x10_1 < (t431.length : Int):=of_decide_eq_true (by assumption)
     obtain ⟨ad441,e441,hx441_0⟩:=Kd.at_int (Kd.R_reads' HO_5.out).2.2 x10_1 p441 q441
     obtain rfl : ad440 = ad441:=(by injection e441)
     replace p441:=eq_true p441
     replace q441:=eq_true q441
     go_wp2
     repeat (go_quiet (fail);try go_wp2)
     go_meet
     case rel => exact ⟨_,(decide ((rd t431 x10_1) > t428)),(by first|rfl|(simp;done)|(simp [*];done)),H',⟨by have:=HK1.out;first|omega|exact Nat.le_refl _⟩,⟨by (with_reducible repeat (first|apply Kd.R_alloc|apply Kd.R_drewN|apply Kd.R_drew));exact HO_3.out⟩,⟨by (with_reducible repeat (first|apply Kd.R_alloc|apply Kd.R_drewN|apply Kd.R_drew));exact HO_5.out⟩,⟨by repeat (first|(with_reducible first|exact HB.out|apply below_alloc|apply pw_below_drewN|apply below_drew1)|exact HB.out)⟩⟩
    case rest =>
     clear HC18
     obtain ⟨kq,x70_17,rfl,HA,HJ17,HO_3,HO_5,HB⟩:=hcut
     cases kq with
     | zero => exact absurd HA.out (by simp [laws_FnPackage.j1])
     | succ kj17 =>
      have H:=HA.out
      clear HA
      simp only [laws_FnPackage.j1] at H
      by_cases c24 : x70_17 = true
      ·subst c24
       have H1 : (some false) = some r:=by rw [if_pos rfl] at H;exact H
       clear H
       have H:=H1
       clear H1
       obtain rfl:=Option.some.inj H
       go_wp2
       repeat (go_quiet (fail);try go_wp2)
       go_ret
       exact ⟨by first|rfl|(simp [errW_none,errW_some] <;> rfl)|(simp [*,errW_none,errW_some] <;> rfl),by repeat (first|(with_reducible first|exact HB.out|apply below_alloc|apply pw_below_drewN|apply below_drew1)|exact HB.out)⟩
      replace c24:=Bool.eq_false_iff.mpr c24
      subst c24
      have H1 : (if 0 ≤ x10_1 then (if x10_1 < (t427.length : Int) then (if (rd t427 x10_1) > 0 then (laws_FnPackage.l0 kj17 l0 t427 t428 t431 (wrap64 (x9_1 + 1)) (wrap64 (x10_1 + 1))) else (laws_FnPackage.l0 kj17 l0 t427 t428 t431 x9_1 (wrap64 (x10_1 + 1)))) else (none)) else (none)) = some r:=by rw [if_neg (show ¬ (false = true) by decide)] at H;exact H
      clear H
      have H:=H1
      clear H1
      by_cases c25 : 0 ≤ x10_1
      rotate_left
      ·rw [if_neg c25] at H
       exact absurd H (by simp)
      rw [if_pos c25] at H
      have c25b0 : decide (0 ≤ x10_1) = true:=decide_eq_true c25
      clear c25
      by_cases c26 : x10_1 < (t427.length : Int)
      rotate_left
      ·rw [if_neg c26] at H
       exact absurd H (by simp)
      rw [if_pos c26] at H
      have c26b0 : decide (x10_1 < (t427.length : Int)) = true:=decide_eq_true c26
      clear c26
      by_cases c27 : (rd t427 x10_1) > 0
      rotate_left
      ·rw [if_neg c27] at H
       have c27b0 : decide (0 < (rd t427 x10_1)) = false:=decide_eq_false c27
       clear c27
       have H':=Aside0.mk H
       clear H
       have p442 : 0 ≤ (x10_1 : Int):=of_decide_eq_true (by assumption)
       have q442 : x10_1 < (t427.length : Int):=of_decide_eq_true (by assumption)
       obtain ⟨ad442,e442,hx442_0⟩:=Kd.at_int (Kd.R_reads' HO_3.out).2.2 x10_1 p442 q442
       cases e442
       replace p442:=eq_true p442
       replace q442:=eq_true q442
       go_wp2
       repeat (go_quiet (fail);try go_wp2)
       go_roundg kj17
       case measure => have:=HK1.out;have:=HJ17.out;omega
       case rel => exact ⟨(x9_1),(wrap64 (x10_1 + 1)),(by first|rfl|(simp;done)|(simp [*];done)),(by first|rfl|(simp;done)|(simp [*];done)),H',⟨by have:=HK1.out;have:=HJ17.out;omega⟩,⟨by (with_reducible repeat (first|apply Kd.R_alloc|apply Kd.R_drewN|apply Kd.R_drew));exact HO_3.out⟩,⟨by (with_reducible repeat (first|apply Kd.R_alloc|apply Kd.R_drewN|apply Kd.R_drew));exact HO_5.out⟩,⟨by repeat (first|(with_reducible first|exact HB.out|apply below_alloc|apply pw_below_drewN|apply below_drew1)|exact HB.out)⟩⟩
      rw [if_pos c27] at H
      have c27b0 : decide (0 < (rd t427 x10_1)) = true:=decide_eq_true c27
      clear c27
      have H':=Aside0.mk H
      clear H
      have p442 : 0 ≤ (x10_1 : Int):=of_decide_eq_true (by assumption)
      have q442 : x10_1 < (t427.length : Int):=of_decide_eq_true (by assumption)
      obtain ⟨ad442,e442,hx442_0⟩:=Kd.at_int (Kd.R_reads' HO_3.out).2.2 x10_1 p442 q442
      cases e442
      replace p442:=eq_true p442
      replace q442:=eq_true q442
      go_wp2
      repeat (go_quiet (fail);try go_wp2)
      go_roundg kj17
      case measure => have:=HK1.out;have:=HJ17.out;omega
      case rel => exact ⟨(wrap64 (x9_1 + 1)),(wrap64 (x10_1 + 1)),(by first|rfl|(simp;done)|(simp [*];done)),(by first|rfl|(simp;done)|(simp [*];done)),H',⟨by have:=HK1.out;have:=HJ17.out;omega⟩,⟨by (with_reducible repeat (first|apply Kd.R_alloc|apply Kd.R_drewN|apply Kd.R_drew));exact HO_3.out⟩,⟨by (with_reducible repeat (first|apply Kd.R_alloc|apply Kd.R_drewN|apply Kd.R_drew));exact HO_5.out⟩,⟨by repeat (first|(with_reducible first|exact HB.out|apply below_alloc|apply pw_below_drewN|apply below_drew1)|exact HB.out)⟩⟩
   rw [if_neg c17] at H
   have c17b0 : decide (x10_1 < (t427.length : Int)) = false:=decide_eq_false c17
   clear c17
   replace H:=Option.bind_eq_some_iff.mp H
   obtain ⟨⟨t443,t444⟩,A280,H⟩:=H
   replace H : (if t444 = true then (if x9_1 > 1 then ((spec_CodeKind.f k1 t431).bind fun t445 => (if t445 = 2 then (if x9_1 = 1 then (laws_FnPackage.j2 k1 l0 t427 t428 t443 (t443 == 0)) else (laws_FnPackage.j2 k1 l0 t427 t428 t443 false)) else (laws_FnPackage.j2 k1 l0 t427 t428 t443 true))) else (if x9_1 = 1 then (laws_FnPackage.j2 k1 l0 t427 t428 t443 (t443 == 0)) else (laws_FnPackage.j2 k1 l0 t427 t428 t443 false))) else (laws_FnPackage.j2 k1 l0 t427 t428 t443 true)) = some r:=H
   have A28:=Aside0.mk A280
   clear A280
   have HC29:=Aside0.mk H
   clear H
   obtain ⟨Ao30,co30,eo30⟩:=Kd.R_slice HO_5.out
   subst eo30
   go_upto_region 19 with (first|(go_at_call 19;(with_reducible refine (impl_CostOf.calls k1 _ _ t431 _ _ t427 t443 t444 _ ?side1 ?side2 ?side3 ?side4 A28.out).mono ?_);(case side1 => repeat (first|exact (Kd.R_reads' HO_5.out).2.2|(with_reducible refine Kd.C_alloc ?_ _)|(with_reducible refine Kd.C_drewN ?_ _)|(with_reducible refine Kd.C_drew ?_)));(case side2 => exact (Kd.R_reads' HO_5.out).2.1);(case side3 => repeat (first|exact (Kd.R_reads' HO_3.out).2.2|(with_reducible refine Kd.C_alloc ?_ _)|(with_reducible refine Kd.C_drewN ?_ _)|(with_reducible refine Kd.C_drew ?_)));(case side4 => exact (Kd.R_reads' HO_3.out).2.1);rintro e w31 ⟨rfl,hb⟩;have n0_:=Aside0.mk (Kd.R_below (by (with_reducible repeat (first|apply Kd.R_alloc|apply Kd.R_drewN|apply Kd.R_drew));exact HO_3.out) hb);have n1_:=Aside0.mk (Kd.R_below (by (with_reducible repeat (first|apply Kd.R_alloc|apply Kd.R_drewN|apply Kd.R_drew));exact HO_5.out) hb);have n2_:=Aside0.mk (below_step (by repeat (first|(with_reducible first|exact HB.out|apply below_alloc|apply pw_below_drewN|apply below_drew1)|exact HB.out)) hb);clear HO_3;clear HO_5;clear HB;have HO_3:=n0_;have HO_5:=n1_;have HB:=n2_;clear n0_ n1_ n2_;(try clear hb);(try clear hb2);(try clear hk);(try clear hi)))
   repeat (go_quiet (first|(go_at_call 19;(with_reducible refine (impl_CostOf.calls k1 _ _ t431 _ _ t427 t443 t444 _ ?side1 ?side2 ?side3 ?side4 A28.out).mono ?_);(case side1 => repeat (first|exact (Kd.R_reads' HO_5.out).2.2|(with_reducible refine Kd.C_alloc ?_ _)|(with_reducible refine Kd.C_drewN ?_ _)|(with_reducible refine Kd.C_drew ?_)));(case side2 => exact (Kd.R_reads' HO_5.out).2.1);(case side3 => repeat (first|exact (Kd.R_reads' HO_3.out).2.2|(with_reducible refine Kd.C_alloc ?_ _)|(with_reducible refine Kd.C_drewN ?_ _)|(with_reducible refine Kd.C_drew ?_)));(case side4 => exact (Kd.R_reads' HO_3.out).2.1);rintro e w31 ⟨rfl,hb⟩;have n0_:=Aside0.mk (Kd.R_below (by (with_reducible repeat (first|apply Kd.R_alloc|apply Kd.R_drewN|apply Kd.R_drew));exact HO_3.out) hb);have n1_:=Aside0.mk (Kd.R_below (by (with_reducible repeat (first|apply Kd.R_alloc|apply Kd.R_drewN|apply Kd.R_drew));exact HO_5.out) hb);have n2_:=Aside0.mk (below_step (by repeat (first|(with_reducible first|exact HB.out|apply below_alloc|apply pw_below_drewN|apply below_drew1)|exact HB.out)) hb);clear HO_3;clear HO_5;clear HB;have HO_3:=n0_;have HO_5:=n1_;have HB:=n2_;clear n0_ n1_ n2_;(try clear hb);(try clear hb2);(try clear hk);(try clear hi)));go_upto_region 19 with (first|(go_at_call 19;(with_reducible refine (impl_CostOf.calls k1 _ _ t431 _ _ t427 t443 t444 _ ?side1 ?side2 ?side3 ?side4 A28.out).mono ?_);(case side1 => repeat (first|exact (Kd.R_reads' HO_5.out).2.2|(with_reducible refine Kd.C_alloc ?_ _)|(with_reducible refine Kd.C_drewN ?_ _)|(with_reducible refine Kd.C_drew ?_)));(case side2 => exact (Kd.R_reads' HO_5.out).2.1);(case side3 => repeat (first|exact (Kd.R_reads' HO_3.out).2.2|(with_reducible refine Kd.C_alloc ?_ _)|(with_reducible refine Kd.C_drewN ?_ _)|(with_reducible refine Kd.C_drew ?_)));(case side4 => exact (Kd.R_reads' HO_3.out).2.1);rintro e w31 ⟨rfl,hb⟩;have n0_:=Aside0.mk (Kd.R_below (by (with_reducible repeat (first|apply Kd.R_alloc|apply Kd.R_drewN|apply Kd.R_drew));exact HO_3.out) hb);have n1_:=Aside0.mk (Kd.R_below (by (with_reducible repeat (first|apply Kd.R_alloc|apply Kd.R_drewN|apply Kd.R_drew));exact HO_5.out) hb);have n2_:=Aside0.mk (below_step (by repeat (first|(with_reducible first|exact HB.out|apply below_alloc|apply pw_below_drewN|apply below_drew1)|exact HB.out)) hb);clear HO_3;clear HO_5;clear HB;have HO_3:=n0_;have HO_5:=n1_;have HB:=n2_;clear n0_ n1_ n2_;(try clear hb);(try clear hb2);(try clear hk);(try clear hi))))
   (try simp only [Act.put,List.setIfInBounds_toArray,List.set_cons_zero,List.set_cons_succ])
   go_cut [102] (fun v102 wc => ∃ (kq : Nat) (x102_28 : Bool),v102 = .bool x102_28∧Aside0 (laws_FnPackage.j2 kq l0 t427 t428 t443 x102_28 = some r)∧Aside0 (kq ≤ k1)∧Aside0 (Kd.R (Kd.int .i64) 3 wc w.heap.size (fun _ => True) (.slice Ao14 t427.length co14) t427)∧Aside0 (Below w.heap.size w wc))
   case first =>
    have H:=HC29.out
    clear HC29
    by_cases c32 : t444 = true
    rotate_left
    ·replace c32:=Bool.eq_false_iff.mpr c32
     subst c32
     have H1 : (laws_FnPackage.j2 k1 l0 t427 t428 t443 true) = some r:=by rw [if_neg (show ¬ (false = true) by decide)] at H;exact H
     clear H
     have H:=H1
     clear H1
     have H':=Aside0.mk H
     clear H
     go_wp2
     repeat (go_quiet (fail);try go_wp2)
     go_meet
     case rel => exact ⟨_,(true),(by first|rfl|(simp;done)|(simp [*];done)),H',⟨by have:=HK1.out;first|omega|exact Nat.le_refl _⟩,⟨by (with_reducible repeat (first|apply Kd.R_alloc|apply Kd.R_drewN|apply Kd.R_drew));exact Kd.R_mono HO_3.out (fun _ hk => trivial)⟩,⟨by repeat (first|(with_reducible first|exact HB.out|apply below_alloc|apply pw_below_drewN|apply below_drew1)|exact HB.out)⟩⟩
    subst c32
    have H1 : (if x9_1 > 1 then ((spec_CodeKind.f k1 t431).bind fun t445 => (if t445 = 2 then (if x9_1 = 1 then (laws_FnPackage.j2 k1 l0 t427 t428 t443 (t443 == 0)) else (laws_FnPackage.j2 k1 l0 t427 t428 t443 false)) else (laws_FnPackage.j2 k1 l0 t427 t428 t443 true))) else (if x9_1 = 1 then (laws_FnPackage.j2 k1 l0 t427 t428 t443 (t443 == 0)) else (laws_FnPackage.j2 k1 l0 t427 t428 t443 false))) = some r:=by rw [if_pos rfl] at H;exact H
    clear H
    have H:=H1
    clear H1
    by_cases c33 : x9_1 > 1
    rotate_left
    ·rw [if_neg c33] at H
     have c33b0 : decide (1 < x9_1) = false:=decide_eq_false c33
     clear c33
     (first|rw [c33b0]|(simp only [i64_w,i32_w];rw [c33b0])|skip)
     by_cases c37 : x9_1 = 1
     rotate_left
     ·rw [if_neg c37] at H
      have c37b0 : (x9_1 == 1) = false:=beq_eq_false_iff_ne.mpr c37
      have c37b1 : (x9_1 != 1) = true:=bne_iff_ne.mpr c37
      have H':=Aside0.mk H
      clear H
      go_wp2
      repeat (go_quiet (fail);try go_wp2)
      go_meet
      case rel => exact ⟨_,(false),(by first|rfl|(simp;done)|(simp [*];done)),H',⟨by have:=HK1.out;first|omega|exact Nat.le_refl _⟩,⟨by (with_reducible repeat (first|apply Kd.R_alloc|apply Kd.R_drewN|apply Kd.R_drew));exact Kd.R_mono HO_3.out (fun _ hk => trivial)⟩,⟨by repeat (first|(with_reducible first|exact HB.out|apply below_alloc|apply pw_below_drewN|apply below_drew1)|exact HB.out)⟩⟩
     rw [if_pos c37] at H
     have c37b0 : (x9_1 == 1) = true:=beq_iff_eq.mpr c37
     have c37b1 : (x9_1 != 1) = false:=bne_eq_false_iff_eq.mpr c37
     clear c37
     have H':=Aside0.mk H
     clear H
     go_wp2
     repeat (go_quiet (fail);try go_wp2)
     go_meet
     case rel => exact ⟨_,((t443 == 0)),(by first|rfl|(simp;done)|(simp [*];done)),H',⟨by have:=HK1.out;first|omega|exact Nat.le_refl _⟩,⟨by (with_reducible repeat (first|apply Kd.R_alloc|apply Kd.R_drewN|apply Kd.R_drew));exact Kd.R_mono HO_3.out (fun _ hk => trivial)⟩,⟨by repeat (first|(with_reducible first|exact HB.out|apply below_alloc|apply pw_below_drewN|apply below_drew1)|exact HB.out)⟩⟩
    rw [if_pos c33] at H
    have c33b0 : decide (1 < x9_1) = true:=decide_eq_true c33
    clear c33
    (first|rw [c33b0]|(simp only [i64_w,i32_w];rw [c33b0])|skip)
    replace H:=Option.bind_eq_some_iff.mp H
    obtain ⟨t445,A340,H⟩:=H
    replace H : (if t445 = 2 then (if x9_1 = 1 then (laws_FnPackage.j2 k1 l0 t427 t428 t443 (t443 == 0)) else (laws_FnPackage.j2 k1 l0 t427 t428 t443 false)) else (laws_FnPackage.j2 k1 l0 t427 t428 t443 true)) = some r:=H
    have A34:=Aside0.mk A340
    clear A340
    by_cases c35 : t445 = 2
    rotate_left
    ·rw [if_neg c35] at H
     have c35b0 : (t445 == 2) = false:=beq_eq_false_iff_ne.mpr c35
     have c35b1 : (t445 != 2) = true:=bne_iff_ne.mpr c35
     have H':=Aside0.mk H
     clear H
     go_wp2_with (first|(go_at_call 14;(with_reducible refine (spec_CodeKind.calls k1 _ _ t431 t445 _ ?side1 ?side2 A34.out).mono ?_);(case side1 => repeat (first|exact (Kd.R_reads' HO_5.out).2.2|(with_reducible refine Kd.C_alloc ?_ _)|(with_reducible refine Kd.C_drewN ?_ _)|(with_reducible refine Kd.C_drew ?_)));(case side2 => exact (Kd.R_reads' HO_5.out).2.1);rintro e w' ⟨rfl,⟨nd,rfl⟩⟩;(try first|exact ⟨rfl,_,World.drewN_drewN _ _ _⟩|exact ⟨rfl,_,Eq.trans (World.drewN_drewN _ _ _) (congrArg (World.drewN _) (Nat.add_assoc _ _ _))⟩)))
     repeat (go_quiet (first|(go_at_call 14;(with_reducible refine (spec_CodeKind.calls k1 _ _ t431 t445 _ ?side1 ?side2 A34.out).mono ?_);(case side1 => repeat (first|exact (Kd.R_reads' HO_5.out).2.2|(with_reducible refine Kd.C_alloc ?_ _)|(with_reducible refine Kd.C_drewN ?_ _)|(with_reducible refine Kd.C_drew ?_)));(case side2 => exact (Kd.R_reads' HO_5.out).2.1);rintro e w' ⟨rfl,⟨nd,rfl⟩⟩;(try first|exact ⟨rfl,_,World.drewN_drewN _ _ _⟩|exact ⟨rfl,_,Eq.trans (World.drewN_drewN _ _ _) (congrArg (World.drewN _) (Nat.add_assoc _ _ _))⟩)));try go_wp2_with (first|(go_at_call 14;(with_reducible refine (spec_CodeKind.calls k1 _ _ t431 t445 _ ?side1 ?side2 A34.out).mono ?_);(case side1 => repeat (first|exact (Kd.R_reads' HO_5.out).2.2|(with_reducible refine Kd.C_alloc ?_ _)|(with_reducible refine Kd.C_drewN ?_ _)|(with_reducible refine Kd.C_drew ?_)));(case side2 => exact (Kd.R_reads' HO_5.out).2.1);rintro e w' ⟨rfl,⟨nd,rfl⟩⟩;(try first|exact ⟨rfl,_,World.drewN_drewN _ _ _⟩|exact ⟨rfl,_,Eq.trans (World.drewN_drewN _ _ _) (congrArg (World.drewN _) (Nat.add_assoc _ _ _))⟩))))
     go_meet
     case rel => exact ⟨_,(true),(by first|rfl|(simp;done)|(simp [*];done)),H',⟨by have:=HK1.out;first|omega|exact Nat.le_refl _⟩,⟨by (with_reducible repeat (first|apply Kd.R_alloc|apply Kd.R_drewN|apply Kd.R_drew));exact Kd.R_mono HO_3.out (fun _ hk => trivial)⟩,⟨by repeat (first|(with_reducible first|exact HB.out|apply below_alloc|apply pw_below_drewN|apply below_drew1)|exact HB.out)⟩⟩
    rw [if_pos c35] at H
    have c35b0 : (t445 == 2) = true:=beq_iff_eq.mpr c35
    have c35b1 : (t445 != 2) = false:=bne_eq_false_iff_eq.mpr c35
    clear c35
    by_cases c36 : x9_1 = 1
    rotate_left
    ·rw [if_neg c36] at H
     have c36b0 : (x9_1 == 1) = false:=beq_eq_false_iff_ne.mpr c36
     have c36b1 : (x9_1 != 1) = true:=bne_iff_ne.mpr c36
     have H':=Aside0.mk H
     clear H
     go_wp2_with (first|(go_at_call 14;(with_reducible refine (spec_CodeKind.calls k1 _ _ t431 t445 _ ?side1 ?side2 A34.out).mono ?_);(case side1 => repeat (first|exact (Kd.R_reads' HO_5.out).2.2|(with_reducible refine Kd.C_alloc ?_ _)|(with_reducible refine Kd.C_drewN ?_ _)|(with_reducible refine Kd.C_drew ?_)));(case side2 => exact (Kd.R_reads' HO_5.out).2.1);rintro e w' ⟨rfl,⟨nd,rfl⟩⟩;(try first|exact ⟨rfl,_,World.drewN_drewN _ _ _⟩|exact ⟨rfl,_,Eq.trans (World.drewN_drewN _ _ _) (congrArg (World.drewN _) (Nat.add_assoc _ _ _))⟩)))
     repeat (go_quiet (first|(go_at_call 14;(with_reducible refine (spec_CodeKind.calls k1 _ _ t431 t445 _ ?side1 ?side2 A34.out).mono ?_);(case side1 => repeat (first|exact (Kd.R_reads' HO_5.out).2.2|(with_reducible refine Kd.C_alloc ?_ _)|(with_reducible refine Kd.C_drewN ?_ _)|(with_reducible refine Kd.C_drew ?_)));(case side2 => exact (Kd.R_reads' HO_5.out).2.1);rintro e w' ⟨rfl,⟨nd,rfl⟩⟩;(try first|exact ⟨rfl,_,World.drewN_drewN _ _ _⟩|exact ⟨rfl,_,Eq.trans (World.drewN_drewN _ _ _) (congrArg (World.drewN _) (Nat.add_assoc _ _ _))⟩)));try go_wp2_with (first|(go_at_call 14;(with_reducible refine (spec_CodeKind.calls k1 _ _ t431 t445 _ ?side1 ?side2 A34.out).mono ?_);(case side1 => repeat (first|exact (Kd.R_reads' HO_5.out).2.2|(with_reducible refine Kd.C_alloc ?_ _)|(with_reducible refine Kd.C_drewN ?_ _)|(with_reducible refine Kd.C_drew ?_)));(case side2 => exact (Kd.R_reads' HO_5.out).2.1);rintro e w' ⟨rfl,⟨nd,rfl⟩⟩;(try first|exact ⟨rfl,_,World.drewN_drewN _ _ _⟩|exact ⟨rfl,_,Eq.trans (World.drewN_drewN _ _ _) (congrArg (World.drewN _) (Nat.add_assoc _ _ _))⟩))))
     go_meet
     case rel => exact ⟨_,(false),(by first|rfl|(simp;done)|(simp [*];done)),H',⟨by have:=HK1.out;first|omega|exact Nat.le_refl _⟩,⟨by (with_reducible repeat (first|apply Kd.R_alloc|apply Kd.R_drewN|apply Kd.R_drew));exact Kd.R_mono HO_3.out (fun _ hk => trivial)⟩,⟨by repeat (first|(with_reducible first|exact HB.out|apply below_alloc|apply pw_below_drewN|apply below_drew1)|exact HB.out)⟩⟩
    rw [if_pos c36] at H
    have c36b0 : (x9_1 == 1) = true:=beq_iff_eq.mpr c36
    have c36b1 : (x9_1 != 1) = false:=bne_eq_false_iff_eq.mpr c36
    clear c36
    have H':=Aside0.mk H
    clear H
    go_wp2_with (first|(go_at_call 14;(with_reducible refine (spec_CodeKind.calls k1 _ _ t431 t445 _ ?side1 ?side2 A34.out).mono ?_);(case side1 => repeat (first|exact (Kd.R_reads' HO_5.out).2.2|(with_reducible refine Kd.C_alloc ?_ _)|(with_reducible refine Kd.C_drewN ?_ _)|(with_reducible refine Kd.C_drew ?_)));(case side2 => exact (Kd.R_reads' HO_5.out).2.1);rintro e w' ⟨rfl,⟨nd,rfl⟩⟩;(try first|exact ⟨rfl,_,World.drewN_drewN _ _ _⟩|exact ⟨rfl,_,Eq.trans (World.drewN_drewN _ _ _) (congrArg (World.drewN _) (Nat.add_assoc _ _ _))⟩)))
    repeat (go_quiet (first|(go_at_call 14;(with_reducible refine (spec_CodeKind.calls k1 _ _ t431 t445 _ ?side1 ?side2 A34.out).mono ?_);(case side1 => repeat (first|exact (Kd.R_reads' HO_5.out).2.2|(with_reducible refine Kd.C_alloc ?_ _)|(with_reducible refine Kd.C_drewN ?_ _)|(with_reducible refine Kd.C_drew ?_)));(case side2 => exact (Kd.R_reads' HO_5.out).2.1);rintro e w' ⟨rfl,⟨nd,rfl⟩⟩;(try first|exact ⟨rfl,_,World.drewN_drewN _ _ _⟩|exact ⟨rfl,_,Eq.trans (World.drewN_drewN _ _ _) (congrArg (World.drewN _) (Nat.add_assoc _ _ _))⟩)));try go_wp2_with (first|(go_at_call 14;(with_reducible refine (spec_CodeKind.calls k1 _ _ t431 t445 _ ?side1 ?side2 A34.out).mono ?_);(case side1 => repeat (first|exact (Kd.R_reads' HO_5.out).2.2|(with_reducible refine Kd.C_alloc ?_ _)|(with_reducible refine Kd.C_drewN ?_ _)|(with_reducible refine Kd.C_drew ?_)));(case side2 => exact (Kd.R_reads' HO_5.out).2.1);rintro e w' ⟨rfl,⟨nd,rfl⟩⟩;(try first|exact ⟨rfl,_,World.drewN_drewN _ _ _⟩|exact ⟨rfl,_,Eq.trans (World.drewN_drewN _ _ _) (congrArg (World.drewN _) (Nat.add_assoc _ _ _))⟩))))
    go_meet
    case rel => exact ⟨_,((t443 == 0)),(by first|rfl|(simp;done)|(simp [*];done)),H',⟨by have:=HK1.out;first|omega|exact Nat.le_refl _⟩,⟨by (with_reducible repeat (first|apply Kd.R_alloc|apply Kd.R_drewN|apply Kd.R_drew));exact Kd.R_mono HO_3.out (fun _ hk => trivial)⟩,⟨by repeat (first|(with_reducible first|exact HB.out|apply below_alloc|apply pw_below_drewN|apply below_drew1)|exact HB.out)⟩⟩
   case rest =>
    clear HC29
    obtain ⟨kq,x102_28,rfl,HA,HJ28,HO_3,HB⟩:=hcut
    cases kq with
    | zero => exact absurd HA.out (by simp [laws_FnPackage.j2])
    | succ kj28 =>
     have H:=HA.out
     clear HA
     simp only [laws_FnPackage.j2] at H
     by_cases c38 : x102_28 = true
     ·subst c38
      have H1 : (some false) = some r:=by rw [if_pos rfl] at H;exact H
      clear H
      have H:=H1
      clear H1
      obtain rfl:=Option.some.inj H
      go_wp2
      repeat (go_quiet (fail);try go_wp2)
      go_ret
      exact ⟨by first|rfl|(simp [errW_none,errW_some] <;> rfl)|(simp [*,errW_none,errW_some] <;> rfl),by repeat (first|(with_reducible first|exact HB.out|apply below_alloc|apply pw_below_drewN|apply below_drew1)|exact HB.out)⟩
     replace c38:=Bool.eq_false_iff.mpr c38
     subst c38
     have H1 : ((spec_DrawWhole.f kj28 l0).bind fun t446 => (if 0 ≤ (t427.length : Int) then (if ((t427.length : Int) : Int).toNat ≤ 35184372088832 then (laws_FnPackage.l1 kj28 t427 t428 t443 t446 (List.replicate ((t427.length : Int) : Int).toNat 0) 0 0) else (none)) else (none))) = some r:=by rw [if_neg (show ¬ (false = true) by decide)] at H;exact H
     clear H
     have H:=H1
     clear H1
     replace H:=Option.bind_eq_some_iff.mp H
     obtain ⟨t446,A390,H⟩:=H
     replace H : (if 0 ≤ (t427.length : Int) then (if ((t427.length : Int) : Int).toNat ≤ 35184372088832 then (laws_FnPackage.l1 kj28 t427 t428 t443 t446 (List.replicate ((t427.length : Int) : Int).toNat 0) 0 0) else (none)) else (none)) = some r:=H
     have A39:=Aside0.mk A390
     clear A390
     by_cases c40 : 0 ≤ (t427.length : Int)
     rotate_left
     ·rw [if_neg c40] at H
      exact absurd H (by simp)
     rw [if_pos c40] at H
     have c40b0:=eq_true c40
     have c40b1 : decide (0 ≤ (t427.length : Int)) = true:=decide_eq_true c40
     clear c40
     by_cases c41 : ((t427.length : Int) : Int).toNat ≤ 35184372088832
     rotate_left
     ·rw [if_neg c41] at H
      exact absurd H (by simp)
     rw [if_pos c41] at H
     have c41b0:=eq_true c41
     have c41b1 : decide (((t427.length : Int) : Int).toNat ≤ 35184372088832) = true:=decide_eq_true c41
     clear c41
     obtain ⟨y449,hy449⟩ : ∃ y_ : List Int,y_ = (List.replicate ((t427.length : Int) : Int).toNat 0):=⟨_,rfl⟩
     replace H : (laws_FnPackage.l1 kj28 t427 t428 t443 t446 y449 0 0) = some r:=by first|(rw [hy449];with_reducible exact H)|(have H2_:=(Option.bind_some _ _).symm.trans H;rw [hy449];with_reducible exact H2_)|(have H2_:=(Option.bind_some _ _).symm.trans H;with_reducible exact H2_)|with_reducible exact H|(rw [hy449];exact H)|exact H
     have Ny449:=Aside0.mk hy449
     clear hy449
     have H':=Aside0.mk H
     clear H
     go_wp2_with (first|(go_at_call 36;(with_reducible refine (spec_DrawWhole.calls kj28 _ _ l0 t446 _ ?side1 ?side2 A39.out).mono ?_);(case side1 => repeat (first|exact (Kd.C_below HR0.out HB.out)|(with_reducible refine Kd.C_alloc ?_ _)|(with_reducible refine Kd.C_drewN ?_ _)|(with_reducible refine Kd.C_drew ?_)));(case side2 => exact HC0.out);rintro e w42 ⟨v447,rfl,ho0,hb⟩;have n0_:=Aside0.mk (Kd.R_elder' (by (with_reducible repeat (first|apply Kd.R_alloc|apply Kd.R_drewN|apply Kd.R_drew));exact HO_3.out) (Kd.R_base ho0) hb);have n1_:=Aside0.mk (Kd.R_lower (Kd.R_new' ho0 (Kd.R_lt (by (with_reducible repeat (first|apply Kd.R_alloc|apply Kd.R_drewN|apply Kd.R_drew));exact HO_3.out))) (below_size (by repeat (first|(with_reducible first|exact HB.out|apply below_alloc|apply pw_below_drewN|apply below_drew1)|exact HB.out))));have n2_:=Aside0.mk (below_step (by repeat (first|(with_reducible first|exact HB.out|apply below_alloc|apply pw_below_drewN|apply below_drew1)|exact HB.out)) hb);clear HO_3;clear HB;have HO_3:=n0_;have HO448:=n1_;have HB:=n2_;clear n0_ n1_ n2_;(try clear hb);(try clear hb2);(try clear hk);(try clear hi);(try clear ho0))|((with_reducible refine gate_dst (N:=107) rfl ?_);(try (refine gate_guard (by rfl) ?_;dsimp only));refine Kd.R_make (Kd.int .i64) _ 3 rfl (N:=107) rfl 22 _ _ rfl (t427.length : Int) rfl rfl Try.underlying22 (.int .i64 0) 8 info3 rfl (by decide) (by omega) 0 (ok:=fun _ => True) (okp:=fun _ => True) rfl (fun _ hk => hk) trivial (of_decide_eq_true (by assumption)) (Nat.le_trans (Nat.mul_le_mul_right _ (of_decide_eq_true (by assumption) : (t427.length : Int).toNat ≤ 35184372088832)) (by omega)) (Below.refl _ _) (Nat.le_refl _) ?_;intro v450 w43 ho44 hb hg_ hnew_;clear hg_ hnew_;(first|rw [← Ny449.out] at ho44|(simp only [Int.reduceToNat] at ho44;rw [← Ny449.out] at ho44));have n0_:=Aside0.mk (Kd.R_elder' (by (with_reducible repeat (first|apply Kd.R_alloc|apply Kd.R_drewN|apply Kd.R_drew));exact HO_3.out) (Kd.R_base ho44) hb);have n1_:=Aside0.mk (Kd.R_elder' (by (with_reducible repeat (first|apply Kd.R_alloc|apply Kd.R_drewN|apply Kd.R_drew));exact HO448.out) (Kd.R_base ho44) hb);have n2_:=Aside0.mk (Kd.R_lower (Kd.R_new' (Kd.R_new' ho44 (Kd.R_lt (by (with_reducible repeat (first|apply Kd.R_alloc|apply Kd.R_drewN|apply Kd.R_drew));exact HO_3.out))) (Kd.R_lt (by (with_reducible repeat (first|apply Kd.R_alloc|apply Kd.R_drewN|apply Kd.R_drew));exact HO448.out))) (below_size (by repeat (first|(with_reducible first|exact HB.out|apply below_alloc|apply pw_below_drewN|apply below_drew1)|exact HB.out))));have n3_:=Aside0.mk (below_step (by repeat (first|(with_reducible first|exact HB.out|apply below_alloc|apply pw_below_drewN|apply below_drew1)|exact HB.out)) hb);clear HO_3;clear HO448;clear HB;have HO_3:=n0_;have HO448:=n1_;have HO451:=n2_;have HB:=n3_;clear n0_ n1_ n2_ n3_;clear hb ho44))
     repeat (go_quiet (first|(go_at_call 36;(with_reducible refine (spec_DrawWhole.calls kj28 _ _ l0 t446 _ ?side1 ?side2 A39.out).mono ?_);(case side1 => repeat (first|exact (Kd.C_below HR0.out HB.out)|(with_reducible refine Kd.C_alloc ?_ _)|(with_reducible refine Kd.C_drewN ?_ _)|(with_reducible refine Kd.C_drew ?_)));(case side2 => exact HC0.out);rintro e w42 ⟨v447,rfl,ho0,hb⟩;have n0_:=Aside0.mk (Kd.R_elder' (by (with_reducible repeat (first|apply Kd.R_alloc|apply Kd.R_drewN|apply Kd.R_drew));exact HO_3.out) (Kd.R_base ho0) hb);have n1_:=Aside0.mk (Kd.R_lower (Kd.R_new' ho0 (Kd.R_lt (by (with_reducible repeat (first|apply Kd.R_alloc|apply Kd.R_drewN|apply Kd.R_drew));exact HO_3.out))) (below_size (by repeat (first|(with_reducible first|exact HB.out|apply below_alloc|apply pw_below_drewN|apply below_drew1)|exact HB.out))));have n2_:=Aside0.mk (below_step (by repeat (first|(with_reducible first|exact HB.out|apply below_alloc|apply pw_below_drewN|apply below_drew1)|exact HB.out)) hb);clear HO_3;clear HB;have HO_3:=n0_;have HO448:=n1_;have HB:=n2_;clear n0_ n1_ n2_;(try clear hb);(try clear hb2);(try clear hk);(try clear hi);(try clear ho0))|((with_reducible refine gate_dst (N:=107) rfl ?_);(try (refine gate_guard (by rfl) ?_;dsimp only));refine Kd.R_make (Kd.int .i64) _ 3 rfl (N:=107) rfl 22 _ _ rfl (t427.length : Int) rfl rfl Try.underlying22 (.int .i64 0) 8 info3 rfl (by decide) (by omega) 0 (ok:=fun _ => True) (okp:=fun _ => True) rfl (fun _ hk => hk) trivial (of_decide_eq_true (by assumption)) (Nat.le_trans (Nat.mul_le_mul_right _ (of_decide_eq_true (by assumption) : (t427.length : Int).toNat ≤ 35184372088832)) (by omega)) (Below.refl _ _) (Nat.le_refl _) ?_;intro v450 w43 ho44 hb hg_ hnew_;clear hg_ hnew_;(first|rw [← Ny449.out] at ho44|(simp only [Int.reduceToNat] at ho44;rw [← Ny449.out] at ho44));have n0_:=Aside0.mk (Kd.R_elder' (by (with_reducible repeat (first|apply Kd.R_alloc|apply Kd.R_drewN|apply Kd.R_drew));exact HO_3.out) (Kd.R_base ho44) hb);have n1_:=Aside0.mk (Kd.R_elder' (by (with_reducible repeat (first|apply Kd.R_alloc|apply Kd.R_drewN|apply Kd.R_drew));exact HO448.out) (Kd.R_base ho44) hb);have n2_:=Aside0.mk (Kd.R_lower (Kd.R_new' (Kd.R_new' ho44 (Kd.R_lt (by (with_reducible repeat (first|apply Kd.R_alloc|apply Kd.R_drewN|apply Kd.R_drew));exact HO_3.out))) (Kd.R_lt (by (with_reducible repeat (first|apply Kd.R_alloc|apply Kd.R_drewN|apply Kd.R_drew));exact HO448.out))) (below_size (by repeat (first|(with_reducible first|exact HB.out|apply below_alloc|apply pw_below_drewN|apply below_drew1)|exact HB.out))));have n3_:=Aside0.mk (below_step (by repeat (first|(with_reducible first|exact HB.out|apply below_alloc|apply pw_below_drewN|apply below_drew1)|exact HB.out)) hb);clear HO_3;clear HO448;clear HB;have HO_3:=n0_;have HO448:=n1_;have HO451:=n2_;have HB:=n3_;clear n0_ n1_ n2_ n3_;clear hb ho44));try go_wp2_with (first|(go_at_call 36;(with_reducible refine (spec_DrawWhole.calls kj28 _ _ l0 t446 _ ?side1 ?side2 A39.out).mono ?_);(case side1 => repeat (first|exact (Kd.C_below HR0.out HB.out)|(with_reducible refine Kd.C_alloc ?_ _)|(with_reducible refine Kd.C_drewN ?_ _)|(with_reducible refine Kd.C_drew ?_)));(case side2 => exact HC0.out);rintro e w42 ⟨v447,rfl,ho0,hb⟩;have n0_:=Aside0.mk (Kd.R_elder' (by (with_reducible repeat (first|apply Kd.R_alloc|apply Kd.R_drewN|apply Kd.R_drew));exact HO_3.out) (Kd.R_base ho0) hb);have n1_:=Aside0.mk (Kd.R_lower (Kd.R_new' ho0 (Kd.R_lt (by (with_reducible repeat (first|apply Kd.R_alloc|apply Kd.R_drewN|apply Kd.R_drew));exact HO_3.out))) (below_size (by repeat (first|(with_reducible first|exact HB.out|apply below_alloc|apply pw_below_drewN|apply below_drew1)|exact HB.out))));have n2_:=Aside0.mk (below_step (by repeat (first|(with_reducible first|exact HB.out|apply below_alloc|apply pw_below_drewN|apply below_drew1)|exact HB.out)) hb);clear HO_3;clear HB;have HO_3:=n0_;have HO448:=n1_;have HB:=n2_;clear n0_ n1_ n2_;(try clear hb);(try clear hb2);(try clear hk);(try clear hi);(try clear ho0))|((with_reducible refine gate_dst (N:=107) rfl ?_);(try (refine gate_guard (by rfl) ?_;dsimp only));refine Kd.R_make (Kd.int .i64) _ 3 rfl (N:=107) rfl 22 _ _ rfl (t427.length : Int) rfl rfl Try.underlying22 (.int .i64 0) 8 info3 rfl (by decide) (by omega) 0 (ok:=fun _ => True) (okp:=fun _ => True) rfl (fun _ hk => hk) trivial (of_decide_eq_true (by assumption)) (Nat.le_trans (Nat.mul_le_mul_right _ (of_decide_eq_true (by assumption) : (t427.length : Int).toNat ≤ 35184372088832)) (by omega)) (Below.refl _ _) (Nat.le_refl _) ?_;intro v450 w43 ho44 hb hg_ hnew_;clear hg_ hnew_;(first|rw [← Ny449.out] at ho44|(simp only [Int.reduceToNat] at ho44;rw [← Ny449.out] at ho44));have n0_:=Aside0.mk (Kd.R_elder' (by (with_reducible repeat (first|apply Kd.R_alloc|apply Kd.R_drewN|apply Kd.R_drew));exact HO_3.out) (Kd.R_base ho44) hb);have n1_:=Aside0.mk (Kd.R_elder' (by (with_reducible repeat (first|apply Kd.R_alloc|apply Kd.R_drewN|apply Kd.R_drew));exact HO448.out) (Kd.R_base ho44) hb);have n2_:=Aside0.mk (Kd.R_lower (Kd.R_new' (Kd.R_new' ho44 (Kd.R_lt (by (with_reducible repeat (first|apply Kd.R_alloc|apply Kd.R_drewN|apply Kd.R_drew));exact HO_3.out))) (Kd.R_lt (by (with_reducible repeat (first|apply Kd.R_alloc|apply Kd.R_drewN|apply Kd.R_drew));exact HO448.out))) (below_size (by repeat (first|(with_reducible first|exact HB.out|apply below_alloc|apply pw_below_drewN|apply below_drew1)|exact HB.out))));have n3_:=Aside0.mk (below_step (by repeat (first|(with_reducible first|exact HB.out|apply below_alloc|apply pw_below_drewN|apply below_drew1)|exact HB.out)) hb);clear HO_3;clear HO448;clear HB;have HO_3:=n0_;have HO448:=n1_;have HO451:=n2_;have HB:=n3_;clear n0_ n1_ n2_ n3_;clear hb ho44)))
     go_loopg [15,16] kj28 (fun kq v15 v16 w' => ∃ (x14_3 : List Int) (x15_3 : Int) (x16_3 : Int),v15 = .int .i64 x15_3∧v16 = .int .i64 x16_3∧Aside0 (laws_FnPackage.l1 kq t427 t428 t443 t446 x14_3 x15_3 x16_3 = some r)∧Aside0 (kq ≤ kj28)∧Aside0 (Kd.R (Kd.int .i64) 3 w' w.heap.size (fun k_ => some k_ ≠ (v447 : Value).ownBlock∧some k_ ≠ (v450 : Value).ownBlock) (.slice Ao14 t427.length co14) t427)∧Aside0 (Kd.R (Kd.int .i64) 3 w' w.heap.size (fun k_ => some k_ ≠ ((.slice Ao14 t427.length co14) : Value).ownBlock∧some k_ ≠ (v450 : Value).ownBlock) v447 t446)∧Aside0 (Kd.R (Kd.int .i64) 3 w' w.heap.size (fun k_ => some k_ ≠ ((.slice Ao14 t427.length co14) : Value).ownBlock∧some k_ ≠ (v447 : Value).ownBlock) v450 x14_3)∧Aside0 (Below w.heap.size w w'))
     case atStart => exact ⟨(y449),(0),(0),(by first|rfl|(simp;done)|(simp [*];done)),(by first|rfl|(simp;done)|(simp [*];done)),H',⟨Nat.le_refl _⟩,⟨by (with_reducible repeat (first|apply Kd.R_alloc|apply Kd.R_drewN|apply Kd.R_drew));exact Kd.R_mono HO_3.out (fun _ hk => ⟨hk.1.2,hk.2⟩)⟩,⟨by (with_reducible repeat (first|apply Kd.R_alloc|apply Kd.R_drewN|apply Kd.R_drew));exact Kd.R_mono HO448.out (fun _ hk => ⟨hk.1.2,hk.2⟩)⟩,⟨by (with_reducible repeat (first|apply Kd.R_alloc|apply Kd.R_drewN|apply Kd.R_drew));exact Kd.R_mono HO451.out (fun _ hk => ⟨hk.1.2,hk.2⟩)⟩,⟨by repeat (first|(with_reducible first|exact HB.out|apply below_alloc|apply pw_below_drewN|apply below_drew1)|exact HB.out)⟩⟩
     case round =>
      clear H'
      obtain ⟨x14_3,x15_3,x16_3,rfl,rfl,HA,HK3,HO_3,HO_13,HO_14,HB⟩:=hrel
      cases gk with
      | zero => exact absurd HA.out (by simp [laws_FnPackage.l1])
      | succ k3 =>
       have H:=HA.out
       clear HA
       simp only [laws_FnPackage.l1] at H
       by_cases c45 : x16_3 < (t427.length : Int)
       rotate_left
       ·rw [if_neg c45] at H
        have c45b0 : decide (x16_3 < (t427.length : Int)) = false:=decide_eq_false c45
        clear c45
        replace H:=Option.bind_eq_some_iff.mp H
        obtain ⟨⟨t452,t453⟩,A610,H⟩:=H
        replace H : (if t453 = true then (some (decide (t443 ≤ t452))) else (some true)) = some r:=H
        have A61:=Aside0.mk A610
        clear A610
        by_cases c62 : t453 = true
        ·subst c62
         have H1 : (some (decide (t443 ≤ t452))) = some r:=by rw [if_pos rfl] at H;exact H
         clear H
         have H:=H1
         clear H1
         obtain rfl:=Option.some.inj H
         obtain ⟨Ao63,co63,eo63⟩:=Kd.R_slice HO_14.out
         subst eo63
         go_wp2_with (first|(go_at_call 18;(with_reducible refine (spec_CostOf.calls k3 _ _ x14_3 _ _ t427 t452 true _ ?side1 ?side2 ?side3 ?side4 A61.out).mono ?_);(case side1 => repeat (first|exact (Kd.R_reads' HO_14.out).2.2|(with_reducible refine Kd.C_alloc ?_ _)|(with_reducible refine Kd.C_drewN ?_ _)|(with_reducible refine Kd.C_drew ?_)));(case side2 => exact (Kd.R_reads' HO_14.out).2.1);(case side3 => repeat (first|exact (Kd.R_reads' HO_3.out).2.2|(with_reducible refine Kd.C_alloc ?_ _)|(with_reducible refine Kd.C_drewN ?_ _)|(with_reducible refine Kd.C_drew ?_)));(case side4 => exact (Kd.R_reads' HO_3.out).2.1);rintro e w' ⟨rfl,⟨nd,rfl⟩⟩;(try first|exact ⟨rfl,_,World.drewN_drewN _ _ _⟩|exact ⟨rfl,_,Eq.trans (World.drewN_drewN _ _ _) (congrArg (World.drewN _) (Nat.add_assoc _ _ _))⟩)))
         repeat (go_quiet (first|(go_at_call 18;(with_reducible refine (spec_CostOf.calls k3 _ _ x14_3 _ _ t427 t452 true _ ?side1 ?side2 ?side3 ?side4 A61.out).mono ?_);(case side1 => repeat (first|exact (Kd.R_reads' HO_14.out).2.2|(with_reducible refine Kd.C_alloc ?_ _)|(with_reducible refine Kd.C_drewN ?_ _)|(with_reducible refine Kd.C_drew ?_)));(case side2 => exact (Kd.R_reads' HO_14.out).2.1);(case side3 => repeat (first|exact (Kd.R_reads' HO_3.out).2.2|(with_reducible refine Kd.C_alloc ?_ _)|(with_reducible refine Kd.C_drewN ?_ _)|(with_reducible refine Kd.C_drew ?_)));(case side4 => exact (Kd.R_reads' HO_3.out).2.1);rintro e w' ⟨rfl,⟨nd,rfl⟩⟩;(try first|exact ⟨rfl,_,World.drewN_drewN _ _ _⟩|exact ⟨rfl,_,Eq.trans (World.drewN_drewN _ _ _) (congrArg (World.drewN _) (Nat.add_assoc _ _ _))⟩)));try go_wp2_with (first|(go_at_call 18;(with_reducible refine (spec_CostOf.calls k3 _ _ x14_3 _ _ t427 t452 true _ ?side1 ?side2 ?side3 ?side4 A61.out).mono ?_);(case side1 => repeat (first|exact (Kd.R_reads' HO_14.out).2.2|(with_reducible refine Kd.C_alloc ?_ _)|(with_reducible refine Kd.C_drewN ?_ _)|(with_reducible refine Kd.C_drew ?_)));(case side2 => exact (Kd.R_reads' HO_14.out).2.1);(case side3 => repeat (first|exact (Kd.R_reads' HO_3.out).2.2|(with_reducible refine Kd.C_alloc ?_ _)|(with_reducible refine Kd.C_drewN ?_ _)|(with_reducible refine Kd.C_drew ?_)));(case side4 => exact (Kd.R_reads' HO_3.out).2.1);rintro e w' ⟨rfl,⟨nd,rfl⟩⟩;(try first|exact ⟨rfl,_,World.drewN_drewN _ _ _⟩|exact ⟨rfl,_,Eq.trans (World.drewN_drewN _ _ _) (congrArg (World.drewN _) (Nat.add_assoc _ _ _))⟩))))
         go_ret
         exact ⟨by first|rfl|(simp [errW_none,errW_some] <;> rfl)|(simp [*,errW_none,errW_some] <;> rfl),by repeat (first|(with_reducible first|exact HB.out|apply below_alloc|apply pw_below_drewN|apply below_drew1)|exact HB.out)⟩
        replace c62:=Bool.eq_false_iff.mpr c62
        subst c62
        have H1 : (some true) = some r:=by rw [if_neg (show ¬ (false = true) by decide)] at H;exact H
        clear H
        have H:=H1
        clear H1
        obtain rfl:=Option.some.inj H
        obtain ⟨Ao64,co64,eo64⟩:=Kd.R_slice HO_14.out
        subst eo64
        go_wp2_with (first|(go_at_call 18;(with_reducible refine (spec_CostOf.calls k3 _ _ x14_3 _ _ t427 t452 false _ ?side1 ?side2 ?side3 ?side4 A61.out).mono ?_);(case side1 => repeat (first|exact (Kd.R_reads' HO_14.out).2.2|(with_reducible refine Kd.C_alloc ?_ _)|(with_reducible refine Kd.C_drewN ?_ _)|(with_reducible refine Kd.C_drew ?_)));(case side2 => exact (Kd.R_reads' HO_14.out).2.1);(case side3 => repeat (first|exact (Kd.R_reads' HO_3.out).2.2|(with_reducible refine Kd.C_alloc ?_ _)|(with_reducible refine Kd.C_drewN ?_ _)|(with_reducible refine Kd.C_drew ?_)));(case side4 => exact (Kd.R_reads' HO_3.out).2.1);rintro e w' ⟨rfl,⟨nd,rfl⟩⟩;(try first|exact ⟨rfl,_,World.drewN_drewN _ _ _⟩|exact ⟨rfl,_,Eq.trans (World.drewN_drewN _ _ _) (congrArg (World.drewN _) (Nat.add_assoc _ _ _))⟩)))
        repeat (go_quiet (first|(go_at_call 18;(with_reducible refine (spec_CostOf.calls k3 _ _ x14_3 _ _ t427 t452 false _ ?side1 ?side2 ?side3 ?side4 A61.out).mono ?_);(case side1 => repeat (first|exact (Kd.R_reads' HO_14.out).2.2|(with_reducible refine Kd.C_alloc ?_ _)|(with_reducible refine Kd.C_drewN ?_ _)|(with_reducible refine Kd.C_drew ?_)));(case side2 => exact (Kd.R_reads' HO_14.out).2.1);(case side3 => repeat (first|exact (Kd.R_reads' HO_3.out).2.2|(with_reducible refine Kd.C_alloc ?_ _)|(with_reducible refine Kd.C_drewN ?_ _)|(with_reducible refine Kd.C_drew ?_)));(case side4 => exact (Kd.R_reads' HO_3.out).2.1);rintro e w' ⟨rfl,⟨nd,rfl⟩⟩;(try first|exact ⟨rfl,_,World.drewN_drewN _ _ _⟩|exact ⟨rfl,_,Eq.trans (World.drewN_drewN _ _ _) (congrArg (World.drewN _) (Nat.add_assoc _ _ _))⟩)));try go_wp2_with (first|(go_at_call 18;(with_reducible refine (spec_CostOf.calls k3 _ _ x14_3 _ _ t427 t452 false _ ?side1 ?side2 ?side3 ?side4 A61.out).mono ?_);(case side1 => repeat (first|exact (Kd.R_reads' HO_14.out).2.2|(with_reducible refine Kd.C_alloc ?_ _)|(with_reducible refine Kd.C_drewN ?_ _)|(with_reducible refine Kd.C_drew ?_)));(case side2 => exact (Kd.R_reads' HO_14.out).2.1);(case side3 => repeat (first|exact (Kd.R_reads' HO_3.out).2.2|(with_reducible refine Kd.C_alloc ?_ _)|(with_reducible refine Kd.C_drewN ?_ _)|(with_reducible refine Kd.C_drew ?_)));(case side4 => exact (Kd.R_reads' HO_3.out).2.1);rintro e w' ⟨rfl,⟨nd,rfl⟩⟩;(try first|exact ⟨rfl,_,World.drewN_drewN _ _ _⟩|exact ⟨rfl,_,Eq.trans (World.drewN_drewN _ _ _) (congrArg (World.drewN _) (Nat.add_assoc _ _ _))⟩))))
        go_ret
        exact ⟨by first|rfl|(simp [errW_none,errW_some] <;> rfl)|(simp [*,errW_none,errW_some] <;> rfl),by repeat (first|(with_reducible first|exact HB.out|apply below_alloc|apply pw_below_drewN|apply below_drew1)|exact HB.out)⟩
       rw [if_pos c45] at H
       have c45b0 : decide (x16_3 < (t427.length : Int)) = true:=decide_eq_true c45
       clear c45
       have HC46:=Aside0.mk H
       clear H
       go_upto_region 27 with (fail)
       repeat (go_quiet (fail);go_upto_region 27 with (fail))
       go_cut [124] (fun v124 wc => ∃ (kq : Nat) (x124_45 : Bool),v124 = .bool x124_45∧Aside0 (laws_FnPackage.j4 kq t427 t428 t443 t446 x14_3 x15_3 x16_3 x124_45 = some r)∧Aside0 (kq ≤ k3)∧Aside0 (Kd.R (Kd.int .i64) 3 wc w.heap.size (fun k_ => some k_ ≠ (v447 : Value).ownBlock∧some k_ ≠ (v450 : Value).ownBlock) (.slice Ao14 t427.length co14) t427)∧Aside0 (Kd.R (Kd.int .i64) 3 wc w.heap.size (fun k_ => some k_ ≠ ((.slice Ao14 t427.length co14) : Value).ownBlock∧some k_ ≠ (v450 : Value).ownBlock) v447 t446)∧Aside0 (Kd.R (Kd.int .i64) 3 wc w.heap.size (fun k_ => some k_ ≠ ((.slice Ao14 t427.length co14) : Value).ownBlock∧some k_ ≠ (v447 : Value).ownBlock) v450 x14_3)∧Aside0 (Below w.heap.size w wc))
       case first =>
        have H:=HC46.out
        clear HC46
        by_cases c47 : 0 ≤ x16_3
        rotate_left
        ·rw [if_neg c47] at H
         exact absurd H (by simp)
        rw [if_pos c47] at H
        have c47b0 : decide (0 ≤ x16_3) = true:=decide_eq_true c47
        clear c47
        (first|rw [c47b0]|(simp only [i64_w,i32_w];rw [c47b0])|skip)
        by_cases c48 : (rd t427 x16_3) > 0
        rotate_left
        ·rw [if_neg c48] at H
         have c48b0 : decide (0 < (rd t427 x16_3)) = false:=decide_eq_false c48
         clear c48
         have H':=Aside0.mk H
         clear H
         have p454 : 0 ≤ (x16_3 : Int):=of_decide_eq_true (by assumption)
         have q454 : x16_3 < (t427.length : Int):=of_decide_eq_true (by assumption)
         obtain ⟨ad454,e454,hx454_0⟩:=Kd.at_int (Kd.R_reads' HO_3.out).2.2 x16_3 p454 q454
         cases e454
         replace p454:=eq_true p454
         replace q454:=eq_true q454
         go_wp2
         repeat (go_quiet (fail);try go_wp2)
         go_meet
         case rel => exact ⟨_,(false),(by first|rfl|(simp;done)|(simp [*];done)),H',⟨by have:=HK1.out;have:=HJ28.out;have:=HK3.out;first|omega|exact Nat.le_refl _⟩,⟨by (with_reducible repeat (first|apply Kd.R_alloc|apply Kd.R_drewN|apply Kd.R_drew));exact HO_3.out⟩,⟨by (with_reducible repeat (first|apply Kd.R_alloc|apply Kd.R_drewN|apply Kd.R_drew));exact HO_13.out⟩,⟨by (with_reducible repeat (first|apply Kd.R_alloc|apply Kd.R_drewN|apply Kd.R_drew));exact HO_14.out⟩,⟨by repeat (first|(with_reducible first|exact HB.out|apply below_alloc|apply pw_below_drewN|apply below_drew1)|exact HB.out)⟩⟩
        rw [if_pos c48] at H
        have c48b0 : decide (0 < (rd t427 x16_3)) = true:=decide_eq_true c48
        clear c48
        have H':=Aside0.mk H
        clear H
        have p454 : 0 ≤ (x16_3 : Int):=of_decide_eq_true (by assumption)
        have q454 : x16_3 < (t427.length : Int):=of_decide_eq_true (by assumption)
        obtain ⟨ad454,e454,hx454_0⟩:=Kd.at_int (Kd.R_reads' HO_3.out).2.2 x16_3 p454 q454
        cases e454
        replace p454:=eq_true p454
        replace q454:=eq_true q454
        obtain ⟨Ao49,co49,eo49⟩:=Kd.R_slice HO_13.out
        subst eo49
        go_wp2
        repeat (go_quiet (fail);try go_wp2)
        go_meet
        case rel => exact ⟨_,(decide (x15_3 < (t446.length : Int))),(by first|rfl|(simp;done)|(simp [*];done)),H',⟨by have:=HK1.out;have:=HJ28.out;have:=HK3.out;first|omega|exact Nat.le_refl _⟩,⟨by (with_reducible repeat (first|apply Kd.R_alloc|apply Kd.R_drewN|apply Kd.R_drew));exact HO_3.out⟩,⟨by (with_reducible repeat (first|apply Kd.R_alloc|apply Kd.R_drewN|apply Kd.R_drew));exact HO_13.out⟩,⟨by (with_reducible repeat (first|apply Kd.R_alloc|apply Kd.R_drewN|apply Kd.R_drew));exact HO_14.out⟩,⟨by repeat (first|(with_reducible first|exact HB.out|apply below_alloc|apply pw_below_drewN|apply below_drew1)|exact HB.out)⟩⟩
       case rest =>
        clear HC46
        obtain ⟨kq,x124_45,rfl,HA,HJ45,HO_3,HO_13,HO_14,HB⟩:=hcut
        cases kq with
        | zero => exact absurd HA.out (by simp [laws_FnPackage.j4])
        | succ kj45 =>
         have H:=HA.out
         clear HA
         simp only [laws_FnPackage.j4] at H
         by_cases c50 : x124_45 = true
         rotate_left
         ·replace c50:=Bool.eq_false_iff.mpr c50
          subst c50
          have H1 : (laws_FnPackage.l1 kj45 t427 t428 t443 t446 x14_3 x15_3 (wrap64 (x16_3 + 1))) = some r:=by rw [if_neg (show ¬ (false = true) by decide)] at H;exact H
          clear H
          have H:=H1
          clear H1
          have H':=Aside0.mk H
          clear H
          go_wp2
          repeat (go_quiet (fail);try go_wp2)
          go_roundg kj45
          case measure => have:=HK1.out;have:=HJ28.out;have:=HK3.out;have:=HJ45.out;omega
          case rel => exact ⟨(x14_3),(x15_3),(wrap64 (x16_3 + 1)),(by first|rfl|(simp;done)|(simp [*];done)),(by first|rfl|(simp;done)|(simp [*];done)),H',⟨by have:=HK1.out;have:=HJ28.out;have:=HK3.out;have:=HJ45.out;omega⟩,⟨by (with_reducible repeat (first|apply Kd.R_alloc|apply Kd.R_drewN|apply Kd.R_drew));exact HO_3.out⟩,⟨by (with_reducible repeat (first|apply Kd.R_alloc|apply Kd.R_drewN|apply Kd.R_drew));exact HO_13.out⟩,⟨by (with_reducible repeat (first|apply Kd.R_alloc|apply Kd.R_drewN|apply Kd.R_drew));exact HO_14.out⟩,⟨by repeat (first|(with_reducible first|exact HB.out|apply below_alloc|apply pw_below_drewN|apply below_drew1)|exact HB.out)⟩⟩
         subst c50
         have H1 : (if 0 ≤ x15_3 then (if x15_3 < (t446.length : Int) then (if (rd t446 x15_3) > t428 then (some true) else (if 0 ≤ x16_3 then (if x16_3 < (x14_3.length : Int) then (laws_FnPackage.l1 kj45 t427 t428 t443 t446 (x14_3.set (x16_3 : Int).toNat (rd t446 x15_3)) (wrap64 (x15_3 + 1)) (wrap64 (x16_3 + 1))) else (none)) else (none))) else (none)) else (none)) = some r:=by rw [if_pos rfl] at H;exact H
         clear H
         have H:=H1
         clear H1
         by_cases c51 : 0 ≤ x15_3
         rotate_left
         ·rw [if_neg c51] at H
          exact absurd H (by simp)
         rw [if_pos c51] at H
         have c51b0 : decide (0 ≤ x15_3) = true:=decide_eq_true c51
         clear c51
         by_cases c52 : x15_3 < (t446.length : Int)
         rotate_left
         ·rw [if_neg c52] at H
          exact absurd H (by simp)
         rw [if_pos c52] at H
         have c52b0 : decide (x15_3 < (t446.length : Int)) = true:=decide_eq_true c52
         clear c52
         by_cases c53 : (rd t446 x15_3) > t428
         ·rw [if_pos c53] at H
          have c53b0 : decide (t428 < (rd t446 x15_3)) = true:=decide_eq_true c53
          clear c53
          obtain rfl:=Option.some.inj H
          obtain ⟨Ao54,co54,eo54⟩:=Kd.R_slice HO_13.out
          subst eo54
          have p455 : 0 ≤ (x15_3 : Int):=of_decide_eq_true (by assumption)
          have q455 : x15_3 < (t446.length : Int):=of_decide_eq_true (by assumption)
          obtain ⟨ad455,e455,hx455_0⟩:=Kd.at_int (Kd.R_reads' HO_13.out).2.2 x15_3 p455 q455
          cases e455
          replace p455:=eq_true p455
          replace q455:=eq_true q455
          go_wp2
          repeat (go_quiet (fail);try go_wp2)
          go_ret
          exact ⟨by first|rfl|(simp [errW_none,errW_some] <;> rfl)|(simp [*,errW_none,errW_some] <;> rfl),by repeat (first|(with_reducible first|exact HB.out|apply below_alloc|apply pw_below_drewN|apply below_drew1)|exact HB.out)⟩
         rw [if_neg c53] at H
         have c53b0 : decide (t428 < (rd t446 x15_3)) = false:=decide_eq_false c53
         clear c53
         by_cases c55 : 0 ≤ x16_3
         rotate_left
         ·rw [if_neg c55] at H
          exact absurd H (by simp)
         rw [if_pos c55] at H
         have c55b0 : decide (0 ≤ x16_3) = true:=decide_eq_true c55
         clear c55
         by_cases c56 : x16_3 < (x14_3.length : Int)
         rotate_left
         ·rw [if_neg c56] at H
          exact absurd H (by simp)
         rw [if_pos c56] at H
         have c56b0 : decide (x16_3 < (x14_3.length : Int)) = true:=decide_eq_true c56
         clear c56
         obtain ⟨y457,hy457⟩ : ∃ y_ : List Int,y_ = (x14_3.set (x16_3 : Int).toNat (rd t446 x15_3)):=⟨_,rfl⟩
         replace H : (laws_FnPackage.l1 kj45 t427 t428 t443 t446 y457 (wrap64 (x15_3 + 1)) (wrap64 (x16_3 + 1))) = some r:=by first|(rw [hy457];with_reducible exact H)|(have H2_:=(Option.bind_some _ _).symm.trans H;rw [hy457];with_reducible exact H2_)|(have H2_:=(Option.bind_some _ _).symm.trans H;with_reducible exact H2_)|with_reducible exact H|(rw [hy457];exact H)|exact H
         have Ny457:=Aside0.mk hy457
         clear hy457
         have H':=Aside0.mk H
         clear H
         obtain ⟨Ao58,co58,eo58⟩:=Kd.R_slice HO_13.out
         subst eo58
         have p455 : 0 ≤ (x15_3 : Int):=of_decide_eq_true (by assumption)
         have q455 : x15_3 < (t446.length : Int):=of_decide_eq_true (by assumption)
         obtain ⟨ad455,e455,hx455_0⟩:=Kd.at_int (Kd.R_reads' HO_13.out).2.2 x15_3 p455 q455
         cases e455
         replace p455:=eq_true p455
         replace q455:=eq_true q455
         have p456 : 0 ≤ (x15_3 : Int):=of_decide_eq_true (by assumption)
         have q456 : x15_3 < (t446.length : Int):=of_decide_eq_true (by assumption)
         obtain ⟨ad456,e456,hx456_0⟩:=Kd.at_int (Kd.R_reads' HO_13.out).2.2 x15_3 p456 q456
         obtain rfl : ad455 = ad456:=(by injection e456)
         replace p456:=eq_true p456
         replace q456:=eq_true q456
         have p57 : 0 ≤ (x16_3 : Int):=of_decide_eq_true (by assumption)
         have q57 : (x16_3 : Int) < ((x14_3.length : Int) : Int):=of_decide_eq_true (by assumption)
         obtain ⟨go57,co57,eo57,gb57,gl57,cl57,HG57⟩:=Kd.R_form HO_14.out (by omega)
         (first|cases eo57|(injection eo57 with ea_ en_ ec_;(first|subst ea_|(injection ea_ with ea_;subst ea_));subst ec_;clear en_))
         have GB57:=Aside0.mk gb57
         have GG57:=Aside0.mk HG57
         clear gb57 gl57 HG57
         obtain ⟨hx57_0,hf57_0⟩:=Kd.R_celln 0 HO_14.out (x16_3 : Int) p57 q57
         replace p57:=eq_true p57
         replace q57:=eq_true q57
         have HP59:=Kd.R_putg HO_14.out (x16_3 : Int) (rd t446 x15_3)
         go_wp2_with (first|((with_reducible refine gate_store (t:=3) (p:=137) rfl ?_);(try (rw [drewN_self wc];generalize hq_ : World.drewN wc _ = wc;have n0_:=Aside0.mk (Kd.R_at hq_ HO_3.out);have n1_:=Aside0.mk (Kd.R_at hq_ HO_13.out);have n2_:=Aside0.mk (Kd.R_at hq_ HO_14.out);have n3_:=Aside0.mk (below_at hq_ HB.out);clear hq_ HO_3 HO_13 HO_14 HB;have HO_3:=n0_;have HO_13:=n1_;have HO_14:=n2_;have HB:=n3_;clear n0_ n1_ n2_ n3_;(try (have HP59:=Kd.R_putg HO_14.out (x16_3 : Int) (rd t446 x15_3)))));refine store_event (t:=3) (p:=137) (v:=?vo_w60) (w1:=(wc.setCell ⟨go57,(x16_3 : Int).toNat,none⟩ (.int .i64 (rd t446 x15_3)))) ?hg ?ho ?hn ?hr ?_;(case ho => rfl);(case hg => rfl);(case hn => rfl);(case hr => first|(go_simp;done)|(go_simp;rfl));intro w60 hw;have hg : wc.grownBy w60 (some go57):=(by rw [hw];exact HP59.2);have hp_ : Kd.R (Kd.int .i64) 3 w60 w.heap.size (fun k_ => some k_ ≠ (.slice Ao14 t427.length co14 : Value).ownBlock∧some k_ ≠ (.slice (some ad455) t446.length co58 : Value).ownBlock) (.slice (some ⟨go57,0,none⟩) x14_3.length co57) y457:=(by rw [hw,Ny457.out];exact HP59.1);clear HP59;have n0_:=Aside0.mk (Kd.R_after (v:=(.slice (some ⟨go57,0,none⟩) x14_3.length co57)) (v1:=(.slice (some ⟨go57,0,none⟩) x14_3.length co57)) (ok:=(fun k_ => some k_ ≠ (.slice (some ad455) t446.length co58 : Value).ownBlock)) (by (with_reducible repeat (first|apply Kd.R_alloc|apply Kd.R_drewN|apply Kd.R_drew));exact HO_3.out) hg (.inl rfl));have n1_:=Aside0.mk (Kd.R_after (v:=(.slice (some ⟨go57,0,none⟩) x14_3.length co57)) (v1:=(.slice (some ⟨go57,0,none⟩) x14_3.length co57)) (ok:=(fun k_ => some k_ ≠ (.slice Ao14 t427.length co14 : Value).ownBlock)) (by (with_reducible repeat (first|apply Kd.R_alloc|apply Kd.R_drewN|apply Kd.R_drew));exact HO_13.out) hg (.inl rfl));have n2_:=Aside0.mk (hp_);have n3_:=Aside0.mk ((by rw [hw];exact below_set (HB.out) GB57.out : Below w.heap.size w w60));clear HO_3;clear HO_13;clear HO_14;clear HB;have HO_3:=n0_;have HO_13:=n1_;have HO_14:=n2_;have HB:=n3_;clear n0_ n1_ n2_ n3_;clear hg hw hp_))
         repeat (go_quiet (first|((with_reducible refine gate_store (t:=3) (p:=137) rfl ?_);(try (rw [drewN_self wc];generalize hq_ : World.drewN wc _ = wc;have n0_:=Aside0.mk (Kd.R_at hq_ HO_3.out);have n1_:=Aside0.mk (Kd.R_at hq_ HO_13.out);have n2_:=Aside0.mk (Kd.R_at hq_ HO_14.out);have n3_:=Aside0.mk (below_at hq_ HB.out);clear hq_ HO_3 HO_13 HO_14 HB;have HO_3:=n0_;have HO_13:=n1_;have HO_14:=n2_;have HB:=n3_;clear n0_ n1_ n2_ n3_;(try (have HP59:=Kd.R_putg HO_14.out (x16_3 : Int) (rd t446 x15_3)))));refine store_event (t:=3) (p:=137) (v:=?vo_w60) (w1:=(wc.setCell ⟨go57,(x16_3 : Int).toNat,none⟩ (.int .i64 (rd t446 x15_3)))) ?hg ?ho ?hn ?hr ?_;(case ho => rfl);(case hg => rfl);(case hn => rfl);(case hr => first|(go_simp;done)|(go_simp;rfl));intro w60 hw;have hg : wc.grownBy w60 (some go57):=(by rw [hw];exact HP59.2);have hp_ : Kd.R (Kd.int .i64) 3 w60 w.heap.size (fun k_ => some k_ ≠ (.slice Ao14 t427.length co14 : Value).ownBlock∧some k_ ≠ (.slice (some ad455) t446.length co58 : Value).ownBlock) (.slice (some ⟨go57,0,none⟩) x14_3.length co57) y457:=(by rw [hw,Ny457.out];exact HP59.1);clear HP59;have n0_:=Aside0.mk (Kd.R_after (v:=(.slice (some ⟨go57,0,none⟩) x14_3.length co57)) (v1:=(.slice (some ⟨go57,0,none⟩) x14_3.length co57)) (ok:=(fun k_ => some k_ ≠ (.slice (some ad455) t446.length co58 : Value).ownBlock)) (by (with_reducible repeat (first|apply Kd.R_alloc|apply Kd.R_drewN|apply Kd.R_drew));exact HO_3.out) hg (.inl rfl));have n1_:=Aside0.mk (Kd.R_after (v:=(.slice (some ⟨go57,0,none⟩) x14_3.length co57)) (v1:=(.slice (some ⟨go57,0,none⟩) x14_3.length co57)) (ok:=(fun k_ => some k_ ≠ (.slice Ao14 t427.length co14 : Value).ownBlock)) (by (with_reducible repeat (first|apply Kd.R_alloc|apply Kd.R_drewN|apply Kd.R_drew));exact HO_13.out) hg (.inl rfl));have n2_:=Aside0.mk (hp_);have n3_:=Aside0.mk ((by rw [hw];exact below_set (HB.out) GB57.out : Below w.heap.size w w60));clear HO_3;clear HO_13;clear HO_14;clear HB;have HO_3:=n0_;have HO_13:=n1_;have HO_14:=n2_;have HB:=n3_;clear n0_ n1_ n2_ n3_;clear hg hw hp_));try go_wp2_with (first|((with_reducible refine gate_store (t:=3) (p:=137) rfl ?_);(try (rw [drewN_self wc];generalize hq_ : World.drewN wc _ = wc;have n0_:=Aside0.mk (Kd.R_at hq_ HO_3.out);have n1_:=Aside0.mk (Kd.R_at hq_ HO_13.out);have n2_:=Aside0.mk (Kd.R_at hq_ HO_14.out);have n3_:=Aside0.mk (below_at hq_ HB.out);clear hq_ HO_3 HO_13 HO_14 HB;have HO_3:=n0_;have HO_13:=n1_;have HO_14:=n2_;have HB:=n3_;clear n0_ n1_ n2_ n3_;(try (have HP59:=Kd.R_putg HO_14.out (x16_3 : Int) (rd t446 x15_3)))));refine store_event (t:=3) (p:=137) (v:=?vo_w60) (w1:=(wc.setCell ⟨go57,(x16_3 : Int).toNat,none⟩ (.int .i64 (rd t446 x15_3)))) ?hg ?ho ?hn ?hr ?_;(case ho => rfl);(case hg => rfl);(case hn => rfl);(case hr => first|(go_simp;done)|(go_simp;rfl));intro w60 hw;have hg : wc.grownBy w60 (some go57):=(by rw [hw];exact HP59.2);have hp_ : Kd.R (Kd.int .i64) 3 w60 w.heap.size (fun k_ => some k_ ≠ (.slice Ao14 t427.length co14 : Value).ownBlock∧some k_ ≠ (.slice (some ad455) t446.length co58 : Value).ownBlock) (.slice (some ⟨go57,0,none⟩) x14_3.length co57) y457:=(by rw [hw,Ny457.out];exact HP59.1);clear HP59;have n0_:=Aside0.mk (Kd.R_after (v:=(.slice (some ⟨go57,0,none⟩) x14_3.length co57)) (v1:=(.slice (some ⟨go57,0,none⟩) x14_3.length co57)) (ok:=(fun k_ => some k_ ≠ (.slice (some ad455) t446.length co58 : Value).ownBlock)) (by (with_reducible repeat (first|apply Kd.R_alloc|apply Kd.R_drewN|apply Kd.R_drew));exact HO_3.out) hg (.inl rfl));have n1_:=Aside0.mk (Kd.R_after (v:=(.slice (some ⟨go57,0,none⟩) x14_3.length co57)) (v1:=(.slice (some ⟨go57,0,none⟩) x14_3.length co57)) (ok:=(fun k_ => some k_ ≠ (.slice Ao14 t427.length co14 : Value).ownBlock)) (by (with_reducible repeat (first|apply Kd.R_alloc|apply Kd.R_drewN|apply Kd.R_drew));exact HO_13.out) hg (.inl rfl));have n2_:=Aside0.mk (hp_);have n3_:=Aside0.mk ((by rw [hw];exact below_set (HB.out) GB57.out : Below w.heap.size w w60));clear HO_3;clear HO_13;clear HO_14;clear HB;have HO_3:=n0_;have HO_13:=n1_;have HO_14:=n2_;have HB:=n3_;clear n0_ n1_ n2_ n3_;clear hg hw hp_)))
         go_roundg kj45
         case measure => have:=HK1.out;have:=HJ28.out;have:=HK3.out;have:=HJ45.out;omega
         case rel => exact ⟨(y457),(wrap64 (x15_3 + 1)),(wrap64 (x16_3 + 1)),(by first|rfl|(simp;done)|(simp [*];done)),(by first|rfl|(simp;done)|(simp [*];done)),H',⟨by have:=HK1.out;have:=HJ28.out;have:=HK3.out;have:=HJ45.out;omega⟩,⟨by (with_reducible repeat (first|apply Kd.R_alloc|apply Kd.R_drewN|apply Kd.R_drew));exact HO_3.out⟩,⟨by (with_reducible repeat (first|apply Kd.R_alloc|apply Kd.R_drewN|apply Kd.R_drew));exact HO_13.out⟩,⟨by (with_reducible repeat (first|apply Kd.R_alloc|apply Kd.R_drewN|apply Kd.R_drew));exact HO_14.out⟩,⟨by repeat (first|(with_reducible first|exact HB.out|apply below_alloc|apply pw_below_drewN|apply below_drew1)|exact HB.out)⟩⟩
/-- THE ONE PURE STATEMENT of laws_FnPackage: yours. -/
def laws_FnPackage.Pure : Prop := ∀ (l0 : List Int), l0.length ≤ maxLen → l0.length * 1 ≤ 140737488351232 → (∀ x ∈ l0, (Lit.int .u8 x).wf = true) → ∃ k, laws_FnPackage.f k l0 = some true
theorem laws_FnPackage.walk (P : laws_FnPackage.Pure) (w : World) (A0 : Option Addr) (c0 : Nat) (l0 : List Int) (hr0 : Kd.C (Kd.int .u8) w A0 l0.length l0) (hc0 : l0.length ≤ c0) (hm0 : l0.length ≤ maxLen) (y0 : l0.length * 1 ≤ 140737488351232) (hw0 : ∀ x ∈ l0, (Lit.int .u8 x).wf = true) :
    Calls Try.prog 11 #[.slice A0 l0.length c0] w fun e w' => e = .returned (.bool true) ∧ Below w.heap.size w w' := by
  obtain ⟨k, h⟩ := P l0 hm0 y0 hw0
  refine (laws_FnPackage.calls k A0 c0 l0 true w hr0 hc0 h).mono ?_
  rintro e w' ⟨rfl, hd⟩
  exact ⟨rfl, hd⟩

end Go.Proofs.Ytimomemkbcidnaa.PFnPackage
