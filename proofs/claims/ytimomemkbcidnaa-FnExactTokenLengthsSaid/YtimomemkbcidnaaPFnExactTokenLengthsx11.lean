-- Written by a program of this session (a changed print); Lean checks it.
import Derived.Test.YtimomemkbcidnaaPFnExactTokenLengthsx0
import Derived.Test.YtimomemkbcidnaaPFnExactTokenLengthsx1
import Derived.Test.YtimomemkbcidnaaPFnExactTokenLengthsx5
import Derived.Test.YtimomemkbcidnaaPFnExactTokenLengthsx10
namespace Go.Proofs.Ytimomemkbcidnaa.PFnExactTokenLengths
open Go.RowKit Go.Proofs.YtimomemkbcidnaaW.PrintWords Go.Proofs.YtimomemkbcidnaaW.PrintLast Go.Proofs.YtimomemkbcidnaaW.PrintMore
attribute [local go_sem] max2_int min2_int max_two min_two max_three min_three max_four min_four   -- for this text's walks alone
set_option linter.unusedVariables false
set_option linter.unusedSimpArgs false
open Act renaming put → sPu
open List renaming setIfInBounds_toArray → sIa, set_cons_zero → sCz, set_cons_succ → sCs
open Bool renaming true → Y, false → Z

/-! ### laws_FnExactTokenLengths: function 12 -/
mutual
def laws_FnExactTokenLengths.j0 : Nat → List (S112) → List Int → List Int → Bool → List (S107) → List Int → List Int → Bool → Bool → Option (Bool)
  | 0, _, _, _, _, _, _, _, _, _ => none
  | k + 1, x0, x4, x5, x6, x7, x8, x9, x10, x51 => if x51 = true then (some false) else ((laws_toTokenS.f k x0).bind fun t443 => ((laws_eqTokenS.f k x7 t443).bind fun t446 => (if t446 = true then ((laws_markTokenS.f k x7 1).bind fun bt447 => (if bt447.1 < 0 then (laws_FnExactTokenLengths.j1 k x0 x4 x5 x6 x8 x9 true) else ((laws_eqIntS.f k x8 x4).bind fun t449 => (if t449 = true then ((laws_eqIntS.f k x9 x5).bind fun t450 => (if t450 = true then (laws_FnExactTokenLengths.j1 k x0 x4 x5 x6 x8 x9 (x10 != x6)) else (laws_FnExactTokenLengths.j1 k x0 x4 x5 x6 x8 x9 true))) else (laws_FnExactTokenLengths.j1 k x0 x4 x5 x6 x8 x9 true))))) else (some false))))
def laws_FnExactTokenLengths.j1 : Nat → List (S112) → List Int → List Int → Bool → List Int → List Int → Bool → Option (Bool)
  | 0, _, _, _, _, _, _, _ => none
  | k + 1, x0, x4, x5, x6, x8, x9, x78 => if x78 = true then (some false) else ((laws_markIntS.f k x8 1).bind fun bt451 => ((laws_markIntS.f k x9 bt451.1).bind fun bt453 => ((laws_heldIntS.f k bt451.2 1).bind fun t455 => (if t455 < 0 then (some false) else ((laws_heldIntS.f k bt453.2 t455).bind fun t456 => (if t456 < 0 then (some false) else (if t456 = bt453.1 then ((laws_toTokenS.f k x0).bind fun t457 => ((impl_TokenLengths.f k t457).bind fun bt460 => ((laws_eqIntS.f k bt460.1 x4).bind fun t467 => (if t467 = true then ((laws_eqIntS.f k bt460.2.1 x5).bind fun t468 => (if t468 = true then (laws_FnExactTokenLengths.j2 k bt451.2 bt453.2 bt453.1 (bt460.2.2 != x6)) else (laws_FnExactTokenLengths.j2 k bt451.2 bt453.2 bt453.1 true))) else (laws_FnExactTokenLengths.j2 k bt451.2 bt453.2 bt453.1 true))))) else (some false))))))))
def laws_FnExactTokenLengths.j2 : Nat → List Int → List Int → Int → Bool → Option (Bool)
  | 0, _, _, _, _ => none
  | k + 1, x8, x9, x12, x119 => if x119 = true then (some false) else ((laws_heldIntS.f k x8 1).bind fun t469 => (if t469 < 0 then (some false) else ((laws_heldIntS.f k x9 t469).bind fun t470 => (if t470 < 0 then (some false) else (if t470 = x12 then (some true) else (some false))))))
end
def laws_FnExactTokenLengths.f (k : Nat) (l0 : List (S112)) : Option (Bool) := (laws_szTokenS.f l0 1048576).bind fun t420 => (if t420 < 0 then (some true) else ((laws_toTokenS.f k l0).bind fun t421 => ((spec_TokenLengths.f k t421).bind fun bt424 => ((laws_toTokenS.f k l0).bind fun t431 => ((impl_TokenLengths.f k t431).bind fun bt434 => ((laws_eqIntS.f k bt434.1 bt424.1).bind fun t441 => (if t441 = true then ((laws_eqIntS.f k bt434.2.1 bt424.2.1).bind fun t442 => (if t442 = true then (laws_FnExactTokenLengths.j0 k l0 bt424.1 bt424.2.1 bt424.2.2 t431 bt434.1 bt434.2.1 bt434.2.2 (bt434.2.2 != bt424.2.2)) else (laws_FnExactTokenLengths.j0 k l0 bt424.1 bt424.2.1 bt424.2.2 t431 bt434.1 bt434.2.1 bt434.2.2 true))) else (laws_FnExactTokenLengths.j0 k l0 bt424.1 bt424.2.1 bt424.2.2 t431 bt434.1 bt434.2.1 bt434.2.2 true))))))))
theorem laws_FnExactTokenLengths.mono_l : ∀ k, (∀ y0 y1 y2 y3 y4 y5 y6 y7 y8, LeO (laws_FnExactTokenLengths.j0 k y0 y1 y2 y3 y4 y5 y6 y7 y8) (laws_FnExactTokenLengths.j0 (k + 1) y0 y1 y2 y3 y4 y5 y6 y7 y8)) ∧ (∀ y0 y1 y2 y3 y4 y5 y6, LeO (laws_FnExactTokenLengths.j1 k y0 y1 y2 y3 y4 y5 y6) (laws_FnExactTokenLengths.j1 (k + 1) y0 y1 y2 y3 y4 y5 y6)) ∧ (∀ y0 y1 y2 y3, LeO (laws_FnExactTokenLengths.j2 k y0 y1 y2 y3) (laws_FnExactTokenLengths.j2 (k + 1) y0 y1 y2 y3))
  | 0 => ⟨fun _ _ _ _ _ _ _ _ _ r h => by simp [laws_FnExactTokenLengths.j0] at h, fun _ _ _ _ _ _ _ r h => by simp [laws_FnExactTokenLengths.j1] at h, fun _ _ _ _ r h => by simp [laws_FnExactTokenLengths.j2] at h⟩
  | k + 1 => by
    obtain ⟨ih0, ih1, ih2⟩ := laws_FnExactTokenLengths.mono_l k
    refine ⟨?_, ?_, ?_⟩
    · intro y0 y1 y2 y3 y4 y5 y6 y7 y8
      unfold laws_FnExactTokenLengths.j0
      repeat' first
      | (with_reducible exact ih0 _ _ _ _ _ _ _ _ _)
      | (with_reducible exact ih1 _ _ _ _ _ _ _)
      | (with_reducible exact ih2 _ _ _ _)
      | (with_reducible exact impl_TokenLengths.mono _ _)
      | (with_reducible exact laws_eqIntS.mono _ _ _)
      | (with_reducible exact laws_eqTokenS.mono _ _ _)
      | (with_reducible exact laws_heldIntS.mono _ _ _)
      | (with_reducible exact laws_markIntS.mono _ _ _)
      | (with_reducible exact laws_markTokenS.mono _ _ _)
      | (with_reducible exact laws_toTokenS.mono _ _)
      | (with_reducible exact spec_TokenLengths.mono _ _)
      | (with_reducible exact LeO.refl _)
      | (with_reducible exact LeO.none _)
      | (with_reducible refine LeO.ite ?_ ?_)
      | (with_reducible refine LeO.bind ?_ (fun _ => ?_))
      | exact ih0 _ _ _ _ _ _ _ _ _
      | exact ih1 _ _ _ _ _ _ _
      | exact ih2 _ _ _ _
      | exact impl_TokenLengths.mono _ _
      | exact laws_eqIntS.mono _ _ _
      | exact laws_eqTokenS.mono _ _ _
      | exact laws_heldIntS.mono _ _ _
      | exact laws_markIntS.mono _ _ _
      | exact laws_markTokenS.mono _ _ _
      | exact laws_toTokenS.mono _ _
      | exact spec_TokenLengths.mono _ _
      | exact LeO.none _
      | refine LeO.ite ?_ ?_
      | refine LeO.bind ?_ (fun _ => ?_)
    · intro y0 y1 y2 y3 y4 y5 y6
      unfold laws_FnExactTokenLengths.j1
      repeat' first
      | (with_reducible exact ih0 _ _ _ _ _ _ _ _ _)
      | (with_reducible exact ih1 _ _ _ _ _ _ _)
      | (with_reducible exact ih2 _ _ _ _)
      | (with_reducible exact impl_TokenLengths.mono _ _)
      | (with_reducible exact laws_eqIntS.mono _ _ _)
      | (with_reducible exact laws_eqTokenS.mono _ _ _)
      | (with_reducible exact laws_heldIntS.mono _ _ _)
      | (with_reducible exact laws_markIntS.mono _ _ _)
      | (with_reducible exact laws_markTokenS.mono _ _ _)
      | (with_reducible exact laws_toTokenS.mono _ _)
      | (with_reducible exact spec_TokenLengths.mono _ _)
      | (with_reducible exact LeO.refl _)
      | (with_reducible exact LeO.none _)
      | (with_reducible refine LeO.ite ?_ ?_)
      | (with_reducible refine LeO.bind ?_ (fun _ => ?_))
      | exact ih0 _ _ _ _ _ _ _ _ _
      | exact ih1 _ _ _ _ _ _ _
      | exact ih2 _ _ _ _
      | exact impl_TokenLengths.mono _ _
      | exact laws_eqIntS.mono _ _ _
      | exact laws_eqTokenS.mono _ _ _
      | exact laws_heldIntS.mono _ _ _
      | exact laws_markIntS.mono _ _ _
      | exact laws_markTokenS.mono _ _ _
      | exact laws_toTokenS.mono _ _
      | exact spec_TokenLengths.mono _ _
      | exact LeO.none _
      | refine LeO.ite ?_ ?_
      | refine LeO.bind ?_ (fun _ => ?_)
    · intro y0 y1 y2 y3
      unfold laws_FnExactTokenLengths.j2
      repeat' first
      | (with_reducible exact ih0 _ _ _ _ _ _ _ _ _)
      | (with_reducible exact ih1 _ _ _ _ _ _ _)
      | (with_reducible exact ih2 _ _ _ _)
      | (with_reducible exact impl_TokenLengths.mono _ _)
      | (with_reducible exact laws_eqIntS.mono _ _ _)
      | (with_reducible exact laws_eqTokenS.mono _ _ _)
      | (with_reducible exact laws_heldIntS.mono _ _ _)
      | (with_reducible exact laws_markIntS.mono _ _ _)
      | (with_reducible exact laws_markTokenS.mono _ _ _)
      | (with_reducible exact laws_toTokenS.mono _ _)
      | (with_reducible exact spec_TokenLengths.mono _ _)
      | (with_reducible exact LeO.refl _)
      | (with_reducible exact LeO.none _)
      | (with_reducible refine LeO.ite ?_ ?_)
      | (with_reducible refine LeO.bind ?_ (fun _ => ?_))
      | exact ih0 _ _ _ _ _ _ _ _ _
      | exact ih1 _ _ _ _ _ _ _
      | exact ih2 _ _ _ _
      | exact impl_TokenLengths.mono _ _
      | exact laws_eqIntS.mono _ _ _
      | exact laws_eqTokenS.mono _ _ _
      | exact laws_heldIntS.mono _ _ _
      | exact laws_markIntS.mono _ _ _
      | exact laws_markTokenS.mono _ _ _
      | exact laws_toTokenS.mono _ _
      | exact spec_TokenLengths.mono _ _
      | exact LeO.none _
      | refine LeO.ite ?_ ?_
      | refine LeO.bind ?_ (fun _ => ?_)
theorem laws_FnExactTokenLengths.mono : ∀ a0 k, LeO (laws_FnExactTokenLengths.f k a0) (laws_FnExactTokenLengths.f (k + 1) a0) := by
  intro a0 k
  obtain ⟨ih0, ih1, ih2⟩ := laws_FnExactTokenLengths.mono_l k
  unfold laws_FnExactTokenLengths.f
  repeat' first
      | (with_reducible exact ih0 _ _ _ _ _ _ _ _ _)
      | (with_reducible exact ih1 _ _ _ _ _ _ _)
      | (with_reducible exact ih2 _ _ _ _)
      | (with_reducible exact impl_TokenLengths.mono _ _)
      | (with_reducible exact laws_eqIntS.mono _ _ _)
      | (with_reducible exact laws_eqTokenS.mono _ _ _)
      | (with_reducible exact laws_heldIntS.mono _ _ _)
      | (with_reducible exact laws_markIntS.mono _ _ _)
      | (with_reducible exact laws_markTokenS.mono _ _ _)
      | (with_reducible exact laws_toTokenS.mono _ _)
      | (with_reducible exact spec_TokenLengths.mono _ _)
      | (with_reducible exact LeO.refl _)
      | (with_reducible exact LeO.none _)
      | (with_reducible refine LeO.ite ?_ ?_)
      | (with_reducible refine LeO.bind ?_ (fun _ => ?_))
      | exact ih0 _ _ _ _ _ _ _ _ _
      | exact ih1 _ _ _ _ _ _ _
      | exact ih2 _ _ _ _
      | exact impl_TokenLengths.mono _ _
      | exact laws_eqIntS.mono _ _ _
      | exact laws_eqTokenS.mono _ _ _
      | exact laws_heldIntS.mono _ _ _
      | exact laws_markIntS.mono _ _ _
      | exact laws_markTokenS.mono _ _ _
      | exact laws_toTokenS.mono _ _
      | exact spec_TokenLengths.mono _ _
      | exact LeO.none _
      | refine LeO.ite ?_ ?_
      | refine LeO.bind ?_ (fun _ => ?_)
set_option maxHeartbeats 8000000 in
set_option maxRecDepth 100000 in
theorem laws_FnExactTokenLengths.calls (k : Nat) (A0 : Option Addr) (c0 : Nat) (l0 : List (S112)) (r : Bool) (w : World) (hr0 : Kd.C k112 w A0 l0.length l0) (hc0 : l0.length ≤ c0) (h : laws_FnExactTokenLengths.f k l0 = some r) :
    Calls Try.prog 12 #[.slice A0 l0.length c0] w fun e w' => e = .returned (.bool r) ∧ Below w.heap.size w w' := by
 have HR0:=Aside0.mk hr0
 have HC0:=Aside0.mk hc0
 clear hr0 hc0
 have HB:=Aside0.mk (Below.refl w.heap.size w)
 have H : ((laws_szTokenS.f l0 1048576).bind fun t420 => (if t420 < 0 then (some true) else ((laws_toTokenS.f k l0).bind fun t421 => ((spec_TokenLengths.f k t421).bind fun bt424 => ((laws_toTokenS.f k l0).bind fun t431 => ((impl_TokenLengths.f k t431).bind fun bt434 => ((laws_eqIntS.f k bt434.1 bt424.1).bind fun t441 => (if t441 = true then ((laws_eqIntS.f k bt434.2.1 bt424.2.1).bind fun t442 => (if t442 = true then (laws_FnExactTokenLengths.j0 k l0 bt424.1 bt424.2.1 bt424.2.2 t431 bt434.1 bt434.2.1 bt434.2.2 (bt434.2.2 != bt424.2.2)) else (laws_FnExactTokenLengths.j0 k l0 bt424.1 bt424.2.1 bt424.2.2 t431 bt434.1 bt434.2.1 bt434.2.2 true))) else (laws_FnExactTokenLengths.j0 k l0 bt424.1 bt424.2.1 bt424.2.2 t431 bt434.1 bt434.2.1 bt434.2.2 true))))))))) = some r:=h
 clear h
 replace H:=Option.bind_eq_some_iff.mp H
 obtain ⟨t420,A20,H⟩:=H
 replace H : (if t420 < 0 then (some true) else ((laws_toTokenS.f k l0).bind fun t421 => ((spec_TokenLengths.f k t421).bind fun bt424 => ((laws_toTokenS.f k l0).bind fun t431 => ((impl_TokenLengths.f k t431).bind fun bt434 => ((laws_eqIntS.f k bt434.1 bt424.1).bind fun t441 => (if t441 = true then ((laws_eqIntS.f k bt434.2.1 bt424.2.1).bind fun t442 => (if t442 = true then (laws_FnExactTokenLengths.j0 k l0 bt424.1 bt424.2.1 bt424.2.2 t431 bt434.1 bt434.2.1 bt434.2.2 (bt434.2.2 != bt424.2.2)) else (laws_FnExactTokenLengths.j0 k l0 bt424.1 bt424.2.1 bt424.2.2 t431 bt434.1 bt434.2.1 bt434.2.2 true))) else (laws_FnExactTokenLengths.j0 k l0 bt424.1 bt424.2.1 bt424.2.2 t431 bt434.1 bt434.2.1 bt434.2.2 true)))))))) = some r:=H
 have A2:=Aside0.mk A20
 clear A20
 by_cases c3 : t420 < 0
 ·rw [if_pos c3] at H
  have c3b0 : decide (t420 < 0) = true:=decide_eq_true c3
  clear c3
  obtain rfl:=Option.some.inj H
  go_enter Try.func12,Try.ntmps12
  go_wp2_with (first|((with_reducible refine gate_callee (f:=41) rfl ?_);refine goesL_ (some 19) rfl rfl Try.func41 (by kernel_rfl) rfl #[.slice A0 l0.length c0,.int .i64 1048576] rfl (by (try simp only [List.map_toArray,List.map_cons,List.map_nil]);first|done|rfl|(simp only [List.length_drop,List.length_take];rfl)) ?_;(with_reducible refine (laws_szTokenS.calls _ _ l0 1048576 t420 _ ?side1 ?side2 A2.out).mono ?_);(case side1 => repeat (first|exact HR0.out|(with_reducible refine Kd.C_alloc ?_ _)|(with_reducible refine Kd.C_drewN ?_ _)|(with_reducible refine Kd.C_drew ?_)));(case side2 => exact HC0.out);rintro e w' ⟨rfl,⟨nd,rfl⟩⟩;refine ⟨_,rfl,?_⟩))
  go_ret
  exact ⟨by first|rfl|(simp [errW_none,errW_some] <;> rfl)|(simp [*,errW_none,errW_some] <;> rfl),by repeat (first|(with_reducible first|exact HB.out|apply below_alloc|apply pw_below_drewN|apply below_drew1)|exact HB.out)⟩
 rw [if_neg c3] at H
 have c3b0 : decide (t420 < 0) = false:=decide_eq_false c3
 clear c3
 replace H:=Option.bind_eq_some_iff.mp H
 obtain ⟨t421,A40,H⟩:=H
 replace H : ((spec_TokenLengths.f k t421).bind fun bt424 => ((laws_toTokenS.f k l0).bind fun t431 => ((impl_TokenLengths.f k t431).bind fun bt434 => ((laws_eqIntS.f k bt434.1 bt424.1).bind fun t441 => (if t441 = true then ((laws_eqIntS.f k bt434.2.1 bt424.2.1).bind fun t442 => (if t442 = true then (laws_FnExactTokenLengths.j0 k l0 bt424.1 bt424.2.1 bt424.2.2 t431 bt434.1 bt434.2.1 bt434.2.2 (bt434.2.2 != bt424.2.2)) else (laws_FnExactTokenLengths.j0 k l0 bt424.1 bt424.2.1 bt424.2.2 t431 bt434.1 bt434.2.1 bt434.2.2 true))) else (laws_FnExactTokenLengths.j0 k l0 bt424.1 bt424.2.1 bt424.2.2 t431 bt434.1 bt434.2.1 bt434.2.2 true)))))) = some r:=H
 have A4:=Aside0.mk A40
 clear A40
 replace H:=Option.bind_eq_some_iff.mp H
 obtain ⟨⟨t424,t425,t426⟩,A50,H⟩:=H
 replace H : ((laws_toTokenS.f k l0).bind fun t431 => ((impl_TokenLengths.f k t431).bind fun bt434 => ((laws_eqIntS.f k bt434.1 t424).bind fun t441 => (if t441 = true then ((laws_eqIntS.f k bt434.2.1 t425).bind fun t442 => (if t442 = true then (laws_FnExactTokenLengths.j0 k l0 t424 t425 t426 t431 bt434.1 bt434.2.1 bt434.2.2 (bt434.2.2 != t426)) else (laws_FnExactTokenLengths.j0 k l0 t424 t425 t426 t431 bt434.1 bt434.2.1 bt434.2.2 true))) else (laws_FnExactTokenLengths.j0 k l0 t424 t425 t426 t431 bt434.1 bt434.2.1 bt434.2.2 true))))) = some r:=H
 have A5:=Aside0.mk A50
 clear A50
 replace H:=Option.bind_eq_some_iff.mp H
 obtain ⟨t431,A60,H⟩:=H
 replace H : ((impl_TokenLengths.f k t431).bind fun bt434 => ((laws_eqIntS.f k bt434.1 t424).bind fun t441 => (if t441 = true then ((laws_eqIntS.f k bt434.2.1 t425).bind fun t442 => (if t442 = true then (laws_FnExactTokenLengths.j0 k l0 t424 t425 t426 t431 bt434.1 bt434.2.1 bt434.2.2 (bt434.2.2 != t426)) else (laws_FnExactTokenLengths.j0 k l0 t424 t425 t426 t431 bt434.1 bt434.2.1 bt434.2.2 true))) else (laws_FnExactTokenLengths.j0 k l0 t424 t425 t426 t431 bt434.1 bt434.2.1 bt434.2.2 true)))) = some r:=H
 have A6:=Aside0.mk A60
 clear A60
 replace H:=Option.bind_eq_some_iff.mp H
 obtain ⟨⟨t434,t435,t436⟩,A70,H⟩:=H
 replace H : ((laws_eqIntS.f k t434 t424).bind fun t441 => (if t441 = true then ((laws_eqIntS.f k t435 t425).bind fun t442 => (if t442 = true then (laws_FnExactTokenLengths.j0 k l0 t424 t425 t426 t431 t434 t435 t436 (t436 != t426)) else (laws_FnExactTokenLengths.j0 k l0 t424 t425 t426 t431 t434 t435 t436 true))) else (laws_FnExactTokenLengths.j0 k l0 t424 t425 t426 t431 t434 t435 t436 true))) = some r:=H
 have A7:=Aside0.mk A70
 clear A70
 have HC8:=Aside0.mk H
 clear H
 go_enter Try.func12,Try.ntmps12
 go_upto_region 8 with (first|((with_reducible refine gate_callee (f:=41) rfl ?_);refine goesL_ (some 19) rfl rfl Try.func41 (by kernel_rfl) rfl #[.slice A0 l0.length c0,.int .i64 1048576] rfl (by (try simp only [List.map_toArray,List.map_cons,List.map_nil]);first|done|rfl|(simp only [List.length_drop,List.length_take];rfl)) ?_;(with_reducible refine (laws_szTokenS.calls _ _ l0 1048576 t420 _ ?side1 ?side2 A2.out).mono ?_);(case side1 => repeat (first|exact HR0.out|(with_reducible refine Kd.C_alloc ?_ _)|(with_reducible refine Kd.C_drewN ?_ _)|(with_reducible refine Kd.C_drew ?_)));(case side2 => exact HC0.out);rintro e w' ⟨rfl,⟨nd,rfl⟩⟩;refine ⟨_,rfl,?_⟩)|((with_reducible refine gate_callee (f:=43) rfl ?_);refine goesL_ (some 24) rfl rfl Try.func43 (by kernel_rfl) rfl #[.slice A0 l0.length c0] rfl (by (try simp only [List.map_toArray,List.map_cons,List.map_nil]);first|done|rfl|(simp only [List.length_drop,List.length_take];rfl)) ?_;(with_reducible refine (laws_toTokenS.calls k _ _ l0 t421 _ ?side1 ?side2 A4.out).mono ?_);(case side1 => repeat (first|exact HR0.out|(with_reducible refine Kd.C_alloc ?_ _)|(with_reducible refine Kd.C_drewN ?_ _)|(with_reducible refine Kd.C_drew ?_)));(case side2 => exact HC0.out);rintro e w9 ⟨v422,rfl,ho0,hb⟩;refine ⟨_,rfl,?_⟩;have n0_:=Aside0.mk (Kd.R_lower ho0 (below_size (by repeat (first|(with_reducible first|exact HB.out|apply below_alloc|apply pw_below_drewN|apply below_drew1)|exact HB.out))));have n1_:=Aside0.mk (below_step (by repeat (first|(with_reducible first|exact HB.out|apply below_alloc|apply pw_below_drewN|apply below_drew1)|exact HB.out)) hb);clear HB;have HO423:=n0_;have HB:=n1_;clear n0_ n1_;(try clear hb);(try clear hb2);(try clear hk);(try clear hi);(try clear ho0);obtain ⟨Ao10,co10,eo10⟩:=Kd.R_slice HO423.out;subst eo10)|((with_reducible refine gate_callee (f:=42) rfl ?_);refine goesL_ (some 25) rfl rfl Try.func42 (by kernel_rfl) rfl #[.slice Ao10 t421.length co10] rfl (by (try simp only [List.map_toArray,List.map_cons,List.map_nil]);first|done|rfl|(simp only [List.length_drop,List.length_take];rfl)) ?_;(with_reducible refine (spec_TokenLengths.calls k _ _ t421 t424 t425 t426 _ ?side1 ?side2 A5.out).mono ?_);(case side1 => repeat (first|exact (Kd.R_reads' HO423.out).2.2|(with_reducible refine Kd.C_alloc ?_ _)|(with_reducible refine Kd.C_drewN ?_ _)|(with_reducible refine Kd.C_drew ?_)));(case side2 => exact (Kd.R_reads' HO423.out).2.1);rintro e w11 ⟨v427,v429,rfl,ho0,ho1,hb⟩;refine ⟨_,rfl,?_⟩;have n0_:=Aside0.mk (Kd.R_below (by (with_reducible repeat (first|apply Kd.R_alloc|apply Kd.R_drewN|apply Kd.R_drew));exact HO423.out) hb);have n1_:=Aside0.mk (Kd.R_lower ho0 (below_size (by repeat (first|(with_reducible first|exact HB.out|apply below_alloc|apply pw_below_drewN|apply below_drew1)|exact HB.out))));have n2_:=Aside0.mk (Kd.R_lower ho1 (below_size (by repeat (first|(with_reducible first|exact HB.out|apply below_alloc|apply pw_below_drewN|apply below_drew1)|exact HB.out))));have n3_:=Aside0.mk (below_step (by repeat (first|(with_reducible first|exact HB.out|apply below_alloc|apply pw_below_drewN|apply below_drew1)|exact HB.out)) hb);clear HO423;clear HB;have HO423:=n0_;have HO428:=n1_;have HO430:=n2_;have HB:=n3_;clear n0_ n1_ n2_ n3_;(try clear hb);(try clear hb2);(try clear hk);(try clear hi);(try clear ho0);(try clear ho1))|((with_reducible refine gate_callee (f:=43) rfl ?_);refine goesL_ (some 30) rfl rfl Try.func43 (by kernel_rfl) rfl #[.slice A0 l0.length c0] rfl (by (try simp only [List.map_toArray,List.map_cons,List.map_nil]);first|done|rfl|(simp only [List.length_drop,List.length_take];rfl)) ?_;(with_reducible refine (laws_toTokenS.calls k _ _ l0 t431 _ ?side1 ?side2 A6.out).mono ?_);(case side1 => repeat (first|exact (Kd.C_below HR0.out HB.out)|(with_reducible refine Kd.C_alloc ?_ _)|(with_reducible refine Kd.C_drewN ?_ _)|(with_reducible refine Kd.C_drew ?_)));(case side2 => exact HC0.out);rintro e w12 ⟨v432,rfl,ho0,hb⟩;refine ⟨_,rfl,?_⟩;have n0_:=Aside0.mk (Kd.R_elder' (by (with_reducible repeat (first|apply Kd.R_alloc|apply Kd.R_drewN|apply Kd.R_drew));exact HO423.out) (Kd.R_base ho0) hb);have n1_:=Aside0.mk (Kd.R_below (by (with_reducible repeat (first|apply Kd.R_alloc|apply Kd.R_drewN|apply Kd.R_drew));exact HO428.out) hb);have n2_:=Aside0.mk (Kd.R_below (by (with_reducible repeat (first|apply Kd.R_alloc|apply Kd.R_drewN|apply Kd.R_drew));exact HO430.out) hb);have n3_:=Aside0.mk (Kd.R_lower (Kd.R_new' ho0 (Kd.R_lt (by (with_reducible repeat (first|apply Kd.R_alloc|apply Kd.R_drewN|apply Kd.R_drew));exact HO423.out))) (below_size (by repeat (first|(with_reducible first|exact HB.out|apply below_alloc|apply pw_below_drewN|apply below_drew1)|exact HB.out))));have n4_:=Aside0.mk (below_step (by repeat (first|(with_reducible first|exact HB.out|apply below_alloc|apply pw_below_drewN|apply below_drew1)|exact HB.out)) hb);clear HO423;clear HO428;clear HO430;clear HB;have HO423:=n0_;have HO428:=n1_;have HO430:=n2_;have HO433:=n3_;have HB:=n4_;clear n0_ n1_ n2_ n3_ n4_;(try clear hb);(try clear hb2);(try clear hk);(try clear hi);(try clear ho0);obtain ⟨Ao13,co13,eo13⟩:=Kd.R_slice HO433.out;subst eo13)|((with_reducible refine gate_callee (f:=44) rfl ?_);refine goesL_ (some 33) rfl rfl Try.func44 (by kernel_rfl) rfl #[.slice Ao13 t431.length co13] rfl (by (try simp only [List.map_toArray,List.map_cons,List.map_nil]);first|done|rfl|(simp only [List.length_drop,List.length_take];rfl)) ?_;(with_reducible refine (impl_TokenLengths.calls k _ _ t431 t434 t435 t436 _ ?side1 ?side2 A7.out).mono ?_);(case side1 => repeat (first|exact (Kd.R_reads' HO433.out).2.2|(with_reducible refine Kd.C_alloc ?_ _)|(with_reducible refine Kd.C_drewN ?_ _)|(with_reducible refine Kd.C_drew ?_)));(case side2 => exact (Kd.R_reads' HO433.out).2.1);rintro e w14 ⟨v437,v439,rfl,ho0,ho1,hb⟩;refine ⟨_,rfl,?_⟩;have n0_:=Aside0.mk (Kd.R_below (by (with_reducible repeat (first|apply Kd.R_alloc|apply Kd.R_drewN|apply Kd.R_drew));exact HO423.out) hb);have n1_:=Aside0.mk (Kd.R_mono (Kd.R_told (Kd.R_told (Kd.R_old (by (with_reducible repeat (first|apply Kd.R_alloc|apply Kd.R_drewN|apply Kd.R_drew));exact HO428.out) hb) (Kd.R_base ho0)) (Kd.R_base ho1)) (fun _ h_ => h_.1));have n2_:=Aside0.mk (Kd.R_mono (Kd.R_told (Kd.R_told (Kd.R_old (by (with_reducible repeat (first|apply Kd.R_alloc|apply Kd.R_drewN|apply Kd.R_drew));exact HO430.out) hb) (Kd.R_base ho0)) (Kd.R_base ho1)) (fun _ h_ => h_.1));have n3_:=Aside0.mk (Kd.R_below (by (with_reducible repeat (first|apply Kd.R_alloc|apply Kd.R_drewN|apply Kd.R_drew));exact HO433.out) hb);have n4_:=Aside0.mk (Kd.R_lower (Kd.R_new' (Kd.R_new' ho0 (Kd.R_lt (by (with_reducible repeat (first|apply Kd.R_alloc|apply Kd.R_drewN|apply Kd.R_drew));exact HO428.out))) (Kd.R_lt (by (with_reducible repeat (first|apply Kd.R_alloc|apply Kd.R_drewN|apply Kd.R_drew));exact HO430.out))) (below_size (by repeat (first|(with_reducible first|exact HB.out|apply below_alloc|apply pw_below_drewN|apply below_drew1)|exact HB.out))));have n5_:=Aside0.mk (Kd.R_lower (Kd.R_new' (Kd.R_new' ho1 (Kd.R_lt (by (with_reducible repeat (first|apply Kd.R_alloc|apply Kd.R_drewN|apply Kd.R_drew));exact HO428.out))) (Kd.R_lt (by (with_reducible repeat (first|apply Kd.R_alloc|apply Kd.R_drewN|apply Kd.R_drew));exact HO430.out))) (below_size (by repeat (first|(with_reducible first|exact HB.out|apply below_alloc|apply pw_below_drewN|apply below_drew1)|exact HB.out))));have n6_:=Aside0.mk (below_step (by repeat (first|(with_reducible first|exact HB.out|apply below_alloc|apply pw_below_drewN|apply below_drew1)|exact HB.out)) hb);clear HO423;clear HO428;clear HO430;clear HO433;clear HB;have HO423:=n0_;have HO428:=n1_;have HO430:=n2_;have HO433:=n3_;have HO438:=n4_;have HO440:=n5_;have HB:=n6_;clear n0_ n1_ n2_ n3_ n4_ n5_ n6_;(try clear hb);(try clear hb2);(try clear hk);(try clear hi);(try clear ho0);(try clear ho1)))
 (try simp only [Act.put,List.setIfInBounds_toArray,List.set_cons_zero,List.set_cons_succ])
 go_cut [51] (fun v51 wc => ∃ (kq : Nat) (x51_7 : Bool),v51 = .bool x51_7∧Aside0 (laws_FnExactTokenLengths.j0 kq l0 t424 t425 t426 t431 t434 t435 t436 x51_7 = some r)∧Aside0 (kq ≤ k)∧Aside0 (Kd.R (Kd.int .i64) 3 wc w.heap.size (fun k_ => some k_ ≠ (v429 : Value).ownBlock∧some k_ ≠ (v437 : Value).ownBlock∧some k_ ≠ (v439 : Value).ownBlock) v427 t424)∧Aside0 (Kd.R (Kd.int .i64) 3 wc w.heap.size (fun k_ => some k_ ≠ (v427 : Value).ownBlock∧some k_ ≠ (v437 : Value).ownBlock∧some k_ ≠ (v439 : Value).ownBlock) v429 t425)∧Aside0 (Kd.R k107 107 wc w.heap.size (fun _ => True) (.slice Ao13 t431.length co13) t431)∧Aside0 (Kd.R (Kd.int .i64) 3 wc w.heap.size (fun k_ => some k_ ≠ (v427 : Value).ownBlock∧some k_ ≠ (v429 : Value).ownBlock∧some k_ ≠ (v439 : Value).ownBlock) v437 t434)∧Aside0 (Kd.R (Kd.int .i64) 3 wc w.heap.size (fun k_ => some k_ ≠ (v427 : Value).ownBlock∧some k_ ≠ (v429 : Value).ownBlock∧some k_ ≠ (v437 : Value).ownBlock) v439 t435)∧Aside0 (Below w.heap.size w wc))
 case first =>
  have H:=HC8.out
  clear HC8
  replace H:=Option.bind_eq_some_iff.mp H
  obtain ⟨t441,A150,H⟩:=H
  replace H : (if t441 = true then ((laws_eqIntS.f k t435 t425).bind fun t442 => (if t442 = true then (laws_FnExactTokenLengths.j0 k l0 t424 t425 t426 t431 t434 t435 t436 (t436 != t426)) else (laws_FnExactTokenLengths.j0 k l0 t424 t425 t426 t431 t434 t435 t436 true))) else (laws_FnExactTokenLengths.j0 k l0 t424 t425 t426 t431 t434 t435 t436 true)) = some r:=H
  have A15:=Aside0.mk A150
  clear A150
  by_cases c16 : t441 = true
  rotate_left
  ·replace c16:=Bool.eq_false_iff.mpr c16
   subst c16
   have H1 : (laws_FnExactTokenLengths.j0 k l0 t424 t425 t426 t431 t434 t435 t436 true) = some r:=by rw [if_neg (show ¬ (false = true) by decide)] at H;exact H
   clear H
   have H:=H1
   clear H1
   have H':=Aside0.mk H
   clear H
   obtain ⟨Ao27,co27,eo27⟩:=Kd.R_slice HO438.out
   subst eo27
   obtain ⟨Ao28,co28,eo28⟩:=Kd.R_slice HO428.out
   subst eo28
   go_wp2_with (first|((with_reducible refine gate_callee (f:=17) rfl ?_);refine goesL_ (some 39) rfl rfl Try.func17 (by kernel_rfl) rfl #[.slice Ao27 t434.length co27,.slice Ao28 t424.length co28] rfl (by (try simp only [List.map_toArray,List.map_cons,List.map_nil]);first|done|rfl|(simp only [List.length_drop,List.length_take];rfl)) ?_;(with_reducible refine (laws_eqIntS.calls k _ _ t434 _ _ t424 false _ ?side1 ?side2 ?side3 ?side4 A15.out).mono ?_);(case side1 => repeat (first|exact (Kd.R_reads' HO438.out).2.2|(with_reducible refine Kd.C_alloc ?_ _)|(with_reducible refine Kd.C_drewN ?_ _)|(with_reducible refine Kd.C_drew ?_)));(case side2 => exact (Kd.R_reads' HO438.out).2.1);(case side3 => repeat (first|exact (Kd.R_reads' HO428.out).2.2|(with_reducible refine Kd.C_alloc ?_ _)|(with_reducible refine Kd.C_drewN ?_ _)|(with_reducible refine Kd.C_drew ?_)));(case side4 => exact (Kd.R_reads' HO428.out).2.1);rintro e w' ⟨rfl,⟨nd,rfl⟩⟩;refine ⟨_,rfl,?_⟩))
   go_meet
   case rel => exact ⟨_,(true),(by first|rfl|(simp;done)|(simp [*];done)),H',⟨by first|omega|exact Nat.le_refl _⟩,⟨by (with_reducible repeat (first|apply Kd.R_alloc|apply Kd.R_drewN|apply Kd.R_drew));exact Kd.R_mono HO428.out (fun _ hk => ⟨hk.1.1,⟨hk.1.2,hk.2⟩⟩)⟩,⟨by (with_reducible repeat (first|apply Kd.R_alloc|apply Kd.R_drewN|apply Kd.R_drew));exact Kd.R_mono HO430.out (fun _ hk => ⟨hk.1.1,⟨hk.1.2,hk.2⟩⟩)⟩,⟨by (with_reducible repeat (first|apply Kd.R_alloc|apply Kd.R_drewN|apply Kd.R_drew));exact Kd.R_mono HO433.out (fun _ hk => trivial)⟩,⟨by (with_reducible repeat (first|apply Kd.R_alloc|apply Kd.R_drewN|apply Kd.R_drew));exact Kd.R_mono HO438.out (fun _ hk => ⟨hk.1.2,⟨hk.2,hk.1.1⟩⟩)⟩,⟨by (with_reducible repeat (first|apply Kd.R_alloc|apply Kd.R_drewN|apply Kd.R_drew));exact Kd.R_mono HO440.out (fun _ hk => ⟨hk.1.2,⟨hk.2,hk.1.1⟩⟩)⟩,⟨by repeat (first|(with_reducible first|exact HB.out|apply below_alloc|apply pw_below_drewN|apply below_drew1)|exact HB.out)⟩⟩
  subst c16
  have H1 : ((laws_eqIntS.f k t435 t425).bind fun t442 => (if t442 = true then (laws_FnExactTokenLengths.j0 k l0 t424 t425 t426 t431 t434 t435 t436 (t436 != t426)) else (laws_FnExactTokenLengths.j0 k l0 t424 t425 t426 t431 t434 t435 t436 true))) = some r:=by rw [if_pos rfl] at H;exact H
  clear H
  have H:=H1
  clear H1
  replace H:=Option.bind_eq_some_iff.mp H
  obtain ⟨t442,A170,H⟩:=H
  replace H : (if t442 = true then (laws_FnExactTokenLengths.j0 k l0 t424 t425 t426 t431 t434 t435 t436 (t436 != t426)) else (laws_FnExactTokenLengths.j0 k l0 t424 t425 t426 t431 t434 t435 t436 true)) = some r:=H
  have A17:=Aside0.mk A170
  clear A170
  by_cases c18 : t442 = true
  ·subst c18
   have H1 : (laws_FnExactTokenLengths.j0 k l0 t424 t425 t426 t431 t434 t435 t436 (t436 != t426)) = some r:=by rw [if_pos rfl] at H;exact H
   clear H
   have H:=H1
   clear H1
   have H':=Aside0.mk H
   clear H
   obtain ⟨Ao19,co19,eo19⟩:=Kd.R_slice HO438.out
   subst eo19
   obtain ⟨Ao20,co20,eo20⟩:=Kd.R_slice HO428.out
   subst eo20
   go_wp2_with (first|((with_reducible refine gate_callee (f:=17) rfl ?_);refine goesL_ (some 39) rfl rfl Try.func17 (by kernel_rfl) rfl #[.slice Ao19 t434.length co19,.slice Ao20 t424.length co20] rfl (by (try simp only [List.map_toArray,List.map_cons,List.map_nil]);first|done|rfl|(simp only [List.length_drop,List.length_take];rfl)) ?_;(with_reducible refine (laws_eqIntS.calls k _ _ t434 _ _ t424 true _ ?side1 ?side2 ?side3 ?side4 A15.out).mono ?_);(case side1 => repeat (first|exact (Kd.R_reads' HO438.out).2.2|(with_reducible refine Kd.C_alloc ?_ _)|(with_reducible refine Kd.C_drewN ?_ _)|(with_reducible refine Kd.C_drew ?_)));(case side2 => exact (Kd.R_reads' HO438.out).2.1);(case side3 => repeat (first|exact (Kd.R_reads' HO428.out).2.2|(with_reducible refine Kd.C_alloc ?_ _)|(with_reducible refine Kd.C_drewN ?_ _)|(with_reducible refine Kd.C_drew ?_)));(case side4 => exact (Kd.R_reads' HO428.out).2.1);rintro e w' ⟨rfl,⟨nd,rfl⟩⟩;refine ⟨_,rfl,?_⟩;obtain ⟨Ao21,co21,eo21⟩:=Kd.R_slice HO440.out;subst eo21;obtain ⟨Ao22,co22,eo22⟩:=Kd.R_slice HO430.out;subst eo22)|(go_at_call 17;(with_reducible refine (laws_eqIntS.calls k _ _ t435 _ _ t425 true _ ?side1 ?side2 ?side3 ?side4 A17.out).mono ?_);(case side1 => repeat (first|exact (Kd.R_reads' HO440.out).2.2|(with_reducible refine Kd.C_alloc ?_ _)|(with_reducible refine Kd.C_drewN ?_ _)|(with_reducible refine Kd.C_drew ?_)));(case side2 => exact (Kd.R_reads' HO440.out).2.1);(case side3 => repeat (first|exact (Kd.R_reads' HO430.out).2.2|(with_reducible refine Kd.C_alloc ?_ _)|(with_reducible refine Kd.C_drewN ?_ _)|(with_reducible refine Kd.C_drew ?_)));(case side4 => exact (Kd.R_reads' HO430.out).2.1);rintro e w' ⟨rfl,⟨nd,rfl⟩⟩))
   go_meet
   case rel => exact ⟨_,((t436 != t426)),(by first|rfl|(simp;done)|(simp [*];done)),H',⟨by first|omega|exact Nat.le_refl _⟩,⟨by (with_reducible repeat (first|apply Kd.R_alloc|apply Kd.R_drewN|apply Kd.R_drew));exact Kd.R_mono HO428.out (fun _ hk => ⟨hk.1.1,⟨hk.1.2,hk.2⟩⟩)⟩,⟨by (with_reducible repeat (first|apply Kd.R_alloc|apply Kd.R_drewN|apply Kd.R_drew));exact Kd.R_mono HO430.out (fun _ hk => ⟨hk.1.1,⟨hk.1.2,hk.2⟩⟩)⟩,⟨by (with_reducible repeat (first|apply Kd.R_alloc|apply Kd.R_drewN|apply Kd.R_drew));exact Kd.R_mono HO433.out (fun _ hk => trivial)⟩,⟨by (with_reducible repeat (first|apply Kd.R_alloc|apply Kd.R_drewN|apply Kd.R_drew));exact Kd.R_mono HO438.out (fun _ hk => ⟨hk.1.2,⟨hk.2,hk.1.1⟩⟩)⟩,⟨by (with_reducible repeat (first|apply Kd.R_alloc|apply Kd.R_drewN|apply Kd.R_drew));exact Kd.R_mono HO440.out (fun _ hk => ⟨hk.1.2,⟨hk.2,hk.1.1⟩⟩)⟩,⟨by repeat (first|(with_reducible first|exact HB.out|apply below_alloc|apply pw_below_drewN|apply below_drew1)|exact HB.out)⟩⟩
  replace c18:=Bool.eq_false_iff.mpr c18
  subst c18
  have H1 : (laws_FnExactTokenLengths.j0 k l0 t424 t425 t426 t431 t434 t435 t436 true) = some r:=by rw [if_neg (show ¬ (false = true) by decide)] at H;exact H
  clear H
  have H:=H1
  clear H1
  have H':=Aside0.mk H
  clear H
  obtain ⟨Ao23,co23,eo23⟩:=Kd.R_slice HO438.out
  subst eo23
  obtain ⟨Ao24,co24,eo24⟩:=Kd.R_slice HO428.out
  subst eo24
  go_wp2_with (first|((with_reducible refine gate_callee (f:=17) rfl ?_);refine goesL_ (some 39) rfl rfl Try.func17 (by kernel_rfl) rfl #[.slice Ao23 t434.length co23,.slice Ao24 t424.length co24] rfl (by (try simp only [List.map_toArray,List.map_cons,List.map_nil]);first|done|rfl|(simp only [List.length_drop,List.length_take];rfl)) ?_;(with_reducible refine (laws_eqIntS.calls k _ _ t434 _ _ t424 true _ ?side1 ?side2 ?side3 ?side4 A15.out).mono ?_);(case side1 => repeat (first|exact (Kd.R_reads' HO438.out).2.2|(with_reducible refine Kd.C_alloc ?_ _)|(with_reducible refine Kd.C_drewN ?_ _)|(with_reducible refine Kd.C_drew ?_)));(case side2 => exact (Kd.R_reads' HO438.out).2.1);(case side3 => repeat (first|exact (Kd.R_reads' HO428.out).2.2|(with_reducible refine Kd.C_alloc ?_ _)|(with_reducible refine Kd.C_drewN ?_ _)|(with_reducible refine Kd.C_drew ?_)));(case side4 => exact (Kd.R_reads' HO428.out).2.1);rintro e w' ⟨rfl,⟨nd,rfl⟩⟩;refine ⟨_,rfl,?_⟩;obtain ⟨Ao25,co25,eo25⟩:=Kd.R_slice HO440.out;subst eo25;obtain ⟨Ao26,co26,eo26⟩:=Kd.R_slice HO430.out;subst eo26)|(go_at_call 17;(with_reducible refine (laws_eqIntS.calls k _ _ t435 _ _ t425 false _ ?side1 ?side2 ?side3 ?side4 A17.out).mono ?_);(case side1 => repeat (first|exact (Kd.R_reads' HO440.out).2.2|(with_reducible refine Kd.C_alloc ?_ _)|(with_reducible refine Kd.C_drewN ?_ _)|(with_reducible refine Kd.C_drew ?_)));(case side2 => exact (Kd.R_reads' HO440.out).2.1);(case side3 => repeat (first|exact (Kd.R_reads' HO430.out).2.2|(with_reducible refine Kd.C_alloc ?_ _)|(with_reducible refine Kd.C_drewN ?_ _)|(with_reducible refine Kd.C_drew ?_)));(case side4 => exact (Kd.R_reads' HO430.out).2.1);rintro e w' ⟨rfl,⟨nd,rfl⟩⟩))
  go_meet
  case rel => exact ⟨_,(true),(by first|rfl|(simp;done)|(simp [*];done)),H',⟨by first|omega|exact Nat.le_refl _⟩,⟨by (with_reducible repeat (first|apply Kd.R_alloc|apply Kd.R_drewN|apply Kd.R_drew));exact Kd.R_mono HO428.out (fun _ hk => ⟨hk.1.1,⟨hk.1.2,hk.2⟩⟩)⟩,⟨by (with_reducible repeat (first|apply Kd.R_alloc|apply Kd.R_drewN|apply Kd.R_drew));exact Kd.R_mono HO430.out (fun _ hk => ⟨hk.1.1,⟨hk.1.2,hk.2⟩⟩)⟩,⟨by (with_reducible repeat (first|apply Kd.R_alloc|apply Kd.R_drewN|apply Kd.R_drew));exact Kd.R_mono HO433.out (fun _ hk => trivial)⟩,⟨by (with_reducible repeat (first|apply Kd.R_alloc|apply Kd.R_drewN|apply Kd.R_drew));exact Kd.R_mono HO438.out (fun _ hk => ⟨hk.1.2,⟨hk.2,hk.1.1⟩⟩)⟩,⟨by (with_reducible repeat (first|apply Kd.R_alloc|apply Kd.R_drewN|apply Kd.R_drew));exact Kd.R_mono HO440.out (fun _ hk => ⟨hk.1.2,⟨hk.2,hk.1.1⟩⟩)⟩,⟨by repeat (first|(with_reducible first|exact HB.out|apply below_alloc|apply pw_below_drewN|apply below_drew1)|exact HB.out)⟩⟩
 case rest =>
  clear HC8
  obtain ⟨kq,x51_7,rfl,HA,HJ7,HO_4,HO_5,HO_7,HO_8,HO_9,HB⟩:=hcut
  cases kq with
  | zero => exact absurd HA.out (by simp [laws_FnExactTokenLengths.j0])
  | succ kj7 =>
   have H:=HA.out
   clear HA
   simp only [laws_FnExactTokenLengths.j0] at H
   by_cases c29 : x51_7 = true
   ·subst c29
    have H1 : (some false) = some r:=by rw [if_pos rfl] at H;exact H
    clear H
    have H:=H1
    clear H1
    obtain rfl:=Option.some.inj H
    go_wp2
    go_ret
    exact ⟨by first|rfl|(simp [errW_none,errW_some] <;> rfl)|(simp [*,errW_none,errW_some] <;> rfl),by repeat (first|(with_reducible first|exact HB.out|apply below_alloc|apply pw_below_drewN|apply below_drew1)|exact HB.out)⟩
   replace c29:=Bool.eq_false_iff.mpr c29
   subst c29
   have H1 : ((laws_toTokenS.f kj7 l0).bind fun t443 => ((laws_eqTokenS.f kj7 t431 t443).bind fun t446 => (if t446 = true then ((laws_markTokenS.f kj7 t431 1).bind fun bt447 => (if bt447.1 < 0 then (laws_FnExactTokenLengths.j1 kj7 l0 t424 t425 t426 t434 t435 true) else ((laws_eqIntS.f kj7 t434 t424).bind fun t449 => (if t449 = true then ((laws_eqIntS.f kj7 t435 t425).bind fun t450 => (if t450 = true then (laws_FnExactTokenLengths.j1 kj7 l0 t424 t425 t426 t434 t435 (t436 != t426)) else (laws_FnExactTokenLengths.j1 kj7 l0 t424 t425 t426 t434 t435 true))) else (laws_FnExactTokenLengths.j1 kj7 l0 t424 t425 t426 t434 t435 true))))) else (some false)))) = some r:=by rw [if_neg (show ¬ (false = true) by decide)] at H;exact H
   clear H
   have H:=H1
   clear H1
   replace H:=Option.bind_eq_some_iff.mp H
   obtain ⟨t443,A300,H⟩:=H
   replace H : ((laws_eqTokenS.f kj7 t431 t443).bind fun t446 => (if t446 = true then ((laws_markTokenS.f kj7 t431 1).bind fun bt447 => (if bt447.1 < 0 then (laws_FnExactTokenLengths.j1 kj7 l0 t424 t425 t426 t434 t435 true) else ((laws_eqIntS.f kj7 t434 t424).bind fun t449 => (if t449 = true then ((laws_eqIntS.f kj7 t435 t425).bind fun t450 => (if t450 = true then (laws_FnExactTokenLengths.j1 kj7 l0 t424 t425 t426 t434 t435 (t436 != t426)) else (laws_FnExactTokenLengths.j1 kj7 l0 t424 t425 t426 t434 t435 true))) else (laws_FnExactTokenLengths.j1 kj7 l0 t424 t425 t426 t434 t435 true))))) else (some false))) = some r:=H
   have A30:=Aside0.mk A300
   clear A300
   replace H:=Option.bind_eq_some_iff.mp H
   obtain ⟨t446,A310,H⟩:=H
   replace H : (if t446 = true then ((laws_markTokenS.f kj7 t431 1).bind fun bt447 => (if bt447.1 < 0 then (laws_FnExactTokenLengths.j1 kj7 l0 t424 t425 t426 t434 t435 true) else ((laws_eqIntS.f kj7 t434 t424).bind fun t449 => (if t449 = true then ((laws_eqIntS.f kj7 t435 t425).bind fun t450 => (if t450 = true then (laws_FnExactTokenLengths.j1 kj7 l0 t424 t425 t426 t434 t435 (t436 != t426)) else (laws_FnExactTokenLengths.j1 kj7 l0 t424 t425 t426 t434 t435 true))) else (laws_FnExactTokenLengths.j1 kj7 l0 t424 t425 t426 t434 t435 true))))) else (some false)) = some r:=H
   have A31:=Aside0.mk A310
   clear A310
   by_cases c32 : t446 = true
   rotate_left
   ·replace c32:=Bool.eq_false_iff.mpr c32
    subst c32
    have H1 : (some false) = some r:=by rw [if_neg (show ¬ (false = true) by decide)] at H;exact H
    clear H
    have H:=H1
    clear H1
    obtain rfl:=Option.some.inj H
    go_wp2_with (first|((with_reducible refine gate_callee (f:=43) rfl ?_);refine goesL_ (some 54) rfl rfl Try.func43 (by kernel_rfl) rfl #[.slice A0 l0.length c0] rfl (by (try simp only [List.map_toArray,List.map_cons,List.map_nil]);first|done|rfl|(simp only [List.length_drop,List.length_take];rfl)) ?_;(with_reducible refine (laws_toTokenS.calls kj7 _ _ l0 t443 _ ?side1 ?side2 A30.out).mono ?_);(case side1 => repeat (first|exact (Kd.C_below HR0.out HB.out)|(with_reducible refine Kd.C_alloc ?_ _)|(with_reducible refine Kd.C_drewN ?_ _)|(with_reducible refine Kd.C_drew ?_)));(case side2 => exact HC0.out);rintro e w104 ⟨v444,rfl,ho0,hb⟩;refine ⟨_,rfl,?_⟩;have n0_:=Aside0.mk (Kd.R_below (by (with_reducible repeat (first|apply Kd.R_alloc|apply Kd.R_drewN|apply Kd.R_drew));exact HO_4.out) hb);have n1_:=Aside0.mk (Kd.R_below (by (with_reducible repeat (first|apply Kd.R_alloc|apply Kd.R_drewN|apply Kd.R_drew));exact HO_5.out) hb);have n2_:=Aside0.mk (Kd.R_elder' (by (with_reducible repeat (first|apply Kd.R_alloc|apply Kd.R_drewN|apply Kd.R_drew));exact HO_7.out) (Kd.R_base ho0) hb);have n3_:=Aside0.mk (Kd.R_below (by (with_reducible repeat (first|apply Kd.R_alloc|apply Kd.R_drewN|apply Kd.R_drew));exact HO_8.out) hb);have n4_:=Aside0.mk (Kd.R_below (by (with_reducible repeat (first|apply Kd.R_alloc|apply Kd.R_drewN|apply Kd.R_drew));exact HO_9.out) hb);have n5_:=Aside0.mk (Kd.R_lower (Kd.R_new' ho0 (Kd.R_lt (by (with_reducible repeat (first|apply Kd.R_alloc|apply Kd.R_drewN|apply Kd.R_drew));exact HO_7.out))) (below_size (by repeat (first|(with_reducible first|exact HB.out|apply below_alloc|apply pw_below_drewN|apply below_drew1)|exact HB.out))));have n6_:=Aside0.mk (below_step (by repeat (first|(with_reducible first|exact HB.out|apply below_alloc|apply pw_below_drewN|apply below_drew1)|exact HB.out)) hb);clear HO_4;clear HO_5;clear HO_7;clear HO_8;clear HO_9;clear HB;have HO_4:=n0_;have HO_5:=n1_;have HO_7:=n2_;have HO_8:=n3_;have HO_9:=n4_;have HO445:=n5_;have HB:=n6_;clear n0_ n1_ n2_ n3_ n4_ n5_ n6_;(try clear hb);(try clear hb2);(try clear hk);(try clear hi);(try clear ho0);obtain ⟨Ao105,co105,eo105⟩:=Kd.R_slice HO445.out;subst eo105)|((with_reducible refine gate_callee (f:=45) rfl ?_);refine goesL_ (some 55) rfl rfl Try.func45 (by kernel_rfl) rfl #[.slice Ao13 t431.length co13,.slice Ao105 t443.length co105] rfl (by (try simp only [List.map_toArray,List.map_cons,List.map_nil]);first|done|rfl|(simp only [List.length_drop,List.length_take];rfl)) ?_;(with_reducible refine (laws_eqTokenS.calls kj7 _ _ t431 _ _ t443 false _ ?side1 ?side2 ?side3 ?side4 A31.out).mono ?_);(case side1 => repeat (first|exact (Kd.R_reads' HO_7.out).2.2|(with_reducible refine Kd.C_alloc ?_ _)|(with_reducible refine Kd.C_drewN ?_ _)|(with_reducible refine Kd.C_drew ?_)));(case side2 => exact (Kd.R_reads' HO_7.out).2.1);(case side3 => repeat (first|exact (Kd.R_reads' HO445.out).2.2|(with_reducible refine Kd.C_alloc ?_ _)|(with_reducible refine Kd.C_drewN ?_ _)|(with_reducible refine Kd.C_drew ?_)));(case side4 => exact (Kd.R_reads' HO445.out).2.1);rintro e w106 ⟨rfl,hb⟩;refine ⟨_,rfl,?_⟩;have n0_:=Aside0.mk (Kd.R_below (by (with_reducible repeat (first|apply Kd.R_alloc|apply Kd.R_drewN|apply Kd.R_drew));exact HO_4.out) hb);have n1_:=Aside0.mk (Kd.R_below (by (with_reducible repeat (first|apply Kd.R_alloc|apply Kd.R_drewN|apply Kd.R_drew));exact HO_5.out) hb);have n2_:=Aside0.mk (Kd.R_below (by (with_reducible repeat (first|apply Kd.R_alloc|apply Kd.R_drewN|apply Kd.R_drew));exact HO_7.out) hb);have n3_:=Aside0.mk (Kd.R_below (by (with_reducible repeat (first|apply Kd.R_alloc|apply Kd.R_drewN|apply Kd.R_drew));exact HO_8.out) hb);have n4_:=Aside0.mk (Kd.R_below (by (with_reducible repeat (first|apply Kd.R_alloc|apply Kd.R_drewN|apply Kd.R_drew));exact HO_9.out) hb);have n5_:=Aside0.mk (Kd.R_below (by (with_reducible repeat (first|apply Kd.R_alloc|apply Kd.R_drewN|apply Kd.R_drew));exact HO445.out) hb);have n6_:=Aside0.mk (below_step (by repeat (first|(with_reducible first|exact HB.out|apply below_alloc|apply pw_below_drewN|apply below_drew1)|exact HB.out)) hb);clear HO_4;clear HO_5;clear HO_7;clear HO_8;clear HO_9;clear HO445;clear HB;have HO_4:=n0_;have HO_5:=n1_;have HO_7:=n2_;have HO_8:=n3_;have HO_9:=n4_;have HO445:=n5_;have HB:=n6_;clear n0_ n1_ n2_ n3_ n4_ n5_ n6_;(try clear hb);(try clear hb2);(try clear hk);(try clear hi)))
    go_ret
    exact ⟨by first|rfl|(simp [errW_none,errW_some] <;> rfl)|(simp [*,errW_none,errW_some] <;> rfl),by repeat (first|(with_reducible first|exact HB.out|apply below_alloc|apply pw_below_drewN|apply below_drew1)|exact HB.out)⟩
   subst c32
   have H1 : ((laws_markTokenS.f kj7 t431 1).bind fun bt447 => (if bt447.1 < 0 then (laws_FnExactTokenLengths.j1 kj7 l0 t424 t425 t426 t434 t435 true) else ((laws_eqIntS.f kj7 t434 t424).bind fun t449 => (if t449 = true then ((laws_eqIntS.f kj7 t435 t425).bind fun t450 => (if t450 = true then (laws_FnExactTokenLengths.j1 kj7 l0 t424 t425 t426 t434 t435 (t436 != t426)) else (laws_FnExactTokenLengths.j1 kj7 l0 t424 t425 t426 t434 t435 true))) else (laws_FnExactTokenLengths.j1 kj7 l0 t424 t425 t426 t434 t435 true))))) = some r:=by rw [if_pos rfl] at H;exact H
   clear H
   have H:=H1
   clear H1
   replace H:=Option.bind_eq_some_iff.mp H
   obtain ⟨⟨t447,t448⟩,A330,H⟩:=H
   replace H : (if t447 < 0 then (laws_FnExactTokenLengths.j1 kj7 l0 t424 t425 t426 t434 t435 true) else ((laws_eqIntS.f kj7 t434 t424).bind fun t449 => (if t449 = true then ((laws_eqIntS.f kj7 t435 t425).bind fun t450 => (if t450 = true then (laws_FnExactTokenLengths.j1 kj7 l0 t424 t425 t426 t434 t435 (t436 != t426)) else (laws_FnExactTokenLengths.j1 kj7 l0 t424 t425 t426 t434 t435 true))) else (laws_FnExactTokenLengths.j1 kj7 l0 t424 t425 t426 t434 t435 true)))) = some r:=H
   have A33:=Aside0.mk A330
   clear A330
   have HC34:=Aside0.mk H
   clear H
   go_upto_region 14 with (first|((with_reducible refine gate_callee (f:=43) rfl ?_);refine goesL_ (some 54) rfl rfl Try.func43 (by kernel_rfl) rfl #[.slice A0 l0.length c0] rfl (by (try simp only [List.map_toArray,List.map_cons,List.map_nil]);first|done|rfl|(simp only [List.length_drop,List.length_take];rfl)) ?_;(with_reducible refine (laws_toTokenS.calls kj7 _ _ l0 t443 _ ?side1 ?side2 A30.out).mono ?_);(case side1 => repeat (first|exact (Kd.C_below HR0.out HB.out)|(with_reducible refine Kd.C_alloc ?_ _)|(with_reducible refine Kd.C_drewN ?_ _)|(with_reducible refine Kd.C_drew ?_)));(case side2 => exact HC0.out);rintro e w35 ⟨v444,rfl,ho0,hb⟩;refine ⟨_,rfl,?_⟩;have n0_:=Aside0.mk (Kd.R_below (by (with_reducible repeat (first|apply Kd.R_alloc|apply Kd.R_drewN|apply Kd.R_drew));exact HO_4.out) hb);have n1_:=Aside0.mk (Kd.R_below (by (with_reducible repeat (first|apply Kd.R_alloc|apply Kd.R_drewN|apply Kd.R_drew));exact HO_5.out) hb);have n2_:=Aside0.mk (Kd.R_elder' (by (with_reducible repeat (first|apply Kd.R_alloc|apply Kd.R_drewN|apply Kd.R_drew));exact HO_7.out) (Kd.R_base ho0) hb);have n3_:=Aside0.mk (Kd.R_below (by (with_reducible repeat (first|apply Kd.R_alloc|apply Kd.R_drewN|apply Kd.R_drew));exact HO_8.out) hb);have n4_:=Aside0.mk (Kd.R_below (by (with_reducible repeat (first|apply Kd.R_alloc|apply Kd.R_drewN|apply Kd.R_drew));exact HO_9.out) hb);have n5_:=Aside0.mk (Kd.R_lower (Kd.R_new' ho0 (Kd.R_lt (by (with_reducible repeat (first|apply Kd.R_alloc|apply Kd.R_drewN|apply Kd.R_drew));exact HO_7.out))) (below_size (by repeat (first|(with_reducible first|exact HB.out|apply below_alloc|apply pw_below_drewN|apply below_drew1)|exact HB.out))));have n6_:=Aside0.mk (below_step (by repeat (first|(with_reducible first|exact HB.out|apply below_alloc|apply pw_below_drewN|apply below_drew1)|exact HB.out)) hb);clear HO_4;clear HO_5;clear HO_7;clear HO_8;clear HO_9;clear HB;have HO_4:=n0_;have HO_5:=n1_;have HO_7:=n2_;have HO_8:=n3_;have HO_9:=n4_;have HO445:=n5_;have HB:=n6_;clear n0_ n1_ n2_ n3_ n4_ n5_ n6_;(try clear hb);(try clear hb2);(try clear hk);(try clear hi);(try clear ho0);obtain ⟨Ao36,co36,eo36⟩:=Kd.R_slice HO445.out;subst eo36)|((with_reducible refine gate_callee (f:=45) rfl ?_);refine goesL_ (some 55) rfl rfl Try.func45 (by kernel_rfl) rfl #[.slice Ao13 t431.length co13,.slice Ao36 t443.length co36] rfl (by (try simp only [List.map_toArray,List.map_cons,List.map_nil]);first|done|rfl|(simp only [List.length_drop,List.length_take];rfl)) ?_;(with_reducible refine (laws_eqTokenS.calls kj7 _ _ t431 _ _ t443 true _ ?side1 ?side2 ?side3 ?side4 A31.out).mono ?_);(case side1 => repeat (first|exact (Kd.R_reads' HO_7.out).2.2|(with_reducible refine Kd.C_alloc ?_ _)|(with_reducible refine Kd.C_drewN ?_ _)|(with_reducible refine Kd.C_drew ?_)));(case side2 => exact (Kd.R_reads' HO_7.out).2.1);(case side3 => repeat (first|exact (Kd.R_reads' HO445.out).2.2|(with_reducible refine Kd.C_alloc ?_ _)|(with_reducible refine Kd.C_drewN ?_ _)|(with_reducible refine Kd.C_drew ?_)));(case side4 => exact (Kd.R_reads' HO445.out).2.1);rintro e w37 ⟨rfl,hb⟩;refine ⟨_,rfl,?_⟩;have n0_:=Aside0.mk (Kd.R_below (by (with_reducible repeat (first|apply Kd.R_alloc|apply Kd.R_drewN|apply Kd.R_drew));exact HO_4.out) hb);have n1_:=Aside0.mk (Kd.R_below (by (with_reducible repeat (first|apply Kd.R_alloc|apply Kd.R_drewN|apply Kd.R_drew));exact HO_5.out) hb);have n2_:=Aside0.mk (Kd.R_below (by (with_reducible repeat (first|apply Kd.R_alloc|apply Kd.R_drewN|apply Kd.R_drew));exact HO_7.out) hb);have n3_:=Aside0.mk (Kd.R_below (by (with_reducible repeat (first|apply Kd.R_alloc|apply Kd.R_drewN|apply Kd.R_drew));exact HO_8.out) hb);have n4_:=Aside0.mk (Kd.R_below (by (with_reducible repeat (first|apply Kd.R_alloc|apply Kd.R_drewN|apply Kd.R_drew));exact HO_9.out) hb);have n5_:=Aside0.mk (Kd.R_below (by (with_reducible repeat (first|apply Kd.R_alloc|apply Kd.R_drewN|apply Kd.R_drew));exact HO445.out) hb);have n6_:=Aside0.mk (below_step (by repeat (first|(with_reducible first|exact HB.out|apply below_alloc|apply pw_below_drewN|apply below_drew1)|exact HB.out)) hb);clear HO_4;clear HO_5;clear HO_7;clear HO_8;clear HO_9;clear HO445;clear HB;have HO_4:=n0_;have HO_5:=n1_;have HO_7:=n2_;have HO_8:=n3_;have HO_9:=n4_;have HO445:=n5_;have HB:=n6_;clear n0_ n1_ n2_ n3_ n4_ n5_ n6_;(try clear hb);(try clear hb2);(try clear hk);(try clear hi))|((with_reducible refine gate_callee (f:=46) rfl ?_);refine goesL_ (some 59) rfl rfl Try.func46 (by kernel_rfl) rfl #[.slice Ao13 t431.length co13,.int .i64 1] rfl (by (try simp only [List.map_toArray,List.map_cons,List.map_nil]);first|done|rfl|(simp only [List.length_drop,List.length_take];rfl)) ?_;(with_reducible refine (laws_markTokenS.calls kj7 (fun k_ => some k_ = (.slice Ao13 t431.length co13 : Value).ownBlock) (.slice Ao13 t431.length co13) t431 1 t447 t448 w _ ?side1 ?side2 A33.out).mono ?_);(case side1 => repeat (first|(with_reducible first|exact HB.out|apply below_alloc|apply pw_below_drewN|apply below_drew1)|exact HB.out));(case side2 => exact Kd.R_tight rfl HO_7.out);rintro e w38 ⟨rfl,hy0,hb,hkp⟩;refine ⟨_,rfl,?_⟩;have n0_:=Aside0.mk (Kd.R_mono (ok':=fun k_ => some k_ ≠ (v429 : Value).ownBlock∧some k_ ≠ (v437 : Value).ownBlock∧some k_ ≠ (v439 : Value).ownBlock) (Kd.R_keptB ((Kd.R_apart' HO_4.out (Kd.R_typed HO_7.out) (by decide))) hkp (fun k_ hk_ hs_ => (hk_.2) hs_)) (fun k_ hk_ => ⟨hk_.1.1.1,hk_.1.1.2.1,hk_.1.1.2.2⟩));have n1_:=Aside0.mk (Kd.R_mono (ok':=fun k_ => some k_ ≠ (v427 : Value).ownBlock∧some k_ ≠ (v437 : Value).ownBlock∧some k_ ≠ (v439 : Value).ownBlock) (Kd.R_keptB ((Kd.R_apart' HO_5.out (Kd.R_typed HO_7.out) (by decide))) hkp (fun k_ hk_ hs_ => (hk_.2) hs_)) (fun k_ hk_ => ⟨hk_.1.1.1,hk_.1.1.2.1,hk_.1.1.2.2⟩));have n2_:=Aside0.mk (Kd.R_reok rfl hy0 (fun k_ e_ => HO_7.out.1 k_ e_));have n3_:=Aside0.mk (Kd.R_mono (ok':=fun k_ => some k_ ≠ (v427 : Value).ownBlock∧some k_ ≠ (v429 : Value).ownBlock∧some k_ ≠ (v439 : Value).ownBlock) (Kd.R_keptB ((Kd.R_apart' HO_8.out (Kd.R_typed HO_7.out) (by decide))) hkp (fun k_ hk_ hs_ => (hk_.2) hs_)) (fun k_ hk_ => ⟨hk_.1.1.1,hk_.1.1.2.1,hk_.1.1.2.2⟩));have n4_:=Aside0.mk (Kd.R_mono (ok':=fun k_ => some k_ ≠ (v427 : Value).ownBlock∧some k_ ≠ (v429 : Value).ownBlock∧some k_ ≠ (v437 : Value).ownBlock) (Kd.R_keptB ((Kd.R_apart' HO_9.out (Kd.R_typed HO_7.out) (by decide))) hkp (fun k_ hk_ hs_ => (hk_.2) hs_)) (fun k_ hk_ => ⟨hk_.1.1.1,hk_.1.1.2.1,hk_.1.1.2.2⟩));have n5_:=Aside0.mk (Kd.R_mono (ok':=fun k_ => some k_ ≠ (.slice Ao13 t431.length co13 : Value).ownBlock) (Kd.R_keptB (HO445.out) hkp (fun k_ hk_ hs_ => (hk_.2) hs_)) (fun k_ hk_ => hk_.1.2));have n6_:=Aside0.mk (hb);clear HO_4;clear HO_5;clear HO_7;clear HO_8;clear HO_9;clear HO445;clear HB;have HO_4:=n0_;have HO_5:=n1_;have HO_7:=n2_;have HO_8:=n3_;have HO_9:=n4_;have HO445:=n5_;have HB:=n6_;clear n0_ n1_ n2_ n3_ n4_ n5_ n6_;(try clear hb);(try clear hkp);(try clear hy0)))
   (try simp only [Act.put,List.setIfInBounds_toArray,List.set_cons_zero,List.set_cons_succ])
   go_cut [78] (fun v78 wc => ∃ (kq : Nat) (x78_33 : Bool),v78 = .bool x78_33∧Aside0 (laws_FnExactTokenLengths.j1 kq l0 t424 t425 t426 t434 t435 x78_33 = some r)∧Aside0 (kq ≤ kj7)∧Aside0 (Kd.R (Kd.int .i64) 3 wc w.heap.size (fun k_ => some k_ ≠ (v429 : Value).ownBlock∧some k_ ≠ (v437 : Value).ownBlock∧some k_ ≠ (v439 : Value).ownBlock) v427 t424)∧Aside0 (Kd.R (Kd.int .i64) 3 wc w.heap.size (fun k_ => some k_ ≠ (v427 : Value).ownBlock∧some k_ ≠ (v437 : Value).ownBlock∧some k_ ≠ (v439 : Value).ownBlock) v429 t425)∧Aside0 (Kd.R (Kd.int .i64) 3 wc w.heap.size (fun k_ => some k_ ≠ (v427 : Value).ownBlock∧some k_ ≠ (v429 : Value).ownBlock∧some k_ ≠ (v439 : Value).ownBlock) v437 t434)∧Aside0 (Kd.R (Kd.int .i64) 3 wc w.heap.size (fun k_ => some k_ ≠ (v427 : Value).ownBlock∧some k_ ≠ (v429 : Value).ownBlock∧some k_ ≠ (v437 : Value).ownBlock) v439 t435)∧Aside0 (Below w.heap.size w wc))
   case first =>
    have H:=HC34.out
    clear HC34
    by_cases c39 : t447 < 0
    ·rw [if_pos c39] at H
     have c39b0 : decide (t447 < 0) = true:=decide_eq_true c39
     clear c39
     (first|rw [c39b0]|(simp only [i64_w,i32_w];rw [c39b0])|skip)
     have H':=Aside0.mk H
     clear H
     go_wp2
     go_meet
     case rel => exact ⟨_,(true),(by first|rfl|(simp;done)|(simp [*];done)),H',⟨by have:=HJ7.out;first|omega|exact Nat.le_refl _⟩,⟨by (with_reducible repeat (first|apply Kd.R_alloc|apply Kd.R_drewN|apply Kd.R_drew));exact HO_4.out⟩,⟨by (with_reducible repeat (first|apply Kd.R_alloc|apply Kd.R_drewN|apply Kd.R_drew));exact HO_5.out⟩,⟨by (with_reducible repeat (first|apply Kd.R_alloc|apply Kd.R_drewN|apply Kd.R_drew));exact HO_8.out⟩,⟨by (with_reducible repeat (first|apply Kd.R_alloc|apply Kd.R_drewN|apply Kd.R_drew));exact HO_9.out⟩,⟨by repeat (first|(with_reducible first|exact HB.out|apply below_alloc|apply pw_below_drewN|apply below_drew1)|exact HB.out)⟩⟩
    rw [if_neg c39] at H
    have c39b0 : decide (t447 < 0) = false:=decide_eq_false c39
    clear c39
    (first|rw [c39b0]|(simp only [i64_w,i32_w];rw [c39b0])|skip)
    replace H:=Option.bind_eq_some_iff.mp H
    obtain ⟨t449,A400,H⟩:=H
    replace H : (if t449 = true then ((laws_eqIntS.f kj7 t435 t425).bind fun t450 => (if t450 = true then (laws_FnExactTokenLengths.j1 kj7 l0 t424 t425 t426 t434 t435 (t436 != t426)) else (laws_FnExactTokenLengths.j1 kj7 l0 t424 t425 t426 t434 t435 true))) else (laws_FnExactTokenLengths.j1 kj7 l0 t424 t425 t426 t434 t435 true)) = some r:=H
    have A40:=Aside0.mk A400
    clear A400
    by_cases c41 : t449 = true
    rotate_left
    ·replace c41:=Bool.eq_false_iff.mpr c41
     subst c41
     have H1 : (laws_FnExactTokenLengths.j1 kj7 l0 t424 t425 t426 t434 t435 true) = some r:=by rw [if_neg (show ¬ (false = true) by decide)] at H;exact H
     clear H
     have H:=H1
     clear H1
     have H':=Aside0.mk H
     clear H
     obtain ⟨Ao52,co52,eo52⟩:=Kd.R_slice HO_8.out
     subst eo52
     obtain ⟨Ao53,co53,eo53⟩:=Kd.R_slice HO_4.out
     subst eo53
     go_wp2_with (first|(go_at_call 17;(with_reducible refine (laws_eqIntS.calls kj7 _ _ t434 _ _ t424 false _ ?side1 ?side2 ?side3 ?side4 A40.out).mono ?_);(case side1 => repeat (first|exact (Kd.R_reads' HO_8.out).2.2|(with_reducible refine Kd.C_alloc ?_ _)|(with_reducible refine Kd.C_drewN ?_ _)|(with_reducible refine Kd.C_drew ?_)));(case side2 => exact (Kd.R_reads' HO_8.out).2.1);(case side3 => repeat (first|exact (Kd.R_reads' HO_4.out).2.2|(with_reducible refine Kd.C_alloc ?_ _)|(with_reducible refine Kd.C_drewN ?_ _)|(with_reducible refine Kd.C_drew ?_)));(case side4 => exact (Kd.R_reads' HO_4.out).2.1);rintro e w' ⟨rfl,⟨nd,rfl⟩⟩))
     go_meet
     case rel => exact ⟨_,(true),(by first|rfl|(simp;done)|(simp [*];done)),H',⟨by have:=HJ7.out;first|omega|exact Nat.le_refl _⟩,⟨by (with_reducible repeat (first|apply Kd.R_alloc|apply Kd.R_drewN|apply Kd.R_drew));exact HO_4.out⟩,⟨by (with_reducible repeat (first|apply Kd.R_alloc|apply Kd.R_drewN|apply Kd.R_drew));exact HO_5.out⟩,⟨by (with_reducible repeat (first|apply Kd.R_alloc|apply Kd.R_drewN|apply Kd.R_drew));exact HO_8.out⟩,⟨by (with_reducible repeat (first|apply Kd.R_alloc|apply Kd.R_drewN|apply Kd.R_drew));exact HO_9.out⟩,⟨by repeat (first|(with_reducible first|exact HB.out|apply below_alloc|apply pw_below_drewN|apply below_drew1)|exact HB.out)⟩⟩
    subst c41
    have H1 : ((laws_eqIntS.f kj7 t435 t425).bind fun t450 => (if t450 = true then (laws_FnExactTokenLengths.j1 kj7 l0 t424 t425 t426 t434 t435 (t436 != t426)) else (laws_FnExactTokenLengths.j1 kj7 l0 t424 t425 t426 t434 t435 true))) = some r:=by rw [if_pos rfl] at H;exact H
    clear H
    have H:=H1
    clear H1
    replace H:=Option.bind_eq_some_iff.mp H
    obtain ⟨t450,A420,H⟩:=H
    replace H : (if t450 = true then (laws_FnExactTokenLengths.j1 kj7 l0 t424 t425 t426 t434 t435 (t436 != t426)) else (laws_FnExactTokenLengths.j1 kj7 l0 t424 t425 t426 t434 t435 true)) = some r:=H
    have A42:=Aside0.mk A420
    clear A420
    by_cases c43 : t450 = true
    ·subst c43
     have H1 : (laws_FnExactTokenLengths.j1 kj7 l0 t424 t425 t426 t434 t435 (t436 != t426)) = some r:=by rw [if_pos rfl] at H;exact H
     clear H
     have H:=H1
     clear H1
     have H':=Aside0.mk H
     clear H
     obtain ⟨Ao44,co44,eo44⟩:=Kd.R_slice HO_8.out
     subst eo44
     obtain ⟨Ao45,co45,eo45⟩:=Kd.R_slice HO_4.out
     subst eo45
     go_wp2_with (first|(go_at_call 17;(with_reducible refine (laws_eqIntS.calls kj7 _ _ t434 _ _ t424 true _ ?side1 ?side2 ?side3 ?side4 A40.out).mono ?_);(case side1 => repeat (first|exact (Kd.R_reads' HO_8.out).2.2|(with_reducible refine Kd.C_alloc ?_ _)|(with_reducible refine Kd.C_drewN ?_ _)|(with_reducible refine Kd.C_drew ?_)));(case side2 => exact (Kd.R_reads' HO_8.out).2.1);(case side3 => repeat (first|exact (Kd.R_reads' HO_4.out).2.2|(with_reducible refine Kd.C_alloc ?_ _)|(with_reducible refine Kd.C_drewN ?_ _)|(with_reducible refine Kd.C_drew ?_)));(case side4 => exact (Kd.R_reads' HO_4.out).2.1);rintro e w' ⟨rfl,⟨nd,rfl⟩⟩;obtain ⟨Ao46,co46,eo46⟩:=Kd.R_slice HO_9.out;subst eo46;obtain ⟨Ao47,co47,eo47⟩:=Kd.R_slice HO_5.out;subst eo47)|(go_at_call 17;(with_reducible refine (laws_eqIntS.calls kj7 _ _ t435 _ _ t425 true _ ?side1 ?side2 ?side3 ?side4 A42.out).mono ?_);(case side1 => repeat (first|exact (Kd.R_reads' HO_9.out).2.2|(with_reducible refine Kd.C_alloc ?_ _)|(with_reducible refine Kd.C_drewN ?_ _)|(with_reducible refine Kd.C_drew ?_)));(case side2 => exact (Kd.R_reads' HO_9.out).2.1);(case side3 => repeat (first|exact (Kd.R_reads' HO_5.out).2.2|(with_reducible refine Kd.C_alloc ?_ _)|(with_reducible refine Kd.C_drewN ?_ _)|(with_reducible refine Kd.C_drew ?_)));(case side4 => exact (Kd.R_reads' HO_5.out).2.1);rintro e w' ⟨rfl,⟨nd,rfl⟩⟩))
     go_meet
     case rel => exact ⟨_,((t436 != t426)),(by first|rfl|(simp;done)|(simp [*];done)),H',⟨by have:=HJ7.out;first|omega|exact Nat.le_refl _⟩,⟨by (with_reducible repeat (first|apply Kd.R_alloc|apply Kd.R_drewN|apply Kd.R_drew));exact HO_4.out⟩,⟨by (with_reducible repeat (first|apply Kd.R_alloc|apply Kd.R_drewN|apply Kd.R_drew));exact HO_5.out⟩,⟨by (with_reducible repeat (first|apply Kd.R_alloc|apply Kd.R_drewN|apply Kd.R_drew));exact HO_8.out⟩,⟨by (with_reducible repeat (first|apply Kd.R_alloc|apply Kd.R_drewN|apply Kd.R_drew));exact HO_9.out⟩,⟨by repeat (first|(with_reducible first|exact HB.out|apply below_alloc|apply pw_below_drewN|apply below_drew1)|exact HB.out)⟩⟩
    replace c43:=Bool.eq_false_iff.mpr c43
    subst c43
    have H1 : (laws_FnExactTokenLengths.j1 kj7 l0 t424 t425 t426 t434 t435 true) = some r:=by rw [if_neg (show ¬ (false = true) by decide)] at H;exact H
    clear H
    have H:=H1
    clear H1
    have H':=Aside0.mk H
    clear H
    obtain ⟨Ao48,co48,eo48⟩:=Kd.R_slice HO_8.out
    subst eo48
    obtain ⟨Ao49,co49,eo49⟩:=Kd.R_slice HO_4.out
    subst eo49
    go_wp2_with (first|(go_at_call 17;(with_reducible refine (laws_eqIntS.calls kj7 _ _ t434 _ _ t424 true _ ?side1 ?side2 ?side3 ?side4 A40.out).mono ?_);(case side1 => repeat (first|exact (Kd.R_reads' HO_8.out).2.2|(with_reducible refine Kd.C_alloc ?_ _)|(with_reducible refine Kd.C_drewN ?_ _)|(with_reducible refine Kd.C_drew ?_)));(case side2 => exact (Kd.R_reads' HO_8.out).2.1);(case side3 => repeat (first|exact (Kd.R_reads' HO_4.out).2.2|(with_reducible refine Kd.C_alloc ?_ _)|(with_reducible refine Kd.C_drewN ?_ _)|(with_reducible refine Kd.C_drew ?_)));(case side4 => exact (Kd.R_reads' HO_4.out).2.1);rintro e w' ⟨rfl,⟨nd,rfl⟩⟩;obtain ⟨Ao50,co50,eo50⟩:=Kd.R_slice HO_9.out;subst eo50;obtain ⟨Ao51,co51,eo51⟩:=Kd.R_slice HO_5.out;subst eo51)|(go_at_call 17;(with_reducible refine (laws_eqIntS.calls kj7 _ _ t435 _ _ t425 false _ ?side1 ?side2 ?side3 ?side4 A42.out).mono ?_);(case side1 => repeat (first|exact (Kd.R_reads' HO_9.out).2.2|(with_reducible refine Kd.C_alloc ?_ _)|(with_reducible refine Kd.C_drewN ?_ _)|(with_reducible refine Kd.C_drew ?_)));(case side2 => exact (Kd.R_reads' HO_9.out).2.1);(case side3 => repeat (first|exact (Kd.R_reads' HO_5.out).2.2|(with_reducible refine Kd.C_alloc ?_ _)|(with_reducible refine Kd.C_drewN ?_ _)|(with_reducible refine Kd.C_drew ?_)));(case side4 => exact (Kd.R_reads' HO_5.out).2.1);rintro e w' ⟨rfl,⟨nd,rfl⟩⟩))
    go_meet
    case rel => exact ⟨_,(true),(by first|rfl|(simp;done)|(simp [*];done)),H',⟨by have:=HJ7.out;first|omega|exact Nat.le_refl _⟩,⟨by (with_reducible repeat (first|apply Kd.R_alloc|apply Kd.R_drewN|apply Kd.R_drew));exact HO_4.out⟩,⟨by (with_reducible repeat (first|apply Kd.R_alloc|apply Kd.R_drewN|apply Kd.R_drew));exact HO_5.out⟩,⟨by (with_reducible repeat (first|apply Kd.R_alloc|apply Kd.R_drewN|apply Kd.R_drew));exact HO_8.out⟩,⟨by (with_reducible repeat (first|apply Kd.R_alloc|apply Kd.R_drewN|apply Kd.R_drew));exact HO_9.out⟩,⟨by repeat (first|(with_reducible first|exact HB.out|apply below_alloc|apply pw_below_drewN|apply below_drew1)|exact HB.out)⟩⟩
   case rest =>
    clear HC34
    obtain ⟨kq,x78_33,rfl,HA,HJ33,HO_4,HO_5,HO_8,HO_9,HB⟩:=hcut
    cases kq with
    | zero => exact absurd HA.out (by simp [laws_FnExactTokenLengths.j1])
    | succ kj33 =>
     have H:=HA.out
     clear HA
     simp only [laws_FnExactTokenLengths.j1] at H
     by_cases c54 : x78_33 = true
     ·subst c54
      have H1 : (some false) = some r:=by rw [if_pos rfl] at H;exact H
      clear H
      have H:=H1
      clear H1
      obtain rfl:=Option.some.inj H
      go_wp2
      go_ret
      exact ⟨by first|rfl|(simp [errW_none,errW_some] <;> rfl)|(simp [*,errW_none,errW_some] <;> rfl),by repeat (first|(with_reducible first|exact HB.out|apply below_alloc|apply pw_below_drewN|apply below_drew1)|exact HB.out)⟩
     replace c54:=Bool.eq_false_iff.mpr c54
     subst c54
     have H1 : ((laws_markIntS.f kj33 t434 1).bind fun bt451 => ((laws_markIntS.f kj33 t435 bt451.1).bind fun bt453 => ((laws_heldIntS.f kj33 bt451.2 1).bind fun t455 => (if t455 < 0 then (some false) else ((laws_heldIntS.f kj33 bt453.2 t455).bind fun t456 => (if t456 < 0 then (some false) else (if t456 = bt453.1 then ((laws_toTokenS.f kj33 l0).bind fun t457 => ((impl_TokenLengths.f kj33 t457).bind fun bt460 => ((laws_eqIntS.f kj33 bt460.1 t424).bind fun t467 => (if t467 = true then ((laws_eqIntS.f kj33 bt460.2.1 t425).bind fun t468 => (if t468 = true then (laws_FnExactTokenLengths.j2 kj33 bt451.2 bt453.2 bt453.1 (bt460.2.2 != t426)) else (laws_FnExactTokenLengths.j2 kj33 bt451.2 bt453.2 bt453.1 true))) else (laws_FnExactTokenLengths.j2 kj33 bt451.2 bt453.2 bt453.1 true))))) else (some false)))))))) = some r:=by rw [if_neg (show ¬ (false = true) by decide)] at H;exact H
     clear H
     have H:=H1
     clear H1
     replace H:=Option.bind_eq_some_iff.mp H
     obtain ⟨⟨t451,t452⟩,A550,H⟩:=H
     replace H : ((laws_markIntS.f kj33 t435 t451).bind fun bt453 => ((laws_heldIntS.f kj33 t452 1).bind fun t455 => (if t455 < 0 then (some false) else ((laws_heldIntS.f kj33 bt453.2 t455).bind fun t456 => (if t456 < 0 then (some false) else (if t456 = bt453.1 then ((laws_toTokenS.f kj33 l0).bind fun t457 => ((impl_TokenLengths.f kj33 t457).bind fun bt460 => ((laws_eqIntS.f kj33 bt460.1 t424).bind fun t467 => (if t467 = true then ((laws_eqIntS.f kj33 bt460.2.1 t425).bind fun t468 => (if t468 = true then (laws_FnExactTokenLengths.j2 kj33 t452 bt453.2 bt453.1 (bt460.2.2 != t426)) else (laws_FnExactTokenLengths.j2 kj33 t452 bt453.2 bt453.1 true))) else (laws_FnExactTokenLengths.j2 kj33 t452 bt453.2 bt453.1 true))))) else (some false))))))) = some r:=H
     have A55:=Aside0.mk A550
     clear A550
     replace H:=Option.bind_eq_some_iff.mp H
     obtain ⟨⟨t453,t454⟩,A560,H⟩:=H
     replace H : ((laws_heldIntS.f kj33 t452 1).bind fun t455 => (if t455 < 0 then (some false) else ((laws_heldIntS.f kj33 t454 t455).bind fun t456 => (if t456 < 0 then (some false) else (if t456 = t453 then ((laws_toTokenS.f kj33 l0).bind fun t457 => ((impl_TokenLengths.f kj33 t457).bind fun bt460 => ((laws_eqIntS.f kj33 bt460.1 t424).bind fun t467 => (if t467 = true then ((laws_eqIntS.f kj33 bt460.2.1 t425).bind fun t468 => (if t468 = true then (laws_FnExactTokenLengths.j2 kj33 t452 t454 t453 (bt460.2.2 != t426)) else (laws_FnExactTokenLengths.j2 kj33 t452 t454 t453 true))) else (laws_FnExactTokenLengths.j2 kj33 t452 t454 t453 true))))) else (some false)))))) = some r:=H
     have A56:=Aside0.mk A560
     clear A560
     replace H:=Option.bind_eq_some_iff.mp H
     obtain ⟨t455,A570,H⟩:=H
     replace H : (if t455 < 0 then (some false) else ((laws_heldIntS.f kj33 t454 t455).bind fun t456 => (if t456 < 0 then (some false) else (if t456 = t453 then ((laws_toTokenS.f kj33 l0).bind fun t457 => ((impl_TokenLengths.f kj33 t457).bind fun bt460 => ((laws_eqIntS.f kj33 bt460.1 t424).bind fun t467 => (if t467 = true then ((laws_eqIntS.f kj33 bt460.2.1 t425).bind fun t468 => (if t468 = true then (laws_FnExactTokenLengths.j2 kj33 t452 t454 t453 (bt460.2.2 != t426)) else (laws_FnExactTokenLengths.j2 kj33 t452 t454 t453 true))) else (laws_FnExactTokenLengths.j2 kj33 t452 t454 t453 true))))) else (some false))))) = some r:=H
     have A57:=Aside0.mk A570
     clear A570
     by_cases c58 : t455 < 0
     ·rw [if_pos c58] at H
      have c58b0 : decide (t455 < 0) = true:=decide_eq_true c58
      clear c58
      obtain rfl:=Option.some.inj H
      obtain ⟨Ao59,co59,eo59⟩:=Kd.R_slice HO_8.out
      subst eo59
      go_wp2_with (first|((with_reducible refine gate_callee (f:=22) rfl ?_);refine goesL_ (some 81) rfl rfl Try.func22 (by kernel_rfl) rfl #[.slice Ao59 t434.length co59,.int .i64 1] rfl (by (try simp only [List.map_toArray,List.map_cons,List.map_nil]);first|done|rfl|(simp only [List.length_drop,List.length_take];rfl)) ?_;(with_reducible refine (laws_markIntS.calls kj33 (fun k_ => some k_ = (.slice Ao59 t434.length co59 : Value).ownBlock) (.slice Ao59 t434.length co59) t434 1 t451 t452 w _ ?side1 ?side2 A55.out).mono ?_);(case side1 => repeat (first|(with_reducible first|exact HB.out|apply below_alloc|apply pw_below_drewN|apply below_drew1)|exact HB.out));(case side2 => exact Kd.R_tight rfl HO_8.out);rintro e w60 ⟨rfl,hy0,hb,hkp⟩;refine ⟨_,rfl,?_⟩;have n0_:=Aside0.mk (Kd.R_mono (ok':=fun k_ => some k_ ≠ (v429 : Value).ownBlock∧some k_ ≠ (.slice Ao59 t434.length co59 : Value).ownBlock∧some k_ ≠ (v439 : Value).ownBlock) (Kd.R_keptB (HO_4.out) hkp (fun k_ hk_ hs_ => (hk_.2.1) hs_)) (fun k_ hk_ => ⟨hk_.1.1,hk_.1.2.1,hk_.1.2.2⟩));have n1_:=Aside0.mk (Kd.R_mono (ok':=fun k_ => some k_ ≠ (v427 : Value).ownBlock∧some k_ ≠ (.slice Ao59 t434.length co59 : Value).ownBlock∧some k_ ≠ (v439 : Value).ownBlock) (Kd.R_keptB (HO_5.out) hkp (fun k_ hk_ hs_ => (hk_.2.1) hs_)) (fun k_ hk_ => ⟨hk_.1.1,hk_.1.2.1,hk_.1.2.2⟩));have n2_:=Aside0.mk (Kd.R_reok rfl hy0 (fun k_ e_ => HO_8.out.1 k_ e_));have n3_:=Aside0.mk (Kd.R_mono (ok':=fun k_ => some k_ ≠ (v427 : Value).ownBlock∧some k_ ≠ (v429 : Value).ownBlock∧some k_ ≠ (.slice Ao59 t434.length co59 : Value).ownBlock) (Kd.R_keptB (HO_9.out) hkp (fun k_ hk_ hs_ => (hk_.2.2) hs_)) (fun k_ hk_ => ⟨hk_.1.1,hk_.1.2.1,hk_.1.2.2⟩));have n4_:=Aside0.mk (hb);clear HO_4;clear HO_5;clear HO_8;clear HO_9;clear HB;have HO_4:=n0_;have HO_5:=n1_;have HO_8:=n2_;have HO_9:=n3_;have HB:=n4_;clear n0_ n1_ n2_ n3_ n4_;(try clear hb);(try clear hkp);(try clear hy0);obtain ⟨Ao61,co61,eo61⟩:=Kd.R_slice HO_9.out;subst eo61)|((with_reducible refine gate_callee (f:=22) rfl ?_);refine goesL_ (some 84) rfl rfl Try.func22 (by kernel_rfl) rfl #[.slice Ao61 t435.length co61,.int .i64 t451] rfl (by (try simp only [List.map_toArray,List.map_cons,List.map_nil]);first|done|rfl|(simp only [List.length_drop,List.length_take];rfl)) ?_;(with_reducible refine (laws_markIntS.calls kj33 (fun k_ => some k_ = (.slice Ao61 t435.length co61 : Value).ownBlock) (.slice Ao61 t435.length co61) t435 t451 t453 t454 w _ ?side1 ?side2 A56.out).mono ?_);(case side1 => repeat (first|(with_reducible first|exact HB.out|apply below_alloc|apply pw_below_drewN|apply below_drew1)|exact HB.out));(case side2 => exact Kd.R_tight rfl HO_9.out);rintro e w62 ⟨rfl,hy0,hb,hkp⟩;refine ⟨_,rfl,?_⟩;have n0_:=Aside0.mk (Kd.R_mono (ok':=fun k_ => some k_ ≠ (v429 : Value).ownBlock∧some k_ ≠ (.slice Ao59 t434.length co59 : Value).ownBlock∧some k_ ≠ (.slice Ao61 t435.length co61 : Value).ownBlock) (Kd.R_keptB (HO_4.out) hkp (fun k_ hk_ hs_ => (hk_.2.2) hs_)) (fun k_ hk_ => ⟨hk_.1.1,hk_.1.2.1,hk_.1.2.2⟩));have n1_:=Aside0.mk (Kd.R_mono (ok':=fun k_ => some k_ ≠ (v427 : Value).ownBlock∧some k_ ≠ (.slice Ao59 t434.length co59 : Value).ownBlock∧some k_ ≠ (.slice Ao61 t435.length co61 : Value).ownBlock) (Kd.R_keptB (HO_5.out) hkp (fun k_ hk_ hs_ => (hk_.2.2) hs_)) (fun k_ hk_ => ⟨hk_.1.1,hk_.1.2.1,hk_.1.2.2⟩));have n2_:=Aside0.mk (Kd.R_mono (ok':=fun k_ => some k_ ≠ (v427 : Value).ownBlock∧some k_ ≠ (v429 : Value).ownBlock∧some k_ ≠ (.slice Ao61 t435.length co61 : Value).ownBlock) (Kd.R_keptB (HO_8.out) hkp (fun k_ hk_ hs_ => (hk_.2.2) hs_)) (fun k_ hk_ => ⟨hk_.1.1,hk_.1.2.1,hk_.1.2.2⟩));have n3_:=Aside0.mk (Kd.R_reok rfl hy0 (fun k_ e_ => HO_9.out.1 k_ e_));have n4_:=Aside0.mk (hb);clear HO_4;clear HO_5;clear HO_8;clear HO_9;clear HB;have HO_4:=n0_;have HO_5:=n1_;have HO_8:=n2_;have HO_9:=n3_;have HB:=n4_;clear n0_ n1_ n2_ n3_ n4_;(try clear hb);(try clear hkp);(try clear hy0))|((with_reducible refine gate_callee (f:=23) rfl ?_);refine goesL_ (some 87) rfl rfl Try.func23 (by kernel_rfl) rfl #[.slice Ao59 t452.length co59,.int .i64 1] rfl (by (try simp only [List.map_toArray,List.map_cons,List.map_nil]);first|done|(rw [show t452.length = t434.length from (Kd.R_reads' HO_8.out).1.symm] <;> rfl)|rfl|(simp only [List.length_drop,List.length_take];rfl)) ?_;(with_reducible refine (laws_heldIntS.calls kj33 _ _ t452 1 t455 _ ?side1 ?side2 A57.out).mono ?_);(case side1 => repeat (first|exact (Kd.R_reads' HO_8.out).2.2|(with_reducible refine Kd.C_alloc ?_ _)|(with_reducible refine Kd.C_drewN ?_ _)|(with_reducible refine Kd.C_drew ?_)));(case side2 => rw [show t452.length = t434.length from (Kd.R_reads' HO_8.out).1.symm];exact (Kd.R_reads' HO_8.out).2.1);rintro e w' ⟨rfl,⟨nd,rfl⟩⟩;refine ⟨_,rfl,?_⟩))
      go_ret
      exact ⟨by first|rfl|(simp [errW_none,errW_some] <;> rfl)|(simp [*,errW_none,errW_some] <;> rfl),by repeat (first|(with_reducible first|exact HB.out|apply below_alloc|apply pw_below_drewN|apply below_drew1)|exact HB.out)⟩
     rw [if_neg c58] at H
     have c58b0 : decide (t455 < 0) = false:=decide_eq_false c58
     clear c58
     replace H:=Option.bind_eq_some_iff.mp H
     obtain ⟨t456,A630,H⟩:=H
     replace H : (if t456 < 0 then (some false) else (if t456 = t453 then ((laws_toTokenS.f kj33 l0).bind fun t457 => ((impl_TokenLengths.f kj33 t457).bind fun bt460 => ((laws_eqIntS.f kj33 bt460.1 t424).bind fun t467 => (if t467 = true then ((laws_eqIntS.f kj33 bt460.2.1 t425).bind fun t468 => (if t468 = true then (laws_FnExactTokenLengths.j2 kj33 t452 t454 t453 (bt460.2.2 != t426)) else (laws_FnExactTokenLengths.j2 kj33 t452 t454 t453 true))) else (laws_FnExactTokenLengths.j2 kj33 t452 t454 t453 true))))) else (some false))) = some r:=H
     have A63:=Aside0.mk A630
     clear A630
     by_cases c64 : t456 < 0
     ·rw [if_pos c64] at H
      have c64b0 : decide (t456 < 0) = true:=decide_eq_true c64
      clear c64
      obtain rfl:=Option.some.inj H
      obtain ⟨Ao65,co65,eo65⟩:=Kd.R_slice HO_8.out
      subst eo65
      go_wp2_with (first|((with_reducible refine gate_callee (f:=22) rfl ?_);refine goesL_ (some 81) rfl rfl Try.func22 (by kernel_rfl) rfl #[.slice Ao65 t434.length co65,.int .i64 1] rfl (by (try simp only [List.map_toArray,List.map_cons,List.map_nil]);first|done|rfl|(simp only [List.length_drop,List.length_take];rfl)) ?_;(with_reducible refine (laws_markIntS.calls kj33 (fun k_ => some k_ = (.slice Ao65 t434.length co65 : Value).ownBlock) (.slice Ao65 t434.length co65) t434 1 t451 t452 w _ ?side1 ?side2 A55.out).mono ?_);(case side1 => repeat (first|(with_reducible first|exact HB.out|apply below_alloc|apply pw_below_drewN|apply below_drew1)|exact HB.out));(case side2 => exact Kd.R_tight rfl HO_8.out);rintro e w66 ⟨rfl,hy0,hb,hkp⟩;refine ⟨_,rfl,?_⟩;have n0_:=Aside0.mk (Kd.R_mono (ok':=fun k_ => some k_ ≠ (v429 : Value).ownBlock∧some k_ ≠ (.slice Ao65 t434.length co65 : Value).ownBlock∧some k_ ≠ (v439 : Value).ownBlock) (Kd.R_keptB (HO_4.out) hkp (fun k_ hk_ hs_ => (hk_.2.1) hs_)) (fun k_ hk_ => ⟨hk_.1.1,hk_.1.2.1,hk_.1.2.2⟩));have n1_:=Aside0.mk (Kd.R_mono (ok':=fun k_ => some k_ ≠ (v427 : Value).ownBlock∧some k_ ≠ (.slice Ao65 t434.length co65 : Value).ownBlock∧some k_ ≠ (v439 : Value).ownBlock) (Kd.R_keptB (HO_5.out) hkp (fun k_ hk_ hs_ => (hk_.2.1) hs_)) (fun k_ hk_ => ⟨hk_.1.1,hk_.1.2.1,hk_.1.2.2⟩));have n2_:=Aside0.mk (Kd.R_reok rfl hy0 (fun k_ e_ => HO_8.out.1 k_ e_));have n3_:=Aside0.mk (Kd.R_mono (ok':=fun k_ => some k_ ≠ (v427 : Value).ownBlock∧some k_ ≠ (v429 : Value).ownBlock∧some k_ ≠ (.slice Ao65 t434.length co65 : Value).ownBlock) (Kd.R_keptB (HO_9.out) hkp (fun k_ hk_ hs_ => (hk_.2.2) hs_)) (fun k_ hk_ => ⟨hk_.1.1,hk_.1.2.1,hk_.1.2.2⟩));have n4_:=Aside0.mk (hb);clear HO_4;clear HO_5;clear HO_8;clear HO_9;clear HB;have HO_4:=n0_;have HO_5:=n1_;have HO_8:=n2_;have HO_9:=n3_;have HB:=n4_;clear n0_ n1_ n2_ n3_ n4_;(try clear hb);(try clear hkp);(try clear hy0);obtain ⟨Ao67,co67,eo67⟩:=Kd.R_slice HO_9.out;subst eo67)|((with_reducible refine gate_callee (f:=22) rfl ?_);refine goesL_ (some 84) rfl rfl Try.func22 (by kernel_rfl) rfl #[.slice Ao67 t435.length co67,.int .i64 t451] rfl (by (try simp only [List.map_toArray,List.map_cons,List.map_nil]);first|done|rfl|(simp only [List.length_drop,List.length_take];rfl)) ?_;(with_reducible refine (laws_markIntS.calls kj33 (fun k_ => some k_ = (.slice Ao67 t435.length co67 : Value).ownBlock) (.slice Ao67 t435.length co67) t435 t451 t453 t454 w _ ?side1 ?side2 A56.out).mono ?_);(case side1 => repeat (first|(with_reducible first|exact HB.out|apply below_alloc|apply pw_below_drewN|apply below_drew1)|exact HB.out));(case side2 => exact Kd.R_tight rfl HO_9.out);rintro e w68 ⟨rfl,hy0,hb,hkp⟩;refine ⟨_,rfl,?_⟩;have n0_:=Aside0.mk (Kd.R_mono (ok':=fun k_ => some k_ ≠ (v429 : Value).ownBlock∧some k_ ≠ (.slice Ao65 t434.length co65 : Value).ownBlock∧some k_ ≠ (.slice Ao67 t435.length co67 : Value).ownBlock) (Kd.R_keptB (HO_4.out) hkp (fun k_ hk_ hs_ => (hk_.2.2) hs_)) (fun k_ hk_ => ⟨hk_.1.1,hk_.1.2.1,hk_.1.2.2⟩));have n1_:=Aside0.mk (Kd.R_mono (ok':=fun k_ => some k_ ≠ (v427 : Value).ownBlock∧some k_ ≠ (.slice Ao65 t434.length co65 : Value).ownBlock∧some k_ ≠ (.slice Ao67 t435.length co67 : Value).ownBlock) (Kd.R_keptB (HO_5.out) hkp (fun k_ hk_ hs_ => (hk_.2.2) hs_)) (fun k_ hk_ => ⟨hk_.1.1,hk_.1.2.1,hk_.1.2.2⟩));have n2_:=Aside0.mk (Kd.R_mono (ok':=fun k_ => some k_ ≠ (v427 : Value).ownBlock∧some k_ ≠ (v429 : Value).ownBlock∧some k_ ≠ (.slice Ao67 t435.length co67 : Value).ownBlock) (Kd.R_keptB (HO_8.out) hkp (fun k_ hk_ hs_ => (hk_.2.2) hs_)) (fun k_ hk_ => ⟨hk_.1.1,hk_.1.2.1,hk_.1.2.2⟩));have n3_:=Aside0.mk (Kd.R_reok rfl hy0 (fun k_ e_ => HO_9.out.1 k_ e_));have n4_:=Aside0.mk (hb);clear HO_4;clear HO_5;clear HO_8;clear HO_9;clear HB;have HO_4:=n0_;have HO_5:=n1_;have HO_8:=n2_;have HO_9:=n3_;have HB:=n4_;clear n0_ n1_ n2_ n3_ n4_;(try clear hb);(try clear hkp);(try clear hy0))|((with_reducible refine gate_callee (f:=23) rfl ?_);refine goesL_ (some 87) rfl rfl Try.func23 (by kernel_rfl) rfl #[.slice Ao65 t452.length co65,.int .i64 1] rfl (by (try simp only [List.map_toArray,List.map_cons,List.map_nil]);first|done|(rw [show t452.length = t434.length from (Kd.R_reads' HO_8.out).1.symm] <;> rfl)|rfl|(simp only [List.length_drop,List.length_take];rfl)) ?_;(with_reducible refine (laws_heldIntS.calls kj33 _ _ t452 1 t455 _ ?side1 ?side2 A57.out).mono ?_);(case side1 => repeat (first|exact (Kd.R_reads' HO_8.out).2.2|(with_reducible refine Kd.C_alloc ?_ _)|(with_reducible refine Kd.C_drewN ?_ _)|(with_reducible refine Kd.C_drew ?_)));(case side2 => rw [show t452.length = t434.length from (Kd.R_reads' HO_8.out).1.symm];exact (Kd.R_reads' HO_8.out).2.1);rintro e w' ⟨rfl,⟨nd,rfl⟩⟩;refine ⟨_,rfl,?_⟩)|((with_reducible refine gate_callee (f:=23) rfl ?_);refine goesL_ (some 92) rfl rfl Try.func23 (by kernel_rfl) rfl #[.slice Ao67 t454.length co67,.int .i64 t455] rfl (by (try simp only [List.map_toArray,List.map_cons,List.map_nil]);first|done|(rw [show t454.length = t435.length from (Kd.R_reads' HO_9.out).1.symm] <;> rfl)|rfl|(simp only [List.length_drop,List.length_take];rfl)) ?_;(with_reducible refine (laws_heldIntS.calls kj33 _ _ t454 t455 t456 _ ?side1 ?side2 A63.out).mono ?_);(case side1 => repeat (first|exact (Kd.R_reads' HO_9.out).2.2|(with_reducible refine Kd.C_alloc ?_ _)|(with_reducible refine Kd.C_drewN ?_ _)|(with_reducible refine Kd.C_drew ?_)));(case side2 => rw [show t454.length = t435.length from (Kd.R_reads' HO_9.out).1.symm];exact (Kd.R_reads' HO_9.out).2.1);rintro e w' ⟨rfl,⟨nd,rfl⟩⟩;refine ⟨_,rfl,?_⟩))
      go_ret
      exact ⟨by first|rfl|(simp [errW_none,errW_some] <;> rfl)|(simp [*,errW_none,errW_some] <;> rfl),by repeat (first|(with_reducible first|exact HB.out|apply below_alloc|apply pw_below_drewN|apply below_drew1)|exact HB.out)⟩
     rw [if_neg c64] at H
     have c64b0 : decide (t456 < 0) = false:=decide_eq_false c64
     clear c64
     by_cases c69 : t456 = t453
     rotate_left
     ·rw [if_neg c69] at H
      have c69b0 : (t456 == t453) = false:=beq_eq_false_iff_ne.mpr c69
      have c69b1 : (t456 != t453) = true:=bne_iff_ne.mpr c69
      obtain rfl:=Option.some.inj H
      obtain ⟨Ao100,co100,eo100⟩:=Kd.R_slice HO_8.out
      subst eo100
      go_wp2_with (first|((with_reducible refine gate_callee (f:=22) rfl ?_);refine goesL_ (some 81) rfl rfl Try.func22 (by kernel_rfl) rfl #[.slice Ao100 t434.length co100,.int .i64 1] rfl (by (try simp only [List.map_toArray,List.map_cons,List.map_nil]);first|done|rfl|(simp only [List.length_drop,List.length_take];rfl)) ?_;(with_reducible refine (laws_markIntS.calls kj33 (fun k_ => some k_ = (.slice Ao100 t434.length co100 : Value).ownBlock) (.slice Ao100 t434.length co100) t434 1 t451 t452 w _ ?side1 ?side2 A55.out).mono ?_);(case side1 => repeat (first|(with_reducible first|exact HB.out|apply below_alloc|apply pw_below_drewN|apply below_drew1)|exact HB.out));(case side2 => exact Kd.R_tight rfl HO_8.out);rintro e w101 ⟨rfl,hy0,hb,hkp⟩;refine ⟨_,rfl,?_⟩;have n0_:=Aside0.mk (Kd.R_mono (ok':=fun k_ => some k_ ≠ (v429 : Value).ownBlock∧some k_ ≠ (.slice Ao100 t434.length co100 : Value).ownBlock∧some k_ ≠ (v439 : Value).ownBlock) (Kd.R_keptB (HO_4.out) hkp (fun k_ hk_ hs_ => (hk_.2.1) hs_)) (fun k_ hk_ => ⟨hk_.1.1,hk_.1.2.1,hk_.1.2.2⟩));have n1_:=Aside0.mk (Kd.R_mono (ok':=fun k_ => some k_ ≠ (v427 : Value).ownBlock∧some k_ ≠ (.slice Ao100 t434.length co100 : Value).ownBlock∧some k_ ≠ (v439 : Value).ownBlock) (Kd.R_keptB (HO_5.out) hkp (fun k_ hk_ hs_ => (hk_.2.1) hs_)) (fun k_ hk_ => ⟨hk_.1.1,hk_.1.2.1,hk_.1.2.2⟩));have n2_:=Aside0.mk (Kd.R_reok rfl hy0 (fun k_ e_ => HO_8.out.1 k_ e_));have n3_:=Aside0.mk (Kd.R_mono (ok':=fun k_ => some k_ ≠ (v427 : Value).ownBlock∧some k_ ≠ (v429 : Value).ownBlock∧some k_ ≠ (.slice Ao100 t434.length co100 : Value).ownBlock) (Kd.R_keptB (HO_9.out) hkp (fun k_ hk_ hs_ => (hk_.2.2) hs_)) (fun k_ hk_ => ⟨hk_.1.1,hk_.1.2.1,hk_.1.2.2⟩));have n4_:=Aside0.mk (hb);clear HO_4;clear HO_5;clear HO_8;clear HO_9;clear HB;have HO_4:=n0_;have HO_5:=n1_;have HO_8:=n2_;have HO_9:=n3_;have HB:=n4_;clear n0_ n1_ n2_ n3_ n4_;(try clear hb);(try clear hkp);(try clear hy0);obtain ⟨Ao102,co102,eo102⟩:=Kd.R_slice HO_9.out;subst eo102)|((with_reducible refine gate_callee (f:=22) rfl ?_);refine goesL_ (some 84) rfl rfl Try.func22 (by kernel_rfl) rfl #[.slice Ao102 t435.length co102,.int .i64 t451] rfl (by (try simp only [List.map_toArray,List.map_cons,List.map_nil]);first|done|rfl|(simp only [List.length_drop,List.length_take];rfl)) ?_;(with_reducible refine (laws_markIntS.calls kj33 (fun k_ => some k_ = (.slice Ao102 t435.length co102 : Value).ownBlock) (.slice Ao102 t435.length co102) t435 t451 t453 t454 w _ ?side1 ?side2 A56.out).mono ?_);(case side1 => repeat (first|(with_reducible first|exact HB.out|apply below_alloc|apply pw_below_drewN|apply below_drew1)|exact HB.out));(case side2 => exact Kd.R_tight rfl HO_9.out);rintro e w103 ⟨rfl,hy0,hb,hkp⟩;refine ⟨_,rfl,?_⟩;have n0_:=Aside0.mk (Kd.R_mono (ok':=fun k_ => some k_ ≠ (v429 : Value).ownBlock∧some k_ ≠ (.slice Ao100 t434.length co100 : Value).ownBlock∧some k_ ≠ (.slice Ao102 t435.length co102 : Value).ownBlock) (Kd.R_keptB (HO_4.out) hkp (fun k_ hk_ hs_ => (hk_.2.2) hs_)) (fun k_ hk_ => ⟨hk_.1.1,hk_.1.2.1,hk_.1.2.2⟩));have n1_:=Aside0.mk (Kd.R_mono (ok':=fun k_ => some k_ ≠ (v427 : Value).ownBlock∧some k_ ≠ (.slice Ao100 t434.length co100 : Value).ownBlock∧some k_ ≠ (.slice Ao102 t435.length co102 : Value).ownBlock) (Kd.R_keptB (HO_5.out) hkp (fun k_ hk_ hs_ => (hk_.2.2) hs_)) (fun k_ hk_ => ⟨hk_.1.1,hk_.1.2.1,hk_.1.2.2⟩));have n2_:=Aside0.mk (Kd.R_mono (ok':=fun k_ => some k_ ≠ (v427 : Value).ownBlock∧some k_ ≠ (v429 : Value).ownBlock∧some k_ ≠ (.slice Ao102 t435.length co102 : Value).ownBlock) (Kd.R_keptB (HO_8.out) hkp (fun k_ hk_ hs_ => (hk_.2.2) hs_)) (fun k_ hk_ => ⟨hk_.1.1,hk_.1.2.1,hk_.1.2.2⟩));have n3_:=Aside0.mk (Kd.R_reok rfl hy0 (fun k_ e_ => HO_9.out.1 k_ e_));have n4_:=Aside0.mk (hb);clear HO_4;clear HO_5;clear HO_8;clear HO_9;clear HB;have HO_4:=n0_;have HO_5:=n1_;have HO_8:=n2_;have HO_9:=n3_;have HB:=n4_;clear n0_ n1_ n2_ n3_ n4_;(try clear hb);(try clear hkp);(try clear hy0))|((with_reducible refine gate_callee (f:=23) rfl ?_);refine goesL_ (some 87) rfl rfl Try.func23 (by kernel_rfl) rfl #[.slice Ao100 t452.length co100,.int .i64 1] rfl (by (try simp only [List.map_toArray,List.map_cons,List.map_nil]);first|done|(rw [show t452.length = t434.length from (Kd.R_reads' HO_8.out).1.symm] <;> rfl)|rfl|(simp only [List.length_drop,List.length_take];rfl)) ?_;(with_reducible refine (laws_heldIntS.calls kj33 _ _ t452 1 t455 _ ?side1 ?side2 A57.out).mono ?_);(case side1 => repeat (first|exact (Kd.R_reads' HO_8.out).2.2|(with_reducible refine Kd.C_alloc ?_ _)|(with_reducible refine Kd.C_drewN ?_ _)|(with_reducible refine Kd.C_drew ?_)));(case side2 => rw [show t452.length = t434.length from (Kd.R_reads' HO_8.out).1.symm];exact (Kd.R_reads' HO_8.out).2.1);rintro e w' ⟨rfl,⟨nd,rfl⟩⟩;refine ⟨_,rfl,?_⟩)|((with_reducible refine gate_callee (f:=23) rfl ?_);refine goesL_ (some 92) rfl rfl Try.func23 (by kernel_rfl) rfl #[.slice Ao102 t454.length co102,.int .i64 t455] rfl (by (try simp only [List.map_toArray,List.map_cons,List.map_nil]);first|done|(rw [show t454.length = t435.length from (Kd.R_reads' HO_9.out).1.symm] <;> rfl)|rfl|(simp only [List.length_drop,List.length_take];rfl)) ?_;(with_reducible refine (laws_heldIntS.calls kj33 _ _ t454 t455 t456 _ ?side1 ?side2 A63.out).mono ?_);(case side1 => repeat (first|exact (Kd.R_reads' HO_9.out).2.2|(with_reducible refine Kd.C_alloc ?_ _)|(with_reducible refine Kd.C_drewN ?_ _)|(with_reducible refine Kd.C_drew ?_)));(case side2 => rw [show t454.length = t435.length from (Kd.R_reads' HO_9.out).1.symm];exact (Kd.R_reads' HO_9.out).2.1);rintro e w' ⟨rfl,⟨nd,rfl⟩⟩;refine ⟨_,rfl,?_⟩))
      go_ret
      exact ⟨by first|rfl|(simp [errW_none,errW_some] <;> rfl)|(simp [*,errW_none,errW_some] <;> rfl),by repeat (first|(with_reducible first|exact HB.out|apply below_alloc|apply pw_below_drewN|apply below_drew1)|exact HB.out)⟩
     rw [if_pos c69] at H
     have c69b0 : (t456 == t453) = true:=beq_iff_eq.mpr c69
     have c69b1 : (t456 != t453) = false:=bne_eq_false_iff_eq.mpr c69
     clear c69
     replace H:=Option.bind_eq_some_iff.mp H
     obtain ⟨t457,A700,H⟩:=H
     replace H : ((impl_TokenLengths.f kj33 t457).bind fun bt460 => ((laws_eqIntS.f kj33 bt460.1 t424).bind fun t467 => (if t467 = true then ((laws_eqIntS.f kj33 bt460.2.1 t425).bind fun t468 => (if t468 = true then (laws_FnExactTokenLengths.j2 kj33 t452 t454 t453 (bt460.2.2 != t426)) else (laws_FnExactTokenLengths.j2 kj33 t452 t454 t453 true))) else (laws_FnExactTokenLengths.j2 kj33 t452 t454 t453 true)))) = some r:=H
     have A70:=Aside0.mk A700
     clear A700
     replace H:=Option.bind_eq_some_iff.mp H
     obtain ⟨⟨t460,t461,t462⟩,A710,H⟩:=H
     replace H : ((laws_eqIntS.f kj33 t460 t424).bind fun t467 => (if t467 = true then ((laws_eqIntS.f kj33 t461 t425).bind fun t468 => (if t468 = true then (laws_FnExactTokenLengths.j2 kj33 t452 t454 t453 (t462 != t426)) else (laws_FnExactTokenLengths.j2 kj33 t452 t454 t453 true))) else (laws_FnExactTokenLengths.j2 kj33 t452 t454 t453 true))) = some r:=H
     have A71:=Aside0.mk A710
     clear A710
     have HC72:=Aside0.mk H
     clear H
     obtain ⟨Ao73,co73,eo73⟩:=Kd.R_slice HO_8.out
     subst eo73
     go_upto_region 29 with (first|((with_reducible refine gate_callee (f:=22) rfl ?_);refine goesL_ (some 81) rfl rfl Try.func22 (by kernel_rfl) rfl #[.slice Ao73 t434.length co73,.int .i64 1] rfl (by (try simp only [List.map_toArray,List.map_cons,List.map_nil]);first|done|rfl|(simp only [List.length_drop,List.length_take];rfl)) ?_;(with_reducible refine (laws_markIntS.calls kj33 (fun k_ => some k_ = (.slice Ao73 t434.length co73 : Value).ownBlock) (.slice Ao73 t434.length co73) t434 1 t451 t452 w _ ?side1 ?side2 A55.out).mono ?_);(case side1 => repeat (first|(with_reducible first|exact HB.out|apply below_alloc|apply pw_below_drewN|apply below_drew1)|exact HB.out));(case side2 => exact Kd.R_tight rfl HO_8.out);rintro e w74 ⟨rfl,hy0,hb,hkp⟩;refine ⟨_,rfl,?_⟩;have n0_:=Aside0.mk (Kd.R_mono (ok':=fun k_ => some k_ ≠ (v429 : Value).ownBlock∧some k_ ≠ (.slice Ao73 t434.length co73 : Value).ownBlock∧some k_ ≠ (v439 : Value).ownBlock) (Kd.R_keptB (HO_4.out) hkp (fun k_ hk_ hs_ => (hk_.2.1) hs_)) (fun k_ hk_ => ⟨hk_.1.1,hk_.1.2.1,hk_.1.2.2⟩));have n1_:=Aside0.mk (Kd.R_mono (ok':=fun k_ => some k_ ≠ (v427 : Value).ownBlock∧some k_ ≠ (.slice Ao73 t434.length co73 : Value).ownBlock∧some k_ ≠ (v439 : Value).ownBlock) (Kd.R_keptB (HO_5.out) hkp (fun k_ hk_ hs_ => (hk_.2.1) hs_)) (fun k_ hk_ => ⟨hk_.1.1,hk_.1.2.1,hk_.1.2.2⟩));have n2_:=Aside0.mk (Kd.R_reok rfl hy0 (fun k_ e_ => HO_8.out.1 k_ e_));have n3_:=Aside0.mk (Kd.R_mono (ok':=fun k_ => some k_ ≠ (v427 : Value).ownBlock∧some k_ ≠ (v429 : Value).ownBlock∧some k_ ≠ (.slice Ao73 t434.length co73 : Value).ownBlock) (Kd.R_keptB (HO_9.out) hkp (fun k_ hk_ hs_ => (hk_.2.2) hs_)) (fun k_ hk_ => ⟨hk_.1.1,hk_.1.2.1,hk_.1.2.2⟩));have n4_:=Aside0.mk (hb);clear HO_4;clear HO_5;clear HO_8;clear HO_9;clear HB;have HO_4:=n0_;have HO_5:=n1_;have HO_8:=n2_;have HO_9:=n3_;have HB:=n4_;clear n0_ n1_ n2_ n3_ n4_;(try clear hb);(try clear hkp);(try clear hy0);obtain ⟨Ao75,co75,eo75⟩:=Kd.R_slice HO_9.out;subst eo75)|((with_reducible refine gate_callee (f:=22) rfl ?_);refine goesL_ (some 84) rfl rfl Try.func22 (by kernel_rfl) rfl #[.slice Ao75 t435.length co75,.int .i64 t451] rfl (by (try simp only [List.map_toArray,List.map_cons,List.map_nil]);first|done|rfl|(simp only [List.length_drop,List.length_take];rfl)) ?_;(with_reducible refine (laws_markIntS.calls kj33 (fun k_ => some k_ = (.slice Ao75 t435.length co75 : Value).ownBlock) (.slice Ao75 t435.length co75) t435 t451 t453 t454 w _ ?side1 ?side2 A56.out).mono ?_);(case side1 => repeat (first|(with_reducible first|exact HB.out|apply below_alloc|apply pw_below_drewN|apply below_drew1)|exact HB.out));(case side2 => exact Kd.R_tight rfl HO_9.out);rintro e w76 ⟨rfl,hy0,hb,hkp⟩;refine ⟨_,rfl,?_⟩;have n0_:=Aside0.mk (Kd.R_mono (ok':=fun k_ => some k_ ≠ (v429 : Value).ownBlock∧some k_ ≠ (.slice Ao73 t434.length co73 : Value).ownBlock∧some k_ ≠ (.slice Ao75 t435.length co75 : Value).ownBlock) (Kd.R_keptB (HO_4.out) hkp (fun k_ hk_ hs_ => (hk_.2.2) hs_)) (fun k_ hk_ => ⟨hk_.1.1,hk_.1.2.1,hk_.1.2.2⟩));have n1_:=Aside0.mk (Kd.R_mono (ok':=fun k_ => some k_ ≠ (v427 : Value).ownBlock∧some k_ ≠ (.slice Ao73 t434.length co73 : Value).ownBlock∧some k_ ≠ (.slice Ao75 t435.length co75 : Value).ownBlock) (Kd.R_keptB (HO_5.out) hkp (fun k_ hk_ hs_ => (hk_.2.2) hs_)) (fun k_ hk_ => ⟨hk_.1.1,hk_.1.2.1,hk_.1.2.2⟩));have n2_:=Aside0.mk (Kd.R_mono (ok':=fun k_ => some k_ ≠ (v427 : Value).ownBlock∧some k_ ≠ (v429 : Value).ownBlock∧some k_ ≠ (.slice Ao75 t435.length co75 : Value).ownBlock) (Kd.R_keptB (HO_8.out) hkp (fun k_ hk_ hs_ => (hk_.2.2) hs_)) (fun k_ hk_ => ⟨hk_.1.1,hk_.1.2.1,hk_.1.2.2⟩));have n3_:=Aside0.mk (Kd.R_reok rfl hy0 (fun k_ e_ => HO_9.out.1 k_ e_));have n4_:=Aside0.mk (hb);clear HO_4;clear HO_5;clear HO_8;clear HO_9;clear HB;have HO_4:=n0_;have HO_5:=n1_;have HO_8:=n2_;have HO_9:=n3_;have HB:=n4_;clear n0_ n1_ n2_ n3_ n4_;(try clear hb);(try clear hkp);(try clear hy0))|((with_reducible refine gate_callee (f:=23) rfl ?_);refine goesL_ (some 87) rfl rfl Try.func23 (by kernel_rfl) rfl #[.slice Ao73 t452.length co73,.int .i64 1] rfl (by (try simp only [List.map_toArray,List.map_cons,List.map_nil]);first|done|(rw [show t452.length = t434.length from (Kd.R_reads' HO_8.out).1.symm] <;> rfl)|rfl|(simp only [List.length_drop,List.length_take];rfl)) ?_;(with_reducible refine (laws_heldIntS.calls kj33 _ _ t452 1 t455 _ ?side1 ?side2 A57.out).mono ?_);(case side1 => repeat (first|exact (Kd.R_reads' HO_8.out).2.2|(with_reducible refine Kd.C_alloc ?_ _)|(with_reducible refine Kd.C_drewN ?_ _)|(with_reducible refine Kd.C_drew ?_)));(case side2 => rw [show t452.length = t434.length from (Kd.R_reads' HO_8.out).1.symm];exact (Kd.R_reads' HO_8.out).2.1);rintro e w' ⟨rfl,⟨nd,rfl⟩⟩;refine ⟨_,rfl,?_⟩)|((with_reducible refine gate_callee (f:=23) rfl ?_);refine goesL_ (some 92) rfl rfl Try.func23 (by kernel_rfl) rfl #[.slice Ao75 t454.length co75,.int .i64 t455] rfl (by (try simp only [List.map_toArray,List.map_cons,List.map_nil]);first|done|(rw [show t454.length = t435.length from (Kd.R_reads' HO_9.out).1.symm] <;> rfl)|rfl|(simp only [List.length_drop,List.length_take];rfl)) ?_;(with_reducible refine (laws_heldIntS.calls kj33 _ _ t454 t455 t456 _ ?side1 ?side2 A63.out).mono ?_);(case side1 => repeat (first|exact (Kd.R_reads' HO_9.out).2.2|(with_reducible refine Kd.C_alloc ?_ _)|(with_reducible refine Kd.C_drewN ?_ _)|(with_reducible refine Kd.C_drew ?_)));(case side2 => rw [show t454.length = t435.length from (Kd.R_reads' HO_9.out).1.symm];exact (Kd.R_reads' HO_9.out).2.1);rintro e w' ⟨rfl,⟨nd,rfl⟩⟩;refine ⟨_,rfl,?_⟩)|((with_reducible refine gate_callee (f:=43) rfl ?_);refine goesL_ (some 100) rfl rfl Try.func43 (by kernel_rfl) rfl #[.slice A0 l0.length c0] rfl (by (try simp only [List.map_toArray,List.map_cons,List.map_nil]);first|done|rfl|(simp only [List.length_drop,List.length_take];rfl)) ?_;(with_reducible refine (laws_toTokenS.calls kj33 _ _ l0 t457 _ ?side1 ?side2 A70.out).mono ?_);(case side1 => repeat (first|exact (Kd.C_below HR0.out (by repeat (first|(with_reducible first|exact HB.out|apply below_alloc|apply pw_below_drewN|apply below_drew1)|exact HB.out)))|(with_reducible refine Kd.C_alloc ?_ _)|(with_reducible refine Kd.C_drewN ?_ _)|(with_reducible refine Kd.C_drew ?_)));(case side2 => exact HC0.out);rintro e w77 ⟨v458,rfl,ho0,hb⟩;refine ⟨_,rfl,?_⟩;have n0_:=Aside0.mk (Kd.R_below (by (with_reducible repeat (first|apply Kd.R_alloc|apply Kd.R_drewN|apply Kd.R_drew));exact HO_4.out) hb);have n1_:=Aside0.mk (Kd.R_below (by (with_reducible repeat (first|apply Kd.R_alloc|apply Kd.R_drewN|apply Kd.R_drew));exact HO_5.out) hb);have n2_:=Aside0.mk (Kd.R_below (by (with_reducible repeat (first|apply Kd.R_alloc|apply Kd.R_drewN|apply Kd.R_drew));exact HO_8.out) hb);have n3_:=Aside0.mk (Kd.R_below (by (with_reducible repeat (first|apply Kd.R_alloc|apply Kd.R_drewN|apply Kd.R_drew));exact HO_9.out) hb);have n4_:=Aside0.mk (Kd.R_lower ho0 (below_size (by repeat (first|(with_reducible first|exact HB.out|apply below_alloc|apply pw_below_drewN|apply below_drew1)|exact HB.out))));have n5_:=Aside0.mk (below_step (by repeat (first|(with_reducible first|exact HB.out|apply below_alloc|apply pw_below_drewN|apply below_drew1)|exact HB.out)) hb);clear HO_4;clear HO_5;clear HO_8;clear HO_9;clear HB;have HO_4:=n0_;have HO_5:=n1_;have HO_8:=n2_;have HO_9:=n3_;have HO459:=n4_;have HB:=n5_;clear n0_ n1_ n2_ n3_ n4_ n5_;(try clear hb);(try clear hb2);(try clear hk);(try clear hi);(try clear ho0);obtain ⟨Ao78,co78,eo78⟩:=Kd.R_slice HO459.out;subst eo78)|((with_reducible refine gate_callee (f:=44) rfl ?_);refine goesL_ (some 101) rfl rfl Try.func44 (by kernel_rfl) rfl #[.slice Ao78 t457.length co78] rfl (by (try simp only [List.map_toArray,List.map_cons,List.map_nil]);first|done|rfl|(simp only [List.length_drop,List.length_take];rfl)) ?_;(with_reducible refine (impl_TokenLengths.calls kj33 _ _ t457 t460 t461 t462 _ ?side1 ?side2 A71.out).mono ?_);(case side1 => repeat (first|exact (Kd.R_reads' HO459.out).2.2|(with_reducible refine Kd.C_alloc ?_ _)|(with_reducible refine Kd.C_drewN ?_ _)|(with_reducible refine Kd.C_drew ?_)));(case side2 => exact (Kd.R_reads' HO459.out).2.1);rintro e w79 ⟨v463,v465,rfl,ho0,ho1,hb⟩;refine ⟨_,rfl,?_⟩;have n0_:=Aside0.mk (Kd.R_mono (Kd.R_told (Kd.R_told (Kd.R_old (by (with_reducible repeat (first|apply Kd.R_alloc|apply Kd.R_drewN|apply Kd.R_drew));exact HO_4.out) hb) (Kd.R_base ho0)) (Kd.R_base ho1)) (fun _ h_ => h_.1));have n1_:=Aside0.mk (Kd.R_mono (Kd.R_told (Kd.R_told (Kd.R_old (by (with_reducible repeat (first|apply Kd.R_alloc|apply Kd.R_drewN|apply Kd.R_drew));exact HO_5.out) hb) (Kd.R_base ho0)) (Kd.R_base ho1)) (fun _ h_ => h_.1));have n2_:=Aside0.mk (Kd.R_mono (Kd.R_told (Kd.R_told (Kd.R_old (by (with_reducible repeat (first|apply Kd.R_alloc|apply Kd.R_drewN|apply Kd.R_drew));exact HO_8.out) hb) (Kd.R_base ho0)) (Kd.R_base ho1)) (fun _ h_ => h_.1));have n3_:=Aside0.mk (Kd.R_mono (Kd.R_told (Kd.R_told (Kd.R_old (by (with_reducible repeat (first|apply Kd.R_alloc|apply Kd.R_drewN|apply Kd.R_drew));exact HO_9.out) hb) (Kd.R_base ho0)) (Kd.R_base ho1)) (fun _ h_ => h_.1));have n4_:=Aside0.mk (Kd.R_below (by (with_reducible repeat (first|apply Kd.R_alloc|apply Kd.R_drewN|apply Kd.R_drew));exact HO459.out) hb);have n5_:=Aside0.mk (Kd.R_lower (Kd.R_new' (Kd.R_new' (Kd.R_new' (Kd.R_new' ho0 (Kd.R_lt (by (with_reducible repeat (first|apply Kd.R_alloc|apply Kd.R_drewN|apply Kd.R_drew));exact HO_4.out))) (Kd.R_lt (by (with_reducible repeat (first|apply Kd.R_alloc|apply Kd.R_drewN|apply Kd.R_drew));exact HO_5.out))) (Kd.R_lt (by (with_reducible repeat (first|apply Kd.R_alloc|apply Kd.R_drewN|apply Kd.R_drew));exact HO_8.out))) (Kd.R_lt (by (with_reducible repeat (first|apply Kd.R_alloc|apply Kd.R_drewN|apply Kd.R_drew));exact HO_9.out))) (below_size (by repeat (first|(with_reducible first|exact HB.out|apply below_alloc|apply pw_below_drewN|apply below_drew1)|exact HB.out))));have n6_:=Aside0.mk (Kd.R_lower (Kd.R_new' (Kd.R_new' (Kd.R_new' (Kd.R_new' ho1 (Kd.R_lt (by (with_reducible repeat (first|apply Kd.R_alloc|apply Kd.R_drewN|apply Kd.R_drew));exact HO_4.out))) (Kd.R_lt (by (with_reducible repeat (first|apply Kd.R_alloc|apply Kd.R_drewN|apply Kd.R_drew));exact HO_5.out))) (Kd.R_lt (by (with_reducible repeat (first|apply Kd.R_alloc|apply Kd.R_drewN|apply Kd.R_drew));exact HO_8.out))) (Kd.R_lt (by (with_reducible repeat (first|apply Kd.R_alloc|apply Kd.R_drewN|apply Kd.R_drew));exact HO_9.out))) (below_size (by repeat (first|(with_reducible first|exact HB.out|apply below_alloc|apply pw_below_drewN|apply below_drew1)|exact HB.out))));have n7_:=Aside0.mk (below_step (by repeat (first|(with_reducible first|exact HB.out|apply below_alloc|apply pw_below_drewN|apply below_drew1)|exact HB.out)) hb);clear HO_4;clear HO_5;clear HO_8;clear HO_9;clear HO459;clear HB;have HO_4:=n0_;have HO_5:=n1_;have HO_8:=n2_;have HO_9:=n3_;have HO459:=n4_;have HO464:=n5_;have HO466:=n6_;have HB:=n7_;clear n0_ n1_ n2_ n3_ n4_ n5_ n6_ n7_;(try clear hb);(try clear hb2);(try clear hk);(try clear hi);(try clear ho0);(try clear ho1)))
     (try simp only [Act.put,List.setIfInBounds_toArray,List.set_cons_zero,List.set_cons_succ])
     go_cut [119] (fun v119 wc => ∃ (kq : Nat) (x119_71 : Bool),v119 = .bool x119_71∧Aside0 (laws_FnExactTokenLengths.j2 kq t452 t454 t453 x119_71 = some r)∧Aside0 (kq ≤ kj33)∧Aside0 (Kd.R (Kd.int .i64) 3 wc w.heap.size (fun k_ => some k_ ≠ ((.slice Ao75 t435.length co75) : Value).ownBlock) (.slice Ao73 t434.length co73) t452)∧Aside0 (Kd.R (Kd.int .i64) 3 wc w.heap.size (fun k_ => some k_ ≠ ((.slice Ao73 t434.length co73) : Value).ownBlock) (.slice Ao75 t435.length co75) t454)∧Aside0 (Below w.heap.size w wc))
     case first =>
      have H:=HC72.out
      clear HC72
      replace H:=Option.bind_eq_some_iff.mp H
      obtain ⟨t467,A800,H⟩:=H
      replace H : (if t467 = true then ((laws_eqIntS.f kj33 t461 t425).bind fun t468 => (if t468 = true then (laws_FnExactTokenLengths.j2 kj33 t452 t454 t453 (t462 != t426)) else (laws_FnExactTokenLengths.j2 kj33 t452 t454 t453 true))) else (laws_FnExactTokenLengths.j2 kj33 t452 t454 t453 true)) = some r:=H
      have A80:=Aside0.mk A800
      clear A800
      by_cases c81 : t467 = true
      rotate_left
      ·replace c81:=Bool.eq_false_iff.mpr c81
       subst c81
       have H1 : (laws_FnExactTokenLengths.j2 kj33 t452 t454 t453 true) = some r:=by rw [if_neg (show ¬ (false = true) by decide)] at H;exact H
       clear H
       have H:=H1
       clear H1
       have H':=Aside0.mk H
       clear H
       obtain ⟨Ao92,co92,eo92⟩:=Kd.R_slice HO464.out
       subst eo92
       obtain ⟨Ao93,co93,eo93⟩:=Kd.R_slice HO_4.out
       subst eo93
       go_wp2_with (first|((with_reducible refine gate_callee (f:=17) rfl ?_);refine goesL_ (some 107) rfl rfl Try.func17 (by kernel_rfl) rfl #[.slice Ao92 t460.length co92,.slice Ao93 t424.length co93] rfl (by (try simp only [List.map_toArray,List.map_cons,List.map_nil]);first|done|rfl|(simp only [List.length_drop,List.length_take];rfl)) ?_;(with_reducible refine (laws_eqIntS.calls kj33 _ _ t460 _ _ t424 false _ ?side1 ?side2 ?side3 ?side4 A80.out).mono ?_);(case side1 => repeat (first|exact (Kd.R_reads' HO464.out).2.2|(with_reducible refine Kd.C_alloc ?_ _)|(with_reducible refine Kd.C_drewN ?_ _)|(with_reducible refine Kd.C_drew ?_)));(case side2 => exact (Kd.R_reads' HO464.out).2.1);(case side3 => repeat (first|exact (Kd.R_reads' HO_4.out).2.2|(with_reducible refine Kd.C_alloc ?_ _)|(with_reducible refine Kd.C_drewN ?_ _)|(with_reducible refine Kd.C_drew ?_)));(case side4 => exact (Kd.R_reads' HO_4.out).2.1);rintro e w' ⟨rfl,⟨nd,rfl⟩⟩;refine ⟨_,rfl,?_⟩))
       go_meet
       case rel => exact ⟨_,(true),(by first|rfl|(simp;done)|(simp [*];done)),H',⟨by have:=HJ7.out;have:=HJ33.out;first|omega|exact Nat.le_refl _⟩,⟨by (with_reducible repeat (first|apply Kd.R_alloc|apply Kd.R_drewN|apply Kd.R_drew));exact Kd.R_mono HO_8.out (fun _ hk => hk.1.1.2.2)⟩,⟨by (with_reducible repeat (first|apply Kd.R_alloc|apply Kd.R_drewN|apply Kd.R_drew));exact Kd.R_mono HO_9.out (fun _ hk => hk.1.1.2.2)⟩,⟨by repeat (first|(with_reducible first|exact HB.out|apply below_alloc|apply pw_below_drewN|apply below_drew1)|exact HB.out)⟩⟩
      subst c81
      have H1 : ((laws_eqIntS.f kj33 t461 t425).bind fun t468 => (if t468 = true then (laws_FnExactTokenLengths.j2 kj33 t452 t454 t453 (t462 != t426)) else (laws_FnExactTokenLengths.j2 kj33 t452 t454 t453 true))) = some r:=by rw [if_pos rfl] at H;exact H
      clear H
      have H:=H1
      clear H1
      replace H:=Option.bind_eq_some_iff.mp H
      obtain ⟨t468,A820,H⟩:=H
      replace H : (if t468 = true then (laws_FnExactTokenLengths.j2 kj33 t452 t454 t453 (t462 != t426)) else (laws_FnExactTokenLengths.j2 kj33 t452 t454 t453 true)) = some r:=H
      have A82:=Aside0.mk A820
      clear A820
      by_cases c83 : t468 = true
      ·subst c83
       have H1 : (laws_FnExactTokenLengths.j2 kj33 t452 t454 t453 (t462 != t426)) = some r:=by rw [if_pos rfl] at H;exact H
       clear H
       have H:=H1
       clear H1
       have H':=Aside0.mk H
       clear H
       obtain ⟨Ao84,co84,eo84⟩:=Kd.R_slice HO464.out
       subst eo84
       obtain ⟨Ao85,co85,eo85⟩:=Kd.R_slice HO_4.out
       subst eo85
       go_wp2_with (first|((with_reducible refine gate_callee (f:=17) rfl ?_);refine goesL_ (some 107) rfl rfl Try.func17 (by kernel_rfl) rfl #[.slice Ao84 t460.length co84,.slice Ao85 t424.length co85] rfl (by (try simp only [List.map_toArray,List.map_cons,List.map_nil]);first|done|rfl|(simp only [List.length_drop,List.length_take];rfl)) ?_;(with_reducible refine (laws_eqIntS.calls kj33 _ _ t460 _ _ t424 true _ ?side1 ?side2 ?side3 ?side4 A80.out).mono ?_);(case side1 => repeat (first|exact (Kd.R_reads' HO464.out).2.2|(with_reducible refine Kd.C_alloc ?_ _)|(with_reducible refine Kd.C_drewN ?_ _)|(with_reducible refine Kd.C_drew ?_)));(case side2 => exact (Kd.R_reads' HO464.out).2.1);(case side3 => repeat (first|exact (Kd.R_reads' HO_4.out).2.2|(with_reducible refine Kd.C_alloc ?_ _)|(with_reducible refine Kd.C_drewN ?_ _)|(with_reducible refine Kd.C_drew ?_)));(case side4 => exact (Kd.R_reads' HO_4.out).2.1);rintro e w' ⟨rfl,⟨nd,rfl⟩⟩;refine ⟨_,rfl,?_⟩;obtain ⟨Ao86,co86,eo86⟩:=Kd.R_slice HO466.out;subst eo86;obtain ⟨Ao87,co87,eo87⟩:=Kd.R_slice HO_5.out;subst eo87)|(go_at_call 17;(with_reducible refine (laws_eqIntS.calls kj33 _ _ t461 _ _ t425 true _ ?side1 ?side2 ?side3 ?side4 A82.out).mono ?_);(case side1 => repeat (first|exact (Kd.R_reads' HO466.out).2.2|(with_reducible refine Kd.C_alloc ?_ _)|(with_reducible refine Kd.C_drewN ?_ _)|(with_reducible refine Kd.C_drew ?_)));(case side2 => exact (Kd.R_reads' HO466.out).2.1);(case side3 => repeat (first|exact (Kd.R_reads' HO_5.out).2.2|(with_reducible refine Kd.C_alloc ?_ _)|(with_reducible refine Kd.C_drewN ?_ _)|(with_reducible refine Kd.C_drew ?_)));(case side4 => exact (Kd.R_reads' HO_5.out).2.1);rintro e w' ⟨rfl,⟨nd,rfl⟩⟩))
       go_meet
       case rel => exact ⟨_,((t462 != t426)),(by first|rfl|(simp;done)|(simp [*];done)),H',⟨by have:=HJ7.out;have:=HJ33.out;first|omega|exact Nat.le_refl _⟩,⟨by (with_reducible repeat (first|apply Kd.R_alloc|apply Kd.R_drewN|apply Kd.R_drew));exact Kd.R_mono HO_8.out (fun _ hk => hk.1.1.2.2)⟩,⟨by (with_reducible repeat (first|apply Kd.R_alloc|apply Kd.R_drewN|apply Kd.R_drew));exact Kd.R_mono HO_9.out (fun _ hk => hk.1.1.2.2)⟩,⟨by repeat (first|(with_reducible first|exact HB.out|apply below_alloc|apply pw_below_drewN|apply below_drew1)|exact HB.out)⟩⟩
      replace c83:=Bool.eq_false_iff.mpr c83
      subst c83
      have H1 : (laws_FnExactTokenLengths.j2 kj33 t452 t454 t453 true) = some r:=by rw [if_neg (show ¬ (false = true) by decide)] at H;exact H
      clear H
      have H:=H1
      clear H1
      have H':=Aside0.mk H
      clear H
      obtain ⟨Ao88,co88,eo88⟩:=Kd.R_slice HO464.out
      subst eo88
      obtain ⟨Ao89,co89,eo89⟩:=Kd.R_slice HO_4.out
      subst eo89
      go_wp2_with (first|((with_reducible refine gate_callee (f:=17) rfl ?_);refine goesL_ (some 107) rfl rfl Try.func17 (by kernel_rfl) rfl #[.slice Ao88 t460.length co88,.slice Ao89 t424.length co89] rfl (by (try simp only [List.map_toArray,List.map_cons,List.map_nil]);first|done|rfl|(simp only [List.length_drop,List.length_take];rfl)) ?_;(with_reducible refine (laws_eqIntS.calls kj33 _ _ t460 _ _ t424 true _ ?side1 ?side2 ?side3 ?side4 A80.out).mono ?_);(case side1 => repeat (first|exact (Kd.R_reads' HO464.out).2.2|(with_reducible refine Kd.C_alloc ?_ _)|(with_reducible refine Kd.C_drewN ?_ _)|(with_reducible refine Kd.C_drew ?_)));(case side2 => exact (Kd.R_reads' HO464.out).2.1);(case side3 => repeat (first|exact (Kd.R_reads' HO_4.out).2.2|(with_reducible refine Kd.C_alloc ?_ _)|(with_reducible refine Kd.C_drewN ?_ _)|(with_reducible refine Kd.C_drew ?_)));(case side4 => exact (Kd.R_reads' HO_4.out).2.1);rintro e w' ⟨rfl,⟨nd,rfl⟩⟩;refine ⟨_,rfl,?_⟩;obtain ⟨Ao90,co90,eo90⟩:=Kd.R_slice HO466.out;subst eo90;obtain ⟨Ao91,co91,eo91⟩:=Kd.R_slice HO_5.out;subst eo91)|(go_at_call 17;(with_reducible refine (laws_eqIntS.calls kj33 _ _ t461 _ _ t425 false _ ?side1 ?side2 ?side3 ?side4 A82.out).mono ?_);(case side1 => repeat (first|exact (Kd.R_reads' HO466.out).2.2|(with_reducible refine Kd.C_alloc ?_ _)|(with_reducible refine Kd.C_drewN ?_ _)|(with_reducible refine Kd.C_drew ?_)));(case side2 => exact (Kd.R_reads' HO466.out).2.1);(case side3 => repeat (first|exact (Kd.R_reads' HO_5.out).2.2|(with_reducible refine Kd.C_alloc ?_ _)|(with_reducible refine Kd.C_drewN ?_ _)|(with_reducible refine Kd.C_drew ?_)));(case side4 => exact (Kd.R_reads' HO_5.out).2.1);rintro e w' ⟨rfl,⟨nd,rfl⟩⟩))
      go_meet
      case rel => exact ⟨_,(true),(by first|rfl|(simp;done)|(simp [*];done)),H',⟨by have:=HJ7.out;have:=HJ33.out;first|omega|exact Nat.le_refl _⟩,⟨by (with_reducible repeat (first|apply Kd.R_alloc|apply Kd.R_drewN|apply Kd.R_drew));exact Kd.R_mono HO_8.out (fun _ hk => hk.1.1.2.2)⟩,⟨by (with_reducible repeat (first|apply Kd.R_alloc|apply Kd.R_drewN|apply Kd.R_drew));exact Kd.R_mono HO_9.out (fun _ hk => hk.1.1.2.2)⟩,⟨by repeat (first|(with_reducible first|exact HB.out|apply below_alloc|apply pw_below_drewN|apply below_drew1)|exact HB.out)⟩⟩
     case rest =>
      clear HC72
      obtain ⟨kq,x119_71,rfl,HA,HJ71,HO_8,HO_9,HB⟩:=hcut
      have hl8_71:=(Kd.R_reads' HO_8.out).1
      rw [hl8_71] at HO_8
      (try simp only [hl8_71])
      (try simp only [hl8_71] at HO_9)
      have hl9_71:=(Kd.R_reads' HO_9.out).1
      rw [hl9_71] at HO_9
      (try simp only [hl9_71])
      (try simp only [hl9_71] at HO_8)
      cases kq with
      | zero => exact absurd HA.out (by simp [laws_FnExactTokenLengths.j2])
      | succ kj71 =>
       have H:=HA.out
       clear HA
       simp only [laws_FnExactTokenLengths.j2] at H
       by_cases c94 : x119_71 = true
       ·subst c94
        have H1 : (some false) = some r:=by rw [if_pos rfl] at H;exact H
        clear H
        have H:=H1
        clear H1
        obtain rfl:=Option.some.inj H
        go_wp2
        go_ret
        exact ⟨by first|rfl|(simp [errW_none,errW_some] <;> rfl)|(simp [*,errW_none,errW_some] <;> rfl),by repeat (first|(with_reducible first|exact HB.out|apply below_alloc|apply pw_below_drewN|apply below_drew1)|exact HB.out)⟩
       replace c94:=Bool.eq_false_iff.mpr c94
       subst c94
       have H1 : ((laws_heldIntS.f kj71 t452 1).bind fun t469 => (if t469 < 0 then (some false) else ((laws_heldIntS.f kj71 t454 t469).bind fun t470 => (if t470 < 0 then (some false) else (if t470 = t453 then (some true) else (some false)))))) = some r:=by rw [if_neg (show ¬ (false = true) by decide)] at H;exact H
       clear H
       have H:=H1
       clear H1
       replace H:=Option.bind_eq_some_iff.mp H
       obtain ⟨t469,A950,H⟩:=H
       replace H : (if t469 < 0 then (some false) else ((laws_heldIntS.f kj71 t454 t469).bind fun t470 => (if t470 < 0 then (some false) else (if t470 = t453 then (some true) else (some false))))) = some r:=H
       have A95:=Aside0.mk A950
       clear A950
       by_cases c96 : t469 < 0
       ·rw [if_pos c96] at H
        have c96b0 : decide (t469 < 0) = true:=decide_eq_true c96
        clear c96
        obtain rfl:=Option.some.inj H
        go_wp2_with (first|((with_reducible refine gate_callee (f:=23) rfl ?_);refine goesL_ (some 122) rfl rfl Try.func23 (by kernel_rfl) rfl #[.slice Ao73 t452.length co73,.int .i64 1] rfl (by (try simp only [List.map_toArray,List.map_cons,List.map_nil]);first|done|rfl|(simp only [List.length_drop,List.length_take];rfl)) ?_;(with_reducible refine (laws_heldIntS.calls kj71 _ _ t452 1 t469 _ ?side1 ?side2 A95.out).mono ?_);(case side1 => repeat (first|exact (Kd.R_reads' HO_8.out).2.2|(with_reducible refine Kd.C_alloc ?_ _)|(with_reducible refine Kd.C_drewN ?_ _)|(with_reducible refine Kd.C_drew ?_)));(case side2 => exact (Kd.R_reads' HO_8.out).2.1);rintro e w' ⟨rfl,⟨nd,rfl⟩⟩;refine ⟨_,rfl,?_⟩))
        go_ret
        exact ⟨by first|rfl|(simp [errW_none,errW_some] <;> rfl)|(simp [*,errW_none,errW_some] <;> rfl),by repeat (first|(with_reducible first|exact HB.out|apply below_alloc|apply pw_below_drewN|apply below_drew1)|exact HB.out)⟩
       rw [if_neg c96] at H
       have c96b0 : decide (t469 < 0) = false:=decide_eq_false c96
       clear c96
       replace H:=Option.bind_eq_some_iff.mp H
       obtain ⟨t470,A970,H⟩:=H
       replace H : (if t470 < 0 then (some false) else (if t470 = t453 then (some true) else (some false))) = some r:=H
       have A97:=Aside0.mk A970
       clear A970
       by_cases c98 : t470 < 0
       ·rw [if_pos c98] at H
        have c98b0 : decide (t470 < 0) = true:=decide_eq_true c98
        clear c98
        obtain rfl:=Option.some.inj H
        go_wp2_with (first|((with_reducible refine gate_callee (f:=23) rfl ?_);refine goesL_ (some 122) rfl rfl Try.func23 (by kernel_rfl) rfl #[.slice Ao73 t452.length co73,.int .i64 1] rfl (by (try simp only [List.map_toArray,List.map_cons,List.map_nil]);first|done|rfl|(simp only [List.length_drop,List.length_take];rfl)) ?_;(with_reducible refine (laws_heldIntS.calls kj71 _ _ t452 1 t469 _ ?side1 ?side2 A95.out).mono ?_);(case side1 => repeat (first|exact (Kd.R_reads' HO_8.out).2.2|(with_reducible refine Kd.C_alloc ?_ _)|(with_reducible refine Kd.C_drewN ?_ _)|(with_reducible refine Kd.C_drew ?_)));(case side2 => exact (Kd.R_reads' HO_8.out).2.1);rintro e w' ⟨rfl,⟨nd,rfl⟩⟩;refine ⟨_,rfl,?_⟩)|((with_reducible refine gate_callee (f:=23) rfl ?_);refine goesL_ (some 127) rfl rfl Try.func23 (by kernel_rfl) rfl #[.slice Ao75 t454.length co75,.int .i64 t469] rfl (by (try simp only [List.map_toArray,List.map_cons,List.map_nil]);first|done|rfl|(simp only [List.length_drop,List.length_take];rfl)) ?_;(with_reducible refine (laws_heldIntS.calls kj71 _ _ t454 t469 t470 _ ?side1 ?side2 A97.out).mono ?_);(case side1 => repeat (first|exact (Kd.R_reads' HO_9.out).2.2|(with_reducible refine Kd.C_alloc ?_ _)|(with_reducible refine Kd.C_drewN ?_ _)|(with_reducible refine Kd.C_drew ?_)));(case side2 => exact (Kd.R_reads' HO_9.out).2.1);rintro e w' ⟨rfl,⟨nd,rfl⟩⟩;refine ⟨_,rfl,?_⟩))
        go_ret
        exact ⟨by first|rfl|(simp [errW_none,errW_some] <;> rfl)|(simp [*,errW_none,errW_some] <;> rfl),by repeat (first|(with_reducible first|exact HB.out|apply below_alloc|apply pw_below_drewN|apply below_drew1)|exact HB.out)⟩
       rw [if_neg c98] at H
       have c98b0 : decide (t470 < 0) = false:=decide_eq_false c98
       clear c98
       by_cases c99 : t470 = t453
       rotate_left
       ·rw [if_neg c99] at H
        have c99b0 : (t470 == t453) = false:=beq_eq_false_iff_ne.mpr c99
        have c99b1 : (t470 != t453) = true:=bne_iff_ne.mpr c99
        obtain rfl:=Option.some.inj H
        go_wp2_with (first|((with_reducible refine gate_callee (f:=23) rfl ?_);refine goesL_ (some 122) rfl rfl Try.func23 (by kernel_rfl) rfl #[.slice Ao73 t452.length co73,.int .i64 1] rfl (by (try simp only [List.map_toArray,List.map_cons,List.map_nil]);first|done|rfl|(simp only [List.length_drop,List.length_take];rfl)) ?_;(with_reducible refine (laws_heldIntS.calls kj71 _ _ t452 1 t469 _ ?side1 ?side2 A95.out).mono ?_);(case side1 => repeat (first|exact (Kd.R_reads' HO_8.out).2.2|(with_reducible refine Kd.C_alloc ?_ _)|(with_reducible refine Kd.C_drewN ?_ _)|(with_reducible refine Kd.C_drew ?_)));(case side2 => exact (Kd.R_reads' HO_8.out).2.1);rintro e w' ⟨rfl,⟨nd,rfl⟩⟩;refine ⟨_,rfl,?_⟩)|((with_reducible refine gate_callee (f:=23) rfl ?_);refine goesL_ (some 127) rfl rfl Try.func23 (by kernel_rfl) rfl #[.slice Ao75 t454.length co75,.int .i64 t469] rfl (by (try simp only [List.map_toArray,List.map_cons,List.map_nil]);first|done|rfl|(simp only [List.length_drop,List.length_take];rfl)) ?_;(with_reducible refine (laws_heldIntS.calls kj71 _ _ t454 t469 t470 _ ?side1 ?side2 A97.out).mono ?_);(case side1 => repeat (first|exact (Kd.R_reads' HO_9.out).2.2|(with_reducible refine Kd.C_alloc ?_ _)|(with_reducible refine Kd.C_drewN ?_ _)|(with_reducible refine Kd.C_drew ?_)));(case side2 => exact (Kd.R_reads' HO_9.out).2.1);rintro e w' ⟨rfl,⟨nd,rfl⟩⟩;refine ⟨_,rfl,?_⟩))
        go_ret
        exact ⟨by first|rfl|(simp [errW_none,errW_some] <;> rfl)|(simp [*,errW_none,errW_some] <;> rfl),by repeat (first|(with_reducible first|exact HB.out|apply below_alloc|apply pw_below_drewN|apply below_drew1)|exact HB.out)⟩
       rw [if_pos c99] at H
       have c99b0 : (t470 == t453) = true:=beq_iff_eq.mpr c99
       have c99b1 : (t470 != t453) = false:=bne_eq_false_iff_eq.mpr c99
       clear c99
       obtain rfl:=Option.some.inj H
       go_wp2_with (first|((with_reducible refine gate_callee (f:=23) rfl ?_);refine goesL_ (some 122) rfl rfl Try.func23 (by kernel_rfl) rfl #[.slice Ao73 t452.length co73,.int .i64 1] rfl (by (try simp only [List.map_toArray,List.map_cons,List.map_nil]);first|done|rfl|(simp only [List.length_drop,List.length_take];rfl)) ?_;(with_reducible refine (laws_heldIntS.calls kj71 _ _ t452 1 t469 _ ?side1 ?side2 A95.out).mono ?_);(case side1 => repeat (first|exact (Kd.R_reads' HO_8.out).2.2|(with_reducible refine Kd.C_alloc ?_ _)|(with_reducible refine Kd.C_drewN ?_ _)|(with_reducible refine Kd.C_drew ?_)));(case side2 => exact (Kd.R_reads' HO_8.out).2.1);rintro e w' ⟨rfl,⟨nd,rfl⟩⟩;refine ⟨_,rfl,?_⟩)|((with_reducible refine gate_callee (f:=23) rfl ?_);refine goesL_ (some 127) rfl rfl Try.func23 (by kernel_rfl) rfl #[.slice Ao75 t454.length co75,.int .i64 t469] rfl (by (try simp only [List.map_toArray,List.map_cons,List.map_nil]);first|done|rfl|(simp only [List.length_drop,List.length_take];rfl)) ?_;(with_reducible refine (laws_heldIntS.calls kj71 _ _ t454 t469 t470 _ ?side1 ?side2 A97.out).mono ?_);(case side1 => repeat (first|exact (Kd.R_reads' HO_9.out).2.2|(with_reducible refine Kd.C_alloc ?_ _)|(with_reducible refine Kd.C_drewN ?_ _)|(with_reducible refine Kd.C_drew ?_)));(case side2 => exact (Kd.R_reads' HO_9.out).2.1);rintro e w' ⟨rfl,⟨nd,rfl⟩⟩;refine ⟨_,rfl,?_⟩))
       go_ret
       exact ⟨by first|rfl|(simp [errW_none,errW_some] <;> rfl)|(simp [*,errW_none,errW_some] <;> rfl),by repeat (first|(with_reducible first|exact HB.out|apply below_alloc|apply pw_below_drewN|apply below_drew1)|exact HB.out)⟩
/-- THE ONE PURE STATEMENT of laws_FnExactTokenLengths: yours. -/
def laws_FnExactTokenLengths.Pure : Prop := ∀ (l0 : List (S112)), l0.length ≤ maxLen → (∀ x ∈ l0, (Lit.int .i64 x.f0).wf = true ∧ (Lit.int .i64 x.f1).wf = true ∧ (Lit.int .i64 x.f2).wf = true) → ∃ k, laws_FnExactTokenLengths.f k l0 = some true
theorem laws_FnExactTokenLengths.walk (P : laws_FnExactTokenLengths.Pure) (w : World) (A0 : Option Addr) (c0 : Nat) (l0 : List (S112)) (hr0 : Kd.C k112 w A0 l0.length l0) (hc0 : l0.length ≤ c0) (hm0 : l0.length ≤ maxLen) (hw0 : ∀ x ∈ l0, (Lit.int .i64 x.f0).wf = true ∧ (Lit.int .i64 x.f1).wf = true ∧ (Lit.int .i64 x.f2).wf = true) :
    Calls Try.prog 12 #[.slice A0 l0.length c0] w fun e w' => e = .returned (.bool true) ∧ Below w.heap.size w w' := by
  obtain ⟨k, h⟩ := P l0 hm0 hw0
  refine (laws_FnExactTokenLengths.calls k A0 c0 l0 true w hr0 hc0 h).mono ?_
  rintro e w' ⟨rfl, hd⟩
  exact ⟨rfl, hd⟩

end Go.Proofs.Ytimomemkbcidnaa.PFnExactTokenLengths
