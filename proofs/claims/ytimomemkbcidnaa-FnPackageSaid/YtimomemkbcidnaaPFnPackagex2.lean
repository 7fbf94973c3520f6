-- Written by a program of this session (a changed print); Lean checks it.
import Derived.Test.YtimomemkbcidnaaPFnPackagex0
import Derived.Test.YtimomemkbcidnaaPFnPackagex1
namespace Go.Proofs.Ytimomemkbcidnaa.PFnPackage
open Go.RowKit Go.Proofs.YtimomemkbcidnaaW.PrintWords Go.Proofs.YtimomemkbcidnaaW.PrintLast Go.Proofs.YtimomemkbcidnaaW.PrintMore
attribute [local go_sem] max2_int min2_int max_two min_two max_three min_three max_four min_four   -- for this text's walks alone
set_option linter.unusedVariables false
set_option linter.unusedSimpArgs false
open Act renaming put → sPu
open List renaming setIfInBounds_toArray → sIa, set_cons_zero → sCz, set_cons_succ → sCs
open Bool renaming true → Y, false → Z

/-! ### impl_CostOf: function 19 -/
mutual
def impl_CostOf.j0 : Nat → List Int → List Int → Bool → Option (Int × Bool)
  | 0, _, _, _ => none
  | k + 1, x0, x1, x18 => if x18 = true then (some (0, false)) else (impl_CostOf.l0 k x0 0 x1 (x1.length : Int) 0)
def impl_CostOf.l0 : Nat → List Int → Int → List Int → Int → Int → Option (Int × Bool)
  | 0, _, _, _, _, _ => none
  | k + 1, x0, x6, x19, x20, x21 => if x21 < x20 then (if 0 ≤ x21 then (if x21 < (x19.length : Int) then ((impl_within.f (rd x19 x21) 0 12000).bind fun t122 => (if t122 = true then (if (rd x19 x21) > 0 then (if x21 < (x0.length : Int) then (if (rd x0 x21) = 0 then (some (0, false)) else (impl_CostOf.l0 k x0 (wrap64 (x6 + (wrap64 ((rd x19 x21) * (rd x0 x21))))) x19 x20 (wrap64 (x21 + 1)))) else (none)) else (if x21 < (x0.length : Int) then (impl_CostOf.l0 k x0 (wrap64 (x6 + (wrap64 ((rd x19 x21) * (rd x0 x21))))) x19 x20 (wrap64 (x21 + 1))) else (none))) else (some (0, false)))) else (none)) else (none)) else (some (x6, true))
end
def impl_CostOf.f (k : Nat) (l0 : List Int) (l1 : List Int) : Option (Int × Bool) := (impl_CodeKind.f l0).bind fun t120 => (if t120 = 0 then (impl_CostOf.j0 k l0 l1 true) else (impl_CostOf.j0 k l0 l1 ((l0.length : Int) != (l1.length : Int))))
theorem impl_CostOf.mono_l : ∀ k, (∀ y0 y1 y2, LeO (impl_CostOf.j0 k y0 y1 y2) (impl_CostOf.j0 (k + 1) y0 y1 y2)) ∧ (∀ y0 y1 y2 y3 y4, LeO (impl_CostOf.l0 k y0 y1 y2 y3 y4) (impl_CostOf.l0 (k + 1) y0 y1 y2 y3 y4))
  | 0 => ⟨fun _ _ _ r h => by simp [impl_CostOf.j0] at h, fun _ _ _ _ _ r h => by simp [impl_CostOf.l0] at h⟩
  | k + 1 => by
    obtain ⟨ih0, ih1⟩ := impl_CostOf.mono_l k
    refine ⟨?_, ?_⟩
    · intro y0 y1 y2
      unfold impl_CostOf.j0
      repeat' first
      | (with_reducible exact ih0 _ _ _)
      | (with_reducible exact ih1 _ _ _ _ _)
      | (with_reducible exact LeO.refl _)
      | (with_reducible exact LeO.none _)
      | (with_reducible refine LeO.ite ?_ ?_)
      | (with_reducible refine LeO.bind ?_ (fun _ => ?_))
      | exact ih0 _ _ _
      | exact ih1 _ _ _ _ _
      | exact LeO.none _
      | refine LeO.ite ?_ ?_
      | refine LeO.bind ?_ (fun _ => ?_)
    · intro y0 y1 y2 y3 y4
      unfold impl_CostOf.l0
      repeat' first
      | (with_reducible exact ih0 _ _ _)
      | (with_reducible exact ih1 _ _ _ _ _)
      | (with_reducible exact LeO.refl _)
      | (with_reducible exact LeO.none _)
      | (with_reducible refine LeO.ite ?_ ?_)
      | (with_reducible refine LeO.bind ?_ (fun _ => ?_))
      | exact ih0 _ _ _
      | exact ih1 _ _ _ _ _
      | exact LeO.none _
      | refine LeO.ite ?_ ?_
      | refine LeO.bind ?_ (fun _ => ?_)
theorem impl_CostOf.mono : ∀ a0 a1 k, LeO (impl_CostOf.f k a0 a1) (impl_CostOf.f (k + 1) a0 a1) := by
  intro a0 a1 k
  obtain ⟨ih0, ih1⟩ := impl_CostOf.mono_l k
  unfold impl_CostOf.f
  repeat' first
      | (with_reducible exact ih0 _ _ _)
      | (with_reducible exact ih1 _ _ _ _ _)
      | (with_reducible exact LeO.refl _)
      | (with_reducible exact LeO.none _)
      | (with_reducible refine LeO.ite ?_ ?_)
      | (with_reducible refine LeO.bind ?_ (fun _ => ?_))
      | exact ih0 _ _ _
      | exact ih1 _ _ _ _ _
      | exact LeO.none _
      | refine LeO.ite ?_ ?_
      | refine LeO.bind ?_ (fun _ => ?_)
set_option maxHeartbeats 8000000 in
set_option maxRecDepth 100000 in
theorem impl_CostOf.calls (k : Nat) (A0 : Option Addr) (c0 : Nat) (l0 : List Int) (A1 : Option Addr) (c1 : Nat) (l1 : List Int) (r1 : Int) (r2 : Bool) (w : World) (hr0 : Kd.C (Kd.int .i64) w A0 l0.length l0) (hc0 : l0.length ≤ c0) (hr1 : Kd.C (Kd.int .i64) w A1 l1.length l1) (hc1 : l1.length ≤ c1) (h : impl_CostOf.f k l0 l1 = some (r1, r2)) :
    Calls Try.prog 19 #[.slice A0 l0.length c0, .slice A1 l1.length c1] w fun e w' => e = .returned (.tuple #[.int .i64 r1, .bool r2]) ∧ Below w.heap.size w w' := by
 have HR0:=Aside0.mk hr0
 have HC0:=Aside0.mk hc0
 clear hr0 hc0
 have HR1:=Aside0.mk hr1
 have HC1:=Aside0.mk hc1
 clear hr1 hc1
 have HB:=Aside0.mk (Below.refl w.heap.size w)
 have H : ((impl_CodeKind.f l0).bind fun t120 => (if t120 = 0 then (impl_CostOf.j0 k l0 l1 true) else (impl_CostOf.j0 k l0 l1 ((l0.length : Int) != (l1.length : Int))))) = some (r1,r2):=h
 clear h
 have HC3:=Aside0.mk H
 clear H
 go_enter Try.func19,Try.ntmps19
 go_upto_region 1 with (fail)
 go_cut [18] (fun v18 wc => ∃ (kq : Nat) (x18_2 : Bool),v18 = .bool x18_2∧Aside0 (impl_CostOf.j0 kq l0 l1 x18_2 = some (r1,r2))∧Aside0 (kq ≤ k)∧Aside0 (Below w.heap.size w wc))
 case first =>
  have H:=HC3.out
  clear HC3
  replace H:=Option.bind_eq_some_iff.mp H
  obtain ⟨t120,A40,H⟩:=H
  replace H : (if t120 = 0 then (impl_CostOf.j0 k l0 l1 true) else (impl_CostOf.j0 k l0 l1 ((l0.length : Int) != (l1.length : Int)))) = some (r1,r2):=H
  have A4:=Aside0.mk A40
  clear A40
  by_cases c5 : t120 = 0
  ·rw [if_pos c5] at H
   have c5b0 : (t120 == 0) = true:=beq_iff_eq.mpr c5
   have c5b1 : (t120 != 0) = false:=bne_eq_false_iff_eq.mpr c5
   clear c5
   (first|rw [c5b0]|(simp only [i64_w,i32_w];rw [c5b0])|skip)
   have H':=Aside0.mk H
   clear H
   go_wp2_with (first|((with_reducible refine gate_callee (f:=16) rfl ?_);refine goesL_ (some 10) rfl rfl Try.func16 (by kernel_rfl) rfl #[.slice A0 l0.length c0] rfl (by (try simp only [List.map_toArray,List.map_cons,List.map_nil]);first|done|rfl|(simp only [List.length_drop,List.length_take];rfl)) ?_;(with_reducible refine (impl_CodeKind.calls _ _ l0 t120 _ ?side1 ?side2 A4.out).mono ?_);(case side1 => repeat (first|exact (Kd.C_below HR0.out HB.out)|(with_reducible refine Kd.C_alloc ?_ _)|(with_reducible refine Kd.C_drewN ?_ _)|(with_reducible refine Kd.C_drew ?_)));(case side2 => exact HC0.out);rintro e w6 ⟨rfl,hb⟩;refine ⟨_,rfl,?_⟩;have n0_:=Aside0.mk (below_step (by repeat (first|(with_reducible first|exact HB.out|apply below_alloc|apply pw_below_drewN|apply below_drew1)|exact HB.out)) hb);clear HB;have HB:=n0_;clear n0_;(try clear hb);(try clear hb2);(try clear hk);(try clear hi)))
   go_meet
   case rel => exact ⟨_,(true),(by first|rfl|(simp;done)|(simp [*];done)),H',⟨by first|omega|exact Nat.le_refl _⟩,⟨by repeat (first|(with_reducible first|exact HB.out|apply below_alloc|apply pw_below_drewN|apply below_drew1)|exact HB.out)⟩⟩
  rw [if_neg c5] at H
  have c5b0 : (t120 == 0) = false:=beq_eq_false_iff_ne.mpr c5
  have c5b1 : (t120 != 0) = true:=bne_iff_ne.mpr c5
  (first|rw [c5b0]|(simp only [i64_w,i32_w];rw [c5b0])|skip)
  have H':=Aside0.mk H
  clear H
  go_wp2_with (first|((with_reducible refine gate_callee (f:=16) rfl ?_);refine goesL_ (some 10) rfl rfl Try.func16 (by kernel_rfl) rfl #[.slice A0 l0.length c0] rfl (by (try simp only [List.map_toArray,List.map_cons,List.map_nil]);first|done|rfl|(simp only [List.length_drop,List.length_take];rfl)) ?_;(with_reducible refine (impl_CodeKind.calls _ _ l0 t120 _ ?side1 ?side2 A4.out).mono ?_);(case side1 => repeat (first|exact (Kd.C_below HR0.out HB.out)|(with_reducible refine Kd.C_alloc ?_ _)|(with_reducible refine Kd.C_drewN ?_ _)|(with_reducible refine Kd.C_drew ?_)));(case side2 => exact HC0.out);rintro e w7 ⟨rfl,hb⟩;refine ⟨_,rfl,?_⟩;have n0_:=Aside0.mk (below_step (by repeat (first|(with_reducible first|exact HB.out|apply below_alloc|apply pw_below_drewN|apply below_drew1)|exact HB.out)) hb);clear HB;have HB:=n0_;clear n0_;(try clear hb);(try clear hb2);(try clear hk);(try clear hi)))
  go_meet
  case rel => exact ⟨_,(((l0.length : Int) != (l1.length : Int))),(by first|rfl|(simp;done)|(simp [*];done)),H',⟨by first|omega|exact Nat.le_refl _⟩,⟨by repeat (first|(with_reducible first|exact HB.out|apply below_alloc|apply pw_below_drewN|apply below_drew1)|exact HB.out)⟩⟩
 case rest =>
  clear HC3
  obtain ⟨kq,x18_2,rfl,HA,HJ2,HB⟩:=hcut
  cases kq with
  | zero => exact absurd HA.out (by simp [impl_CostOf.j0])
  | succ kj2 =>
   have H:=HA.out
   clear HA
   simp only [impl_CostOf.j0] at H
   by_cases c8 : x18_2 = true
   ·subst c8
    have H1 : (some (0,false)) = some (r1,r2):=by rw [if_pos rfl] at H;exact H
    clear H
    have H:=H1
    clear H1
    simp only [Option.some.injEq,Prod.mk.injEq] at H
    obtain ⟨rfl,rfl⟩:=H
    go_wp2
    go_ret2
    exact ⟨by first|rfl|(simp [errW_none,errW_some] <;> rfl)|(simp [*,errW_none,errW_some] <;> rfl),by repeat (first|(with_reducible first|exact HB.out|apply below_alloc|apply pw_below_drewN|apply below_drew1)|exact HB.out)⟩
   replace c8:=Bool.eq_false_iff.mpr c8
   subst c8
   have H1 : (impl_CostOf.l0 kj2 l0 0 l1 (l1.length : Int) 0) = some (r1,r2):=by rw [if_neg (show ¬ (false = true) by decide)] at H;exact H
   clear H
   have H:=H1
   clear H1
   have H':=Aside0.mk H
   clear H
   go_wp2
   go_loopg [6,21] kj2 (fun kq v6 v21 w' => ∃ (x6_2 : Int) (x21_2 : Int),v6 = .int .i64 x6_2∧v21 = .int .i64 x21_2∧Aside0 (impl_CostOf.l0 kq l0 x6_2 l1 (l1.length : Int) x21_2 = some (r1,r2))∧Aside0 (kq ≤ kj2)∧Aside0 (Below w.heap.size w w'))
   case atStart => exact ⟨(0),(0),(by first|rfl|(simp;done)|(simp [*];done)),(by first|rfl|(simp;done)|(simp [*];done)),H',⟨Nat.le_refl _⟩,⟨by repeat (first|(with_reducible first|exact HB.out|apply below_alloc|apply pw_below_drewN|apply below_drew1)|exact HB.out)⟩⟩
   case round =>
    clear H'
    obtain ⟨x6_2,x21_2,rfl,rfl,HA,HK2,HB⟩:=hrel
    cases gk with
    | zero => exact absurd HA.out (by simp [impl_CostOf.l0])
    | succ k2 =>
     have H:=HA.out
     clear HA
     simp only [impl_CostOf.l0] at H
     by_cases c9 : x21_2 < (l1.length : Int)
     rotate_left
     ·rw [if_neg c9] at H
      have c9b0 : decide (x21_2 < (l1.length : Int)) = false:=decide_eq_false c9
      clear c9
      simp only [Option.some.injEq,Prod.mk.injEq] at H
      obtain ⟨rfl,rfl⟩:=H
      go_wp2
      go_ret2
      exact ⟨by first|rfl|(simp [errW_none,errW_some] <;> rfl)|(simp [*,errW_none,errW_some] <;> rfl),by repeat (first|(with_reducible first|exact HB.out|apply below_alloc|apply pw_below_drewN|apply below_drew1)|exact HB.out)⟩
     rw [if_pos c9] at H
     have c9b0 : decide (x21_2 < (l1.length : Int)) = true:=decide_eq_true c9
     clear c9
     by_cases c10 : 0 ≤ x21_2
     rotate_left
     ·rw [if_neg c10] at H
      exact absurd H (by simp)
     rw [if_pos c10] at H
     have c10b0 : decide (0 ≤ x21_2) = true:=decide_eq_true c10
     clear c10
     by_cases c11 : x21_2 < (l1.length : Int)
     rotate_left
     ·rw [if_neg c11] at H
      exact absurd H (by simp)
     rw [if_pos c11] at H
     have c11b0 : decide (x21_2 < (l1.length : Int)) = true:=decide_eq_true c11
     clear c11
     replace H:=Option.bind_eq_some_iff.mp H
     obtain ⟨t122,A120,H⟩:=H
     replace H : (if t122 = true then (if (rd l1 x21_2) > 0 then (if x21_2 < (l0.length : Int) then (if (rd l0 x21_2) = 0 then (some (0,false)) else (impl_CostOf.l0 k2 l0 (wrap64 (x6_2 + (wrap64 ((rd l1 x21_2) * (rd l0 x21_2))))) l1 (l1.length : Int) (wrap64 (x21_2 + 1)))) else (none)) else (if x21_2 < (l0.length : Int) then (impl_CostOf.l0 k2 l0 (wrap64 (x6_2 + (wrap64 ((rd l1 x21_2) * (rd l0 x21_2))))) l1 (l1.length : Int) (wrap64 (x21_2 + 1))) else (none))) else (some (0,false))) = some (r1,r2):=H
     have A12:=Aside0.mk A120
     clear A120
     by_cases c13 : t122 = true
     rotate_left
     ·replace c13:=Bool.eq_false_iff.mpr c13
      subst c13
      have H1 : (some (0,false)) = some (r1,r2):=by rw [if_neg (show ¬ (false = true) by decide)] at H;exact H
      clear H
      have H:=H1
      clear H1
      simp only [Option.some.injEq,Prod.mk.injEq] at H
      obtain ⟨rfl,rfl⟩:=H
      have p121 : 0 ≤ (x21_2 : Int):=of_decide_eq_true (by assumption)
      have q121 : x21_2 < (l1.length : Int):=of_decide_eq_true (by assumption)
      obtain ⟨ad121,e121,hx121_0⟩:=Kd.at_int HR1.out x21_2 p121 q121
      cases e121
      replace hx121_0:=(HB.out.cell (World.block_lt_of_cell? w _ hx121_0)).trans hx121_0
      replace p121:=eq_true p121
      replace q121:=eq_true q121
      go_wp2_with (first|((with_reducible refine gate_callee (f:=53) rfl ?_);refine goesL_ (some 27) rfl rfl Try.func53 (by kernel_rfl) rfl #[.int .i64 (rd l1 x21_2),.int .i64 0,.int .i64 12000] rfl (by (try simp only [List.map_toArray,List.map_cons,List.map_nil]);first|done|rfl|(simp only [List.length_drop,List.length_take];rfl)) ?_;(with_reducible refine (impl_within.calls (rd l1 x21_2) 0 12000 false _ A12.out).mono ?_);rintro e w' ⟨rfl,⟨nd,rfl⟩⟩;refine ⟨_,rfl,?_⟩))
      go_ret2
      exact ⟨by first|rfl|(simp [errW_none,errW_some] <;> rfl)|(simp [*,errW_none,errW_some] <;> rfl),by repeat (first|(with_reducible first|exact HB.out|apply below_alloc|apply pw_below_drewN|apply below_drew1)|exact HB.out)⟩
     subst c13
     have H1 : (if (rd l1 x21_2) > 0 then (if x21_2 < (l0.length : Int) then (if (rd l0 x21_2) = 0 then (some (0,false)) else (impl_CostOf.l0 k2 l0 (wrap64 (x6_2 + (wrap64 ((rd l1 x21_2) * (rd l0 x21_2))))) l1 (l1.length : Int) (wrap64 (x21_2 + 1)))) else (none)) else (if x21_2 < (l0.length : Int) then (impl_CostOf.l0 k2 l0 (wrap64 (x6_2 + (wrap64 ((rd l1 x21_2) * (rd l0 x21_2))))) l1 (l1.length : Int) (wrap64 (x21_2 + 1))) else (none))) = some (r1,r2):=by rw [if_pos rfl] at H;exact H
     clear H
     have H:=H1
     clear H1
     by_cases c14 : (rd l1 x21_2) > 0
     rotate_left
     ·rw [if_neg c14] at H
      have c14b0 : decide (0 < (rd l1 x21_2)) = false:=decide_eq_false c14
      clear c14
      by_cases c17 : x21_2 < (l0.length : Int)
      rotate_left
      ·rw [if_neg c17] at H
       exact absurd H (by simp)
      rw [if_pos c17] at H
      have c17b0 : decide (x21_2 < (l0.length : Int)) = true:=decide_eq_true c17
      clear c17
      have H':=Aside0.mk H
      clear H
      have p121 : 0 ≤ (x21_2 : Int):=of_decide_eq_true (by assumption)
      have q121 : x21_2 < (l1.length : Int):=of_decide_eq_true (by assumption)
      obtain ⟨ad121,e121,hx121_0⟩:=Kd.at_int HR1.out x21_2 p121 q121
      cases e121
      replace hx121_0:=(HB.out.cell (World.block_lt_of_cell? w _ hx121_0)).trans hx121_0
      replace p121:=eq_true p121
      replace q121:=eq_true q121
      go_wp2_with (first|((with_reducible refine gate_callee (f:=53) rfl ?_);refine goesL_ (some 27) rfl rfl Try.func53 (by kernel_rfl) rfl #[.int .i64 (rd l1 x21_2),.int .i64 0,.int .i64 12000] rfl (by (try simp only [List.map_toArray,List.map_cons,List.map_nil]);first|done|rfl|(simp only [List.length_drop,List.length_take];rfl)) ?_;(with_reducible refine (impl_within.calls (rd l1 x21_2) 0 12000 true _ A12.out).mono ?_);rintro e w' ⟨rfl,⟨nd,rfl⟩⟩;refine ⟨_,rfl,?_⟩;have p125 : 0 ≤ (x21_2 : Int):=of_decide_eq_true (by assumption);have q125 : x21_2 < (l0.length : Int):=of_decide_eq_true (by assumption);obtain ⟨ad125,e125,hx125_0⟩:=Kd.at_int HR0.out x21_2 p125 q125;cases e125;replace hx125_0:=(HB.out.cell (World.block_lt_of_cell? w _ hx125_0)).trans hx125_0;replace p125:=eq_true p125;replace q125:=eq_true q125))
      go_roundg k2
      case measure => have:=HJ2.out;have:=HK2.out;omega
      case rel => exact ⟨(wrap64 (x6_2 + (wrap64 ((rd l1 x21_2) * (rd l0 x21_2))))),(wrap64 (x21_2 + 1)),(by first|rfl|(simp;done)|(simp [*];done)),(by first|rfl|(simp;done)|(simp [*];done)),H',⟨by have:=HJ2.out;have:=HK2.out;omega⟩,⟨by repeat (first|(with_reducible first|exact HB.out|apply below_alloc|apply pw_below_drewN|apply below_drew1)|exact HB.out)⟩⟩
     rw [if_pos c14] at H
     have c14b0 : decide (0 < (rd l1 x21_2)) = true:=decide_eq_true c14
     clear c14
     by_cases c15 : x21_2 < (l0.length : Int)
     rotate_left
     ·rw [if_neg c15] at H
      exact absurd H (by simp)
     rw [if_pos c15] at H
     have c15b0 : decide (x21_2 < (l0.length : Int)) = true:=decide_eq_true c15
     clear c15
     by_cases c16 : (rd l0 x21_2) = 0
     ·rw [if_pos c16] at H
      have c16b0 : ((rd l0 x21_2) == 0) = true:=beq_iff_eq.mpr c16
      have c16b1 : ((rd l0 x21_2) != 0) = false:=bne_eq_false_iff_eq.mpr c16
      clear c16
      simp only [Option.some.injEq,Prod.mk.injEq] at H
      obtain ⟨rfl,rfl⟩:=H
      have p121 : 0 ≤ (x21_2 : Int):=of_decide_eq_true (by assumption)
      have q121 : x21_2 < (l1.length : Int):=of_decide_eq_true (by assumption)
      obtain ⟨ad121,e121,hx121_0⟩:=Kd.at_int HR1.out x21_2 p121 q121
      cases e121
      replace hx121_0:=(HB.out.cell (World.block_lt_of_cell? w _ hx121_0)).trans hx121_0
      replace p121:=eq_true p121
      replace q121:=eq_true q121
      go_wp2_with (first|((with_reducible refine gate_callee (f:=53) rfl ?_);refine goesL_ (some 27) rfl rfl Try.func53 (by kernel_rfl) rfl #[.int .i64 (rd l1 x21_2),.int .i64 0,.int .i64 12000] rfl (by (try simp only [List.map_toArray,List.map_cons,List.map_nil]);first|done|rfl|(simp only [List.length_drop,List.length_take];rfl)) ?_;(with_reducible refine (impl_within.calls (rd l1 x21_2) 0 12000 true _ A12.out).mono ?_);rintro e w' ⟨rfl,⟨nd,rfl⟩⟩;refine ⟨_,rfl,?_⟩;have p123 : 0 ≤ (x21_2 : Int):=of_decide_eq_true (by assumption);have q123 : x21_2 < (l0.length : Int):=of_decide_eq_true (by assumption);obtain ⟨ad123,e123,hx123_0⟩:=Kd.at_int HR0.out x21_2 p123 q123;cases e123;replace hx123_0:=(HB.out.cell (World.block_lt_of_cell? w _ hx123_0)).trans hx123_0;replace p123:=eq_true p123;replace q123:=eq_true q123))
      go_ret2
      exact ⟨by first|rfl|(simp [errW_none,errW_some] <;> rfl)|(simp [*,errW_none,errW_some] <;> rfl),by repeat (first|(with_reducible first|exact HB.out|apply below_alloc|apply pw_below_drewN|apply below_drew1)|exact HB.out)⟩
     rw [if_neg c16] at H
     have c16b0 : ((rd l0 x21_2) == 0) = false:=beq_eq_false_iff_ne.mpr c16
     have c16b1 : ((rd l0 x21_2) != 0) = true:=bne_iff_ne.mpr c16
     have H':=Aside0.mk H
     clear H
     have p121 : 0 ≤ (x21_2 : Int):=of_decide_eq_true (by assumption)
     have q121 : x21_2 < (l1.length : Int):=of_decide_eq_true (by assumption)
     obtain ⟨ad121,e121,hx121_0⟩:=Kd.at_int HR1.out x21_2 p121 q121
     cases e121
     replace hx121_0:=(HB.out.cell (World.block_lt_of_cell? w _ hx121_0)).trans hx121_0
     replace p121:=eq_true p121
     replace q121:=eq_true q121
     go_wp2_with (first|((with_reducible refine gate_callee (f:=53) rfl ?_);refine goesL_ (some 27) rfl rfl Try.func53 (by kernel_rfl) rfl #[.int .i64 (rd l1 x21_2),.int .i64 0,.int .i64 12000] rfl (by (try simp only [List.map_toArray,List.map_cons,List.map_nil]);first|done|rfl|(simp only [List.length_drop,List.length_take];rfl)) ?_;(with_reducible refine (impl_within.calls (rd l1 x21_2) 0 12000 true _ A12.out).mono ?_);rintro e w' ⟨rfl,⟨nd,rfl⟩⟩;refine ⟨_,rfl,?_⟩;have p123 : 0 ≤ (x21_2 : Int):=of_decide_eq_true (by assumption);have q123 : x21_2 < (l0.length : Int):=of_decide_eq_true (by assumption);obtain ⟨ad123,e123,hx123_0⟩:=Kd.at_int HR0.out x21_2 p123 q123;cases e123;replace hx123_0:=(HB.out.cell (World.block_lt_of_cell? w _ hx123_0)).trans hx123_0;replace p123:=eq_true p123;replace q123:=eq_true q123;have p124 : 0 ≤ (x21_2 : Int):=of_decide_eq_true (by assumption);have q124 : x21_2 < (l0.length : Int):=of_decide_eq_true (by assumption);obtain ⟨ad124,e124,hx124_0⟩:=Kd.at_int HR0.out x21_2 p124 q124;obtain rfl : ad123 = ad124:=(by injection e124);replace hx124_0:=(HB.out.cell (World.block_lt_of_cell? w _ hx124_0)).trans hx124_0;replace p124:=eq_true p124;replace q124:=eq_true q124))
     go_roundg k2
     case measure => have:=HJ2.out;have:=HK2.out;omega
     case rel => exact ⟨(wrap64 (x6_2 + (wrap64 ((rd l1 x21_2) * (rd l0 x21_2))))),(wrap64 (x21_2 + 1)),(by first|rfl|(simp;done)|(simp [*];done)),(by first|rfl|(simp;done)|(simp [*];done)),H',⟨by have:=HJ2.out;have:=HK2.out;omega⟩,⟨by repeat (first|(with_reducible first|exact HB.out|apply below_alloc|apply pw_below_drewN|apply below_drew1)|exact HB.out)⟩⟩
/-! ### laws_big: function 24 -/
def laws_big.f (l0 : List Int) : Option (Bool) := some (decide ((l0.length : Int) > 1048576))
set_option maxHeartbeats 8000000 in
set_option maxRecDepth 100000 in
theorem laws_big.calls (A0 : Option Addr) (c0 : Nat) (l0 : List Int) (r : Bool) (w : World) (hr0 : Kd.C (Kd.int .u8) w A0 l0.length l0) (hc0 : l0.length ≤ c0) (h : laws_big.f l0 = some r) :
    Calls Try.prog 24 #[.slice A0 l0.length c0] w fun e w' => e = .returned (.bool r) ∧ Drawn0 w w' := by
 have HR0:=Aside0.mk hr0
 have HC0:=Aside0.mk hc0
 clear hr0 hc0
 have H : (some (decide ((l0.length : Int) > 1048576))) = some r:=h
 clear h
 obtain rfl:=Option.some.inj H
 go_enter Try.func24,Try.ntmps24
 go_wp2
 go_ret
 exact ⟨by first|rfl|(simp;done)|(simp [*];done),by repeat (first|exact Drawn0.refl _|apply Drawn0.step)⟩
/-- A state of type 126 at block g of W; what its slices lead to came in by w0. -/
def IsS126 (w0 W : World) (g : Nat) (f0 : List Int) (f1 : Int) (f2 : Int) : Prop := ∃ A0 c0, W.heap[g]? = some (.cells #[.slice A0 f0.length c0, .int .i64 f1, .int .i64 f2] 126 (0, 0)) ∧ w0.heap.size ≤ g ∧ Kd.C (Kd.int .u8) w0 A0 f0.length f0
theorem IsS126.grown {w0 W : World} {g : Nat} {f0 : List Int} {f1 : Int} {f2 : Int} {W1 : World} {row : Option Nat} (h : IsS126 w0 W g f0 f1 f2) (hw : W.grownBy W1 row) (hne : some g ≠ row) : IsS126 w0 W1 g f0 f1 f2 := by
  obtain ⟨A0, c0, hb, hg, hr0⟩ := h
  exact ⟨A0, c0, blk_grown hb hw hne, hg, hr0⟩
theorem IsS126.kept {w0 W : World} {g : Nat} {f0 : List Int} {f1 : Int} {f2 : Int} {W1 : World} {S : Nat → Prop} (h : IsS126 w0 W g f0 f1 f2) (hk : Kept W W1 S) (hne : ¬ S g) : IsS126 w0 W1 g f0 f1 f2 := by
  obtain ⟨A0, c0, hb, hg, hr0⟩ := h
  exact ⟨A0, c0, blk_kept hb hk hne, hg, hr0⟩
theorem IsS126.below {w0 W : World} {g : Nat} {f0 : List Int} {f1 : Int} {f2 : Int} {W1 : World} (h : IsS126 w0 W g f0 f1 f2) (hw : Below W.heap.size W W1) : IsS126 w0 W1 g f0 f1 f2 := h.grown (grown_of_below hw none) (by simp)
theorem IsS126.alloc {w0 W : World} {g : Nat} {f0 : List Int} {f1 : Int} {f2 : Int} (h : IsS126 w0 W g f0 f1 f2) (o : Obj) : IsS126 w0 (W.alloc o) g f0 f1 f2 := h.below (below_alloc (Below.refl _ _) o)
theorem IsS126.drewN {w0 W : World} {g : Nat} {f0 : List Int} {f1 : Int} {f2 : Int} (h : IsS126 w0 W g f0 f1 f2) (m : Nat) : IsS126 w0 (W.drewN m) g f0 f1 f2 := h
theorem IsS126.drew {w0 W : World} {g : Nat} {f0 : List Int} {f1 : Int} {f2 : Int} (h : IsS126 w0 W g f0 f1 f2) : IsS126 w0 W.drew g f0 f1 f2 := h
theorem IsS126.at_ {w0 W : World} {g : Nat} {f0 : List Int} {f1 : Int} {f2 : Int} {w' : World} {m : Nat} (hq : W.drewN m = w') (h : IsS126 w0 W g f0 f1 f2) : IsS126 w0 w' g f0 f1 f2 := by subst hq; exact IsS126.drewN h m
theorem IsS126.apart {w0 W : World} {g : Nat} {f0 : List Int} {f1 : Int} {f2 : Int} {α : Type} {d : Kd α} {e : Nat} {base : Nat} {ok : Nat → Prop} {v : Value} {xs : List α} (h : IsS126 w0 W g f0 f1 f2) (ho : d.R e W base ok v xs) (ht : ∀ q, q ∈ e :: d.E → q ≠ 126) : d.R e W base (fun k => ok k ∧ k ≠ g) v xs := by
  obtain ⟨A0, c0, hb, hg, hr0⟩ := h
  exact Kd.R_types ho hb ht
theorem IsS126.own_ne {w0 W : World} {g : Nat} {f0 : List Int} {f1 : Int} {f2 : Int} {α : Type} {d : Kd α} {e : Nat} {base : Nat} {ok : Nat → Prop} {v : Value} {xs : List α} (h : IsS126 w0 W g f0 f1 f2) (ho : d.R e W base ok v xs) (ht : e ≠ 126) : some g ≠ v.ownBlock := by
  obtain ⟨A0, c0, hb, hg, hr0⟩ := h
  exact Kd.R_ne ho hb ht
theorem IsS126.lt {w0 W : World} {g : Nat} {f0 : List Int} {f1 : Int} {f2 : Int} (h : IsS126 w0 W g f0 f1 f2) : g < W.heap.size := by
  obtain ⟨A0, c0, hb, hg, hr0⟩ := h
  exact blk_lt hb
theorem IsS126.ge {w0 W : World} {g : Nat} {f0 : List Int} {f1 : Int} {f2 : Int} (h : IsS126 w0 W g f0 f1 f2) : w0.heap.size ≤ g := by
  obtain ⟨A0, c0, hb, hg, hr0⟩ := h
  exact hg
theorem IsS126.far {w0 W : World} {g : Nat} {f0 : List Int} {f1 : Int} {f2 : Int} {p : Addr} (h : IsS126 w0 W g f0 f1 f2) (hne : g ≠ p.block) (u : Value) : IsS126 w0 (W.setCell p u) g f0 f1 f2 := by
  obtain ⟨A0, c0, hb, hg, hr0⟩ := h
  exact ⟨A0, c0, blk_far hb hne u, hg, hr0⟩
theorem cellS126_0 {W : World} {g : Nat} {A0 : Option Addr} {c0 : Nat} {f0 : List Int} {f1 : Int} {f2 : Int} (h : W.heap[g]? = some (.cells #[.slice A0 f0.length c0, .int .i64 f1, .int .i64 f2] 126 (0, 0))) : W.cell? ⟨g, 0, none⟩ = some (.slice A0 f0.length c0) := (blk_cell h 0).trans rfl
theorem cellS126_1 {W : World} {g : Nat} {A0 : Option Addr} {c0 : Nat} {f0 : List Int} {f1 : Int} {f2 : Int} (h : W.heap[g]? = some (.cells #[.slice A0 f0.length c0, .int .i64 f1, .int .i64 f2] 126 (0, 0))) : W.cell? ⟨g, 1, none⟩ = some (.int .i64 f1) := (blk_cell h 1).trans rfl
theorem IsS126.set_1 {w0 W : World} {g : Nat} {f0 : List Int} {f1 : Int} {f2 : Int} (h : IsS126 w0 W g f0 f1 f2) (x : Int) : IsS126 w0 (W.setCell ⟨g, 1, none⟩ (.int .i64 x)) g f0 x f2 := by
  obtain ⟨A0, c0, hb, hg, hr0⟩ := h
  exact ⟨A0, c0, by simpa using blk_set hb 1 (.int .i64 x), hg, hr0⟩
theorem cellS126_2 {W : World} {g : Nat} {A0 : Option Addr} {c0 : Nat} {f0 : List Int} {f1 : Int} {f2 : Int} (h : W.heap[g]? = some (.cells #[.slice A0 f0.length c0, .int .i64 f1, .int .i64 f2] 126 (0, 0))) : W.cell? ⟨g, 2, none⟩ = some (.int .i64 f2) := (blk_cell h 2).trans rfl
theorem IsS126.set_2 {w0 W : World} {g : Nat} {f0 : List Int} {f1 : Int} {f2 : Int} (h : IsS126 w0 W g f0 f1 f2) (x : Int) : IsS126 w0 (W.setCell ⟨g, 2, none⟩ (.int .i64 x)) g f0 f1 x := by
  obtain ⟨A0, c0, hb, hg, hr0⟩ := h
  exact ⟨A0, c0, by simpa using blk_set hb 2 (.int .i64 x), hg, hr0⟩
theorem IsS126.new (w0 W : World) (A0 : Option Addr) (c0 : Nat) (f0 : List Int) (f1 : Int) (f2 : Int) (hB : Below w0.heap.size w0 W) (hr0 : Kd.C (Kd.int .u8) w0 A0 f0.length f0) : IsS126 w0 (W.alloc (.cells #[.slice A0 f0.length c0, .int .i64 f1, .int .i64 f2] 126)) W.heap.size f0 f1 f2 := ⟨A0, c0, by simpa using heap_alloc_new W _, hB.size, hr0⟩

/-! ### spec_l01New: function 56 -/
def spec_l01New.l0 : Nat → List Int → Int → Int → Option (List Int × Int × Int)
  | 0, _, _, _ => none
  | k + 1, x0, x3, x4 => if x4 < (x0.length : Int) then (if x4 < 4000 then (if 0 ≤ x4 then (spec_l01New.l0 k x0 (Go.bits .and .i64 (wrap64 ((wrap64 ((wrap64 (x3 * 131)) + (wrap64 (rd x0 x4)))) + 7)) 1073741823) (wrap64 (x4 + 1))) else (none)) else (some (x0, 0, x3))) else (some (x0, 0, x3))
def spec_l01New.f (k : Nat) (l0 : List Int) : Option (List Int × Int × Int) := spec_l01New.l0 k l0 (wrap64 (99099 + (l0.length : Int))) 0
theorem spec_l01New.mono_l : ∀ k, (∀ y0 y1 y2, LeO (spec_l01New.l0 k y0 y1 y2) (spec_l01New.l0 (k + 1) y0 y1 y2))
  | 0 => fun _ _ _ r h => by simp [spec_l01New.l0] at h
  | k + 1 => by
    have ih0 := spec_l01New.mono_l k
    · intro y0 y1 y2
      unfold spec_l01New.l0
      repeat' first
      | (with_reducible exact ih0 _ _ _)
      | (with_reducible exact LeO.refl _)
      | (with_reducible exact LeO.none _)
      | (with_reducible refine LeO.ite ?_ ?_)
      | (with_reducible refine LeO.bind ?_ (fun _ => ?_))
      | exact ih0 _ _ _
      | exact LeO.none _
      | refine LeO.ite ?_ ?_
      | refine LeO.bind ?_ (fun _ => ?_)
theorem spec_l01New.mono : ∀ a0 k, LeO (spec_l01New.f k a0) (spec_l01New.f (k + 1) a0) := by
  intro a0 k
  have ih0 := spec_l01New.mono_l k
  unfold spec_l01New.f
  repeat' first
      | (with_reducible exact ih0 _ _ _)
      | (with_reducible exact LeO.refl _)
      | (with_reducible exact LeO.none _)
      | (with_reducible refine LeO.ite ?_ ?_)
      | (with_reducible refine LeO.bind ?_ (fun _ => ?_))
      | exact ih0 _ _ _
      | exact LeO.none _
      | refine LeO.ite ?_ ?_
      | refine LeO.bind ?_ (fun _ => ?_)
set_option maxHeartbeats 8000000 in
set_option maxRecDepth 100000 in
theorem spec_l01New.calls (k : Nat) (A0 : Option Addr) (c0 : Nat) (l0 : List Int) (r1 : List Int) (r2 : Int) (r3 : Int) (w0 w : World) (hB : Below w0.heap.size w0 w) (hr0 : Kd.C (Kd.int .u8) w0 A0 l0.length l0) (hc0 : l0.length ≤ c0) (h : spec_l01New.f k l0 = some (r1, r2, r3)) :
    Calls Try.prog 56 #[.slice A0 l0.length c0] w fun e w' => ∃ g_ : Nat, e = .returned (.pointer (some ⟨g_, 0, none⟩)) ∧ IsS126 w0 w' g_ r1 r2 r3 ∧ Below w0.heap.size w0 w' ∧ Below w.heap.size w w' := by
 have hu126:=Try.underlying126
 have HR0:=Aside0.mk hr0
 have HC0:=Aside0.mk hc0
 clear hr0 hc0
 have HBW:=Aside0.mk (Below.refl w.heap.size w)
 have HW0:=Aside0.mk hB.size
 have HB:=Aside0.mk hB
 clear hB
 have H : (spec_l01New.l0 k l0 (wrap64 (99099 + (l0.length : Int))) 0) = some (r1,r2,r3):=h
 clear h
 have H':=Aside0.mk H
 clear H
 go_enter Try.func56,Try.ntmps56
 go_wp2
 go_loopg [3,4] k (fun kq v3 v4 w' => ∃ (x3_1 : Int) (x4_1 : Int),v3 = .int .i64 x3_1∧v4 = .int .i64 x4_1∧Aside0 (spec_l01New.l0 kq l0 x3_1 x4_1 = some (r1,r2,r3))∧Aside0 (kq ≤ k)∧Aside0 (Below w0.heap.size w0 w')∧Aside0 (Below w.heap.size w w'))
 case atStart => exact ⟨(wrap64 (99099 + (l0.length : Int))),(0),(by first|rfl|(simp;done)|(simp [*];done)),(by first|rfl|(simp;done)|(simp [*];done)),H',⟨Nat.le_refl _⟩,⟨by repeat (first|(with_reducible first|exact HB.out|apply below_alloc|apply pw_below_drewN|apply below_drew1)|exact HB.out)⟩,⟨by repeat (first|(with_reducible first|exact HBW.out|apply below_alloc|apply pw_below_drewN|apply below_drew1)|exact HBW.out)⟩⟩
 case round =>
  clear H'
  clear HBW
  obtain ⟨x3_1,x4_1,rfl,rfl,HA,HK1,HB,HBW⟩:=hrel
  cases gk with
  | zero => exact absurd HA.out (by simp [spec_l01New.l0])
  | succ k1 =>
   have H:=HA.out
   clear HA
   simp only [spec_l01New.l0] at H
   by_cases c2 : x4_1 < (l0.length : Int)
   rotate_left
   ·rw [if_neg c2] at H
    have c2b0 : decide (x4_1 < (l0.length : Int)) = false:=decide_eq_false c2
    clear c2
    simp only [Option.some.injEq,Prod.mk.injEq] at H
    obtain ⟨rfl,rfl,rfl⟩:=H
    go_wp2_with (first|((with_reducible refine gate_dst (N:=31) rfl ?_);refine box_event ?hg (N:=31) ?hd (cs:=#[.slice A0 l0.length c0,.int .i64 0,.int .i64 x3_1]) (t:=126) ?hr ?_;(case hd => rfl);(case hg => rfl);(case hr => first|(go_simp;done)|(go_simp;rfl));intro gb128 hg w6 hbox hb;have n0_:=Aside0.mk (below_step HBW.out hb);have n1_:=Aside0.mk (below_step (by repeat (first|(with_reducible first|exact HB.out|apply below_alloc|apply pw_below_drewN|apply below_drew1)|exact HB.out)) hb);have n2_:=Aside0.mk (hbox);have n3_:=Aside0.mk ((by rw [hg];exact (below_size (by repeat (first|(with_reducible first|exact HBW.out|apply below_alloc|apply pw_below_drewN|apply below_drew1)|exact HBW.out))) : w.heap.size ≤ gb128));have n4_:=Aside0.mk ((Nat.le_trans HW0.out (by rw [hg];exact (below_size (by repeat (first|(with_reducible first|exact HBW.out|apply below_alloc|apply pw_below_drewN|apply below_drew1)|exact HBW.out))) : w.heap.size ≤ gb128) : w0.heap.size ≤ gb128));clear HBW;clear HB;have HBW:=n0_;have HB:=n1_;have BK128:=n2_;have GW128:=n3_;have GE128:=n4_;clear n0_ n1_ n2_ n3_ n4_;clear hb hbox hg))
    go_ret
    exact ⟨_,rfl,(show IsS126 w0 _ gb128 l0 0 x3_1 from ⟨_,_,by (with_reducible repeat (first|refine blk_drewN ?_ _|refine blk_drew ?_|refine blk_alloc ?_ _));exact BK128.out,GE128.out,HR0.out⟩),by repeat (first|(with_reducible first|exact HB.out|apply below_alloc|apply pw_below_drewN|apply below_drew1|refine below_set ?_ GE128.out)|exact HB.out),by repeat (first|(with_reducible first|exact HBW.out|apply below_alloc|apply pw_below_drewN|apply below_drew1|refine below_set ?_ GW128.out)|exact HBW.out)⟩
   rw [if_pos c2] at H
   have c2b0 : decide (x4_1 < (l0.length : Int)) = true:=decide_eq_true c2
   clear c2
   by_cases c3 : x4_1 < 4000
   ·rw [if_pos c3] at H
    have c3b0 : decide (x4_1 < 4000) = true:=decide_eq_true c3
    clear c3
    by_cases c4 : 0 ≤ x4_1
    rotate_left
    ·rw [if_neg c4] at H
     exact absurd H (by simp)
    rw [if_pos c4] at H
    have c4b0 : decide (0 ≤ x4_1) = true:=decide_eq_true c4
    clear c4
    have H':=Aside0.mk H
    clear H
    have p126 : 0 ≤ (x4_1 : Int):=of_decide_eq_true (by assumption)
    have q126 : x4_1 < (l0.length : Int):=of_decide_eq_true (by assumption)
    obtain ⟨ad126,e126,hx126_0⟩:=Kd.at_int HR0.out x4_1 p126 q126
    cases e126
    replace hx126_0:=pw_cell_below HB.out hx126_0
    replace p126:=eq_true p126
    replace q126:=eq_true q126
    go_wp2
    go_roundg k1
    case measure => have:=HK1.out;omega
    case rel => exact ⟨(Go.bits .and .i64 (wrap64 ((wrap64 ((wrap64 (x3_1 * 131)) + (wrap64 (rd l0 x4_1)))) + 7)) 1073741823),(wrap64 (x4_1 + 1)),(by first|rfl|(simp;done)|(simp [*];done)),(by first|rfl|(simp;done)|(simp [*];done)),H',⟨by have:=HK1.out;omega⟩,⟨by repeat (first|(with_reducible first|exact HB.out|apply below_alloc|apply pw_below_drewN|apply below_drew1)|exact HB.out)⟩,⟨by repeat (first|(with_reducible first|exact HBW.out|apply below_alloc|apply pw_below_drewN|apply below_drew1)|exact HBW.out)⟩⟩
   rw [if_neg c3] at H
   have c3b0 : decide (x4_1 < 4000) = false:=decide_eq_false c3
   clear c3
   simp only [Option.some.injEq,Prod.mk.injEq] at H
   obtain ⟨rfl,rfl,rfl⟩:=H
   go_wp2_with (first|((with_reducible refine gate_dst (N:=31) rfl ?_);refine box_event ?hg (N:=31) ?hd (cs:=#[.slice A0 l0.length c0,.int .i64 0,.int .i64 x3_1]) (t:=126) ?hr ?_;(case hd => rfl);(case hg => rfl);(case hr => first|(go_simp;done)|(go_simp;rfl));intro gb127 hg w5 hbox hb;have n0_:=Aside0.mk (below_step HBW.out hb);have n1_:=Aside0.mk (below_step (by repeat (first|(with_reducible first|exact HB.out|apply below_alloc|apply pw_below_drewN|apply below_drew1)|exact HB.out)) hb);have n2_:=Aside0.mk (hbox);have n3_:=Aside0.mk ((by rw [hg];exact (below_size (by repeat (first|(with_reducible first|exact HBW.out|apply below_alloc|apply pw_below_drewN|apply below_drew1)|exact HBW.out))) : w.heap.size ≤ gb127));have n4_:=Aside0.mk ((Nat.le_trans HW0.out (by rw [hg];exact (below_size (by repeat (first|(with_reducible first|exact HBW.out|apply below_alloc|apply pw_below_drewN|apply below_drew1)|exact HBW.out))) : w.heap.size ≤ gb127) : w0.heap.size ≤ gb127));clear HBW;clear HB;have HBW:=n0_;have HB:=n1_;have BK127:=n2_;have GW127:=n3_;have GE127:=n4_;clear n0_ n1_ n2_ n3_ n4_;clear hb hbox hg))
   go_ret
   exact ⟨_,rfl,(show IsS126 w0 _ gb127 l0 0 x3_1 from ⟨_,_,by (with_reducible repeat (first|refine blk_drewN ?_ _|refine blk_drew ?_|refine blk_alloc ?_ _));exact BK127.out,GE127.out,HR0.out⟩),by repeat (first|(with_reducible first|exact HB.out|apply below_alloc|apply pw_below_drewN|apply below_drew1|refine below_set ?_ GE127.out)|exact HB.out),by repeat (first|(with_reducible first|exact HBW.out|apply below_alloc|apply pw_below_drewN|apply below_drew1|refine below_set ?_ GW127.out)|exact HBW.out)⟩
/-! ### spec_l01Byte: function 66 -/
def spec_l01Byte.f (s0_0 : List Int) (s0_1 : Int) (s0_2 : Int) : Option (Int × Int × Int) := if s0_1 < (s0_0.length : Int) then (if 0 ≤ s0_1 then (some (Go.bits .and .i64 (wrap64 ((Go.bits .and .i64 (Go.bits .xor .i64 ((wrap64 ((wrap64 (s0_2 * 6364136223846793005)) + 1442695040888963407)) / 8589934592) ((wrap64 ((wrap64 (s0_2 * 6364136223846793005)) + 1442695040888963407)) / 35184372088832)) 255) + (wrap64 (rd s0_0 s0_1)))) 255, wrap64 (s0_1 + 1), wrap64 ((wrap64 (s0_2 * 6364136223846793005)) + 1442695040888963407))) else (none)) else (some (Go.bits .and .i64 (Go.bits .xor .i64 ((wrap64 ((wrap64 (s0_2 * 6364136223846793005)) + 1442695040888963407)) / 8589934592) ((wrap64 ((wrap64 (s0_2 * 6364136223846793005)) + 1442695040888963407)) / 35184372088832)) 255, s0_1, wrap64 ((wrap64 (s0_2 * 6364136223846793005)) + 1442695040888963407)))
set_option maxHeartbeats 8000000 in
set_option maxRecDepth 100000 in
theorem spec_l01Byte.calls (g : Nat) (s0_0 : List Int) (s0_1 : Int) (s0_2 : Int) (r1 : Int) (r2 : Int) (r3 : Int) (w0 w : World) (hI : IsS126 w0 w g s0_0 s0_1 s0_2) (hB : Below w0.heap.size w0 w) (h : spec_l01Byte.f s0_0 s0_1 s0_2 = some (r1, r2, r3)) :
    Calls Try.prog 66 #[.pointer (some ⟨g, 0, none⟩)] w fun e w' => e = .returned (.int .i64 r1) ∧ IsS126 w0 w' g s0_0 r2 r3 ∧ Below w0.heap.size w0 w' ∧ KeepBut w w' g none := by
 have HI0:=Aside0.mk hI
 have HK:=Aside0.mk (KeepBut.refl w g none)
 have HL:=Aside0.mk hB.size
 clear hI
 have HW0:=Aside0.mk hB.size
 have HB:=Aside0.mk hB
 clear hB
 have H : (if s0_1 < (s0_0.length : Int) then (if 0 ≤ s0_1 then (some (Go.bits .and .i64 (wrap64 ((Go.bits .and .i64 (Go.bits .xor .i64 ((wrap64 ((wrap64 (s0_2 * 6364136223846793005)) + 1442695040888963407)) / 8589934592) ((wrap64 ((wrap64 (s0_2 * 6364136223846793005)) + 1442695040888963407)) / 35184372088832)) 255) + (wrap64 (rd s0_0 s0_1)))) 255,wrap64 (s0_1 + 1),wrap64 ((wrap64 (s0_2 * 6364136223846793005)) + 1442695040888963407))) else (none)) else (some (Go.bits .and .i64 (Go.bits .xor .i64 ((wrap64 ((wrap64 (s0_2 * 6364136223846793005)) + 1442695040888963407)) / 8589934592) ((wrap64 ((wrap64 (s0_2 * 6364136223846793005)) + 1442695040888963407)) / 35184372088832)) 255,s0_1,wrap64 ((wrap64 (s0_2 * 6364136223846793005)) + 1442695040888963407)))) = some (r1,r2,r3):=h
 clear h
 by_cases c2 : s0_1 < (s0_0.length : Int)
 rotate_left
 ·rw [if_neg c2] at H
  have c2b0 : decide (s0_1 < (s0_0.length : Int)) = false:=decide_eq_false c2
  clear c2
  simp only [Option.some.injEq,Prod.mk.injEq] at H
  obtain ⟨rfl,rfl,rfl⟩:=H
  obtain ⟨ASz5_0,cSz5_0,HGz5,hgz5,HSz5_0⟩:=HI0.out
  have hcz5_0:=cellS126_0 HGz5
  have hcz5_1:=cellS126_1 HGz5
  have hcz5_2:=cellS126_2 HGz5
  have hfz5_1:=blk_frozen HGz5 1
  have hfz5_2:=blk_frozen HGz5 2
  clear HGz5 hgz5
  go_enter Try.func66,Try.ntmps66
  go_wp2
  repeat (go_quiet (fail);try go_wp2)
  go_ret
  exact ⟨by first|rfl|(simp [errW_none,errW_some] <;> rfl)|(simp [*,errW_none,errW_some] <;> rfl),by repeat (first|(with_reducible first|exact HI0.out|apply IsS126.alloc|apply IsS126.drewN|apply IsS126.drew|apply IsS126.set_1|apply IsS126.set_2)|exact HI0.out),by repeat (first|(with_reducible first|exact HB.out|apply below_alloc|apply pw_below_drewN|apply below_drew1|refine below_set ?_ (IsS126.ge HI0.out))|exact HB.out),by repeat (first|(with_reducible first|exact HK.out|apply KeepBut.set_|apply keep_drewN|apply keep_drew|apply keep_alloc)|exact HK.out)⟩
 rw [if_pos c2] at H
 have c2b0 : decide (s0_1 < (s0_0.length : Int)) = true:=decide_eq_true c2
 clear c2
 by_cases c3 : 0 ≤ s0_1
 rotate_left
 ·rw [if_neg c3] at H
  exact absurd H (by simp)
 rw [if_pos c3] at H
 have c3b0 : decide (0 ≤ s0_1) = true:=decide_eq_true c3
 clear c3
 simp only [Option.some.injEq,Prod.mk.injEq] at H
 obtain ⟨rfl,rfl,rfl⟩:=H
 obtain ⟨ASz4_0,cSz4_0,HGz4,hgz4,HSz4_0⟩:=HI0.out
 have hcz4_0:=cellS126_0 HGz4
 have hcz4_1:=cellS126_1 HGz4
 have hcz4_2:=cellS126_2 HGz4
 have hfz4_1:=blk_frozen HGz4 1
 have hfz4_2:=blk_frozen HGz4 2
 clear HGz4 hgz4
 have p129 : 0 ≤ (s0_1 : Int):=of_decide_eq_true (by assumption)
 have q129 : s0_1 < (s0_0.length : Int):=of_decide_eq_true (by assumption)
 obtain ⟨ad129,e129,hx129_0⟩:=Kd.at_int HSz4_0 s0_1 p129 q129
 cases e129
 have hn129_0 : ad129.block ≠ g:=Nat.ne_of_lt (Nat.lt_of_lt_of_le (by have:=World.block_lt_of_cell? _ _ hx129_0;first|rwa [add_block] at this|exact this) (IsS126.ge HI0.out))
 replace hx129_0:=pw_cell_below HB.out hx129_0
 replace hx129_0:=(cell_far (p:=⟨g,2,none⟩) (by first|(rw [add_block];exact hn129_0)|(show (Addr.add _ _).block ≠ _;rw [add_block];exact hn129_0)|exact hn129_0) (.int .i64 (wrap64 ((wrap64 (s0_2 * 6364136223846793005)) + 1442695040888963407)))).trans hx129_0
 (try have hy129_0:=fun (n_ : Nat) => (show (((w.drewN n_).setCell ⟨g,2,none⟩ (.int .i64 (wrap64 ((wrap64 (s0_2 * 6364136223846793005)) + 1442695040888963407))))).cell? _ = some _ from hx129_0))
 clear hn129_0
 replace p129:=eq_true p129
 replace q129:=eq_true q129
 go_enter Try.func66,Try.ntmps66
 go_wp2
 repeat (go_quiet (fail);try go_wp2)
 go_ret
 exact ⟨by first|rfl|(simp [errW_none,errW_some] <;> rfl)|(simp [*,errW_none,errW_some] <;> rfl),by repeat (first|(with_reducible first|exact HI0.out|apply IsS126.alloc|apply IsS126.drewN|apply IsS126.drew|apply IsS126.set_1|apply IsS126.set_2)|exact HI0.out),by repeat (first|(with_reducible first|exact HB.out|apply below_alloc|apply pw_below_drewN|apply below_drew1|refine below_set ?_ (IsS126.ge HI0.out))|exact HB.out),by repeat (first|(with_reducible first|exact HK.out|apply KeepBut.set_|apply keep_drewN|apply keep_drew|apply keep_alloc)|exact HK.out)⟩
/-! ### spec_l01Below: function 65 -/
def spec_l01Below.f (s0_0 : List Int) (s0_1 : Int) (s0_2 : Int) (a1 : Int) : Option (Int × Int × Int) := if a1 ≤ 0 then (some (0, s0_1, s0_2)) else (if a1 ≤ 256 then ((spec_l01Byte.f s0_0 s0_1 s0_2).bind fun bt130 => (if a1 = 0 then (none) else (some (Int.tmod bt130.1 a1, bt130.2.1, bt130.2.2)))) else ((spec_l01Byte.f s0_0 s0_1 s0_2).bind fun bt133 => ((spec_l01Byte.f s0_0 bt133.2.1 bt133.2.2).bind fun bt136 => ((spec_l01Byte.f s0_0 bt136.2.1 bt136.2.2).bind fun bt139 => ((spec_l01Byte.f s0_0 bt139.2.1 bt139.2.2).bind fun bt142 => (if a1 = 0 then (none) else (some (Int.tmod (wrap64 ((wrap64 ((wrap64 ((wrap64 (bt133.1 * 16777216)) + (wrap64 (bt136.1 * 65536)))) + (wrap64 (bt139.1 * 256)))) + bt142.1)) a1, bt142.2.1, bt142.2.2))))))))
set_option maxHeartbeats 8000000 in
set_option maxRecDepth 100000 in
theorem spec_l01Below.calls (g : Nat) (s0_0 : List Int) (s0_1 : Int) (s0_2 : Int) (a1 : Int) (r1 : Int) (r2 : Int) (r3 : Int) (w0 w : World) (hI : IsS126 w0 w g s0_0 s0_1 s0_2) (hB : Below w0.heap.size w0 w) (h : spec_l01Below.f s0_0 s0_1 s0_2 a1 = some (r1, r2, r3)) :
    Calls Try.prog 65 #[.pointer (some ⟨g, 0, none⟩), .int .i64 a1] w fun e w' => e = .returned (.int .i64 r1) ∧ IsS126 w0 w' g s0_0 r2 r3 ∧ Below w0.heap.size w0 w' ∧ KeepBut w w' g none := by
 have HI0:=Aside0.mk hI
 have HK:=Aside0.mk (KeepBut.refl w g none)
 have HL:=Aside0.mk hB.size
 clear hI
 have HW0:=Aside0.mk hB.size
 have HB:=Aside0.mk hB
 clear hB
 have H : (if a1 ≤ 0 then (some (0,s0_1,s0_2)) else (if a1 ≤ 256 then ((spec_l01Byte.f s0_0 s0_1 s0_2).bind fun bt130 => (if a1 = 0 then (none) else (some (Int.tmod bt130.1 a1,bt130.2.1,bt130.2.2)))) else ((spec_l01Byte.f s0_0 s0_1 s0_2).bind fun bt133 => ((spec_l01Byte.f s0_0 bt133.2.1 bt133.2.2).bind fun bt136 => ((spec_l01Byte.f s0_0 bt136.2.1 bt136.2.2).bind fun bt139 => ((spec_l01Byte.f s0_0 bt139.2.1 bt139.2.2).bind fun bt142 => (if a1 = 0 then (none) else (some (Int.tmod (wrap64 ((wrap64 ((wrap64 ((wrap64 (bt133.1 * 16777216)) + (wrap64 (bt136.1 * 65536)))) + (wrap64 (bt139.1 * 256)))) + bt142.1)) a1,bt142.2.1,bt142.2.2))))))))) = some (r1,r2,r3):=h
 clear h
 by_cases c3 : a1 ≤ 0
 ·rw [if_pos c3] at H
  have c3b0 : decide (a1 ≤ 0) = true:=decide_eq_true c3
  clear c3
  simp only [Option.some.injEq,Prod.mk.injEq] at H
  obtain ⟨rfl,rfl,rfl⟩:=H
  go_enter Try.func65,Try.ntmps65
  go_wp2
  go_ret
  exact ⟨by first|rfl|(simp [errW_none,errW_some] <;> rfl)|(simp [*,errW_none,errW_some] <;> rfl),by repeat (first|(with_reducible first|exact HI0.out|apply IsS126.alloc|apply IsS126.drewN|apply IsS126.drew|apply IsS126.set_1|apply IsS126.set_2)|exact HI0.out),by repeat (first|(with_reducible first|exact HB.out|apply below_alloc|apply pw_below_drewN|apply below_drew1|refine below_set ?_ (IsS126.ge HI0.out))|exact HB.out),by repeat (first|(with_reducible first|exact HK.out|apply KeepBut.set_|apply keep_drewN|apply keep_drew|apply keep_alloc)|exact HK.out)⟩
 rw [if_neg c3] at H
 have c3b0 : decide (a1 ≤ 0) = false:=decide_eq_false c3
 clear c3
 by_cases c4 : a1 ≤ 256
 ·rw [if_pos c4] at H
  have c4b0 : decide (a1 ≤ 256) = true:=decide_eq_true c4
  clear c4
  replace H:=Option.bind_eq_some_iff.mp H
  obtain ⟨⟨t130,t131,t132⟩,A50,H⟩:=H
  replace H : (if a1 = 0 then (none) else (some (Int.tmod t130 a1,t131,t132))) = some (r1,r2,r3):=H
  have A5:=Aside0.mk A50
  clear A50
  by_cases c6 : a1 = 0
  ·rw [if_pos c6] at H
   exact absurd H (by simp)
  rw [if_neg c6] at H
  have c6b0 : (a1 == 0) = false:=beq_eq_false_iff_ne.mpr c6
  have c6b1 : (a1 != 0) = true:=bne_iff_ne.mpr c6
  simp only [Option.some.injEq,Prod.mk.injEq] at H
  obtain ⟨rfl,rfl,rfl⟩:=H
  go_enter Try.func65,Try.ntmps65
  go_wp2_with (first|((with_reducible refine gate_callee (f:=66) rfl ?_);refine goesL_ (some 14) rfl rfl Try.func66 (by kernel_rfl) rfl #[.pointer (some ⟨g,0,none⟩)] rfl (by (try simp only [List.map_toArray,List.map_cons,List.map_nil]);first|done|rfl|(simp only [List.length_drop,List.length_take];rfl)) ?_;(with_reducible refine (spec_l01Byte.calls g s0_0 s0_1 s0_2 t130 t131 t132 w0 _ ?side1 ?side2 A5.out).mono ?_);(case side1 => repeat (first|(with_reducible first|exact HI0.out|apply IsS126.alloc|apply IsS126.drewN|apply IsS126.drew|apply IsS126.set_1|apply IsS126.set_2)|exact HI0.out));(case side2 => repeat (first|(with_reducible first|exact HB.out|apply below_alloc|apply pw_below_drewN|apply below_drew1|refine below_set ?_ (IsS126.ge HI0.out))|exact HB.out));rintro e w7 ⟨rfl,hi,hb,hk⟩;refine ⟨_,rfl,?_⟩;have n0_:=Aside0.mk (KeepBut.trans (by repeat (first|(with_reducible first|exact HK.out|apply KeepBut.set_|apply keep_drewN|apply keep_drew|apply keep_alloc)|exact HK.out)) hk (.inl rfl));have n1_:=Aside0.mk (hb);have n2_:=Aside0.mk (hi);clear HK;clear HB;clear HI0;have HK:=n0_;have HB:=n1_;have HI0:=n2_;clear n0_ n1_ n2_;(try clear hb);(try clear hb2);(try clear hk);(try clear hi)))
  go_ret
  exact ⟨by first|rfl|(simp [errW_none,errW_some] <;> rfl)|(simp [*,errW_none,errW_some] <;> rfl),by repeat (first|(with_reducible first|exact HI0.out|apply IsS126.alloc|apply IsS126.drewN|apply IsS126.drew|apply IsS126.set_1|apply IsS126.set_2)|exact HI0.out),by repeat (first|(with_reducible first|exact HB.out|apply below_alloc|apply pw_below_drewN|apply below_drew1|refine below_set ?_ (IsS126.ge HI0.out))|exact HB.out),by repeat (first|(with_reducible first|exact HK.out|apply KeepBut.set_|apply keep_drewN|apply keep_drew|apply keep_alloc)|exact HK.out)⟩
 rw [if_neg c4] at H
 have c4b0 : decide (a1 ≤ 256) = false:=decide_eq_false c4
 clear c4
 replace H:=Option.bind_eq_some_iff.mp H
 obtain ⟨⟨t133,t134,t135⟩,A80,H⟩:=H
 replace H : ((spec_l01Byte.f s0_0 t134 t135).bind fun bt136 => ((spec_l01Byte.f s0_0 bt136.2.1 bt136.2.2).bind fun bt139 => ((spec_l01Byte.f s0_0 bt139.2.1 bt139.2.2).bind fun bt142 => (if a1 = 0 then (none) else (some (Int.tmod (wrap64 ((wrap64 ((wrap64 ((wrap64 (t133 * 16777216)) + (wrap64 (bt136.1 * 65536)))) + (wrap64 (bt139.1 * 256)))) + bt142.1)) a1,bt142.2.1,bt142.2.2)))))) = some (r1,r2,r3):=H
 have A8:=Aside0.mk A80
 clear A80
 replace H:=Option.bind_eq_some_iff.mp H
 obtain ⟨⟨t136,t137,t138⟩,A90,H⟩:=H
 replace H : ((spec_l01Byte.f s0_0 t137 t138).bind fun bt139 => ((spec_l01Byte.f s0_0 bt139.2.1 bt139.2.2).bind fun bt142 => (if a1 = 0 then (none) else (some (Int.tmod (wrap64 ((wrap64 ((wrap64 ((wrap64 (t133 * 16777216)) + (wrap64 (t136 * 65536)))) + (wrap64 (bt139.1 * 256)))) + bt142.1)) a1,bt142.2.1,bt142.2.2))))) = some (r1,r2,r3):=H
 have A9:=Aside0.mk A90
 clear A90
 replace H:=Option.bind_eq_some_iff.mp H
 obtain ⟨⟨t139,t140,t141⟩,A100,H⟩:=H
 replace H : ((spec_l01Byte.f s0_0 t140 t141).bind fun bt142 => (if a1 = 0 then (none) else (some (Int.tmod (wrap64 ((wrap64 ((wrap64 ((wrap64 (t133 * 16777216)) + (wrap64 (t136 * 65536)))) + (wrap64 (t139 * 256)))) + bt142.1)) a1,bt142.2.1,bt142.2.2)))) = some (r1,r2,r3):=H
 have A10:=Aside0.mk A100
 clear A100
 replace H:=Option.bind_eq_some_iff.mp H
 obtain ⟨⟨t142,t143,t144⟩,A110,H⟩:=H
 replace H : (if a1 = 0 then (none) else (some (Int.tmod (wrap64 ((wrap64 ((wrap64 ((wrap64 (t133 * 16777216)) + (wrap64 (t136 * 65536)))) + (wrap64 (t139 * 256)))) + t142)) a1,t143,t144))) = some (r1,r2,r3):=H
 have A11:=Aside0.mk A110
 clear A110
 by_cases c12 : a1 = 0
 ·rw [if_pos c12] at H
  exact absurd H (by simp)
 rw [if_neg c12] at H
 have c12b0 : (a1 == 0) = false:=beq_eq_false_iff_ne.mpr c12
 have c12b1 : (a1 != 0) = true:=bne_iff_ne.mpr c12
 simp only [Option.some.injEq,Prod.mk.injEq] at H
 obtain ⟨rfl,rfl,rfl⟩:=H
 go_enter Try.func65,Try.ntmps65
 go_wp2_with (first|((with_reducible refine gate_callee (f:=66) rfl ?_);refine goesL_ (some 18) rfl rfl Try.func66 (by kernel_rfl) rfl #[.pointer (some ⟨g,0,none⟩)] rfl (by (try simp only [List.map_toArray,List.map_cons,List.map_nil]);first|done|rfl|(simp only [List.length_drop,List.length_take];rfl)) ?_;(with_reducible refine (spec_l01Byte.calls g s0_0 s0_1 s0_2 t133 t134 t135 w0 _ ?side1 ?side2 A8.out).mono ?_);(case side1 => repeat (first|(with_reducible first|exact HI0.out|apply IsS126.alloc|apply IsS126.drewN|apply IsS126.drew|apply IsS126.set_1|apply IsS126.set_2)|exact HI0.out));(case side2 => repeat (first|(with_reducible first|exact HB.out|apply below_alloc|apply pw_below_drewN|apply below_drew1|refine below_set ?_ (IsS126.ge HI0.out))|exact HB.out));rintro e w13 ⟨rfl,hi,hb,hk⟩;refine ⟨_,rfl,?_⟩;have n0_:=Aside0.mk (KeepBut.trans (by repeat (first|(with_reducible first|exact HK.out|apply KeepBut.set_|apply keep_drewN|apply keep_drew|apply keep_alloc)|exact HK.out)) hk (.inl rfl));have n1_:=Aside0.mk (hb);have n2_:=Aside0.mk (hi);clear HK;clear HB;clear HI0;have HK:=n0_;have HB:=n1_;have HI0:=n2_;clear n0_ n1_ n2_;(try clear hb);(try clear hb2);(try clear hk);(try clear hi))|((with_reducible refine gate_callee (f:=66) rfl ?_);refine goesL_ (some 20) rfl rfl Try.func66 (by kernel_rfl) rfl #[.pointer (some ⟨g,0,none⟩)] rfl (by (try simp only [List.map_toArray,List.map_cons,List.map_nil]);first|done|rfl|(simp only [List.length_drop,List.length_take];rfl)) ?_;(with_reducible refine (spec_l01Byte.calls g s0_0 t134 t135 t136 t137 t138 w0 _ ?side1 ?side2 A9.out).mono ?_);(case side1 => repeat (first|(with_reducible first|exact HI0.out|apply IsS126.alloc|apply IsS126.drewN|apply IsS126.drew|apply IsS126.set_1|apply IsS126.set_2)|exact HI0.out));(case side2 => repeat (first|(with_reducible first|exact HB.out|apply below_alloc|apply pw_below_drewN|apply below_drew1|refine below_set ?_ (IsS126.ge HI0.out))|exact HB.out));rintro e w14 ⟨rfl,hi,hb,hk⟩;refine ⟨_,rfl,?_⟩;have n0_:=Aside0.mk (KeepBut.trans (by repeat (first|(with_reducible first|exact HK.out|apply KeepBut.set_|apply keep_drewN|apply keep_drew|apply keep_alloc)|exact HK.out)) hk (.inl rfl));have n1_:=Aside0.mk (hb);have n2_:=Aside0.mk (hi);clear HK;clear HB;clear HI0;have HK:=n0_;have HB:=n1_;have HI0:=n2_;clear n0_ n1_ n2_;(try clear hb);(try clear hb2);(try clear hk);(try clear hi))|((with_reducible refine gate_callee (f:=66) rfl ?_);refine goesL_ (some 22) rfl rfl Try.func66 (by kernel_rfl) rfl #[.pointer (some ⟨g,0,none⟩)] rfl (by (try simp only [List.map_toArray,List.map_cons,List.map_nil]);first|done|rfl|(simp only [List.length_drop,List.length_take];rfl)) ?_;(with_reducible refine (spec_l01Byte.calls g s0_0 t137 t138 t139 t140 t141 w0 _ ?side1 ?side2 A10.out).mono ?_);(case side1 => repeat (first|(with_reducible first|exact HI0.out|apply IsS126.alloc|apply IsS126.drewN|apply IsS126.drew|apply IsS126.set_1|apply IsS126.set_2)|exact HI0.out));(case side2 => repeat (first|(with_reducible first|exact HB.out|apply below_alloc|apply pw_below_drewN|apply below_drew1|refine below_set ?_ (IsS126.ge HI0.out))|exact HB.out));rintro e w15 ⟨rfl,hi,hb,hk⟩;refine ⟨_,rfl,?_⟩;have n0_:=Aside0.mk (KeepBut.trans (by repeat (first|(with_reducible first|exact HK.out|apply KeepBut.set_|apply keep_drewN|apply keep_drew|apply keep_alloc)|exact HK.out)) hk (.inl rfl));have n1_:=Aside0.mk (hb);have n2_:=Aside0.mk (hi);clear HK;clear HB;clear HI0;have HK:=n0_;have HB:=n1_;have HI0:=n2_;clear n0_ n1_ n2_;(try clear hb);(try clear hb2);(try clear hk);(try clear hi))|((with_reducible refine gate_callee (f:=66) rfl ?_);refine goesL_ (some 24) rfl rfl Try.func66 (by kernel_rfl) rfl #[.pointer (some ⟨g,0,none⟩)] rfl (by (try simp only [List.map_toArray,List.map_cons,List.map_nil]);first|done|rfl|(simp only [List.length_drop,List.length_take];rfl)) ?_;(with_reducible refine (spec_l01Byte.calls g s0_0 t140 t141 t142 t143 t144 w0 _ ?side1 ?side2 A11.out).mono ?_);(case side1 => repeat (first|(with_reducible first|exact HI0.out|apply IsS126.alloc|apply IsS126.drewN|apply IsS126.drew|apply IsS126.set_1|apply IsS126.set_2)|exact HI0.out));(case side2 => repeat (first|(with_reducible first|exact HB.out|apply below_alloc|apply pw_below_drewN|apply below_drew1|refine below_set ?_ (IsS126.ge HI0.out))|exact HB.out));rintro e w16 ⟨rfl,hi,hb,hk⟩;refine ⟨_,rfl,?_⟩;have n0_:=Aside0.mk (KeepBut.trans (by repeat (first|(with_reducible first|exact HK.out|apply KeepBut.set_|apply keep_drewN|apply keep_drew|apply keep_alloc)|exact HK.out)) hk (.inl rfl));have n1_:=Aside0.mk (hb);have n2_:=Aside0.mk (hi);clear HK;clear HB;clear HI0;have HK:=n0_;have HB:=n1_;have HI0:=n2_;clear n0_ n1_ n2_;(try clear hb);(try clear hb2);(try clear hk);(try clear hi)))
 go_ret
 exact ⟨by first|rfl|(simp [errW_none,errW_some] <;> rfl)|(simp [*,errW_none,errW_some] <;> rfl),by repeat (first|(with_reducible first|exact HI0.out|apply IsS126.alloc|apply IsS126.drewN|apply IsS126.drew|apply IsS126.set_1|apply IsS126.set_2)|exact HI0.out),by repeat (first|(with_reducible first|exact HB.out|apply below_alloc|apply pw_below_drewN|apply below_drew1|refine below_set ?_ (IsS126.ge HI0.out))|exact HB.out),by repeat (first|(with_reducible first|exact HK.out|apply KeepBut.set_|apply keep_drewN|apply keep_drew|apply keep_alloc)|exact HK.out)⟩
/-! ### spec_DrawWhole: function 36 -/
mutual
def spec_DrawWhole.l0 : Nat → List Int → Int → List Int → Int → Int → Option (List Int)
  | 0, _, _, _, _, _ => none
  | k + 1, x4, x5, x149000, x149001, x149002 => (spec_l01Below.f x149000 x149001 x149002 14).bind fun bt152 => (if x5 < bt152.1 then ((spec_l01Below.f x149000 bt152.2.1 bt152.2.2 (x4.length : Int)).bind fun bt155 => (if 0 ≤ bt155.1 then (if bt155.1 < (x4.length : Int) then (if (rd x4 bt155.1) < 15 then ((some (x4.set (bt155.1 : Int).toNat (wrap64 ((rd x4 bt155.1) + 1)) : List Int)).bind fun y160 => (if y160.length < 17592186044416 then (spec_DrawWhole.l0 k (y160 ++ [rd y160 bt155.1]) (wrap64 (x5 + 1)) x149000 bt155.2.1 bt155.2.2) else (none))) else (spec_DrawWhole.l0 k x4 (wrap64 (x5 + 1)) x149000 bt155.2.1 bt155.2.2)) else (none)) else (none))) else (spec_DrawWhole.l1 k x4 0 x149000 bt152.2.1 bt152.2.2))
def spec_DrawWhole.l1 : Nat → List Int → Int → List Int → Int → Int → Option (List Int)
  | 0, _, _, _, _, _ => none
  | k + 1, x4, x7, x149000, x149001, x149002 => if x7 < (x4.length : Int) then ((spec_l01Below.f x149000 x149001 x149002 (x4.length : Int)).bind fun bt165 => (if 0 ≤ x7 then (if 0 ≤ bt165.1 then (if bt165.1 < (x4.length : Int) then (spec_DrawWhole.l1 k ((x4.set (x7 : Int).toNat (rd x4 bt165.1)).set (bt165.1 : Int).toNat (rd x4 x7)) (wrap64 (x7 + 1)) x149000 bt165.2.1 bt165.2.2) else (none)) else (none)) else (none))) else (some x4)
end
def spec_DrawWhole.f (k : Nat) (l0 : List Int) : Option (List Int) := (spec_l01New.f k l0).bind fun bt145 => (spec_DrawWhole.l0 k (([1, 1] : List Int)) 0 bt145.1 bt145.2.1 bt145.2.2)
theorem spec_DrawWhole.mono_l : ∀ k, (∀ y0 y1 y2 y3 y4, LeO (spec_DrawWhole.l0 k y0 y1 y2 y3 y4) (spec_DrawWhole.l0 (k + 1) y0 y1 y2 y3 y4)) ∧ (∀ y0 y1 y2 y3 y4, LeO (spec_DrawWhole.l1 k y0 y1 y2 y3 y4) (spec_DrawWhole.l1 (k + 1) y0 y1 y2 y3 y4))
  | 0 => ⟨fun _ _ _ _ _ r h => by simp [spec_DrawWhole.l0] at h, fun _ _ _ _ _ r h => by simp [spec_DrawWhole.l1] at h⟩
  | k + 1 => by
    obtain ⟨ih0, ih1⟩ := spec_DrawWhole.mono_l k
    refine ⟨?_, ?_⟩
    · intro y0 y1 y2 y3 y4
      unfold spec_DrawWhole.l0
      repeat' first
      | (with_reducible exact ih0 _ _ _ _ _)
      | (with_reducible exact ih1 _ _ _ _ _)
      | (with_reducible exact spec_l01New.mono _ _)
      | (with_reducible exact LeO.refl _)
      | (with_reducible exact LeO.none _)
      | (with_reducible refine LeO.ite ?_ ?_)
      | (with_reducible refine LeO.bind ?_ (fun _ => ?_))
      | exact ih0 _ _ _ _ _
      | exact ih1 _ _ _ _ _
      | exact spec_l01New.mono _ _
      | exact LeO.none _
      | refine LeO.ite ?_ ?_
      | refine LeO.bind ?_ (fun _ => ?_)
    · intro y0 y1 y2 y3 y4
      unfold spec_DrawWhole.l1
      repeat' first
      | (with_reducible exact ih0 _ _ _ _ _)
      | (with_reducible exact ih1 _ _ _ _ _)
      | (with_reducible exact spec_l01New.mono _ _)
      | (with_reducible exact LeO.refl _)
      | (with_reducible exact LeO.none _)
      | (with_reducible refine LeO.ite ?_ ?_)
      | (with_reducible refine LeO.bind ?_ (fun _ => ?_))
      | exact ih0 _ _ _ _ _
      | exact ih1 _ _ _ _ _
      | exact spec_l01New.mono _ _
      | exact LeO.none _
      | refine LeO.ite ?_ ?_
      | refine LeO.bind ?_ (fun _ => ?_)
theorem spec_DrawWhole.mono : ∀ a0 k, LeO (spec_DrawWhole.f k a0) (spec_DrawWhole.f (k + 1) a0) := by
  intro a0 k
  obtain ⟨ih0, ih1⟩ := spec_DrawWhole.mono_l k
  unfold spec_DrawWhole.f
  repeat' first
      | (with_reducible exact ih0 _ _ _ _ _)
      | (with_reducible exact ih1 _ _ _ _ _)
      | (with_reducible exact spec_l01New.mono _ _)
      | (with_reducible exact LeO.refl _)
      | (with_reducible exact LeO.none _)
      | (with_reducible refine LeO.ite ?_ ?_)
      | (with_reducible refine LeO.bind ?_ (fun _ => ?_))
      | exact ih0 _ _ _ _ _
      | exact ih1 _ _ _ _ _
      | exact spec_l01New.mono _ _
      | exact LeO.none _
      | refine LeO.ite ?_ ?_
      | refine LeO.bind ?_ (fun _ => ?_)
set_option maxHeartbeats 8000000 in
set_option maxRecDepth 100000 in
theorem spec_DrawWhole.calls (k : Nat) (A0 : Option Addr) (c0 : Nat) (l0 : List Int) (r : List Int) (w : World) (hr0 : Kd.C (Kd.int .u8) w A0 l0.length l0) (hc0 : l0.length ≤ c0) (h : spec_DrawWhole.f k l0 = some r) :
    Calls Try.prog 36 #[.slice A0 l0.length c0] w fun e w' => ∃ v0_ : Value, e = .returned (v0_) ∧ Kd.R (Kd.int .i64) 3 w' w.heap.size (fun _ => True) v0_ r ∧ Below w.heap.size w w' := by
 have HR0:=Aside0.mk hr0
 have HC0:=Aside0.mk hc0
 clear hr0 hc0
 have HB:=Aside0.mk (Below.refl w.heap.size w)
 have H : ((spec_l01New.f k l0).bind fun bt145 => (spec_DrawWhole.l0 k (([1,1] : List Int)) 0 bt145.1 bt145.2.1 bt145.2.2)) = some r:=h
 clear h
 replace H:=Option.bind_eq_some_iff.mp H
 obtain ⟨⟨t145,t146,t147⟩,A20,H⟩:=H
 replace H : (spec_DrawWhole.l0 k (([1,1] : List Int)) 0 t145 t146 t147) = some r:=H
 have A2:=Aside0.mk A20
 clear A20
 obtain ⟨y149,hy149⟩ : ∃ y_ : List Int,y_ = (([1,1] : List Int)):=⟨_,rfl⟩
 replace H : (spec_DrawWhole.l0 k y149 0 t145 t146 t147) = some r:=by first|(rw [hy149];with_reducible exact H)|(have H2_:=(Option.bind_some _ _).symm.trans H;rw [hy149];with_reducible exact H2_)|(have H2_:=(Option.bind_some _ _).symm.trans H;with_reducible exact H2_)|with_reducible exact H|(rw [hy149];exact H)|exact H
 have Ny149:=Aside0.mk hy149
 clear hy149
 have H':=Aside0.mk H
 clear H
 go_enter Try.func36,Try.ntmps36
 go_wp2_with (first|((with_reducible refine gate_callee (f:=56) rfl ?_);refine goesL_ (some 11) rfl rfl Try.func56 (by kernel_rfl) rfl #[.slice A0 l0.length c0] rfl (by (try simp only [List.map_toArray,List.map_cons,List.map_nil]);first|done|rfl|(simp only [List.length_drop,List.length_take];rfl)) ?_;(with_reducible refine (spec_l01New.calls k _ _ l0 t145 t146 t147 w _ ?side1 ?side2 ?side3 A2.out).mono ?_);(case side1 => repeat (first|(with_reducible first|exact HB.out|apply below_alloc|apply pw_below_drewN|apply below_drew1)|exact HB.out));(case side2 => exact HR0.out);(case side3 => exact HC0.out);rintro e w3 ⟨g148,rfl,hi,hb,hb2⟩;refine ⟨_,rfl,?_⟩;have n0_:=Aside0.mk (hb);have n1_:=Aside0.mk (hi);clear HB;have HB:=n0_;have HI148:=n1_;clear n0_ n1_;(try clear hb);(try clear hb2);(try clear hk);(try clear hi))|((with_reducible refine gate_dst (N:=12) rfl ?_);refine Kd.R_lit (Kd.int .i64) _ 3 ?hg (N:=12) ?hd (xs:=([1,1] : List Int)) (inner:=[.int .i64 1,.int .i64 1]) (ok:=fun _ => True) (okp:=fun _ => True) ?hr ?hp (fun _ hk => hk) trivial (Below.refl _ _) (Nat.le_refl _) (by simp) ?_;(case hd => rfl);(case hg => rfl);(case hr => first|(go_simp;done)|(go_simp;rfl));(case hp => exact (Reps.one (show Kd.M (Kd.int .i64) _ _ _ 1 [.int .i64 1] from rfl) (Reps.one (show Kd.M (Kd.int .i64) _ _ _ 1 [.int .i64 1] from rfl) (Reps.none _ _))));intro v150 w4 ho5 hb hg_ hnew_;clear hg_ hnew_;(first|rw [← Ny149.out] at ho5|(simp only [Int.reduceToNat] at ho5;rw [← Ny149.out] at ho5));have n0_:=Aside0.mk (Kd.R_lower ho5 (below_size (by repeat (first|(with_reducible first|exact HB.out|apply below_alloc|apply pw_below_drewN|apply below_drew1|refine below_set ?_ (IsS126.ge HI148.out))|exact HB.out))));have n1_:=Aside0.mk (IsS126.below (by repeat (first|(with_reducible first|exact HI148.out|apply IsS126.alloc|apply IsS126.drewN|apply IsS126.drew|apply IsS126.set_1|apply IsS126.set_2)|exact HI148.out)) hb);have n2_:=Aside0.mk (below_step (by repeat (first|(with_reducible first|exact HB.out|apply below_alloc|apply pw_below_drewN|apply below_drew1|refine below_set ?_ (IsS126.ge HI148.out))|exact HB.out)) hb);clear HI148;clear HB;have HO151:=n0_;have HI148:=n1_;have HB:=n2_;clear n0_ n1_ n2_;clear hb ho5))
 go_loopg [4,5] k (fun kq v4 v5 w' => ∃ (x4_1 : List Int) (x5_1 : Int) (x149001_1 : Int) (x149002_1 : Int),v5 = .int .i64 x5_1∧Aside0 (spec_DrawWhole.l0 kq x4_1 x5_1 t145 x149001_1 x149002_1 = some r)∧Aside0 (kq ≤ k)∧Aside0 (Kd.R (Kd.int .i64) 3 w' w.heap.size (fun _ => True) v4 x4_1)∧Aside0 (IsS126 w w' g148 t145 x149001_1 x149002_1)∧Aside0 (Below w.heap.size w w'))
 case atStart => exact ⟨(y149),(0),(t146),(t147),(by first|rfl|(simp;done)|(simp [*];done)),H',⟨Nat.le_refl _⟩,⟨by (with_reducible repeat (first|apply Kd.R_alloc|apply Kd.R_drewN|apply Kd.R_drew));exact HO151.out⟩,⟨by repeat (first|(with_reducible first|exact HI148.out|apply IsS126.alloc|apply IsS126.drewN|apply IsS126.drew|apply IsS126.set_1|apply IsS126.set_2)|exact HI148.out)⟩,⟨by repeat (first|(with_reducible first|exact HB.out|apply below_alloc|apply pw_below_drewN|apply below_drew1|refine below_set ?_ (IsS126.ge HI148.out))|exact HB.out)⟩⟩
 case round =>
  clear H'
  obtain ⟨x4_1,x5_1,x149001_1,x149002_1,rfl,HA,HK1,HO_4,HI148,HB⟩:=hrel
  cases gk with
  | zero => exact absurd HA.out (by simp [spec_DrawWhole.l0])
  | succ k1 =>
   have H:=HA.out
   clear HA
   simp only [spec_DrawWhole.l0] at H
   replace H:=Option.bind_eq_some_iff.mp H
   obtain ⟨⟨t152,t153,t154⟩,A60,H⟩:=H
   replace H : (if x5_1 < t152 then ((spec_l01Below.f t145 t153 t154 (x4_1.length : Int)).bind fun bt155 => (if 0 ≤ bt155.1 then (if bt155.1 < (x4_1.length : Int) then (if (rd x4_1 bt155.1) < 15 then ((some (x4_1.set (bt155.1 : Int).toNat (wrap64 ((rd x4_1 bt155.1) + 1)) : List Int)).bind fun y160 => (if y160.length < 17592186044416 then (spec_DrawWhole.l0 k1 (y160 ++ [rd y160 bt155.1]) (wrap64 (x5_1 + 1)) t145 bt155.2.1 bt155.2.2) else (none))) else (spec_DrawWhole.l0 k1 x4_1 (wrap64 (x5_1 + 1)) t145 bt155.2.1 bt155.2.2)) else (none)) else (none))) else (spec_DrawWhole.l1 k1 x4_1 0 t145 t153 t154)) = some r:=H
   have A6:=Aside0.mk A60
   clear A60
   by_cases c7 : x5_1 < t152
   rotate_left
   ·rw [if_neg c7] at H
    have c7b0 : decide (x5_1 < t152) = false:=decide_eq_false c7
    clear c7
    have H':=Aside0.mk H
    clear H
    go_wp2_with (first|((with_reducible refine gate_callee (f:=65) rfl ?_);refine goesL_ (some 15) rfl rfl Try.func65 (by kernel_rfl) rfl #[.pointer (some ⟨g148,0,none⟩),.int .i64 14] rfl (by (try simp only [List.map_toArray,List.map_cons,List.map_nil]);first|done|rfl|(simp only [List.length_drop,List.length_take];rfl)) ?_;(with_reducible refine (spec_l01Below.calls g148 t145 x149001_1 x149002_1 14 t152 t153 t154 w _ ?side1 ?side2 A6.out).mono ?_);(case side1 => repeat (first|(with_reducible first|exact HI148.out|apply IsS126.alloc|apply IsS126.drewN|apply IsS126.drew|apply IsS126.set_1|apply IsS126.set_2)|exact HI148.out));(case side2 => repeat (first|(with_reducible first|exact HB.out|apply below_alloc|apply pw_below_drewN|apply below_drew1|refine below_set ?_ (IsS126.ge HI148.out))|exact HB.out));rintro e w23 ⟨rfl,hi,hb,hk⟩;refine ⟨_,rfl,?_⟩;have n0_:=Aside0.mk (Kd.R_mono (Kd.R_keep (IsS126.apart (show IsS126 w _ g148 t145 x149001_1 x149002_1 from by repeat (first|(with_reducible first|exact HI148.out|apply IsS126.alloc|apply IsS126.drewN|apply IsS126.drew|apply IsS126.set_1|apply IsS126.set_2)|exact HI148.out)) (by (with_reducible repeat (first|apply Kd.R_alloc|apply Kd.R_drewN|apply Kd.R_drew));exact HO_4.out) (by decide)) hk (fun _ h => h.2)) (fun _ h => h.1));have n1_:=Aside0.mk (hb);have n2_:=Aside0.mk (hi);clear HO_4;clear HB;clear HI148;have HO_4:=n0_;have HB:=n1_;have HI148:=n2_;clear n0_ n1_ n2_;(try clear hb);(try clear hb2);(try clear hk);(try clear hi)))
    go_loopg [7] k1 (fun kq v7 w' => ∃ (x4_2 : List Int) (x7_2 : Int) (x149001_2 : Int) (x149002_2 : Int),v7 = .int .i64 x7_2∧Aside0 (spec_DrawWhole.l1 kq x4_2 x7_2 t145 x149001_2 x149002_2 = some r)∧Aside0 (kq ≤ k1)∧Aside0 (Kd.R (Kd.int .i64) 3 w' w.heap.size (fun _ => True) u4 x4_2)∧Aside0 (IsS126 w w' g148 t145 x149001_2 x149002_2)∧Aside0 (Below w.heap.size w w'))
    case atStart => exact ⟨(x4_1),(0),(t153),(t154),(by first|rfl|(simp;done)|(simp [*];done)),H',⟨Nat.le_refl _⟩,⟨by (with_reducible repeat (first|apply Kd.R_alloc|apply Kd.R_drewN|apply Kd.R_drew));exact HO_4.out⟩,⟨by repeat (first|(with_reducible first|exact HI148.out|apply IsS126.alloc|apply IsS126.drewN|apply IsS126.drew|apply IsS126.set_1|apply IsS126.set_2)|exact HI148.out)⟩,⟨by repeat (first|(with_reducible first|exact HB.out|apply below_alloc|apply pw_below_drewN|apply below_drew1|refine below_set ?_ (IsS126.ge HI148.out))|exact HB.out)⟩⟩
    case round =>
     clear H'
     obtain ⟨x4_2,x7_2,x149001_2,x149002_2,rfl,HA,HK2,HO_4,HI148,HB⟩:=hrel
     cases gk with
     | zero => exact absurd HA.out (by simp [spec_DrawWhole.l1])
     | succ k2 =>
      have H:=HA.out
      clear HA
      simp only [spec_DrawWhole.l1] at H
      by_cases c24 : x7_2 < (x4_2.length : Int)
      rotate_left
      ·rw [if_neg c24] at H
       have c24b0 : decide (x7_2 < (x4_2.length : Int)) = false:=decide_eq_false c24
       clear c24
       obtain rfl:=Option.some.inj H
       obtain ⟨Ao37,co37,eo37⟩:=Kd.R_slice HO_4.out
       subst eo37
       go_wp2
       go_ret
       exact ⟨_,by first|rfl|(simp [errW_none,errW_some] <;> rfl)|(simp [*,errW_none,errW_some] <;> rfl),by (with_reducible repeat (first|apply Kd.R_alloc|apply Kd.R_drewN|apply Kd.R_drew));exact HO_4.out,by repeat (first|(with_reducible first|exact HB.out|apply below_alloc|apply pw_below_drewN|apply below_drew1|refine below_set ?_ (IsS126.ge HI148.out))|exact HB.out)⟩
      rw [if_pos c24] at H
      have c24b0 : decide (x7_2 < (x4_2.length : Int)) = true:=decide_eq_true c24
      clear c24
      replace H:=Option.bind_eq_some_iff.mp H
      obtain ⟨⟨t165,t166,t167⟩,A250,H⟩:=H
      replace H : (if 0 ≤ x7_2 then (if 0 ≤ t165 then (if t165 < (x4_2.length : Int) then (spec_DrawWhole.l1 k2 ((x4_2.set (x7_2 : Int).toNat (rd x4_2 t165)).set (t165 : Int).toNat (rd x4_2 x7_2)) (wrap64 (x7_2 + 1)) t145 t166 t167) else (none)) else (none)) else (none)) = some r:=H
      have A25:=Aside0.mk A250
      clear A250
      by_cases c26 : 0 ≤ x7_2
      rotate_left
      ·rw [if_neg c26] at H
       exact absurd H (by simp)
      rw [if_pos c26] at H
      have c26b0 : decide (0 ≤ x7_2) = true:=decide_eq_true c26
      clear c26
      by_cases c27 : 0 ≤ t165
      rotate_left
      ·rw [if_neg c27] at H
       exact absurd H (by simp)
      rw [if_pos c27] at H
      have c27b0 : decide (0 ≤ t165) = true:=decide_eq_true c27
      clear c27
      by_cases c28 : t165 < (x4_2.length : Int)
      rotate_left
      ·rw [if_neg c28] at H
       exact absurd H (by simp)
      rw [if_pos c28] at H
      have c28b0 : decide (t165 < (x4_2.length : Int)) = true:=decide_eq_true c28
      clear c28
      obtain ⟨y170,hy170⟩ : ∃ y_ : List Int,y_ = (x4_2.set (x7_2 : Int).toNat (rd x4_2 t165)):=⟨_,rfl⟩
      replace H : (spec_DrawWhole.l1 k2 (y170.set (t165 : Int).toNat (rd x4_2 x7_2)) (wrap64 (x7_2 + 1)) t145 t166 t167) = some r:=by first|(rw [hy170];with_reducible exact H)|(have H2_:=(Option.bind_some _ _).symm.trans H;rw [hy170];with_reducible exact H2_)|(have H2_:=(Option.bind_some _ _).symm.trans H;with_reducible exact H2_)|with_reducible exact H|(rw [hy170];exact H)|exact H
      have Ny170:=Aside0.mk hy170
      clear hy170
      obtain ⟨y171,hy171⟩ : ∃ y_ : List Int,y_ = (y170.set (t165 : Int).toNat (rd x4_2 x7_2)):=⟨_,rfl⟩
      replace H : (spec_DrawWhole.l1 k2 y171 (wrap64 (x7_2 + 1)) t145 t166 t167) = some r:=by first|(rw [hy171];with_reducible exact H)|(have H2_:=(Option.bind_some _ _).symm.trans H;rw [hy171];with_reducible exact H2_)|(have H2_:=(Option.bind_some _ _).symm.trans H;with_reducible exact H2_)|with_reducible exact H|(rw [hy171];exact H)|exact H
      have Ny171:=Aside0.mk hy171
      clear hy171
      have H':=Aside0.mk H
      clear H
      obtain ⟨Ao31,co31,eo31⟩:=Kd.R_slice HO_4.out
      subst eo31
      go_wp2_with (first|((with_reducible refine gate_callee (f:=65) rfl ?_);refine goesL_ (some 52) rfl rfl Try.func65 (by kernel_rfl) rfl #[.pointer (some ⟨g148,0,none⟩),.int .i64 (x4_2.length : Int)] rfl (by (try simp only [List.map_toArray,List.map_cons,List.map_nil]);first|done|rfl|(simp only [List.length_drop,List.length_take];rfl)) ?_;(with_reducible refine (spec_l01Below.calls g148 t145 x149001_2 x149002_2 (x4_2.length : Int) t165 t166 t167 w _ ?side1 ?side2 A25.out).mono ?_);(case side1 => repeat (first|(with_reducible first|exact HI148.out|apply IsS126.alloc|apply IsS126.drewN|apply IsS126.drew|apply IsS126.set_1|apply IsS126.set_2)|exact HI148.out));(case side2 => repeat (first|(with_reducible first|exact HB.out|apply below_alloc|apply pw_below_drewN|apply below_drew1|refine below_set ?_ (IsS126.ge HI148.out))|exact HB.out));rintro e w32 ⟨rfl,hi,hb,hk⟩;refine ⟨_,rfl,?_⟩;have n0_:=Aside0.mk (Kd.R_mono (Kd.R_keep (IsS126.apart (show IsS126 w _ g148 t145 x149001_2 x149002_2 from by repeat (first|(with_reducible first|exact HI148.out|apply IsS126.alloc|apply IsS126.drewN|apply IsS126.drew|apply IsS126.set_1|apply IsS126.set_2)|exact HI148.out)) (by (with_reducible repeat (first|apply Kd.R_alloc|apply Kd.R_drewN|apply Kd.R_drew));exact HO_4.out) (by decide)) hk (fun _ h => h.2)) (fun _ h => h.1));have n1_:=Aside0.mk (hb);have n2_:=Aside0.mk (hi);clear HO_4;clear HB;clear HI148;have HO_4:=n0_;have HB:=n1_;have HI148:=n2_;clear n0_ n1_ n2_;(try clear hb);(try clear hb2);(try clear hk);(try clear hi);have p168 : 0 ≤ (x7_2 : Int):=of_decide_eq_true (by assumption);have q168 : x7_2 < (x4_2.length : Int):=of_decide_eq_true (by assumption);obtain ⟨ad168,e168,hx168_0⟩:=Kd.at_int (Kd.R_reads' HO_4.out).2.2 x7_2 p168 q168;cases e168;replace p168:=eq_true p168;replace q168:=eq_true q168;have p169 : 0 ≤ (t165 : Int):=of_decide_eq_true (by assumption);have q169 : t165 < (x4_2.length : Int):=of_decide_eq_true (by assumption);obtain ⟨ad169,e169,hx169_0⟩:=Kd.at_int (Kd.R_reads' HO_4.out).2.2 t165 p169 q169;obtain rfl : ad168 = ad169:=(by injection e169);replace p169:=eq_true p169;replace q169:=eq_true q169;have p29 : 0 ≤ (x7_2 : Int):=of_decide_eq_true (by assumption);have q29 : (x7_2 : Int) < ((x4_2.length : Int) : Int):=of_decide_eq_true (by assumption);obtain ⟨go29,co29,eo29,gb29,gl29,cl29,HG29⟩:=Kd.R_form HO_4.out (by omega);(first|cases eo29|(injection eo29 with ea_ en_ ec_;(first|subst ea_|(injection ea_ with ea_;subst ea_));subst ec_;clear en_));have GB29:=Aside0.mk gb29;have GG29:=Aside0.mk HG29;clear gb29 gl29 HG29;(first|simp only [add_plain] at hx168_0|skip);(first|simp only [add_plain] at hx169_0|skip);obtain ⟨hx29_0,hf29_0⟩:=Kd.R_celln 0 HO_4.out (x7_2 : Int) p29 q29;replace p29:=eq_true p29;replace q29:=eq_true q29;obtain ⟨hy33_,hz33_⟩:=Kd.R_celln 0 HO_4.out (x7_2 : Int) (of_decide_eq_true (by assumption)) (of_decide_eq_true (by assumption));have HP33:=Kd.R_putg HO_4.out (x7_2 : Int) (rd x4_2 t165))|((with_reducible refine gate_store (t:=3) (p:=63) rfl ?_);refine store_event (t:=3) (p:=63) (v:=?vo_w34) (w1:=(w32.setCell ⟨go29,(x7_2 : Int).toNat,none⟩ (.int .i64 (rd x4_2 t165)))) ?hg ?ho ?hn ?hr ?_;(case ho => rfl);(case hg => rfl);(case hn => rfl);(case hr => first|(go_simp;done)|(go_simp;rfl));intro w34 hw;have hg : w32.grownBy w34 (some go29):=(by rw [hw];exact HP33.2);have hp_ : Kd.R (Kd.int .i64) 3 w34 w.heap.size (fun _ => True) (.slice (some ⟨go29,0,none⟩) x4_2.length co31) y170:=(by rw [hw,Ny170.out];exact HP33.1);clear HP33;have n0_:=Aside0.mk (hp_);have n1_:=Aside0.mk (IsS126.grown (by repeat (first|(with_reducible first|exact HI148.out|apply IsS126.alloc|apply IsS126.drewN|apply IsS126.drew|apply IsS126.set_1|apply IsS126.set_2)|exact HI148.out)) hg (IsS126.own_ne HI148.out HO_4.out (by decide)));have n2_:=Aside0.mk ((by rw [hw];exact below_set (HB.out) GB29.out : Below w.heap.size w w34));clear HO_4;clear HI148;clear HB;have HO_4:=n0_;have HI148:=n1_;have HB:=n2_;clear n0_ n1_ n2_;clear hg hw hp_;have p30 : 0 ≤ (t165 : Int):=of_decide_eq_true (by assumption);have q30 : (t165 : Int) < ((x4_2.length : Int) : Int):=of_decide_eq_true (by assumption);obtain ⟨hx30_0,hf30_0⟩:=Kd.R_celln 0 HO_4.out (t165 : Int) p30 q30;replace p30:=eq_true p30;replace q30:=eq_true q30;obtain ⟨hy35_,hz35_⟩:=Kd.R_celln 0 HO_4.out (t165 : Int) (of_decide_eq_true (by assumption)) (of_decide_eq_true (by assumption));have HP35:=Kd.R_putg HO_4.out (t165 : Int) (rd x4_2 x7_2))|((with_reducible refine gate_store (t:=3) (p:=67) rfl ?_);refine store_event (t:=3) (p:=67) (v:=?vo_w36) (w1:=(w34.setCell ⟨go29,(t165 : Int).toNat,none⟩ (.int .i64 (rd x4_2 x7_2)))) ?hg ?ho ?hn ?hr ?_;(case ho => rfl);(case hg => rfl);(case hn => rfl);(case hr => first|(go_simp;done)|(go_simp;rfl));intro w36 hw;have hg : w34.grownBy w36 (some go29):=(by rw [hw];exact HP35.2);have hp_ : Kd.R (Kd.int .i64) 3 w36 w.heap.size (fun _ => True) (.slice (some ⟨go29,0,none⟩) x4_2.length co31) y171:=(by rw [hw,Ny171.out];exact HP35.1);clear HP35;have n0_:=Aside0.mk (hp_);have n1_:=Aside0.mk (IsS126.grown (by repeat (first|(with_reducible first|exact HI148.out|apply IsS126.alloc|apply IsS126.drewN|apply IsS126.drew|apply IsS126.set_1|apply IsS126.set_2)|exact HI148.out)) hg (IsS126.own_ne HI148.out HO_4.out (by decide)));have n2_:=Aside0.mk ((by rw [hw];exact below_set (HB.out) GB29.out : Below w.heap.size w w36));clear HO_4;clear HI148;clear HB;have HO_4:=n0_;have HI148:=n1_;have HB:=n2_;clear n0_ n1_ n2_;clear hg hw hp_))
      go_roundg k2
      case measure => have:=HK1.out;have:=HK2.out;omega
      case rel => exact ⟨(y171),(wrap64 (x7_2 + 1)),(t166),(t167),(by first|rfl|(simp;done)|(simp [*];done)),H',⟨by have:=HK1.out;have:=HK2.out;omega⟩,⟨by (with_reducible repeat (first|apply Kd.R_alloc|apply Kd.R_drewN|apply Kd.R_drew));exact HO_4.out⟩,⟨by repeat (first|(with_reducible first|exact HI148.out|apply IsS126.alloc|apply IsS126.drewN|apply IsS126.drew|apply IsS126.set_1|apply IsS126.set_2)|exact HI148.out)⟩,⟨by repeat (first|(with_reducible first|exact HB.out|apply below_alloc|apply pw_below_drewN|apply below_drew1|refine below_set ?_ (IsS126.ge HI148.out))|exact HB.out)⟩⟩
   rw [if_pos c7] at H
   have c7b0 : decide (x5_1 < t152) = true:=decide_eq_true c7
   clear c7
   replace H:=Option.bind_eq_some_iff.mp H
   obtain ⟨⟨t155,t156,t157⟩,A80,H⟩:=H
   replace H : (if 0 ≤ t155 then (if t155 < (x4_1.length : Int) then (if (rd x4_1 t155) < 15 then ((some (x4_1.set (t155 : Int).toNat (wrap64 ((rd x4_1 t155) + 1)) : List Int)).bind fun y160 => (if y160.length < 17592186044416 then (spec_DrawWhole.l0 k1 (y160 ++ [rd y160 t155]) (wrap64 (x5_1 + 1)) t145 t156 t157) else (none))) else (spec_DrawWhole.l0 k1 x4_1 (wrap64 (x5_1 + 1)) t145 t156 t157)) else (none)) else (none)) = some r:=H
   have A8:=Aside0.mk A80
   clear A80
   by_cases c9 : 0 ≤ t155
   rotate_left
   ·rw [if_neg c9] at H
    exact absurd H (by simp)
   rw [if_pos c9] at H
   have c9b0 : decide (0 ≤ t155) = true:=decide_eq_true c9
   clear c9
   by_cases c10 : t155 < (x4_1.length : Int)
   rotate_left
   ·rw [if_neg c10] at H
    exact absurd H (by simp)
   rw [if_pos c10] at H
   have c10b0 : decide (t155 < (x4_1.length : Int)) = true:=decide_eq_true c10
   clear c10
   by_cases c11 : (rd x4_1 t155) < 15
   rotate_left
   ·rw [if_neg c11] at H
    have c11b0 : decide ((rd x4_1 t155) < 15) = false:=decide_eq_false c11
    clear c11
    have H':=Aside0.mk H
    clear H
    go_wp2_with (first|((with_reducible refine gate_callee (f:=65) rfl ?_);refine goesL_ (some 15) rfl rfl Try.func65 (by kernel_rfl) rfl #[.pointer (some ⟨g148,0,none⟩),.int .i64 14] rfl (by (try simp only [List.map_toArray,List.map_cons,List.map_nil]);first|done|rfl|(simp only [List.length_drop,List.length_take];rfl)) ?_;(with_reducible refine (spec_l01Below.calls g148 t145 x149001_1 x149002_1 14 t152 t153 t154 w _ ?side1 ?side2 A6.out).mono ?_);(case side1 => repeat (first|(with_reducible first|exact HI148.out|apply IsS126.alloc|apply IsS126.drewN|apply IsS126.drew|apply IsS126.set_1|apply IsS126.set_2)|exact HI148.out));(case side2 => repeat (first|(with_reducible first|exact HB.out|apply below_alloc|apply pw_below_drewN|apply below_drew1|refine below_set ?_ (IsS126.ge HI148.out))|exact HB.out));rintro e w20 ⟨rfl,hi,hb,hk⟩;refine ⟨_,rfl,?_⟩;have n0_:=Aside0.mk (Kd.R_mono (Kd.R_keep (IsS126.apart (show IsS126 w _ g148 t145 x149001_1 x149002_1 from by repeat (first|(with_reducible first|exact HI148.out|apply IsS126.alloc|apply IsS126.drewN|apply IsS126.drew|apply IsS126.set_1|apply IsS126.set_2)|exact HI148.out)) (by (with_reducible repeat (first|apply Kd.R_alloc|apply Kd.R_drewN|apply Kd.R_drew));exact HO_4.out) (by decide)) hk (fun _ h => h.2)) (fun _ h => h.1));have n1_:=Aside0.mk (hb);have n2_:=Aside0.mk (hi);clear HO_4;clear HB;clear HI148;have HO_4:=n0_;have HB:=n1_;have HI148:=n2_;clear n0_ n1_ n2_;(try clear hb);(try clear hb2);(try clear hk);(try clear hi);obtain ⟨Ao21,co21,eo21⟩:=Kd.R_slice HO_4.out;subst eo21)|((with_reducible refine gate_callee (f:=65) rfl ?_);refine goesL_ (some 22) rfl rfl Try.func65 (by kernel_rfl) rfl #[.pointer (some ⟨g148,0,none⟩),.int .i64 (x4_1.length : Int)] rfl (by (try simp only [List.map_toArray,List.map_cons,List.map_nil]);first|done|rfl|(simp only [List.length_drop,List.length_take];rfl)) ?_;(with_reducible refine (spec_l01Below.calls g148 t145 t153 t154 (x4_1.length : Int) t155 t156 t157 w _ ?side1 ?side2 A8.out).mono ?_);(case side1 => repeat (first|(with_reducible first|exact HI148.out|apply IsS126.alloc|apply IsS126.drewN|apply IsS126.drew|apply IsS126.set_1|apply IsS126.set_2)|exact HI148.out));(case side2 => repeat (first|(with_reducible first|exact HB.out|apply below_alloc|apply pw_below_drewN|apply below_drew1|refine below_set ?_ (IsS126.ge HI148.out))|exact HB.out));rintro e w22 ⟨rfl,hi,hb,hk⟩;refine ⟨_,rfl,?_⟩;have n0_:=Aside0.mk (Kd.R_mono (Kd.R_keep (IsS126.apart (show IsS126 w _ g148 t145 t153 t154 from by repeat (first|(with_reducible first|exact HI148.out|apply IsS126.alloc|apply IsS126.drewN|apply IsS126.drew|apply IsS126.set_1|apply IsS126.set_2)|exact HI148.out)) (by (with_reducible repeat (first|apply Kd.R_alloc|apply Kd.R_drewN|apply Kd.R_drew));exact HO_4.out) (by decide)) hk (fun _ h => h.2)) (fun _ h => h.1));have n1_:=Aside0.mk (hb);have n2_:=Aside0.mk (hi);clear HO_4;clear HB;clear HI148;have HO_4:=n0_;have HB:=n1_;have HI148:=n2_;clear n0_ n1_ n2_;(try clear hb);(try clear hb2);(try clear hk);(try clear hi);have p158 : 0 ≤ (t155 : Int):=of_decide_eq_true (by assumption);have q158 : t155 < (x4_1.length : Int):=of_decide_eq_true (by assumption);obtain ⟨ad158,e158,hx158_0⟩:=Kd.at_int (Kd.R_reads' HO_4.out).2.2 t155 p158 q158;cases e158;replace p158:=eq_true p158;replace q158:=eq_true q158))
    go_roundg k1
    case measure => have:=HK1.out;omega
    case rel => exact ⟨(x4_1),(wrap64 (x5_1 + 1)),(t156),(t157),(by first|rfl|(simp;done)|(simp [*];done)),H',⟨by have:=HK1.out;omega⟩,⟨by (with_reducible repeat (first|apply Kd.R_alloc|apply Kd.R_drewN|apply Kd.R_drew));exact HO_4.out⟩,⟨by repeat (first|(with_reducible first|exact HI148.out|apply IsS126.alloc|apply IsS126.drewN|apply IsS126.drew|apply IsS126.set_1|apply IsS126.set_2)|exact HI148.out)⟩,⟨by repeat (first|(with_reducible first|exact HB.out|apply below_alloc|apply pw_below_drewN|apply below_drew1|refine below_set ?_ (IsS126.ge HI148.out))|exact HB.out)⟩⟩
   rw [if_pos c11] at H
   have c11b0 : decide ((rd x4_1 t155) < 15) = true:=decide_eq_true c11
   clear c11
   obtain ⟨y160,hy160⟩ : ∃ y_ : List Int,y_ = (x4_1.set (t155 : Int).toNat (wrap64 ((rd x4_1 t155) + 1))):=⟨_,rfl⟩
   replace H : (if y160.length < 17592186044416 then (spec_DrawWhole.l0 k1 (y160 ++ [rd y160 t155]) (wrap64 (x5_1 + 1)) t145 t156 t157) else (none)) = some r:=by first|(rw [hy160];with_reducible exact H)|(have H2_:=(Option.bind_some _ _).symm.trans H;rw [hy160];with_reducible exact H2_)|(have H2_:=(Option.bind_some _ _).symm.trans H;with_reducible exact H2_)|with_reducible exact H|(rw [hy160];exact H)|exact H
   have Ny160:=Aside0.mk hy160
   clear hy160
   by_cases c13 : y160.length < 17592186044416
   rotate_left
   ·rw [if_neg c13] at H
    exact absurd H (by simp)
   rw [if_pos c13] at H
   have LMc13:=Aside0.mk c13
   clear c13
   obtain ⟨y162,hy162⟩ : ∃ y_ : List Int,y_ = (y160 ++ [rd y160 t155]):=⟨_,rfl⟩
   replace H : (spec_DrawWhole.l0 k1 y162 (wrap64 (x5_1 + 1)) t145 t156 t157) = some r:=by first|(rw [hy162];with_reducible exact H)|(have H2_:=(Option.bind_some _ _).symm.trans H;rw [hy162];with_reducible exact H2_)|(have H2_:=(Option.bind_some _ _).symm.trans H;with_reducible exact H2_)|with_reducible exact H|(rw [hy162];exact H)|exact H
   have Ny162:=Aside0.mk hy162
   clear hy162
   have H':=Aside0.mk H
   clear H
   go_wp2_with (first|((with_reducible refine gate_callee (f:=65) rfl ?_);refine goesL_ (some 15) rfl rfl Try.func65 (by kernel_rfl) rfl #[.pointer (some ⟨g148,0,none⟩),.int .i64 14] rfl (by (try simp only [List.map_toArray,List.map_cons,List.map_nil]);first|done|rfl|(simp only [List.length_drop,List.length_take];rfl)) ?_;(with_reducible refine (spec_l01Below.calls g148 t145 x149001_1 x149002_1 14 t152 t153 t154 w _ ?side1 ?side2 A6.out).mono ?_);(case side1 => repeat (first|(with_reducible first|exact HI148.out|apply IsS126.alloc|apply IsS126.drewN|apply IsS126.drew|apply IsS126.set_1|apply IsS126.set_2)|exact HI148.out));(case side2 => repeat (first|(with_reducible first|exact HB.out|apply below_alloc|apply pw_below_drewN|apply below_drew1|refine below_set ?_ (IsS126.ge HI148.out))|exact HB.out));rintro e w14 ⟨rfl,hi,hb,hk⟩;refine ⟨_,rfl,?_⟩;have n0_:=Aside0.mk (Kd.R_mono (Kd.R_keep (IsS126.apart (show IsS126 w _ g148 t145 x149001_1 x149002_1 from by repeat (first|(with_reducible first|exact HI148.out|apply IsS126.alloc|apply IsS126.drewN|apply IsS126.drew|apply IsS126.set_1|apply IsS126.set_2)|exact HI148.out)) (by (with_reducible repeat (first|apply Kd.R_alloc|apply Kd.R_drewN|apply Kd.R_drew));exact HO_4.out) (by decide)) hk (fun _ h => h.2)) (fun _ h => h.1));have n1_:=Aside0.mk (hb);have n2_:=Aside0.mk (hi);clear HO_4;clear HB;clear HI148;have HO_4:=n0_;have HB:=n1_;have HI148:=n2_;clear n0_ n1_ n2_;(try clear hb);(try clear hb2);(try clear hk);(try clear hi);obtain ⟨Ao15,co15,eo15⟩:=Kd.R_slice HO_4.out;subst eo15)|((with_reducible refine gate_callee (f:=65) rfl ?_);refine goesL_ (some 22) rfl rfl Try.func65 (by kernel_rfl) rfl #[.pointer (some ⟨g148,0,none⟩),.int .i64 (x4_1.length : Int)] rfl (by (try simp only [List.map_toArray,List.map_cons,List.map_nil]);first|done|rfl|(simp only [List.length_drop,List.length_take];rfl)) ?_;(with_reducible refine (spec_l01Below.calls g148 t145 t153 t154 (x4_1.length : Int) t155 t156 t157 w _ ?side1 ?side2 A8.out).mono ?_);(case side1 => repeat (first|(with_reducible first|exact HI148.out|apply IsS126.alloc|apply IsS126.drewN|apply IsS126.drew|apply IsS126.set_1|apply IsS126.set_2)|exact HI148.out));(case side2 => repeat (first|(with_reducible first|exact HB.out|apply below_alloc|apply pw_below_drewN|apply below_drew1|refine below_set ?_ (IsS126.ge HI148.out))|exact HB.out));rintro e w16 ⟨rfl,hi,hb,hk⟩;refine ⟨_,rfl,?_⟩;have n0_:=Aside0.mk (Kd.R_mono (Kd.R_keep (IsS126.apart (show IsS126 w _ g148 t145 t153 t154 from by repeat (first|(with_reducible first|exact HI148.out|apply IsS126.alloc|apply IsS126.drewN|apply IsS126.drew|apply IsS126.set_1|apply IsS126.set_2)|exact HI148.out)) (by (with_reducible repeat (first|apply Kd.R_alloc|apply Kd.R_drewN|apply Kd.R_drew));exact HO_4.out) (by decide)) hk (fun _ h => h.2)) (fun _ h => h.1));have n1_:=Aside0.mk (hb);have n2_:=Aside0.mk (hi);clear HO_4;clear HB;clear HI148;have HO_4:=n0_;have HB:=n1_;have HI148:=n2_;clear n0_ n1_ n2_;(try clear hb);(try clear hb2);(try clear hk);(try clear hi);have p158 : 0 ≤ (t155 : Int):=of_decide_eq_true (by assumption);have q158 : t155 < (x4_1.length : Int):=of_decide_eq_true (by assumption);obtain ⟨ad158,e158,hx158_0⟩:=Kd.at_int (Kd.R_reads' HO_4.out).2.2 t155 p158 q158;cases e158;replace p158:=eq_true p158;replace q158:=eq_true q158;have p159 : 0 ≤ (t155 : Int):=of_decide_eq_true (by assumption);have q159 : t155 < (x4_1.length : Int):=of_decide_eq_true (by assumption);obtain ⟨ad159,e159,hx159_0⟩:=Kd.at_int (Kd.R_reads' HO_4.out).2.2 t155 p159 q159;obtain rfl : ad158 = ad159:=(by injection e159);replace p159:=eq_true p159;replace q159:=eq_true q159;have p12 : 0 ≤ (t155 : Int):=of_decide_eq_true (by assumption);have q12 : (t155 : Int) < ((x4_1.length : Int) : Int):=of_decide_eq_true (by assumption);obtain ⟨go12,co12,eo12,gb12,gl12,cl12,HG12⟩:=Kd.R_form HO_4.out (by omega);(first|cases eo12|(injection eo12 with ea_ en_ ec_;(first|subst ea_|(injection ea_ with ea_;subst ea_));subst ec_;clear en_));have GB12:=Aside0.mk gb12;have GG12:=Aside0.mk HG12;clear gb12 gl12 HG12;(first|simp only [add_plain] at hx158_0|skip);(first|simp only [add_plain] at hx159_0|skip);obtain ⟨hx12_0,hf12_0⟩:=Kd.R_celln 0 HO_4.out (t155 : Int) p12 q12;replace p12:=eq_true p12;replace q12:=eq_true q12;obtain ⟨hy17_,hz17_⟩:=Kd.R_celln 0 HO_4.out (t155 : Int) (of_decide_eq_true (by assumption)) (of_decide_eq_true (by assumption));have HP17:=Kd.R_putg HO_4.out (t155 : Int) (wrap64 ((rd x4_1 t155) + 1)))|((with_reducible refine gate_store (t:=3) (p:=35) rfl ?_);refine store_event (t:=3) (p:=35) (v:=?vo_w18) (w1:=(w16.setCell ⟨go12,(t155 : Int).toNat,none⟩ (.int .i64 (wrap64 ((rd x4_1 t155) + 1))))) ?hg ?ho ?hn ?hr ?_;(case ho => rfl);(case hg => rfl);(case hn => rfl);(case hr => first|(go_simp;done)|(go_simp;rfl));intro w18 hw;have hg : w16.grownBy w18 (some go12):=(by rw [hw];exact HP17.2);have hp_ : Kd.R (Kd.int .i64) 3 w18 w.heap.size (fun _ => True) (.slice (some ⟨go12,0,none⟩) x4_1.length co15) y160:=(by rw [hw,Ny160.out];exact HP17.1);clear HP17;have n0_:=Aside0.mk (hp_);have n1_:=Aside0.mk (IsS126.grown (by repeat (first|(with_reducible first|exact HI148.out|apply IsS126.alloc|apply IsS126.drewN|apply IsS126.drew|apply IsS126.set_1|apply IsS126.set_2)|exact HI148.out)) hg (IsS126.own_ne HI148.out HO_4.out (by decide)));have n2_:=Aside0.mk ((by rw [hw];exact below_set (HB.out) GB12.out : Below w.heap.size w w18));clear HO_4;clear HI148;clear HB;have HO_4:=n0_;have HI148:=n1_;have HB:=n2_;clear n0_ n1_ n2_;clear hg hw hp_;have p161 : 0 ≤ (t155 : Int):=of_decide_eq_true (by assumption);have q161 : t155 < (y160.length : Int):=(by have h_ : (t155 : Int) < ((x4_1.length : Int) : Int):=of_decide_eq_true (by assumption);first|(have e_:=(Kd.R_reads' HO_4.out).1;omega)|simpa only [Ny160.out,List.length_set] using h_);have ql161 : ((t155 : Int) < ((x4_1.length : Int) : Int)) = True:=eq_true (of_decide_eq_true (by assumption));obtain ⟨ad161,e161,hx161_0⟩:=Kd.at_int (Kd.R_reads' HO_4.out).2.2 t155 p161 q161;obtain rfl : (⟨go12,0,none⟩ : Addr) = ad161:=(by injection e161);(first|simp only [add_plain] at hx161_0|simp only [add_at] at hx161_0|simp only [Addr.add,Nat.zero_add] at hx161_0|skip);replace p161:=eq_true p161;replace q161:=eq_true q161)|((with_reducible refine gate_builtin (b:=.append) (xs:=#[.tmp 36,.tmp 41]) rfl ?_);at_builtin;refine Kd.R_append (Kd.int .i64) (w0:=w) w.heap.size rfl (.tmp 36) (.tmp 41) 22 3 (.int .i64 0) 8 rfl Try.underlying22 info3 rfl (by decide) (by omega) (.slice (some ⟨go12,0,none⟩) x4_1.length co15) y160 (rd y160 t155) [.int .i64 (rd y160 t155)] (fun _ => True) (fun _ => False) rfl rfl ?aP (fun _ hk => hk.elim) ?aF ?aO ?aB ?aS ?aL ?_;(case aP => exact rfl);(case aB => exact (by repeat (first|(with_reducible first|exact HB.out|apply below_alloc|apply pw_below_drewN|apply below_drew1|refine below_set ?_ (IsS126.ge HI148.out))|exact HB.out)));(case aF => exact (fun _ _ => trivial));(case aO => exact (by (with_reducible repeat (first|apply Kd.R_alloc|apply Kd.R_drewN|apply Kd.R_drew));exact HO_4.out));(case aS => exact (below_size (by repeat (first|(with_reducible first|exact HB.out|apply below_alloc|apply pw_below_drewN|apply below_drew1|refine below_set ?_ (IsS126.ge HI148.out))|exact HB.out))));(case aL => have:=LMc13.out;omega);intro v163 w19 ho hb hg hat;rw [← Ny162.out] at ho;have n0_:=Aside0.mk (IsS126.grown (by repeat (first|(with_reducible first|exact HI148.out|apply IsS126.alloc|apply IsS126.drewN|apply IsS126.drew|apply IsS126.set_1|apply IsS126.set_2)|exact HI148.out)) hg (IsS126.own_ne HI148.out HO_4.out (by decide)));have n1_:=Aside0.mk (hb);have n2_:=Aside0.mk (ho);clear HI148;clear HB;clear HO_4;have HI148:=n0_;have HB:=n1_;have HO164:=n2_;clear n0_ n1_ n2_;clear ho hb hg hat))
   go_roundg k1
   case measure => have:=HK1.out;omega
   case rel => exact ⟨(y162),(wrap64 (x5_1 + 1)),(t156),(t157),(by first|rfl|(simp;done)|(simp [*];done)),H',⟨by have:=HK1.out;omega⟩,⟨by (with_reducible repeat (first|apply Kd.R_alloc|apply Kd.R_drewN|apply Kd.R_drew));exact HO164.out⟩,⟨by repeat (first|(with_reducible first|exact HI148.out|apply IsS126.alloc|apply IsS126.drewN|apply IsS126.drew|apply IsS126.set_1|apply IsS126.set_2)|exact HI148.out)⟩,⟨by repeat (first|(with_reducible first|exact HB.out|apply below_alloc|apply pw_below_drewN|apply below_drew1|refine below_set ?_ (IsS126.ge HI148.out))|exact HB.out)⟩⟩
end Go.Proofs.Ytimomemkbcidnaa.PFnPackage
