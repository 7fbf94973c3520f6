-- Written by a program of this session (a changed print); Lean checks it.
import Derived.Test.YtimomemkbcidnaaPFnExactTokenLengthsx0
import Derived.Test.YtimomemkbcidnaaPFnExactTokenLengthsx1
namespace Go.Proofs.Ytimomemkbcidnaa.PFnExactTokenLengths
open Go.RowKit Go.Proofs.YtimomemkbcidnaaW.PrintWords Go.Proofs.YtimomemkbcidnaaW.PrintLast Go.Proofs.YtimomemkbcidnaaW.PrintMore
attribute [local go_sem] max2_int min2_int max_two min_two max_three min_three max_four min_four   -- for this text's walks alone
set_option linter.unusedVariables false
set_option linter.unusedSimpArgs false
open Act renaming put → sPu
open List renaming setIfInBounds_toArray → sIa, set_cons_zero → sCz, set_cons_succ → sCs
open Bool renaming true → Y, false → Z

/-! ### spec_TokenOk: function 103 -/
def spec_TokenOk.f (a0_0 : Int) (a0_1 : Int) (a0_2 : Int) : Option (Bool) := if a0_1 = 0 then ((spec_l01In.f a0_0 0 255).bind fun t220 => (if t220 = true then (some (a0_2 == 0)) else (some false))) else (if a0_0 = 0 then ((spec_l01In.f a0_1 3 258).bind fun t221 => (if t221 = true then ((spec_l01In.f a0_2 1 32768).bind fun t222 => (some t222)) else (some false))) else (some false))
set_option maxHeartbeats 8000000 in
set_option maxRecDepth 100000 in
theorem spec_TokenOk.calls (a0_0 : Int) (a0_1 : Int) (a0_2 : Int) (r : Bool) (w : World) (h : spec_TokenOk.f a0_0 a0_1 a0_2 = some r) :
    Calls Try.prog 103 #[.agg #[.int .i64 a0_0, .int .i64 a0_1, .int .i64 a0_2]] w fun e w' => e = .returned (.bool r) ∧ Below w.heap.size w w' := by
 have hu107:=Try.underlying107
 have HB:=Aside0.mk (Below.refl w.heap.size w)
 have H : (if a0_1 = 0 then ((spec_l01In.f a0_0 0 255).bind fun t220 => (if t220 = true then (some (a0_2 == 0)) else (some false))) else (if a0_0 = 0 then ((spec_l01In.f a0_1 3 258).bind fun t221 => (if t221 = true then ((spec_l01In.f a0_2 1 32768).bind fun t222 => (some t222)) else (some false))) else (some false))) = some r:=h
 clear h
 by_cases c2 : a0_1 = 0
 ·rw [if_pos c2] at H
  have c2b0 : (a0_1 == 0) = true:=beq_iff_eq.mpr c2
  have c2b1 : (a0_1 != 0) = false:=bne_eq_false_iff_eq.mpr c2
  clear c2
  replace H:=Option.bind_eq_some_iff.mp H
  obtain ⟨t220,A30,H⟩:=H
  replace H : (if t220 = true then (some (a0_2 == 0)) else (some false)) = some r:=H
  have A3:=Aside0.mk A30
  clear A30
  by_cases c4 : t220 = true
  ·subst c4
   have H1 : (some (a0_2 == 0)) = some r:=by rw [if_pos rfl] at H;exact H
   clear H
   have H:=H1
   clear H1
   obtain rfl:=Option.some.inj H
   go_enter Try.func103,Try.ntmps103
   go_wp2_with (first|((with_reducible refine gate_dst (N:=1) rfl ?_);refine box_event ?hg (N:=1) ?hd (cs:=#[.int .i64 a0_0,.int .i64 a0_1,.int .i64 a0_2]) (t:=107) ?hr ?_;(case hd => rfl);(case hg => rfl);(case hr => first|(go_simp;done)|(go_simp;rfl));intro gb219 hg w5 hbox hb;have n0_:=Aside0.mk (below_step (by repeat (first|(with_reducible first|exact HB.out|apply below_alloc|apply pw_below_drewN|apply below_drew1)|exact HB.out)) hb);have n1_:=Aside0.mk (hbox);have n2_:=Aside0.mk ((by rw [hg];exact (below_size (by repeat (first|(with_reducible first|exact HB.out|apply below_alloc|apply pw_below_drewN|apply below_drew1)|exact HB.out))) : w.heap.size ≤ gb219));have n3_:=Aside0.mk ((by rw [hg];exact (below_size (by repeat (first|(with_reducible first|exact HB.out|apply below_alloc|apply pw_below_drewN|apply below_drew1)|exact HB.out))) : w.heap.size ≤ gb219));clear HB;have HB:=n0_;have BK219:=n1_;have GW219:=n2_;have GE219:=n3_;clear n0_ n1_ n2_ n3_;clear hb hbox hg;have hcz6_0 : w5.cell? ⟨gb219,0,none⟩ = some (.int .i64 a0_0):=(blk_cell BK219.out 0).trans rfl;have hcz6_1 : w5.cell? ⟨gb219,1,none⟩ = some (.int .i64 a0_1):=(blk_cell BK219.out 1).trans rfl;have hcz6_2 : w5.cell? ⟨gb219,2,none⟩ = some (.int .i64 a0_2):=(blk_cell BK219.out 2).trans rfl;have hfz6_0:=blk_frozen BK219.out 0;have hfz6_1:=blk_frozen BK219.out 1;have hfz6_2:=blk_frozen BK219.out 2)|((with_reducible refine gate_callee (f:=52) rfl ?_);refine goesL_ (some 8) rfl rfl Try.func52 (by kernel_rfl) rfl #[.int .i64 a0_0,.int .i64 0,.int .i64 255] rfl (by (try simp only [List.map_toArray,List.map_cons,List.map_nil]);first|done|rfl|(simp only [List.length_drop,List.length_take];rfl)) ?_;(with_reducible refine (spec_l01In.calls a0_0 0 255 true _ A3.out).mono ?_);rintro e w' ⟨rfl,⟨nd,rfl⟩⟩;refine ⟨_,rfl,?_⟩))
   go_ret
   exact ⟨by first|rfl|(simp [errW_none,errW_some] <;> rfl)|(simp [*,errW_none,errW_some] <;> rfl),by repeat (first|(with_reducible first|exact HB.out|apply below_alloc|apply pw_below_drewN|apply below_drew1|refine below_set ?_ GE219.out)|exact HB.out)⟩
  replace c4:=Bool.eq_false_iff.mpr c4
  subst c4
  have H1 : (some false) = some r:=by rw [if_neg (show ¬ (false = true) by decide)] at H;exact H
  clear H
  have H:=H1
  clear H1
  obtain rfl:=Option.some.inj H
  go_enter Try.func103,Try.ntmps103
  go_wp2_with (first|((with_reducible refine gate_dst (N:=1) rfl ?_);refine box_event ?hg (N:=1) ?hd (cs:=#[.int .i64 a0_0,.int .i64 a0_1,.int .i64 a0_2]) (t:=107) ?hr ?_;(case hd => rfl);(case hg => rfl);(case hr => first|(go_simp;done)|(go_simp;rfl));intro gb219 hg w7 hbox hb;have n0_:=Aside0.mk (below_step (by repeat (first|(with_reducible first|exact HB.out|apply below_alloc|apply pw_below_drewN|apply below_drew1)|exact HB.out)) hb);have n1_:=Aside0.mk (hbox);have n2_:=Aside0.mk ((by rw [hg];exact (below_size (by repeat (first|(with_reducible first|exact HB.out|apply below_alloc|apply pw_below_drewN|apply below_drew1)|exact HB.out))) : w.heap.size ≤ gb219));have n3_:=Aside0.mk ((by rw [hg];exact (below_size (by repeat (first|(with_reducible first|exact HB.out|apply below_alloc|apply pw_below_drewN|apply below_drew1)|exact HB.out))) : w.heap.size ≤ gb219));clear HB;have HB:=n0_;have BK219:=n1_;have GW219:=n2_;have GE219:=n3_;clear n0_ n1_ n2_ n3_;clear hb hbox hg;have hcz8_0 : w7.cell? ⟨gb219,0,none⟩ = some (.int .i64 a0_0):=(blk_cell BK219.out 0).trans rfl;have hcz8_1 : w7.cell? ⟨gb219,1,none⟩ = some (.int .i64 a0_1):=(blk_cell BK219.out 1).trans rfl;have hcz8_2 : w7.cell? ⟨gb219,2,none⟩ = some (.int .i64 a0_2):=(blk_cell BK219.out 2).trans rfl;have hfz8_0:=blk_frozen BK219.out 0;have hfz8_1:=blk_frozen BK219.out 1;have hfz8_2:=blk_frozen BK219.out 2)|((with_reducible refine gate_callee (f:=52) rfl ?_);refine goesL_ (some 8) rfl rfl Try.func52 (by kernel_rfl) rfl #[.int .i64 a0_0,.int .i64 0,.int .i64 255] rfl (by (try simp only [List.map_toArray,List.map_cons,List.map_nil]);first|done|rfl|(simp only [List.length_drop,List.length_take];rfl)) ?_;(with_reducible refine (spec_l01In.calls a0_0 0 255 false _ A3.out).mono ?_);rintro e w' ⟨rfl,⟨nd,rfl⟩⟩;refine ⟨_,rfl,?_⟩))
  go_ret
  exact ⟨by first|rfl|(simp [errW_none,errW_some] <;> rfl)|(simp [*,errW_none,errW_some] <;> rfl),by repeat (first|(with_reducible first|exact HB.out|apply below_alloc|apply pw_below_drewN|apply below_drew1|refine below_set ?_ GE219.out)|exact HB.out)⟩
 rw [if_neg c2] at H
 have c2b0 : (a0_1 == 0) = false:=beq_eq_false_iff_ne.mpr c2
 have c2b1 : (a0_1 != 0) = true:=bne_iff_ne.mpr c2
 by_cases c9 : a0_0 = 0
 rotate_left
 ·rw [if_neg c9] at H
  have c9b0 : (a0_0 == 0) = false:=beq_eq_false_iff_ne.mpr c9
  have c9b1 : (a0_0 != 0) = true:=bne_iff_ne.mpr c9
  obtain rfl:=Option.some.inj H
  go_enter Try.func103,Try.ntmps103
  go_wp2_with (first|((with_reducible refine gate_dst (N:=1) rfl ?_);refine box_event ?hg (N:=1) ?hd (cs:=#[.int .i64 a0_0,.int .i64 a0_1,.int .i64 a0_2]) (t:=107) ?hr ?_;(case hd => rfl);(case hg => rfl);(case hr => first|(go_simp;done)|(go_simp;rfl));intro gb219 hg w17 hbox hb;have n0_:=Aside0.mk (below_step (by repeat (first|(with_reducible first|exact HB.out|apply below_alloc|apply pw_below_drewN|apply below_drew1)|exact HB.out)) hb);have n1_:=Aside0.mk (hbox);have n2_:=Aside0.mk ((by rw [hg];exact (below_size (by repeat (first|(with_reducible first|exact HB.out|apply below_alloc|apply pw_below_drewN|apply below_drew1)|exact HB.out))) : w.heap.size ≤ gb219));have n3_:=Aside0.mk ((by rw [hg];exact (below_size (by repeat (first|(with_reducible first|exact HB.out|apply below_alloc|apply pw_below_drewN|apply below_drew1)|exact HB.out))) : w.heap.size ≤ gb219));clear HB;have HB:=n0_;have BK219:=n1_;have GW219:=n2_;have GE219:=n3_;clear n0_ n1_ n2_ n3_;clear hb hbox hg;have hcz18_0 : w17.cell? ⟨gb219,0,none⟩ = some (.int .i64 a0_0):=(blk_cell BK219.out 0).trans rfl;have hcz18_1 : w17.cell? ⟨gb219,1,none⟩ = some (.int .i64 a0_1):=(blk_cell BK219.out 1).trans rfl;have hcz18_2 : w17.cell? ⟨gb219,2,none⟩ = some (.int .i64 a0_2):=(blk_cell BK219.out 2).trans rfl;have hfz18_0:=blk_frozen BK219.out 0;have hfz18_1:=blk_frozen BK219.out 1;have hfz18_2:=blk_frozen BK219.out 2))
  go_ret
  exact ⟨by first|rfl|(simp [errW_none,errW_some] <;> rfl)|(simp [*,errW_none,errW_some] <;> rfl),by repeat (first|(with_reducible first|exact HB.out|apply below_alloc|apply pw_below_drewN|apply below_drew1|refine below_set ?_ GE219.out)|exact HB.out)⟩
 rw [if_pos c9] at H
 have c9b0 : (a0_0 == 0) = true:=beq_iff_eq.mpr c9
 have c9b1 : (a0_0 != 0) = false:=bne_eq_false_iff_eq.mpr c9
 clear c9
 replace H:=Option.bind_eq_some_iff.mp H
 obtain ⟨t221,A100,H⟩:=H
 replace H : (if t221 = true then ((spec_l01In.f a0_2 1 32768).bind fun t222 => (some t222)) else (some false)) = some r:=H
 have A10:=Aside0.mk A100
 clear A100
 by_cases c11 : t221 = true
 rotate_left
 ·replace c11:=Bool.eq_false_iff.mpr c11
  subst c11
  have H1 : (some false) = some r:=by rw [if_neg (show ¬ (false = true) by decide)] at H;exact H
  clear H
  have H:=H1
  clear H1
  obtain rfl:=Option.some.inj H
  go_enter Try.func103,Try.ntmps103
  go_wp2_with (first|((with_reducible refine gate_dst (N:=1) rfl ?_);refine box_event ?hg (N:=1) ?hd (cs:=#[.int .i64 a0_0,.int .i64 a0_1,.int .i64 a0_2]) (t:=107) ?hr ?_;(case hd => rfl);(case hg => rfl);(case hr => first|(go_simp;done)|(go_simp;rfl));intro gb219 hg w15 hbox hb;have n0_:=Aside0.mk (below_step (by repeat (first|(with_reducible first|exact HB.out|apply below_alloc|apply pw_below_drewN|apply below_drew1)|exact HB.out)) hb);have n1_:=Aside0.mk (hbox);have n2_:=Aside0.mk ((by rw [hg];exact (below_size (by repeat (first|(with_reducible first|exact HB.out|apply below_alloc|apply pw_below_drewN|apply below_drew1)|exact HB.out))) : w.heap.size ≤ gb219));have n3_:=Aside0.mk ((by rw [hg];exact (below_size (by repeat (first|(with_reducible first|exact HB.out|apply below_alloc|apply pw_below_drewN|apply below_drew1)|exact HB.out))) : w.heap.size ≤ gb219));clear HB;have HB:=n0_;have BK219:=n1_;have GW219:=n2_;have GE219:=n3_;clear n0_ n1_ n2_ n3_;clear hb hbox hg;have hcz16_0 : w15.cell? ⟨gb219,0,none⟩ = some (.int .i64 a0_0):=(blk_cell BK219.out 0).trans rfl;have hcz16_1 : w15.cell? ⟨gb219,1,none⟩ = some (.int .i64 a0_1):=(blk_cell BK219.out 1).trans rfl;have hcz16_2 : w15.cell? ⟨gb219,2,none⟩ = some (.int .i64 a0_2):=(blk_cell BK219.out 2).trans rfl;have hfz16_0:=blk_frozen BK219.out 0;have hfz16_1:=blk_frozen BK219.out 1;have hfz16_2:=blk_frozen BK219.out 2)|(go_at_call 52;(with_reducible refine (spec_l01In.calls a0_1 3 258 false _ A10.out).mono ?_);rintro e w' ⟨rfl,⟨nd,rfl⟩⟩))
  go_ret
  exact ⟨by first|rfl|(simp [errW_none,errW_some] <;> rfl)|(simp [*,errW_none,errW_some] <;> rfl),by repeat (first|(with_reducible first|exact HB.out|apply below_alloc|apply pw_below_drewN|apply below_drew1|refine below_set ?_ GE219.out)|exact HB.out)⟩
 subst c11
 have H1 : ((spec_l01In.f a0_2 1 32768).bind fun t222 => (some t222)) = some r:=by rw [if_pos rfl] at H;exact H
 clear H
 have H:=H1
 clear H1
 replace H:=Option.bind_eq_some_iff.mp H
 obtain ⟨t222,A120,H⟩:=H
 replace H : (some t222) = some r:=H
 have A12:=Aside0.mk A120
 clear A120
 obtain rfl:=Option.some.inj H
 go_enter Try.func103,Try.ntmps103
 go_wp2_with (first|((with_reducible refine gate_dst (N:=1) rfl ?_);refine box_event ?hg (N:=1) ?hd (cs:=#[.int .i64 a0_0,.int .i64 a0_1,.int .i64 a0_2]) (t:=107) ?hr ?_;(case hd => rfl);(case hg => rfl);(case hr => first|(go_simp;done)|(go_simp;rfl));intro gb219 hg w13 hbox hb;have n0_:=Aside0.mk (below_step (by repeat (first|(with_reducible first|exact HB.out|apply below_alloc|apply pw_below_drewN|apply below_drew1)|exact HB.out)) hb);have n1_:=Aside0.mk (hbox);have n2_:=Aside0.mk ((by rw [hg];exact (below_size (by repeat (first|(with_reducible first|exact HB.out|apply below_alloc|apply pw_below_drewN|apply below_drew1)|exact HB.out))) : w.heap.size ≤ gb219));have n3_:=Aside0.mk ((by rw [hg];exact (below_size (by repeat (first|(with_reducible first|exact HB.out|apply below_alloc|apply pw_below_drewN|apply below_drew1)|exact HB.out))) : w.heap.size ≤ gb219));clear HB;have HB:=n0_;have BK219:=n1_;have GW219:=n2_;have GE219:=n3_;clear n0_ n1_ n2_ n3_;clear hb hbox hg;have hcz14_0 : w13.cell? ⟨gb219,0,none⟩ = some (.int .i64 a0_0):=(blk_cell BK219.out 0).trans rfl;have hcz14_1 : w13.cell? ⟨gb219,1,none⟩ = some (.int .i64 a0_1):=(blk_cell BK219.out 1).trans rfl;have hcz14_2 : w13.cell? ⟨gb219,2,none⟩ = some (.int .i64 a0_2):=(blk_cell BK219.out 2).trans rfl;have hfz14_0:=blk_frozen BK219.out 0;have hfz14_1:=blk_frozen BK219.out 1;have hfz14_2:=blk_frozen BK219.out 2)|(go_at_call 52;(with_reducible refine (spec_l01In.calls a0_1 3 258 true _ A10.out).mono ?_);rintro e w' ⟨rfl,⟨nd,rfl⟩⟩)|(go_at_call 52;(with_reducible refine (spec_l01In.calls a0_2 1 32768 t222 _ A12.out).mono ?_);rintro e w' ⟨rfl,⟨nd,rfl⟩⟩))
 go_ret
 exact ⟨by first|rfl|(simp [errW_none,errW_some] <;> rfl)|(simp [*,errW_none,errW_some] <;> rfl),by repeat (first|(with_reducible first|exact HB.out|apply below_alloc|apply pw_below_drewN|apply below_drew1|refine below_set ?_ GE219.out)|exact HB.out)⟩
/-! ### spec_l09TokensOk: function 76 -/
def spec_l09TokensOk.l0 : Nat → List (S107) → Int → Option (Bool)
  | 0, _, _ => none
  | k + 1, x0, x3 => if x3 < (x0.length : Int) then (if 0 ≤ x3 then ((spec_TokenOk.f ((rd_T107 x0 x3).f0) ((rd_T107 x0 x3).f1) ((rd_T107 x0 x3).f2)).bind fun t224 => (if t224 = true then (spec_l09TokensOk.l0 k x0 (wrap64 (x3 + 1))) else (some false))) else (none)) else (some true)
def spec_l09TokensOk.f (k : Nat) (l0 : List (S107)) : Option (Bool) := if (l0.length : Int) > 12000 then (some false) else (spec_l09TokensOk.l0 k l0 0)
theorem spec_l09TokensOk.mono_l : ∀ k, (∀ y0 y1, LeO (spec_l09TokensOk.l0 k y0 y1) (spec_l09TokensOk.l0 (k + 1) y0 y1))
  | 0 => fun _ _ r h => by simp [spec_l09TokensOk.l0] at h
  | k + 1 => by
    have ih0 := spec_l09TokensOk.mono_l k
    · intro y0 y1
      unfold spec_l09TokensOk.l0
      repeat' first
      | (with_reducible exact ih0 _ _)
      | (with_reducible exact LeO.refl _)
      | (with_reducible exact LeO.none _)
      | (with_reducible refine LeO.ite ?_ ?_)
      | (with_reducible refine LeO.bind ?_ (fun _ => ?_))
      | exact ih0 _ _
      | exact LeO.none _
      | refine LeO.ite ?_ ?_
      | refine LeO.bind ?_ (fun _ => ?_)
theorem spec_l09TokensOk.mono : ∀ a0 k, LeO (spec_l09TokensOk.f k a0) (spec_l09TokensOk.f (k + 1) a0) := by
  intro a0 k
  have ih0 := spec_l09TokensOk.mono_l k
  unfold spec_l09TokensOk.f
  repeat' first
      | (with_reducible exact ih0 _ _)
      | (with_reducible exact LeO.refl _)
      | (with_reducible exact LeO.none _)
      | (with_reducible refine LeO.ite ?_ ?_)
      | (with_reducible refine LeO.bind ?_ (fun _ => ?_))
      | exact ih0 _ _
      | exact LeO.none _
      | refine LeO.ite ?_ ?_
      | refine LeO.bind ?_ (fun _ => ?_)
set_option maxHeartbeats 8000000 in
set_option maxRecDepth 100000 in
theorem spec_l09TokensOk.calls (k : Nat) (A0 : Option Addr) (c0 : Nat) (l0 : List (S107)) (r : Bool) (w : World) (hr0 : Kd.C k107 w A0 l0.length l0) (hc0 : l0.length ≤ c0) (h : spec_l09TokensOk.f k l0 = some r) :
    Calls Try.prog 76 #[.slice A0 l0.length c0] w fun e w' => e = .returned (.bool r) ∧ Below w.heap.size w w' := by
 have hu107:=Try.underlying107
 have HR0:=Aside0.mk hr0
 have HC0:=Aside0.mk hc0
 clear hr0 hc0
 have HB:=Aside0.mk (Below.refl w.heap.size w)
 have H : (if (l0.length : Int) > 12000 then (some false) else (spec_l09TokensOk.l0 k l0 0)) = some r:=h
 clear h
 by_cases c2 : (l0.length : Int) > 12000
 ·rw [if_pos c2] at H
  have c2b0 : decide (12000 < (l0.length : Int)) = true:=decide_eq_true c2
  have c2b1 : decide (12000 < l0.length) = true:=decide_eq_true (by omega)
  clear c2
  obtain rfl:=Option.some.inj H
  go_enter Try.func76,Try.ntmps76
  go_wp2
  go_ret
  exact ⟨by first|rfl|(simp [errW_none,errW_some] <;> rfl)|(simp [*,errW_none,errW_some] <;> rfl),by repeat (first|(with_reducible first|exact HB.out|apply below_alloc|apply pw_below_drewN|apply below_drew1)|exact HB.out)⟩
 rw [if_neg c2] at H
 have c2b0 : decide (12000 < (l0.length : Int)) = false:=decide_eq_false c2
 have c2b1 : decide (12000 < l0.length) = false:=decide_eq_false (by omega)
 clear c2
 have H':=Aside0.mk H
 clear H
 go_enter Try.func76,Try.ntmps76
 go_wp2
 go_loopg [3] k (fun kq v3 w' => ∃ (x3_1 : Int),v3 = .int .i64 x3_1∧Aside0 (spec_l09TokensOk.l0 kq l0 x3_1 = some r)∧Aside0 (kq ≤ k)∧Aside0 (Below w.heap.size w w'))
 case atStart => exact ⟨(0),(by first|rfl|(simp;done)|(simp [*];done)),H',⟨Nat.le_refl _⟩,⟨by repeat (first|(with_reducible first|exact HB.out|apply below_alloc|apply pw_below_drewN|apply below_drew1)|exact HB.out)⟩⟩
 case round =>
  clear H'
  obtain ⟨x3_1,rfl,HA,HK1,HB⟩:=hrel
  cases gk with
  | zero => exact absurd HA.out (by simp [spec_l09TokensOk.l0])
  | succ k1 =>
   have H:=HA.out
   clear HA
   simp only [spec_l09TokensOk.l0] at H
   by_cases c3 : x3_1 < (l0.length : Int)
   rotate_left
   ·rw [if_neg c3] at H
    have c3b0 : decide (x3_1 < (l0.length : Int)) = false:=decide_eq_false c3
    clear c3
    obtain rfl:=Option.some.inj H
    go_wp2
    go_ret
    exact ⟨by first|rfl|(simp [errW_none,errW_some] <;> rfl)|(simp [*,errW_none,errW_some] <;> rfl),by repeat (first|(with_reducible first|exact HB.out|apply below_alloc|apply pw_below_drewN|apply below_drew1)|exact HB.out)⟩
   rw [if_pos c3] at H
   have c3b0 : decide (x3_1 < (l0.length : Int)) = true:=decide_eq_true c3
   clear c3
   by_cases c4 : 0 ≤ x3_1
   rotate_left
   ·rw [if_neg c4] at H
    exact absurd H (by simp)
   rw [if_pos c4] at H
   have c4b0 : decide (0 ≤ x3_1) = true:=decide_eq_true c4
   clear c4
   replace H:=Option.bind_eq_some_iff.mp H
   obtain ⟨t224,A50,H⟩:=H
   replace H : (if t224 = true then (spec_l09TokensOk.l0 k1 l0 (wrap64 (x3_1 + 1))) else (some false)) = some r:=H
   have A5:=Aside0.mk A50
   clear A50
   by_cases c6 : t224 = true
   rotate_left
   ·replace c6:=Bool.eq_false_iff.mpr c6
    subst c6
    have H1 : (some false) = some r:=by rw [if_neg (show ¬ (false = true) by decide)] at H;exact H
    clear H
    have H:=H1
    clear H1
    obtain rfl:=Option.some.inj H
    have p223 : 0 ≤ (x3_1 : Int):=of_decide_eq_true (by assumption)
    have q223 : x3_1 < (l0.length : Int):=of_decide_eq_true (by assumption)
    obtain ⟨ad223,e223,hx223_0,hx223_1,hx223_2⟩:=at_T107 HR0.out x3_1 p223 q223
    cases e223
    replace hx223_0:=(HB.out.cell (World.block_lt_of_cell? w _ hx223_0)).trans hx223_0
    replace hx223_1:=(HB.out.cell (World.block_lt_of_cell? w _ hx223_1)).trans hx223_1
    replace hx223_2:=(HB.out.cell (World.block_lt_of_cell? w _ hx223_2)).trans hx223_2
    replace p223:=eq_true p223
    replace q223:=eq_true q223
    go_wp2_with (first|((with_reducible refine gate_callee (f:=103) rfl ?_);refine goesL_ (some 17) rfl rfl Try.func103 (by kernel_rfl) rfl #[.agg #[.int .i64 ((rd_T107 l0 x3_1).f0),.int .i64 ((rd_T107 l0 x3_1).f1),.int .i64 ((rd_T107 l0 x3_1).f2)]] rfl (by (try simp only [List.map_toArray,List.map_cons,List.map_nil]);first|done|rfl|(simp only [List.length_drop,List.length_take];rfl)) ?_;(with_reducible refine (spec_TokenOk.calls ((rd_T107 l0 x3_1).f0) ((rd_T107 l0 x3_1).f1) ((rd_T107 l0 x3_1).f2) false _ A5.out).mono ?_);rintro e w8 ⟨rfl,hb⟩;refine ⟨_,rfl,?_⟩;have n0_:=Aside0.mk (below_step (by repeat (first|(with_reducible first|exact HB.out|apply below_alloc|apply pw_below_drewN|apply below_drew1)|exact HB.out)) hb);clear HB;have HB:=n0_;clear n0_;(try clear hb);(try clear hb2);(try clear hk);(try clear hi)))
    go_ret
    exact ⟨by first|rfl|(simp [errW_none,errW_some] <;> rfl)|(simp [*,errW_none,errW_some] <;> rfl),by repeat (first|(with_reducible first|exact HB.out|apply below_alloc|apply pw_below_drewN|apply below_drew1)|exact HB.out)⟩
   subst c6
   have H1 : (spec_l09TokensOk.l0 k1 l0 (wrap64 (x3_1 + 1))) = some r:=by rw [if_pos rfl] at H;exact H
   clear H
   have H:=H1
   clear H1
   have H':=Aside0.mk H
   clear H
   have p223 : 0 ≤ (x3_1 : Int):=of_decide_eq_true (by assumption)
   have q223 : x3_1 < (l0.length : Int):=of_decide_eq_true (by assumption)
   obtain ⟨ad223,e223,hx223_0,hx223_1,hx223_2⟩:=at_T107 HR0.out x3_1 p223 q223
   cases e223
   replace hx223_0:=(HB.out.cell (World.block_lt_of_cell? w _ hx223_0)).trans hx223_0
   replace hx223_1:=(HB.out.cell (World.block_lt_of_cell? w _ hx223_1)).trans hx223_1
   replace hx223_2:=(HB.out.cell (World.block_lt_of_cell? w _ hx223_2)).trans hx223_2
   replace p223:=eq_true p223
   replace q223:=eq_true q223
   go_wp2_with (first|((with_reducible refine gate_callee (f:=103) rfl ?_);refine goesL_ (some 17) rfl rfl Try.func103 (by kernel_rfl) rfl #[.agg #[.int .i64 ((rd_T107 l0 x3_1).f0),.int .i64 ((rd_T107 l0 x3_1).f1),.int .i64 ((rd_T107 l0 x3_1).f2)]] rfl (by (try simp only [List.map_toArray,List.map_cons,List.map_nil]);first|done|rfl|(simp only [List.length_drop,List.length_take];rfl)) ?_;(with_reducible refine (spec_TokenOk.calls ((rd_T107 l0 x3_1).f0) ((rd_T107 l0 x3_1).f1) ((rd_T107 l0 x3_1).f2) true _ A5.out).mono ?_);rintro e w7 ⟨rfl,hb⟩;refine ⟨_,rfl,?_⟩;have n0_:=Aside0.mk (below_step (by repeat (first|(with_reducible first|exact HB.out|apply below_alloc|apply pw_below_drewN|apply below_drew1)|exact HB.out)) hb);clear HB;have HB:=n0_;clear n0_;(try clear hb);(try clear hb2);(try clear hk);(try clear hi)))
   go_roundg k1
   case measure => have:=HK1.out;omega
   case rel => exact ⟨(wrap64 (x3_1 + 1)),(by first|rfl|(simp;done)|(simp [*];done)),H',⟨by have:=HK1.out;omega⟩,⟨by repeat (first|(with_reducible first|exact HB.out|apply below_alloc|apply pw_below_drewN|apply below_drew1)|exact HB.out)⟩⟩
/-! ### spec_l06LengthBits: function 104 -/
def spec_l06LengthBits.l0 : Nat → Int → Int → Int → Int → Option (Int × Int)
  | 0, _, _, _, _ => none
  | k + 1, x0, x4, x5, x6 => if x6 < x0 then ((spec_l01Pow.f k (wrap64 (Int.tdiv (wrap64 (x6 - 261)) 4))).bind fun t225 => (spec_l06LengthBits.l0 k x0 x4 (wrap64 (x5 + t225)) (wrap64 (x6 + 1)))) else (some (x4, x5))
def spec_l06LengthBits.f (k : Nat) (a0 : Int) : Option (Int × Int) := if a0 < 265 then (some (0, wrap64 (a0 - 254))) else (if a0 = 285 then (some (0, 258)) else (spec_l06LengthBits.l0 k a0 (wrap64 (Int.tdiv (wrap64 (a0 - 261)) 4)) 11 265))
theorem spec_l06LengthBits.mono_l : ∀ k, (∀ y0 y1 y2 y3, LeO (spec_l06LengthBits.l0 k y0 y1 y2 y3) (spec_l06LengthBits.l0 (k + 1) y0 y1 y2 y3))
  | 0 => fun _ _ _ _ r h => by simp [spec_l06LengthBits.l0] at h
  | k + 1 => by
    have ih0 := spec_l06LengthBits.mono_l k
    · intro y0 y1 y2 y3
      unfold spec_l06LengthBits.l0
      repeat' first
      | (with_reducible exact ih0 _ _ _ _)
      | (with_reducible exact spec_l01Pow.mono _ _)
      | (with_reducible exact LeO.refl _)
      | (with_reducible exact LeO.none _)
      | (with_reducible refine LeO.ite ?_ ?_)
      | (with_reducible refine LeO.bind ?_ (fun _ => ?_))
      | exact ih0 _ _ _ _
      | exact spec_l01Pow.mono _ _
      | exact LeO.none _
      | refine LeO.ite ?_ ?_
      | refine LeO.bind ?_ (fun _ => ?_)
theorem spec_l06LengthBits.mono : ∀ a0 k, LeO (spec_l06LengthBits.f k a0) (spec_l06LengthBits.f (k + 1) a0) := by
  intro a0 k
  have ih0 := spec_l06LengthBits.mono_l k
  unfold spec_l06LengthBits.f
  repeat' first
      | (with_reducible exact ih0 _ _ _ _)
      | (with_reducible exact spec_l01Pow.mono _ _)
      | (with_reducible exact LeO.refl _)
      | (with_reducible exact LeO.none _)
      | (with_reducible refine LeO.ite ?_ ?_)
      | (with_reducible refine LeO.bind ?_ (fun _ => ?_))
      | exact ih0 _ _ _ _
      | exact spec_l01Pow.mono _ _
      | exact LeO.none _
      | refine LeO.ite ?_ ?_
      | refine LeO.bind ?_ (fun _ => ?_)
set_option maxHeartbeats 8000000 in
set_option maxRecDepth 100000 in
theorem spec_l06LengthBits.calls (k : Nat) (a0 : Int) (r1 : Int) (r2 : Int) (w : World) (h : spec_l06LengthBits.f k a0 = some (r1, r2)) :
    Calls Try.prog 104 #[.int .i64 a0] w fun e w' => e = .returned (.tuple #[.int .i64 r1, .int .i64 r2]) ∧ Drawn0 w w' := by
 have H : (if a0 < 265 then (some (0,wrap64 (a0 - 254))) else (if a0 = 285 then (some (0,258)) else (spec_l06LengthBits.l0 k a0 (wrap64 (Int.tdiv (wrap64 (a0 - 261)) 4)) 11 265))) = some (r1,r2):=h
 clear h
 by_cases c2 : a0 < 265
 ·rw [if_pos c2] at H
  have c2b0 : decide (a0 < 265) = true:=decide_eq_true c2
  clear c2
  simp only [Option.some.injEq,Prod.mk.injEq] at H
  obtain ⟨rfl,rfl⟩:=H
  go_enter Try.func104,Try.ntmps104
  go_wp2
  go_ret2
  exact ⟨by first|rfl|(simp;done)|(simp [*];done),by repeat (first|exact Drawn0.refl _|apply Drawn0.step)⟩
 rw [if_neg c2] at H
 have c2b0 : decide (a0 < 265) = false:=decide_eq_false c2
 clear c2
 by_cases c3 : a0 = 285
 ·rw [if_pos c3] at H
  have c3b0 : (a0 == 285) = true:=beq_iff_eq.mpr c3
  have c3b1 : (a0 != 285) = false:=bne_eq_false_iff_eq.mpr c3
  clear c3
  simp only [Option.some.injEq,Prod.mk.injEq] at H
  obtain ⟨rfl,rfl⟩:=H
  go_enter Try.func104,Try.ntmps104
  go_wp2
  go_ret2
  exact ⟨by first|rfl|(simp;done)|(simp [*];done),by repeat (first|exact Drawn0.refl _|apply Drawn0.step)⟩
 rw [if_neg c3] at H
 have c3b0 : (a0 == 285) = false:=beq_eq_false_iff_ne.mpr c3
 have c3b1 : (a0 != 285) = true:=bne_iff_ne.mpr c3
 have H':=Aside0.mk H
 clear H
 go_enter Try.func104,Try.ntmps104
 go_wp2
 go_loopg [5,6] k (fun kq v5 v6 w' => ∃ (x5_1 : Int) (x6_1 : Int),v5 = .int .i64 x5_1∧v6 = .int .i64 x6_1∧Aside0 (spec_l06LengthBits.l0 kq a0 (wrap64 (Int.tdiv (wrap64 (a0 - 261)) 4)) x5_1 x6_1 = some (r1,r2))∧Aside0 (kq ≤ k)∧Drawn0 w w')
 case atStart => exact ⟨(11),(265),(by first|rfl|(simp;done)|(simp [*];done)),(by first|rfl|(simp;done)|(simp [*];done)),H',⟨Nat.le_refl _⟩,by repeat (first|exact Drawn0.refl _|apply Drawn0.step)⟩
 case round =>
  clear H'
  obtain ⟨x5_1,x6_1,rfl,rfl,HA,HK1,⟨m1,rfl⟩⟩:=hrel
  cases gk with
  | zero => exact absurd HA.out (by simp [spec_l06LengthBits.l0])
  | succ k1 =>
   have H:=HA.out
   clear HA
   simp only [spec_l06LengthBits.l0] at H
   by_cases c4 : x6_1 < a0
   rotate_left
   ·rw [if_neg c4] at H
    have c4b0 : decide (x6_1 < a0) = false:=decide_eq_false c4
    clear c4
    simp only [Option.some.injEq,Prod.mk.injEq] at H
    obtain ⟨rfl,rfl⟩:=H
    go_wp2
    go_ret2
    exact ⟨by first|rfl|(simp;done)|(simp [*];done),by repeat (first|exact Drawn0.refl _|apply Drawn0.step)⟩
   rw [if_pos c4] at H
   have c4b0 : decide (x6_1 < a0) = true:=decide_eq_true c4
   clear c4
   replace H:=Option.bind_eq_some_iff.mp H
   obtain ⟨t225,A50,H⟩:=H
   replace H : (spec_l06LengthBits.l0 k1 a0 (wrap64 (Int.tdiv (wrap64 (a0 - 261)) 4)) (wrap64 (x5_1 + t225)) (wrap64 (x6_1 + 1))) = some (r1,r2):=H
   have A5:=Aside0.mk A50
   clear A50
   have H':=Aside0.mk H
   clear H
   go_wp2_with (first|((with_reducible refine gate_callee (f:=67) rfl ?_);refine goesL_ (some 25) rfl rfl Try.func67 (by kernel_rfl) rfl #[.int .i64 (wrap64 (Int.tdiv (wrap64 (x6_1 - 261)) 4))] rfl (by (try simp only [List.map_toArray,List.map_cons,List.map_nil]);first|done|rfl|(simp only [List.length_drop,List.length_take];rfl)) ?_;(with_reducible refine (spec_l01Pow.calls k1 (wrap64 (Int.tdiv (wrap64 (x6_1 - 261)) 4)) t225 _ A5.out).mono ?_);rintro e w' ⟨rfl,⟨nd,rfl⟩⟩;refine ⟨_,rfl,?_⟩))
   go_roundg k1
   case measure => have:=HK1.out;omega
   case rel => exact ⟨(wrap64 (x5_1 + t225)),(wrap64 (x6_1 + 1)),(by first|rfl|(simp;done)|(simp [*];done)),(by first|rfl|(simp;done)|(simp [*];done)),H',⟨by have:=HK1.out;omega⟩,by repeat (first|exact Drawn0.refl _|apply Drawn0.step)⟩
/-! ### spec_LengthCode: function 77 -/
mutual
def spec_LengthCode.l0 : Nat → Int → Int → Int → Int → Int → Option (Int × Int × Int)
  | 0, _, _, _, _, _ => none
  | k + 1, x0, x5, x6, x7, x8 => if x8 < 285 then (spec_LengthCode.j1 k x0 x5 x6 x7 x8 (decide (x0 < 258))) else (spec_LengthCode.j1 k x0 x5 x6 x7 x8 false)
def spec_LengthCode.j1 : Nat → Int → Int → Int → Int → Int → Bool → Option (Int × Int × Int)
  | 0, _, _, _, _, _, _ => none
  | k + 1, x0, x5, x6, x7, x8, x19 => if x19 = true then ((spec_l06LengthBits.f k x8).bind fun bt227 => (if bt227.2 ≤ x0 then (spec_LengthCode.l0 k x0 x8 bt227.1 bt227.2 (wrap64 (x8 + 1))) else (spec_LengthCode.l0 k x0 x5 x6 x7 (wrap64 (x8 + 1))))) else (some (x5, x6, wrap64 (x0 - x7)))
end
def spec_LengthCode.f (k : Nat) (a0 : Int) : Option (Int × Int × Int) := (spec_l01In.f a0 3 258).bind fun t226 => (if t226 = true then (spec_LengthCode.l0 k a0 285 0 258 257) else (some (0, 0, 0)))
theorem spec_LengthCode.mono_l : ∀ k, (∀ y0 y1 y2 y3 y4, LeO (spec_LengthCode.l0 k y0 y1 y2 y3 y4) (spec_LengthCode.l0 (k + 1) y0 y1 y2 y3 y4)) ∧ (∀ y0 y1 y2 y3 y4 y5, LeO (spec_LengthCode.j1 k y0 y1 y2 y3 y4 y5) (spec_LengthCode.j1 (k + 1) y0 y1 y2 y3 y4 y5))
  | 0 => ⟨fun _ _ _ _ _ r h => by simp [spec_LengthCode.l0] at h, fun _ _ _ _ _ _ r h => by simp [spec_LengthCode.j1] at h⟩
  | k + 1 => by
    obtain ⟨ih0, ih1⟩ := spec_LengthCode.mono_l k
    refine ⟨?_, ?_⟩
    · intro y0 y1 y2 y3 y4
      unfold spec_LengthCode.l0
      repeat' first
      | (with_reducible exact ih0 _ _ _ _ _)
      | (with_reducible exact ih1 _ _ _ _ _ _)
      | (with_reducible exact spec_l06LengthBits.mono _ _)
      | (with_reducible exact LeO.refl _)
      | (with_reducible exact LeO.none _)
      | (with_reducible refine LeO.ite ?_ ?_)
      | (with_reducible refine LeO.bind ?_ (fun _ => ?_))
      | exact ih0 _ _ _ _ _
      | exact ih1 _ _ _ _ _ _
      | exact spec_l06LengthBits.mono _ _
      | exact LeO.none _
      | refine LeO.ite ?_ ?_
      | refine LeO.bind ?_ (fun _ => ?_)
    · intro y0 y1 y2 y3 y4 y5
      unfold spec_LengthCode.j1
      repeat' first
      | (with_reducible exact ih0 _ _ _ _ _)
      | (with_reducible exact ih1 _ _ _ _ _ _)
      | (with_reducible exact spec_l06LengthBits.mono _ _)
      | (with_reducible exact LeO.refl _)
      | (with_reducible exact LeO.none _)
      | (with_reducible refine LeO.ite ?_ ?_)
      | (with_reducible refine LeO.bind ?_ (fun _ => ?_))
      | exact ih0 _ _ _ _ _
      | exact ih1 _ _ _ _ _ _
      | exact spec_l06LengthBits.mono _ _
      | exact LeO.none _
      | refine LeO.ite ?_ ?_
      | refine LeO.bind ?_ (fun _ => ?_)
theorem spec_LengthCode.mono : ∀ a0 k, LeO (spec_LengthCode.f k a0) (spec_LengthCode.f (k + 1) a0) := by
  intro a0 k
  obtain ⟨ih0, ih1⟩ := spec_LengthCode.mono_l k
  unfold spec_LengthCode.f
  repeat' first
      | (with_reducible exact ih0 _ _ _ _ _)
      | (with_reducible exact ih1 _ _ _ _ _ _)
      | (with_reducible exact spec_l06LengthBits.mono _ _)
      | (with_reducible exact LeO.refl _)
      | (with_reducible exact LeO.none _)
      | (with_reducible refine LeO.ite ?_ ?_)
      | (with_reducible refine LeO.bind ?_ (fun _ => ?_))
      | exact ih0 _ _ _ _ _
      | exact ih1 _ _ _ _ _ _
      | exact spec_l06LengthBits.mono _ _
      | exact LeO.none _
      | refine LeO.ite ?_ ?_
      | refine LeO.bind ?_ (fun _ => ?_)
set_option maxHeartbeats 8000000 in
set_option maxRecDepth 100000 in
theorem spec_LengthCode.calls (k : Nat) (a0 : Int) (r1 : Int) (r2 : Int) (r3 : Int) (w : World) (h : spec_LengthCode.f k a0 = some (r1, r2, r3)) :
    Calls Try.prog 77 #[.int .i64 a0] w fun e w' => e = .returned (.tuple #[.int .i64 r1, .int .i64 r2, .int .i64 r3]) ∧ Drawn0 w w' := by
 have H : ((spec_l01In.f a0 3 258).bind fun t226 => (if t226 = true then (spec_LengthCode.l0 k a0 285 0 258 257) else (some (0,0,0)))) = some (r1,r2,r3):=h
 clear h
 replace H:=Option.bind_eq_some_iff.mp H
 obtain ⟨t226,A20,H⟩:=H
 replace H : (if t226 = true then (spec_LengthCode.l0 k a0 285 0 258 257) else (some (0,0,0))) = some (r1,r2,r3):=H
 have A2:=Aside0.mk A20
 clear A20
 by_cases c3 : t226 = true
 rotate_left
 ·replace c3:=Bool.eq_false_iff.mpr c3
  subst c3
  have H1 : (some (0,0,0)) = some (r1,r2,r3):=by rw [if_neg (show ¬ (false = true) by decide)] at H;exact H
  clear H
  have H:=H1
  clear H1
  simp only [Option.some.injEq,Prod.mk.injEq] at H
  obtain ⟨rfl,rfl,rfl⟩:=H
  go_enter Try.func77,Try.ntmps77
  go_wp2_with (first|((with_reducible refine gate_callee (f:=52) rfl ?_);refine goesL_ (some 12) rfl rfl Try.func52 (by kernel_rfl) rfl #[.int .i64 a0,.int .i64 3,.int .i64 258] rfl (by (try simp only [List.map_toArray,List.map_cons,List.map_nil]);first|done|rfl|(simp only [List.length_drop,List.length_take];rfl)) ?_;(with_reducible refine (spec_l01In.calls a0 3 258 false _ A2.out).mono ?_);rintro e w' ⟨rfl,⟨nd,rfl⟩⟩;refine ⟨_,rfl,?_⟩))
  go_ret3
  exact ⟨by first|rfl|(simp;done)|(simp [*];done),by repeat (first|exact Drawn0.refl _|apply Drawn0.step)⟩
 subst c3
 have H1 : (spec_LengthCode.l0 k a0 285 0 258 257) = some (r1,r2,r3):=by rw [if_pos rfl] at H;exact H
 clear H
 have H:=H1
 clear H1
 have H':=Aside0.mk H
 clear H
 go_enter Try.func77,Try.ntmps77
 go_wp2_with (first|((with_reducible refine gate_callee (f:=52) rfl ?_);refine goesL_ (some 12) rfl rfl Try.func52 (by kernel_rfl) rfl #[.int .i64 a0,.int .i64 3,.int .i64 258] rfl (by (try simp only [List.map_toArray,List.map_cons,List.map_nil]);first|done|rfl|(simp only [List.length_drop,List.length_take];rfl)) ?_;(with_reducible refine (spec_l01In.calls a0 3 258 true _ A2.out).mono ?_);rintro e w' ⟨rfl,⟨nd,rfl⟩⟩;refine ⟨_,rfl,?_⟩))
 go_loopg [5,6,7,8] k (fun kq v5 v6 v7 v8 w' => ∃ (x5_1 : Int) (x6_1 : Int) (x7_1 : Int) (x8_1 : Int),v5 = .int .i64 x5_1∧v6 = .int .i64 x6_1∧v7 = .int .i64 x7_1∧v8 = .int .i64 x8_1∧Aside0 (spec_LengthCode.l0 kq a0 x5_1 x6_1 x7_1 x8_1 = some (r1,r2,r3))∧Aside0 (kq ≤ k)∧Drawn0 w w')
 case atStart => exact ⟨(285),(0),(258),(257),(by first|rfl|(simp;done)|(simp [*];done)),(by first|rfl|(simp;done)|(simp [*];done)),(by first|rfl|(simp;done)|(simp [*];done)),(by first|rfl|(simp;done)|(simp [*];done)),H',⟨Nat.le_refl _⟩,by repeat (first|exact Drawn0.refl _|apply Drawn0.step)⟩
 case round =>
  clear H'
  obtain ⟨x5_1,x6_1,x7_1,x8_1,rfl,rfl,rfl,rfl,HA,HK1,⟨m1,rfl⟩⟩:=hrel
  cases gk with
  | zero => exact absurd HA.out (by simp [spec_LengthCode.l0])
  | succ k1 =>
   have H:=HA.out
   clear HA
   simp only [spec_LengthCode.l0] at H
   have HC4:=Aside0.mk H
   clear H
   go_upto_region 7 with (fail)
   go_cut [19] (fun v19 wc => ∃ (kq : Nat) (x19_3 : Bool),v19 = .bool x19_3∧Aside0 (spec_LengthCode.j1 kq a0 x5_1 x6_1 x7_1 x8_1 x19_3 = some (r1,r2,r3))∧Aside0 (kq ≤ k1)∧Drawn0 w wc)
   case first =>
    have H:=HC4.out
    clear HC4
    by_cases c5 : x8_1 < 285
    rotate_left
    ·rw [if_neg c5] at H
     have c5b0 : decide (x8_1 < 285) = false:=decide_eq_false c5
     clear c5
     (first|rw [c5b0]|(simp only [i64_w,i32_w];rw [c5b0])|skip)
     have H':=Aside0.mk H
     clear H
     go_wp2
     go_meet
     case rel => exact ⟨_,(false),(by first|rfl|(simp;done)|(simp [*];done)),H',⟨by have:=HK1.out;first|omega|exact Nat.le_refl _⟩,by repeat (first|exact Drawn0.refl _|apply Drawn0.step)⟩
    rw [if_pos c5] at H
    have c5b0 : decide (x8_1 < 285) = true:=decide_eq_true c5
    clear c5
    (first|rw [c5b0]|(simp only [i64_w,i32_w];rw [c5b0])|skip)
    have H':=Aside0.mk H
    clear H
    go_wp2
    go_meet
    case rel => exact ⟨_,(decide (a0 < 258)),(by first|rfl|(simp;done)|(simp [*];done)),H',⟨by have:=HK1.out;first|omega|exact Nat.le_refl _⟩,by repeat (first|exact Drawn0.refl _|apply Drawn0.step)⟩
   case rest =>
    clear HC4
    obtain ⟨kq,x19_3,rfl,HA,HJ3,⟨mc3,rfl⟩⟩:=hcut
    cases kq with
    | zero => exact absurd HA.out (by simp [spec_LengthCode.j1])
    | succ kj3 =>
     have H:=HA.out
     clear HA
     simp only [spec_LengthCode.j1] at H
     by_cases c6 : x19_3 = true
     rotate_left
     ·replace c6:=Bool.eq_false_iff.mpr c6
      subst c6
      have H1 : (some (x5_1,x6_1,wrap64 (a0 - x7_1))) = some (r1,r2,r3):=by rw [if_neg (show ¬ (false = true) by decide)] at H;exact H
      clear H
      have H:=H1
      clear H1
      simp only [Option.some.injEq,Prod.mk.injEq] at H
      obtain ⟨rfl,rfl,rfl⟩:=H
      go_wp2
      go_ret3
      exact ⟨by first|rfl|(simp;done)|(simp [*];done),by repeat (first|exact Drawn0.refl _|apply Drawn0.step)⟩
     subst c6
     have H1 : ((spec_l06LengthBits.f kj3 x8_1).bind fun bt227 => (if bt227.2 ≤ a0 then (spec_LengthCode.l0 kj3 a0 x8_1 bt227.1 bt227.2 (wrap64 (x8_1 + 1))) else (spec_LengthCode.l0 kj3 a0 x5_1 x6_1 x7_1 (wrap64 (x8_1 + 1))))) = some (r1,r2,r3):=by rw [if_pos rfl] at H;exact H
     clear H
     have H:=H1
     clear H1
     replace H:=Option.bind_eq_some_iff.mp H
     obtain ⟨⟨t227,t228⟩,A70,H⟩:=H
     replace H : (if t228 ≤ a0 then (spec_LengthCode.l0 kj3 a0 x8_1 t227 t228 (wrap64 (x8_1 + 1))) else (spec_LengthCode.l0 kj3 a0 x5_1 x6_1 x7_1 (wrap64 (x8_1 + 1)))) = some (r1,r2,r3):=H
     have A7:=Aside0.mk A70
     clear A70
     by_cases c8 : t228 ≤ a0
     ·rw [if_pos c8] at H
      have c8b0 : decide (t228 ≤ a0) = true:=decide_eq_true c8
      clear c8
      have H':=Aside0.mk H
      clear H
      go_wp2_with (first|((with_reducible refine gate_callee (f:=104) rfl ?_);refine goesL_ (some 24) rfl rfl Try.func104 (by kernel_rfl) rfl #[.int .i64 x8_1] rfl (by (try simp only [List.map_toArray,List.map_cons,List.map_nil]);first|done|rfl|(simp only [List.length_drop,List.length_take];rfl)) ?_;(with_reducible refine (spec_l06LengthBits.calls kj3 x8_1 t227 t228 _ A7.out).mono ?_);rintro e w' ⟨rfl,⟨nd,rfl⟩⟩;refine ⟨_,rfl,?_⟩))
      go_roundg kj3
      case measure => have:=HK1.out;have:=HJ3.out;omega
      case rel => exact ⟨(x8_1),(t227),(t228),(wrap64 (x8_1 + 1)),(by first|rfl|(simp;done)|(simp [*];done)),(by first|rfl|(simp;done)|(simp [*];done)),(by first|rfl|(simp;done)|(simp [*];done)),(by first|rfl|(simp;done)|(simp [*];done)),H',⟨by have:=HK1.out;have:=HJ3.out;omega⟩,by repeat (first|exact Drawn0.refl _|apply Drawn0.step)⟩
     rw [if_neg c8] at H
     have c8b0 : decide (t228 ≤ a0) = false:=decide_eq_false c8
     clear c8
     have H':=Aside0.mk H
     clear H
     go_wp2_with (first|((with_reducible refine gate_callee (f:=104) rfl ?_);refine goesL_ (some 24) rfl rfl Try.func104 (by kernel_rfl) rfl #[.int .i64 x8_1] rfl (by (try simp only [List.map_toArray,List.map_cons,List.map_nil]);first|done|rfl|(simp only [List.length_drop,List.length_take];rfl)) ?_;(with_reducible refine (spec_l06LengthBits.calls kj3 x8_1 t227 t228 _ A7.out).mono ?_);rintro e w' ⟨rfl,⟨nd,rfl⟩⟩;refine ⟨_,rfl,?_⟩))
     go_roundg kj3
     case measure => have:=HK1.out;have:=HJ3.out;omega
     case rel => exact ⟨(x5_1),(x6_1),(x7_1),(wrap64 (x8_1 + 1)),(by first|rfl|(simp;done)|(simp [*];done)),(by first|rfl|(simp;done)|(simp [*];done)),(by first|rfl|(simp;done)|(simp [*];done)),(by first|rfl|(simp;done)|(simp [*];done)),H',⟨by have:=HK1.out;have:=HJ3.out;omega⟩,by repeat (first|exact Drawn0.refl _|apply Drawn0.step)⟩
/-! ### spec_l06DistBits: function 105 -/
def spec_l06DistBits.l0 : Nat → Int → Int → Int → Option (Int × Int)
  | 0, _, _, _ => none
  | k + 1, x0, x4, x5 => if x5 < x0 then ((spec_l01Pow.f k (wrap64 (Int.tdiv (wrap64 (x5 - 2)) 2))).bind fun t229 => (spec_l06DistBits.l0 k x0 (wrap64 (x4 + t229)) (wrap64 (x5 + 1)))) else (some (wrap64 (Int.tdiv (wrap64 (x0 - 2)) 2), x4))
def spec_l06DistBits.f (k : Nat) (a0 : Int) : Option (Int × Int) := if a0 < 4 then (some (0, wrap64 (a0 + 1))) else (spec_l06DistBits.l0 k a0 5 4)
theorem spec_l06DistBits.mono_l : ∀ k, (∀ y0 y1 y2, LeO (spec_l06DistBits.l0 k y0 y1 y2) (spec_l06DistBits.l0 (k + 1) y0 y1 y2))
  | 0 => fun _ _ _ r h => by simp [spec_l06DistBits.l0] at h
  | k + 1 => by
    have ih0 := spec_l06DistBits.mono_l k
    · intro y0 y1 y2
      unfold spec_l06DistBits.l0
      repeat' first
      | (with_reducible exact ih0 _ _ _)
      | (with_reducible exact spec_l01Pow.mono _ _)
      | (with_reducible exact LeO.refl _)
      | (with_reducible exact LeO.none _)
      | (with_reducible refine LeO.ite ?_ ?_)
      | (with_reducible refine LeO.bind ?_ (fun _ => ?_))
      | exact ih0 _ _ _
      | exact spec_l01Pow.mono _ _
      | exact LeO.none _
      | refine LeO.ite ?_ ?_
      | refine LeO.bind ?_ (fun _ => ?_)
theorem spec_l06DistBits.mono : ∀ a0 k, LeO (spec_l06DistBits.f k a0) (spec_l06DistBits.f (k + 1) a0) := by
  intro a0 k
  have ih0 := spec_l06DistBits.mono_l k
  unfold spec_l06DistBits.f
  repeat' first
      | (with_reducible exact ih0 _ _ _)
      | (with_reducible exact spec_l01Pow.mono _ _)
      | (with_reducible exact LeO.refl _)
      | (with_reducible exact LeO.none _)
      | (with_reducible refine LeO.ite ?_ ?_)
      | (with_reducible refine LeO.bind ?_ (fun _ => ?_))
      | exact ih0 _ _ _
      | exact spec_l01Pow.mono _ _
      | exact LeO.none _
      | refine LeO.ite ?_ ?_
      | refine LeO.bind ?_ (fun _ => ?_)
set_option maxHeartbeats 8000000 in
set_option maxRecDepth 100000 in
theorem spec_l06DistBits.calls (k : Nat) (a0 : Int) (r1 : Int) (r2 : Int) (w : World) (h : spec_l06DistBits.f k a0 = some (r1, r2)) :
    Calls Try.prog 105 #[.int .i64 a0] w fun e w' => e = .returned (.tuple #[.int .i64 r1, .int .i64 r2]) ∧ Drawn0 w w' := by
 have H : (if a0 < 4 then (some (0,wrap64 (a0 + 1))) else (spec_l06DistBits.l0 k a0 5 4)) = some (r1,r2):=h
 clear h
 by_cases c2 : a0 < 4
 ·rw [if_pos c2] at H
  have c2b0 : decide (a0 < 4) = true:=decide_eq_true c2
  clear c2
  simp only [Option.some.injEq,Prod.mk.injEq] at H
  obtain ⟨rfl,rfl⟩:=H
  go_enter Try.func105,Try.ntmps105
  go_wp2
  go_ret2
  exact ⟨by first|rfl|(simp;done)|(simp [*];done),by repeat (first|exact Drawn0.refl _|apply Drawn0.step)⟩
 rw [if_neg c2] at H
 have c2b0 : decide (a0 < 4) = false:=decide_eq_false c2
 clear c2
 have H':=Aside0.mk H
 clear H
 go_enter Try.func105,Try.ntmps105
 go_wp2
 go_loopg [4,5] k (fun kq v4 v5 w' => ∃ (x4_1 : Int) (x5_1 : Int),v4 = .int .i64 x4_1∧v5 = .int .i64 x5_1∧Aside0 (spec_l06DistBits.l0 kq a0 x4_1 x5_1 = some (r1,r2))∧Aside0 (kq ≤ k)∧Drawn0 w w')
 case atStart => exact ⟨(5),(4),(by first|rfl|(simp;done)|(simp [*];done)),(by first|rfl|(simp;done)|(simp [*];done)),H',⟨Nat.le_refl _⟩,by repeat (first|exact Drawn0.refl _|apply Drawn0.step)⟩
 case round =>
  clear H'
  obtain ⟨x4_1,x5_1,rfl,rfl,HA,HK1,⟨m1,rfl⟩⟩:=hrel
  cases gk with
  | zero => exact absurd HA.out (by simp [spec_l06DistBits.l0])
  | succ k1 =>
   have H:=HA.out
   clear HA
   simp only [spec_l06DistBits.l0] at H
   by_cases c3 : x5_1 < a0
   rotate_left
   ·rw [if_neg c3] at H
    have c3b0 : decide (x5_1 < a0) = false:=decide_eq_false c3
    clear c3
    simp only [Option.some.injEq,Prod.mk.injEq] at H
    obtain ⟨rfl,rfl⟩:=H
    go_wp2
    go_ret2
    exact ⟨by first|rfl|(simp;done)|(simp [*];done),by repeat (first|exact Drawn0.refl _|apply Drawn0.step)⟩
   rw [if_pos c3] at H
   have c3b0 : decide (x5_1 < a0) = true:=decide_eq_true c3
   clear c3
   replace H:=Option.bind_eq_some_iff.mp H
   obtain ⟨t229,A40,H⟩:=H
   replace H : (spec_l06DistBits.l0 k1 a0 (wrap64 (x4_1 + t229)) (wrap64 (x5_1 + 1))) = some (r1,r2):=H
   have A4:=Aside0.mk A40
   clear A40
   have H':=Aside0.mk H
   clear H
   go_wp2_with (first|((with_reducible refine gate_callee (f:=67) rfl ?_);refine goesL_ (some 19) rfl rfl Try.func67 (by kernel_rfl) rfl #[.int .i64 (wrap64 (Int.tdiv (wrap64 (x5_1 - 2)) 2))] rfl (by (try simp only [List.map_toArray,List.map_cons,List.map_nil]);first|done|rfl|(simp only [List.length_drop,List.length_take];rfl)) ?_;(with_reducible refine (spec_l01Pow.calls k1 (wrap64 (Int.tdiv (wrap64 (x5_1 - 2)) 2)) t229 _ A4.out).mono ?_);rintro e w' ⟨rfl,⟨nd,rfl⟩⟩;refine ⟨_,rfl,?_⟩))
   go_roundg k1
   case measure => have:=HK1.out;omega
   case rel => exact ⟨(wrap64 (x4_1 + t229)),(wrap64 (x5_1 + 1)),(by first|rfl|(simp;done)|(simp [*];done)),(by first|rfl|(simp;done)|(simp [*];done)),H',⟨by have:=HK1.out;omega⟩,by repeat (first|exact Drawn0.refl _|apply Drawn0.step)⟩
/-! ### spec_DistCode: function 78 -/
def spec_DistCode.l0 : Nat → Int → Int → Int → Int → Int → Option (Int × Int × Int)
  | 0, _, _, _, _, _ => none
  | k + 1, x0, x5, x6, x7, x8 => if x8 < 30 then ((spec_l06DistBits.f k x8).bind fun bt231 => (if bt231.2 ≤ x0 then (spec_DistCode.l0 k x0 x8 bt231.1 bt231.2 (wrap64 (x8 + 1))) else (spec_DistCode.l0 k x0 x5 x6 x7 (wrap64 (x8 + 1))))) else (some (x5, x6, wrap64 (x0 - x7)))
def spec_DistCode.f (k : Nat) (a0 : Int) : Option (Int × Int × Int) := (spec_l01In.f a0 1 32768).bind fun t230 => (if t230 = true then (spec_DistCode.l0 k a0 0 0 1 0) else (some (0, 0, 0)))
theorem spec_DistCode.mono_l : ∀ k, (∀ y0 y1 y2 y3 y4, LeO (spec_DistCode.l0 k y0 y1 y2 y3 y4) (spec_DistCode.l0 (k + 1) y0 y1 y2 y3 y4))
  | 0 => fun _ _ _ _ _ r h => by simp [spec_DistCode.l0] at h
  | k + 1 => by
    have ih0 := spec_DistCode.mono_l k
    · intro y0 y1 y2 y3 y4
      unfold spec_DistCode.l0
      repeat' first
      | (with_reducible exact ih0 _ _ _ _ _)
      | (with_reducible exact spec_l06DistBits.mono _ _)
      | (with_reducible exact LeO.refl _)
      | (with_reducible exact LeO.none _)
      | (with_reducible refine LeO.ite ?_ ?_)
      | (with_reducible refine LeO.bind ?_ (fun _ => ?_))
      | exact ih0 _ _ _ _ _
      | exact spec_l06DistBits.mono _ _
      | exact LeO.none _
      | refine LeO.ite ?_ ?_
      | refine LeO.bind ?_ (fun _ => ?_)
theorem spec_DistCode.mono : ∀ a0 k, LeO (spec_DistCode.f k a0) (spec_DistCode.f (k + 1) a0) := by
  intro a0 k
  have ih0 := spec_DistCode.mono_l k
  unfold spec_DistCode.f
  repeat' first
      | (with_reducible exact ih0 _ _ _ _ _)
      | (with_reducible exact spec_l06DistBits.mono _ _)
      | (with_reducible exact LeO.refl _)
      | (with_reducible exact LeO.none _)
      | (with_reducible refine LeO.ite ?_ ?_)
      | (with_reducible refine LeO.bind ?_ (fun _ => ?_))
      | exact ih0 _ _ _ _ _
      | exact spec_l06DistBits.mono _ _
      | exact LeO.none _
      | refine LeO.ite ?_ ?_
      | refine LeO.bind ?_ (fun _ => ?_)
set_option maxHeartbeats 8000000 in
set_option maxRecDepth 100000 in
theorem spec_DistCode.calls (k : Nat) (a0 : Int) (r1 : Int) (r2 : Int) (r3 : Int) (w : World) (h : spec_DistCode.f k a0 = some (r1, r2, r3)) :
    Calls Try.prog 78 #[.int .i64 a0] w fun e w' => e = .returned (.tuple #[.int .i64 r1, .int .i64 r2, .int .i64 r3]) ∧ Drawn0 w w' := by
 have H : ((spec_l01In.f a0 1 32768).bind fun t230 => (if t230 = true then (spec_DistCode.l0 k a0 0 0 1 0) else (some (0,0,0)))) = some (r1,r2,r3):=h
 clear h
 replace H:=Option.bind_eq_some_iff.mp H
 obtain ⟨t230,A20,H⟩:=H
 replace H : (if t230 = true then (spec_DistCode.l0 k a0 0 0 1 0) else (some (0,0,0))) = some (r1,r2,r3):=H
 have A2:=Aside0.mk A20
 clear A20
 by_cases c3 : t230 = true
 rotate_left
 ·replace c3:=Bool.eq_false_iff.mpr c3
  subst c3
  have H1 : (some (0,0,0)) = some (r1,r2,r3):=by rw [if_neg (show ¬ (false = true) by decide)] at H;exact H
  clear H
  have H:=H1
  clear H1
  simp only [Option.some.injEq,Prod.mk.injEq] at H
  obtain ⟨rfl,rfl,rfl⟩:=H
  go_enter Try.func78,Try.ntmps78
  go_wp2_with (first|((with_reducible refine gate_callee (f:=52) rfl ?_);refine goesL_ (some 12) rfl rfl Try.func52 (by kernel_rfl) rfl #[.int .i64 a0,.int .i64 1,.int .i64 32768] rfl (by (try simp only [List.map_toArray,List.map_cons,List.map_nil]);first|done|rfl|(simp only [List.length_drop,List.length_take];rfl)) ?_;(with_reducible refine (spec_l01In.calls a0 1 32768 false _ A2.out).mono ?_);rintro e w' ⟨rfl,⟨nd,rfl⟩⟩;refine ⟨_,rfl,?_⟩))
  go_ret3
  exact ⟨by first|rfl|(simp;done)|(simp [*];done),by repeat (first|exact Drawn0.refl _|apply Drawn0.step)⟩
 subst c3
 have H1 : (spec_DistCode.l0 k a0 0 0 1 0) = some (r1,r2,r3):=by rw [if_pos rfl] at H;exact H
 clear H
 have H:=H1
 clear H1
 have H':=Aside0.mk H
 clear H
 go_enter Try.func78,Try.ntmps78
 go_wp2_with (first|((with_reducible refine gate_callee (f:=52) rfl ?_);refine goesL_ (some 12) rfl rfl Try.func52 (by kernel_rfl) rfl #[.int .i64 a0,.int .i64 1,.int .i64 32768] rfl (by (try simp only [List.map_toArray,List.map_cons,List.map_nil]);first|done|rfl|(simp only [List.length_drop,List.length_take];rfl)) ?_;(with_reducible refine (spec_l01In.calls a0 1 32768 true _ A2.out).mono ?_);rintro e w' ⟨rfl,⟨nd,rfl⟩⟩;refine ⟨_,rfl,?_⟩))
 go_loopg [5,6,7,8] k (fun kq v5 v6 v7 v8 w' => ∃ (x5_1 : Int) (x6_1 : Int) (x7_1 : Int) (x8_1 : Int),v5 = .int .i64 x5_1∧v6 = .int .i64 x6_1∧v7 = .int .i64 x7_1∧v8 = .int .i64 x8_1∧Aside0 (spec_DistCode.l0 kq a0 x5_1 x6_1 x7_1 x8_1 = some (r1,r2,r3))∧Aside0 (kq ≤ k)∧Drawn0 w w')
 case atStart => exact ⟨(0),(0),(1),(0),(by first|rfl|(simp;done)|(simp [*];done)),(by first|rfl|(simp;done)|(simp [*];done)),(by first|rfl|(simp;done)|(simp [*];done)),(by first|rfl|(simp;done)|(simp [*];done)),H',⟨Nat.le_refl _⟩,by repeat (first|exact Drawn0.refl _|apply Drawn0.step)⟩
 case round =>
  clear H'
  obtain ⟨x5_1,x6_1,x7_1,x8_1,rfl,rfl,rfl,rfl,HA,HK1,⟨m1,rfl⟩⟩:=hrel
  cases gk with
  | zero => exact absurd HA.out (by simp [spec_DistCode.l0])
  | succ k1 =>
   have H:=HA.out
   clear HA
   simp only [spec_DistCode.l0] at H
   by_cases c4 : x8_1 < 30
   rotate_left
   ·rw [if_neg c4] at H
    have c4b0 : decide (x8_1 < 30) = false:=decide_eq_false c4
    clear c4
    simp only [Option.some.injEq,Prod.mk.injEq] at H
    obtain ⟨rfl,rfl,rfl⟩:=H
    go_wp2
    go_ret3
    exact ⟨by first|rfl|(simp;done)|(simp [*];done),by repeat (first|exact Drawn0.refl _|apply Drawn0.step)⟩
   rw [if_pos c4] at H
   have c4b0 : decide (x8_1 < 30) = true:=decide_eq_true c4
   clear c4
   replace H:=Option.bind_eq_some_iff.mp H
   obtain ⟨⟨t231,t232⟩,A50,H⟩:=H
   replace H : (if t232 ≤ a0 then (spec_DistCode.l0 k1 a0 x8_1 t231 t232 (wrap64 (x8_1 + 1))) else (spec_DistCode.l0 k1 a0 x5_1 x6_1 x7_1 (wrap64 (x8_1 + 1)))) = some (r1,r2,r3):=H
   have A5:=Aside0.mk A50
   clear A50
   by_cases c6 : t232 ≤ a0
   ·rw [if_pos c6] at H
    have c6b0 : decide (t232 ≤ a0) = true:=decide_eq_true c6
    clear c6
    have H':=Aside0.mk H
    clear H
    go_wp2_with (first|((with_reducible refine gate_callee (f:=105) rfl ?_);refine goesL_ (some 20) rfl rfl Try.func105 (by kernel_rfl) rfl #[.int .i64 x8_1] rfl (by (try simp only [List.map_toArray,List.map_cons,List.map_nil]);first|done|rfl|(simp only [List.length_drop,List.length_take];rfl)) ?_;(with_reducible refine (spec_l06DistBits.calls k1 x8_1 t231 t232 _ A5.out).mono ?_);rintro e w' ⟨rfl,⟨nd,rfl⟩⟩;refine ⟨_,rfl,?_⟩))
    go_roundg k1
    case measure => have:=HK1.out;omega
    case rel => exact ⟨(x8_1),(t231),(t232),(wrap64 (x8_1 + 1)),(by first|rfl|(simp;done)|(simp [*];done)),(by first|rfl|(simp;done)|(simp [*];done)),(by first|rfl|(simp;done)|(simp [*];done)),(by first|rfl|(simp;done)|(simp [*];done)),H',⟨by have:=HK1.out;omega⟩,by repeat (first|exact Drawn0.refl _|apply Drawn0.step)⟩
   rw [if_neg c6] at H
   have c6b0 : decide (t232 ≤ a0) = false:=decide_eq_false c6
   clear c6
   have H':=Aside0.mk H
   clear H
   go_wp2_with (first|((with_reducible refine gate_callee (f:=105) rfl ?_);refine goesL_ (some 20) rfl rfl Try.func105 (by kernel_rfl) rfl #[.int .i64 x8_1] rfl (by (try simp only [List.map_toArray,List.map_cons,List.map_nil]);first|done|rfl|(simp only [List.length_drop,List.length_take];rfl)) ?_;(with_reducible refine (spec_l06DistBits.calls k1 x8_1 t231 t232 _ A5.out).mono ?_);rintro e w' ⟨rfl,⟨nd,rfl⟩⟩;refine ⟨_,rfl,?_⟩))
   go_roundg k1
   case measure => have:=HK1.out;omega
   case rel => exact ⟨(x5_1),(x6_1),(x7_1),(wrap64 (x8_1 + 1)),(by first|rfl|(simp;done)|(simp [*];done)),(by first|rfl|(simp;done)|(simp [*];done)),(by first|rfl|(simp;done)|(simp [*];done)),(by first|rfl|(simp;done)|(simp [*];done)),H',⟨by have:=HK1.out;omega⟩,by repeat (first|exact Drawn0.refl _|apply Drawn0.step)⟩
end Go.Proofs.Ytimomemkbcidnaa.PFnExactTokenLengths
