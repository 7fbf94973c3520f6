-- Written by a program of this session (a changed print); Lean checks it.
import Derived.Test.YtimomemkbcidnaaPFnExactTokenLengthsx0
import Derived.Test.YtimomemkbcidnaaPFnExactTokenLengthsx5
namespace Go.Proofs.Ytimomemkbcidnaa.PFnExactTokenLengths
open Go.RowKit Go.Proofs.YtimomemkbcidnaaW.PrintWords Go.Proofs.YtimomemkbcidnaaW.PrintLast Go.Proofs.YtimomemkbcidnaaW.PrintMore
attribute [local go_sem] max2_int min2_int max_two min_two max_three min_three max_four min_four   -- for this text's walks alone
set_option linter.unusedVariables false
set_option linter.unusedSimpArgs false
open Act renaming put → sPu
open List renaming setIfInBounds_toArray → sIa, set_cons_zero → sCz, set_cons_succ → sCs
open Bool renaming true → Y, false → Z

/-! ### impl_TokenOk: function 106 -/
def impl_TokenOk.j0 : Nat → Bool → Int → Int → Int → Option (Bool)
  | 0, _, _, _, _ => none
  | k + 1, x10, x353000, x353001, x353002 => if x10 = true then ((impl_within.f x353000 0 255).bind fun t353 => (some t353)) else (if x353000 = 0 then ((impl_within.f x353001 3 258).bind fun t354 => (if t354 = true then ((impl_within.f x353002 1 32768).bind fun t355 => (some t355)) else (some false))) else (some false))
def impl_TokenOk.f (k : Nat) (a0_0 : Int) (a0_1 : Int) (a0_2 : Int) : Option (Bool) := if a0_1 = 0 then (impl_TokenOk.j0 k (a0_2 == 0) a0_0 a0_1 a0_2) else (impl_TokenOk.j0 k false a0_0 a0_1 a0_2)
theorem impl_TokenOk.mono_l : ∀ k, (∀ y0 y1 y2 y3, LeO (impl_TokenOk.j0 k y0 y1 y2 y3) (impl_TokenOk.j0 (k + 1) y0 y1 y2 y3))
  | 0 => fun _ _ _ _ r h => by simp [impl_TokenOk.j0] at h
  | k + 1 => by
    have ih0 := impl_TokenOk.mono_l k
    · intro y0 y1 y2 y3
      unfold impl_TokenOk.j0
      repeat' first
      | (with_reducible exact ih0 _ _ _ _)
      | (with_reducible exact LeO.refl _)
      | (with_reducible exact LeO.none _)
      | (with_reducible refine LeO.ite ?_ ?_)
      | (with_reducible refine LeO.bind ?_ (fun _ => ?_))
      | exact ih0 _ _ _ _
      | exact LeO.none _
      | refine LeO.ite ?_ ?_
      | refine LeO.bind ?_ (fun _ => ?_)
theorem impl_TokenOk.mono : ∀ a0 a1 a2 k, LeO (impl_TokenOk.f k a0 a1 a2) (impl_TokenOk.f (k + 1) a0 a1 a2) := by
  intro a0 a1 a2 k
  have ih0 := impl_TokenOk.mono_l k
  unfold impl_TokenOk.f
  repeat' first
      | (with_reducible exact ih0 _ _ _ _)
      | (with_reducible exact LeO.refl _)
      | (with_reducible exact LeO.none _)
      | (with_reducible refine LeO.ite ?_ ?_)
      | (with_reducible refine LeO.bind ?_ (fun _ => ?_))
      | exact ih0 _ _ _ _
      | exact LeO.none _
      | refine LeO.ite ?_ ?_
      | refine LeO.bind ?_ (fun _ => ?_)
set_option maxHeartbeats 8000000 in
set_option maxRecDepth 100000 in
theorem impl_TokenOk.calls (k : Nat) (a0_0 : Int) (a0_1 : Int) (a0_2 : Int) (r : Bool) (w : World) (h : impl_TokenOk.f k a0_0 a0_1 a0_2 = some r) :
    Calls Try.prog 106 #[.agg #[.int .i64 a0_0, .int .i64 a0_1, .int .i64 a0_2]] w fun e w' => e = .returned (.bool r) ∧ Below w.heap.size w w' := by
 have hu107:=Try.underlying107
 have HB:=Aside0.mk (Below.refl w.heap.size w)
 have H : (if a0_1 = 0 then (impl_TokenOk.j0 k (a0_2 == 0) a0_0 a0_1 a0_2) else (impl_TokenOk.j0 k false a0_0 a0_1 a0_2)) = some r:=h
 clear h
 have HC2:=Aside0.mk H
 clear H
 go_enter Try.func106,Try.ntmps106
 go_upto_region 1 with (first|((with_reducible refine gate_dst (N:=1) rfl ?_);refine box_event ?hg (N:=1) ?hd (cs:=#[.int .i64 a0_0,.int .i64 a0_1,.int .i64 a0_2]) (t:=107) ?hr ?_;(case hd => rfl);(case hg => rfl);(case hr => first|(go_simp;done)|(go_simp;rfl));intro gb352 hg w3 hbox hb;have n0_:=Aside0.mk (below_step (by repeat (first|(with_reducible first|exact HB.out|apply below_alloc|apply pw_below_drewN|apply below_drew1)|exact HB.out)) hb);have n1_:=Aside0.mk (hbox);have n2_:=Aside0.mk ((by rw [hg];exact (below_size (by repeat (first|(with_reducible first|exact HB.out|apply below_alloc|apply pw_below_drewN|apply below_drew1)|exact HB.out))) : w.heap.size ≤ gb352));have n3_:=Aside0.mk ((by rw [hg];exact (below_size (by repeat (first|(with_reducible first|exact HB.out|apply below_alloc|apply pw_below_drewN|apply below_drew1)|exact HB.out))) : w.heap.size ≤ gb352));clear HB;have HB:=n0_;have BK352:=n1_;have GW352:=n2_;have GE352:=n3_;clear n0_ n1_ n2_ n3_;clear hb hbox hg))
 (try simp only [Act.put,List.setIfInBounds_toArray,List.set_cons_zero,List.set_cons_succ])
 go_cut [10] (fun v10 wc => ∃ (kq : Nat) (x10_1 : Bool),v10 = .bool x10_1∧Aside0 (impl_TokenOk.j0 kq x10_1 a0_0 a0_1 a0_2 = some r)∧Aside0 (kq ≤ k)∧Aside0 (wc.heap[gb352]? = some (.cells #[.int .i64 a0_0,.int .i64 a0_1,.int .i64 a0_2] 107 (0,0)))∧Aside0 (Below w.heap.size w wc))
 case first =>
  have H:=HC2.out
  clear HC2
  by_cases c4 : a0_1 = 0
  rotate_left
  ·rw [if_neg c4] at H
   have c4b0 : (a0_1 == 0) = false:=beq_eq_false_iff_ne.mpr c4
   have c4b1 : (a0_1 != 0) = true:=bne_iff_ne.mpr c4
   (first|rw [c4b0]|(simp only [i64_w,i32_w];rw [c4b0])|skip)
   have H':=Aside0.mk H
   clear H
   have hcz6_0 : w3.cell? ⟨gb352,0,none⟩ = some (.int .i64 a0_0):=(blk_cell BK352.out 0).trans rfl
   have hcz6_1 : w3.cell? ⟨gb352,1,none⟩ = some (.int .i64 a0_1):=(blk_cell BK352.out 1).trans rfl
   have hcz6_2 : w3.cell? ⟨gb352,2,none⟩ = some (.int .i64 a0_2):=(blk_cell BK352.out 2).trans rfl
   have hfz6_0:=blk_frozen BK352.out 0
   have hfz6_1:=blk_frozen BK352.out 1
   have hfz6_2:=blk_frozen BK352.out 2
   go_wp2
   go_meet
   case rel => exact ⟨_,(false),(by first|rfl|(simp;done)|(simp [*];done)),H',⟨by first|omega|exact Nat.le_refl _⟩,⟨by (with_reducible repeat (first|refine blk_drewN ?_ _|refine blk_drew ?_|refine blk_alloc ?_ _));exact BK352.out⟩,⟨by repeat (first|(with_reducible first|exact HB.out|apply below_alloc|apply pw_below_drewN|apply below_drew1|refine below_set ?_ GE352.out)|exact HB.out)⟩⟩
  rw [if_pos c4] at H
  have c4b0 : (a0_1 == 0) = true:=beq_iff_eq.mpr c4
  have c4b1 : (a0_1 != 0) = false:=bne_eq_false_iff_eq.mpr c4
  clear c4
  (first|rw [c4b0]|(simp only [i64_w,i32_w];rw [c4b0])|skip)
  have H':=Aside0.mk H
  clear H
  have hcz5_0 : w3.cell? ⟨gb352,0,none⟩ = some (.int .i64 a0_0):=(blk_cell BK352.out 0).trans rfl
  have hcz5_1 : w3.cell? ⟨gb352,1,none⟩ = some (.int .i64 a0_1):=(blk_cell BK352.out 1).trans rfl
  have hcz5_2 : w3.cell? ⟨gb352,2,none⟩ = some (.int .i64 a0_2):=(blk_cell BK352.out 2).trans rfl
  have hfz5_0:=blk_frozen BK352.out 0
  have hfz5_1:=blk_frozen BK352.out 1
  have hfz5_2:=blk_frozen BK352.out 2
  go_wp2
  go_meet
  case rel => exact ⟨_,((a0_2 == 0)),(by first|rfl|(simp;done)|(simp [*];done)),H',⟨by first|omega|exact Nat.le_refl _⟩,⟨by (with_reducible repeat (first|refine blk_drewN ?_ _|refine blk_drew ?_|refine blk_alloc ?_ _));exact BK352.out⟩,⟨by repeat (first|(with_reducible first|exact HB.out|apply below_alloc|apply pw_below_drewN|apply below_drew1|refine below_set ?_ GE352.out)|exact HB.out)⟩⟩
 case rest =>
  clear HC2
  obtain ⟨kq,x10_1,rfl,HA,HJ1,BK352,HB⟩:=hcut
  cases kq with
  | zero => exact absurd HA.out (by simp [impl_TokenOk.j0])
  | succ kj1 =>
   have H:=HA.out
   clear HA
   simp only [impl_TokenOk.j0] at H
   by_cases c7 : x10_1 = true
   ·subst c7
    have H1 : ((impl_within.f a0_0 0 255).bind fun t353 => (some t353)) = some r:=by rw [if_pos rfl] at H;exact H
    clear H
    have H:=H1
    clear H1
    replace H:=Option.bind_eq_some_iff.mp H
    obtain ⟨t353,A80,H⟩:=H
    replace H : (some t353) = some r:=H
    have A8:=Aside0.mk A80
    clear A80
    obtain rfl:=Option.some.inj H
    have hcz9_0 : wc.cell? ⟨gb352,0,none⟩ = some (.int .i64 a0_0):=(blk_cell BK352.out 0).trans rfl
    have hcz9_1 : wc.cell? ⟨gb352,1,none⟩ = some (.int .i64 a0_1):=(blk_cell BK352.out 1).trans rfl
    have hcz9_2 : wc.cell? ⟨gb352,2,none⟩ = some (.int .i64 a0_2):=(blk_cell BK352.out 2).trans rfl
    have hfz9_0:=blk_frozen BK352.out 0
    have hfz9_1:=blk_frozen BK352.out 1
    have hfz9_2:=blk_frozen BK352.out 2
    go_wp2_with (first|((with_reducible refine gate_callee (f:=53) rfl ?_);refine goesL_ (some 13) rfl rfl Try.func53 (by kernel_rfl) rfl #[.int .i64 a0_0,.int .i64 0,.int .i64 255] rfl (by (try simp only [List.map_toArray,List.map_cons,List.map_nil]);first|done|rfl|(simp only [List.length_drop,List.length_take];rfl)) ?_;(with_reducible refine (impl_within.calls a0_0 0 255 t353 _ A8.out).mono ?_);rintro e w' ⟨rfl,⟨nd,rfl⟩⟩;refine ⟨_,rfl,?_⟩))
    go_ret
    exact ⟨by first|rfl|(simp [errW_none,errW_some] <;> rfl)|(simp [*,errW_none,errW_some] <;> rfl),by repeat (first|(with_reducible first|exact HB.out|apply below_alloc|apply pw_below_drewN|apply below_drew1|refine below_set ?_ GE352.out)|exact HB.out)⟩
   replace c7:=Bool.eq_false_iff.mpr c7
   subst c7
   have H1 : (if a0_0 = 0 then ((impl_within.f a0_1 3 258).bind fun t354 => (if t354 = true then ((impl_within.f a0_2 1 32768).bind fun t355 => (some t355)) else (some false))) else (some false)) = some r:=by rw [if_neg (show ¬ (false = true) by decide)] at H;exact H
   clear H
   have H:=H1
   clear H1
   by_cases c10 : a0_0 = 0
   rotate_left
   ·rw [if_neg c10] at H
    have c10b0 : (a0_0 == 0) = false:=beq_eq_false_iff_ne.mpr c10
    have c10b1 : (a0_0 != 0) = true:=bne_iff_ne.mpr c10
    obtain rfl:=Option.some.inj H
    have hcz16_0 : wc.cell? ⟨gb352,0,none⟩ = some (.int .i64 a0_0):=(blk_cell BK352.out 0).trans rfl
    have hcz16_1 : wc.cell? ⟨gb352,1,none⟩ = some (.int .i64 a0_1):=(blk_cell BK352.out 1).trans rfl
    have hcz16_2 : wc.cell? ⟨gb352,2,none⟩ = some (.int .i64 a0_2):=(blk_cell BK352.out 2).trans rfl
    have hfz16_0:=blk_frozen BK352.out 0
    have hfz16_1:=blk_frozen BK352.out 1
    have hfz16_2:=blk_frozen BK352.out 2
    go_wp2
    go_ret
    exact ⟨by first|rfl|(simp [errW_none,errW_some] <;> rfl)|(simp [*,errW_none,errW_some] <;> rfl),by repeat (first|(with_reducible first|exact HB.out|apply below_alloc|apply pw_below_drewN|apply below_drew1|refine below_set ?_ GE352.out)|exact HB.out)⟩
   rw [if_pos c10] at H
   have c10b0 : (a0_0 == 0) = true:=beq_iff_eq.mpr c10
   have c10b1 : (a0_0 != 0) = false:=bne_eq_false_iff_eq.mpr c10
   clear c10
   replace H:=Option.bind_eq_some_iff.mp H
   obtain ⟨t354,A110,H⟩:=H
   replace H : (if t354 = true then ((impl_within.f a0_2 1 32768).bind fun t355 => (some t355)) else (some false)) = some r:=H
   have A11:=Aside0.mk A110
   clear A110
   by_cases c12 : t354 = true
   rotate_left
   ·replace c12:=Bool.eq_false_iff.mpr c12
    subst c12
    have H1 : (some false) = some r:=by rw [if_neg (show ¬ (false = true) by decide)] at H;exact H
    clear H
    have H:=H1
    clear H1
    obtain rfl:=Option.some.inj H
    have hcz15_0 : wc.cell? ⟨gb352,0,none⟩ = some (.int .i64 a0_0):=(blk_cell BK352.out 0).trans rfl
    have hcz15_1 : wc.cell? ⟨gb352,1,none⟩ = some (.int .i64 a0_1):=(blk_cell BK352.out 1).trans rfl
    have hcz15_2 : wc.cell? ⟨gb352,2,none⟩ = some (.int .i64 a0_2):=(blk_cell BK352.out 2).trans rfl
    have hfz15_0:=blk_frozen BK352.out 0
    have hfz15_1:=blk_frozen BK352.out 1
    have hfz15_2:=blk_frozen BK352.out 2
    go_wp2_with (first|(go_at_call 53;(with_reducible refine (impl_within.calls a0_1 3 258 false _ A11.out).mono ?_);rintro e w' ⟨rfl,⟨nd,rfl⟩⟩))
    go_ret
    exact ⟨by first|rfl|(simp [errW_none,errW_some] <;> rfl)|(simp [*,errW_none,errW_some] <;> rfl),by repeat (first|(with_reducible first|exact HB.out|apply below_alloc|apply pw_below_drewN|apply below_drew1|refine below_set ?_ GE352.out)|exact HB.out)⟩
   subst c12
   have H1 : ((impl_within.f a0_2 1 32768).bind fun t355 => (some t355)) = some r:=by rw [if_pos rfl] at H;exact H
   clear H
   have H:=H1
   clear H1
   replace H:=Option.bind_eq_some_iff.mp H
   obtain ⟨t355,A130,H⟩:=H
   replace H : (some t355) = some r:=H
   have A13:=Aside0.mk A130
   clear A130
   obtain rfl:=Option.some.inj H
   have hcz14_0 : wc.cell? ⟨gb352,0,none⟩ = some (.int .i64 a0_0):=(blk_cell BK352.out 0).trans rfl
   have hcz14_1 : wc.cell? ⟨gb352,1,none⟩ = some (.int .i64 a0_1):=(blk_cell BK352.out 1).trans rfl
   have hcz14_2 : wc.cell? ⟨gb352,2,none⟩ = some (.int .i64 a0_2):=(blk_cell BK352.out 2).trans rfl
   have hfz14_0:=blk_frozen BK352.out 0
   have hfz14_1:=blk_frozen BK352.out 1
   have hfz14_2:=blk_frozen BK352.out 2
   go_wp2_with (first|(go_at_call 53;(with_reducible refine (impl_within.calls a0_1 3 258 true _ A11.out).mono ?_);rintro e w' ⟨rfl,⟨nd,rfl⟩⟩)|(go_at_call 53;(with_reducible refine (impl_within.calls a0_2 1 32768 t355 _ A13.out).mono ?_);rintro e w' ⟨rfl,⟨nd,rfl⟩⟩))
   go_ret
   exact ⟨by first|rfl|(simp [errW_none,errW_some] <;> rfl)|(simp [*,errW_none,errW_some] <;> rfl),by repeat (first|(with_reducible first|exact HB.out|apply below_alloc|apply pw_below_drewN|apply below_drew1|refine below_set ?_ GE352.out)|exact HB.out)⟩
/-! ### impl_tokensOk: function 81 -/
def impl_tokensOk.l0 : Nat → List (S107) → List (S107) → Int → Int → Option (Bool)
  | 0, _, _, _, _ => none
  | k + 1, x0, x5, x6, x7 => if x7 < x6 then (if 0 ≤ x7 then (if x7 < (x5.length : Int) then ((impl_TokenOk.f k ((rd_T107 x5 x7).f0) ((rd_T107 x5 x7).f1) ((rd_T107 x5 x7).f2)).bind fun t358 => (if t358 = true then (impl_tokensOk.l0 k x0 x5 x6 (wrap64 (x7 + 1))) else (some false))) else (none)) else (none)) else (some (decide ((x0.length : Int) ≤ 12000)))
def impl_tokensOk.f (k : Nat) (l0 : List (S107)) : Option (Bool) := impl_tokensOk.l0 k l0 l0 (l0.length : Int) 0
theorem impl_tokensOk.mono_l : ∀ k, (∀ y0 y1 y2 y3, LeO (impl_tokensOk.l0 k y0 y1 y2 y3) (impl_tokensOk.l0 (k + 1) y0 y1 y2 y3))
  | 0 => fun _ _ _ _ r h => by simp [impl_tokensOk.l0] at h
  | k + 1 => by
    have ih0 := impl_tokensOk.mono_l k
    · intro y0 y1 y2 y3
      unfold impl_tokensOk.l0
      repeat' first
      | (with_reducible exact ih0 _ _ _ _)
      | (with_reducible exact impl_TokenOk.mono _ _ _ _)
      | (with_reducible exact LeO.refl _)
      | (with_reducible exact LeO.none _)
      | (with_reducible refine LeO.ite ?_ ?_)
      | (with_reducible refine LeO.bind ?_ (fun _ => ?_))
      | exact ih0 _ _ _ _
      | exact impl_TokenOk.mono _ _ _ _
      | exact LeO.none _
      | refine LeO.ite ?_ ?_
      | refine LeO.bind ?_ (fun _ => ?_)
theorem impl_tokensOk.mono : ∀ a0 k, LeO (impl_tokensOk.f k a0) (impl_tokensOk.f (k + 1) a0) := by
  intro a0 k
  have ih0 := impl_tokensOk.mono_l k
  unfold impl_tokensOk.f
  repeat' first
      | (with_reducible exact ih0 _ _ _ _)
      | (with_reducible exact impl_TokenOk.mono _ _ _ _)
      | (with_reducible exact LeO.refl _)
      | (with_reducible exact LeO.none _)
      | (with_reducible refine LeO.ite ?_ ?_)
      | (with_reducible refine LeO.bind ?_ (fun _ => ?_))
      | exact ih0 _ _ _ _
      | exact impl_TokenOk.mono _ _ _ _
      | exact LeO.none _
      | refine LeO.ite ?_ ?_
      | refine LeO.bind ?_ (fun _ => ?_)
set_option maxHeartbeats 8000000 in
set_option maxRecDepth 100000 in
theorem impl_tokensOk.calls (k : Nat) (A0 : Option Addr) (c0 : Nat) (l0 : List (S107)) (r : Bool) (w : World) (hr0 : Kd.C k107 w A0 l0.length l0) (hc0 : l0.length ≤ c0) (h : impl_tokensOk.f k l0 = some r) :
    Calls Try.prog 81 #[.slice A0 l0.length c0] w fun e w' => e = .returned (.bool r) ∧ Below w.heap.size w w' := by
 have hu107:=Try.underlying107
 have HR0:=Aside0.mk hr0
 have HC0:=Aside0.mk hc0
 clear hr0 hc0
 have HB:=Aside0.mk (Below.refl w.heap.size w)
 have H : (impl_tokensOk.l0 k l0 l0 (l0.length : Int) 0) = some r:=h
 clear h
 have H':=Aside0.mk H
 clear H
 go_enter Try.func81,Try.ntmps81
 go_wp2
 go_loopg [7] k (fun kq v7 w' => ∃ (x7_1 : Int),v7 = .int .i64 x7_1∧Aside0 (impl_tokensOk.l0 kq l0 l0 (l0.length : Int) x7_1 = some r)∧Aside0 (kq ≤ k)∧Aside0 (Below w.heap.size w w'))
 case atStart => exact ⟨(0),(by first|rfl|(simp;done)|(simp [*];done)),H',⟨Nat.le_refl _⟩,⟨by repeat (first|(with_reducible first|exact HB.out|apply below_alloc|apply pw_below_drewN|apply below_drew1)|exact HB.out)⟩⟩
 case round =>
  clear H'
  obtain ⟨x7_1,rfl,HA,HK1,HB⟩:=hrel
  cases gk with
  | zero => exact absurd HA.out (by simp [impl_tokensOk.l0])
  | succ k1 =>
   have H:=HA.out
   clear HA
   simp only [impl_tokensOk.l0] at H
   by_cases c2 : x7_1 < (l0.length : Int)
   rotate_left
   ·rw [if_neg c2] at H
    have c2b0 : decide (x7_1 < (l0.length : Int)) = false:=decide_eq_false c2
    clear c2
    obtain rfl:=Option.some.inj H
    go_wp2
    go_ret
    exact ⟨by first|rfl|(simp [errW_none,errW_some] <;> rfl)|(simp [*,errW_none,errW_some] <;> rfl),by repeat (first|(with_reducible first|exact HB.out|apply below_alloc|apply pw_below_drewN|apply below_drew1)|exact HB.out)⟩
   rw [if_pos c2] at H
   have c2b0 : decide (x7_1 < (l0.length : Int)) = true:=decide_eq_true c2
   clear c2
   by_cases c3 : 0 ≤ x7_1
   rotate_left
   ·rw [if_neg c3] at H
    exact absurd H (by simp)
   rw [if_pos c3] at H
   have c3b0 : decide (0 ≤ x7_1) = true:=decide_eq_true c3
   clear c3
   by_cases c4 : x7_1 < (l0.length : Int)
   rotate_left
   ·rw [if_neg c4] at H
    exact absurd H (by simp)
   rw [if_pos c4] at H
   have c4b0 : decide (x7_1 < (l0.length : Int)) = true:=decide_eq_true c4
   clear c4
   replace H:=Option.bind_eq_some_iff.mp H
   obtain ⟨t358,A50,H⟩:=H
   replace H : (if t358 = true then (impl_tokensOk.l0 k1 l0 l0 (l0.length : Int) (wrap64 (x7_1 + 1))) else (some false)) = some r:=H
   have A5:=Aside0.mk A50
   clear A50
   by_cases c6 : t358 = true
   rotate_left
   ·replace c6:=Bool.eq_false_iff.mpr c6
    subst c6
    have H1 : (some false) = some r:=by rw [if_neg (show ¬ (false = true) by decide)] at H;exact H
    clear H
    have H:=H1
    clear H1
    obtain rfl:=Option.some.inj H
    have p356 : 0 ≤ (x7_1 : Int):=of_decide_eq_true (by assumption)
    have q356 : x7_1 < (l0.length : Int):=of_decide_eq_true (by assumption)
    obtain ⟨ad356,e356,hx356_0,hx356_1,hx356_2⟩:=at_T107 HR0.out x7_1 p356 q356
    cases e356
    replace hx356_0:=(HB.out.cell (World.block_lt_of_cell? w _ hx356_0)).trans hx356_0
    replace hx356_1:=(HB.out.cell (World.block_lt_of_cell? w _ hx356_1)).trans hx356_1
    replace hx356_2:=(HB.out.cell (World.block_lt_of_cell? w _ hx356_2)).trans hx356_2
    replace p356:=eq_true p356
    replace q356:=eq_true q356
    go_wp2_with (first|((with_reducible refine gate_dst (N:=4) rfl ?_);refine box_event ?hg (N:=4) ?hd (cs:=#[.int .i64 0,.int .i64 0,.int .i64 0]) (t:=107) ?hr ?_;(case hd => rfl);(case hg => rfl);(case hr => first|(go_simp;done)|(go_simp;rfl));intro gb357 hg w10 hbox hb;have n0_:=Aside0.mk (below_step (by repeat (first|(with_reducible first|exact HB.out|apply below_alloc|apply pw_below_drewN|apply below_drew1)|exact HB.out)) hb);have n1_:=Aside0.mk (hbox);have n2_:=Aside0.mk ((by rw [hg];exact (below_size (by repeat (first|(with_reducible first|exact HB.out|apply below_alloc|apply pw_below_drewN|apply below_drew1)|exact HB.out))) : w.heap.size ≤ gb357));have n3_:=Aside0.mk ((by rw [hg];exact (below_size (by repeat (first|(with_reducible first|exact HB.out|apply below_alloc|apply pw_below_drewN|apply below_drew1)|exact HB.out))) : w.heap.size ≤ gb357));clear HB;have HB:=n0_;have BK357:=n1_;have GW357:=n2_;have GE357:=n3_;clear n0_ n1_ n2_ n3_;clear hb hbox hg;have hcz11_0 : w10.cell? ⟨gb357,0,none⟩ = some (.int .i64 0):=(blk_cell BK357.out 0).trans rfl;have hcz11_1 : w10.cell? ⟨gb357,1,none⟩ = some (.int .i64 0):=(blk_cell BK357.out 1).trans rfl;have hcz11_2 : w10.cell? ⟨gb357,2,none⟩ = some (.int .i64 0):=(blk_cell BK357.out 2).trans rfl;have hfz11_0:=blk_frozen BK357.out 0;have hfz11_1:=blk_frozen BK357.out 1;have hfz11_2:=blk_frozen BK357.out 2)|((with_reducible refine gate_callee (f:=106) rfl ?_);refine goesL_ (some 12) rfl rfl Try.func106 (by kernel_rfl) rfl #[.agg #[.int .i64 ((rd_T107 l0 x7_1).f0),.int .i64 ((rd_T107 l0 x7_1).f1),.int .i64 ((rd_T107 l0 x7_1).f2)]] rfl (by (try simp only [List.map_toArray,List.map_cons,List.map_nil]);first|done|rfl|(simp only [List.length_drop,List.length_take];rfl)) ?_;(with_reducible refine (impl_TokenOk.calls k1 ((rd_T107 l0 x7_1).f0) ((rd_T107 l0 x7_1).f1) ((rd_T107 l0 x7_1).f2) false _ A5.out).mono ?_);rintro e w12 ⟨rfl,hb⟩;refine ⟨_,rfl,?_⟩;have n0_:=Aside0.mk (blk_below (g:=gb357) (o:=.cells #[.int .i64 ((rd_T107 l0 x7_1).f0),.int .i64 ((rd_T107 l0 x7_1).f1),.int .i64 ((rd_T107 l0 x7_1).f2)] 107 (0,0)) (by (with_reducible repeat (first|refine blk_drewN ?_ _|refine blk_drew ?_|refine blk_alloc ?_ _));refine blk_put (cs:=#[.int .i64 ((rd_T107 l0 x7_1).f0),.int .i64 ((rd_T107 l0 x7_1).f1),.int .i64 0]) ?_ 2 _ rfl;(with_reducible repeat (first|refine blk_drewN ?_ _|refine blk_drew ?_|refine blk_alloc ?_ _));refine blk_put (cs:=#[.int .i64 ((rd_T107 l0 x7_1).f0),.int .i64 0,.int .i64 0]) ?_ 1 _ rfl;(with_reducible repeat (first|refine blk_drewN ?_ _|refine blk_drew ?_|refine blk_alloc ?_ _));refine blk_put (cs:=#[.int .i64 0,.int .i64 0,.int .i64 0]) ?_ 0 _ rfl;(with_reducible repeat (first|refine blk_drewN ?_ _|refine blk_drew ?_|refine blk_alloc ?_ _));exact BK357.out) hb);have n1_:=Aside0.mk (below_step (by repeat (first|(with_reducible first|exact HB.out|apply below_alloc|apply pw_below_drewN|apply below_drew1|refine below_set ?_ GE357.out)|exact HB.out)) hb);clear BK357;clear HB;have BK357:=n0_;have HB:=n1_;clear n0_ n1_;(try clear hb);(try clear hb2);(try clear hk);(try clear hi)))
    go_ret
    exact ⟨by first|rfl|(simp [errW_none,errW_some] <;> rfl)|(simp [*,errW_none,errW_some] <;> rfl),by repeat (first|(with_reducible first|exact HB.out|apply below_alloc|apply pw_below_drewN|apply below_drew1|refine below_set ?_ GE357.out)|exact HB.out)⟩
   subst c6
   have H1 : (impl_tokensOk.l0 k1 l0 l0 (l0.length : Int) (wrap64 (x7_1 + 1))) = some r:=by rw [if_pos rfl] at H;exact H
   clear H
   have H:=H1
   clear H1
   have H':=Aside0.mk H
   clear H
   have p356 : 0 ≤ (x7_1 : Int):=of_decide_eq_true (by assumption)
   have q356 : x7_1 < (l0.length : Int):=of_decide_eq_true (by assumption)
   obtain ⟨ad356,e356,hx356_0,hx356_1,hx356_2⟩:=at_T107 HR0.out x7_1 p356 q356
   cases e356
   replace hx356_0:=(HB.out.cell (World.block_lt_of_cell? w _ hx356_0)).trans hx356_0
   replace hx356_1:=(HB.out.cell (World.block_lt_of_cell? w _ hx356_1)).trans hx356_1
   replace hx356_2:=(HB.out.cell (World.block_lt_of_cell? w _ hx356_2)).trans hx356_2
   replace p356:=eq_true p356
   replace q356:=eq_true q356
   go_wp2_with (first|((with_reducible refine gate_dst (N:=4) rfl ?_);refine box_event ?hg (N:=4) ?hd (cs:=#[.int .i64 0,.int .i64 0,.int .i64 0]) (t:=107) ?hr ?_;(case hd => rfl);(case hg => rfl);(case hr => first|(go_simp;done)|(go_simp;rfl));intro gb357 hg w7 hbox hb;have n0_:=Aside0.mk (below_step (by repeat (first|(with_reducible first|exact HB.out|apply below_alloc|apply pw_below_drewN|apply below_drew1)|exact HB.out)) hb);have n1_:=Aside0.mk (hbox);have n2_:=Aside0.mk ((by rw [hg];exact (below_size (by repeat (first|(with_reducible first|exact HB.out|apply below_alloc|apply pw_below_drewN|apply below_drew1)|exact HB.out))) : w.heap.size ≤ gb357));have n3_:=Aside0.mk ((by rw [hg];exact (below_size (by repeat (first|(with_reducible first|exact HB.out|apply below_alloc|apply pw_below_drewN|apply below_drew1)|exact HB.out))) : w.heap.size ≤ gb357));clear HB;have HB:=n0_;have BK357:=n1_;have GW357:=n2_;have GE357:=n3_;clear n0_ n1_ n2_ n3_;clear hb hbox hg;have hcz8_0 : w7.cell? ⟨gb357,0,none⟩ = some (.int .i64 0):=(blk_cell BK357.out 0).trans rfl;have hcz8_1 : w7.cell? ⟨gb357,1,none⟩ = some (.int .i64 0):=(blk_cell BK357.out 1).trans rfl;have hcz8_2 : w7.cell? ⟨gb357,2,none⟩ = some (.int .i64 0):=(blk_cell BK357.out 2).trans rfl;have hfz8_0:=blk_frozen BK357.out 0;have hfz8_1:=blk_frozen BK357.out 1;have hfz8_2:=blk_frozen BK357.out 2)|((with_reducible refine gate_callee (f:=106) rfl ?_);refine goesL_ (some 12) rfl rfl Try.func106 (by kernel_rfl) rfl #[.agg #[.int .i64 ((rd_T107 l0 x7_1).f0),.int .i64 ((rd_T107 l0 x7_1).f1),.int .i64 ((rd_T107 l0 x7_1).f2)]] rfl (by (try simp only [List.map_toArray,List.map_cons,List.map_nil]);first|done|rfl|(simp only [List.length_drop,List.length_take];rfl)) ?_;(with_reducible refine (impl_TokenOk.calls k1 ((rd_T107 l0 x7_1).f0) ((rd_T107 l0 x7_1).f1) ((rd_T107 l0 x7_1).f2) true _ A5.out).mono ?_);rintro e w9 ⟨rfl,hb⟩;refine ⟨_,rfl,?_⟩;have n0_:=Aside0.mk (blk_below (g:=gb357) (o:=.cells #[.int .i64 ((rd_T107 l0 x7_1).f0),.int .i64 ((rd_T107 l0 x7_1).f1),.int .i64 ((rd_T107 l0 x7_1).f2)] 107 (0,0)) (by (with_reducible repeat (first|refine blk_drewN ?_ _|refine blk_drew ?_|refine blk_alloc ?_ _));refine blk_put (cs:=#[.int .i64 ((rd_T107 l0 x7_1).f0),.int .i64 ((rd_T107 l0 x7_1).f1),.int .i64 0]) ?_ 2 _ rfl;(with_reducible repeat (first|refine blk_drewN ?_ _|refine blk_drew ?_|refine blk_alloc ?_ _));refine blk_put (cs:=#[.int .i64 ((rd_T107 l0 x7_1).f0),.int .i64 0,.int .i64 0]) ?_ 1 _ rfl;(with_reducible repeat (first|refine blk_drewN ?_ _|refine blk_drew ?_|refine blk_alloc ?_ _));refine blk_put (cs:=#[.int .i64 0,.int .i64 0,.int .i64 0]) ?_ 0 _ rfl;(with_reducible repeat (first|refine blk_drewN ?_ _|refine blk_drew ?_|refine blk_alloc ?_ _));exact BK357.out) hb);have n1_:=Aside0.mk (below_step (by repeat (first|(with_reducible first|exact HB.out|apply below_alloc|apply pw_below_drewN|apply below_drew1|refine below_set ?_ GE357.out)|exact HB.out)) hb);clear BK357;clear HB;have BK357:=n0_;have HB:=n1_;clear n0_ n1_;(try clear hb);(try clear hb2);(try clear hk);(try clear hi)))
   go_roundg k1
   case measure => have:=HK1.out;omega
   case rel => exact ⟨(wrap64 (x7_1 + 1)),(by first|rfl|(simp;done)|(simp [*];done)),H',⟨by have:=HK1.out;omega⟩,⟨by repeat (first|(with_reducible first|exact HB.out|apply below_alloc|apply pw_below_drewN|apply below_drew1|refine below_set ?_ GE357.out)|exact HB.out)⟩⟩
/-! ### impl_lengthSpan: function 107 -/
def impl_lengthSpan.f (a0 : Int) : Option (Int × Int) := if a0 = 285 then (some (258, 0)) else (if (wrap64 (a0 - 257)) < 8 then (some (wrap64 (3 + (wrap64 (a0 - 257))), 0)) else (if 0 ≤ (wrap64 ((wrap64 (Int.tdiv (wrap64 (a0 - 257)) 4)) - 1)) then (some (wrap64 (3 + (shl .i64 (wrap64 (4 + (Int.tmod (wrap64 (a0 - 257)) 4))) (wrap64 ((wrap64 (Int.tdiv (wrap64 (a0 - 257)) 4)) - 1)))), wrap64 ((wrap64 (Int.tdiv (wrap64 (a0 - 257)) 4)) - 1))) else (none)))
set_option maxHeartbeats 8000000 in
set_option maxRecDepth 100000 in
theorem impl_lengthSpan.calls (a0 : Int) (r1 : Int) (r2 : Int) (w : World) (h : impl_lengthSpan.f a0 = some (r1, r2)) :
    Calls Try.prog 107 #[.int .i64 a0] w fun e w' => e = .returned (.tuple #[.int .i64 r1, .int .i64 r2]) ∧ Drawn0 w w' := by
 have H : (if a0 = 285 then (some (258,0)) else (if (wrap64 (a0 - 257)) < 8 then (some (wrap64 (3 + (wrap64 (a0 - 257))),0)) else (if 0 ≤ (wrap64 ((wrap64 (Int.tdiv (wrap64 (a0 - 257)) 4)) - 1)) then (some (wrap64 (3 + (shl .i64 (wrap64 (4 + (Int.tmod (wrap64 (a0 - 257)) 4))) (wrap64 ((wrap64 (Int.tdiv (wrap64 (a0 - 257)) 4)) - 1)))),wrap64 ((wrap64 (Int.tdiv (wrap64 (a0 - 257)) 4)) - 1))) else (none)))) = some (r1,r2):=h
 clear h
 by_cases c2 : a0 = 285
 ·rw [if_pos c2] at H
  have c2b0 : (a0 == 285) = true:=beq_iff_eq.mpr c2
  have c2b1 : (a0 != 285) = false:=bne_eq_false_iff_eq.mpr c2
  clear c2
  simp only [Option.some.injEq,Prod.mk.injEq] at H
  obtain ⟨rfl,rfl⟩:=H
  go_enter Try.func107,Try.ntmps107
  go_wp2
  go_ret2
  exact ⟨by first|rfl|(simp;done)|(simp [*];done),by repeat (first|exact Drawn0.refl _|apply Drawn0.step)⟩
 rw [if_neg c2] at H
 have c2b0 : (a0 == 285) = false:=beq_eq_false_iff_ne.mpr c2
 have c2b1 : (a0 != 285) = true:=bne_iff_ne.mpr c2
 by_cases c3 : (wrap64 (a0 - 257)) < 8
 ·rw [if_pos c3] at H
  have c3b0 : decide ((wrap64 (a0 - 257)) < 8) = true:=decide_eq_true c3
  clear c3
  simp only [Option.some.injEq,Prod.mk.injEq] at H
  obtain ⟨rfl,rfl⟩:=H
  go_enter Try.func107,Try.ntmps107
  go_wp2
  go_ret2
  exact ⟨by first|rfl|(simp;done)|(simp [*];done),by repeat (first|exact Drawn0.refl _|apply Drawn0.step)⟩
 rw [if_neg c3] at H
 have c3b0 : decide ((wrap64 (a0 - 257)) < 8) = false:=decide_eq_false c3
 clear c3
 obtain ⟨ji4,hji4⟩ : ∃ j_ : Int,(wrap64 ((wrap64 (Int.tdiv (wrap64 (a0 - 257)) 4)) - 1)) = j_:=⟨_,rfl⟩
 replace H : (if 0 ≤ (ji4) then (some (wrap64 (3 + (shl .i64 (wrap64 (4 + (Int.tmod (wrap64 (a0 - 257)) 4))) (ji4))),ji4)) else (none)) = some (r1,r2):=by first|(rw [hji4] at H;exact H)|(simp only [hji4] at H ⊢;exact H)
 have hji4w : (IntKind.i64.wrap ((wrap64 (Int.tdiv (wrap64 (a0 - 257)) 4)) - 1)) = ji4:=(i64_w _).trans hji4
 by_cases c5 : 0 ≤ (ji4)
 rotate_left
 ·rw [if_neg c5] at H
  exact absurd H (by simp)
 rw [if_pos c5] at H
 have c5b0:=eq_true c5
 have c5b1 : decide (0 ≤ (ji4)) = true:=decide_eq_true c5
 clear c5
 obtain ⟨ji6,hji6⟩ : ∃ j_ : Int,(shl .i64 (wrap64 (4 + (Int.tmod (wrap64 (a0 - 257)) 4))) (ji4)) = j_:=⟨_,rfl⟩
 replace H : (some (wrap64 (3 + (ji6)),ji4)) = some (r1,r2):=by first|(rw [hji6] at H;exact H)|(simp only [hji6] at H ⊢;exact H)
 have hji6_ : (IntKind.i64.wrap ((wrap64 (4 + (Int.tmod (wrap64 (a0 - 257)) 4))) * 2 ^ min (ji4).toNat 64)) = ji6:=hji6
 have hji6z : (ji4) ≤ 64 → (IntKind.i64.wrap ((wrap64 (4 + (Int.tmod (wrap64 (a0 - 257)) 4))) * 2 ^ (ji4).toNat)) = ji6:=shl_small hji6
 have hji6y : (wrap64 ((wrap64 (4 + (Int.tmod (wrap64 (a0 - 257)) 4))) * 2 ^ min (ji4).toNat 64)) = ji6:=(i64_w _).symm.trans hji6_
 have hji6x : (ji4) ≤ 64 → (wrap64 ((wrap64 (4 + (Int.tmod (wrap64 (a0 - 257)) 4))) * 2 ^ (ji4).toNat)) = ji6:=fun h_ => (i64_w _).symm.trans (hji6z h_)
 simp only [Option.some.injEq,Prod.mk.injEq] at H
 obtain ⟨rfl,rfl⟩:=H
 go_enter Try.func107,Try.ntmps107
 go_wp2
 go_ret2
 exact ⟨by first|rfl|(simp;done)|(simp only [← hji4,← hji6] <;> (first|rfl|simp))|(simp [*];done),by repeat (first|exact Drawn0.refl _|apply Drawn0.step)⟩
/-! ### impl_LengthCode: function 82 -/
def impl_LengthCode.l0 : Nat → Int → Int → Int → Int → Option (Int × Int × Int)
  | 0, _, _, _, _ => none
  | k + 1, x0, x5, x6, x7 => if x6 > x0 then ((impl_lengthSpan.f (wrap64 (x5 - 1))).bind fun bt362 => (impl_LengthCode.l0 k x0 (wrap64 (x5 - 1)) bt362.1 bt362.2)) else (some (x5, x7, wrap64 (x0 - x6)))
def impl_LengthCode.f (k : Nat) (a0 : Int) : Option (Int × Int × Int) := (impl_within.f a0 3 258).bind fun t359 => (if t359 = true then ((impl_lengthSpan.f 285).bind fun bt360 => (impl_LengthCode.l0 k a0 285 bt360.1 bt360.2)) else (some (0, 0, 0)))
theorem impl_LengthCode.mono_l : ∀ k, (∀ y0 y1 y2 y3, LeO (impl_LengthCode.l0 k y0 y1 y2 y3) (impl_LengthCode.l0 (k + 1) y0 y1 y2 y3))
  | 0 => fun _ _ _ _ r h => by simp [impl_LengthCode.l0] at h
  | k + 1 => by
    have ih0 := impl_LengthCode.mono_l k
    · intro y0 y1 y2 y3
      unfold impl_LengthCode.l0
      repeat' first
      | (with_reducible exact ih0 _ _ _ _)
      | (with_reducible exact LeO.refl _)
      | (with_reducible exact LeO.none _)
      | (with_reducible refine LeO.ite ?_ ?_)
      | (with_reducible refine LeO.bind ?_ (fun _ => ?_))
      | exact ih0 _ _ _ _
      | exact LeO.none _
      | refine LeO.ite ?_ ?_
      | refine LeO.bind ?_ (fun _ => ?_)
theorem impl_LengthCode.mono : ∀ a0 k, LeO (impl_LengthCode.f k a0) (impl_LengthCode.f (k + 1) a0) := by
  intro a0 k
  have ih0 := impl_LengthCode.mono_l k
  unfold impl_LengthCode.f
  repeat' first
      | (with_reducible exact ih0 _ _ _ _)
      | (with_reducible exact LeO.refl _)
      | (with_reducible exact LeO.none _)
      | (with_reducible refine LeO.ite ?_ ?_)
      | (with_reducible refine LeO.bind ?_ (fun _ => ?_))
      | exact ih0 _ _ _ _
      | exact LeO.none _
      | refine LeO.ite ?_ ?_
      | refine LeO.bind ?_ (fun _ => ?_)
set_option maxHeartbeats 8000000 in
set_option maxRecDepth 100000 in
theorem impl_LengthCode.calls (k : Nat) (a0 : Int) (r1 : Int) (r2 : Int) (r3 : Int) (w : World) (h : impl_LengthCode.f k a0 = some (r1, r2, r3)) :
    Calls Try.prog 82 #[.int .i64 a0] w fun e w' => e = .returned (.tuple #[.int .i64 r1, .int .i64 r2, .int .i64 r3]) ∧ Drawn0 w w' := by
 have H : ((impl_within.f a0 3 258).bind fun t359 => (if t359 = true then ((impl_lengthSpan.f 285).bind fun bt360 => (impl_LengthCode.l0 k a0 285 bt360.1 bt360.2)) else (some (0,0,0)))) = some (r1,r2,r3):=h
 clear h
 replace H:=Option.bind_eq_some_iff.mp H
 obtain ⟨t359,A20,H⟩:=H
 replace H : (if t359 = true then ((impl_lengthSpan.f 285).bind fun bt360 => (impl_LengthCode.l0 k a0 285 bt360.1 bt360.2)) else (some (0,0,0))) = some (r1,r2,r3):=H
 have A2:=Aside0.mk A20
 clear A20
 by_cases c3 : t359 = true
 rotate_left
 ·replace c3:=Bool.eq_false_iff.mpr c3
  subst c3
  have H1 : (some (0,0,0)) = some (r1,r2,r3):=by rw [if_neg (show ¬ (false = true) by decide)] at H;exact H
  clear H
  have H:=H1
  clear H1
  simp only [Option.some.injEq,Prod.mk.injEq] at H
  obtain ⟨rfl,rfl,rfl⟩:=H
  go_enter Try.func82,Try.ntmps82
  go_wp2_with (first|((with_reducible refine gate_callee (f:=53) rfl ?_);refine goesL_ (some 9) rfl rfl Try.func53 (by kernel_rfl) rfl #[.int .i64 a0,.int .i64 3,.int .i64 258] rfl (by (try simp only [List.map_toArray,List.map_cons,List.map_nil]);first|done|rfl|(simp only [List.length_drop,List.length_take];rfl)) ?_;(with_reducible refine (impl_within.calls a0 3 258 false _ A2.out).mono ?_);rintro e w' ⟨rfl,⟨nd,rfl⟩⟩;refine ⟨_,rfl,?_⟩))
  go_ret3
  exact ⟨by first|rfl|(simp;done)|(simp [*];done),by repeat (first|exact Drawn0.refl _|apply Drawn0.step)⟩
 subst c3
 have H1 : ((impl_lengthSpan.f 285).bind fun bt360 => (impl_LengthCode.l0 k a0 285 bt360.1 bt360.2)) = some (r1,r2,r3):=by rw [if_pos rfl] at H;exact H
 clear H
 have H:=H1
 clear H1
 replace H:=Option.bind_eq_some_iff.mp H
 obtain ⟨⟨t360,t361⟩,A40,H⟩:=H
 replace H : (impl_LengthCode.l0 k a0 285 t360 t361) = some (r1,r2,r3):=H
 have A4:=Aside0.mk A40
 clear A40
 have H':=Aside0.mk H
 clear H
 go_enter Try.func82,Try.ntmps82
 go_wp2_with (first|((with_reducible refine gate_callee (f:=53) rfl ?_);refine goesL_ (some 9) rfl rfl Try.func53 (by kernel_rfl) rfl #[.int .i64 a0,.int .i64 3,.int .i64 258] rfl (by (try simp only [List.map_toArray,List.map_cons,List.map_nil]);first|done|rfl|(simp only [List.length_drop,List.length_take];rfl)) ?_;(with_reducible refine (impl_within.calls a0 3 258 true _ A2.out).mono ?_);rintro e w' ⟨rfl,⟨nd,rfl⟩⟩;refine ⟨_,rfl,?_⟩)|((with_reducible refine gate_callee (f:=107) rfl ?_);refine goesL_ (some 13) rfl rfl Try.func107 (by kernel_rfl) rfl #[.int .i64 285] rfl (by (try simp only [List.map_toArray,List.map_cons,List.map_nil]);first|done|rfl|(simp only [List.length_drop,List.length_take];rfl)) ?_;(with_reducible refine (impl_lengthSpan.calls 285 t360 t361 _ A4.out).mono ?_);rintro e w' ⟨rfl,⟨nd,rfl⟩⟩;refine ⟨_,rfl,?_⟩))
 go_loopg [5,6,7] k (fun kq v5 v6 v7 w' => ∃ (x5_1 : Int) (x6_1 : Int) (x7_1 : Int),v5 = .int .i64 x5_1∧v6 = .int .i64 x6_1∧v7 = .int .i64 x7_1∧Aside0 (impl_LengthCode.l0 kq a0 x5_1 x6_1 x7_1 = some (r1,r2,r3))∧Aside0 (kq ≤ k)∧Drawn0 w w')
 case atStart => exact ⟨(285),(t360),(t361),(by first|rfl|(simp;done)|(simp [*];done)),(by first|rfl|(simp;done)|(simp [*];done)),(by first|rfl|(simp;done)|(simp [*];done)),H',⟨Nat.le_refl _⟩,by repeat (first|exact Drawn0.refl _|apply Drawn0.step)⟩
 case round =>
  clear H'
  obtain ⟨x5_1,x6_1,x7_1,rfl,rfl,rfl,HA,HK1,⟨m1,rfl⟩⟩:=hrel
  cases gk with
  | zero => exact absurd HA.out (by simp [impl_LengthCode.l0])
  | succ k1 =>
   have H:=HA.out
   clear HA
   simp only [impl_LengthCode.l0] at H
   by_cases c5 : x6_1 > a0
   rotate_left
   ·rw [if_neg c5] at H
    have c5b0 : decide (a0 < x6_1) = false:=decide_eq_false c5
    clear c5
    simp only [Option.some.injEq,Prod.mk.injEq] at H
    obtain ⟨rfl,rfl,rfl⟩:=H
    go_wp2
    go_ret3
    exact ⟨by first|rfl|(simp;done)|(simp [*];done),by repeat (first|exact Drawn0.refl _|apply Drawn0.step)⟩
   rw [if_pos c5] at H
   have c5b0 : decide (a0 < x6_1) = true:=decide_eq_true c5
   clear c5
   replace H:=Option.bind_eq_some_iff.mp H
   obtain ⟨⟨t362,t363⟩,A60,H⟩:=H
   replace H : (impl_LengthCode.l0 k1 a0 (wrap64 (x5_1 - 1)) t362 t363) = some (r1,r2,r3):=H
   have A6:=Aside0.mk A60
   clear A60
   have H':=Aside0.mk H
   clear H
   go_wp2_with (first|((with_reducible refine gate_callee (f:=107) rfl ?_);refine goesL_ (some 23) rfl rfl Try.func107 (by kernel_rfl) rfl #[.int .i64 (wrap64 (x5_1 - 1))] rfl (by (try simp only [List.map_toArray,List.map_cons,List.map_nil]);first|done|rfl|(simp only [List.length_drop,List.length_take];rfl)) ?_;(with_reducible refine (impl_lengthSpan.calls (wrap64 (x5_1 - 1)) t362 t363 _ A6.out).mono ?_);rintro e w' ⟨rfl,⟨nd,rfl⟩⟩;refine ⟨_,rfl,?_⟩))
   go_roundg k1
   case measure => have:=HK1.out;omega
   case rel => exact ⟨(wrap64 (x5_1 - 1)),(t362),(t363),(by first|rfl|(simp;done)|(simp [*];done)),(by first|rfl|(simp;done)|(simp [*];done)),(by first|rfl|(simp;done)|(simp [*];done)),H',⟨by have:=HK1.out;omega⟩,by repeat (first|exact Drawn0.refl _|apply Drawn0.step)⟩
/-! ### impl_distSpan: function 108 -/
def impl_distSpan.f (a0 : Int) : Option (Int × Int) := if a0 < 4 then (some (wrap64 (1 + a0), 0)) else (if 0 ≤ (wrap64 ((wrap64 (Int.tdiv a0 2)) - 1)) then (some (wrap64 (1 + (shl .i64 (wrap64 (2 + (Int.tmod a0 2))) (wrap64 ((wrap64 (Int.tdiv a0 2)) - 1)))), wrap64 ((wrap64 (Int.tdiv a0 2)) - 1))) else (none))
set_option maxHeartbeats 8000000 in
set_option maxRecDepth 100000 in
theorem impl_distSpan.calls (a0 : Int) (r1 : Int) (r2 : Int) (w : World) (h : impl_distSpan.f a0 = some (r1, r2)) :
    Calls Try.prog 108 #[.int .i64 a0] w fun e w' => e = .returned (.tuple #[.int .i64 r1, .int .i64 r2]) ∧ Drawn0 w w' := by
 have H : (if a0 < 4 then (some (wrap64 (1 + a0),0)) else (if 0 ≤ (wrap64 ((wrap64 (Int.tdiv a0 2)) - 1)) then (some (wrap64 (1 + (shl .i64 (wrap64 (2 + (Int.tmod a0 2))) (wrap64 ((wrap64 (Int.tdiv a0 2)) - 1)))),wrap64 ((wrap64 (Int.tdiv a0 2)) - 1))) else (none))) = some (r1,r2):=h
 clear h
 by_cases c2 : a0 < 4
 ·rw [if_pos c2] at H
  have c2b0 : decide (a0 < 4) = true:=decide_eq_true c2
  clear c2
  simp only [Option.some.injEq,Prod.mk.injEq] at H
  obtain ⟨rfl,rfl⟩:=H
  go_enter Try.func108,Try.ntmps108
  go_wp2
  go_ret2
  exact ⟨by first|rfl|(simp;done)|(simp [*];done),by repeat (first|exact Drawn0.refl _|apply Drawn0.step)⟩
 rw [if_neg c2] at H
 have c2b0 : decide (a0 < 4) = false:=decide_eq_false c2
 clear c2
 obtain ⟨ji3,hji3⟩ : ∃ j_ : Int,(wrap64 ((wrap64 (Int.tdiv a0 2)) - 1)) = j_:=⟨_,rfl⟩
 replace H : (if 0 ≤ (ji3) then (some (wrap64 (1 + (shl .i64 (wrap64 (2 + (Int.tmod a0 2))) (ji3))),ji3)) else (none)) = some (r1,r2):=by first|(rw [hji3] at H;exact H)|(simp only [hji3] at H ⊢;exact H)
 have hji3w : (IntKind.i64.wrap ((wrap64 (Int.tdiv a0 2)) - 1)) = ji3:=(i64_w _).trans hji3
 by_cases c4 : 0 ≤ (ji3)
 rotate_left
 ·rw [if_neg c4] at H
  exact absurd H (by simp)
 rw [if_pos c4] at H
 have c4b0:=eq_true c4
 have c4b1 : decide (0 ≤ (ji3)) = true:=decide_eq_true c4
 clear c4
 obtain ⟨ji5,hji5⟩ : ∃ j_ : Int,(shl .i64 (wrap64 (2 + (Int.tmod a0 2))) (ji3)) = j_:=⟨_,rfl⟩
 replace H : (some (wrap64 (1 + (ji5)),ji3)) = some (r1,r2):=by first|(rw [hji5] at H;exact H)|(simp only [hji5] at H ⊢;exact H)
 have hji5_ : (IntKind.i64.wrap ((wrap64 (2 + (Int.tmod a0 2))) * 2 ^ min (ji3).toNat 64)) = ji5:=hji5
 have hji5z : (ji3) ≤ 64 → (IntKind.i64.wrap ((wrap64 (2 + (Int.tmod a0 2))) * 2 ^ (ji3).toNat)) = ji5:=shl_small hji5
 have hji5y : (wrap64 ((wrap64 (2 + (Int.tmod a0 2))) * 2 ^ min (ji3).toNat 64)) = ji5:=(i64_w _).symm.trans hji5_
 have hji5x : (ji3) ≤ 64 → (wrap64 ((wrap64 (2 + (Int.tmod a0 2))) * 2 ^ (ji3).toNat)) = ji5:=fun h_ => (i64_w _).symm.trans (hji5z h_)
 simp only [Option.some.injEq,Prod.mk.injEq] at H
 obtain ⟨rfl,rfl⟩:=H
 go_enter Try.func108,Try.ntmps108
 go_wp2
 go_ret2
 exact ⟨by first|rfl|(simp;done)|(simp only [← hji3,← hji5] <;> (first|rfl|simp))|(simp [*];done),by repeat (first|exact Drawn0.refl _|apply Drawn0.step)⟩
/-! ### impl_DistCode: function 83 -/
def impl_DistCode.l0 : Nat → Int → Int → Int → Int → Option (Int × Int × Int)
  | 0, _, _, _, _ => none
  | k + 1, x0, x5, x6, x7 => if x6 > x0 then ((impl_distSpan.f (wrap64 (x5 - 1))).bind fun bt367 => (impl_DistCode.l0 k x0 (wrap64 (x5 - 1)) bt367.1 bt367.2)) else (some (x5, x7, wrap64 (x0 - x6)))
def impl_DistCode.f (k : Nat) (a0 : Int) : Option (Int × Int × Int) := (impl_within.f a0 1 32768).bind fun t364 => (if t364 = true then ((impl_distSpan.f 29).bind fun bt365 => (impl_DistCode.l0 k a0 29 bt365.1 bt365.2)) else (some (0, 0, 0)))
theorem impl_DistCode.mono_l : ∀ k, (∀ y0 y1 y2 y3, LeO (impl_DistCode.l0 k y0 y1 y2 y3) (impl_DistCode.l0 (k + 1) y0 y1 y2 y3))
  | 0 => fun _ _ _ _ r h => by simp [impl_DistCode.l0] at h
  | k + 1 => by
    have ih0 := impl_DistCode.mono_l k
    · intro y0 y1 y2 y3
      unfold impl_DistCode.l0
      repeat' first
      | (with_reducible exact ih0 _ _ _ _)
      | (with_reducible exact LeO.refl _)
      | (with_reducible exact LeO.none _)
      | (with_reducible refine LeO.ite ?_ ?_)
      | (with_reducible refine LeO.bind ?_ (fun _ => ?_))
      | exact ih0 _ _ _ _
      | exact LeO.none _
      | refine LeO.ite ?_ ?_
      | refine LeO.bind ?_ (fun _ => ?_)
theorem impl_DistCode.mono : ∀ a0 k, LeO (impl_DistCode.f k a0) (impl_DistCode.f (k + 1) a0) := by
  intro a0 k
  have ih0 := impl_DistCode.mono_l k
  unfold impl_DistCode.f
  repeat' first
      | (with_reducible exact ih0 _ _ _ _)
      | (with_reducible exact LeO.refl _)
      | (with_reducible exact LeO.none _)
      | (with_reducible refine LeO.ite ?_ ?_)
      | (with_reducible refine LeO.bind ?_ (fun _ => ?_))
      | exact ih0 _ _ _ _
      | exact LeO.none _
      | refine LeO.ite ?_ ?_
      | refine LeO.bind ?_ (fun _ => ?_)
set_option maxHeartbeats 8000000 in
set_option maxRecDepth 100000 in
theorem impl_DistCode.calls (k : Nat) (a0 : Int) (r1 : Int) (r2 : Int) (r3 : Int) (w : World) (h : impl_DistCode.f k a0 = some (r1, r2, r3)) :
    Calls Try.prog 83 #[.int .i64 a0] w fun e w' => e = .returned (.tuple #[.int .i64 r1, .int .i64 r2, .int .i64 r3]) ∧ Drawn0 w w' := by
 have H : ((impl_within.f a0 1 32768).bind fun t364 => (if t364 = true then ((impl_distSpan.f 29).bind fun bt365 => (impl_DistCode.l0 k a0 29 bt365.1 bt365.2)) else (some (0,0,0)))) = some (r1,r2,r3):=h
 clear h
 replace H:=Option.bind_eq_some_iff.mp H
 obtain ⟨t364,A20,H⟩:=H
 replace H : (if t364 = true then ((impl_distSpan.f 29).bind fun bt365 => (impl_DistCode.l0 k a0 29 bt365.1 bt365.2)) else (some (0,0,0))) = some (r1,r2,r3):=H
 have A2:=Aside0.mk A20
 clear A20
 by_cases c3 : t364 = true
 rotate_left
 ·replace c3:=Bool.eq_false_iff.mpr c3
  subst c3
  have H1 : (some (0,0,0)) = some (r1,r2,r3):=by rw [if_neg (show ¬ (false = true) by decide)] at H;exact H
  clear H
  have H:=H1
  clear H1
  simp only [Option.some.injEq,Prod.mk.injEq] at H
  obtain ⟨rfl,rfl,rfl⟩:=H
  go_enter Try.func83,Try.ntmps83
  go_wp2_with (first|((with_reducible refine gate_callee (f:=53) rfl ?_);refine goesL_ (some 9) rfl rfl Try.func53 (by kernel_rfl) rfl #[.int .i64 a0,.int .i64 1,.int .i64 32768] rfl (by (try simp only [List.map_toArray,List.map_cons,List.map_nil]);first|done|rfl|(simp only [List.length_drop,List.length_take];rfl)) ?_;(with_reducible refine (impl_within.calls a0 1 32768 false _ A2.out).mono ?_);rintro e w' ⟨rfl,⟨nd,rfl⟩⟩;refine ⟨_,rfl,?_⟩))
  go_ret3
  exact ⟨by first|rfl|(simp;done)|(simp [*];done),by repeat (first|exact Drawn0.refl _|apply Drawn0.step)⟩
 subst c3
 have H1 : ((impl_distSpan.f 29).bind fun bt365 => (impl_DistCode.l0 k a0 29 bt365.1 bt365.2)) = some (r1,r2,r3):=by rw [if_pos rfl] at H;exact H
 clear H
 have H:=H1
 clear H1
 replace H:=Option.bind_eq_some_iff.mp H
 obtain ⟨⟨t365,t366⟩,A40,H⟩:=H
 replace H : (impl_DistCode.l0 k a0 29 t365 t366) = some (r1,r2,r3):=H
 have A4:=Aside0.mk A40
 clear A40
 have H':=Aside0.mk H
 clear H
 go_enter Try.func83,Try.ntmps83
 go_wp2_with (first|((with_reducible refine gate_callee (f:=53) rfl ?_);refine goesL_ (some 9) rfl rfl Try.func53 (by kernel_rfl) rfl #[.int .i64 a0,.int .i64 1,.int .i64 32768] rfl (by (try simp only [List.map_toArray,List.map_cons,List.map_nil]);first|done|rfl|(simp only [List.length_drop,List.length_take];rfl)) ?_;(with_reducible refine (impl_within.calls a0 1 32768 true _ A2.out).mono ?_);rintro e w' ⟨rfl,⟨nd,rfl⟩⟩;refine ⟨_,rfl,?_⟩)|((with_reducible refine gate_callee (f:=108) rfl ?_);refine goesL_ (some 13) rfl rfl Try.func108 (by kernel_rfl) rfl #[.int .i64 29] rfl (by (try simp only [List.map_toArray,List.map_cons,List.map_nil]);first|done|rfl|(simp only [List.length_drop,List.length_take];rfl)) ?_;(with_reducible refine (impl_distSpan.calls 29 t365 t366 _ A4.out).mono ?_);rintro e w' ⟨rfl,⟨nd,rfl⟩⟩;refine ⟨_,rfl,?_⟩))
 go_loopg [5,6,7] k (fun kq v5 v6 v7 w' => ∃ (x5_1 : Int) (x6_1 : Int) (x7_1 : Int),v5 = .int .i64 x5_1∧v6 = .int .i64 x6_1∧v7 = .int .i64 x7_1∧Aside0 (impl_DistCode.l0 kq a0 x5_1 x6_1 x7_1 = some (r1,r2,r3))∧Aside0 (kq ≤ k)∧Drawn0 w w')
 case atStart => exact ⟨(29),(t365),(t366),(by first|rfl|(simp;done)|(simp [*];done)),(by first|rfl|(simp;done)|(simp [*];done)),(by first|rfl|(simp;done)|(simp [*];done)),H',⟨Nat.le_refl _⟩,by repeat (first|exact Drawn0.refl _|apply Drawn0.step)⟩
 case round =>
  clear H'
  obtain ⟨x5_1,x6_1,x7_1,rfl,rfl,rfl,HA,HK1,⟨m1,rfl⟩⟩:=hrel
  cases gk with
  | zero => exact absurd HA.out (by simp [impl_DistCode.l0])
  | succ k1 =>
   have H:=HA.out
   clear HA
   simp only [impl_DistCode.l0] at H
   by_cases c5 : x6_1 > a0
   rotate_left
   ·rw [if_neg c5] at H
    have c5b0 : decide (a0 < x6_1) = false:=decide_eq_false c5
    clear c5
    simp only [Option.some.injEq,Prod.mk.injEq] at H
    obtain ⟨rfl,rfl,rfl⟩:=H
    go_wp2
    go_ret3
    exact ⟨by first|rfl|(simp;done)|(simp [*];done),by repeat (first|exact Drawn0.refl _|apply Drawn0.step)⟩
   rw [if_pos c5] at H
   have c5b0 : decide (a0 < x6_1) = true:=decide_eq_true c5
   clear c5
   replace H:=Option.bind_eq_some_iff.mp H
   obtain ⟨⟨t367,t368⟩,A60,H⟩:=H
   replace H : (impl_DistCode.l0 k1 a0 (wrap64 (x5_1 - 1)) t367 t368) = some (r1,r2,r3):=H
   have A6:=Aside0.mk A60
   clear A60
   have H':=Aside0.mk H
   clear H
   go_wp2_with (first|((with_reducible refine gate_callee (f:=108) rfl ?_);refine goesL_ (some 23) rfl rfl Try.func108 (by kernel_rfl) rfl #[.int .i64 (wrap64 (x5_1 - 1))] rfl (by (try simp only [List.map_toArray,List.map_cons,List.map_nil]);first|done|rfl|(simp only [List.length_drop,List.length_take];rfl)) ?_;(with_reducible refine (impl_distSpan.calls (wrap64 (x5_1 - 1)) t367 t368 _ A6.out).mono ?_);rintro e w' ⟨rfl,⟨nd,rfl⟩⟩;refine ⟨_,rfl,?_⟩))
   go_roundg k1
   case measure => have:=HK1.out;omega
   case rel => exact ⟨(wrap64 (x5_1 - 1)),(t367),(t368),(by first|rfl|(simp;done)|(simp [*];done)),(by first|rfl|(simp;done)|(simp [*];done)),(by first|rfl|(simp;done)|(simp [*];done)),H',⟨by have:=HK1.out;omega⟩,by repeat (first|exact Drawn0.refl _|apply Drawn0.step)⟩
/-! ### impl_trimmed: function 84 -/
def impl_trimmed.l0 : Nat → List Int → Int → Int → Option (List Int)
  | 0, _, _, _ => none
  | k + 1, x0, x1, x5 => if x5 > x1 then (if 0 ≤ (wrap64 (x5 - 1)) then (if (wrap64 (x5 - 1)) < (x0.length : Int) then (if (rd x0 (wrap64 (x5 - 1))) = 0 then (impl_trimmed.l0 k x0 x1 (wrap64 (x5 - 1))) else (if 0 ≤ x5 then (if x5 ≤ (x0.length : Int) then (some (x0.take (x5 : Int).toNat)) else (none)) else (none))) else (none)) else (none)) else (if 0 ≤ x5 then (if x5 ≤ (x0.length : Int) then (some (x0.take (x5 : Int).toNat)) else (none)) else (none))
def impl_trimmed.f (k : Nat) (l0 : List Int) (a1 : Int) : Option (List Int) := impl_trimmed.l0 k l0 a1 (l0.length : Int)
theorem impl_trimmed.mono_l : ∀ k, (∀ y0 y1 y2, LeO (impl_trimmed.l0 k y0 y1 y2) (impl_trimmed.l0 (k + 1) y0 y1 y2))
  | 0 => fun _ _ _ r h => by simp [impl_trimmed.l0] at h
  | k + 1 => by
    have ih0 := impl_trimmed.mono_l k
    · intro y0 y1 y2
      unfold impl_trimmed.l0
      repeat' first
      | (with_reducible exact ih0 _ _ _)
      | (with_reducible exact LeO.refl _)
      | (with_reducible exact LeO.none _)
      | (with_reducible refine LeO.ite ?_ ?_)
      | (with_reducible refine LeO.bind ?_ (fun _ => ?_))
      | exact ih0 _ _ _
      | exact LeO.none _
      | refine LeO.ite ?_ ?_
      | refine LeO.bind ?_ (fun _ => ?_)
theorem impl_trimmed.mono : ∀ a0 a1 k, LeO (impl_trimmed.f k a0 a1) (impl_trimmed.f (k + 1) a0 a1) := by
  intro a0 a1 k
  have ih0 := impl_trimmed.mono_l k
  unfold impl_trimmed.f
  repeat' first
      | (with_reducible exact ih0 _ _ _)
      | (with_reducible exact LeO.refl _)
      | (with_reducible exact LeO.none _)
      | (with_reducible refine LeO.ite ?_ ?_)
      | (with_reducible refine LeO.bind ?_ (fun _ => ?_))
      | exact ih0 _ _ _
      | exact LeO.none _
      | refine LeO.ite ?_ ?_
      | refine LeO.bind ?_ (fun _ => ?_)
set_option maxHeartbeats 8000000 in
set_option maxRecDepth 100000 in
theorem impl_trimmed.calls (k : Nat) (P0_ : Nat → Prop) (u9000_ : Value) (l0 : List Int) (a1 : Int) (r : List Int) (w0 w : World) (hB : Below w0.heap.size w0 w) (ho0 : Kd.R (Kd.int .i64) 3 w w0.heap.size P0_ u9000_ l0) (h : impl_trimmed.f k l0 a1 = some r) :
    Calls Try.prog 84 #[u9000_, .int .i64 a1] w fun e w' => ∃ v0_ : Value, e = .returned (v0_) ∧ Kd.R (Kd.int .i64) 3 w' w0.heap.size (fun k_ => (P0_ k_ ∨ w.heap.size ≤ k_)) v0_ r ∧ Below w0.heap.size w0 w' ∧ Kept w w' (fun k_ => P0_ k_) := by
 have HO0:=Aside0.mk (show Kd.R (Kd.int .i64) 3 w w0.heap.size (fun k_ => (P0_ k_ ∨ w.heap.size ≤ k_)) u9000_ l0 from Kd.R_mono ho0 (fun k_ hk => (.inl hk)))
 have HK:=Aside0.mk (Kept.refl w (fun k_ => P0_ k_))
 have HW0:=Aside0.mk hB.size
 have HB:=Aside0.mk hB
 clear hB
 have H : (impl_trimmed.l0 k l0 a1 (l0.length : Int)) = some r:=h
 clear h
 have H':=Aside0.mk H
 clear H
 obtain ⟨Ao3,co3,eo3⟩:=Kd.R_slice HO0.out
 subst eo3
 go_enter Try.func84,Try.ntmps84
 go_wp2
 go_loopg [5] k (fun kq v5 w' => ∃ (x5_1 : Int),v5 = .int .i64 x5_1∧Aside0 (impl_trimmed.l0 kq l0 a1 x5_1 = some r)∧Aside0 (kq ≤ k)∧Aside0 (Kd.R (Kd.int .i64) 3 w' w0.heap.size (fun k_ => (P0_ k_ ∨ w.heap.size ≤ k_)) (.slice Ao3 l0.length co3) l0)∧Aside0 (Kept w w' (fun k_ => P0_ k_))∧Aside0 (Below w0.heap.size w0 w'))
 case atStart => exact ⟨((l0.length : Int)),(by first|rfl|(simp;done)|(simp [*];done)),H',⟨Nat.le_refl _⟩,⟨by (with_reducible repeat (first|apply Kd.R_alloc|apply Kd.R_drewN|apply Kd.R_drew));exact HO0.out⟩,⟨by repeat (first|(with_reducible first|exact HK.out|apply Kept.alloc|apply Kept.drewN|apply Kept.drew)|exact HK.out)⟩,⟨by repeat (first|(with_reducible first|exact HB.out|apply below_alloc|apply pw_below_drewN|apply below_drew1)|exact HB.out)⟩⟩
 case round =>
  clear H'
  obtain ⟨x5_1,rfl,HA,HK1,HO_0,HK,HB⟩:=hrel
  cases gk with
  | zero => exact absurd HA.out (by simp [impl_trimmed.l0])
  | succ k1 =>
   have H:=HA.out
   clear HA
   simp only [impl_trimmed.l0] at H
   by_cases c4 : x5_1 > a1
   rotate_left
   ·rw [if_neg c4] at H
    have c4b0 : decide (a1 < x5_1) = false:=decide_eq_false c4
    clear c4
    by_cases c12 : 0 ≤ x5_1
    rotate_left
    ·rw [if_neg c12] at H
     exact absurd H (by simp)
    rw [if_pos c12] at H
    have c12b0:=eq_true c12
    have c12b1 : decide (0 ≤ x5_1) = true:=decide_eq_true c12
    clear c12
    by_cases c13 : x5_1 ≤ (l0.length : Int)
    rotate_left
    ·rw [if_neg c13] at H
     exact absurd H (by simp)
    rw [if_pos c13] at H
    have c13b0:=eq_true c13
    have c13b1 : decide (x5_1 ≤ (l0.length : Int)) = true:=decide_eq_true c13
    clear c13
    obtain ⟨y373,hy373⟩ : ∃ y_ : List Int,y_ = (l0.take (x5_1 : Int).toNat):=⟨_,rfl⟩
    replace H : (some y373) = some r:=by first|(rw [hy373];with_reducible exact H)|(have H2_:=(Option.bind_some _ _).symm.trans H;rw [hy373];with_reducible exact H2_)|(have H2_:=(Option.bind_some _ _).symm.trans H;with_reducible exact H2_)|with_reducible exact H|(rw [hy373];exact H)|exact H
    have Ny373:=Aside0.mk hy373
    clear hy373
    obtain rfl:=Option.some.inj H
    have q14 : (x5_1 : Int) ≤ ((l0.length : Int) : Int):=of_decide_eq_true (by assumption)
    obtain ⟨i014,hi014,_,hsz14,_⟩:=info_parts info3
    have hcut14:=cut_to (P:=Try.prog) 22 3 .i64 Try.underlying22 hi014 Ao3 l0.length co3 x5_1 (of_decide_eq_true (by assumption)) q14 (Kd.R_reads' HO_0.out).2.1
    have hr14:=Kd.R_take (m:=(x5_1 : Int).toNat) HO_0.out (by omega)
    have hy14 : y373.length = (x5_1 : Int).toNat:=(by rw [Ny373.out,List.length_take];omega)
    rw [← Ny373.out] at hr14
    rw [← hy14] at hr14 hcut14
    clear hy14 hi014 hsz14 HO_0
    have HO375:=Aside0.mk hr14
    clear hr14
    replace q14:=eq_true q14
    go_wp2
    go_ret
    exact ⟨_,by first|rfl|(simp [errW_none,errW_some] <;> rfl)|(simp [*,errW_none,errW_some] <;> rfl),by (with_reducible repeat (first|apply Kd.R_alloc|apply Kd.R_drewN|apply Kd.R_drew));exact HO375.out,by repeat (first|(with_reducible first|exact HB.out|apply below_alloc|apply pw_below_drewN|apply below_drew1)|exact HB.out),by repeat (first|(with_reducible first|exact HK.out|apply Kept.alloc|apply Kept.drewN|apply Kept.drew)|exact HK.out)⟩
   rw [if_pos c4] at H
   have c4b0 : decide (a1 < x5_1) = true:=decide_eq_true c4
   clear c4
   obtain ⟨ji5,hji5⟩ : ∃ j_ : Int,(wrap64 (x5_1 - 1)) = j_:=⟨_,rfl⟩
   replace H : (if 0 ≤ (ji5) then (if (ji5) < (l0.length : Int) then (if (rd l0 (ji5)) = 0 then (impl_trimmed.l0 k1 l0 a1 ji5) else (if 0 ≤ x5_1 then (if x5_1 ≤ (l0.length : Int) then (some (l0.take (x5_1 : Int).toNat)) else (none)) else (none))) else (none)) else (none)) = some r:=by first|(rw [hji5] at H;exact H)|(simp only [hji5] at H ⊢;exact H)
   have hji5w : (IntKind.i64.wrap (x5_1 - 1)) = ji5:=(i64_w _).trans hji5
   by_cases c6 : 0 ≤ (ji5)
   rotate_left
   ·rw [if_neg c6] at H
    exact absurd H (by simp)
   rw [if_pos c6] at H
   have c6b0 : decide (0 ≤ (ji5)) = true:=decide_eq_true c6
   clear c6
   by_cases c7 : (ji5) < (l0.length : Int)
   rotate_left
   ·rw [if_neg c7] at H
    exact absurd H (by simp)
   rw [if_pos c7] at H
   have c7b0 : decide ((ji5) < (l0.length : Int)) = true:=decide_eq_true c7
   clear c7
   by_cases c8 : (rd l0 (ji5)) = 0
   ·rw [if_pos c8] at H
    have c8b0 : ((rd l0 (ji5)) == 0) = true:=beq_iff_eq.mpr c8
    have c8b1 : ((rd l0 (ji5)) != 0) = false:=bne_eq_false_iff_eq.mpr c8
    clear c8
    have H':=Aside0.mk H
    clear H
    have p369 : 0 ≤ ((ji5) : Int):=of_decide_eq_true (by assumption)
    have q369 : (ji5) < (l0.length : Int):=of_decide_eq_true (by assumption)
    obtain ⟨ad369,e369,hx369_0⟩:=Kd.at_int (Kd.R_reads' HO_0.out).2.2 (ji5) p369 q369
    cases e369
    replace p369:=eq_true p369
    replace q369:=eq_true q369
    go_wp2
    go_roundg k1
    case measure => have:=HK1.out;omega
    case rel => exact ⟨(ji5),(by first|rfl|(simp;done)|(simp only [← hji5] <;> (first|rfl|simp))|(simp [*];done)),H',⟨by have:=HK1.out;omega⟩,⟨by (with_reducible repeat (first|apply Kd.R_alloc|apply Kd.R_drewN|apply Kd.R_drew));exact HO_0.out⟩,⟨by repeat (first|(with_reducible first|exact HK.out|apply Kept.alloc|apply Kept.drewN|apply Kept.drew)|exact HK.out)⟩,⟨by repeat (first|(with_reducible first|exact HB.out|apply below_alloc|apply pw_below_drewN|apply below_drew1)|exact HB.out)⟩⟩
   rw [if_neg c8] at H
   have c8b0 : ((rd l0 (ji5)) == 0) = false:=beq_eq_false_iff_ne.mpr c8
   have c8b1 : ((rd l0 (ji5)) != 0) = true:=bne_iff_ne.mpr c8
   by_cases c9 : 0 ≤ x5_1
   rotate_left
   ·rw [if_neg c9] at H
    exact absurd H (by simp)
   rw [if_pos c9] at H
   have c9b0:=eq_true c9
   have c9b1 : decide (0 ≤ x5_1) = true:=decide_eq_true c9
   clear c9
   by_cases c10 : x5_1 ≤ (l0.length : Int)
   rotate_left
   ·rw [if_neg c10] at H
    exact absurd H (by simp)
   rw [if_pos c10] at H
   have c10b0:=eq_true c10
   have c10b1 : decide (x5_1 ≤ (l0.length : Int)) = true:=decide_eq_true c10
   clear c10
   obtain ⟨y370,hy370⟩ : ∃ y_ : List Int,y_ = (l0.take (x5_1 : Int).toNat):=⟨_,rfl⟩
   replace H : (some y370) = some r:=by first|(rw [hy370];with_reducible exact H)|(have H2_:=(Option.bind_some _ _).symm.trans H;rw [hy370];with_reducible exact H2_)|(have H2_:=(Option.bind_some _ _).symm.trans H;with_reducible exact H2_)|with_reducible exact H|(rw [hy370];exact H)|exact H
   have Ny370:=Aside0.mk hy370
   clear hy370
   obtain rfl:=Option.some.inj H
   have p369 : 0 ≤ ((ji5) : Int):=of_decide_eq_true (by assumption)
   have q369 : (ji5) < (l0.length : Int):=of_decide_eq_true (by assumption)
   obtain ⟨ad369,e369,hx369_0⟩:=Kd.at_int (Kd.R_reads' HO_0.out).2.2 (ji5) p369 q369
   cases e369
   replace p369:=eq_true p369
   replace q369:=eq_true q369
   have q11 : (x5_1 : Int) ≤ ((l0.length : Int) : Int):=of_decide_eq_true (by assumption)
   obtain ⟨i011,hi011,_,hsz11,_⟩:=info_parts info3
   have hcut11:=cut_to (P:=Try.prog) 22 3 .i64 Try.underlying22 hi011 (some ad369) l0.length co3 x5_1 (of_decide_eq_true (by assumption)) q11 (Kd.R_reads' HO_0.out).2.1
   have hr11:=Kd.R_take (m:=(x5_1 : Int).toNat) HO_0.out (by omega)
   have hy11 : y370.length = (x5_1 : Int).toNat:=(by rw [Ny370.out,List.length_take];omega)
   rw [← Ny370.out] at hr11
   rw [← hy11] at hr11 hcut11
   clear hy11 hi011 hsz11 HO_0
   have HO372:=Aside0.mk hr11
   clear hr11
   replace q11:=eq_true q11
   go_wp2
   go_ret
   exact ⟨_,by first|rfl|(simp [errW_none,errW_some] <;> rfl)|(simp only [← hji5];first|rfl|(simp [errW_none,errW_some] <;> rfl))|(simp [*,errW_none,errW_some] <;> rfl),by (with_reducible repeat (first|apply Kd.R_alloc|apply Kd.R_drewN|apply Kd.R_drew));exact HO372.out,by repeat (first|(with_reducible first|exact HB.out|apply below_alloc|apply pw_below_drewN|apply below_drew1)|exact HB.out),by repeat (first|(with_reducible first|exact HK.out|apply Kept.alloc|apply Kept.drewN|apply Kept.drew)|exact HK.out)⟩
end Go.Proofs.Ytimomemkbcidnaa.PFnExactTokenLengths
