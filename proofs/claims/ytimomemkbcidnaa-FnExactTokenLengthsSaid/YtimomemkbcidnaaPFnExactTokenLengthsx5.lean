-- Written by a program of this session (a changed print); Lean checks it.
import Derived.Test.YtimomemkbcidnaaPFnExactTokenLengthsx0
import Derived.Test.YtimomemkbcidnaaPFnExactTokenLengthsx3
import Derived.Test.YtimomemkbcidnaaPFnExactTokenLengthsx4
namespace Go.Proofs.Ytimomemkbcidnaa.PFnExactTokenLengths
open Go.RowKit Go.Proofs.YtimomemkbcidnaaW.PrintWords Go.Proofs.YtimomemkbcidnaaW.PrintLast Go.Proofs.YtimomemkbcidnaaW.PrintMore
attribute [local go_sem] max2_int min2_int max_two min_two max_three min_three max_four min_four   -- for this text's walks alone
set_option linter.unusedVariables false
set_option linter.unusedSimpArgs false
open Act renaming put → sPu
open List renaming setIfInBounds_toArray → sIa, set_cons_zero → sCz, set_cons_succ → sCs
open Bool renaming true → Y, false → Z

/-! ### spec_l09Trim: function 79 -/
def spec_l09Trim.l0 : Nat → List Int → Int → Int → Option (List Int)
  | 0, _, _, _ => none
  | k + 1, x0, x1, x5 => if x5 > x1 then (if 0 ≤ (wrap64 (x5 - 1)) then (if (wrap64 (x5 - 1)) < (x0.length : Int) then (if (rd x0 (wrap64 (x5 - 1))) = 0 then (spec_l09Trim.l0 k x0 x1 (wrap64 (x5 - 1))) else (if 0 ≤ x5 then (if x5 ≤ (x0.length : Int) then (some (x0.take (x5 : Int).toNat)) else (none)) else (none))) else (none)) else (none)) else (if 0 ≤ x5 then (if x5 ≤ (x0.length : Int) then (some (x0.take (x5 : Int).toNat)) else (none)) else (none))
def spec_l09Trim.f (k : Nat) (l0 : List Int) (a1 : Int) : Option (List Int) := spec_l09Trim.l0 k l0 a1 (l0.length : Int)
theorem spec_l09Trim.mono_l : ∀ k, (∀ y0 y1 y2, LeO (spec_l09Trim.l0 k y0 y1 y2) (spec_l09Trim.l0 (k + 1) y0 y1 y2))
  | 0 => fun _ _ _ r h => by simp [spec_l09Trim.l0] at h
  | k + 1 => by
    have ih0 := spec_l09Trim.mono_l k
    · intro y0 y1 y2
      unfold spec_l09Trim.l0
      repeat' first
      | (with_reducible exact ih0 _ _ _)
      | (with_reducible exact LeO.refl _)
      | (with_reducible exact LeO.none _)
      | (with_reducible refine LeO.ite ?_ ?_)
      | (with_reducible refine LeO.bind ?_ (fun _ => ?_))
      | exact ih0 _ _ _
      | exact LeO.none _
      | refine LeO.ite ?_ ?_
      | refine LeO.bind ?_ (fun _ => ?_)
theorem spec_l09Trim.mono : ∀ a0 a1 k, LeO (spec_l09Trim.f k a0 a1) (spec_l09Trim.f (k + 1) a0 a1) := by
  intro a0 a1 k
  have ih0 := spec_l09Trim.mono_l k
  unfold spec_l09Trim.f
  repeat' first
      | (with_reducible exact ih0 _ _ _)
      | (with_reducible exact LeO.refl _)
      | (with_reducible exact LeO.none _)
      | (with_reducible refine LeO.ite ?_ ?_)
      | (with_reducible refine LeO.bind ?_ (fun _ => ?_))
      | exact ih0 _ _ _
      | exact LeO.none _
      | refine LeO.ite ?_ ?_
      | refine LeO.bind ?_ (fun _ => ?_)
set_option maxHeartbeats 8000000 in
set_option maxRecDepth 100000 in
theorem spec_l09Trim.calls (k : Nat) (P0_ : Nat → Prop) (u9000_ : Value) (l0 : List Int) (a1 : Int) (r : List Int) (w0 w : World) (hB : Below w0.heap.size w0 w) (ho0 : Kd.R (Kd.int .i64) 3 w w0.heap.size P0_ u9000_ l0) (h : spec_l09Trim.f k l0 a1 = some r) :
    Calls Try.prog 79 #[u9000_, .int .i64 a1] w fun e w' => ∃ v0_ : Value, e = .returned (v0_) ∧ Kd.R (Kd.int .i64) 3 w' w0.heap.size (fun k_ => (P0_ k_ ∨ w.heap.size ≤ k_)) v0_ r ∧ Below w0.heap.size w0 w' ∧ Kept w w' (fun k_ => P0_ k_) := by
 have HO0:=Aside0.mk (show Kd.R (Kd.int .i64) 3 w w0.heap.size (fun k_ => (P0_ k_ ∨ w.heap.size ≤ k_)) u9000_ l0 from Kd.R_mono ho0 (fun k_ hk => (.inl hk)))
 have HK:=Aside0.mk (Kept.refl w (fun k_ => P0_ k_))
 have HW0:=Aside0.mk hB.size
 have HB:=Aside0.mk hB
 clear hB
 have H : (spec_l09Trim.l0 k l0 a1 (l0.length : Int)) = some r:=h
 clear h
 have H':=Aside0.mk H
 clear H
 obtain ⟨Ao3,co3,eo3⟩:=Kd.R_slice HO0.out
 subst eo3
 go_enter Try.func79,Try.ntmps79
 go_wp2
 go_loopg [5] k (fun kq v5 w' => ∃ (x5_1 : Int),v5 = .int .i64 x5_1∧Aside0 (spec_l09Trim.l0 kq l0 a1 x5_1 = some r)∧Aside0 (kq ≤ k)∧Aside0 (Kd.R (Kd.int .i64) 3 w' w0.heap.size (fun k_ => (P0_ k_ ∨ w.heap.size ≤ k_)) (.slice Ao3 l0.length co3) l0)∧Aside0 (Kept w w' (fun k_ => P0_ k_))∧Aside0 (Below w0.heap.size w0 w'))
 case atStart => exact ⟨((l0.length : Int)),(by first|rfl|(simp;done)|(simp [*];done)),H',⟨Nat.le_refl _⟩,⟨by (with_reducible repeat (first|apply Kd.R_alloc|apply Kd.R_drewN|apply Kd.R_drew));exact HO0.out⟩,⟨by repeat (first|(with_reducible first|exact HK.out|apply Kept.alloc|apply Kept.drewN|apply Kept.drew)|exact HK.out)⟩,⟨by repeat (first|(with_reducible first|exact HB.out|apply below_alloc|apply pw_below_drewN|apply below_drew1)|exact HB.out)⟩⟩
 case round =>
  clear H'
  obtain ⟨x5_1,rfl,HA,HK1,HO_0,HK,HB⟩:=hrel
  cases gk with
  | zero => exact absurd HA.out (by simp [spec_l09Trim.l0])
  | succ k1 =>
   have H:=HA.out
   clear HA
   simp only [spec_l09Trim.l0] at H
   by_cases c4 : x5_1 > a1
   rotate_left
   ·rw [if_neg c4] at H
    have c4b0 : decide (a1 < x5_1) = false:=decide_eq_false c4
    clear c4
    by_cases c12 : 0 ≤ x5_1
    rotate_left
    ·rw [if_neg c12] at H
     exact absurd H (by simp)
    rw [if_pos c12] at H
    have c12b0:=eq_true c12
    have c12b1 : decide (0 ≤ x5_1) = true:=decide_eq_true c12
    clear c12
    by_cases c13 : x5_1 ≤ (l0.length : Int)
    rotate_left
    ·rw [if_neg c13] at H
     exact absurd H (by simp)
    rw [if_pos c13] at H
    have c13b0:=eq_true c13
    have c13b1 : decide (x5_1 ≤ (l0.length : Int)) = true:=decide_eq_true c13
    clear c13
    obtain ⟨y237,hy237⟩ : ∃ y_ : List Int,y_ = (l0.take (x5_1 : Int).toNat):=⟨_,rfl⟩
    replace H : (some y237) = some r:=by first|(rw [hy237];with_reducible exact H)|(have H2_:=(Option.bind_some _ _).symm.trans H;rw [hy237];with_reducible exact H2_)|(have H2_:=(Option.bind_some _ _).symm.trans H;with_reducible exact H2_)|with_reducible exact H|(rw [hy237];exact H)|exact H
    have Ny237:=Aside0.mk hy237
    clear hy237
    obtain rfl:=Option.some.inj H
    have q14 : (x5_1 : Int) ≤ ((l0.length : Int) : Int):=of_decide_eq_true (by assumption)
    obtain ⟨i014,hi014,_,hsz14,_⟩:=info_parts info3
    have hcut14:=cut_to (P:=Try.prog) 22 3 .i64 Try.underlying22 hi014 Ao3 l0.length co3 x5_1 (of_decide_eq_true (by assumption)) q14 (Kd.R_reads' HO_0.out).2.1
    have hr14:=Kd.R_take (m:=(x5_1 : Int).toNat) HO_0.out (by omega)
    have hy14 : y237.length = (x5_1 : Int).toNat:=(by rw [Ny237.out,List.length_take];omega)
    rw [← Ny237.out] at hr14
    rw [← hy14] at hr14 hcut14
    clear hy14 hi014 hsz14 HO_0
    have HO239:=Aside0.mk hr14
    clear hr14
    replace q14:=eq_true q14
    go_wp2
    go_ret
    exact ⟨_,by first|rfl|(simp [errW_none,errW_some] <;> rfl)|(simp [*,errW_none,errW_some] <;> rfl),by (with_reducible repeat (first|apply Kd.R_alloc|apply Kd.R_drewN|apply Kd.R_drew));exact HO239.out,by repeat (first|(with_reducible first|exact HB.out|apply below_alloc|apply pw_below_drewN|apply below_drew1)|exact HB.out),by repeat (first|(with_reducible first|exact HK.out|apply Kept.alloc|apply Kept.drewN|apply Kept.drew)|exact HK.out)⟩
   rw [if_pos c4] at H
   have c4b0 : decide (a1 < x5_1) = true:=decide_eq_true c4
   clear c4
   obtain ⟨ji5,hji5⟩ : ∃ j_ : Int,(wrap64 (x5_1 - 1)) = j_:=⟨_,rfl⟩
   replace H : (if 0 ≤ (ji5) then (if (ji5) < (l0.length : Int) then (if (rd l0 (ji5)) = 0 then (spec_l09Trim.l0 k1 l0 a1 ji5) else (if 0 ≤ x5_1 then (if x5_1 ≤ (l0.length : Int) then (some (l0.take (x5_1 : Int).toNat)) else (none)) else (none))) else (none)) else (none)) = some r:=by first|(rw [hji5] at H;exact H)|(simp only [hji5] at H ⊢;exact H)
   have hji5w : (IntKind.i64.wrap (x5_1 - 1)) = ji5:=(i64_w _).trans hji5
   by_cases c6 : 0 ≤ (ji5)
   rotate_left
   ·rw [if_neg c6] at H
    exact absurd H (by simp)
   rw [if_pos c6] at H
   have c6b0 : decide (0 ≤ (ji5)) = true:=decide_eq_true c6
   clear c6
   by_cases c7 : (ji5) < (l0.length : Int)
   rotate_left
   ·rw [if_neg c7] at H
    exact absurd H (by simp)
   rw [if_pos c7] at H
   have c7b0 : decide ((ji5) < (l0.length : Int)) = true:=decide_eq_true c7
   clear c7
   by_cases c8 : (rd l0 (ji5)) = 0
   ·rw [if_pos c8] at H
    have c8b0 : ((rd l0 (ji5)) == 0) = true:=beq_iff_eq.mpr c8
    have c8b1 : ((rd l0 (ji5)) != 0) = false:=bne_eq_false_iff_eq.mpr c8
    clear c8
    have H':=Aside0.mk H
    clear H
    have p233 : 0 ≤ ((ji5) : Int):=of_decide_eq_true (by assumption)
    have q233 : (ji5) < (l0.length : Int):=of_decide_eq_true (by assumption)
    obtain ⟨ad233,e233,hx233_0⟩:=Kd.at_int (Kd.R_reads' HO_0.out).2.2 (ji5) p233 q233
    cases e233
    replace p233:=eq_true p233
    replace q233:=eq_true q233
    go_wp2
    go_roundg k1
    case measure => have:=HK1.out;omega
    case rel => exact ⟨(ji5),(by first|rfl|(simp;done)|(simp only [← hji5] <;> (first|rfl|simp))|(simp [*];done)),H',⟨by have:=HK1.out;omega⟩,⟨by (with_reducible repeat (first|apply Kd.R_alloc|apply Kd.R_drewN|apply Kd.R_drew));exact HO_0.out⟩,⟨by repeat (first|(with_reducible first|exact HK.out|apply Kept.alloc|apply Kept.drewN|apply Kept.drew)|exact HK.out)⟩,⟨by repeat (first|(with_reducible first|exact HB.out|apply below_alloc|apply pw_below_drewN|apply below_drew1)|exact HB.out)⟩⟩
   rw [if_neg c8] at H
   have c8b0 : ((rd l0 (ji5)) == 0) = false:=beq_eq_false_iff_ne.mpr c8
   have c8b1 : ((rd l0 (ji5)) != 0) = true:=bne_iff_ne.mpr c8
   by_cases c9 : 0 ≤ x5_1
   rotate_left
   ·rw [if_neg c9] at H
    exact absurd H (by simp)
   rw [if_pos c9] at H
   have c9b0:=eq_true c9
   have c9b1 : decide (0 ≤ x5_1) = true:=decide_eq_true c9
   clear c9
   by_cases c10 : x5_1 ≤ (l0.length : Int)
   rotate_left
   ·rw [if_neg c10] at H
    exact absurd H (by simp)
   rw [if_pos c10] at H
   have c10b0:=eq_true c10
   have c10b1 : decide (x5_1 ≤ (l0.length : Int)) = true:=decide_eq_true c10
   clear c10
   obtain ⟨y234,hy234⟩ : ∃ y_ : List Int,y_ = (l0.take (x5_1 : Int).toNat):=⟨_,rfl⟩
   replace H : (some y234) = some r:=by first|(rw [hy234];with_reducible exact H)|(have H2_:=(Option.bind_some _ _).symm.trans H;rw [hy234];with_reducible exact H2_)|(have H2_:=(Option.bind_some _ _).symm.trans H;with_reducible exact H2_)|with_reducible exact H|(rw [hy234];exact H)|exact H
   have Ny234:=Aside0.mk hy234
   clear hy234
   obtain rfl:=Option.some.inj H
   have p233 : 0 ≤ ((ji5) : Int):=of_decide_eq_true (by assumption)
   have q233 : (ji5) < (l0.length : Int):=of_decide_eq_true (by assumption)
   obtain ⟨ad233,e233,hx233_0⟩:=Kd.at_int (Kd.R_reads' HO_0.out).2.2 (ji5) p233 q233
   cases e233
   replace p233:=eq_true p233
   replace q233:=eq_true q233
   have q11 : (x5_1 : Int) ≤ ((l0.length : Int) : Int):=of_decide_eq_true (by assumption)
   obtain ⟨i011,hi011,_,hsz11,_⟩:=info_parts info3
   have hcut11:=cut_to (P:=Try.prog) 22 3 .i64 Try.underlying22 hi011 (some ad233) l0.length co3 x5_1 (of_decide_eq_true (by assumption)) q11 (Kd.R_reads' HO_0.out).2.1
   have hr11:=Kd.R_take (m:=(x5_1 : Int).toNat) HO_0.out (by omega)
   have hy11 : y234.length = (x5_1 : Int).toNat:=(by rw [Ny234.out,List.length_take];omega)
   rw [← Ny234.out] at hr11
   rw [← hy11] at hr11 hcut11
   clear hy11 hi011 hsz11 HO_0
   have HO236:=Aside0.mk hr11
   clear hr11
   replace q11:=eq_true q11
   go_wp2
   go_ret
   exact ⟨_,by first|rfl|(simp [errW_none,errW_some] <;> rfl)|(simp only [← hji5];first|rfl|(simp [errW_none,errW_some] <;> rfl))|(simp [*,errW_none,errW_some] <;> rfl),by (with_reducible repeat (first|apply Kd.R_alloc|apply Kd.R_drewN|apply Kd.R_drew));exact HO236.out,by repeat (first|(with_reducible first|exact HB.out|apply below_alloc|apply pw_below_drewN|apply below_drew1)|exact HB.out),by repeat (first|(with_reducible first|exact HK.out|apply Kept.alloc|apply Kept.drewN|apply Kept.drew)|exact HK.out)⟩
/-! ### spec_TokenLengths: function 42 -/
def spec_TokenLengths.l0 : Nat → List (S107) → List Int → List Int → Int → Option (List Int × List Int × Bool)
  | 0, _, _, _, _ => none
  | k + 1, x0, x5, x6, x7 => if x7 < (x0.length : Int) then (if 0 ≤ x7 then (if ((rd_T107 x0 x7).f1) = 0 then (if 0 ≤ ((rd_T107 x0 x7).f0) then (if ((rd_T107 x0 x7).f0) < (x5.length : Int) then (spec_TokenLengths.l0 k x0 (x5.set (((rd_T107 x0 x7).f0) : Int).toNat (wrap64 ((rd x5 ((rd_T107 x0 x7).f0)) + 1))) x6 (wrap64 (x7 + 1))) else (none)) else (none)) else ((spec_LengthCode.f k ((rd_T107 x0 x7).f1)).bind fun bt260 => ((spec_DistCode.f k ((rd_T107 x0 x7).f2)).bind fun bt264 => (if 0 ≤ bt260.1 then (if bt260.1 < (x5.length : Int) then (if 0 ≤ bt264.1 then (if bt264.1 < (x6.length : Int) then (spec_TokenLengths.l0 k x0 (x5.set (bt260.1 : Int).toNat (wrap64 ((rd x5 bt260.1) + 1))) (x6.set (bt264.1 : Int).toNat (wrap64 ((rd x6 bt264.1) + 1))) (wrap64 (x7 + 1))) else (none)) else (none)) else (none)) else (none))))) else (none)) else ((spec_LimitedLengths.f k x5 15).bind fun bt271 => ((spec_LimitedLengths.f k x6 15).bind fun bt275 => ((spec_l09Trim.f k bt271.1 257).bind fun t279 => ((spec_l09Trim.f k bt275.1 1).bind fun t282 => (some (t279, t282, true))))))
def spec_TokenLengths.f (k : Nat) (l0 : List (S107)) : Option (List Int × List Int × Bool) := (spec_l09TokensOk.f k l0).bind fun t240 => (if t240 = true then (if 286 ≤ 35184372088832 then ((some (List.replicate 286 0 : List Int)).bind fun y247 => (if 30 ≤ 35184372088832 then (if 256 < (y247.length : Int) then (spec_TokenLengths.l0 k l0 (y247.set (256 : Int).toNat 1) (List.replicate 30 0) 0) else (none)) else (none))) else (none)) else (some ((([] : List Int)), (([] : List Int)), false)))
theorem spec_TokenLengths.mono_l : ∀ k, (∀ y0 y1 y2 y3, LeO (spec_TokenLengths.l0 k y0 y1 y2 y3) (spec_TokenLengths.l0 (k + 1) y0 y1 y2 y3))
  | 0 => fun _ _ _ _ r h => by simp [spec_TokenLengths.l0] at h
  | k + 1 => by
    have ih0 := spec_TokenLengths.mono_l k
    · intro y0 y1 y2 y3
      unfold spec_TokenLengths.l0
      repeat' first
      | (with_reducible exact ih0 _ _ _ _)
      | (with_reducible exact spec_DistCode.mono _ _)
      | (with_reducible exact spec_LengthCode.mono _ _)
      | (with_reducible exact spec_LimitedLengths.mono _ _ _)
      | (with_reducible exact spec_l09TokensOk.mono _ _)
      | (with_reducible exact spec_l09Trim.mono _ _ _)
      | (with_reducible exact LeO.refl _)
      | (with_reducible exact LeO.none _)
      | (with_reducible refine LeO.ite ?_ ?_)
      | (with_reducible refine LeO.bind ?_ (fun _ => ?_))
      | exact ih0 _ _ _ _
      | exact spec_DistCode.mono _ _
      | exact spec_LengthCode.mono _ _
      | exact spec_LimitedLengths.mono _ _ _
      | exact spec_l09TokensOk.mono _ _
      | exact spec_l09Trim.mono _ _ _
      | exact LeO.none _
      | refine LeO.ite ?_ ?_
      | refine LeO.bind ?_ (fun _ => ?_)
theorem spec_TokenLengths.mono : ∀ a0 k, LeO (spec_TokenLengths.f k a0) (spec_TokenLengths.f (k + 1) a0) := by
  intro a0 k
  have ih0 := spec_TokenLengths.mono_l k
  unfold spec_TokenLengths.f
  repeat' first
      | (with_reducible exact ih0 _ _ _ _)
      | (with_reducible exact spec_DistCode.mono _ _)
      | (with_reducible exact spec_LengthCode.mono _ _)
      | (with_reducible exact spec_LimitedLengths.mono _ _ _)
      | (with_reducible exact spec_l09TokensOk.mono _ _)
      | (with_reducible exact spec_l09Trim.mono _ _ _)
      | (with_reducible exact LeO.refl _)
      | (with_reducible exact LeO.none _)
      | (with_reducible refine LeO.ite ?_ ?_)
      | (with_reducible refine LeO.bind ?_ (fun _ => ?_))
      | exact ih0 _ _ _ _
      | exact spec_DistCode.mono _ _
      | exact spec_LengthCode.mono _ _
      | exact spec_LimitedLengths.mono _ _ _
      | exact spec_l09TokensOk.mono _ _
      | exact spec_l09Trim.mono _ _ _
      | exact LeO.none _
      | refine LeO.ite ?_ ?_
      | refine LeO.bind ?_ (fun _ => ?_)
def spec_TokenLengths.T10 : Bool × List (List Nat × List Nat) := (true, [([], []), ([], []), ([], []), ([1, 2], [1, 2]), ([3], [3]), ([4], [4]), ([], []), ([], []), ([], []), ([7, 8], [7, 8]), ([9], [9]), ([10], [10]), ([6, 11], [6, 11]), ([12], [12]), ([13], [13]), ([0, 5, 0, 1, 2, 3, 4, 5, 6, 7, 8, 9, 10, 11, 12, 13, 14], [0, 5]), ([15, 14, 0, 1, 2, 3, 4, 5, 6, 7, 8, 9, 10, 11, 12, 13, 14], [14, 15])])
def spec_TokenLengths.B10 : List Nat := [0, 0, 0, 6, 14, 30, 0, 0, 0, 384, 896, 1920, 4032, 8128, 16320, 32767, 65535]
theorem spec_TokenLengths.tab10 : rtab .any (opsOf Try.f42 10) = spec_TokenLengths.T10 := by kernel_rfl
theorem spec_TokenLengths.bits10 : waitsOk spec_TokenLengths.T10.2 spec_TokenLengths.B10 = true := by kernel_rfl
set_option maxHeartbeats 8000000 in
set_option maxRecDepth 100000 in
theorem spec_TokenLengths.calls (k : Nat) (A0 : Option Addr) (c0 : Nat) (l0 : List (S107)) (r1 : List Int) (r2 : List Int) (r3 : Bool) (w : World) (hr0 : Kd.C k107 w A0 l0.length l0) (hc0 : l0.length ≤ c0) (h : spec_TokenLengths.f k l0 = some (r1, r2, r3)) :
    Calls Try.prog 42 #[.slice A0 l0.length c0] w fun e w' => ∃ v0_ v1_ : Value, e = .returned (.tuple #[v0_, v1_, .bool r3]) ∧ Kd.R (Kd.int .i64) 3 w' w.heap.size (fun k_ => some k_ ≠ (v1_ : Value).ownBlock) v0_ r1 ∧ Kd.R (Kd.int .i64) 3 w' w.heap.size (fun k_ => some k_ ≠ (v0_ : Value).ownBlock) v1_ r2 ∧ Below w.heap.size w w' := by
 have HR0:=Aside0.mk hr0
 have HC0:=Aside0.mk hc0
 clear hr0 hc0
 have HB:=Aside0.mk (Below.refl w.heap.size w)
 have H : ((spec_l09TokensOk.f k l0).bind fun t240 => (if t240 = true then (if 286 ≤ 35184372088832 then ((some (List.replicate 286 0 : List Int)).bind fun y247 => (if 30 ≤ 35184372088832 then (if 256 < (y247.length : Int) then (spec_TokenLengths.l0 k l0 (y247.set (256 : Int).toNat 1) (List.replicate 30 0) 0) else (none)) else (none))) else (none)) else (some ((([] : List Int)),(([] : List Int)),false)))) = some (r1,r2,r3):=h
 clear h
 replace H:=Option.bind_eq_some_iff.mp H
 obtain ⟨t240,A20,H⟩:=H
 replace H : (if t240 = true then (if 286 ≤ 35184372088832 then ((some (List.replicate 286 0 : List Int)).bind fun y247 => (if 30 ≤ 35184372088832 then (if 256 < (y247.length : Int) then (spec_TokenLengths.l0 k l0 (y247.set (256 : Int).toNat 1) (List.replicate 30 0) 0) else (none)) else (none))) else (none)) else (some ((([] : List Int)),(([] : List Int)),false))) = some (r1,r2,r3):=H
 have A2:=Aside0.mk A20
 clear A20
 by_cases c3 : t240 = true
 rotate_left
 ·replace c3:=Bool.eq_false_iff.mpr c3
  subst c3
  have H1 : (some ((([] : List Int)),(([] : List Int)),false)) = some (r1,r2,r3):=by rw [if_neg (show ¬ (false = true) by decide)] at H;exact H
  clear H
  have H:=H1
  clear H1
  obtain ⟨y241,hy241⟩ : ∃ y_ : List Int,y_ = (([] : List Int)):=⟨_,rfl⟩
  replace H : (some (y241,(([] : List Int)),false)) = some (r1,r2,r3):=by first|(rw [hy241];with_reducible exact H)|(have H2_:=(Option.bind_some _ _).symm.trans H;rw [hy241];with_reducible exact H2_)|(have H2_:=(Option.bind_some _ _).symm.trans H;with_reducible exact H2_)|with_reducible exact H|(rw [hy241];exact H)|exact H
  have Ny241:=Aside0.mk hy241
  clear hy241
  obtain ⟨y244,hy244⟩ : ∃ y_ : List Int,y_ = (([] : List Int)):=⟨_,rfl⟩
  replace H : (some (y241,y244,false)) = some (r1,r2,r3):=by first|(rw [hy244];with_reducible exact H)|(have H2_:=(Option.bind_some _ _).symm.trans H;rw [hy244];with_reducible exact H2_)|(have H2_:=(Option.bind_some _ _).symm.trans H;with_reducible exact H2_)|with_reducible exact H|(rw [hy244];exact H)|exact H
  have Ny244:=Aside0.mk hy244
  clear hy244
  simp only [Option.some.injEq,Prod.mk.injEq] at H
  obtain ⟨rfl,rfl,rfl⟩:=H
  go_enter Try.func42,Try.ntmps42
  go_wp2_with (first|((with_reducible refine gate_callee (f:=76) rfl ?_);refine goesL_ (some 19) rfl rfl Try.func76 (by kernel_rfl) rfl #[.slice A0 l0.length c0] rfl (by (try simp only [List.map_toArray,List.map_cons,List.map_nil]);first|done|rfl|(simp only [List.length_drop,List.length_take];rfl)) ?_;(with_reducible refine (spec_l09TokensOk.calls k _ _ l0 false _ ?side1 ?side2 A2.out).mono ?_);(case side1 => repeat (first|exact HR0.out|(with_reducible refine Kd.C_alloc ?_ _)|(with_reducible refine Kd.C_drewN ?_ _)|(with_reducible refine Kd.C_drew ?_)));(case side2 => exact HC0.out);rintro e w47 ⟨rfl,hb⟩;refine ⟨_,rfl,?_⟩;have n0_:=Aside0.mk (below_step (by repeat (first|(with_reducible first|exact HB.out|apply below_alloc|apply pw_below_drewN|apply below_drew1)|exact HB.out)) hb);clear HB;have HB:=n0_;clear n0_;(try clear hb);(try clear hb2);(try clear hk);(try clear hi))|((with_reducible refine gate_dst (N:=21) rfl ?_);refine Kd.R_lit (Kd.int .i64) _ 3 ?hg (N:=21) ?hd (xs:=([] : List Int)) (inner:=[]) (ok:=fun _ => True) (okp:=fun _ => True) ?hr ?hp (fun _ hk => hk) trivial (Below.refl _ _) (Nat.le_refl _) (by simp) ?_;(case hd => rfl);(case hg => rfl);(case hr => first|(go_simp;done)|(go_simp;rfl));(case hp => exact (Reps.none _ _));intro v242 w48 ho49 hb hg_ hnew_;clear hg_ hnew_;(first|rw [← Ny241.out] at ho49|(simp only [Int.reduceToNat] at ho49;rw [← Ny241.out] at ho49));have n0_:=Aside0.mk (Kd.R_lower ho49 (below_size (by repeat (first|(with_reducible first|exact HB.out|apply below_alloc|apply pw_below_drewN|apply below_drew1)|exact HB.out))));have n1_:=Aside0.mk (below_step (by repeat (first|(with_reducible first|exact HB.out|apply below_alloc|apply pw_below_drewN|apply below_drew1)|exact HB.out)) hb);clear HB;have HO243:=n0_;have HB:=n1_;clear n0_ n1_;clear hb ho49)|((with_reducible refine gate_dst (N:=22) rfl ?_);refine Kd.R_lit (Kd.int .i64) _ 3 ?hg (N:=22) ?hd (xs:=([] : List Int)) (inner:=[]) (ok:=fun _ => True) (okp:=fun _ => True) ?hr ?hp (fun _ hk => hk) trivial (Below.refl _ _) (Nat.le_refl _) (by simp) ?_;(case hd => rfl);(case hg => rfl);(case hr => first|(go_simp;done)|(go_simp;rfl));(case hp => exact (Reps.none _ _));intro v245 w50 ho51 hb hg_ hnew_;clear hg_ hnew_;(first|rw [← Ny244.out] at ho51|(simp only [Int.reduceToNat] at ho51;rw [← Ny244.out] at ho51));have n0_:=Aside0.mk (Kd.R_elder' (by (with_reducible repeat (first|apply Kd.R_alloc|apply Kd.R_drewN|apply Kd.R_drew));exact HO243.out) (Kd.R_base ho51) hb);have n1_:=Aside0.mk (Kd.R_lower (Kd.R_new' ho51 (Kd.R_lt (by (with_reducible repeat (first|apply Kd.R_alloc|apply Kd.R_drewN|apply Kd.R_drew));exact HO243.out))) (below_size (by repeat (first|(with_reducible first|exact HB.out|apply below_alloc|apply pw_below_drewN|apply below_drew1)|exact HB.out))));have n2_:=Aside0.mk (below_step (by repeat (first|(with_reducible first|exact HB.out|apply below_alloc|apply pw_below_drewN|apply below_drew1)|exact HB.out)) hb);clear HO243;clear HB;have HO243:=n0_;have HO246:=n1_;have HB:=n2_;clear n0_ n1_ n2_;clear hb ho51))
  go_ret3
  exact ⟨_,_,by first|rfl|(simp [errW_none,errW_some] <;> rfl)|(simp [*,errW_none,errW_some] <;> rfl),by (with_reducible repeat (first|apply Kd.R_alloc|apply Kd.R_drewN|apply Kd.R_drew));exact Kd.R_mono HO243.out (fun _ hk => hk.2),by (with_reducible repeat (first|apply Kd.R_alloc|apply Kd.R_drewN|apply Kd.R_drew));exact Kd.R_mono HO246.out (fun _ hk => hk.2),by repeat (first|(with_reducible first|exact HB.out|apply below_alloc|apply pw_below_drewN|apply below_drew1)|exact HB.out)⟩
 subst c3
 have H1 : (if 286 ≤ 35184372088832 then ((some (List.replicate 286 0 : List Int)).bind fun y247 => (if 30 ≤ 35184372088832 then (if 256 < (y247.length : Int) then (spec_TokenLengths.l0 k l0 (y247.set (256 : Int).toNat 1) (List.replicate 30 0) 0) else (none)) else (none))) else (none)) = some (r1,r2,r3):=by rw [if_pos rfl] at H;exact H
 clear H
 have H:=H1
 clear H1
 by_cases c4 : 286 ≤ 35184372088832
 rotate_left
 ·rw [if_neg c4] at H
  exact absurd H (by simp)
 rw [if_pos c4] at H
 have c4b0:=eq_true c4
 have c4b1 : decide (286 ≤ 35184372088832) = true:=decide_eq_true c4
 clear c4
 obtain ⟨y247,hy247⟩ : ∃ y_ : List Int,y_ = (List.replicate 286 0):=⟨_,rfl⟩
 replace H : (if 30 ≤ 35184372088832 then (if 256 < (y247.length : Int) then (spec_TokenLengths.l0 k l0 (y247.set (256 : Int).toNat 1) (List.replicate 30 0) 0) else (none)) else (none)) = some (r1,r2,r3):=by first|(rw [hy247];with_reducible exact H)|(have H2_:=(Option.bind_some _ _).symm.trans H;rw [hy247];with_reducible exact H2_)|(have H2_:=(Option.bind_some _ _).symm.trans H;with_reducible exact H2_)|with_reducible exact H|(rw [hy247];exact H)|exact H
 have Ny247:=Aside0.mk hy247
 clear hy247
 by_cases c5 : 30 ≤ 35184372088832
 rotate_left
 ·rw [if_neg c5] at H
  exact absurd H (by simp)
 rw [if_pos c5] at H
 have c5b0:=eq_true c5
 have c5b1 : decide (30 ≤ 35184372088832) = true:=decide_eq_true c5
 clear c5
 obtain ⟨y250,hy250⟩ : ∃ y_ : List Int,y_ = (List.replicate 30 0):=⟨_,rfl⟩
 replace H : (if 256 < (y247.length : Int) then (spec_TokenLengths.l0 k l0 (y247.set (256 : Int).toNat 1) y250 0) else (none)) = some (r1,r2,r3):=by first|(rw [hy250];with_reducible exact H)|(have H2_:=(Option.bind_some _ _).symm.trans H;rw [hy250];with_reducible exact H2_)|(have H2_:=(Option.bind_some _ _).symm.trans H;with_reducible exact H2_)|with_reducible exact H|(rw [hy250];exact H)|exact H
 have Ny250:=Aside0.mk hy250
 clear hy250
 by_cases c6 : 256 < (y247.length : Int)
 rotate_left
 ·rw [if_neg c6] at H
  exact absurd H (by simp)
 rw [if_pos c6] at H
 have c6b0 : decide (256 < (y247.length : Int)) = true:=decide_eq_true c6
 have c6b1 : decide (256 < y247.length) = true:=decide_eq_true (by omega)
 clear c6
 obtain ⟨y253,hy253⟩ : ∃ y_ : List Int,y_ = (y247.set (256 : Int).toNat 1):=⟨_,rfl⟩
 replace H : (spec_TokenLengths.l0 k l0 y253 y250 0) = some (r1,r2,r3):=by first|(rw [hy253];with_reducible exact H)|(have H2_:=(Option.bind_some _ _).symm.trans H;rw [hy253];with_reducible exact H2_)|(have H2_:=(Option.bind_some _ _).symm.trans H;with_reducible exact H2_)|with_reducible exact H|(rw [hy253];exact H)|exact H
 have Ny253:=Aside0.mk hy253
 clear hy253
 have H':=Aside0.mk H
 clear H
 go_enter Try.func42,Try.ntmps42
 go_wp2_with (first|((with_reducible refine gate_callee (f:=76) rfl ?_);refine goesL_ (some 19) rfl rfl Try.func76 (by kernel_rfl) rfl #[.slice A0 l0.length c0] rfl (by (try simp only [List.map_toArray,List.map_cons,List.map_nil]);first|done|rfl|(simp only [List.length_drop,List.length_take];rfl)) ?_;(with_reducible refine (spec_l09TokensOk.calls k _ _ l0 true _ ?side1 ?side2 A2.out).mono ?_);(case side1 => repeat (first|exact HR0.out|(with_reducible refine Kd.C_alloc ?_ _)|(with_reducible refine Kd.C_drewN ?_ _)|(with_reducible refine Kd.C_drew ?_)));(case side2 => exact HC0.out);rintro e w8 ⟨rfl,hb⟩;refine ⟨_,rfl,?_⟩;have n0_:=Aside0.mk (below_step (by repeat (first|(with_reducible first|exact HB.out|apply below_alloc|apply pw_below_drewN|apply below_drew1)|exact HB.out)) hb);clear HB;have HB:=n0_;clear n0_;(try clear hb);(try clear hb2);(try clear hk);(try clear hi))|((with_reducible refine gate_dst (N:=23) rfl ?_);refine Kd.R_make (Kd.int .i64) _ 3 rfl (N:=23) rfl 22 _ _ rfl 286 rfl rfl Try.underlying22 (.int .i64 0) 8 info3 rfl (by decide) (by omega) 0 (ok:=fun _ => True) (okp:=fun _ => True) rfl (fun _ hk => hk) trivial (by omega) (by omega) (Below.refl _ _) (Nat.le_refl _) ?_;intro v248 w9 ho10 hb hg_ hnew_;clear hg_ hnew_;(first|rw [← Ny247.out] at ho10|(simp only [Int.reduceToNat] at ho10;rw [← Ny247.out] at ho10));have n0_:=Aside0.mk (Kd.R_lower ho10 (below_size (by repeat (first|(with_reducible first|exact HB.out|apply below_alloc|apply pw_below_drewN|apply below_drew1)|exact HB.out))));have n1_:=Aside0.mk (below_step (by repeat (first|(with_reducible first|exact HB.out|apply below_alloc|apply pw_below_drewN|apply below_drew1)|exact HB.out)) hb);clear HB;have HO249:=n0_;have HB:=n1_;clear n0_ n1_;clear hb ho10)|((with_reducible refine gate_dst (N:=24) rfl ?_);refine Kd.R_make (Kd.int .i64) _ 3 rfl (N:=24) rfl 22 _ _ rfl 30 rfl rfl Try.underlying22 (.int .i64 0) 8 info3 rfl (by decide) (by omega) 0 (ok:=fun _ => True) (okp:=fun _ => True) rfl (fun _ hk => hk) trivial (by omega) (by omega) (Below.refl _ _) (Nat.le_refl _) ?_;intro v251 w11 ho12 hb hg_ hnew_;clear hg_ hnew_;(first|rw [← Ny250.out] at ho12|(simp only [Int.reduceToNat] at ho12;rw [← Ny250.out] at ho12));have n0_:=Aside0.mk (Kd.R_elder' (by (with_reducible repeat (first|apply Kd.R_alloc|apply Kd.R_drewN|apply Kd.R_drew));exact HO249.out) (Kd.R_base ho12) hb);have n1_:=Aside0.mk (Kd.R_lower (Kd.R_new' ho12 (Kd.R_lt (by (with_reducible repeat (first|apply Kd.R_alloc|apply Kd.R_drewN|apply Kd.R_drew));exact HO249.out))) (below_size (by repeat (first|(with_reducible first|exact HB.out|apply below_alloc|apply pw_below_drewN|apply below_drew1)|exact HB.out))));have n2_:=Aside0.mk (below_step (by repeat (first|(with_reducible first|exact HB.out|apply below_alloc|apply pw_below_drewN|apply below_drew1)|exact HB.out)) hb);clear HO249;clear HB;have HO249:=n0_;have HO252:=n1_;have HB:=n2_;clear n0_ n1_ n2_;clear hb ho12;have p7 : 0 ≤ (256 : Int):=(by omega);have q7 : (256 : Int) < ((y247.length : Int) : Int):=of_decide_eq_true (by assumption);have qi7 : (256 < y247.length) = True:=eq_true (by omega);obtain ⟨go7,co7,eo7,gb7,gl7,cl7,HG7⟩:=Kd.R_form HO249.out (by omega);(first|cases eo7|(injection eo7 with ea_ en_ ec_;(first|subst ea_|(injection ea_ with ea_;subst ea_));subst ec_;clear en_));have GB7:=Aside0.mk gb7;have GG7:=Aside0.mk HG7;clear gb7 gl7 HG7;obtain ⟨hx7_0,hf7_0⟩:=Kd.R_celln 0 HO249.out (256 : Int) p7 q7;(try rw [show ((256 : Int)).toNat = 256 from rfl] at hx7_0);(try simp only [Nat.reduceMul,Nat.zero_mul,Nat.zero_add,Nat.reduceAdd] at hx7_0);(try rw [show ((256 : Int)).toNat = 256 from rfl] at hf7_0);(try simp only [Nat.reduceMul,Nat.zero_mul,Nat.zero_add,Nat.reduceAdd] at hf7_0);replace p7:=eq_true p7;replace q7:=eq_true q7;have n_:=Aside0.mk (Kd.R_mono (ok':=(fun k_ => some k_ ≠ (v251 : Value).ownBlock)) HO249.out (fun k_ hk => hk.2));clear HO249;have HO249:=n_;clear n_;obtain ⟨hy13_,hz13_⟩:=Kd.R_celln 0 HO249.out (256 : Int) (by omega) (of_decide_eq_true (by assumption));(try simp only [Int.reduceToNat,Int.toNat_zero,Int.toNat_ofNat,Nat.reduceMul,Nat.zero_mul,Nat.zero_add] at hy13_ hz13_);(try rw [show ((256 : Int)).toNat = 256 from rfl] at hy13_);(try rw [show ((256 : Int)).toNat = 256 from rfl] at hz13_);have HP13:=Kd.R_putg HO249.out (256 : Int) 1)|((with_reducible refine gate_store (t:=3) (p:=26) rfl ?_);refine store_event (t:=3) (p:=26) (v:=?vo_w14) (w1:=(w11.setCell ⟨go7,(256 : Int).toNat,none⟩ (.int .i64 1))) ?hg ?ho ?hn ?hr ?_;(case ho => rfl);(case hg => rfl);(case hn => rfl);(case hr => first|(go_simp;done)|(go_simp;rfl));intro w14 hw;have hg : w11.grownBy w14 (some go7):=(by rw [hw];exact HP13.2);have hp_ : Kd.R (Kd.int .i64) 3 w14 w.heap.size (fun k_ => some k_ ≠ (v251 : Value).ownBlock) (.slice (some ⟨go7,0,none⟩) y247.length co7) y253:=(by rw [hw,Ny253.out];exact HP13.1);clear HP13;have n0_:=Aside0.mk (hp_);have n1_:=Aside0.mk (Kd.R_after (v:=(.slice (some ⟨go7,0,none⟩) y247.length co7)) (v1:=(.slice (some ⟨go7,0,none⟩) y247.length co7)) (ok:=(fun _ => True)) (by (with_reducible repeat (first|apply Kd.R_alloc|apply Kd.R_drewN|apply Kd.R_drew));exact HO252.out) hg (.inl rfl));have n2_:=Aside0.mk ((by rw [hw];exact below_set (HB.out) GB7.out : Below w.heap.size w w14));clear HO249;clear HO252;clear HB;have HO249:=n0_;have HO252:=n1_;have HB:=n2_;clear n0_ n1_ n2_;clear hg hw hp_))
 go_loopg [7] k (fun kq v7 w' => ∃ (x5_1 : List Int) (x6_1 : List Int) (x7_1 : Int),v7 = .int .i64 x7_1∧Aside0 (spec_TokenLengths.l0 kq l0 x5_1 x6_1 x7_1 = some (r1,r2,r3))∧Aside0 (kq ≤ k)∧Aside0 (Kd.R (Kd.int .i64) 3 w' w.heap.size (fun k_ => some k_ ≠ (v251 : Value).ownBlock) (.slice (some ⟨go7,0,none⟩) y247.length co7) x5_1)∧Aside0 (Kd.R (Kd.int .i64) 3 w' w.heap.size (fun k_ => some k_ ≠ ((.slice (some ⟨go7,0,none⟩) y247.length co7) : Value).ownBlock) v251 x6_1)∧Aside0 (Below w.heap.size w w'))
 case atStart => exact ⟨(y253),(y250),(0),(by first|rfl|(simp;done)|(simp [*];done)),H',⟨Nat.le_refl _⟩,⟨by (with_reducible repeat (first|apply Kd.R_alloc|apply Kd.R_drewN|apply Kd.R_drew));exact HO249.out⟩,⟨by (with_reducible repeat (first|apply Kd.R_alloc|apply Kd.R_drewN|apply Kd.R_drew));exact Kd.R_mono HO252.out (fun _ hk => hk.2)⟩,⟨by repeat (first|(with_reducible first|exact HB.out|apply below_alloc|apply pw_below_drewN|apply below_drew1)|exact HB.out)⟩⟩
 case round =>
  clear H'
  obtain ⟨x5_1,x6_1,x7_1,rfl,HA,HK1,HO_5,HO_6,HB⟩:=hrel
  have hl5_1:=(Kd.R_reads' HO_5.out).1
  rw [hl5_1] at HO_5
  (try simp only [hl5_1])
  (try simp only [hl5_1] at HO_6)
  cases gk with
  | zero => exact absurd HA.out (by simp [spec_TokenLengths.l0])
  | succ k1 =>
   have H:=HA.out
   clear HA
   simp only [spec_TokenLengths.l0] at H
   by_cases c15 : x7_1 < (l0.length : Int)
   rotate_left
   ·rw [if_neg c15] at H
    have c15b0 : decide (x7_1 < (l0.length : Int)) = false:=decide_eq_false c15
    clear c15
    replace H:=Option.bind_eq_some_iff.mp H
    obtain ⟨⟨t271,t272⟩,A360,H⟩:=H
    replace H : ((spec_LimitedLengths.f k1 x6_1 15).bind fun bt275 => ((spec_l09Trim.f k1 t271 257).bind fun t279 => ((spec_l09Trim.f k1 bt275.1 1).bind fun t282 => (some (t279,t282,true))))) = some (r1,r2,r3):=H
    have A36:=Aside0.mk A360
    clear A360
    replace H:=Option.bind_eq_some_iff.mp H
    obtain ⟨⟨t275,t276⟩,A370,H⟩:=H
    replace H : ((spec_l09Trim.f k1 t271 257).bind fun t279 => ((spec_l09Trim.f k1 t275 1).bind fun t282 => (some (t279,t282,true)))) = some (r1,r2,r3):=H
    have A37:=Aside0.mk A370
    clear A370
    replace H:=Option.bind_eq_some_iff.mp H
    obtain ⟨t279,A380,H⟩:=H
    replace H : ((spec_l09Trim.f k1 t275 1).bind fun t282 => (some (t279,t282,true))) = some (r1,r2,r3):=H
    have A38:=Aside0.mk A380
    clear A380
    replace H:=Option.bind_eq_some_iff.mp H
    obtain ⟨t282,A390,H⟩:=H
    replace H : (some (t279,t282,true)) = some (r1,r2,r3):=H
    have A39:=Aside0.mk A390
    clear A390
    simp only [Option.some.injEq,Prod.mk.injEq] at H
    obtain ⟨rfl,rfl,rfl⟩:=H
    go_wp2_with (first|((with_reducible refine gate_callee (f:=38) rfl ?_);refine goesL_ (some 93) rfl rfl Try.func38 (by kernel_rfl) rfl #[.slice (some ⟨go7,0,none⟩) x5_1.length co7,.int .i64 15] rfl (by (try simp only [List.map_toArray,List.map_cons,List.map_nil]);first|done|rfl|(simp only [List.length_drop,List.length_take];rfl)) ?_;(with_reducible refine (spec_LimitedLengths.calls k1 _ _ x5_1 15 t271 t272 _ ?side1 ?side2 A36.out).mono ?_);(case side1 => repeat (first|exact (Kd.R_reads' HO_5.out).2.2|(with_reducible refine Kd.C_alloc ?_ _)|(with_reducible refine Kd.C_drewN ?_ _)|(with_reducible refine Kd.C_drew ?_)));(case side2 => exact (Kd.R_reads' HO_5.out).2.1);rintro e w40 ⟨v273,rfl,ho0,hb⟩;refine ⟨_,rfl,?_⟩;have n0_:=Aside0.mk (Kd.R_elder' (by (with_reducible repeat (first|apply Kd.R_alloc|apply Kd.R_drewN|apply Kd.R_drew));exact HO_5.out) (Kd.R_base ho0) hb);have n1_:=Aside0.mk (Kd.R_elder' (by (with_reducible repeat (first|apply Kd.R_alloc|apply Kd.R_drewN|apply Kd.R_drew));exact HO_6.out) (Kd.R_base ho0) hb);have n2_:=Aside0.mk (Kd.R_lower (Kd.R_new' (Kd.R_new' ho0 (Kd.R_lt (by (with_reducible repeat (first|apply Kd.R_alloc|apply Kd.R_drewN|apply Kd.R_drew));exact HO_5.out))) (Kd.R_lt (by (with_reducible repeat (first|apply Kd.R_alloc|apply Kd.R_drewN|apply Kd.R_drew));exact HO_6.out))) (below_size (by repeat (first|(with_reducible first|exact HB.out|apply below_alloc|apply pw_below_drewN|apply below_drew1)|exact HB.out))));have n3_:=Aside0.mk (below_step (by repeat (first|(with_reducible first|exact HB.out|apply below_alloc|apply pw_below_drewN|apply below_drew1)|exact HB.out)) hb);clear HO_5;clear HO_6;clear HB;have HO_5:=n0_;have HO_6:=n1_;have HO274:=n2_;have HB:=n3_;clear n0_ n1_ n2_ n3_;(try clear hb);(try clear hb2);(try clear hk);(try clear hi);(try clear ho0);obtain ⟨Ao41,co41,eo41⟩:=Kd.R_slice HO_6.out;subst eo41)|((with_reducible refine gate_callee (f:=38) rfl ?_);refine goesL_ (some 98) rfl rfl Try.func38 (by kernel_rfl) rfl #[.slice Ao41 x6_1.length co41,.int .i64 15] rfl (by (try simp only [List.map_toArray,List.map_cons,List.map_nil]);first|done|rfl|(simp only [List.length_drop,List.length_take];rfl)) ?_;(with_reducible refine (spec_LimitedLengths.calls k1 _ _ x6_1 15 t275 t276 _ ?side1 ?side2 A37.out).mono ?_);(case side1 => repeat (first|exact (Kd.R_reads' HO_6.out).2.2|(with_reducible refine Kd.C_alloc ?_ _)|(with_reducible refine Kd.C_drewN ?_ _)|(with_reducible refine Kd.C_drew ?_)));(case side2 => exact (Kd.R_reads' HO_6.out).2.1);rintro e w42 ⟨v277,rfl,ho0,hb⟩;refine ⟨_,rfl,?_⟩;have n0_:=Aside0.mk (Kd.R_elder' (by (with_reducible repeat (first|apply Kd.R_alloc|apply Kd.R_drewN|apply Kd.R_drew));exact HO_5.out) (Kd.R_base ho0) hb);have n1_:=Aside0.mk (Kd.R_elder' (by (with_reducible repeat (first|apply Kd.R_alloc|apply Kd.R_drewN|apply Kd.R_drew));exact HO_6.out) (Kd.R_base ho0) hb);have n2_:=Aside0.mk (Kd.R_elder' (by (with_reducible repeat (first|apply Kd.R_alloc|apply Kd.R_drewN|apply Kd.R_drew));exact HO274.out) (Kd.R_base ho0) hb);have n3_:=Aside0.mk (Kd.R_lower (Kd.R_new' (Kd.R_new' (Kd.R_new' ho0 (Kd.R_lt (by (with_reducible repeat (first|apply Kd.R_alloc|apply Kd.R_drewN|apply Kd.R_drew));exact HO_5.out))) (Kd.R_lt (by (with_reducible repeat (first|apply Kd.R_alloc|apply Kd.R_drewN|apply Kd.R_drew));exact HO_6.out))) (Kd.R_lt (by (with_reducible repeat (first|apply Kd.R_alloc|apply Kd.R_drewN|apply Kd.R_drew));exact HO274.out))) (below_size (by repeat (first|(with_reducible first|exact HB.out|apply below_alloc|apply pw_below_drewN|apply below_drew1)|exact HB.out))));have n4_:=Aside0.mk (below_step (by repeat (first|(with_reducible first|exact HB.out|apply below_alloc|apply pw_below_drewN|apply below_drew1)|exact HB.out)) hb);clear HO_5;clear HO_6;clear HO274;clear HB;have HO_5:=n0_;have HO_6:=n1_;have HO274:=n2_;have HO278:=n3_;have HB:=n4_;clear n0_ n1_ n2_ n3_ n4_;(try clear hb);(try clear hb2);(try clear hk);(try clear hi);(try clear ho0);obtain ⟨Ao43,co43,eo43⟩:=Kd.R_slice HO274.out;subst eo43)|((with_reducible refine gate_callee (f:=79) rfl ?_);refine goesL_ (some 102) rfl rfl Try.func79 (by kernel_rfl) rfl #[.slice Ao43 t271.length co43,.int .i64 257] rfl (by (try simp only [List.map_toArray,List.map_cons,List.map_nil]);first|done|rfl|(simp only [List.length_drop,List.length_take];rfl)) ?_;(with_reducible refine (spec_l09Trim.calls k1 (fun k_ => some k_ = (.slice Ao43 t271.length co43 : Value).ownBlock) (.slice Ao43 t271.length co43) t271 257 t279 w _ ?side1 ?side2 A38.out).mono ?_);(case side1 => repeat (first|(with_reducible first|exact HB.out|apply below_alloc|apply pw_below_drewN|apply below_drew1)|exact HB.out));(case side2 => exact Kd.R_tight rfl HO274.out);rintro e w44 ⟨v280,rfl,ho0,hb,hkp⟩;refine ⟨_,rfl,?_⟩;have n0_:=Aside0.mk (Kd.R_mono (ok':=fun k_ => some k_ ≠ (.slice Ao41 x6_1.length co41 : Value).ownBlock∧some k_ ≠ (v277 : Value).ownBlock∧some k_ ≠ (v280 : Value).ownBlock) (Kd.R_keptB (HO_5.out) hkp (fun k_ hk_ hs_ => (hk_.1.2) hs_)) (fun k_ hk_ => ⟨hk_.1.1.1,hk_.1.2,fun e_ => Or.elim (ho0.1 k_ e_.symm) (fun hs_ => hk_.2.1 hs_) (fun hn_ => Nat.not_le.2 hk_.2.2 hn_)⟩));have n1_:=Aside0.mk (Kd.R_mono (ok':=fun k_ => some k_ ≠ (.slice (some ⟨go7,0,none⟩) x5_1.length co7 : Value).ownBlock∧some k_ ≠ (v277 : Value).ownBlock∧some k_ ≠ (v280 : Value).ownBlock) (Kd.R_keptB (HO_6.out) hkp (fun k_ hk_ hs_ => (hk_.1.2) hs_)) (fun k_ hk_ => ⟨hk_.1.1.1,hk_.1.2,fun e_ => Or.elim (ho0.1 k_ e_.symm) (fun hs_ => hk_.2.1 hs_) (fun hn_ => Nat.not_le.2 hk_.2.2 hn_)⟩));have n2_:=Aside0.mk (Kd.R_mono (ok':=fun k_ => some k_ ≠ (.slice (some ⟨go7,0,none⟩) x5_1.length co7 : Value).ownBlock∧some k_ ≠ (.slice Ao41 x6_1.length co41 : Value).ownBlock∧some k_ ≠ (v280 : Value).ownBlock) (Kd.R_keptB (HO278.out) hkp (fun k_ hk_ hs_ => (hk_.2) hs_)) (fun k_ hk_ => ⟨hk_.1.1.1.2,hk_.1.1.2,fun e_ => Or.elim (ho0.1 k_ e_.symm) (fun hs_ => hk_.2.1 hs_) (fun hn_ => Nat.not_le.2 hk_.2.2 hn_)⟩));have n3_:=Aside0.mk (Kd.R_mono (ok':=fun k_ => some k_ ≠ (.slice (some ⟨go7,0,none⟩) x5_1.length co7 : Value).ownBlock∧some k_ ≠ (.slice Ao41 x6_1.length co41 : Value).ownBlock∧some k_ ≠ (v277 : Value).ownBlock) ho0 (fun k_ hk_ => ⟨Or.elim hk_ (fun hs_ => fun e_ => (((HO_5.out).1 k_ e_.symm).1.2) hs_) (fun hn_ => (Kd.fresh' (Kd.R_lt (by (with_reducible repeat (first|apply Kd.R_alloc|apply Kd.R_drewN|apply Kd.R_drew));exact HO_5.out)) k_ hn_)),Or.elim hk_ (fun hs_ => fun e_ => (((HO_6.out).1 k_ e_.symm).1.2) hs_) (fun hn_ => (Kd.fresh' (Kd.R_lt (by (with_reducible repeat (first|apply Kd.R_alloc|apply Kd.R_drewN|apply Kd.R_drew));exact HO_6.out)) k_ hn_)),Or.elim hk_ (fun hs_ => fun e_ => (((HO278.out).1 k_ e_.symm).2) hs_) (fun hn_ => (Kd.fresh' (Kd.R_lt (by (with_reducible repeat (first|apply Kd.R_alloc|apply Kd.R_drewN|apply Kd.R_drew));exact HO278.out)) k_ hn_))⟩));have n4_:=Aside0.mk (hb);clear HO_5;clear HO_6;clear HO278;clear HB;clear HO274;have HO_5:=n0_;have HO_6:=n1_;have HO278:=n2_;have HO281:=n3_;have HB:=n4_;clear n0_ n1_ n2_ n3_ n4_;(try clear hb);(try clear hkp);(try clear ho0);obtain ⟨Ao45,co45,eo45⟩:=Kd.R_slice HO278.out;subst eo45)|((with_reducible refine gate_callee (f:=79) rfl ?_);refine goesL_ (some 104) rfl rfl Try.func79 (by kernel_rfl) rfl #[.slice Ao45 t275.length co45,.int .i64 1] rfl (by (try simp only [List.map_toArray,List.map_cons,List.map_nil]);first|done|rfl|(simp only [List.length_drop,List.length_take];rfl)) ?_;(with_reducible refine (spec_l09Trim.calls k1 (fun k_ => some k_ = (.slice Ao45 t275.length co45 : Value).ownBlock) (.slice Ao45 t275.length co45) t275 1 t282 w _ ?side1 ?side2 A39.out).mono ?_);(case side1 => repeat (first|(with_reducible first|exact HB.out|apply below_alloc|apply pw_below_drewN|apply below_drew1)|exact HB.out));(case side2 => exact Kd.R_tight rfl HO278.out);rintro e w46 ⟨v283,rfl,ho0,hb,hkp⟩;refine ⟨_,rfl,?_⟩;have n0_:=Aside0.mk (Kd.R_mono (ok':=fun k_ => some k_ ≠ (.slice Ao41 x6_1.length co41 : Value).ownBlock∧some k_ ≠ (v280 : Value).ownBlock∧some k_ ≠ (v283 : Value).ownBlock) (Kd.R_keptB (HO_5.out) hkp (fun k_ hk_ hs_ => (hk_.2.1) hs_)) (fun k_ hk_ => ⟨hk_.1.1,hk_.1.2.2,fun e_ => Or.elim (ho0.1 k_ e_.symm) (fun hs_ => hk_.2.1 hs_) (fun hn_ => Nat.not_le.2 hk_.2.2 hn_)⟩));have n1_:=Aside0.mk (Kd.R_mono (ok':=fun k_ => some k_ ≠ (.slice (some ⟨go7,0,none⟩) x5_1.length co7 : Value).ownBlock∧some k_ ≠ (v280 : Value).ownBlock∧some k_ ≠ (v283 : Value).ownBlock) (Kd.R_keptB (HO_6.out) hkp (fun k_ hk_ hs_ => (hk_.2.1) hs_)) (fun k_ hk_ => ⟨hk_.1.1,hk_.1.2.2,fun e_ => Or.elim (ho0.1 k_ e_.symm) (fun hs_ => hk_.2.1 hs_) (fun hn_ => Nat.not_le.2 hk_.2.2 hn_)⟩));have n2_:=Aside0.mk (Kd.R_mono (ok':=fun k_ => some k_ ≠ (.slice (some ⟨go7,0,none⟩) x5_1.length co7 : Value).ownBlock∧some k_ ≠ (.slice Ao41 x6_1.length co41 : Value).ownBlock∧some k_ ≠ (v283 : Value).ownBlock) (Kd.R_keptB (HO281.out) hkp (fun k_ hk_ hs_ => (hk_.2.2) hs_)) (fun k_ hk_ => ⟨hk_.1.1,hk_.1.2.1,fun e_ => Or.elim (ho0.1 k_ e_.symm) (fun hs_ => hk_.2.1 hs_) (fun hn_ => Nat.not_le.2 hk_.2.2 hn_)⟩));have n3_:=Aside0.mk (Kd.R_mono (ok':=fun k_ => some k_ ≠ (.slice (some ⟨go7,0,none⟩) x5_1.length co7 : Value).ownBlock∧some k_ ≠ (.slice Ao41 x6_1.length co41 : Value).ownBlock∧some k_ ≠ (v280 : Value).ownBlock) ho0 (fun k_ hk_ => ⟨Or.elim hk_ (fun hs_ => fun e_ => (((HO_5.out).1 k_ e_.symm).2.1) hs_) (fun hn_ => (Kd.fresh' (Kd.R_lt (by (with_reducible repeat (first|apply Kd.R_alloc|apply Kd.R_drewN|apply Kd.R_drew));exact HO_5.out)) k_ hn_)),Or.elim hk_ (fun hs_ => fun e_ => (((HO_6.out).1 k_ e_.symm).2.1) hs_) (fun hn_ => (Kd.fresh' (Kd.R_lt (by (with_reducible repeat (first|apply Kd.R_alloc|apply Kd.R_drewN|apply Kd.R_drew));exact HO_6.out)) k_ hn_)),Or.elim hk_ (fun hs_ => fun e_ => (((HO281.out).1 k_ e_.symm).2.2) hs_) (fun hn_ => (Kd.fresh' (Kd.R_lt (by (with_reducible repeat (first|apply Kd.R_alloc|apply Kd.R_drewN|apply Kd.R_drew));exact HO281.out)) k_ hn_))⟩));have n4_:=Aside0.mk (hb);clear HO_5;clear HO_6;clear HO281;clear HB;clear HO278;have HO_5:=n0_;have HO_6:=n1_;have HO281:=n2_;have HO284:=n3_;have HB:=n4_;clear n0_ n1_ n2_ n3_ n4_;(try clear hb);(try clear hkp);(try clear ho0)))
    go_ret3
    exact ⟨_,_,by first|rfl|(simp [errW_none,errW_some] <;> rfl)|(simp [*,errW_none,errW_some] <;> rfl),by (with_reducible repeat (first|apply Kd.R_alloc|apply Kd.R_drewN|apply Kd.R_drew));exact Kd.R_mono HO281.out (fun _ hk => hk.2.2),by (with_reducible repeat (first|apply Kd.R_alloc|apply Kd.R_drewN|apply Kd.R_drew));exact Kd.R_mono HO284.out (fun _ hk => hk.2.2),by repeat (first|(with_reducible first|exact HB.out|apply below_alloc|apply pw_below_drewN|apply below_drew1)|exact HB.out)⟩
   rw [if_pos c15] at H
   have c15b0 : decide (x7_1 < (l0.length : Int)) = true:=decide_eq_true c15
   clear c15
   by_cases c16 : 0 ≤ x7_1
   rotate_left
   ·rw [if_neg c16] at H
    exact absurd H (by simp)
   rw [if_pos c16] at H
   have c16b0 : decide (0 ≤ x7_1) = true:=decide_eq_true c16
   clear c16
   by_cases c17 : ((rd_T107 l0 x7_1).f1) = 0
   rotate_left
   ·rw [if_neg c17] at H
    have c17b0 : (((rd_T107 l0 x7_1).f1) == 0) = false:=beq_eq_false_iff_ne.mpr c17
    have c17b1 : (((rd_T107 l0 x7_1).f1) != 0) = true:=bne_iff_ne.mpr c17
    replace H:=Option.bind_eq_some_iff.mp H
    obtain ⟨⟨t260,t261,t262⟩,A230,H⟩:=H
    replace H : ((spec_DistCode.f k1 ((rd_T107 l0 x7_1).f2)).bind fun bt264 => (if 0 ≤ t260 then (if t260 < (x5_1.length : Int) then (if 0 ≤ bt264.1 then (if bt264.1 < (x6_1.length : Int) then (spec_TokenLengths.l0 k1 l0 (x5_1.set (t260 : Int).toNat (wrap64 ((rd x5_1 t260) + 1))) (x6_1.set (bt264.1 : Int).toNat (wrap64 ((rd x6_1 bt264.1) + 1))) (wrap64 (x7_1 + 1))) else (none)) else (none)) else (none)) else (none))) = some (r1,r2,r3):=H
    have A23:=Aside0.mk A230
    clear A230
    replace H:=Option.bind_eq_some_iff.mp H
    obtain ⟨⟨t264,t265,t266⟩,A240,H⟩:=H
    replace H : (if 0 ≤ t260 then (if t260 < (x5_1.length : Int) then (if 0 ≤ t264 then (if t264 < (x6_1.length : Int) then (spec_TokenLengths.l0 k1 l0 (x5_1.set (t260 : Int).toNat (wrap64 ((rd x5_1 t260) + 1))) (x6_1.set (t264 : Int).toNat (wrap64 ((rd x6_1 t264) + 1))) (wrap64 (x7_1 + 1))) else (none)) else (none)) else (none)) else (none)) = some (r1,r2,r3):=H
    have A24:=Aside0.mk A240
    clear A240
    by_cases c25 : 0 ≤ t260
    rotate_left
    ·rw [if_neg c25] at H
     exact absurd H (by simp)
    rw [if_pos c25] at H
    have c25b0 : decide (0 ≤ t260) = true:=decide_eq_true c25
    clear c25
    by_cases c26 : t260 < (x5_1.length : Int)
    rotate_left
    ·rw [if_neg c26] at H
     exact absurd H (by simp)
    rw [if_pos c26] at H
    have c26b0 : decide (t260 < (x5_1.length : Int)) = true:=decide_eq_true c26
    clear c26
    obtain ⟨y268,hy268⟩ : ∃ y_ : List Int,y_ = (x5_1.set (t260 : Int).toNat (wrap64 ((rd x5_1 t260) + 1))):=⟨_,rfl⟩
    replace H : (if 0 ≤ t264 then (if t264 < (x6_1.length : Int) then (spec_TokenLengths.l0 k1 l0 y268 (x6_1.set (t264 : Int).toNat (wrap64 ((rd x6_1 t264) + 1))) (wrap64 (x7_1 + 1))) else (none)) else (none)) = some (r1,r2,r3):=by first|(rw [hy268];with_reducible exact H)|(have H2_:=(Option.bind_some _ _).symm.trans H;rw [hy268];with_reducible exact H2_)|(have H2_:=(Option.bind_some _ _).symm.trans H;with_reducible exact H2_)|with_reducible exact H|(rw [hy268];exact H)|exact H
    have Ny268:=Aside0.mk hy268
    clear hy268
    by_cases c28 : 0 ≤ t264
    rotate_left
    ·rw [if_neg c28] at H
     exact absurd H (by simp)
    rw [if_pos c28] at H
    have c28b0 : decide (0 ≤ t264) = true:=decide_eq_true c28
    clear c28
    by_cases c29 : t264 < (x6_1.length : Int)
    rotate_left
    ·rw [if_neg c29] at H
     exact absurd H (by simp)
    rw [if_pos c29] at H
    have c29b0 : decide (t264 < (x6_1.length : Int)) = true:=decide_eq_true c29
    clear c29
    obtain ⟨y270,hy270⟩ : ∃ y_ : List Int,y_ = (x6_1.set (t264 : Int).toNat (wrap64 ((rd x6_1 t264) + 1))):=⟨_,rfl⟩
    replace H : (spec_TokenLengths.l0 k1 l0 y268 y270 (wrap64 (x7_1 + 1))) = some (r1,r2,r3):=by first|(rw [hy270];with_reducible exact H)|(have H2_:=(Option.bind_some _ _).symm.trans H;rw [hy270];with_reducible exact H2_)|(have H2_:=(Option.bind_some _ _).symm.trans H;with_reducible exact H2_)|with_reducible exact H|(rw [hy270];exact H)|exact H
    have Ny270:=Aside0.mk hy270
    clear hy270
    have H':=Aside0.mk H
    clear H
    have p254 : 0 ≤ (x7_1 : Int):=of_decide_eq_true (by assumption)
    have q254 : x7_1 < (l0.length : Int):=of_decide_eq_true (by assumption)
    obtain ⟨ad254,e254,hx254_0,hx254_1,hx254_2⟩:=at_T107 HR0.out x7_1 p254 q254
    cases e254
    replace hx254_0:=(HB.out.cell (World.block_lt_of_cell? w _ hx254_0)).trans hx254_0
    replace hx254_1:=(HB.out.cell (World.block_lt_of_cell? w _ hx254_1)).trans hx254_1
    replace hx254_2:=(HB.out.cell (World.block_lt_of_cell? w _ hx254_2)).trans hx254_2
    replace p254:=eq_true p254
    replace q254:=eq_true q254
    have p259 : 0 ≤ (x7_1 : Int):=of_decide_eq_true (by assumption)
    have q259 : x7_1 < (l0.length : Int):=of_decide_eq_true (by assumption)
    obtain ⟨ad259,e259,hx259_0,hx259_1,hx259_2⟩:=at_T107 HR0.out x7_1 p259 q259
    obtain rfl : ad254 = ad259:=(by injection e259)
    replace hx259_0:=(HB.out.cell (World.block_lt_of_cell? w _ hx259_0)).trans hx259_0
    replace hx259_1:=(HB.out.cell (World.block_lt_of_cell? w _ hx259_1)).trans hx259_1
    replace hx259_2:=(HB.out.cell (World.block_lt_of_cell? w _ hx259_2)).trans hx259_2
    replace p259:=eq_true p259
    replace q259:=eq_true q259
    go_wp2_with (first|((with_reducible refine gate_callee (f:=77) rfl ?_);refine goesL_ (some 61) rfl rfl Try.func77 (by kernel_rfl) rfl #[.int .i64 ((rd_T107 l0 x7_1).f1)] rfl (by (try simp only [List.map_toArray,List.map_cons,List.map_nil]);first|done|rfl|(simp only [List.length_drop,List.length_take];rfl)) ?_;(with_reducible refine (spec_LengthCode.calls k1 ((rd_T107 l0 x7_1).f1) t260 t261 t262 _ A23.out).mono ?_);rintro e w' ⟨rfl,⟨nd,rfl⟩⟩;refine ⟨_,rfl,?_⟩;(try (rw [drewN_self wr];generalize hq_ : World.drewN wr _ = wr;have n0_ : Aside0 (Kd.R (Kd.int .i64) 3 wr w.heap.size (fun k_ => some k_ ≠ (v251 : Value).ownBlock) (.slice (some ⟨go7,0,none⟩) x5_1.length co7) x5_1):=⟨by rw [← hq_];exact (by (with_reducible repeat (first|apply Kd.R_alloc|apply Kd.R_drewN|apply Kd.R_drew));exact HO_5.out)⟩;have n1_ : Aside0 (Kd.R (Kd.int .i64) 3 wr w.heap.size (fun k_ => some k_ ≠ (.slice (some ⟨go7,0,none⟩) x5_1.length co7 : Value).ownBlock) v251 x6_1):=⟨by rw [← hq_];exact (by (with_reducible repeat (first|apply Kd.R_alloc|apply Kd.R_drewN|apply Kd.R_drew));exact HO_6.out)⟩;have n2_ : Aside0 (Below w.heap.size w wr):=⟨by rw [← hq_];exact (by repeat (first|(with_reducible first|exact HB.out|apply below_alloc|apply pw_below_drewN|apply below_drew1)|exact HB.out))⟩;clear HO_5 HO_6 HB hq_;have HO_5:=n0_;have HO_6:=n1_;have HB:=n2_;clear n0_ n1_ n2_));have p263 : 0 ≤ (x7_1 : Int):=of_decide_eq_true (by assumption);have q263 : x7_1 < (l0.length : Int):=of_decide_eq_true (by assumption);obtain ⟨ad263,e263,hx263_0,hx263_1,hx263_2⟩:=at_T107 HR0.out x7_1 p263 q263;obtain rfl : ad254 = ad263:=(by injection e263);replace hx263_0:=(HB.out.cell (World.block_lt_of_cell? w _ hx263_0)).trans hx263_0;replace hx263_1:=(HB.out.cell (World.block_lt_of_cell? w _ hx263_1)).trans hx263_1;replace hx263_2:=(HB.out.cell (World.block_lt_of_cell? w _ hx263_2)).trans hx263_2;replace p263:=eq_true p263;replace q263:=eq_true q263)|((with_reducible refine gate_callee (f:=78) rfl ?_);refine goesL_ (some 71) rfl rfl Try.func78 (by kernel_rfl) rfl #[.int .i64 ((rd_T107 l0 x7_1).f2)] rfl (by (try simp only [List.map_toArray,List.map_cons,List.map_nil]);first|done|rfl|(simp only [List.length_drop,List.length_take];rfl)) ?_;(with_reducible refine (spec_DistCode.calls k1 ((rd_T107 l0 x7_1).f2) t264 t265 t266 _ A24.out).mono ?_);rintro e w' ⟨rfl,⟨nd,rfl⟩⟩;refine ⟨_,rfl,?_⟩;(try (rw [drewN_self wr];generalize hq_ : World.drewN wr _ = wr;have n0_ : Aside0 (Kd.R (Kd.int .i64) 3 wr w.heap.size (fun k_ => some k_ ≠ (v251 : Value).ownBlock) (.slice (some ⟨go7,0,none⟩) x5_1.length co7) x5_1):=⟨by rw [← hq_];exact (by (with_reducible repeat (first|apply Kd.R_alloc|apply Kd.R_drewN|apply Kd.R_drew));exact HO_5.out)⟩;have n1_ : Aside0 (Kd.R (Kd.int .i64) 3 wr w.heap.size (fun k_ => some k_ ≠ (.slice (some ⟨go7,0,none⟩) x5_1.length co7 : Value).ownBlock) v251 x6_1):=⟨by rw [← hq_];exact (by (with_reducible repeat (first|apply Kd.R_alloc|apply Kd.R_drewN|apply Kd.R_drew));exact HO_6.out)⟩;have n2_ : Aside0 (Below w.heap.size w wr):=⟨by rw [← hq_];exact (by repeat (first|(with_reducible first|exact HB.out|apply below_alloc|apply pw_below_drewN|apply below_drew1)|exact HB.out))⟩;clear HO_5 HO_6 HB hq_;have HO_5:=n0_;have HO_6:=n1_;have HB:=n2_;clear n0_ n1_ n2_));have p267 : 0 ≤ (t260 : Int):=of_decide_eq_true (by assumption);have q267 : t260 < (x5_1.length : Int):=of_decide_eq_true (by assumption);obtain ⟨ad267,e267,hx267_0⟩:=Kd.at_int (Kd.R_reads' HO_5.out).2.2 t260 p267 q267;obtain rfl : (⟨go7,0,none⟩ : Addr) = ad267:=(by injection e267);(first|simp only [add_plain] at hx267_0|simp only [add_at] at hx267_0|simp only [Addr.add,Nat.zero_add] at hx267_0|skip);replace p267:=eq_true p267;replace q267:=eq_true q267;have p27 : 0 ≤ (t260 : Int):=of_decide_eq_true (by assumption);have q27 : (t260 : Int) < ((x5_1.length : Int) : Int):=of_decide_eq_true (by assumption);obtain ⟨hx27_0,hf27_0⟩:=Kd.R_celln 0 HO_5.out (t260 : Int) p27 q27;replace p27:=eq_true p27;replace q27:=eq_true q27;obtain ⟨hy31_,hz31_⟩:=Kd.R_celln 0 HO_5.out (t260 : Int) (of_decide_eq_true (by assumption)) (of_decide_eq_true (by assumption));have HP31:=Kd.R_putg HO_5.out (t260 : Int) (wrap64 ((rd x5_1 t260) + 1)))|((with_reducible refine gate_store (t:=3) (p:=82) rfl ?_);refine store_event (t:=3) (p:=82) (v:=?vo_w32) (w1:=(wr.setCell ⟨go7,(t260 : Int).toNat,none⟩ (.int .i64 (wrap64 ((rd x5_1 t260) + 1))))) ?hg ?ho ?hn ?hr ?_;(case ho => rfl);(case hg => rfl);(case hn => rfl);(case hr => first|(go_simp;done)|(go_simp;rfl));intro w32 hw;have hg : wr.grownBy w32 (some go7):=(by rw [hw];exact HP31.2);have hp_ : Kd.R (Kd.int .i64) 3 w32 w.heap.size (fun k_ => some k_ ≠ (v251 : Value).ownBlock) (.slice (some ⟨go7,0,none⟩) x5_1.length co7) y268:=(by rw [hw,Ny268.out];exact HP31.1);clear HP31;have n0_:=Aside0.mk (hp_);have n1_:=Aside0.mk (Kd.R_after (v:=(.slice (some ⟨go7,0,none⟩) x5_1.length co7)) (v1:=(.slice (some ⟨go7,0,none⟩) x5_1.length co7)) (ok:=(fun _ => True)) (by (with_reducible repeat (first|apply Kd.R_alloc|apply Kd.R_drewN|apply Kd.R_drew));exact Kd.R_mono HO_6.out (fun _ hk => ⟨trivial,hk⟩)) hg (.inl rfl));have n2_:=Aside0.mk ((by rw [hw];exact below_set (HB.out) GB7.out : Below w.heap.size w w32));clear HO_5;clear HO_6;clear HB;have HO_5:=n0_;have HO_6:=n1_;have HB:=n2_;clear n0_ n1_ n2_;clear hg hw hp_;obtain ⟨Ao33,co33,eo33⟩:=Kd.R_slice HO_6.out;subst eo33;have p269 : 0 ≤ (t264 : Int):=of_decide_eq_true (by assumption);have q269 : t264 < (x6_1.length : Int):=of_decide_eq_true (by assumption);obtain ⟨ad269,e269,hx269_0⟩:=Kd.at_int (Kd.R_reads' HO_6.out).2.2 t264 p269 q269;cases e269;replace p269:=eq_true p269;replace q269:=eq_true q269;have p30 : 0 ≤ (t264 : Int):=of_decide_eq_true (by assumption);have q30 : (t264 : Int) < ((x6_1.length : Int) : Int):=of_decide_eq_true (by assumption);obtain ⟨go30,co30,eo30,gb30,gl30,cl30,HG30⟩:=Kd.R_form HO_6.out (by omega);(first|cases eo30|(injection eo30 with ea_ en_ ec_;(first|subst ea_|(injection ea_ with ea_;subst ea_));subst ec_;clear en_));have GB30:=Aside0.mk gb30;have GG30:=Aside0.mk HG30;clear gb30 gl30 HG30;(first|simp only [add_plain] at hx269_0|skip);obtain ⟨hx30_0,hf30_0⟩:=Kd.R_celln 0 HO_6.out (t264 : Int) p30 q30;replace p30:=eq_true p30;replace q30:=eq_true q30;have n_:=Aside0.mk (Kd.R_mono (ok':=(fun k_ => some k_ ≠ (.slice (some ⟨go7,0,none⟩) x5_1.length co7 : Value).ownBlock)) HO_6.out (fun k_ hk => hk.2));clear HO_6;have HO_6:=n_;clear n_;obtain ⟨hy34_,hz34_⟩:=Kd.R_celln 0 HO_6.out (t264 : Int) (of_decide_eq_true (by assumption)) (of_decide_eq_true (by assumption));have HP34:=Kd.R_putg HO_6.out (t264 : Int) (wrap64 ((rd x6_1 t264) + 1)))|((with_reducible refine gate_store (t:=3) (p:=90) rfl ?_);refine store_event (t:=3) (p:=90) (v:=?vo_w35) (w1:=(w32.setCell ⟨go30,(t264 : Int).toNat,none⟩ (.int .i64 (wrap64 ((rd x6_1 t264) + 1))))) ?hg ?ho ?hn ?hr ?_;(case ho => rfl);(case hg => rfl);(case hn => rfl);(case hr => first|(go_simp;done)|(go_simp;rfl));intro w35 hw;have hg : w32.grownBy w35 (some go30):=(by rw [hw];exact HP34.2);have hp_ : Kd.R (Kd.int .i64) 3 w35 w.heap.size (fun k_ => some k_ ≠ (.slice (some ⟨go7,0,none⟩) x5_1.length co7 : Value).ownBlock) (.slice (some ⟨go30,0,none⟩) x6_1.length co33) y270:=(by rw [hw,Ny270.out];exact HP34.1);clear HP34;have n0_:=Aside0.mk (Kd.R_after (v:=(.slice (some ⟨go30,0,none⟩) x6_1.length co33)) (v1:=(.slice (some ⟨go30,0,none⟩) x6_1.length co33)) (ok:=(fun _ => True)) (by (with_reducible repeat (first|apply Kd.R_alloc|apply Kd.R_drewN|apply Kd.R_drew));exact Kd.R_mono HO_5.out (fun _ hk => ⟨trivial,hk⟩)) hg (.inl rfl));have n1_:=Aside0.mk (hp_);have n2_:=Aside0.mk ((by rw [hw];exact below_set (HB.out) GB30.out : Below w.heap.size w w35));clear HO_5;clear HO_6;clear HB;have HO_5:=n0_;have HO_6:=n1_;have HB:=n2_;clear n0_ n1_ n2_;clear hg hw hp_))
    (try simp only [← hl5_1])
    go_roundg k1
    case measure => have:=HK1.out;omega
    case rel => exact ⟨(y268),(y270),(wrap64 (x7_1 + 1)),(by first|rfl|(simp;done)|(simp [*];done)),H',⟨by have:=HK1.out;omega⟩,⟨by (try simp only [hl5_1]);(with_reducible repeat (first|apply Kd.R_alloc|apply Kd.R_drewN|apply Kd.R_drew));exact Kd.R_mono HO_5.out (fun _ hk => hk.2)⟩,⟨by (try simp only [hl5_1]);(with_reducible repeat (first|apply Kd.R_alloc|apply Kd.R_drewN|apply Kd.R_drew));exact HO_6.out⟩,⟨by repeat (first|(with_reducible first|exact HB.out|apply below_alloc|apply pw_below_drewN|apply below_drew1)|exact HB.out)⟩⟩
   rw [if_pos c17] at H
   have c17b0 : (((rd_T107 l0 x7_1).f1) == 0) = true:=beq_iff_eq.mpr c17
   have c17b1 : (((rd_T107 l0 x7_1).f1) != 0) = false:=bne_eq_false_iff_eq.mpr c17
   clear c17
   by_cases c18 : 0 ≤ ((rd_T107 l0 x7_1).f0)
   rotate_left
   ·rw [if_neg c18] at H
    exact absurd H (by simp)
   rw [if_pos c18] at H
   have c18b0 : decide (0 ≤ ((rd_T107 l0 x7_1).f0)) = true:=decide_eq_true c18
   clear c18
   by_cases c19 : ((rd_T107 l0 x7_1).f0) < (x5_1.length : Int)
   rotate_left
   ·rw [if_neg c19] at H
    exact absurd H (by simp)
   rw [if_pos c19] at H
   have c19b0 : decide (((rd_T107 l0 x7_1).f0) < (x5_1.length : Int)) = true:=decide_eq_true c19
   clear c19
   obtain ⟨y258,hy258⟩ : ∃ y_ : List Int,y_ = (x5_1.set (((rd_T107 l0 x7_1).f0) : Int).toNat (wrap64 ((rd x5_1 ((rd_T107 l0 x7_1).f0)) + 1))):=⟨_,rfl⟩
   replace H : (spec_TokenLengths.l0 k1 l0 y258 x6_1 (wrap64 (x7_1 + 1))) = some (r1,r2,r3):=by first|(rw [hy258];with_reducible exact H)|(have H2_:=(Option.bind_some _ _).symm.trans H;rw [hy258];with_reducible exact H2_)|(have H2_:=(Option.bind_some _ _).symm.trans H;with_reducible exact H2_)|with_reducible exact H|(rw [hy258];exact H)|exact H
   have Ny258:=Aside0.mk hy258
   clear hy258
   have H':=Aside0.mk H
   clear H
   have p254 : 0 ≤ (x7_1 : Int):=of_decide_eq_true (by assumption)
   have q254 : x7_1 < (l0.length : Int):=of_decide_eq_true (by assumption)
   obtain ⟨ad254,e254,hx254_0,hx254_1,hx254_2⟩:=at_T107 HR0.out x7_1 p254 q254
   cases e254
   replace hx254_0:=(HB.out.cell (World.block_lt_of_cell? w _ hx254_0)).trans hx254_0
   replace hx254_1:=(HB.out.cell (World.block_lt_of_cell? w _ hx254_1)).trans hx254_1
   replace hx254_2:=(HB.out.cell (World.block_lt_of_cell? w _ hx254_2)).trans hx254_2
   replace p254:=eq_true p254
   replace q254:=eq_true q254
   try go_wp2
   have n0_:=Aside0.mk (Kd.R_drew HO_5.out)
   have n1_:=Aside0.mk (Kd.R_drew HO_6.out)
   have n2_:=Aside0.mk (below_drew1 HB.out)
   clear HO_5
   clear HO_6
   clear HB
   have HO_5:=n0_
   have HO_6:=n1_
   have HB:=n2_
   clear n0_ n1_ n2_
   have p255 : 0 ≤ (x7_1 : Int):=of_decide_eq_true (by assumption)
   have q255 : x7_1 < (l0.length : Int):=of_decide_eq_true (by assumption)
   obtain ⟨ad255,e255,hx255_0,hx255_1,hx255_2⟩:=at_T107 HR0.out x7_1 p255 q255
   have hw255_2:=hx255_2
   have hw255_1:=hx255_1
   have hw255_0:=hx255_0
   obtain rfl : ad254 = ad255:=(by injection e255)
   replace hx255_0:=(HB.out.cell (World.block_lt_of_cell? w _ hx255_0)).trans hx255_0
   replace hx255_1:=(HB.out.cell (World.block_lt_of_cell? w _ hx255_1)).trans hx255_1
   replace hx255_2:=(HB.out.cell (World.block_lt_of_cell? w _ hx255_2)).trans hx255_2
   replace p255:=eq_true p255
   replace q255:=eq_true q255
   have p256 : 0 ≤ (x7_1 : Int):=of_decide_eq_true (by assumption)
   have q256 : x7_1 < (l0.length : Int):=of_decide_eq_true (by assumption)
   obtain ⟨ad256,e256,hx256_0,hx256_1,hx256_2⟩:=at_T107 HR0.out x7_1 p256 q256
   have hw256_2:=hx256_2
   have hw256_1:=hx256_1
   have hw256_0:=hx256_0
   obtain rfl : ad254 = ad256:=(by injection e256)
   replace hx256_0:=(HB.out.cell (World.block_lt_of_cell? w _ hx256_0)).trans hx256_0
   replace hx256_1:=(HB.out.cell (World.block_lt_of_cell? w _ hx256_1)).trans hx256_1
   replace hx256_2:=(HB.out.cell (World.block_lt_of_cell? w _ hx256_2)).trans hx256_2
   replace p256:=eq_true p256
   replace q256:=eq_true q256
   have p257 : 0 ≤ (((rd_T107 l0 x7_1).f0) : Int):=of_decide_eq_true (by assumption)
   have q257 : ((rd_T107 l0 x7_1).f0) < (x5_1.length : Int):=of_decide_eq_true (by assumption)
   obtain ⟨ad257,e257,hx257_0⟩:=Kd.at_int (Kd.R_reads' HO_5.out).2.2 ((rd_T107 l0 x7_1).f0) p257 q257
   obtain rfl : (⟨go7,0,none⟩ : Addr) = ad257:=(by injection e257)
   (first|simp only [add_plain] at hx257_0|simp only [add_at] at hx257_0|simp only [Addr.add,Nat.zero_add] at hx257_0|skip)
   replace p257:=eq_true p257
   replace q257:=eq_true q257
   have p20 : 0 ≤ (((rd_T107 l0 x7_1).f0) : Int):=of_decide_eq_true (by assumption)
   have q20 : (((rd_T107 l0 x7_1).f0) : Int) < ((x5_1.length : Int) : Int):=of_decide_eq_true (by assumption)
   obtain ⟨hx20_0,hf20_0⟩:=Kd.R_celln 0 HO_5.out (((rd_T107 l0 x7_1).f0) : Int) p20 q20
   replace p20:=eq_true p20
   replace q20:=eq_true q20
   have HP22:=Kd.R_putn HO_5.out (((rd_T107 l0 x7_1).f0) : Int) (wrap64 ((rd x5_1 ((rd_T107 l0 x7_1).f0)) + 1))
   rw [← Ny258.out] at HP22
   have HQ22:=Aside0.mk HP22
   clear HP22
   refine start_ (n:=17) (S:=fun w' => w'.cell? (ad254.add ((x7_1).toNat * 3)) = some (.int .i64 ((rd_T107 l0 x7_1).f0))∧w'.cell? ⟨(ad254.add ((x7_1).toNat * 3)).block,(ad254.add ((x7_1).toNat * 3)).off + 1,none⟩ = some (.int .i64 ((rd_T107 l0 x7_1).f1))∧w'.cell? ⟨(ad254.add ((x7_1).toNat * 3)).block,(ad254.add ((x7_1).toNat * 3)).off + 2,none⟩ = some (.int .i64 ((rd_T107 l0 x7_1).f2))∧w'.cell? (ad254.add ((x7_1).toNat * 3)) = some (.int .i64 ((rd_T107 l0 x7_1).f0))∧w'.cell? ⟨(ad254.add ((x7_1).toNat * 3)).block,(ad254.add ((x7_1).toNat * 3)).off + 1,none⟩ = some (.int .i64 ((rd_T107 l0 x7_1).f1))∧w'.cell? ⟨(ad254.add ((x7_1).toNat * 3)).block,(ad254.add ((x7_1).toNat * 3)).off + 2,none⟩ = some (.int .i64 ((rd_T107 l0 x7_1).f2))∧w'.cell? ⟨go7,(((rd_T107 l0 x7_1).f0)).toNat,none⟩ = some (.int .i64 (rd x5_1 ((rd_T107 l0 x7_1).f0)))) (ds:=[16]) #[Z,Z,Z,Z,Z,Z,Z,Z,Z,Z,Z,Z,Z,Z,Z,Z,Z] (by kernel_rfl) rfl rfl ⟨((HB.out.cell (World.block_lt_of_cell? w _ hw255_0)).trans hw255_0),((HB.out.cell (World.block_lt_of_cell? w _ hw255_1)).trans hw255_1),((HB.out.cell (World.block_lt_of_cell? w _ hw255_2)).trans hw255_2),((HB.out.cell (World.block_lt_of_cell? w _ hw256_0)).trans hw256_0),((HB.out.cell (World.block_lt_of_cell? w _ hw256_1)).trans hw256_1),((HB.out.cell (World.block_lt_of_cell? w _ hw256_2)).trans hw256_2),hx257_0⟩ (fun hHeld => ?_);refine with_tabW spec_TokenLengths.tab10 spec_TokenLengths.bits10 (fun HT_ HW_ => ?_)
   generalize wr.drew = w21 at HO_5 HO_6 HB HQ22 hf20_0 hx20_0 hx255_0 hx255_1 hx255_2 hx256_0 hx256_1 hx256_2 hx257_0 hHeld ⊢
   refine pure_ (i:=0) (N:=some 39) (v:=?_) (a':=?_) #[Y,Z,Z,Z,Z,Z,Z,Z,Z,Z,Z,Z,Z,Z,Z,Z,Z] rfl rfl (any_of HT_.out (by kernel_rfl)) (fun _ _ _ h => h) (Or.inl ⟨by rfl,?_⟩) ?_ ?_
   rotate_left
   ·intro w'
    go_simp
    with_reducible rfl
   rotate_left
   ·simp only [sPu,sIa,sCz,sCs,i64_w,i32_w]
    rfl
   refine pure_ (i:=1) (N:=some 40) (v:=?_) (a':=?_) #[Y,Y,Z,Z,Z,Z,Z,Z,Z,Z,Z,Z,Z,Z,Z,Z,Z] rfl rfl (any_of HT_.out (by kernel_rfl)) (fun _ _ _ h => h) (Or.inl ⟨by rfl,?_⟩) ?_ ?_
   rotate_left
   ·intro w'
    go_simp
    with_reducible rfl
   rotate_left
   ·simp only [sPu,sIa,sCz,sCs,i64_w,i32_w]
    rfl
   refine pure_ (i:=2) (N:=some 41) (v:=?_) (a':=?_) #[Y,Y,Y,Z,Z,Z,Z,Z,Z,Z,Z,Z,Z,Z,Z,Z,Z] rfl rfl (any_of HT_.out (by kernel_rfl)) (fun _ _ _ h => h) (Or.inl ⟨by rfl,?_⟩) ?_ ?_
   rotate_left
   ·intro w'
    go_simp
    with_reducible rfl
   rotate_left
   ·simp only [sPu,sIa,sCz,sCs,i64_w,i32_w]
    rfl
   refine pure_ (i:=3) (N:=some 42) (v:=?_) (a':=?_) #[Y,Y,Y,Y,Z,Z,Z,Z,Z,Z,Z,Z,Z,Z,Z,Z,Z] rfl rfl (any_of HT_.out (by kernel_rfl)) (fun _ _ _ h => h) (Or.inl ⟨by rfl,?_⟩) ?_ ?_
   rotate_left
   ·intro w'
    go_simp
    with_reducible rfl
   rotate_left
   ·simp only [sPu,sIa,sCz,sCs,i64_w,i32_w]
    rfl
   refine pure_ (i:=4) (N:=some 43) (v:=?_) (a':=?_) #[Y,Y,Y,Y,Y,Z,Z,Z,Z,Z,Z,Z,Z,Z,Z,Z,Z] rfl rfl (any_of HT_.out (by kernel_rfl)) (fun _ _ _ h => h) (Or.inl ⟨by rfl,?_⟩) ?_ ?_
   rotate_left
   ·intro w'
    go_simp
    with_reducible rfl
   rotate_left
   ·simp only [sPu,sIa,sCz,sCs,i64_w,i32_w]
    rfl
   refine pure_ (i:=6) (N:=some 45) (v:=?_) (a':=?_) #[Y,Y,Y,Y,Y,Z,Y,Z,Z,Z,Z,Z,Z,Z,Z,Z,Z] rfl rfl (any_of HT_.out (by kernel_rfl)) (fun _ _ _ h => h) (Or.inl ⟨by rfl,?_⟩) ?_ ?_
   rotate_left
   ·intro w'
    go_simp
    with_reducible rfl
   rotate_left
   ·simp only [sPu,sIa,sCz,sCs,i64_w,i32_w]
    rfl
   refine pure_ (i:=7) (N:=some 46) (v:=?_) (a':=?_) #[Y,Y,Y,Y,Y,Z,Y,Y,Z,Z,Z,Z,Z,Z,Z,Z,Z] rfl rfl (any_of HT_.out (by kernel_rfl)) (fun _ _ _ h => h) (Or.inl ⟨by rfl,?_⟩) ?_ ?_
   rotate_left
   ·intro w'
    go_simp
    with_reducible rfl
   rotate_left
   ·simp only [sPu,sIa,sCz,sCs,i64_w,i32_w]
    rfl
   refine pure_ (i:=8) (N:=some 47) (v:=?_) (a':=?_) #[Y,Y,Y,Y,Y,Z,Y,Y,Y,Z,Z,Z,Z,Z,Z,Z,Z] rfl rfl (any_of HT_.out (by kernel_rfl)) (fun _ _ _ h => h) (Or.inl ⟨by rfl,?_⟩) ?_ ?_
   rotate_left
   ·intro w'
    go_simp
    with_reducible rfl
   rotate_left
   ·simp only [sPu,sIa,sCz,sCs,i64_w,i32_w]
    rfl
   refine pure_ (i:=9) (N:=some 48) (v:=?_) (a':=?_) #[Y,Y,Y,Y,Y,Z,Y,Y,Y,Y,Z,Z,Z,Z,Z,Z,Z] rfl rfl (any_of HT_.out (by kernel_rfl)) (fun _ _ _ h => h) (Or.inl ⟨by rfl,?_⟩) ?_ ?_
   rotate_left
   ·intro w'
    go_simp
    with_reducible rfl
   rotate_left
   ·simp only [sPu,sIa,sCz,sCs,i64_w,i32_w]
    rfl
   refine pure_ (i:=10) (N:=some 49) (v:=?_) (a':=?_) #[Y,Y,Y,Y,Y,Z,Y,Y,Y,Y,Y,Z,Z,Z,Z,Z,Z] rfl rfl (any_of HT_.out (by kernel_rfl)) (fun _ _ _ h => h) (Or.inl ⟨by rfl,?_⟩) ?_ ?_
   rotate_left
   ·intro w'
    go_simp
    with_reducible rfl
   rotate_left
   ·simp only [sPu,sIa,sCz,sCs,i64_w,i32_w]
    rfl
   refine take_ (i:=5) (N:=some 44) (v:=?_) (a':=?_) #[Y,Y,Y,Y,Y,Y,Y,Y,Y,Y,Y,Z,Z,Z,Z,Z,Z] rfl rfl (take_ofW HT_.out HW_.out (by kernel_rfl)) (fun _ _ _ h => h) (Or.inl ⟨by rfl,?_⟩) hHeld ?_ ?_
   rotate_left
   ·rintro w' ⟨s0,s1,s2,s3,s4,s5,s6⟩
    go_simp
    with_reducible rfl
   rotate_left
   ·simp only [sPu,sIa,sCz,sCs,i64_w,i32_w]
    rfl
   refine take_ (i:=11) (N:=some 50) (v:=?_) (a':=?_) #[Y,Y,Y,Y,Y,Y,Y,Y,Y,Y,Y,Y,Z,Z,Z,Z,Z] rfl rfl (take_ofW HT_.out HW_.out (by kernel_rfl)) (fun _ _ _ h => h) (Or.inl ⟨by rfl,?_⟩) hHeld ?_ ?_
   rotate_left
   ·rintro w' ⟨s0,s1,s2,s3,s4,s5,s6⟩
    go_simp
    with_reducible rfl
   rotate_left
   ·simp only [sPu,sIa,sCz,sCs,i64_w,i32_w]
    rfl
   refine pure_ (i:=12) (N:=some 51) (v:=?_) (a':=?_) #[Y,Y,Y,Y,Y,Y,Y,Y,Y,Y,Y,Y,Y,Z,Z,Z,Z] rfl rfl (any_of HT_.out (by kernel_rfl)) (fun _ _ _ h => h) (Or.inl ⟨by rfl,?_⟩) ?_ ?_
   rotate_left
   ·intro w'
    go_simp
    with_reducible rfl
   rotate_left
   ·simp only [sPu,sIa,sCz,sCs,i64_w,i32_w]
    rfl
   refine take_ (i:=13) (N:=some 52) (v:=?_) (a':=?_) #[Y,Y,Y,Y,Y,Y,Y,Y,Y,Y,Y,Y,Y,Y,Z,Z,Z] rfl rfl (take_ofW HT_.out HW_.out (by kernel_rfl)) (fun _ _ _ h => h) (Or.inl ⟨by rfl,?_⟩) hHeld ?_ ?_
   rotate_left
   ·rintro w' ⟨s0,s1,s2,s3,s4,s5,s6⟩
    go_simp
    with_reducible rfl
   rotate_left
   ·simp only [sPu,sIa,sCz,sCs,i64_w,i32_w]
    rfl
   refine pure_ (i:=14) (N:=some 53) (v:=?_) (a':=?_) #[Y,Y,Y,Y,Y,Y,Y,Y,Y,Y,Y,Y,Y,Y,Y,Z,Z] rfl rfl (any_of HT_.out (by kernel_rfl)) (fun _ _ _ h => h) (Or.inl ⟨by rfl,?_⟩) ?_ ?_
   rotate_left
   ·intro w'
    go_simp
    with_reducible rfl
   rotate_left
   ·simp only [sPu,sIa,sCz,sCs,i64_w,i32_w]
    rfl
   refine pure_ (i:=15) (N:=some 54) (v:=?_) (a':=?_) #[Y,Y,Y,Y,Y,Y,Y,Y,Y,Y,Y,Y,Y,Y,Y,Y,Z] rfl rfl (any_of HT_.out (by kernel_rfl)) (fun _ _ _ h => h) (Or.inl ⟨by rfl,?_⟩) ?_ ?_
   rotate_left
   ·intro w'
    go_simp
    with_reducible rfl
   rotate_left
   ·simp only [sPu,sIa,sCz,sCs,i64_w,i32_w]
    rfl
   refine last_ (i:=16) (N:=none) #[Y,Y,Y,Y,Y,Y,Y,Y,Y,Y,Y,Y,Y,Y,Y,Y,Y] rfl rfl (one_of HT_.out (by kernel_rfl)) (by decide) (fun K hK => ?_)
   refine skip_ (w1:=?_) (by rfl) rfl ?_ ?_
   rotate_left
   ·go_simp
    rfl
   refine hK.out _ _ ?_
   clear hK K
   refine done_ (done_of HT_.out (by kernel_rfl)) ?_
   try go_wp2
   (try simp only [← hl5_1])
   go_roundg k1
   case measure => have:=HK1.out;omega
   case rel => exact ⟨(y258),(x6_1),(wrap64 (x7_1 + 1)),(by first|rfl|(simp;done)|(simp [*];done)),H',⟨by have:=HK1.out;omega⟩,⟨by (try simp only [hl5_1]);(with_reducible repeat (first|apply Kd.R_alloc|apply Kd.R_drewN|apply Kd.R_drew));exact HQ22.out⟩,⟨by (try simp only [hl5_1]);(with_reducible repeat (first|apply Kd.R_alloc|apply Kd.R_drewN|apply Kd.R_drew));exact Kd.R_mono (Kd.R_far (p:=⟨go7,(((rd_T107 l0 x7_1).f0) : Int).toNat,none⟩) (Kd.R_mono HO_6.out (fun k_ hk => (⟨hk,fun e_ => hk (by rw [e_];rfl)⟩ : _∧k_ ≠ go7))) (fun _ hk => hk.2) (.int .i64 (wrap64 ((rd x5_1 ((rd_T107 l0 x7_1).f0)) + 1)))) (fun _ hk => hk.1)⟩,⟨by repeat (first|(with_reducible first|exact HB.out|apply below_alloc|apply pw_below_drewN|apply below_drew1|refine below_set ?_ GB7.out)|exact HB.out)⟩⟩
/-! ### laws_toToken: function 80 -/
def laws_toToken.f (a0_0 : Int) (a0_1 : Int) (a0_2 : Int) : Option (Int × Int × Int) := some (a0_0, a0_1, a0_2)
set_option maxHeartbeats 8000000 in
set_option maxRecDepth 100000 in
theorem laws_toToken.calls (a0_0 : Int) (a0_1 : Int) (a0_2 : Int) (r1 : Int) (r2 : Int) (r3 : Int) (w : World) (h : laws_toToken.f a0_0 a0_1 a0_2 = some (r1, r2, r3)) :
    Calls Try.prog 80 #[.agg #[.int .i64 a0_0, .int .i64 a0_1, .int .i64 a0_2]] w fun e w' => e = .returned (.agg #[.int .i64 r1, .int .i64 r2, .int .i64 r3]) ∧ Below w.heap.size w w' := by
 have hu112:=Try.underlying112
 have hu107:=Try.underlying107
 have HB:=Aside0.mk (Below.refl w.heap.size w)
 have H : (some (a0_0,a0_1,a0_2)) = some (r1,r2,r3):=h
 clear h
 simp only [Option.some.injEq,Prod.mk.injEq] at H
 obtain ⟨rfl,rfl,rfl⟩:=H
 go_enter Try.func80,Try.ntmps80
 go_wp2_with (first|((with_reducible refine gate_dst (N:=1) rfl ?_);refine box_event ?hg (N:=1) ?hd (cs:=#[.int .i64 a0_0,.int .i64 a0_1,.int .i64 a0_2]) (t:=112) ?hr ?_;(case hd => rfl);(case hg => rfl);(case hr => first|(go_simp;done)|(go_simp;rfl));intro gb285 hg w2 hbox hb;have n0_:=Aside0.mk (below_step (by repeat (first|(with_reducible first|exact HB.out|apply below_alloc|apply pw_below_drewN|apply below_drew1)|exact HB.out)) hb);have n1_:=Aside0.mk (hbox);have n2_:=Aside0.mk ((by rw [hg];exact (below_size (by repeat (first|(with_reducible first|exact HB.out|apply below_alloc|apply pw_below_drewN|apply below_drew1)|exact HB.out))) : w.heap.size ≤ gb285));have n3_:=Aside0.mk ((by rw [hg];exact (below_size (by repeat (first|(with_reducible first|exact HB.out|apply below_alloc|apply pw_below_drewN|apply below_drew1)|exact HB.out))) : w.heap.size ≤ gb285));clear HB;have HB:=n0_;have BK285:=n1_;have GW285:=n2_;have GE285:=n3_;clear n0_ n1_ n2_ n3_;clear hb hbox hg)|((with_reducible refine gate_dst (N:=2) rfl ?_);refine box_event ?hg (N:=2) ?hd (cs:=#[.int .i64 0,.int .i64 0,.int .i64 0]) (t:=107) ?hr ?_;(case hd => rfl);(case hg => rfl);(case hr => first|(go_simp;done)|(go_simp;rfl));intro gb286 hg w3 hbox hb;have n0_:=Aside0.mk (blk_below (g:=gb285) (o:=.cells #[.int .i64 a0_0,.int .i64 a0_1,.int .i64 a0_2] 112 (0,0)) (by (with_reducible repeat (first|refine blk_drewN ?_ _|refine blk_drew ?_|refine blk_alloc ?_ _));exact BK285.out) hb);have n1_:=Aside0.mk (below_step (by repeat (first|(with_reducible first|exact HB.out|apply below_alloc|apply pw_below_drewN|apply below_drew1|refine below_set ?_ GE285.out)|exact HB.out)) hb);have n2_:=Aside0.mk (hbox);have n3_:=Aside0.mk ((by rw [hg];exact (below_size (by repeat (first|(with_reducible first|exact HB.out|apply below_alloc|apply pw_below_drewN|apply below_drew1|refine below_set ?_ GE285.out)|exact HB.out))) : w.heap.size ≤ gb286));have n4_:=Aside0.mk ((by rw [hg];exact (below_size (by repeat (first|(with_reducible first|exact HB.out|apply below_alloc|apply pw_below_drewN|apply below_drew1|refine below_set ?_ GE285.out)|exact HB.out))) : w.heap.size ≤ gb286));have n5_:=Aside0.mk ((by rw [hg];exact Nat.ne_of_lt (blk_lt (g:=gb285) (o:=.cells #[.int .i64 a0_0,.int .i64 a0_1,.int .i64 a0_2] 112 (0,0)) (by (with_reducible repeat (first|refine blk_drewN ?_ _|refine blk_drew ?_|refine blk_alloc ?_ _));exact BK285.out)) : gb285 ≠ gb286));have n6_:=Aside0.mk ((by rw [hg];exact Nat.ne_of_gt (blk_lt (g:=gb285) (o:=.cells #[.int .i64 a0_0,.int .i64 a0_1,.int .i64 a0_2] 112 (0,0)) (by (with_reducible repeat (first|refine blk_drewN ?_ _|refine blk_drew ?_|refine blk_alloc ?_ _));exact BK285.out)) : gb286 ≠ gb285));clear BK285;clear HB;have BK285:=n0_;have HB:=n1_;have BK286:=n2_;have GW286:=n3_;have GE286:=n4_;have NB285_286:=n5_;have NB286_285:=n6_;clear n0_ n1_ n2_ n3_ n4_ n5_ n6_;clear hb hbox hg)|((with_reducible refine gate_dst (N:=3) rfl ?_);refine box_event ?hg (N:=3) ?hd (cs:=#[.int .i64 0,.int .i64 0,.int .i64 0]) (t:=107) ?hr ?_;(case hd => rfl);(case hg => rfl);(case hr => first|(go_simp;done)|(go_simp;rfl));intro gb287 hg w4 hbox hb;have n0_:=Aside0.mk (blk_below (g:=gb285) (o:=.cells #[.int .i64 a0_0,.int .i64 a0_1,.int .i64 a0_2] 112 (0,0)) (by (with_reducible repeat (first|refine blk_drewN ?_ _|refine blk_drew ?_|refine blk_alloc ?_ _));exact BK285.out) hb);have n1_:=Aside0.mk (blk_below (g:=gb286) (o:=.cells #[.int .i64 0,.int .i64 0,.int .i64 0] 107 (0,0)) (by (with_reducible repeat (first|refine blk_drewN ?_ _|refine blk_drew ?_|refine blk_alloc ?_ _));exact BK286.out) hb);have n2_:=Aside0.mk (below_step (by repeat (first|(with_reducible first|exact HB.out|apply below_alloc|apply pw_below_drewN|apply below_drew1|refine below_set ?_ GE285.out|refine below_set ?_ GE286.out)|exact HB.out)) hb);have n3_:=Aside0.mk (hbox);have n4_:=Aside0.mk ((by rw [hg];exact (below_size (by repeat (first|(with_reducible first|exact HB.out|apply below_alloc|apply pw_below_drewN|apply below_drew1|refine below_set ?_ GE285.out|refine below_set ?_ GE286.out)|exact HB.out))) : w.heap.size ≤ gb287));have n5_:=Aside0.mk ((by rw [hg];exact (below_size (by repeat (first|(with_reducible first|exact HB.out|apply below_alloc|apply pw_below_drewN|apply below_drew1|refine below_set ?_ GE285.out|refine below_set ?_ GE286.out)|exact HB.out))) : w.heap.size ≤ gb287));have n6_:=Aside0.mk ((by rw [hg];exact Nat.ne_of_lt (blk_lt (g:=gb285) (o:=.cells #[.int .i64 a0_0,.int .i64 a0_1,.int .i64 a0_2] 112 (0,0)) (by (with_reducible repeat (first|refine blk_drewN ?_ _|refine blk_drew ?_|refine blk_alloc ?_ _));exact BK285.out)) : gb285 ≠ gb287));have n7_:=Aside0.mk ((by rw [hg];exact Nat.ne_of_gt (blk_lt (g:=gb285) (o:=.cells #[.int .i64 a0_0,.int .i64 a0_1,.int .i64 a0_2] 112 (0,0)) (by (with_reducible repeat (first|refine blk_drewN ?_ _|refine blk_drew ?_|refine blk_alloc ?_ _));exact BK285.out)) : gb287 ≠ gb285));have n8_:=Aside0.mk ((by rw [hg];exact Nat.ne_of_lt (blk_lt (g:=gb286) (o:=.cells #[.int .i64 0,.int .i64 0,.int .i64 0] 107 (0,0)) (by (with_reducible repeat (first|refine blk_drewN ?_ _|refine blk_drew ?_|refine blk_alloc ?_ _));exact BK286.out)) : gb286 ≠ gb287));have n9_:=Aside0.mk ((by rw [hg];exact Nat.ne_of_gt (blk_lt (g:=gb286) (o:=.cells #[.int .i64 0,.int .i64 0,.int .i64 0] 107 (0,0)) (by (with_reducible repeat (first|refine blk_drewN ?_ _|refine blk_drew ?_|refine blk_alloc ?_ _));exact BK286.out)) : gb287 ≠ gb286));clear BK285;clear BK286;clear HB;have BK285:=n0_;have BK286:=n1_;have HB:=n2_;have BK287:=n3_;have GW287:=n4_;have GE287:=n5_;have NB285_287:=n6_;have NB287_285:=n7_;have NB286_287:=n8_;have NB287_286:=n9_;clear n0_ n1_ n2_ n3_ n4_ n5_ n6_ n7_ n8_ n9_;clear hb hbox hg;have hnb5:=NB285_286.out;have hnc5:=NB286_285.out;have hnb6:=NB285_287.out;have hnc6:=NB287_285.out;have hcz7_0 : w4.cell? ⟨gb285,0,none⟩ = some (.int .i64 a0_0):=(blk_cell BK285.out 0).trans rfl;have hcz7_1 : w4.cell? ⟨gb285,1,none⟩ = some (.int .i64 a0_1):=(blk_cell BK285.out 1).trans rfl;have hcz7_2 : w4.cell? ⟨gb285,2,none⟩ = some (.int .i64 a0_2):=(blk_cell BK285.out 2).trans rfl;have hfz7_0:=blk_frozen BK285.out 0;have hfz7_1:=blk_frozen BK285.out 1;have hfz7_2:=blk_frozen BK285.out 2;have hnb8:=NB287_286.out;have hnc8:=NB286_287.out;have hcz9_0 : w4.cell? ⟨gb287,0,none⟩ = some (.int .i64 0):=(blk_cell BK287.out 0).trans rfl;have hcz9_1 : w4.cell? ⟨gb287,1,none⟩ = some (.int .i64 0):=(blk_cell BK287.out 1).trans rfl;have hcz9_2 : w4.cell? ⟨gb287,2,none⟩ = some (.int .i64 0):=(blk_cell BK287.out 2).trans rfl;have hfz9_0:=blk_frozen BK287.out 0;have hfz9_1:=blk_frozen BK287.out 1;have hfz9_2:=blk_frozen BK287.out 2;have hcz10_0 : w4.cell? ⟨gb286,0,none⟩ = some (.int .i64 0):=(blk_cell BK286.out 0).trans rfl;have hcz10_1 : w4.cell? ⟨gb286,1,none⟩ = some (.int .i64 0):=(blk_cell BK286.out 1).trans rfl;have hcz10_2 : w4.cell? ⟨gb286,2,none⟩ = some (.int .i64 0):=(blk_cell BK286.out 2).trans rfl;have hfz10_0:=blk_frozen BK286.out 0;have hfz10_1:=blk_frozen BK286.out 1;have hfz10_2:=blk_frozen BK286.out 2))
 refine bodyPost_ret (results_cell_row rfl _ _ gb286 107 #[.int .i64 a0_0,.int .i64 a0_1,.int .i64 a0_2] (0,0) _ rfl (by (with_reducible repeat (first|refine blk_drewN ?_ _|refine blk_drew ?_|refine blk_alloc ?_ _));refine blk_put (cs:=#[.int .i64 a0_0,.int .i64 a0_1,.int .i64 0]) ?_ 2 _ rfl;(with_reducible repeat (first|refine blk_drewN ?_ _|refine blk_drew ?_|refine blk_alloc ?_ _));refine blk_put (cs:=#[.int .i64 a0_0,.int .i64 0,.int .i64 0]) ?_ 1 _ rfl;(with_reducible repeat (first|refine blk_drewN ?_ _|refine blk_drew ?_|refine blk_alloc ?_ _));refine blk_put (cs:=#[.int .i64 0,.int .i64 0,.int .i64 0]) ?_ 0 _ rfl;(with_reducible repeat (first|refine blk_drewN ?_ _|refine blk_drew ?_|refine blk_alloc ?_ _));refine blk_far ?_ NB286_287.out _;(with_reducible repeat (first|refine blk_drewN ?_ _|refine blk_drew ?_|refine blk_alloc ?_ _));refine blk_far ?_ NB286_287.out _;(with_reducible repeat (first|refine blk_drewN ?_ _|refine blk_drew ?_|refine blk_alloc ?_ _));refine blk_far ?_ NB286_287.out _;(with_reducible repeat (first|refine blk_drewN ?_ _|refine blk_drew ?_|refine blk_alloc ?_ _));exact BK286.out) Try.underlying107 rfl (by kernel_rfl)) rfl ?_
 exact ⟨by first|rfl|(simp [errW_none,errW_some] <;> rfl)|(simp [*,errW_none,errW_some] <;> rfl),by repeat (first|(with_reducible first|exact HB.out|apply below_alloc|apply pw_below_drewN|apply below_drew1|refine below_set ?_ GE285.out|refine below_set ?_ GE286.out|refine below_set ?_ GE287.out)|exact HB.out)⟩
/-! ### laws_toTokenS: function 43 -/
def laws_toTokenS.l0 : Nat → List (S112) → List (S107) → Int → Option ((List (S107)))
  | 0, _, _, _ => none
  | k + 1, x0, x3, x4 => if x4 < (x0.length : Int) then (if 0 ≤ x4 then ((laws_toToken.f ((rd_T112 x0 x4).f0) ((rd_T112 x0 x4).f1) ((rd_T112 x0 x4).f2)).bind fun bt292 => (if x4 < (x3.length : Int) then (laws_toTokenS.l0 k x0 (x3.set (x4 : Int).toNat (⟨bt292.1, bt292.2.1, bt292.2.2⟩ : S107)) (wrap64 (x4 + 1))) else (none))) else (none)) else (some x3)
def laws_toTokenS.f (k : Nat) (l0 : List (S112)) : Option ((List (S107))) := if 0 ≤ (l0.length : Int) then (if ((l0.length : Int) : Int).toNat ≤ 11728124029610 then (laws_toTokenS.l0 k l0 (List.replicate ((l0.length : Int) : Int).toNat z107) 0) else (none)) else (none)
theorem laws_toTokenS.mono_l : ∀ k, (∀ y0 y1 y2, LeO (laws_toTokenS.l0 k y0 y1 y2) (laws_toTokenS.l0 (k + 1) y0 y1 y2))
  | 0 => fun _ _ _ r h => by simp [laws_toTokenS.l0] at h
  | k + 1 => by
    have ih0 := laws_toTokenS.mono_l k
    · intro y0 y1 y2
      unfold laws_toTokenS.l0
      repeat' first
      | (with_reducible exact ih0 _ _ _)
      | (with_reducible exact LeO.refl _)
      | (with_reducible exact LeO.none _)
      | (with_reducible refine LeO.ite ?_ ?_)
      | (with_reducible refine LeO.bind ?_ (fun _ => ?_))
      | exact ih0 _ _ _
      | exact LeO.none _
      | refine LeO.ite ?_ ?_
      | refine LeO.bind ?_ (fun _ => ?_)
theorem laws_toTokenS.mono : ∀ a0 k, LeO (laws_toTokenS.f k a0) (laws_toTokenS.f (k + 1) a0) := by
  intro a0 k
  have ih0 := laws_toTokenS.mono_l k
  unfold laws_toTokenS.f
  repeat' first
      | (with_reducible exact ih0 _ _ _)
      | (with_reducible exact LeO.refl _)
      | (with_reducible exact LeO.none _)
      | (with_reducible refine LeO.ite ?_ ?_)
      | (with_reducible refine LeO.bind ?_ (fun _ => ?_))
      | exact ih0 _ _ _
      | exact LeO.none _
      | refine LeO.ite ?_ ?_
      | refine LeO.bind ?_ (fun _ => ?_)
set_option maxHeartbeats 8000000 in
set_option maxRecDepth 100000 in
theorem laws_toTokenS.calls (k : Nat) (A0 : Option Addr) (c0 : Nat) (l0 : List (S112)) (r : List (S107)) (w : World) (hr0 : Kd.C k112 w A0 l0.length l0) (hc0 : l0.length ≤ c0) (h : laws_toTokenS.f k l0 = some r) :
    Calls Try.prog 43 #[.slice A0 l0.length c0] w fun e w' => ∃ v0_ : Value, e = .returned (v0_) ∧ Kd.R k107 107 w' w.heap.size (fun _ => True) v0_ r ∧ Below w.heap.size w w' := by
 have hu112:=Try.underlying112
 have hu107:=Try.underlying107
 have HR0:=Aside0.mk hr0
 have HC0:=Aside0.mk hc0
 clear hr0 hc0
 have HB:=Aside0.mk (Below.refl w.heap.size w)
 have H : (if 0 ≤ (l0.length : Int) then (if ((l0.length : Int) : Int).toNat ≤ 11728124029610 then (laws_toTokenS.l0 k l0 (List.replicate ((l0.length : Int) : Int).toNat z107) 0) else (none)) else (none)) = some r:=h
 clear h
 by_cases c2 : 0 ≤ (l0.length : Int)
 rotate_left
 ·rw [if_neg c2] at H
  exact absurd H (by simp)
 rw [if_pos c2] at H
 have c2b0:=eq_true c2
 have c2b1 : decide (0 ≤ (l0.length : Int)) = true:=decide_eq_true c2
 clear c2
 by_cases c3 : ((l0.length : Int) : Int).toNat ≤ 11728124029610
 rotate_left
 ·rw [if_neg c3] at H
  exact absurd H (by simp)
 rw [if_pos c3] at H
 have c3b0:=eq_true c3
 have c3b1 : decide (((l0.length : Int) : Int).toNat ≤ 11728124029610) = true:=decide_eq_true c3
 clear c3
 obtain ⟨y288,hy288⟩ : ∃ y_ : List (S107),y_ = (List.replicate ((l0.length : Int) : Int).toNat z107):=⟨_,rfl⟩
 replace H : (laws_toTokenS.l0 k l0 y288 0) = some r:=by first|(rw [hy288];with_reducible exact H)|(have H2_:=(Option.bind_some _ _).symm.trans H;rw [hy288];with_reducible exact H2_)|(have H2_:=(Option.bind_some _ _).symm.trans H;with_reducible exact H2_)|with_reducible exact H|(rw [hy288];exact H)|exact H
 have Ny288:=Aside0.mk hy288
 clear hy288
 have H':=Aside0.mk H
 clear H
 go_enter Try.func43,Try.ntmps43
 go_wp2_with (first|((with_reducible refine gate_dst (N:=7) rfl ?_);refine Kd.R_make k107 _ 107 rfl (N:=7) rfl 61 _ _ rfl (l0.length : Int) rfl rfl Try.underlying61 (.agg #[(.int .i64 0),(.int .i64 0),(.int .i64 0)]) 24 info107 rfl (by decide) (by omega) z107 (ok:=fun _ => True) (okp:=fun _ => True) (k107_mkM _ _ _ z107 ) (fun _ hk => hk) trivial (of_decide_eq_true (by assumption)) (Nat.le_trans (Nat.mul_le_mul_right _ (of_decide_eq_true (by assumption) : (l0.length : Int).toNat ≤ 11728124029610)) (by omega)) (Below.refl _ _) (Nat.le_refl _) ?_;intro v289 w4 ho5 hb hg_ hnew_;clear hg_ hnew_;(first|rw [← Ny288.out] at ho5|(simp only [Int.reduceToNat] at ho5;rw [← Ny288.out] at ho5));have n0_:=Aside0.mk (Kd.R_lower ho5 (below_size (by repeat (first|(with_reducible first|exact HB.out|apply below_alloc|apply pw_below_drewN|apply below_drew1)|exact HB.out))));have n1_:=Aside0.mk (below_step (by repeat (first|(with_reducible first|exact HB.out|apply below_alloc|apply pw_below_drewN|apply below_drew1)|exact HB.out)) hb);clear HB;have HO290:=n0_;have HB:=n1_;clear n0_ n1_;clear hb ho5))
 go_loopg [4] k (fun kq v4 w' => ∃ (x3_1 : List (S107)) (x4_1 : Int),v4 = .int .i64 x4_1∧Aside0 (laws_toTokenS.l0 kq l0 x3_1 x4_1 = some r)∧Aside0 (kq ≤ k)∧Aside0 (Kd.R k107 107 w' w.heap.size (fun _ => True) v289 x3_1)∧Aside0 (Below w.heap.size w w'))
 case atStart => exact ⟨(y288),(0),(by first|rfl|(simp;done)|(simp [*];done)),H',⟨Nat.le_refl _⟩,⟨by (with_reducible repeat (first|apply Kd.R_alloc|apply Kd.R_drewN|apply Kd.R_drew));exact HO290.out⟩,⟨by repeat (first|(with_reducible first|exact HB.out|apply below_alloc|apply pw_below_drewN|apply below_drew1)|exact HB.out)⟩⟩
 case round =>
  clear H'
  obtain ⟨x3_1,x4_1,rfl,HA,HK1,HO_3,HB⟩:=hrel
  cases gk with
  | zero => exact absurd HA.out (by simp [laws_toTokenS.l0])
  | succ k1 =>
   have H:=HA.out
   clear HA
   simp only [laws_toTokenS.l0] at H
   by_cases c6 : x4_1 < (l0.length : Int)
   rotate_left
   ·rw [if_neg c6] at H
    have c6b0 : decide (x4_1 < (l0.length : Int)) = false:=decide_eq_false c6
    clear c6
    obtain rfl:=Option.some.inj H
    go_wp2
    go_ret
    exact ⟨_,by first|rfl|(simp [errW_none,errW_some] <;> rfl)|(simp [*,errW_none,errW_some] <;> rfl),by (with_reducible repeat (first|apply Kd.R_alloc|apply Kd.R_drewN|apply Kd.R_drew));exact HO_3.out,by repeat (first|(with_reducible first|exact HB.out|apply below_alloc|apply pw_below_drewN|apply below_drew1)|exact HB.out)⟩
   rw [if_pos c6] at H
   have c6b0 : decide (x4_1 < (l0.length : Int)) = true:=decide_eq_true c6
   clear c6
   by_cases c7 : 0 ≤ x4_1
   rotate_left
   ·rw [if_neg c7] at H
    exact absurd H (by simp)
   rw [if_pos c7] at H
   have c7b0 : decide (0 ≤ x4_1) = true:=decide_eq_true c7
   clear c7
   replace H:=Option.bind_eq_some_iff.mp H
   obtain ⟨⟨t292,t293,t294⟩,A80,H⟩:=H
   replace H : (if x4_1 < (x3_1.length : Int) then (laws_toTokenS.l0 k1 l0 (x3_1.set (x4_1 : Int).toNat (⟨t292,t293,t294⟩ : S107)) (wrap64 (x4_1 + 1))) else (none)) = some r:=H
   have A8:=Aside0.mk A80
   clear A80
   by_cases c9 : x4_1 < (x3_1.length : Int)
   rotate_left
   ·rw [if_neg c9] at H
    exact absurd H (by simp)
   rw [if_pos c9] at H
   have c9b0 : decide (x4_1 < (x3_1.length : Int)) = true:=decide_eq_true c9
   clear c9
   obtain ⟨y295,hy295⟩ : ∃ y_ : List (S107),y_ = (x3_1.set (x4_1 : Int).toNat (⟨t292,t293,t294⟩ : S107)):=⟨_,rfl⟩
   replace H : (laws_toTokenS.l0 k1 l0 y295 (wrap64 (x4_1 + 1))) = some r:=by first|(rw [hy295];with_reducible exact H)|(have H2_:=(Option.bind_some _ _).symm.trans H;rw [hy295];with_reducible exact H2_)|(have H2_:=(Option.bind_some _ _).symm.trans H;with_reducible exact H2_)|with_reducible exact H|(rw [hy295];exact H)|exact H
   have Ny295:=Aside0.mk hy295
   clear hy295
   have H':=Aside0.mk H
   clear H
   have p291 : 0 ≤ (x4_1 : Int):=of_decide_eq_true (by assumption)
   have q291 : x4_1 < (l0.length : Int):=of_decide_eq_true (by assumption)
   obtain ⟨ad291,e291,hx291_0,hx291_1,hx291_2⟩:=at_T112 HR0.out x4_1 p291 q291
   cases e291
   replace hx291_0:=(HB.out.cell (World.block_lt_of_cell? w _ hx291_0)).trans hx291_0
   replace hx291_1:=(HB.out.cell (World.block_lt_of_cell? w _ hx291_1)).trans hx291_1
   replace hx291_2:=(HB.out.cell (World.block_lt_of_cell? w _ hx291_2)).trans hx291_2
   replace p291:=eq_true p291
   replace q291:=eq_true q291
   go_wp2_with (first|((with_reducible refine gate_callee (f:=80) rfl ?_);refine goesL_ (some 20) rfl rfl Try.func80 (by kernel_rfl) rfl #[.agg #[.int .i64 ((rd_T112 l0 x4_1).f0),.int .i64 ((rd_T112 l0 x4_1).f1),.int .i64 ((rd_T112 l0 x4_1).f2)]] rfl (by (try simp only [List.map_toArray,List.map_cons,List.map_nil]);first|done|rfl|(simp only [List.length_drop,List.length_take];rfl)) ?_;(with_reducible refine (laws_toToken.calls ((rd_T112 l0 x4_1).f0) ((rd_T112 l0 x4_1).f1) ((rd_T112 l0 x4_1).f2) t292 t293 t294 _ A8.out).mono ?_);rintro e w11 ⟨rfl,hb⟩;refine ⟨_,rfl,?_⟩;have n0_:=Aside0.mk (Kd.R_below (by (with_reducible repeat (first|apply Kd.R_alloc|apply Kd.R_drewN|apply Kd.R_drew));exact HO_3.out) hb);have n1_:=Aside0.mk (below_step (by repeat (first|(with_reducible first|exact HB.out|apply below_alloc|apply pw_below_drewN|apply below_drew1)|exact HB.out)) hb);clear HO_3;clear HB;have HO_3:=n0_;have HB:=n1_;clear n0_ n1_;(try clear hb);(try clear hb2);(try clear hk);(try clear hi);have p10 : 0 ≤ (x4_1 : Int):=of_decide_eq_true (by assumption);have q10 : (x4_1 : Int) < ((x3_1.length : Int) : Int):=of_decide_eq_true (by assumption);obtain ⟨go10,co10,eo10,gb10,gl10,cl10,HG10⟩:=Kd.R_form HO_3.out (by omega);(first|cases eo10|(injection eo10 with ea_ en_ ec_;(first|subst ea_|(injection ea_ with ea_;subst ea_));subst ec_;clear en_));have GB10:=Aside0.mk gb10;have GG10:=Aside0.mk HG10;clear gb10 gl10 HG10;obtain ⟨ce10,hcl10,hM10,hcc10,hfr10⟩:=Kd.R_elem HO_3.out z107 (x4_1 : Int) p10 q10;obtain rfl:=k107_openM hM10;have hx10_0 : w11.cell? ⟨go10,(x4_1 : Int).toNat * 3,none⟩ = some (.int .i64 ((rd_T107 x3_1 x4_1).f0)):=hcc10 0 _ rfl;have hx10_1 : w11.cell? ⟨go10,(x4_1 : Int).toNat * 3 + 1,none⟩ = some (.int .i64 ((rd_T107 x3_1 x4_1).f1)):=hcc10 1 _ rfl;have hx10_2 : w11.cell? ⟨go10,(x4_1 : Int).toNat * 3 + 2,none⟩ = some (.int .i64 ((rd_T107 x3_1 x4_1).f2)):=hcc10 2 _ rfl;have hf10_0 : w11.frozen? ⟨go10,(x4_1 : Int).toNat * 3,none⟩ = false:=hfr10 0;have hf10_1 : w11.frozen? ⟨go10,(x4_1 : Int).toNat * 3 + 1,none⟩ = false:=hfr10 1;have hf10_2 : w11.frozen? ⟨go10,(x4_1 : Int).toNat * 3 + 2,none⟩ = false:=hfr10 2;clear hcl10 hcc10 hfr10 hM10;replace p10:=eq_true p10;replace q10:=eq_true q10;have HX12:=Aside0.mk (show Kd.R k107 107 w11 w.heap.size (fun _ => True) (.slice (some ⟨go10,0,none⟩) x3_1.length co10) x3_1 from (by (with_reducible repeat (first|apply Kd.R_alloc|apply Kd.R_drewN|apply Kd.R_drew));exact HO_3.out));obtain ⟨ce12,hcl12,hM12,hcc12,hfr12⟩:=Kd.R_elem HX12.out z107 (x4_1 : Int) (of_decide_eq_true (by assumption)) (by have h_ : (x4_1 : Int) < ((x3_1.length : Int) : Int):=of_decide_eq_true (by assumption);first|exact h_|(have e_:=(Kd.R_reads' HO_3.out).1;omega)|simpa using h_);obtain rfl:=k107_openM hM12;have HP12:=Kd.R_seg HX12.out (x4_1 : Int) (of_decide_eq_true (by assumption)) (by have h_ : (x4_1 : Int) < ((x3_1.length : Int) : Int):=of_decide_eq_true (by assumption);first|exact h_|(have e_:=(Kd.R_reads' HO_3.out).1;omega)|simpa using h_) (seg:=[.int .i64 t292,.int .i64 t293,.int .i64 t294]) (j:=0) hcl12 hcc12 (show 3 ≤ 3 from by decide) (x':=(⟨t292,t293,t294⟩ : S107)) (k107_mkM _ _ _ (⟨t292,t293,t294⟩ : S107) ) (fun _ hk => hk);have hx12_0:=hcc12 0 _ rfl;(try simp only [show (k107).sz = 3 from rfl,Nat.mul_one,Nat.add_zero] at hx12_0);have hf12_0:=hfr12 0;(try simp only [show (k107).sz = 3 from rfl,Nat.mul_one,Nat.add_zero] at hf12_0);have hx12_1:=hcc12 1 _ rfl;(try simp only [show (k107).sz = 3 from rfl,Nat.mul_one,Nat.add_zero] at hx12_1);have hf12_1:=hfr12 1;(try simp only [show (k107).sz = 3 from rfl,Nat.mul_one,Nat.add_zero] at hf12_1);have hx12_2:=hcc12 2 _ rfl;(try simp only [show (k107).sz = 3 from rfl,Nat.mul_one,Nat.add_zero] at hx12_2);have hf12_2:=hfr12 2;(try simp only [show (k107).sz = 3 from rfl,Nat.mul_one,Nat.add_zero] at hf12_2);clear hcl12 hcc12 hfr12 hM12)|((with_reducible refine gate_store (t:=107) (p:=21) rfl ?_);refine store_event (t:=107) (p:=21) (v:=?vo_w13) (w1:=(((w11.setCell ⟨go10,(x4_1 : Int).toNat * 3,none⟩ (.int .i64 t292)).setCell ⟨go10,(x4_1 : Int).toNat * 3 + 1,none⟩ (.int .i64 t293)).setCell ⟨go10,(x4_1 : Int).toNat * 3 + 2,none⟩ (.int .i64 t294))) ?hg ?ho ?hn ?hr ?_;(case ho => rfl);(case hg => rfl);(case hn => rfl);(case hr => first|(go_simp;done)|(go_simp;rfl));intro w13 hw;have hg : w11.grownBy w13 (some go10):=(by rw [hw];exact HP12.2);have hp_ : Kd.R k107 107 w13 w.heap.size (fun _ => True) (.slice (some ⟨go10,0,none⟩) x3_1.length co10) y295:=(by rw [hw,Ny295.out];exact HP12.1);clear HP12;have n0_:=Aside0.mk (hp_);have n1_:=Aside0.mk ((by rw [hw];exact below_set (below_set (below_set (HB.out) GB10.out) GB10.out) GB10.out : Below w.heap.size w w13));clear HO_3;clear HB;have HO_3:=n0_;have HB:=n1_;clear n0_ n1_;clear hg hw hp_))
   go_roundg k1
   case measure => have:=HK1.out;omega
   case rel => exact ⟨(y295),(wrap64 (x4_1 + 1)),(by first|rfl|(simp;done)|(simp [*];done)),H',⟨by have:=HK1.out;omega⟩,⟨by (with_reducible repeat (first|apply Kd.R_alloc|apply Kd.R_drewN|apply Kd.R_drew));exact HO_3.out⟩,⟨by repeat (first|(with_reducible first|exact HB.out|apply below_alloc|apply pw_below_drewN|apply below_drew1)|exact HB.out)⟩⟩
/-! ### impl_within: function 53 -/
def impl_within.f (a0 : Int) (a1 : Int) (a2 : Int) : Option (Bool) := if a0 ≥ a1 then (some (decide (a0 ≤ a2))) else (some false)
set_option maxHeartbeats 8000000 in
set_option maxRecDepth 100000 in
theorem impl_within.calls (a0 : Int) (a1 : Int) (a2 : Int) (r : Bool) (w : World) (h : impl_within.f a0 a1 a2 = some r) :
    Calls Try.prog 53 #[.int .i64 a0, .int .i64 a1, .int .i64 a2] w fun e w' => e = .returned (.bool r) ∧ Drawn0 w w' := by
 have H : (if a0 ≥ a1 then (some (decide (a0 ≤ a2))) else (some false)) = some r:=h
 clear h
 by_cases c4 : a0 ≥ a1
 ·rw [if_pos c4] at H
  have c4b0 : decide (a1 ≤ a0) = true:=decide_eq_true c4
  clear c4
  obtain rfl:=Option.some.inj H
  go_enter Try.func53,Try.ntmps53
  go_wp2
  go_ret
  exact ⟨by first|rfl|(simp;done)|(simp [*];done),by repeat (first|exact Drawn0.refl _|apply Drawn0.step)⟩
 rw [if_neg c4] at H
 have c4b0 : decide (a1 ≤ a0) = false:=decide_eq_false c4
 clear c4
 obtain rfl:=Option.some.inj H
 go_enter Try.func53,Try.ntmps53
 go_wp2
 go_ret
 exact ⟨by first|rfl|(simp;done)|(simp [*];done),by repeat (first|exact Drawn0.refl _|apply Drawn0.step)⟩
-- NOT PRINTED: function 119 (impl_coin_119)

-- NOT PRINTED: function 125 (impl_coin_125)

-- NOT PRINTED: function 122 (impl_coin_122)

-- NOT PRINTED: function 120 (impl_coin_120)

-- NOT PRINTED: function 114 (impl_coin_114)

-- NOT PRINTED: function 98 (impl_coin_98)

end Go.Proofs.Ytimomemkbcidnaa.PFnExactTokenLengths
