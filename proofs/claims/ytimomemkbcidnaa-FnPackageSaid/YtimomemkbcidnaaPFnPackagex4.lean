-- Written by a program of this session (a changed print); Lean checks it.
import Derived.Test.YtimomemkbcidnaaPFnPackagex0
namespace Go.Proofs.Ytimomemkbcidnaa.PFnPackage
open Go.RowKit Go.Proofs.YtimomemkbcidnaaW.PrintWords Go.Proofs.YtimomemkbcidnaaW.PrintLast Go.Proofs.YtimomemkbcidnaaW.PrintMore
attribute [local go_sem] max2_int min2_int max_two min_two max_three min_three max_four min_four   -- for this text's walks alone
set_option linter.unusedVariables false
set_option linter.unusedSimpArgs false
open Act renaming put → sPu
open List renaming setIfInBounds_toArray → sIa, set_cons_zero → sCz, set_cons_succ → sCs
open Bool renaming true → Y, false → Z

/-! ### spec_l04Next: function 69 -/
mutual
def spec_l04Next.l0 : Nat → List (S96) → List (S96) → List (S96) → Int → Int → Option ((List (S96)))
  | 0, _, _, _, _, _ => none
  | k + 1, x0, x1, x5, x6, x7 => if (wrap64 (x7 + 1)) < (x1.length : Int) then (if 0 ≤ x7 then (if x7 < (x1.length : Int) then (if 0 ≤ (wrap64 (x7 + 1)) then (if ([] : List Int).length + ((rd_T96 x1 x7).f1).length < 17592186044416 then ((some (([] : List Int) ++ ((rd_T96 x1 x7).f1) : List Int)).bind fun y241 => (if y241.length + ((rd_T96 x1 (wrap64 (x7 + 1))).f1).length < 17592186044416 then (spec_l04Next.l1 k x0 x1 x5 x6 x7 (wrap64 (((rd_T96 x1 x7).f0) + ((rd_T96 x1 (wrap64 (x7 + 1))).f0))) (y241 ++ ((rd_T96 x1 (wrap64 (x7 + 1))).f1))) else (none))) else (none)) else (none)) else (none)) else (none)) else (if 0 ≤ x6 then (if x6 ≤ (x0.length : Int) then ((some (x0.drop (x6 : Int).toNat : List (S96))).bind fun y229 => (if x5.length + y229.length < 4398046511104 then (some (x5 ++ y229)) else (none))) else (none)) else (none))
def spec_l04Next.l1 : Nat → List (S96) → List (S96) → List (S96) → Int → Int → Int → List Int → Option ((List (S96)))
  | 0, _, _, _, _, _, _, _ => none
  | k + 1, x0, x1, x5, x6, x7, x240000, x240001 => if x6 < (x0.length : Int) then (if 0 ≤ x6 then (if ((rd_T96 x0 x6).f0) ≤ x240000 then (if x5.length < 4398046511104 then (spec_l04Next.l1 k x0 x1 (x5 ++ [(⟨(rd_T96 x0 x6).f0, (rd_T96 x0 x6).f1⟩ : S96)]) (wrap64 (x6 + 1)) x7 x240000 x240001) else (none)) else (if x5.length < 4398046511104 then (spec_l04Next.l0 k x0 x1 (x5 ++ [(⟨x240000, x240001⟩ : S96)]) x6 (wrap64 (x7 + 2))) else (none))) else (none)) else (if x5.length < 4398046511104 then (spec_l04Next.l0 k x0 x1 (x5 ++ [(⟨x240000, x240001⟩ : S96)]) x6 (wrap64 (x7 + 2))) else (none))
end
def spec_l04Next.f (k : Nat) (l0 : List (S96)) (l1 : List (S96)) : Option ((List (S96))) := spec_l04Next.l0 k l0 l1 (([] : List (S96))) 0 0
theorem spec_l04Next.mono_l : ∀ k, (∀ y0 y1 y2 y3 y4, LeO (spec_l04Next.l0 k y0 y1 y2 y3 y4) (spec_l04Next.l0 (k + 1) y0 y1 y2 y3 y4)) ∧ (∀ y0 y1 y2 y3 y4 y5 y6, LeO (spec_l04Next.l1 k y0 y1 y2 y3 y4 y5 y6) (spec_l04Next.l1 (k + 1) y0 y1 y2 y3 y4 y5 y6))
  | 0 => ⟨fun _ _ _ _ _ r h => by simp [spec_l04Next.l0] at h, fun _ _ _ _ _ _ _ r h => by simp [spec_l04Next.l1] at h⟩
  | k + 1 => by
    obtain ⟨ih0, ih1⟩ := spec_l04Next.mono_l k
    refine ⟨?_, ?_⟩
    · intro y0 y1 y2 y3 y4
      unfold spec_l04Next.l0
      repeat' first
      | (with_reducible exact ih0 _ _ _ _ _)
      | (with_reducible exact ih1 _ _ _ _ _ _ _)
      | (with_reducible exact LeO.refl _)
      | (with_reducible exact LeO.none _)
      | (with_reducible refine LeO.ite ?_ ?_)
      | (with_reducible refine LeO.bind ?_ (fun _ => ?_))
      | exact ih0 _ _ _ _ _
      | exact ih1 _ _ _ _ _ _ _
      | exact LeO.none _
      | refine LeO.ite ?_ ?_
      | refine LeO.bind ?_ (fun _ => ?_)
    · intro y0 y1 y2 y3 y4 y5 y6
      unfold spec_l04Next.l1
      repeat' first
      | (with_reducible exact ih0 _ _ _ _ _)
      | (with_reducible exact ih1 _ _ _ _ _ _ _)
      | (with_reducible exact LeO.refl _)
      | (with_reducible exact LeO.none _)
      | (with_reducible refine LeO.ite ?_ ?_)
      | (with_reducible refine LeO.bind ?_ (fun _ => ?_))
      | exact ih0 _ _ _ _ _
      | exact ih1 _ _ _ _ _ _ _
      | exact LeO.none _
      | refine LeO.ite ?_ ?_
      | refine LeO.bind ?_ (fun _ => ?_)
theorem spec_l04Next.mono : ∀ a0 a1 k, LeO (spec_l04Next.f k a0 a1) (spec_l04Next.f (k + 1) a0 a1) := by
  intro a0 a1 k
  obtain ⟨ih0, ih1⟩ := spec_l04Next.mono_l k
  unfold spec_l04Next.f
  repeat' first
      | (with_reducible exact ih0 _ _ _ _ _)
      | (with_reducible exact ih1 _ _ _ _ _ _ _)
      | (with_reducible exact LeO.refl _)
      | (with_reducible exact LeO.none _)
      | (with_reducible refine LeO.ite ?_ ?_)
      | (with_reducible refine LeO.bind ?_ (fun _ => ?_))
      | exact ih0 _ _ _ _ _
      | exact ih1 _ _ _ _ _ _ _
      | exact LeO.none _
      | refine LeO.ite ?_ ?_
      | refine LeO.bind ?_ (fun _ => ?_)
def spec_l04Next.T6 : Bool × List (List Nat × List Nat) := (true, [([], []), ([], []), ([0, 1], [0, 1]), ([2], [2]), ([3], [3]), ([], []), ([], []), ([6], [6]), ([5, 7], [5, 7]), ([8], [8]), ([9], [9]), ([4, 10], [4, 10]), ([11], [11]), ([], []), ([13, 12, 0, 1, 2, 3, 4, 5, 6, 7, 8, 9, 10, 11, 12, 13], [12, 13])])
def spec_l04Next.B6 : List Nat := [0, 0, 3, 7, 15, 0, 0, 64, 224, 480, 992, 2047, 4095, 0, 16383]
theorem spec_l04Next.tab6 : rtab .any (opsOf Try.f69 6) = spec_l04Next.T6 := by kernel_rfl
theorem spec_l04Next.bits6 : waitsOk spec_l04Next.T6.2 spec_l04Next.B6 = true := by kernel_rfl
def spec_l04Next.T7 : Bool × List (List Nat × List Nat) := (true, [([], []), ([0], [0]), ([], []), ([], []), ([2, 3], [2, 3]), ([4], [4]), ([5], [5]), ([1, 6], [1, 6]), ([], []), ([], []), ([9], [9]), ([8, 10], [8, 10]), ([11], [11]), ([12], [12]), ([7, 13, 7], [7, 13]), ([0, 1, 2, 3, 4, 5, 6, 7, 8, 9, 10, 11, 12, 13, 14], []), ([15, 14, 14, 0, 1, 2, 3, 4, 5, 6, 7, 8, 9, 10, 11, 12, 13, 14], [14, 15])])
def spec_l04Next.B7 : List Nat := [0, 1, 0, 0, 12, 28, 60, 127, 0, 0, 512, 1792, 3840, 7936, 16383, 32767, 65535]
theorem spec_l04Next.tab7 : rtab .any (opsOf Try.f69 7) = spec_l04Next.T7 := by kernel_rfl
theorem spec_l04Next.bits7 : waitsOk spec_l04Next.T7.2 spec_l04Next.B7 = true := by kernel_rfl
def spec_l04Next.T8 : Bool × List (List Nat × List Nat) := (true, [([], []), ([], []), ([1], [1]), ([0, 2], [0, 2]), ([3], [3]), ([4], [4]), ([4], [4]), ([5, 6, 4], [4, 5, 6]), ([7, 4], [4, 7]), ([8, 4], [4, 8]), ([4], [4]), ([10, 4], [4, 10]), ([9, 11, 4], [4, 9, 11]), ([4, 12], [4, 12])])
def spec_l04Next.B8 : List Nat := [0, 0, 2, 7, 15, 31, 31, 127, 255, 511, 31, 1055, 4095, 8191]
theorem spec_l04Next.tab8 : rtab .any (opsOf Try.f69 8) = spec_l04Next.T8 := by kernel_rfl
theorem spec_l04Next.bits8 : waitsOk spec_l04Next.T8.2 spec_l04Next.B8 = true := by kernel_rfl
set_option maxHeartbeats 8000000 in
set_option maxRecDepth 100000 in
theorem spec_l04Next.calls (k : Nat) (P0_ : Nat → Prop) (A0 : Option Addr) (c0 : Nat) (l0 : List (S96)) (A1 : Option Addr) (c1 : Nat) (l1 : List (S96)) (r : List (S96)) (w : World) (hs0 : Kd.V k96 96 w w.heap.size (fun k_ => P0_ k_) (.slice A0 l0.length c0) l0) (hr1 : Kd.C k96 w A1 l1.length l1) (hc1 : l1.length ≤ c1) (h : spec_l04Next.f k l0 l1 = some r) :
    Calls Try.prog 69 #[.slice A0 l0.length c0, .slice A1 l1.length c1] w fun e w' => ∃ v0_ : Value, e = .returned (v0_) ∧ Kd.N k96 96 w' w.heap.size (fun k_ => (P0_ k_ ∨ w.heap.size ≤ k_)) v0_ r ∧ Below w.heap.size w w' := by
 have hu96:=Try.underlying96
 have HO0:=Aside0.mk (show Kd.V k96 96 w w.heap.size (fun k_ => (P0_ k_ ∨ w.heap.size ≤ k_)) (.slice A0 l0.length c0) l0 from Kd.V_mono hs0 (fun k_ hk => .inl hk))
 have HR1:=Aside0.mk hr1
 have HC1:=Aside0.mk hc1
 clear hr1 hc1
 have HB:=Aside0.mk (Below.refl w.heap.size w)
 have H : (spec_l04Next.l0 k l0 l1 (([] : List (S96))) 0 0) = some r:=h
 clear h
 obtain ⟨y226,hy226⟩ : ∃ y_ : List (S96),y_ = (([] : List (S96))):=⟨_,rfl⟩
 replace H : (spec_l04Next.l0 k l0 l1 y226 0 0) = some r:=by first|(rw [hy226];with_reducible exact H)|(have H2_:=(Option.bind_some _ _).symm.trans H;rw [hy226];with_reducible exact H2_)|(have H2_:=(Option.bind_some _ _).symm.trans H;with_reducible exact H2_)|with_reducible exact H|(rw [hy226];exact H)|exact H
 have Ny226:=Aside0.mk hy226
 clear hy226
 have H':=Aside0.mk H
 clear H
 go_enter Try.func69,Try.ntmps69
 go_wp2_with (first|((with_reducible refine gate_dst (N:=9) rfl ?_);refine Kd.N_lit k96 _ 96 ?hg (N':=9) ?hd (xs:=([] : List (S96))) (inner:=[]) (ok:=(fun k_ => (P0_ k_ ∨ w.heap.size ≤ k_))) (okp:=(fun k_ => (P0_ k_ ∨ w.heap.size ≤ k_))) ?hr ?hp (fun _ hk => hk) ((show ∀ k_,w.heap.size ≤ k_ → (fun k_ => (P0_ k_ ∨ w.heap.size ≤ k_)) k_ from fun k_ hk => (.inr (Nat.le_trans (below_size (by repeat (first|(with_reducible first|exact HB.out|apply below_alloc|apply pw_below_drewN|apply below_drew1)|exact HB.out))) hk))) _ (Nat.le_refl _)) (Below.refl _ _) (Nat.le_refl _) (by simp) ?_;(case hd => rfl);(case hg => rfl);(case hr => first|(go_simp;done)|(go_simp;rfl));(case hp => exact (Reps.none _ _));intro v227 w3 ho4 hb hg_ hnew_;clear hg_ hnew_;(first|rw [← Ny226.out] at ho4|(simp only [Int.reduceToNat] at ho4;rw [← Ny226.out] at ho4));have n0_:=Aside0.mk (Kd.V_elder' (by (with_reducible repeat (first|apply Kd.V_alloc|apply Kd.V_drewN|apply Kd.V_drew));exact HO0.out) (Kd.N_base ho4) hb);have n1_:=Aside0.mk (Kd.N_lower ho4 (below_size (by repeat (first|(with_reducible first|exact HB.out|apply below_alloc|apply pw_below_drewN|apply below_drew1)|exact HB.out))));have n2_:=Aside0.mk (below_step (by repeat (first|(with_reducible first|exact HB.out|apply below_alloc|apply pw_below_drewN|apply below_drew1)|exact HB.out)) hb);clear HO0;clear HB;have HO0:=n0_;have HO228:=n1_;have HB:=n2_;clear n0_ n1_ n2_;clear hb ho4))
 go_loopg [5,6,7] k (fun kq v5 v6 v7 w' => ∃ (x5_1 : List (S96)) (x6_1 : Int) (x7_1 : Int),v6 = .int .i64 x6_1∧v7 = .int .i64 x7_1∧Aside0 (spec_l04Next.l0 kq l0 l1 x5_1 x6_1 x7_1 = some r)∧Aside0 (kq ≤ k)∧Aside0 (Kd.V k96 96 w' w.heap.size (fun k_ => (P0_ k_ ∨ w.heap.size ≤ k_)∧some k_ ≠ (v5 : Value).ownBlock) (.slice A0 l0.length c0) l0)∧Aside0 (Kd.N k96 96 w' w.heap.size (fun k_ => (P0_ k_ ∨ w.heap.size ≤ k_)) v5 x5_1)∧Aside0 (Below w.heap.size w w'))
 case atStart => exact ⟨(y226),(0),(0),(by first|rfl|(simp;done)|(simp [*];done)),(by first|rfl|(simp;done)|(simp [*];done)),H',⟨Nat.le_refl _⟩,⟨by (with_reducible repeat (first|apply Kd.V_alloc|apply Kd.V_drewN|apply Kd.V_drew));exact HO0.out⟩,⟨by (with_reducible repeat (first|apply Kd.N_alloc|apply Kd.N_drewN|apply Kd.N_drew));exact HO228.out⟩,⟨by repeat (first|(with_reducible first|exact HB.out|apply below_alloc|apply pw_below_drewN|apply below_drew1)|exact HB.out)⟩⟩
 case round =>
  clear H'
  obtain ⟨x5_1,x6_1,x7_1,rfl,rfl,HA,HK1,HO_0,HO_5,HB⟩:=hrel
  cases gk with
  | zero => exact absurd HA.out (by simp [spec_l04Next.l0])
  | succ k1 =>
   have H:=HA.out
   clear HA
   simp only [spec_l04Next.l0] at H
   by_cases c5 : (wrap64 (x7_1 + 1)) < (l1.length : Int)
   rotate_left
   ·rw [if_neg c5] at H
    have c5b0 : decide ((wrap64 (x7_1 + 1)) < (l1.length : Int)) = false:=decide_eq_false c5
    clear c5
    by_cases c36 : 0 ≤ x6_1
    rotate_left
    ·rw [if_neg c36] at H
     exact absurd H (by simp)
    rw [if_pos c36] at H
    have c36b0:=eq_true c36
    have c36b1 : decide (0 ≤ x6_1) = true:=decide_eq_true c36
    clear c36
    by_cases c37 : x6_1 ≤ (l0.length : Int)
    rotate_left
    ·rw [if_neg c37] at H
     exact absurd H (by simp)
    rw [if_pos c37] at H
    have c37b0:=eq_true c37
    have c37b1 : decide (x6_1 ≤ (l0.length : Int)) = true:=decide_eq_true c37
    clear c37
    obtain ⟨y229,hy229⟩ : ∃ y_ : List (S96),y_ = (l0.drop (x6_1 : Int).toNat):=⟨_,rfl⟩
    replace H : (if x5_1.length + y229.length < 4398046511104 then (some (x5_1 ++ y229)) else (none)) = some r:=by first|(rw [hy229];with_reducible exact H)|(have H2_:=(Option.bind_some _ _).symm.trans H;rw [hy229];with_reducible exact H2_)|(have H2_:=(Option.bind_some _ _).symm.trans H;with_reducible exact H2_)|with_reducible exact H|(rw [hy229];exact H)|exact H
    have Ny229:=Aside0.mk hy229
    clear hy229
    by_cases c38 : x5_1.length + y229.length < 4398046511104
    rotate_left
    ·rw [if_neg c38] at H
     exact absurd H (by simp)
    rw [if_pos c38] at H
    have LMc38:=Aside0.mk c38
    clear c38
    obtain ⟨y234,hy234⟩ : ∃ y_ : List (S96),y_ = (x5_1 ++ y229):=⟨_,rfl⟩
    replace H : (some y234) = some r:=by first|(rw [hy234];with_reducible exact H)|(have H2_:=(Option.bind_some _ _).symm.trans H;rw [hy234];with_reducible exact H2_)|(have H2_:=(Option.bind_some _ _).symm.trans H;with_reducible exact H2_)|with_reducible exact H|(rw [hy234];exact H)|exact H
    have Ny234:=Aside0.mk hy234
    clear hy234
    obtain rfl:=Option.some.inj H
    have q39 : (x6_1 : Int) ≤ ((l0.length : Int) : Int):=of_decide_eq_true (by assumption)
    obtain ⟨i039,hi039,_,hsz39,_⟩:=info_parts info96
    have hroom39 : l0.length ≤ c0:=(Kd.V_reads' HO_0.out).2.1
    have hC39 : Kd.F k96 _ _ A0 l0.length l0:=(Kd.V_at (base:=w.heap.size) HO_0.out).2.2
    have q039 : (0 : Int) ≤ (x6_1 : Int):=of_decide_eq_true (by assumption)
    have hcut39:=cut_from (P:=Try.prog) 93 96 .i64 Try.underlying93 hi039 2 hsz39 A0 l0.length c0 x6_1 q039 q39
    have hr39:=Kd.F_cut (m:=(x6_1 : Int).toNat) (c:=c0) hC39 (by omega) hroom39
    obtain ⟨A39,hA39⟩ : ∃ A1,A1 = (if c0 = (x6_1 : Int).toNat then A0 else (A0 : Option Addr).map (·.add ((x6_1 : Int).toNat * 2))):=⟨_,rfl⟩
    obtain ⟨c39,hc39⟩ : ∃ c1,c1 = c0 - (x6_1 : Int).toNat:=⟨_,rfl⟩
    have hy39 : y229.length = l0.length - (x6_1 : Int).toNat:=(by rw [Ny229.out,List.length_drop] <;> omega)
    rw [show (l0).drop (x6_1 : Int).toNat = y229 from Ny229.out.symm] at hr39
    replace hr39 : Kd.F k96 _ _ A39 y229.length y229:=(by rw [hA39];exact hr39)
    rw [← hy39,← hA39,← hc39] at hcut39
    have HO233:=Aside0.mk (show Kd.V k96 96 _ w.heap.size _ (.slice A39 y229.length c39) y229 from Kd.V_mk (by rw [hy39,hc39];exact Nat.sub_le_sub_right hroom39 _) hr39)
    have HC233:=Aside0.mk (show y229.length ≤ c39 from by rw [hy39,hc39];exact Nat.sub_le_sub_right hroom39 _)
    clear hr39 hC39 hroom39 hi039 hsz39 hc39
    have KY39:=Aside0.mk hy39
    have KA39:=Aside0.mk hA39
    clear hy39 hA39
    replace q39:=eq_true q39
    go_wp2_with (first|((with_reducible refine gate_builtin (b:=.append) (xs:=#[.tmp 73,.tmp 76]) rfl ?_);at_builtin;refine Kd.N_append_rows k96 (w0:=w) w.heap.size rfl (.tmp 73) (.tmp 76) 93 96 (.agg #[(.int .i64 0),(.slice none 0 0)]) 32 rfl Try.underlying93 info96 rfl (by decide) (by omega) u5 x5_1 y229 _ _ _ (fun k_ => (P0_ k_ ∨ w.heap.size ≤ k_)) (fun k_ => ((fun k_ => (P0_ k_ ∨ w.heap.size ≤ k_))) k_∧some k_ ≠ (u5 : Value).ownBlock) rfl rfl ?aO ?aR (fun _ hk => hk) ?aF ?aB ?aS ?aL ?_;(case aR => exact (by skip;exact Kd.V_F (Kd.V_mono (ok':=(fun k_ => ((fun k_ => (P0_ k_ ∨ w.heap.size ≤ k_))) k_∧some k_ ≠ (u5 : Value).ownBlock)) (HO233.out) (fun k_ hk => ⟨hk.1,hk.2⟩))));(case aB => exact (by repeat (first|(with_reducible first|exact HB.out|apply below_alloc|apply pw_below_drewN|apply below_drew1)|exact HB.out)));(case aF => exact (fun k_ hk => (.inr (Nat.le_trans (below_size (by repeat (first|(with_reducible first|exact HB.out|apply below_alloc|apply pw_below_drewN|apply below_drew1)|exact HB.out))) hk))));(case aO => exact (by (with_reducible repeat (first|apply Kd.N_alloc|apply Kd.N_drewN|apply Kd.N_drew));exact HO_5.out));(case aS => exact (below_size (by repeat (first|(with_reducible first|exact HB.out|apply below_alloc|apply pw_below_drewN|apply below_drew1)|exact HB.out))));(case aL => have:=LMc38.out;omega);intro v235 w40 ho hb hg hat;rw [← Ny234.out] at ho;have n0_:=Aside0.mk (Kd.V_afterv (ok:=(fun k_ => (P0_ k_ ∨ w.heap.size ≤ k_))) (by (with_reducible repeat (first|apply Kd.V_alloc|apply Kd.V_drewN|apply Kd.V_drew));exact HO_0.out) hg hat);have n1_:=Aside0.mk (Kd.V_afterv (ok:=(fun k_ => (P0_ k_ ∨ w.heap.size ≤ k_))) (by (with_reducible repeat (first|apply Kd.V_alloc|apply Kd.V_drewN|apply Kd.V_drew));exact HO233.out) hg hat);have n2_:=Aside0.mk (hb);have n3_:=Aside0.mk (ho);clear HO_0;clear HO233;clear HB;clear HO_5;have HO_0:=n0_;have HO233:=n1_;have HB:=n2_;have HO236:=n3_;clear n0_ n1_ n2_ n3_;clear ho hb hg hat))
    go_ret
    exact ⟨_,by first|rfl|(simp [errW_none,errW_some] <;> rfl)|(simp [*,errW_none,errW_some] <;> rfl),by (with_reducible repeat (first|apply Kd.N_alloc|apply Kd.N_drewN|apply Kd.N_drew));exact HO236.out,by repeat (first|(with_reducible first|exact HB.out|apply below_alloc|apply pw_below_drewN|apply below_drew1)|exact HB.out)⟩
   rw [if_pos c5] at H
   have c5b0 : decide ((wrap64 (x7_1 + 1)) < (l1.length : Int)) = true:=decide_eq_true c5
   clear c5
   by_cases c6 : 0 ≤ x7_1
   rotate_left
   ·rw [if_neg c6] at H
    exact absurd H (by simp)
   rw [if_pos c6] at H
   have c6b0 : decide (0 ≤ x7_1) = true:=decide_eq_true c6
   clear c6
   by_cases c7 : x7_1 < (l1.length : Int)
   rotate_left
   ·rw [if_neg c7] at H
    exact absurd H (by simp)
   rw [if_pos c7] at H
   have c7b0 : decide (x7_1 < (l1.length : Int)) = true:=decide_eq_true c7
   clear c7
   obtain ⟨ji8,hji8⟩ : ∃ j_ : Int,(wrap64 (x7_1 + 1)) = j_:=⟨_,rfl⟩
   replace H : (if 0 ≤ (ji8) then (if ([] : List Int).length + ((rd_T96 l1 x7_1).f1).length < 17592186044416 then ((some (([] : List Int) ++ ((rd_T96 l1 x7_1).f1) : List Int)).bind fun y241 => (if y241.length + ((rd_T96 l1 (ji8)).f1).length < 17592186044416 then (spec_l04Next.l1 k1 l0 l1 x5_1 x6_1 x7_1 (wrap64 (((rd_T96 l1 x7_1).f0) + ((rd_T96 l1 (ji8)).f0))) (y241 ++ ((rd_T96 l1 (ji8)).f1))) else (none))) else (none)) else (none)) = some r:=by first|(rw [hji8] at H;exact H)|(simp only [hji8] at H ⊢;exact H)
   (try rw [hji8] at c5b0)
   have hji8w : (IntKind.i64.wrap (x7_1 + 1)) = ji8:=(i64_w _).trans hji8
   by_cases c9 : 0 ≤ (ji8)
   rotate_left
   ·rw [if_neg c9] at H
    exact absurd H (by simp)
   rw [if_pos c9] at H
   have c9b0 : decide (0 ≤ (ji8)) = true:=decide_eq_true c9
   clear c9
   by_cases c10 : ([] : List Int).length + ((rd_T96 l1 x7_1).f1).length < 17592186044416
   rotate_left
   ·rw [if_neg c10] at H
    exact absurd H (by simp)
   rw [if_pos c10] at H
   have LMc10:=Aside0.mk c10
   clear c10
   obtain ⟨y241,hy241⟩ : ∃ y_ : List Int,y_ = (([] : List Int) ++ ((rd_T96 l1 x7_1).f1)):=⟨_,rfl⟩
   replace H : (if y241.length + ((rd_T96 l1 (ji8)).f1).length < 17592186044416 then (spec_l04Next.l1 k1 l0 l1 x5_1 x6_1 x7_1 (wrap64 (((rd_T96 l1 x7_1).f0) + ((rd_T96 l1 (ji8)).f0))) (y241 ++ ((rd_T96 l1 (ji8)).f1))) else (none)) = some r:=by first|(rw [hy241];with_reducible exact H)|(have H2_:=(Option.bind_some _ _).symm.trans H;rw [hy241];with_reducible exact H2_)|(have H2_:=(Option.bind_some _ _).symm.trans H;with_reducible exact H2_)|with_reducible exact H|(rw [hy241];exact H)|exact H
   have Ny241:=Aside0.mk hy241
   clear hy241
   by_cases c11 : y241.length + ((rd_T96 l1 (ji8)).f1).length < 17592186044416
   rotate_left
   ·rw [if_neg c11] at H
    exact absurd H (by simp)
   rw [if_pos c11] at H
   have LMc11:=Aside0.mk c11
   clear c11
   obtain ⟨y245,hy245⟩ : ∃ y_ : List Int,y_ = (y241 ++ ((rd_T96 l1 (ji8)).f1)):=⟨_,rfl⟩
   replace H : (spec_l04Next.l1 k1 l0 l1 x5_1 x6_1 x7_1 (wrap64 (((rd_T96 l1 x7_1).f0) + ((rd_T96 l1 (ji8)).f0))) y245) = some r:=by first|(rw [hy245];with_reducible exact H)|(have H2_:=(Option.bind_some _ _).symm.trans H;rw [hy245];with_reducible exact H2_)|(have H2_:=(Option.bind_some _ _).symm.trans H;with_reducible exact H2_)|with_reducible exact H|(rw [hy245];exact H)|exact H
   have Ny245:=Aside0.mk hy245
   clear hy245
   have H':=Aside0.mk H
   clear H
   try go_wp2
   have n0_:=Aside0.mk (Kd.V_drew HO_0.out)
   have n1_:=Aside0.mk (Kd.N_drew HO_5.out)
   have n2_:=Aside0.mk (below_drew1 HB.out)
   clear HO_0
   clear HO_5
   clear HB
   have HO_0:=n0_
   have HO_5:=n1_
   have HB:=n2_
   clear n0_ n1_ n2_
   have p237 : 0 ≤ (x7_1 : Int):=of_decide_eq_true (by assumption)
   have q237 : x7_1 < (l1.length : Int):=of_decide_eq_true (by assumption)
   obtain ⟨ad237,A237_1,c237_1,e237,hx237_0,hx237_1,hl237_1,hi237_1⟩:=at_T96 HR1.out x7_1 p237 q237
   have hw237_1:=hx237_1
   have hw237_0:=hx237_0
   cases e237
   replace hx237_0:=(HB.out.cell (World.block_lt_of_cell? w _ hx237_0)).trans hx237_0
   replace hx237_1:=(HB.out.cell (World.block_lt_of_cell? w _ hx237_1)).trans hx237_1
   have HR237_1:=Aside0.mk hi237_1
   have HC237_1:=Aside0.mk hl237_1
   clear hi237_1 hl237_1
   replace p237:=eq_true p237
   replace q237:=eq_true q237
   have p238 : 0 ≤ ((ji8) : Int):=of_decide_eq_true (by assumption)
   have q238 : (ji8) < (l1.length : Int):=of_decide_eq_true (by assumption)
   obtain ⟨ad238,A238_1,c238_1,e238,hx238_0,hx238_1,hl238_1,hi238_1⟩:=at_T96 HR1.out (ji8) p238 q238
   have hw238_1:=hx238_1
   have hw238_0:=hx238_0
   obtain rfl : ad237 = ad238:=(by injection e238)
   replace hx238_0:=(HB.out.cell (World.block_lt_of_cell? w _ hx238_0)).trans hx238_0
   replace hx238_1:=(HB.out.cell (World.block_lt_of_cell? w _ hx238_1)).trans hx238_1
   have HR238_1:=Aside0.mk hi238_1
   have HC238_1:=Aside0.mk hl238_1
   clear hi238_1 hl238_1
   replace p238:=eq_true p238
   replace q238:=eq_true q238
   refine start_ (n:=15) (S:=fun w' => w'.cell? (ad237.add ((x7_1).toNat * 2)) = some (.int .i64 ((rd_T96 l1 x7_1).f0))∧w'.cell? ⟨(ad237.add ((x7_1).toNat * 2)).block,(ad237.add ((x7_1).toNat * 2)).off + 1,none⟩ = some (.slice A237_1 ((rd_T96 l1 x7_1).f1).length c237_1)∧w'.cell? (ad237.add (((ji8)).toNat * 2)) = some (.int .i64 ((rd_T96 l1 (ji8)).f0))∧w'.cell? ⟨(ad237.add (((ji8)).toNat * 2)).block,(ad237.add (((ji8)).toNat * 2)).off + 1,none⟩ = some (.slice A238_1 ((rd_T96 l1 (ji8)).f1).length c238_1)) (ds:=[]) #[Z,Z,Z,Z,Z,Z,Z,Z,Z,Z,Z,Z,Z,Z,Z] (by kernel_rfl) rfl rfl ⟨((HB.out.cell (World.block_lt_of_cell? w _ hw237_0)).trans hw237_0),((HB.out.cell (World.block_lt_of_cell? w _ hw237_1)).trans hw237_1),((HB.out.cell (World.block_lt_of_cell? w _ hw238_0)).trans hw238_0),((HB.out.cell (World.block_lt_of_cell? w _ hw238_1)).trans hw238_1)⟩ (fun hHeld => ?_);refine with_tabW spec_l04Next.tab6 spec_l04Next.bits6 (fun HT_ HW_ => ?_)
   generalize wr.drew = w12 at HO_0 HO_5 HB HR237_1 HR238_1 hx237_0 hx237_1 hx238_0 hx238_1 hHeld ⊢
   refine pure_ (i:=0) (N:=some 17) (v:=?_) (a':=?_) #[Y,Z,Z,Z,Z,Z,Z,Z,Z,Z,Z,Z,Z,Z,Z] rfl rfl (any_of HT_.out (by kernel_rfl)) (fun _ _ _ h => h) (Or.inl ⟨by rfl,?_⟩) ?_ ?_
   rotate_left
   ·intro w'
    go_simp
    with_reducible rfl
   rotate_left
   ·simp only [sPu,sIa,sCz,sCs,i64_w,i32_w]
    rfl
   refine pure_ (i:=1) (N:=some 18) (v:=?_) (a':=?_) #[Y,Y,Z,Z,Z,Z,Z,Z,Z,Z,Z,Z,Z,Z,Z] rfl rfl (any_of HT_.out (by kernel_rfl)) (fun _ _ _ h => h) (Or.inl ⟨by rfl,?_⟩) ?_ ?_
   rotate_left
   ·intro w'
    go_simp
    with_reducible rfl
   rotate_left
   ·simp only [sPu,sIa,sCz,sCs,i64_w,i32_w]
    rfl
   refine pure_ (i:=2) (N:=some 19) (v:=?_) (a':=?_) #[Y,Y,Y,Z,Z,Z,Z,Z,Z,Z,Z,Z,Z,Z,Z] rfl rfl (any_of HT_.out (by kernel_rfl)) (fun _ _ _ h => h) (Or.inl ⟨by rfl,?_⟩) ?_ ?_
   rotate_left
   ·intro w'
    go_simp
    with_reducible rfl
   rotate_left
   ·simp only [sPu,sIa,sCz,sCs,i64_w,i32_w]
    rfl
   refine pure_ (i:=3) (N:=some 20) (v:=?_) (a':=?_) #[Y,Y,Y,Y,Z,Z,Z,Z,Z,Z,Z,Z,Z,Z,Z] rfl rfl (any_of HT_.out (by kernel_rfl)) (fun _ _ _ h => h) (Or.inl ⟨by rfl,?_⟩) ?_ ?_
   rotate_left
   ·intro w'
    go_simp
    with_reducible rfl
   rotate_left
   ·simp only [sPu,sIa,sCz,sCs,i64_w,i32_w]
    rfl
   refine pure_ (i:=5) (N:=some 22) (v:=?_) (a':=?_) #[Y,Y,Y,Y,Z,Y,Z,Z,Z,Z,Z,Z,Z,Z,Z] rfl rfl (any_of HT_.out (by kernel_rfl)) (fun _ _ _ h => h) (Or.inl ⟨by rfl,?_⟩) ?_ ?_
   rotate_left
   ·intro w'
    go_simp
    with_reducible rfl
   rotate_left
   ·simp only [sPu,sIa,sCz,sCs,i64_w,i32_w]
    rfl
   refine pure_ (i:=6) (N:=some 23) (v:=?_) (a':=?_) #[Y,Y,Y,Y,Z,Y,Y,Z,Z,Z,Z,Z,Z,Z,Z] rfl rfl (any_of HT_.out (by kernel_rfl)) (fun _ _ _ h => h) (Or.inl ⟨by rfl,?_⟩) ?_ ?_
   rotate_left
   ·intro w'
    go_simp
    with_reducible rfl
   rotate_left
   ·simp only [sPu,sIa,sCz,sCs,i64_w,i32_w]
    rfl
   refine pure_ (i:=7) (N:=some 24) (v:=?_) (a':=?_) #[Y,Y,Y,Y,Z,Y,Y,Y,Z,Z,Z,Z,Z,Z,Z] rfl rfl (any_of HT_.out (by kernel_rfl)) (fun _ _ _ h => h) (Or.inl ⟨by rfl,?_⟩) ?_ ?_
   rotate_left
   ·intro w'
    go_simp
    with_reducible rfl
   rotate_left
   ·simp only [sPu,sIa,sCz,sCs,i64_w,i32_w]
    rfl
   refine pure_ (i:=8) (N:=some 25) (v:=?_) (a':=?_) #[Y,Y,Y,Y,Z,Y,Y,Y,Y,Z,Z,Z,Z,Z,Z] rfl rfl (any_of HT_.out (by kernel_rfl)) (fun _ _ _ h => h) (Or.inl ⟨by rfl,?_⟩) ?_ ?_
   rotate_left
   ·intro w'
    go_simp
    with_reducible rfl
   rotate_left
   ·simp only [sPu,sIa,sCz,sCs,i64_w,i32_w]
    rfl
   refine pure_ (i:=9) (N:=some 26) (v:=?_) (a':=?_) #[Y,Y,Y,Y,Z,Y,Y,Y,Y,Y,Z,Z,Z,Z,Z] rfl rfl (any_of HT_.out (by kernel_rfl)) (fun _ _ _ h => h) (Or.inl ⟨by rfl,?_⟩) ?_ ?_
   rotate_left
   ·intro w'
    go_simp
    with_reducible rfl
   rotate_left
   ·simp only [sPu,sIa,sCz,sCs,i64_w,i32_w]
    rfl
   refine take_ (i:=4) (N:=some 21) (v:=?_) (a':=?_) #[Y,Y,Y,Y,Y,Y,Y,Y,Y,Y,Z,Z,Z,Z,Z] rfl rfl (take_ofW HT_.out HW_.out (by kernel_rfl)) (fun _ _ _ h => h) (Or.inl ⟨by rfl,?_⟩) hHeld ?_ ?_
   rotate_left
   ·rintro w' ⟨s0,s1,s2,s3⟩
    go_simp
    with_reducible rfl
   rotate_left
   ·simp only [sPu,sIa,sCz,sCs,i64_w,i32_w]
    rfl
   refine take_ (i:=10) (N:=some 27) (v:=?_) (a':=?_) #[Y,Y,Y,Y,Y,Y,Y,Y,Y,Y,Y,Z,Z,Z,Z] rfl rfl (take_ofW HT_.out HW_.out (by kernel_rfl)) (fun _ _ _ h => h) (Or.inl ⟨by rfl,?_⟩) hHeld ?_ ?_
   rotate_left
   ·rintro w' ⟨s0,s1,s2,s3⟩
    go_simp
    with_reducible rfl
   rotate_left
   ·simp only [sPu,sIa,sCz,sCs,i64_w,i32_w]
    rfl
   refine pure_ (i:=11) (N:=some 28) (v:=?_) (a':=?_) #[Y,Y,Y,Y,Y,Y,Y,Y,Y,Y,Y,Y,Z,Z,Z] rfl rfl (any_of HT_.out (by kernel_rfl)) (fun _ _ _ h => h) (Or.inl ⟨by rfl,?_⟩) ?_ ?_
   rotate_left
   ·intro w'
    go_simp
    with_reducible rfl
   rotate_left
   ·simp only [sPu,sIa,sCz,sCs,i64_w,i32_w]
    rfl
   refine pure_ (i:=12) (N:=some 29) (v:=?_) (a':=?_) #[Y,Y,Y,Y,Y,Y,Y,Y,Y,Y,Y,Y,Y,Z,Z] rfl rfl (any_of HT_.out (by kernel_rfl)) (fun _ _ _ h => h) (Or.inl ⟨by rfl,?_⟩) ?_ ?_
   rotate_left
   ·intro w'
    go_simp
    with_reducible rfl
   rotate_left
   ·simp only [sPu,sIa,sCz,sCs,i64_w,i32_w]
    rfl
   refine one_ (i:=13) (N:=some 8) #[Y,Y,Y,Y,Y,Y,Y,Y,Y,Y,Y,Y,Y,Y,Z] rfl rfl (one_of HT_.out (by kernel_rfl)) (by decide) (fun K hK => ?_)
   refine box_step ?hg (N:=8) ?hd (cs:=#[.int .i64 0,.slice none 0 0]) (t:=96) ?hr ?_;(case hd => rfl);(case hg => rfl);(case hr => first|(go_simp;done)|(go_simp;rfl))
   intro gb239 hg w13 hbox hb
   have n0_:=Aside0.mk (Kd.V_below (Kd.V_elderB (by (with_reducible repeat (first|apply Kd.V_alloc|apply Kd.V_drewN|apply Kd.V_drew));exact HO_0.out) gb239 (Nat.le_of_eq hg.symm)) hb)
   have n1_:=Aside0.mk (Kd.N_below (Kd.N_elderB (by (with_reducible repeat (first|apply Kd.N_alloc|apply Kd.N_drewN|apply Kd.N_drew));exact HO_5.out) gb239 (Nat.le_of_eq hg.symm)) hb)
   have n2_:=Aside0.mk (below_step (by repeat (first|(with_reducible first|exact HB.out|apply below_alloc|apply pw_below_drewN|apply below_drew1)|exact HB.out)) hb)
   have n3_:=Aside0.mk (hbox)
   have n4_:=Aside0.mk ((by rw [hg];exact (below_size (by repeat (first|(with_reducible first|exact HB.out|apply below_alloc|apply pw_below_drewN|apply below_drew1)|exact HB.out))) : w.heap.size ≤ gb239))
   have n5_:=Aside0.mk ((by rw [hg];exact (below_size (by repeat (first|(with_reducible first|exact HB.out|apply below_alloc|apply pw_below_drewN|apply below_drew1)|exact HB.out))) : w.heap.size ≤ gb239))
   clear HO_0
   clear HO_5
   clear HB
   have HO_0:=n0_
   have HO_5:=n1_
   have HB:=n2_
   have BK239:=n3_
   have GW239:=n4_
   have GE239:=n5_
   clear n0_ n1_ n2_ n3_ n4_ n5_
   clear hb hbox hg
   refine hK.out _ _ ⟨((HB.out.cell (World.block_lt_of_cell? w _ hw237_0)).trans hw237_0),((HB.out.cell (World.block_lt_of_cell? w _ hw237_1)).trans hw237_1),((HB.out.cell (World.block_lt_of_cell? w _ hw238_0)).trans hw238_0),((HB.out.cell (World.block_lt_of_cell? w _ hw238_1)).trans hw238_1)⟩ (fun hHeld => ?_)
   clear hK K
   refine norm_ (a':=?_) ?_ ?_
   rotate_left
   ·show Act.put _ (some 8) _ = _
    simp only [sPu,sIa,sCz,sCs,i64_w,i32_w]
    rfl
   refine one_ (i:=14) (N:=none) #[Y,Y,Y,Y,Y,Y,Y,Y,Y,Y,Y,Y,Y,Y,Y] rfl rfl (one_of HT_.out (by kernel_rfl)) (by decide) (fun K hK => ?_)
   have hs14 : w13.cell? ⟨gb239,0,none⟩ = some (.int .i64 0):=(blk_cell BK239.out 0).trans rfl
   have hfs14:=blk_frozen BK239.out 0
   have hs15 : w13.cell? ⟨gb239,1,none⟩ = some (.slice none 0 0):=(blk_cell BK239.out 1).trans rfl
   have hfs15:=blk_frozen BK239.out 1
   refine skip_ (w1:=?_) (by rfl) rfl ?_ ?_
   rotate_left
   ·go_simp
    rfl
   refine hK.out _ _ ⟨((cell_far (p:=⟨gb239,_,none⟩) (by first|exact Nat.ne_of_lt (Nat.lt_of_lt_of_le (by have:=World.block_lt_of_cell? _ _ hw237_0;first|rwa [add_block] at this|exact this) GW239.out)|(rw [add_block];exact Nat.ne_of_lt (Nat.lt_of_lt_of_le (by have:=World.block_lt_of_cell? _ _ hw237_0;first|rwa [add_block] at this|exact this) GW239.out))|(show (Addr.add _ _).block ≠ _;rw [add_block];exact Nat.ne_of_lt (Nat.lt_of_lt_of_le (by have:=World.block_lt_of_cell? _ _ hw237_0;first|rwa [add_block] at this|exact this) GW239.out))|(dsimp only;exact Nat.ne_of_lt (Nat.lt_of_lt_of_le (by have:=World.block_lt_of_cell? _ _ hw237_0;first|rwa [add_block] at this|exact this) GW239.out))) _).trans (((cell_far (p:=⟨gb239,_,none⟩) (by first|exact Nat.ne_of_lt (Nat.lt_of_lt_of_le (by have:=World.block_lt_of_cell? _ _ hw237_0;first|rwa [add_block] at this|exact this) GW239.out)|(rw [add_block];exact Nat.ne_of_lt (Nat.lt_of_lt_of_le (by have:=World.block_lt_of_cell? _ _ hw237_0;first|rwa [add_block] at this|exact this) GW239.out))|(show (Addr.add _ _).block ≠ _;rw [add_block];exact Nat.ne_of_lt (Nat.lt_of_lt_of_le (by have:=World.block_lt_of_cell? _ _ hw237_0;first|rwa [add_block] at this|exact this) GW239.out))|(dsimp only;exact Nat.ne_of_lt (Nat.lt_of_lt_of_le (by have:=World.block_lt_of_cell? _ _ hw237_0;first|rwa [add_block] at this|exact this) GW239.out))) _).trans (hHeld.1)))),((cell_far (p:=⟨gb239,_,none⟩) (by first|exact Nat.ne_of_lt (Nat.lt_of_lt_of_le (by have:=World.block_lt_of_cell? _ _ hw237_1;first|rwa [add_block] at this|exact this) GW239.out)|(rw [add_block];exact Nat.ne_of_lt (Nat.lt_of_lt_of_le (by have:=World.block_lt_of_cell? _ _ hw237_1;first|rwa [add_block] at this|exact this) GW239.out))|(show (Addr.add _ _).block ≠ _;rw [add_block];exact Nat.ne_of_lt (Nat.lt_of_lt_of_le (by have:=World.block_lt_of_cell? _ _ hw237_1;first|rwa [add_block] at this|exact this) GW239.out))|(dsimp only;exact Nat.ne_of_lt (Nat.lt_of_lt_of_le (by have:=World.block_lt_of_cell? _ _ hw237_1;first|rwa [add_block] at this|exact this) GW239.out))) _).trans (((cell_far (p:=⟨gb239,_,none⟩) (by first|exact Nat.ne_of_lt (Nat.lt_of_lt_of_le (by have:=World.block_lt_of_cell? _ _ hw237_1;first|rwa [add_block] at this|exact this) GW239.out)|(rw [add_block];exact Nat.ne_of_lt (Nat.lt_of_lt_of_le (by have:=World.block_lt_of_cell? _ _ hw237_1;first|rwa [add_block] at this|exact this) GW239.out))|(show (Addr.add _ _).block ≠ _;rw [add_block];exact Nat.ne_of_lt (Nat.lt_of_lt_of_le (by have:=World.block_lt_of_cell? _ _ hw237_1;first|rwa [add_block] at this|exact this) GW239.out))|(dsimp only;exact Nat.ne_of_lt (Nat.lt_of_lt_of_le (by have:=World.block_lt_of_cell? _ _ hw237_1;first|rwa [add_block] at this|exact this) GW239.out))) _).trans (hHeld.2.1)))),((cell_far (p:=⟨gb239,_,none⟩) (by first|exact Nat.ne_of_lt (Nat.lt_of_lt_of_le (by have:=World.block_lt_of_cell? _ _ hw238_0;first|rwa [add_block] at this|exact this) GW239.out)|(rw [add_block];exact Nat.ne_of_lt (Nat.lt_of_lt_of_le (by have:=World.block_lt_of_cell? _ _ hw238_0;first|rwa [add_block] at this|exact this) GW239.out))|(show (Addr.add _ _).block ≠ _;rw [add_block];exact Nat.ne_of_lt (Nat.lt_of_lt_of_le (by have:=World.block_lt_of_cell? _ _ hw238_0;first|rwa [add_block] at this|exact this) GW239.out))|(dsimp only;exact Nat.ne_of_lt (Nat.lt_of_lt_of_le (by have:=World.block_lt_of_cell? _ _ hw238_0;first|rwa [add_block] at this|exact this) GW239.out))) _).trans (((cell_far (p:=⟨gb239,_,none⟩) (by first|exact Nat.ne_of_lt (Nat.lt_of_lt_of_le (by have:=World.block_lt_of_cell? _ _ hw238_0;first|rwa [add_block] at this|exact this) GW239.out)|(rw [add_block];exact Nat.ne_of_lt (Nat.lt_of_lt_of_le (by have:=World.block_lt_of_cell? _ _ hw238_0;first|rwa [add_block] at this|exact this) GW239.out))|(show (Addr.add _ _).block ≠ _;rw [add_block];exact Nat.ne_of_lt (Nat.lt_of_lt_of_le (by have:=World.block_lt_of_cell? _ _ hw238_0;first|rwa [add_block] at this|exact this) GW239.out))|(dsimp only;exact Nat.ne_of_lt (Nat.lt_of_lt_of_le (by have:=World.block_lt_of_cell? _ _ hw238_0;first|rwa [add_block] at this|exact this) GW239.out))) _).trans (hHeld.2.2.1)))),((cell_far (p:=⟨gb239,_,none⟩) (by first|exact Nat.ne_of_lt (Nat.lt_of_lt_of_le (by have:=World.block_lt_of_cell? _ _ hw238_1;first|rwa [add_block] at this|exact this) GW239.out)|(rw [add_block];exact Nat.ne_of_lt (Nat.lt_of_lt_of_le (by have:=World.block_lt_of_cell? _ _ hw238_1;first|rwa [add_block] at this|exact this) GW239.out))|(show (Addr.add _ _).block ≠ _;rw [add_block];exact Nat.ne_of_lt (Nat.lt_of_lt_of_le (by have:=World.block_lt_of_cell? _ _ hw238_1;first|rwa [add_block] at this|exact this) GW239.out))|(dsimp only;exact Nat.ne_of_lt (Nat.lt_of_lt_of_le (by have:=World.block_lt_of_cell? _ _ hw238_1;first|rwa [add_block] at this|exact this) GW239.out))) _).trans (((cell_far (p:=⟨gb239,_,none⟩) (by first|exact Nat.ne_of_lt (Nat.lt_of_lt_of_le (by have:=World.block_lt_of_cell? _ _ hw238_1;first|rwa [add_block] at this|exact this) GW239.out)|(rw [add_block];exact Nat.ne_of_lt (Nat.lt_of_lt_of_le (by have:=World.block_lt_of_cell? _ _ hw238_1;first|rwa [add_block] at this|exact this) GW239.out))|(show (Addr.add _ _).block ≠ _;rw [add_block];exact Nat.ne_of_lt (Nat.lt_of_lt_of_le (by have:=World.block_lt_of_cell? _ _ hw238_1;first|rwa [add_block] at this|exact this) GW239.out))|(dsimp only;exact Nat.ne_of_lt (Nat.lt_of_lt_of_le (by have:=World.block_lt_of_cell? _ _ hw238_1;first|rwa [add_block] at this|exact this) GW239.out))) _).trans (hHeld.2.2.2))))⟩ (fun hHeld => ?_)
   clear hK K
   refine done_ (done_of HT_.out (by kernel_rfl)) ?_
   try go_wp2
   have n0_ : Aside0 (Kd.V k96 96 ((w13.setCell ⟨gb239,0,none⟩ (.int .i64 (wrap64 (((rd_T96 l1 x7_1).f0) + ((rd_T96 l1 (ji8)).f0))))).setCell ⟨gb239,1,none⟩ (.slice none 0 0)) w.heap.size (fun k_ => (P0_ k_ ∨ w.heap.size ≤ k_)∧some k_ ≠ (u5 : Value).ownBlock∧k_ ≠ gb239) (.slice A0 l0.length c0) l0):=⟨by (with_reducible repeat (first|apply Kd.V_alloc|apply Kd.V_drewN|apply Kd.V_drew));exact Kd.V_mono (Kd.V_far (p:=⟨gb239,1,none⟩) (Kd.V_far (p:=⟨gb239,0,none⟩) (Kd.V_mono HO_0.out (fun k_ hk => (⟨hk,hk.2⟩ : _∧k_ ≠ gb239))) (fun _ hk => hk.2) (.int .i64 (wrap64 (((rd_T96 l1 x7_1).f0) + ((rd_T96 l1 (ji8)).f0))))) (fun _ hk => hk.2) (.slice none 0 0)) (fun _ hk => ⟨hk.1.1.1,⟨hk.1.1.2,hk.1.2⟩⟩)⟩
   have n1_ : Aside0 (Kd.N k96 96 ((w13.setCell ⟨gb239,0,none⟩ (.int .i64 (wrap64 (((rd_T96 l1 x7_1).f0) + ((rd_T96 l1 (ji8)).f0))))).setCell ⟨gb239,1,none⟩ (.slice none 0 0)) w.heap.size (fun k_ => (P0_ k_ ∨ w.heap.size ≤ k_)∧k_ ≠ gb239) u5 x5_1):=⟨by (with_reducible repeat (first|apply Kd.N_alloc|apply Kd.N_drewN|apply Kd.N_drew));exact Kd.N_mono (Kd.N_far (p:=⟨gb239,1,none⟩) (Kd.N_far (p:=⟨gb239,0,none⟩) (Kd.N_mono HO_5.out (fun k_ hk => (⟨hk,hk.2⟩ : _∧k_ ≠ gb239))) (fun _ hk => hk.2) (.int .i64 (wrap64 (((rd_T96 l1 x7_1).f0) + ((rd_T96 l1 (ji8)).f0))))) (fun _ hk => hk.2) (.slice none 0 0)) (fun _ hk => ⟨hk.1.1,hk.1.2⟩)⟩
   have n2_ : Aside0 (((w13.setCell ⟨gb239,0,none⟩ (.int .i64 (wrap64 (((rd_T96 l1 x7_1).f0) + ((rd_T96 l1 (ji8)).f0))))).setCell ⟨gb239,1,none⟩ (.slice none 0 0)).heap[gb239]? = some (.cells #[.int .i64 (wrap64 (((rd_T96 l1 x7_1).f0) + ((rd_T96 l1 (ji8)).f0))),.slice none 0 0] 96 (0,0))):=⟨by (with_reducible repeat (first|refine blk_drewN ?_ _|refine blk_drew ?_|refine blk_alloc ?_ _));refine blk_put (cs:=#[.int .i64 (wrap64 (((rd_T96 l1 x7_1).f0) + ((rd_T96 l1 (ji8)).f0))),.slice none 0 0]) ?_ 1 _ rfl;(with_reducible repeat (first|refine blk_drewN ?_ _|refine blk_drew ?_|refine blk_alloc ?_ _));refine blk_put (cs:=#[.int .i64 0,.slice none 0 0]) ?_ 0 _ rfl;(with_reducible repeat (first|refine blk_drewN ?_ _|refine blk_drew ?_|refine blk_alloc ?_ _));exact BK239.out⟩
   have n3_ : Aside0 (Below w.heap.size w ((w13.setCell ⟨gb239,0,none⟩ (.int .i64 (wrap64 (((rd_T96 l1 x7_1).f0) + ((rd_T96 l1 (ji8)).f0))))).setCell ⟨gb239,1,none⟩ (.slice none 0 0))):=⟨by repeat (first|(with_reducible first|exact HB.out|apply below_alloc|apply pw_below_drewN|apply below_drew1|refine below_set ?_ GE239.out)|exact HB.out)⟩
   (try clear HO_0)
   (try clear HO_5)
   (try clear BK239)
   (try clear HB)
   generalize ((w13.setCell ⟨gb239,0,none⟩ (.int .i64 (wrap64 (((rd_T96 l1 x7_1).f0) + ((rd_T96 l1 (ji8)).f0))))).setCell ⟨gb239,1,none⟩ (.slice none 0 0)) = w16 at n0_ n1_ n2_ n3_ ⊢
   have HO_0:=n0_
   have HO_5:=n1_
   have BK239:=n2_
   have HB:=n3_
   clear n0_ n1_ n2_ n3_
   have n0_:=Aside0.mk (Kd.V_drew HO_0.out)
   have n1_:=Aside0.mk (Kd.N_drew HO_5.out)
   have n2_:=Aside0.mk (blk_drew BK239.out)
   have n3_:=Aside0.mk (below_drew1 HB.out)
   clear HO_0
   clear HO_5
   clear BK239
   clear HB
   have HO_0:=n0_
   have HO_5:=n1_
   have BK239:=n2_
   have HB:=n3_
   clear n0_ n1_ n2_ n3_
   have p240 : 0 ≤ (x7_1 : Int):=of_decide_eq_true (by assumption)
   have q240 : x7_1 < (l1.length : Int):=of_decide_eq_true (by assumption)
   obtain ⟨ad240,A240_1,c240_1,e240,hx240_0,hx240_1,hl240_1,hi240_1⟩:=at_T96 HR1.out x7_1 p240 q240
   have hw240_1:=hx240_1
   have hw240_0:=hx240_0
   obtain rfl : ad237 = ad240:=(by injection e240)
   replace hx240_0:=(HB.out.cell (World.block_lt_of_cell? w _ hx240_0)).trans hx240_0
   replace hx240_1:=(HB.out.cell (World.block_lt_of_cell? w _ hx240_1)).trans hx240_1
   have HR240_1:=Aside0.mk hi240_1
   have HC240_1:=Aside0.mk hl240_1
   clear hi240_1 hl240_1
   replace p240:=eq_true p240
   replace q240:=eq_true q240
   have p244 : 0 ≤ ((ji8) : Int):=of_decide_eq_true (by assumption)
   have q244 : (ji8) < (l1.length : Int):=of_decide_eq_true (by assumption)
   obtain ⟨ad244,A244_1,c244_1,e244,hx244_0,hx244_1,hl244_1,hi244_1⟩:=at_T96 HR1.out (ji8) p244 q244
   have hw244_1:=hx244_1
   have hw244_0:=hx244_0
   obtain rfl : ad237 = ad244:=(by injection e244)
   replace hx244_0:=(HB.out.cell (World.block_lt_of_cell? w _ hx244_0)).trans hx244_0
   replace hx244_1:=(HB.out.cell (World.block_lt_of_cell? w _ hx244_1)).trans hx244_1
   have HR244_1:=Aside0.mk hi244_1
   have HC244_1:=Aside0.mk hl244_1
   clear hi244_1 hl244_1
   replace p244:=eq_true p244
   replace q244:=eq_true q244
   refine start_ (n:=17) (S:=fun w' => w'.cell? ⟨gb239,0,none⟩ = some (.int .i64 (wrap64 (((rd_T96 l1 x7_1).f0) + ((rd_T96 l1 (ji8)).f0))))∧w'.cell? ⟨gb239,1,none⟩ = some (.slice none 0 0)∧w'.cell? (ad237.add ((x7_1).toNat * 2)) = some (.int .i64 ((rd_T96 l1 x7_1).f0))∧w'.cell? ⟨(ad237.add ((x7_1).toNat * 2)).block,(ad237.add ((x7_1).toNat * 2)).off + 1,none⟩ = some (.slice A240_1 ((rd_T96 l1 x7_1).f1).length c240_1)∧w'.cell? (ad237.add (((ji8)).toNat * 2)) = some (.int .i64 ((rd_T96 l1 (ji8)).f0))∧w'.cell? ⟨(ad237.add (((ji8)).toNat * 2)).block,(ad237.add (((ji8)).toNat * 2)).off + 1,none⟩ = some (.slice A244_1 ((rd_T96 l1 (ji8)).f1).length c244_1)) (ds:=[16]) #[Z,Z,Z,Z,Z,Z,Z,Z,Z,Z,Z,Z,Z,Z,Z,Z,Z] (by kernel_rfl) rfl rfl ⟨(blk_cell BK239.out 0).trans rfl,(blk_cell BK239.out 1).trans rfl,((HB.out.cell (World.block_lt_of_cell? w _ hw240_0)).trans hw240_0),((HB.out.cell (World.block_lt_of_cell? w _ hw240_1)).trans hw240_1),((HB.out.cell (World.block_lt_of_cell? w _ hw244_0)).trans hw244_0),((HB.out.cell (World.block_lt_of_cell? w _ hw244_1)).trans hw244_1)⟩ (fun hHeld => ?_);refine with_tabW spec_l04Next.tab7 spec_l04Next.bits7 (fun HT_ HW_ => ?_)
   generalize w16.drew = w17 at HO_0 HO_5 BK239 HB HR240_1 HR244_1 hx240_0 hx240_1 hx244_0 hx244_1 hHeld ⊢
   refine pure_ (i:=0) (N:=some 30) (v:=?_) (a':=?_) #[Y,Z,Z,Z,Z,Z,Z,Z,Z,Z,Z,Z,Z,Z,Z,Z,Z] rfl rfl (any_of HT_.out (by kernel_rfl)) (fun _ _ _ h => h) (Or.inl ⟨by rfl,?_⟩) ?_ ?_
   rotate_left
   ·intro w'
    go_simp
    with_reducible rfl
   rotate_left
   ·simp only [sPu,sIa,sCz,sCs,i64_w,i32_w]
    rfl
   refine pure_ (i:=2) (N:=some 32) (v:=?_) (a':=?_) #[Y,Z,Y,Z,Z,Z,Z,Z,Z,Z,Z,Z,Z,Z,Z,Z,Z] rfl rfl (any_of HT_.out (by kernel_rfl)) (fun _ _ _ h => h) (Or.inl ⟨by rfl,?_⟩) ?_ ?_
   rotate_left
   ·intro w'
    go_simp
    with_reducible rfl
   rotate_left
   ·simp only [sPu,sIa,sCz,sCs,i64_w,i32_w]
    rfl
   refine pure_ (i:=3) (N:=some 33) (v:=?_) (a':=?_) #[Y,Z,Y,Y,Z,Z,Z,Z,Z,Z,Z,Z,Z,Z,Z,Z,Z] rfl rfl (any_of HT_.out (by kernel_rfl)) (fun _ _ _ h => h) (Or.inl ⟨by rfl,?_⟩) ?_ ?_
   rotate_left
   ·intro w'
    go_simp
    with_reducible rfl
   rotate_left
   ·simp only [sPu,sIa,sCz,sCs,i64_w,i32_w]
    rfl
   refine pure_ (i:=4) (N:=some 34) (v:=?_) (a':=?_) #[Y,Z,Y,Y,Y,Z,Z,Z,Z,Z,Z,Z,Z,Z,Z,Z,Z] rfl rfl (any_of HT_.out (by kernel_rfl)) (fun _ _ _ h => h) (Or.inl ⟨by rfl,?_⟩) ?_ ?_
   rotate_left
   ·intro w'
    go_simp
    with_reducible rfl
   rotate_left
   ·simp only [sPu,sIa,sCz,sCs,i64_w,i32_w]
    rfl
   refine pure_ (i:=5) (N:=some 35) (v:=?_) (a':=?_) #[Y,Z,Y,Y,Y,Y,Z,Z,Z,Z,Z,Z,Z,Z,Z,Z,Z] rfl rfl (any_of HT_.out (by kernel_rfl)) (fun _ _ _ h => h) (Or.inl ⟨by rfl,?_⟩) ?_ ?_
   rotate_left
   ·intro w'
    go_simp
    with_reducible rfl
   rotate_left
   ·simp only [sPu,sIa,sCz,sCs,i64_w,i32_w]
    rfl
   refine pure_ (i:=8) (N:=some 38) (v:=?_) (a':=?_) #[Y,Z,Y,Y,Y,Y,Z,Z,Y,Z,Z,Z,Z,Z,Z,Z,Z] rfl rfl (any_of HT_.out (by kernel_rfl)) (fun _ _ _ h => h) (Or.inl ⟨by rfl,?_⟩) ?_ ?_
   rotate_left
   ·intro w'
    go_simp
    with_reducible rfl
   rotate_left
   ·simp only [sPu,sIa,sCz,sCs,i64_w,i32_w]
    rfl
   refine pure_ (i:=9) (N:=some 39) (v:=?_) (a':=?_) #[Y,Z,Y,Y,Y,Y,Z,Z,Y,Y,Z,Z,Z,Z,Z,Z,Z] rfl rfl (any_of HT_.out (by kernel_rfl)) (fun _ _ _ h => h) (Or.inl ⟨by rfl,?_⟩) ?_ ?_
   rotate_left
   ·intro w'
    go_simp
    with_reducible rfl
   rotate_left
   ·simp only [sPu,sIa,sCz,sCs,i64_w,i32_w]
    rfl
   refine pure_ (i:=10) (N:=some 40) (v:=?_) (a':=?_) #[Y,Z,Y,Y,Y,Y,Z,Z,Y,Y,Y,Z,Z,Z,Z,Z,Z] rfl rfl (any_of HT_.out (by kernel_rfl)) (fun _ _ _ h => h) (Or.inl ⟨by rfl,?_⟩) ?_ ?_
   rotate_left
   ·intro w'
    go_simp
    with_reducible rfl
   rotate_left
   ·simp only [sPu,sIa,sCz,sCs,i64_w,i32_w]
    rfl
   refine pure_ (i:=11) (N:=some 41) (v:=?_) (a':=?_) #[Y,Z,Y,Y,Y,Y,Z,Z,Y,Y,Y,Y,Z,Z,Z,Z,Z] rfl rfl (any_of HT_.out (by kernel_rfl)) (fun _ _ _ h => h) (Or.inl ⟨by rfl,?_⟩) ?_ ?_
   rotate_left
   ·intro w'
    go_simp
    with_reducible rfl
   rotate_left
   ·simp only [sPu,sIa,sCz,sCs,i64_w,i32_w]
    rfl
   refine pure_ (i:=12) (N:=some 42) (v:=?_) (a':=?_) #[Y,Z,Y,Y,Y,Y,Z,Z,Y,Y,Y,Y,Y,Z,Z,Z,Z] rfl rfl (any_of HT_.out (by kernel_rfl)) (fun _ _ _ h => h) (Or.inl ⟨by rfl,?_⟩) ?_ ?_
   rotate_left
   ·intro w'
    go_simp
    with_reducible rfl
   rotate_left
   ·simp only [sPu,sIa,sCz,sCs,i64_w,i32_w]
    rfl
   refine take_ (i:=1) (N:=some 31) (v:=?_) (a':=?_) #[Y,Y,Y,Y,Y,Y,Z,Z,Y,Y,Y,Y,Y,Z,Z,Z,Z] rfl rfl (take_ofW HT_.out HW_.out (by kernel_rfl)) (fun _ _ _ h => h) (Or.inl ⟨by rfl,?_⟩) hHeld ?_ ?_
   rotate_left
   ·rintro w' ⟨s0,s1,s2,s3,s4,s5⟩
    go_simp
    with_reducible rfl
   rotate_left
   ·simp only [sPu,sIa,sCz,sCs,i64_w,i32_w]
    rfl
   refine take_ (i:=6) (N:=some 36) (v:=?_) (a':=?_) #[Y,Y,Y,Y,Y,Y,Y,Z,Y,Y,Y,Y,Y,Z,Z,Z,Z] rfl rfl (take_ofW HT_.out HW_.out (by kernel_rfl)) (fun _ _ _ h => h) (Or.inl ⟨by rfl,?_⟩) hHeld ?_ ?_
   rotate_left
   ·rintro w' ⟨s0,s1,s2,s3,s4,s5⟩
    go_simp
    with_reducible rfl
   rotate_left
   ·simp only [sPu,sIa,sCz,sCs,i64_w,i32_w]
    rfl
   refine take_ (i:=13) (N:=some 43) (v:=?_) (a':=?_) #[Y,Y,Y,Y,Y,Y,Y,Z,Y,Y,Y,Y,Y,Y,Z,Z,Z] rfl rfl (take_ofW HT_.out HW_.out (by kernel_rfl)) (fun _ _ _ h => h) (Or.inl ⟨by rfl,?_⟩) hHeld ?_ ?_
   rotate_left
   ·rintro w' ⟨s0,s1,s2,s3,s4,s5⟩
    go_simp
    with_reducible rfl
   rotate_left
   ·simp only [sPu,sIa,sCz,sCs,i64_w,i32_w]
    rfl
   refine one_ (i:=7) (N:=some 37) #[Y,Y,Y,Y,Y,Y,Y,Y,Y,Y,Y,Y,Y,Y,Z,Z,Z] rfl rfl (one_of HT_.out (by kernel_rfl)) (by decide) (fun K hK => ?_)
   refine Kd.R_append_rows_step (Kd.int .i64) (w0:=w) w.heap.size (by rfl) (.tmp 31) (.tmp 36) 22 3 (.int .i64 0) 8 rfl Try.underlying22 info3 rfl (by decide) (by omega) (.slice none 0 0) ([] : List Int) ((rd_T96 l1 x7_1).f1) _ _ _ (fun k_ => (w.heap.size ≤ k_)) (fun _ => False) rfl rfl ?aO ?aR (fun _ _ h => h) (fun _ h => h.elim) ?aF ?aB ?aS ?aL ?_
   (case aR => repeat (first|exact (Kd.C_below HR240_1.out HB.out)|(with_reducible refine Kd.C_alloc ?_ _)|(with_reducible refine Kd.C_drewN ?_ _)|(with_reducible refine Kd.C_drew ?_)))
   (case aB => exact (by repeat (first|(with_reducible first|exact HB.out|apply below_alloc|apply pw_below_drewN|apply below_drew1|refine below_set ?_ GE239.out)|exact HB.out)))
   (case aF => exact (fun k_ hk => (Nat.le_trans (below_size (by repeat (first|(with_reducible first|exact HB.out|apply below_alloc|apply pw_below_drewN|apply below_drew1|refine below_set ?_ GE239.out)|exact HB.out))) hk)))
   (case aO => exact ((Kd.R_nil _ _ _ _ (fun k_ => (w.heap.size ≤ k_)))))
   (case aS => exact (below_size (by repeat (first|(with_reducible first|exact HB.out|apply below_alloc|apply pw_below_drewN|apply below_drew1|refine below_set ?_ GE239.out)|exact HB.out))))
   (case aL => have:=LMc10.out;omega)
   intro v242 w18 ho hb hg hat
   rw [← Ny241.out] at ho
   have n0_:=Aside0.mk (Kd.V_afterv (Kd.V_apart_nil (by (with_reducible repeat (first|apply Kd.V_alloc|apply Kd.V_drewN|apply Kd.V_drew));exact HO_0.out)) hg hat)
   have n1_:=Aside0.mk (Kd.N_afterv (Kd.N_apart_nil (by (with_reducible repeat (first|apply Kd.N_alloc|apply Kd.N_drewN|apply Kd.N_drew));exact HO_5.out)) hg hat)
   have n2_:=Aside0.mk (blk_grown (g:=gb239) (o:=.cells #[.int .i64 (wrap64 (((rd_T96 l1 x7_1).f0) + ((rd_T96 l1 (ji8)).f0))),.slice none 0 0] 96 (0,0)) (by (with_reducible repeat (first|refine blk_drewN ?_ _|refine blk_drew ?_|refine blk_alloc ?_ _));exact BK239.out) hg (by simp [Value.ownBlock]))
   have n3_:=Aside0.mk (hb)
   have n4_:=Aside0.mk (ho)
   clear HO_0
   clear HO_5
   clear BK239
   clear HB
   have HO_0:=n0_
   have HO_5:=n1_
   have BK239:=n2_
   have HB:=n3_
   have HO243:=n4_
   clear n0_ n1_ n2_ n3_ n4_
   clear ho hb hg hat
   refine hK.out _ _ ⟨(blk_cell BK239.out 0).trans rfl,(blk_cell BK239.out 1).trans rfl,((HB.out.cell (World.block_lt_of_cell? w _ hw240_0)).trans hw240_0),((HB.out.cell (World.block_lt_of_cell? w _ hw240_1)).trans hw240_1),((HB.out.cell (World.block_lt_of_cell? w _ hw244_0)).trans hw244_0),((HB.out.cell (World.block_lt_of_cell? w _ hw244_1)).trans hw244_1)⟩ (fun hHeld => ?_)
   clear hK K
   refine norm_ (a':=?_) ?_ ?_
   rotate_left
   ·show Act.put _ (some 37) _ = _
    simp only [sPu,sIa,sCz,sCs,i64_w,i32_w]
    rfl
   refine one_ (i:=14) (N:=some 44) #[Y,Y,Y,Y,Y,Y,Y,Y,Y,Y,Y,Y,Y,Y,Y,Z,Z] rfl rfl (one_of HT_.out (by kernel_rfl)) (by decide) (fun K hK => ?_)
   refine Kd.R_append_rows_step (Kd.int .i64) (w0:=w) w.heap.size (by rfl) (.tmp 37) (.tmp 43) 22 3 (.int .i64 0) 8 rfl Try.underlying22 info3 rfl (by decide) (by omega) v242 y241 ((rd_T96 l1 (ji8)).f1) _ _ _ (fun k_ => (w.heap.size ≤ k_)) (fun _ => False) rfl rfl ?aO ?aR (fun _ _ h => h) (fun _ h => h.elim) ?aF ?aB ?aS ?aL ?_
   (case aR => repeat (first|exact (Kd.C_below HR244_1.out HB.out)|(with_reducible refine Kd.C_alloc ?_ _)|(with_reducible refine Kd.C_drewN ?_ _)|(with_reducible refine Kd.C_drew ?_)))
   (case aB => exact (by repeat (first|(with_reducible first|exact HB.out|apply below_alloc|apply pw_below_drewN|apply below_drew1|refine below_set ?_ GE239.out)|exact HB.out)))
   (case aF => exact (fun k_ hk => (Nat.le_trans (below_size (by repeat (first|(with_reducible first|exact HB.out|apply below_alloc|apply pw_below_drewN|apply below_drew1|refine below_set ?_ GE239.out)|exact HB.out))) hk)))
   (case aO => exact (by (with_reducible repeat (first|apply Kd.R_alloc|apply Kd.R_drewN|apply Kd.R_drew));exact HO243.out))
   (case aS => exact (below_size (by repeat (first|(with_reducible first|exact HB.out|apply below_alloc|apply pw_below_drewN|apply below_drew1|refine below_set ?_ GE239.out)|exact HB.out))))
   (case aL => have:=LMc11.out;omega)
   intro v246 w19 ho hb hg hat
   rw [← Ny245.out] at ho
   have n0_:=Aside0.mk (Kd.V_afterv (ok:=(fun k_ => (P0_ k_ ∨ w.heap.size ≤ k_)∧some k_ ≠ (u5 : Value).ownBlock∧k_ ≠ gb239)) (by (with_reducible repeat (first|apply Kd.V_alloc|apply Kd.V_drewN|apply Kd.V_drew));exact HO_0.out) hg hat)
   have n1_:=Aside0.mk (Kd.N_afterv (ok:=(fun k_ => (P0_ k_ ∨ w.heap.size ≤ k_)∧k_ ≠ gb239)) (by (with_reducible repeat (first|apply Kd.N_alloc|apply Kd.N_drewN|apply Kd.N_drew));exact HO_5.out) hg hat)
   have n2_:=Aside0.mk (blk_grown (g:=gb239) (o:=.cells #[.int .i64 (wrap64 (((rd_T96 l1 x7_1).f0) + ((rd_T96 l1 (ji8)).f0))),.slice none 0 0] 96 (0,0)) (by (with_reducible repeat (first|refine blk_drewN ?_ _|refine blk_drew ?_|refine blk_alloc ?_ _));exact BK239.out) hg (Kd.R_ne HO243.out BK239.out (by decide)))
   have n3_:=Aside0.mk (hb)
   have n4_:=Aside0.mk (ho)
   clear HO_0
   clear HO_5
   clear BK239
   clear HB
   clear HO243
   have HO_0:=n0_
   have HO_5:=n1_
   have BK239:=n2_
   have HB:=n3_
   have HO247:=n4_
   clear n0_ n1_ n2_ n3_ n4_
   clear ho hb hg hat
   obtain ⟨Ao20,co20,eo20⟩:=Kd.R_slice HO247.out
   (first|subst eo20|(injection eo20 with f1_ f2_ f3_;have f4_:=f1_.symm;have f5_:=f3_.symm;clear f1_ f2_ f3_;subst f4_;subst f5_))
   refine hK.out _ _ ⟨(blk_cell BK239.out 0).trans rfl,(blk_cell BK239.out 1).trans rfl,((HB.out.cell (World.block_lt_of_cell? w _ hw240_0)).trans hw240_0),((HB.out.cell (World.block_lt_of_cell? w _ hw240_1)).trans hw240_1),((HB.out.cell (World.block_lt_of_cell? w _ hw244_0)).trans hw244_0),((HB.out.cell (World.block_lt_of_cell? w _ hw244_1)).trans hw244_1)⟩ (fun hHeld => ?_)
   clear hK K
   refine norm_ (a':=?_) ?_ ?_
   rotate_left
   ·show Act.put _ (some 44) _ = _
    simp only [sPu,sIa,sCz,sCs,i64_w,i32_w]
    rfl
   refine pure_ (i:=15) (N:=some 45) (v:=?_) (a':=?_) #[Y,Y,Y,Y,Y,Y,Y,Y,Y,Y,Y,Y,Y,Y,Y,Y,Z] rfl rfl (any_of HT_.out (by kernel_rfl)) (fun _ _ _ h => h) (Or.inl ⟨by rfl,?_⟩) ?_ ?_
   rotate_left
   ·intro w'
    go_simp
    with_reducible rfl
   rotate_left
   ·simp only [sPu,sIa,sCz,sCs,i64_w,i32_w]
    rfl
   refine last_ (i:=16) (N:=none) #[Y,Y,Y,Y,Y,Y,Y,Y,Y,Y,Y,Y,Y,Y,Y,Y,Y] rfl rfl (one_of HT_.out (by kernel_rfl)) (by decide) (fun K hK => ?_)
   have hs21 : w19.cell? ⟨gb239,1,none⟩ = some (.slice none 0 0):=(blk_cell BK239.out 1).trans rfl
   have hfs21:=blk_frozen BK239.out 1
   refine skip_ (w1:=?_) (by rfl) rfl ?_ ?_
   rotate_left
   ·go_simp
    rfl
   refine hK.out _ _ ?_
   clear hK K
   refine done_ (done_of HT_.out (by kernel_rfl)) ?_
   try go_wp2
   go_loopg [5,6] k1 (fun kq v5 v6 w' => ∃ (x5_2 : List (S96)) (x6_2 : Int),v6 = .int .i64 x6_2∧Aside0 (spec_l04Next.l1 kq l0 l1 x5_2 x6_2 x7_1 (wrap64 (((rd_T96 l1 x7_1).f0) + ((rd_T96 l1 (ji8)).f0))) y245 = some r)∧Aside0 (kq ≤ k1)∧Aside0 (Kd.V k96 96 w' w.heap.size (fun k_ => (P0_ k_ ∨ w.heap.size ≤ k_)∧some k_ ≠ (v5 : Value).ownBlock∧some k_ ≠ ((.slice Ao20 y245.length co20) : Value).ownBlock∧k_ ≠ gb239) (.slice A0 l0.length c0) l0)∧Aside0 (Kd.N k96 96 w' w.heap.size (fun k_ => (P0_ k_ ∨ w.heap.size ≤ k_)∧some k_ ≠ ((.slice Ao20 y245.length co20) : Value).ownBlock∧k_ ≠ gb239) v5 x5_2)∧Aside0 (Kd.R (Kd.int .i64) 3 w' w.heap.size (fun k_ => (w.heap.size ≤ k_)) (.slice Ao20 y245.length co20) y245)∧Aside0 (w'.heap[gb239]? = some (.cells #[.int .i64 (wrap64 (((rd_T96 l1 x7_1).f0) + ((rd_T96 l1 (ji8)).f0))),(.slice Ao20 y245.length co20)] 96 (0,0)))∧Aside0 (Below w.heap.size w w'))
   case atStart => exact ⟨(x5_1),(x6_1),(by first|rfl|(simp;done)|(simp [*];done)),H',⟨Nat.le_refl _⟩,⟨by (with_reducible repeat (first|apply Kd.V_alloc|apply Kd.V_drewN|apply Kd.V_drew));exact Kd.V_mono (Kd.V_far (p:=⟨gb239,1,none⟩) (Kd.V_mono HO_0.out (fun k_ hk => (⟨hk,hk.1.2.2⟩ : _∧k_ ≠ gb239))) (fun _ hk => hk.2) (.slice Ao20 y245.length co20)) (fun _ hk => ⟨hk.1.1.1,⟨hk.1.1.2.1,⟨hk.1.2,hk.1.1.2.2⟩⟩⟩)⟩,⟨by (with_reducible repeat (first|apply Kd.N_alloc|apply Kd.N_drewN|apply Kd.N_drew));exact Kd.N_mono (Kd.N_far (p:=⟨gb239,1,none⟩) (Kd.N_mono HO_5.out (fun k_ hk => (⟨hk,hk.1.2⟩ : _∧k_ ≠ gb239))) (fun _ hk => hk.2) (.slice Ao20 y245.length co20)) (fun _ hk => ⟨hk.1.1.1,⟨hk.1.2,hk.1.1.2⟩⟩)⟩,⟨by (with_reducible repeat (first|apply Kd.R_alloc|apply Kd.R_drewN|apply Kd.R_drew));exact Kd.R_mono (Kd.R_far (p:=⟨gb239,1,none⟩) (Kd.R_types HO247.out BK239.out (by decide)) (fun _ hk => hk.2) (.slice Ao20 y245.length co20)) (fun _ hk => hk.1)⟩,⟨by (with_reducible repeat (first|refine blk_drewN ?_ _|refine blk_drew ?_|refine blk_alloc ?_ _));refine blk_put (cs:=#[.int .i64 (wrap64 (((rd_T96 l1 x7_1).f0) + ((rd_T96 l1 (ji8)).f0))),.slice none 0 0]) ?_ 1 _ rfl;(with_reducible repeat (first|refine blk_drewN ?_ _|refine blk_drew ?_|refine blk_alloc ?_ _));exact BK239.out⟩,⟨by repeat (first|(with_reducible first|exact HB.out|apply below_alloc|apply pw_below_drewN|apply below_drew1|refine below_set ?_ GE239.out)|exact HB.out)⟩⟩
   case round =>
    clear H'
    obtain ⟨x5_2,x6_2,rfl,HA,HK2,HO_0,HO_5,HO_240001,BK239,HB⟩:=hrel
    cases gk with
    | zero => exact absurd HA.out (by simp [spec_l04Next.l1])
    | succ k2 =>
     have H:=HA.out
     clear HA
     simp only [spec_l04Next.l1] at H
     by_cases c22 : x6_2 < (l0.length : Int)
     rotate_left
     ·rw [if_neg c22] at H
      have c22b0 : decide (x6_2 < (l0.length : Int)) = false:=decide_eq_false c22
      clear c22
      by_cases c32 : x5_2.length < 4398046511104
      rotate_left
      ·rw [if_neg c32] at H
       exact absurd H (by simp)
      rw [if_pos c32] at H
      have LMc32:=Aside0.mk c32
      clear c32
      obtain ⟨y256,hy256⟩ : ∃ y_ : List (S96),y_ = (x5_2 ++ [(⟨(wrap64 (((rd_T96 l1 x7_1).f0) + ((rd_T96 l1 (ji8)).f0))),y245⟩ : S96)]):=⟨_,rfl⟩
      replace H : (spec_l04Next.l0 k2 l0 l1 y256 x6_2 (wrap64 (x7_1 + 2))) = some r:=by first|(rw [hy256];with_reducible exact H)|(have H2_:=(Option.bind_some _ _).symm.trans H;rw [hy256];with_reducible exact H2_)|(have H2_:=(Option.bind_some _ _).symm.trans H;with_reducible exact H2_)|with_reducible exact H|(rw [hy256];exact H)|exact H
      have Ny256:=Aside0.mk hy256
      clear hy256
      have H':=Aside0.mk H
      clear H
      try go_wp2
      have n0_:=Aside0.mk (Kd.V_drew HO_0.out)
      have n1_:=Aside0.mk (Kd.N_drew HO_5.out)
      have n2_:=Aside0.mk (Kd.R_drew HO_240001.out)
      have n3_:=Aside0.mk (blk_drew BK239.out)
      have n4_:=Aside0.mk (below_drew1 HB.out)
      clear HO_0
      clear HO_5
      clear HO_240001
      clear BK239
      clear HB
      have HO_0:=n0_
      have HO_5:=n1_
      have HO_240001:=n2_
      have BK239:=n3_
      have HB:=n4_
      clear n0_ n1_ n2_ n3_ n4_
      refine start_ (n:=14) (S:=fun w' => True) (ds:=[]) #[Z,Z,Z,Z,Z,Z,Z,Z,Z,Z,Z,Z,Z,Z] (by kernel_rfl) rfl rfl trivial (fun hHeld => ?_);refine with_tabW spec_l04Next.tab8 spec_l04Next.bits8 (fun HT_ HW_ => ?_)
      generalize wr.drew = w33 at HO_0 HO_5 HO_240001 BK239 HB hHeld ⊢
      refine pure_ (i:=0) (N:=some 46) (v:=?_) (a':=?_) #[Y,Z,Z,Z,Z,Z,Z,Z,Z,Z,Z,Z,Z,Z] rfl rfl (any_of HT_.out (by kernel_rfl)) (fun _ _ _ h => h) (Or.inl ⟨by rfl,?_⟩) ?_ ?_
      rotate_left
      ·intro w'
       go_simp
       with_reducible rfl
      rotate_left
      ·simp only [sPu,sIa,sCz,sCs,i64_w,i32_w]
       rfl
      refine pure_ (i:=1) (N:=some 47) (v:=?_) (a':=?_) #[Y,Y,Z,Z,Z,Z,Z,Z,Z,Z,Z,Z,Z,Z] rfl rfl (any_of HT_.out (by kernel_rfl)) (fun _ _ _ h => h) (Or.inl ⟨by rfl,?_⟩) ?_ ?_
      rotate_left
      ·intro w'
       go_simp
       with_reducible rfl
      rotate_left
      ·simp only [sPu,sIa,sCz,sCs,i64_w,i32_w]
       rfl
      refine pure_ (i:=2) (N:=some 48) (v:=?_) (a':=?_) #[Y,Y,Y,Z,Z,Z,Z,Z,Z,Z,Z,Z,Z,Z] rfl rfl (any_of HT_.out (by kernel_rfl)) (fun _ _ _ h => h) (Or.inl ⟨by rfl,?_⟩) ?_ ?_
      rotate_left
      ·intro w'
       go_simp
       with_reducible rfl
      rotate_left
      ·simp only [sPu,sIa,sCz,sCs,i64_w,i32_w]
       rfl
      refine pure_ (i:=3) (N:=some 49) (v:=?_) (a':=?_) #[Y,Y,Y,Y,Z,Z,Z,Z,Z,Z,Z,Z,Z,Z] rfl rfl (any_of HT_.out (by kernel_rfl)) (fun _ _ _ h => h) (Or.inl ⟨by rfl,?_⟩) ?_ ?_
      rotate_left
      ·intro w'
       go_simp
       with_reducible rfl
      rotate_left
      ·simp only [sPu,sIa,sCz,sCs,i64_w,i32_w]
       rfl
      refine pure_ (i:=4) (N:=some 50) (v:=?_) (a':=?_) #[Y,Y,Y,Y,Y,Z,Z,Z,Z,Z,Z,Z,Z,Z] rfl rfl (any_of HT_.out (by kernel_rfl)) (fun _ _ _ h => h) (Or.inl ⟨by rfl,?_⟩) ?_ ?_
      rotate_left
      ·intro w'
       go_simp
       with_reducible rfl
      rotate_left
      ·simp only [sPu,sIa,sCz,sCs,i64_w,i32_w]
       rfl
      refine pure_ (i:=5) (N:=some 51) (v:=undef) (a':=?_) #[Y,Y,Y,Y,Y,Y,Z,Z,Z,Z,Z,Z,Z,Z] rfl rfl (any_of HT_.out (by kernel_rfl)) (fun _ _ _ h => h) (Or.inr ⟨by rfl,rfl⟩) ?_ ?_
      rotate_left
      ·simp only [sPu,sIa,sCz,sCs,i64_w,i32_w]
       rfl
      refine pure_ (i:=6) (N:=some 52) (v:=undef) (a':=?_) #[Y,Y,Y,Y,Y,Y,Y,Z,Z,Z,Z,Z,Z,Z] rfl rfl (any_of HT_.out (by kernel_rfl)) (fun _ _ _ h => h) (Or.inr ⟨by rfl,rfl⟩) ?_ ?_
      rotate_left
      ·simp only [sPu,sIa,sCz,sCs,i64_w,i32_w]
       rfl
      refine pure_ (i:=7) (N:=some 53) (v:=undef) (a':=?_) #[Y,Y,Y,Y,Y,Y,Y,Y,Z,Z,Z,Z,Z,Z] rfl rfl (any_of HT_.out (by kernel_rfl)) (fun _ _ _ h => h) (Or.inr ⟨by rfl,rfl⟩) ?_ ?_
      rotate_left
      ·simp only [sPu,sIa,sCz,sCs,i64_w,i32_w]
       rfl
      refine pure_ (i:=8) (N:=some 54) (v:=undef) (a':=?_) #[Y,Y,Y,Y,Y,Y,Y,Y,Y,Z,Z,Z,Z,Z] rfl rfl (any_of HT_.out (by kernel_rfl)) (fun _ _ _ h => h) (Or.inr ⟨by rfl,rfl⟩) ?_ ?_
      rotate_left
      ·simp only [sPu,sIa,sCz,sCs,i64_w,i32_w]
       rfl
      refine pure_ (i:=9) (N:=some 55) (v:=undef) (a':=?_) #[Y,Y,Y,Y,Y,Y,Y,Y,Y,Y,Z,Z,Z,Z] rfl rfl (any_of HT_.out (by kernel_rfl)) (fun _ _ _ h => h) (Or.inr ⟨by rfl,rfl⟩) ?_ ?_
      rotate_left
      ·simp only [sPu,sIa,sCz,sCs,i64_w,i32_w]
       rfl
      refine pure_ (i:=10) (N:=some 56) (v:=undef) (a':=?_) #[Y,Y,Y,Y,Y,Y,Y,Y,Y,Y,Y,Z,Z,Z] rfl rfl (any_of HT_.out (by kernel_rfl)) (fun _ _ _ h => h) (Or.inr ⟨by rfl,rfl⟩) ?_ ?_
      rotate_left
      ·simp only [sPu,sIa,sCz,sCs,i64_w,i32_w]
       rfl
      refine pure_ (i:=11) (N:=some 57) (v:=undef) (a':=?_) #[Y,Y,Y,Y,Y,Y,Y,Y,Y,Y,Y,Y,Z,Z] rfl rfl (any_of HT_.out (by kernel_rfl)) (fun _ _ _ h => h) (Or.inr ⟨by rfl,rfl⟩) ?_ ?_
      rotate_left
      ·simp only [sPu,sIa,sCz,sCs,i64_w,i32_w]
       rfl
      refine pure_ (i:=12) (N:=some 58) (v:=undef) (a':=?_) #[Y,Y,Y,Y,Y,Y,Y,Y,Y,Y,Y,Y,Y,Z] rfl rfl (any_of HT_.out (by kernel_rfl)) (fun _ _ _ h => h) (Or.inr ⟨by rfl,rfl⟩) ?_ ?_
      rotate_left
      ·simp only [sPu,sIa,sCz,sCs,i64_w,i32_w]
       rfl
      refine pure_ (i:=13) (N:=some 59) (v:=?_) (a':=?_) #[Y,Y,Y,Y,Y,Y,Y,Y,Y,Y,Y,Y,Y,Y] rfl rfl (any_of HT_.out (by kernel_rfl)) (fun _ _ _ h => h) (Or.inl ⟨by rfl,?_⟩) ?_ ?_
      rotate_left
      ·intro w'
       go_simp
       with_reducible rfl
      rotate_left
      ·simp only [sPu,sIa,sCz,sCs,i64_w,i32_w]
       rfl
      refine done_ (done_of HT_.out (by kernel_rfl)) ?_
      have hcz34_0 : w33.cell? ⟨gb239,0,none⟩ = some (.int .i64 (wrap64 (((rd_T96 l1 x7_1).f0) + ((rd_T96 l1 (ji8)).f0)))):=(blk_cell BK239.out 0).trans rfl
      have hcz34_1 : w33.cell? ⟨gb239,1,none⟩ = some (.slice Ao20 y245.length co20):=(blk_cell BK239.out 1).trans rfl
      have hfz34_0:=blk_frozen BK239.out 0
      have hfz34_1:=blk_frozen BK239.out 1
      try go_wp2_with (first|((with_reducible refine gate_builtin (b:=.append) (xs:=#[.tmp 69,.tmp 71]) rfl ?_);at_builtin;refine Kd.N_append k96 (w0:=w) w.heap.size rfl (.tmp 69) (.tmp 71) 93 96 (.agg #[(.int .i64 0),(.slice none 0 0)]) 32 rfl Try.underlying93 info96 rfl (by decide) (by omega) u5 x5_2 (⟨(wrap64 (((rd_T96 l1 x7_1).f0) + ((rd_T96 l1 (ji8)).f0))),y245⟩ : S96) [.int .i64 (wrap64 (((rd_T96 l1 x7_1).f0) + ((rd_T96 l1 (ji8)).f0))),.slice Ao20 y245.length co20] (fun k_ => (P0_ k_ ∨ w.heap.size ≤ k_)∧k_ ≠ gb239) (fun k_ => ((fun k_ => (P0_ k_ ∨ w.heap.size ≤ k_)∧k_ ≠ gb239)) k_∧some k_ ≠ (u5 : Value).ownBlock) rfl rfl ?aP (fun _ hk => hk) ?aF ?aO ?aB ?aS ?aL ?_;(case aP => exact (k96_mkF _ _ (⟨(wrap64 (((rd_T96 l1 x7_1).f0) + ((rd_T96 l1 (ji8)).f0))),y245⟩ : S96) (Kd.R_reads' (Kd.R_mono (ok':=(fun k_ => ((fun k_ => (P0_ k_ ∨ w.heap.size ≤ k_)∧k_ ≠ gb239)) k_∧some k_ ≠ (u5 : Value).ownBlock)) (Kd.R_types (Kd.R_apart' (HO_240001.out) (Kd.N_typed HO_5.out) (by decide)) BK239.out (by decide)) (fun k_ hk => ⟨⟨(.inr (hk.1.1)),hk.2⟩,hk.1.2⟩))).2.1 (Kd.R_F (Kd.R_mono (ok':=(fun k_ => ((fun k_ => (P0_ k_ ∨ w.heap.size ≤ k_)∧k_ ≠ gb239)) k_∧some k_ ≠ (u5 : Value).ownBlock)) (Kd.R_types (Kd.R_apart' (HO_240001.out) (Kd.N_typed HO_5.out) (by decide)) BK239.out (by decide)) (fun k_ hk => ⟨⟨(.inr (hk.1.1)),hk.2⟩,hk.1.2⟩)))));(case aB => exact (by repeat (first|(with_reducible first|exact HB.out|apply below_alloc|apply pw_below_drewN|apply below_drew1|refine below_set ?_ GE239.out)|exact HB.out)));(case aF => exact (fun k_ hk => ⟨(.inr (Nat.le_trans (below_size (by repeat (first|(with_reducible first|exact HB.out|apply below_alloc|apply pw_below_drewN|apply below_drew1|refine below_set ?_ GE239.out)|exact HB.out))) hk)),Kd.freshB (g:=gb239) (o:=.cells #[.int .i64 (wrap64 (((rd_T96 l1 x7_1).f0) + ((rd_T96 l1 (ji8)).f0))),.slice Ao20 y245.length co20] 96 (0,0)) (by (with_reducible repeat (first|refine blk_drewN ?_ _|refine blk_drew ?_|refine blk_alloc ?_ _));exact BK239.out) k_ hk⟩));(case aO => exact (by (with_reducible repeat (first|apply Kd.N_alloc|apply Kd.N_drewN|apply Kd.N_drew));exact Kd.N_mono HO_5.out (fun _ hk => ⟨hk.1,hk.2.2⟩)));(case aS => exact (below_size (by repeat (first|(with_reducible first|exact HB.out|apply below_alloc|apply pw_below_drewN|apply below_drew1|refine below_set ?_ GE239.out)|exact HB.out))));(case aL => have:=LMc32.out;omega);intro v257 w35 ho hb hg hat;rw [← Ny256.out] at ho;have n0_:=Aside0.mk (Kd.V_afterv (ok:=(fun k_ => (P0_ k_ ∨ w.heap.size ≤ k_)∧some k_ ≠ (.slice Ao20 y245.length co20 : Value).ownBlock∧k_ ≠ gb239)) (by (with_reducible repeat (first|apply Kd.V_alloc|apply Kd.V_drewN|apply Kd.V_drew));exact Kd.V_mono HO_0.out (fun _ hk => ⟨⟨hk.1,⟨hk.2.2.1,hk.2.2.2⟩⟩,hk.2.1⟩)) hg hat);have n1_:=Aside0.mk (blk_grown (g:=gb239) (o:=.cells #[.int .i64 (wrap64 (((rd_T96 l1 x7_1).f0) + ((rd_T96 l1 (ji8)).f0))),.slice Ao20 y245.length co20] 96 (0,0)) (by (with_reducible repeat (first|refine blk_drewN ?_ _|refine blk_drew ?_|refine blk_alloc ?_ _));exact BK239.out) hg (Kd.N_away HO_5.out (fun _ hk => hk.2.2)));have n2_:=Aside0.mk (hb);have n3_:=Aside0.mk (ho);clear HO_0;clear BK239;clear HB;clear HO_5;clear HO_240001;have HO_0:=n0_;have BK239:=n1_;have HB:=n2_;have HO258:=n3_;clear n0_ n1_ n2_ n3_;clear ho hb hg hat))
      go_roundg k2
      case measure => have:=HK1.out;have:=HK2.out;omega
      case rel => exact ⟨(y256),(x6_2),(wrap64 (x7_1 + 2)),(by first|rfl|(simp;done)|(simp [*];done)),(by first|rfl|(simp;done)|(simp [*];done)),H',⟨by have:=HK1.out;have:=HK2.out;omega⟩,⟨by (with_reducible repeat (first|apply Kd.V_alloc|apply Kd.V_drewN|apply Kd.V_drew));exact Kd.V_mono HO_0.out (fun _ hk => ⟨hk.1.1,hk.2⟩)⟩,⟨by (with_reducible repeat (first|apply Kd.N_alloc|apply Kd.N_drewN|apply Kd.N_drew));exact Kd.N_mono HO258.out (fun _ hk => hk.1)⟩,⟨by repeat (first|(with_reducible first|exact HB.out|apply below_alloc|apply pw_below_drewN|apply below_drew1|refine below_set ?_ GE239.out)|exact HB.out)⟩⟩
     rw [if_pos c22] at H
     have c22b0 : decide (x6_2 < (l0.length : Int)) = true:=decide_eq_true c22
     clear c22
     by_cases c23 : 0 ≤ x6_2
     rotate_left
     ·rw [if_neg c23] at H
      exact absurd H (by simp)
     rw [if_pos c23] at H
     have c23b0 : decide (0 ≤ x6_2) = true:=decide_eq_true c23
     clear c23
     by_cases c24 : ((rd_T96 l0 x6_2).f0) ≤ (wrap64 (((rd_T96 l1 x7_1).f0) + ((rd_T96 l1 (ji8)).f0)))
     rotate_left
     ·rw [if_neg c24] at H
      have c24b0 : decide (((rd_T96 l0 x6_2).f0) ≤ (wrap64 (((rd_T96 l1 x7_1).f0) + ((rd_T96 l1 (ji8)).f0)))) = false:=decide_eq_false c24
      clear c24
      by_cases c28 : x5_2.length < 4398046511104
      rotate_left
      ·rw [if_neg c28] at H
       exact absurd H (by simp)
      rw [if_pos c28] at H
      have LMc28:=Aside0.mk c28
      clear c28
      obtain ⟨y253,hy253⟩ : ∃ y_ : List (S96),y_ = (x5_2 ++ [(⟨(wrap64 (((rd_T96 l1 x7_1).f0) + ((rd_T96 l1 (ji8)).f0))),y245⟩ : S96)]):=⟨_,rfl⟩
      replace H : (spec_l04Next.l0 k2 l0 l1 y253 x6_2 (wrap64 (x7_1 + 2))) = some r:=by first|(rw [hy253];with_reducible exact H)|(have H2_:=(Option.bind_some _ _).symm.trans H;rw [hy253];with_reducible exact H2_)|(have H2_:=(Option.bind_some _ _).symm.trans H;with_reducible exact H2_)|with_reducible exact H|(rw [hy253];exact H)|exact H
      have Ny253:=Aside0.mk hy253
      clear hy253
      have H':=Aside0.mk H
      clear H
      try go_wp2
      have n0_:=Aside0.mk (Kd.V_drew HO_0.out)
      have n1_:=Aside0.mk (Kd.N_drew HO_5.out)
      have n2_:=Aside0.mk (Kd.R_drew HO_240001.out)
      have n3_:=Aside0.mk (blk_drew BK239.out)
      have n4_:=Aside0.mk (below_drew1 HB.out)
      clear HO_0
      clear HO_5
      clear HO_240001
      clear BK239
      clear HB
      have HO_0:=n0_
      have HO_5:=n1_
      have HO_240001:=n2_
      have BK239:=n3_
      have HB:=n4_
      clear n0_ n1_ n2_ n3_ n4_
      have p248 : 0 ≤ (x6_2 : Int):=of_decide_eq_true (by assumption)
      have q248 : x6_2 < (l0.length : Int):=of_decide_eq_true (by assumption)
      obtain ⟨ad248,A248_1,c248_1,e248,hx248_0,hx248_1,hl248_1,hi248_1⟩:=at_T96 (Kd.V_reads' HO_0.out).2.2 x6_2 p248 q248
      cases e248
      obtain ⟨ce248,hce248,hMe248,hcc248⟩:=Kd.V_get HO_0.out z96 x6_2 p248 (by first|exact q248|exact of_decide_eq_true (by assumption)|(have e_:=(Kd.V_reads' HO_0.out).1;omega))
      obtain ⟨ua248_1,uc248_1,rfl,ul248_1,ge248_1⟩:=k96_openF hMe248
      have hv248_1:=hcc248 1 _ rfl
      rw [add_field _ _ 1 (by omega)] at hv248_1
      replace hv248_1:=Option.some.inj (hv248_1.symm.trans hx248_1)
      injection hv248_1 with hva_ hvn_ hvc_
      rw [hva_] at ge248_1
      rw [hvc_] at ul248_1
      have HL248_1:=Aside0.mk (show Kd.V (Kd.int .i64) 3 _ w.heap.size _ _ ((rd_T96 l0 x6_2).f1) from Kd.V_mk ul248_1 ge248_1)
      clear hva_ hvn_ hvc_ ge248_1 ul248_1
      clear hcc248 hce248
      have HR248_1:=Aside0.mk hi248_1
      have HC248_1:=Aside0.mk hl248_1
      clear hi248_1 hl248_1
      replace p248:=eq_true p248
      replace q248:=eq_true q248
      refine start_ (n:=14) (S:=fun w' => w'.cell? ⟨gb239,0,none⟩ = some (.int .i64 (wrap64 (((rd_T96 l1 x7_1).f0) + ((rd_T96 l1 (ji8)).f0))))∧w'.cell? ⟨gb239,1,none⟩ = some (.slice Ao20 y245.length co20)∧w'.cell? (ad248.add ((x6_2).toNat * 2)) = some (.int .i64 ((rd_T96 l0 x6_2).f0))∧w'.cell? ⟨(ad248.add ((x6_2).toNat * 2)).block,(ad248.add ((x6_2).toNat * 2)).off + 1,none⟩ = some (.slice A248_1 ((rd_T96 l0 x6_2).f1).length c248_1)) (ds:=[]) #[Z,Z,Z,Z,Z,Z,Z,Z,Z,Z,Z,Z,Z,Z] (by kernel_rfl) rfl rfl ⟨(blk_cell BK239.out 0).trans rfl,(blk_cell BK239.out 1).trans rfl,hx248_0,hx248_1⟩ (fun hHeld => ?_);refine with_tabW spec_l04Next.tab8 spec_l04Next.bits8 (fun HT_ HW_ => ?_)
      generalize wr.drew = w29 at HO_0 HO_5 HO_240001 BK239 HB HL248_1 HR248_1 hx248_0 hx248_1 hHeld ⊢
      refine pure_ (i:=0) (N:=some 46) (v:=?_) (a':=?_) #[Y,Z,Z,Z,Z,Z,Z,Z,Z,Z,Z,Z,Z,Z] rfl rfl (any_of HT_.out (by kernel_rfl)) (fun _ _ _ h => h) (Or.inl ⟨by rfl,?_⟩) ?_ ?_
      rotate_left
      ·intro w'
       go_simp
       with_reducible rfl
      rotate_left
      ·simp only [sPu,sIa,sCz,sCs,i64_w,i32_w]
       rfl
      refine pure_ (i:=1) (N:=some 47) (v:=?_) (a':=?_) #[Y,Y,Z,Z,Z,Z,Z,Z,Z,Z,Z,Z,Z,Z] rfl rfl (any_of HT_.out (by kernel_rfl)) (fun _ _ _ h => h) (Or.inl ⟨by rfl,?_⟩) ?_ ?_
      rotate_left
      ·intro w'
       go_simp
       with_reducible rfl
      rotate_left
      ·simp only [sPu,sIa,sCz,sCs,i64_w,i32_w]
       rfl
      refine pure_ (i:=2) (N:=some 48) (v:=?_) (a':=?_) #[Y,Y,Y,Z,Z,Z,Z,Z,Z,Z,Z,Z,Z,Z] rfl rfl (any_of HT_.out (by kernel_rfl)) (fun _ _ _ h => h) (Or.inl ⟨by rfl,?_⟩) ?_ ?_
      rotate_left
      ·intro w'
       go_simp
       with_reducible rfl
      rotate_left
      ·simp only [sPu,sIa,sCz,sCs,i64_w,i32_w]
       rfl
      refine pure_ (i:=3) (N:=some 49) (v:=?_) (a':=?_) #[Y,Y,Y,Y,Z,Z,Z,Z,Z,Z,Z,Z,Z,Z] rfl rfl (any_of HT_.out (by kernel_rfl)) (fun _ _ _ h => h) (Or.inl ⟨by rfl,?_⟩) ?_ ?_
      rotate_left
      ·intro w'
       go_simp
       with_reducible rfl
      rotate_left
      ·simp only [sPu,sIa,sCz,sCs,i64_w,i32_w]
       rfl
      refine pure_ (i:=4) (N:=some 50) (v:=?_) (a':=?_) #[Y,Y,Y,Y,Y,Z,Z,Z,Z,Z,Z,Z,Z,Z] rfl rfl (any_of HT_.out (by kernel_rfl)) (fun _ _ _ h => h) (Or.inl ⟨by rfl,?_⟩) ?_ ?_
      rotate_left
      ·intro w'
       go_simp
       with_reducible rfl
      rotate_left
      ·simp only [sPu,sIa,sCz,sCs,i64_w,i32_w]
       rfl
      refine pure_ (i:=5) (N:=some 51) (v:=?_) (a':=?_) #[Y,Y,Y,Y,Y,Y,Z,Z,Z,Z,Z,Z,Z,Z] rfl rfl (any_of HT_.out (by kernel_rfl)) (fun _ _ _ h => h) (Or.inl ⟨by rfl,?_⟩) ?_ ?_
      rotate_left
      ·intro w'
       go_simp
       with_reducible rfl
      rotate_left
      ·simp only [sPu,sIa,sCz,sCs,i64_w,i32_w]
       rfl
      refine pure_ (i:=6) (N:=some 52) (v:=?_) (a':=?_) #[Y,Y,Y,Y,Y,Y,Y,Z,Z,Z,Z,Z,Z,Z] rfl rfl (any_of HT_.out (by kernel_rfl)) (fun _ _ _ h => h) (Or.inl ⟨by rfl,?_⟩) ?_ ?_
      rotate_left
      ·intro w'
       go_simp
       with_reducible rfl
      rotate_left
      ·simp only [sPu,sIa,sCz,sCs,i64_w,i32_w]
       rfl
      refine pure_ (i:=7) (N:=some 53) (v:=?_) (a':=?_) #[Y,Y,Y,Y,Y,Y,Y,Y,Z,Z,Z,Z,Z,Z] rfl rfl (any_of HT_.out (by kernel_rfl)) (fun _ _ _ h => h) (Or.inl ⟨by rfl,?_⟩) ?_ ?_
      rotate_left
      ·intro w'
       go_simp
       with_reducible rfl
      rotate_left
      ·simp only [sPu,sIa,sCz,sCs,i64_w,i32_w]
       rfl
      refine pure_ (i:=8) (N:=some 54) (v:=?_) (a':=?_) #[Y,Y,Y,Y,Y,Y,Y,Y,Y,Z,Z,Z,Z,Z] rfl rfl (any_of HT_.out (by kernel_rfl)) (fun _ _ _ h => h) (Or.inl ⟨by rfl,?_⟩) ?_ ?_
      rotate_left
      ·intro w'
       go_simp
       with_reducible rfl
      rotate_left
      ·simp only [sPu,sIa,sCz,sCs,i64_w,i32_w]
       rfl
      refine pure_ (i:=10) (N:=some 56) (v:=?_) (a':=?_) #[Y,Y,Y,Y,Y,Y,Y,Y,Y,Z,Y,Z,Z,Z] rfl rfl (any_of HT_.out (by kernel_rfl)) (fun _ _ _ h => h) (Or.inl ⟨by rfl,?_⟩) ?_ ?_
      rotate_left
      ·intro w'
       go_simp
       with_reducible rfl
      rotate_left
      ·simp only [sPu,sIa,sCz,sCs,i64_w,i32_w]
       rfl
      refine take_ (i:=9) (N:=some 55) (v:=?_) (a':=?_) #[Y,Y,Y,Y,Y,Y,Y,Y,Y,Y,Y,Z,Z,Z] rfl rfl (take_ofW HT_.out HW_.out (by kernel_rfl)) (fun _ _ _ h => h) (Or.inl ⟨by rfl,?_⟩) hHeld ?_ ?_
      rotate_left
      ·rintro w' ⟨s0,s1,s2,s3⟩
       go_simp
       with_reducible rfl
      rotate_left
      ·simp only [sPu,sIa,sCz,sCs,i64_w,i32_w]
       rfl
      refine take_ (i:=11) (N:=some 57) (v:=?_) (a':=?_) #[Y,Y,Y,Y,Y,Y,Y,Y,Y,Y,Y,Y,Z,Z] rfl rfl (take_ofW HT_.out HW_.out (by kernel_rfl)) (fun _ _ _ h => h) (Or.inl ⟨by rfl,?_⟩) hHeld ?_ ?_
      rotate_left
      ·rintro w' ⟨s0,s1,s2,s3⟩
       go_simp
       with_reducible rfl
      rotate_left
      ·simp only [sPu,sIa,sCz,sCs,i64_w,i32_w]
       rfl
      refine pure_ (i:=12) (N:=some 58) (v:=?_) (a':=?_) #[Y,Y,Y,Y,Y,Y,Y,Y,Y,Y,Y,Y,Y,Z] rfl rfl (any_of HT_.out (by kernel_rfl)) (fun _ _ _ h => h) (Or.inl ⟨by rfl,?_⟩) ?_ ?_
      rotate_left
      ·intro w'
       go_simp
       with_reducible rfl
      rotate_left
      ·simp only [sPu,sIa,sCz,sCs,i64_w,i32_w]
       rfl
      refine pure_ (i:=13) (N:=some 59) (v:=?_) (a':=?_) #[Y,Y,Y,Y,Y,Y,Y,Y,Y,Y,Y,Y,Y,Y] rfl rfl (any_of HT_.out (by kernel_rfl)) (fun _ _ _ h => h) (Or.inl ⟨by rfl,?_⟩) ?_ ?_
      rotate_left
      ·intro w'
       go_simp
       with_reducible rfl
      rotate_left
      ·simp only [sPu,sIa,sCz,sCs,i64_w,i32_w]
       rfl
      refine done_ (done_of HT_.out (by kernel_rfl)) ?_
      have hcz30_0 : w29.cell? ⟨gb239,0,none⟩ = some (.int .i64 (wrap64 (((rd_T96 l1 x7_1).f0) + ((rd_T96 l1 (ji8)).f0)))):=(blk_cell BK239.out 0).trans rfl
      have hcz30_1 : w29.cell? ⟨gb239,1,none⟩ = some (.slice Ao20 y245.length co20):=(blk_cell BK239.out 1).trans rfl
      have hfz30_0:=blk_frozen BK239.out 0
      have hfz30_1:=blk_frozen BK239.out 1
      try go_wp2_with (first|((with_reducible refine gate_builtin (b:=.append) (xs:=#[.tmp 69,.tmp 71]) rfl ?_);at_builtin;refine Kd.N_append k96 (w0:=w) w.heap.size rfl (.tmp 69) (.tmp 71) 93 96 (.agg #[(.int .i64 0),(.slice none 0 0)]) 32 rfl Try.underlying93 info96 rfl (by decide) (by omega) u5 x5_2 (⟨(wrap64 (((rd_T96 l1 x7_1).f0) + ((rd_T96 l1 (ji8)).f0))),y245⟩ : S96) [.int .i64 (wrap64 (((rd_T96 l1 x7_1).f0) + ((rd_T96 l1 (ji8)).f0))),.slice Ao20 y245.length co20] (fun k_ => (P0_ k_ ∨ w.heap.size ≤ k_)∧k_ ≠ gb239) (fun k_ => ((fun k_ => (P0_ k_ ∨ w.heap.size ≤ k_)∧k_ ≠ gb239)) k_∧some k_ ≠ (u5 : Value).ownBlock) rfl rfl ?aP (fun _ hk => hk) ?aF ?aO ?aB ?aS ?aL ?_;(case aP => exact (k96_mkF _ _ (⟨(wrap64 (((rd_T96 l1 x7_1).f0) + ((rd_T96 l1 (ji8)).f0))),y245⟩ : S96) (Kd.R_reads' (Kd.R_mono (ok':=(fun k_ => ((fun k_ => (P0_ k_ ∨ w.heap.size ≤ k_)∧k_ ≠ gb239)) k_∧some k_ ≠ (u5 : Value).ownBlock)) (Kd.R_types (Kd.R_apart' (HO_240001.out) (Kd.N_typed HO_5.out) (by decide)) BK239.out (by decide)) (fun k_ hk => ⟨⟨(.inr (hk.1.1)),hk.2⟩,hk.1.2⟩))).2.1 (Kd.R_F (Kd.R_mono (ok':=(fun k_ => ((fun k_ => (P0_ k_ ∨ w.heap.size ≤ k_)∧k_ ≠ gb239)) k_∧some k_ ≠ (u5 : Value).ownBlock)) (Kd.R_types (Kd.R_apart' (HO_240001.out) (Kd.N_typed HO_5.out) (by decide)) BK239.out (by decide)) (fun k_ hk => ⟨⟨(.inr (hk.1.1)),hk.2⟩,hk.1.2⟩)))));(case aB => exact (by repeat (first|(with_reducible first|exact HB.out|apply below_alloc|apply pw_below_drewN|apply below_drew1|refine below_set ?_ GE239.out)|exact HB.out)));(case aF => exact (fun k_ hk => ⟨(.inr (Nat.le_trans (below_size (by repeat (first|(with_reducible first|exact HB.out|apply below_alloc|apply pw_below_drewN|apply below_drew1|refine below_set ?_ GE239.out)|exact HB.out))) hk)),Kd.freshB (g:=gb239) (o:=.cells #[.int .i64 (wrap64 (((rd_T96 l1 x7_1).f0) + ((rd_T96 l1 (ji8)).f0))),.slice Ao20 y245.length co20] 96 (0,0)) (by (with_reducible repeat (first|refine blk_drewN ?_ _|refine blk_drew ?_|refine blk_alloc ?_ _));exact BK239.out) k_ hk⟩));(case aO => exact (by (with_reducible repeat (first|apply Kd.N_alloc|apply Kd.N_drewN|apply Kd.N_drew));exact Kd.N_mono HO_5.out (fun _ hk => ⟨hk.1,hk.2.2⟩)));(case aS => exact (below_size (by repeat (first|(with_reducible first|exact HB.out|apply below_alloc|apply pw_below_drewN|apply below_drew1|refine below_set ?_ GE239.out)|exact HB.out))));(case aL => have:=LMc28.out;omega);intro v254 w31 ho hb hg hat;rw [← Ny253.out] at ho;have n0_:=Aside0.mk (Kd.V_afterv (ok:=(fun k_ => (P0_ k_ ∨ w.heap.size ≤ k_)∧some k_ ≠ (.slice Ao20 y245.length co20 : Value).ownBlock∧k_ ≠ gb239)) (by (with_reducible repeat (first|apply Kd.V_alloc|apply Kd.V_drewN|apply Kd.V_drew));exact Kd.V_mono HO_0.out (fun _ hk => ⟨⟨hk.1,⟨hk.2.2.1,hk.2.2.2⟩⟩,hk.2.1⟩)) hg hat);have n1_:=Aside0.mk (blk_grown (g:=gb239) (o:=.cells #[.int .i64 (wrap64 (((rd_T96 l1 x7_1).f0) + ((rd_T96 l1 (ji8)).f0))),.slice Ao20 y245.length co20] 96 (0,0)) (by (with_reducible repeat (first|refine blk_drewN ?_ _|refine blk_drew ?_|refine blk_alloc ?_ _));exact BK239.out) hg (Kd.N_away HO_5.out (fun _ hk => hk.2.2)));have n2_:=Aside0.mk (Kd.V_afterv (ok:=(fun k_ => (P0_ k_ ∨ w.heap.size ≤ k_)∧some k_ ≠ (.slice Ao20 y245.length co20 : Value).ownBlock∧k_ ≠ gb239)) (by (with_reducible repeat (first|apply Kd.V_alloc|apply Kd.V_drewN|apply Kd.V_drew));exact Kd.V_mono HL248_1.out (fun _ hk => ⟨⟨hk.1,⟨hk.2.2.1,hk.2.2.2⟩⟩,hk.2.1⟩)) hg hat);have n3_:=Aside0.mk (hb);have n4_:=Aside0.mk (ho);clear HO_0;clear BK239;clear HL248_1;clear HB;clear HO_5;clear HO_240001;have HO_0:=n0_;have BK239:=n1_;have HL248_1:=n2_;have HB:=n3_;have HO255:=n4_;clear n0_ n1_ n2_ n3_ n4_;clear ho hb hg hat))
      go_roundg k2
      case measure => have:=HK1.out;have:=HK2.out;omega
      case rel => exact ⟨(y253),(x6_2),(wrap64 (x7_1 + 2)),(by first|rfl|(simp;done)|(simp [*];done)),(by first|rfl|(simp;done)|(simp [*];done)),H',⟨by have:=HK1.out;have:=HK2.out;omega⟩,⟨by (with_reducible repeat (first|apply Kd.V_alloc|apply Kd.V_drewN|apply Kd.V_drew));exact Kd.V_mono HO_0.out (fun _ hk => ⟨hk.1.1,hk.2⟩)⟩,⟨by (with_reducible repeat (first|apply Kd.N_alloc|apply Kd.N_drewN|apply Kd.N_drew));exact Kd.N_mono HO255.out (fun _ hk => hk.1)⟩,⟨by repeat (first|(with_reducible first|exact HB.out|apply below_alloc|apply pw_below_drewN|apply below_drew1|refine below_set ?_ GE239.out)|exact HB.out)⟩⟩
     rw [if_pos c24] at H
     have c24b0 : decide (((rd_T96 l0 x6_2).f0) ≤ (wrap64 (((rd_T96 l1 x7_1).f0) + ((rd_T96 l1 (ji8)).f0)))) = true:=decide_eq_true c24
     clear c24
     by_cases c25 : x5_2.length < 4398046511104
     rotate_left
     ·rw [if_neg c25] at H
      exact absurd H (by simp)
     rw [if_pos c25] at H
     have LMc25:=Aside0.mk c25
     clear c25
     obtain ⟨y250,hy250⟩ : ∃ y_ : List (S96),y_ = (x5_2 ++ [(⟨(rd_T96 l0 x6_2).f0,(rd_T96 l0 x6_2).f1⟩ : S96)]):=⟨_,rfl⟩
     replace H : (spec_l04Next.l1 k2 l0 l1 y250 (wrap64 (x6_2 + 1)) x7_1 (wrap64 (((rd_T96 l1 x7_1).f0) + ((rd_T96 l1 (ji8)).f0))) y245) = some r:=by first|(rw [hy250];with_reducible exact H)|(have H2_:=(Option.bind_some _ _).symm.trans H;rw [hy250];with_reducible exact H2_)|(have H2_:=(Option.bind_some _ _).symm.trans H;with_reducible exact H2_)|with_reducible exact H|(rw [hy250];exact H)|exact H
     have Ny250:=Aside0.mk hy250
     clear hy250
     have H':=Aside0.mk H
     clear H
     try go_wp2
     have n0_:=Aside0.mk (Kd.V_drew HO_0.out)
     have n1_:=Aside0.mk (Kd.N_drew HO_5.out)
     have n2_:=Aside0.mk (Kd.R_drew HO_240001.out)
     have n3_:=Aside0.mk (blk_drew BK239.out)
     have n4_:=Aside0.mk (below_drew1 HB.out)
     clear HO_0
     clear HO_5
     clear HO_240001
     clear BK239
     clear HB
     have HO_0:=n0_
     have HO_5:=n1_
     have HO_240001:=n2_
     have BK239:=n3_
     have HB:=n4_
     clear n0_ n1_ n2_ n3_ n4_
     have p248 : 0 ≤ (x6_2 : Int):=of_decide_eq_true (by assumption)
     have q248 : x6_2 < (l0.length : Int):=of_decide_eq_true (by assumption)
     obtain ⟨ad248,A248_1,c248_1,e248,hx248_0,hx248_1,hl248_1,hi248_1⟩:=at_T96 (Kd.V_reads' HO_0.out).2.2 x6_2 p248 q248
     cases e248
     obtain ⟨ce248,hce248,hMe248,hcc248⟩:=Kd.V_get HO_0.out z96 x6_2 p248 (by first|exact q248|exact of_decide_eq_true (by assumption)|(have e_:=(Kd.V_reads' HO_0.out).1;omega))
     obtain ⟨ua248_1,uc248_1,rfl,ul248_1,ge248_1⟩:=k96_openF hMe248
     have hv248_1:=hcc248 1 _ rfl
     rw [add_field _ _ 1 (by omega)] at hv248_1
     replace hv248_1:=Option.some.inj (hv248_1.symm.trans hx248_1)
     injection hv248_1 with hva_ hvn_ hvc_
     rw [hva_] at ge248_1
     rw [hvc_] at ul248_1
     have HL248_1:=Aside0.mk (show Kd.V (Kd.int .i64) 3 _ w.heap.size _ _ ((rd_T96 l0 x6_2).f1) from Kd.V_mk ul248_1 ge248_1)
     clear hva_ hvn_ hvc_ ge248_1 ul248_1
     clear hcc248 hce248
     have HR248_1:=Aside0.mk hi248_1
     have HC248_1:=Aside0.mk hl248_1
     clear hi248_1 hl248_1
     replace p248:=eq_true p248
     replace q248:=eq_true q248
     refine start_ (n:=14) (S:=fun w' => w'.cell? ⟨gb239,0,none⟩ = some (.int .i64 (wrap64 (((rd_T96 l1 x7_1).f0) + ((rd_T96 l1 (ji8)).f0))))∧w'.cell? ⟨gb239,1,none⟩ = some (.slice Ao20 y245.length co20)∧w'.cell? (ad248.add ((x6_2).toNat * 2)) = some (.int .i64 ((rd_T96 l0 x6_2).f0))∧w'.cell? ⟨(ad248.add ((x6_2).toNat * 2)).block,(ad248.add ((x6_2).toNat * 2)).off + 1,none⟩ = some (.slice A248_1 ((rd_T96 l0 x6_2).f1).length c248_1)) (ds:=[]) #[Z,Z,Z,Z,Z,Z,Z,Z,Z,Z,Z,Z,Z,Z] (by kernel_rfl) rfl rfl ⟨(blk_cell BK239.out 0).trans rfl,(blk_cell BK239.out 1).trans rfl,hx248_0,hx248_1⟩ (fun hHeld => ?_);refine with_tabW spec_l04Next.tab8 spec_l04Next.bits8 (fun HT_ HW_ => ?_)
     generalize wr.drew = w26 at HO_0 HO_5 HO_240001 BK239 HB HL248_1 HR248_1 hx248_0 hx248_1 hHeld ⊢
     refine pure_ (i:=0) (N:=some 46) (v:=?_) (a':=?_) #[Y,Z,Z,Z,Z,Z,Z,Z,Z,Z,Z,Z,Z,Z] rfl rfl (any_of HT_.out (by kernel_rfl)) (fun _ _ _ h => h) (Or.inl ⟨by rfl,?_⟩) ?_ ?_
     rotate_left
     ·intro w'
      go_simp
      with_reducible rfl
     rotate_left
     ·simp only [sPu,sIa,sCz,sCs,i64_w,i32_w]
      rfl
     refine pure_ (i:=1) (N:=some 47) (v:=?_) (a':=?_) #[Y,Y,Z,Z,Z,Z,Z,Z,Z,Z,Z,Z,Z,Z] rfl rfl (any_of HT_.out (by kernel_rfl)) (fun _ _ _ h => h) (Or.inl ⟨by rfl,?_⟩) ?_ ?_
     rotate_left
     ·intro w'
      go_simp
      with_reducible rfl
     rotate_left
     ·simp only [sPu,sIa,sCz,sCs,i64_w,i32_w]
      rfl
     refine pure_ (i:=2) (N:=some 48) (v:=?_) (a':=?_) #[Y,Y,Y,Z,Z,Z,Z,Z,Z,Z,Z,Z,Z,Z] rfl rfl (any_of HT_.out (by kernel_rfl)) (fun _ _ _ h => h) (Or.inl ⟨by rfl,?_⟩) ?_ ?_
     rotate_left
     ·intro w'
      go_simp
      with_reducible rfl
     rotate_left
     ·simp only [sPu,sIa,sCz,sCs,i64_w,i32_w]
      rfl
     refine pure_ (i:=3) (N:=some 49) (v:=?_) (a':=?_) #[Y,Y,Y,Y,Z,Z,Z,Z,Z,Z,Z,Z,Z,Z] rfl rfl (any_of HT_.out (by kernel_rfl)) (fun _ _ _ h => h) (Or.inl ⟨by rfl,?_⟩) ?_ ?_
     rotate_left
     ·intro w'
      go_simp
      with_reducible rfl
     rotate_left
     ·simp only [sPu,sIa,sCz,sCs,i64_w,i32_w]
      rfl
     refine pure_ (i:=4) (N:=some 50) (v:=?_) (a':=?_) #[Y,Y,Y,Y,Y,Z,Z,Z,Z,Z,Z,Z,Z,Z] rfl rfl (any_of HT_.out (by kernel_rfl)) (fun _ _ _ h => h) (Or.inl ⟨by rfl,?_⟩) ?_ ?_
     rotate_left
     ·intro w'
      go_simp
      with_reducible rfl
     rotate_left
     ·simp only [sPu,sIa,sCz,sCs,i64_w,i32_w]
      rfl
     refine pure_ (i:=5) (N:=some 51) (v:=?_) (a':=?_) #[Y,Y,Y,Y,Y,Y,Z,Z,Z,Z,Z,Z,Z,Z] rfl rfl (any_of HT_.out (by kernel_rfl)) (fun _ _ _ h => h) (Or.inl ⟨by rfl,?_⟩) ?_ ?_
     rotate_left
     ·intro w'
      go_simp
      with_reducible rfl
     rotate_left
     ·simp only [sPu,sIa,sCz,sCs,i64_w,i32_w]
      rfl
     refine pure_ (i:=6) (N:=some 52) (v:=?_) (a':=?_) #[Y,Y,Y,Y,Y,Y,Y,Z,Z,Z,Z,Z,Z,Z] rfl rfl (any_of HT_.out (by kernel_rfl)) (fun _ _ _ h => h) (Or.inl ⟨by rfl,?_⟩) ?_ ?_
     rotate_left
     ·intro w'
      go_simp
      with_reducible rfl
     rotate_left
     ·simp only [sPu,sIa,sCz,sCs,i64_w,i32_w]
      rfl
     refine pure_ (i:=7) (N:=some 53) (v:=?_) (a':=?_) #[Y,Y,Y,Y,Y,Y,Y,Y,Z,Z,Z,Z,Z,Z] rfl rfl (any_of HT_.out (by kernel_rfl)) (fun _ _ _ h => h) (Or.inl ⟨by rfl,?_⟩) ?_ ?_
     rotate_left
     ·intro w'
      go_simp
      with_reducible rfl
     rotate_left
     ·simp only [sPu,sIa,sCz,sCs,i64_w,i32_w]
      rfl
     refine pure_ (i:=8) (N:=some 54) (v:=?_) (a':=?_) #[Y,Y,Y,Y,Y,Y,Y,Y,Y,Z,Z,Z,Z,Z] rfl rfl (any_of HT_.out (by kernel_rfl)) (fun _ _ _ h => h) (Or.inl ⟨by rfl,?_⟩) ?_ ?_
     rotate_left
     ·intro w'
      go_simp
      with_reducible rfl
     rotate_left
     ·simp only [sPu,sIa,sCz,sCs,i64_w,i32_w]
      rfl
     refine pure_ (i:=10) (N:=some 56) (v:=?_) (a':=?_) #[Y,Y,Y,Y,Y,Y,Y,Y,Y,Z,Y,Z,Z,Z] rfl rfl (any_of HT_.out (by kernel_rfl)) (fun _ _ _ h => h) (Or.inl ⟨by rfl,?_⟩) ?_ ?_
     rotate_left
     ·intro w'
      go_simp
      with_reducible rfl
     rotate_left
     ·simp only [sPu,sIa,sCz,sCs,i64_w,i32_w]
      rfl
     refine take_ (i:=9) (N:=some 55) (v:=?_) (a':=?_) #[Y,Y,Y,Y,Y,Y,Y,Y,Y,Y,Y,Z,Z,Z] rfl rfl (take_ofW HT_.out HW_.out (by kernel_rfl)) (fun _ _ _ h => h) (Or.inl ⟨by rfl,?_⟩) hHeld ?_ ?_
     rotate_left
     ·rintro w' ⟨s0,s1,s2,s3⟩
      go_simp
      with_reducible rfl
     rotate_left
     ·simp only [sPu,sIa,sCz,sCs,i64_w,i32_w]
      rfl
     refine take_ (i:=11) (N:=some 57) (v:=?_) (a':=?_) #[Y,Y,Y,Y,Y,Y,Y,Y,Y,Y,Y,Y,Z,Z] rfl rfl (take_ofW HT_.out HW_.out (by kernel_rfl)) (fun _ _ _ h => h) (Or.inl ⟨by rfl,?_⟩) hHeld ?_ ?_
     rotate_left
     ·rintro w' ⟨s0,s1,s2,s3⟩
      go_simp
      with_reducible rfl
     rotate_left
     ·simp only [sPu,sIa,sCz,sCs,i64_w,i32_w]
      rfl
     refine pure_ (i:=12) (N:=some 58) (v:=?_) (a':=?_) #[Y,Y,Y,Y,Y,Y,Y,Y,Y,Y,Y,Y,Y,Z] rfl rfl (any_of HT_.out (by kernel_rfl)) (fun _ _ _ h => h) (Or.inl ⟨by rfl,?_⟩) ?_ ?_
     rotate_left
     ·intro w'
      go_simp
      with_reducible rfl
     rotate_left
     ·simp only [sPu,sIa,sCz,sCs,i64_w,i32_w]
      rfl
     refine pure_ (i:=13) (N:=some 59) (v:=?_) (a':=?_) #[Y,Y,Y,Y,Y,Y,Y,Y,Y,Y,Y,Y,Y,Y] rfl rfl (any_of HT_.out (by kernel_rfl)) (fun _ _ _ h => h) (Or.inl ⟨by rfl,?_⟩) ?_ ?_
     rotate_left
     ·intro w'
      go_simp
      with_reducible rfl
     rotate_left
     ·simp only [sPu,sIa,sCz,sCs,i64_w,i32_w]
      rfl
     refine done_ (done_of HT_.out (by kernel_rfl)) ?_
     have p249 : 0 ≤ (x6_2 : Int):=of_decide_eq_true (by assumption)
     have q249 : x6_2 < (l0.length : Int):=of_decide_eq_true (by assumption)
     obtain ⟨ad249,A249_1,c249_1,e249,hx249_0,hx249_1,hl249_1,hi249_1⟩:=at_T96 (Kd.V_reads' HO_0.out).2.2 x6_2 p249 q249
     obtain rfl : ad248 = ad249:=(by injection e249)
     obtain ⟨ce249,hce249,hMe249,hcc249⟩:=Kd.V_get HO_0.out z96 x6_2 p249 (by first|exact q249|exact of_decide_eq_true (by assumption)|(have e_:=(Kd.V_reads' HO_0.out).1;omega))
     obtain ⟨ua249_1,uc249_1,rfl,ul249_1,ge249_1⟩:=k96_openF hMe249
     have hv249_1:=hcc249 1 _ rfl
     rw [add_field _ _ 1 (by omega)] at hv249_1
     replace hv249_1:=Option.some.inj (hv249_1.symm.trans hx249_1)
     injection hv249_1 with hva_ hvn_ hvc_
     rw [hva_] at ge249_1
     rw [hvc_] at ul249_1
     have HL249_1:=Aside0.mk (show Kd.V (Kd.int .i64) 3 _ w.heap.size _ _ ((rd_T96 l0 x6_2).f1) from Kd.V_mk ul249_1 ge249_1)
     clear hva_ hvn_ hvc_ ge249_1 ul249_1
     clear hcc249 hce249
     have HR249_1:=Aside0.mk hi249_1
     have HC249_1:=Aside0.mk hl249_1
     clear hi249_1 hl249_1
     replace p249:=eq_true p249
     replace q249:=eq_true q249
     have ea_:=Option.some.inj (hx248_1.symm.trans hx249_1)
     injection ea_ with ea_ en_ ec_
     subst ea_
     subst ec_
     clear en_
     try go_wp2_with (first|((with_reducible refine gate_builtin (b:=.append) (xs:=#[.tmp 60,.tmp 65]) rfl ?_);at_builtin;refine Kd.N_append k96 (w0:=w) w.heap.size rfl (.tmp 60) (.tmp 65) 93 96 (.agg #[(.int .i64 0),(.slice none 0 0)]) 32 rfl Try.underlying93 info96 rfl (by decide) (by omega) u5 x5_2 (⟨(rd_T96 l0 x6_2).f0,(rd_T96 l0 x6_2).f1⟩ : S96) [.int .i64 ((rd_T96 l0 x6_2).f0),.slice A248_1 ((rd_T96 l0 x6_2).f1).length c248_1] (fun k_ => (P0_ k_ ∨ w.heap.size ≤ k_)∧some k_ ≠ (.slice Ao20 y245.length co20 : Value).ownBlock∧k_ ≠ gb239) (fun k_ => ((fun k_ => (P0_ k_ ∨ w.heap.size ≤ k_)∧some k_ ≠ (.slice Ao20 y245.length co20 : Value).ownBlock∧k_ ≠ gb239)) k_∧some k_ ≠ (u5 : Value).ownBlock) rfl rfl ?aP (fun _ hk => hk) ?aF ?aO ?aB ?aS ?aL ?_;(case aP => exact (k96_mkF _ _ (⟨(rd_T96 l0 x6_2).f0,(rd_T96 l0 x6_2).f1⟩ : S96) (Kd.V_reads' (Kd.V_mono (ok':=(fun k_ => ((fun k_ => (P0_ k_ ∨ w.heap.size ≤ k_)∧some k_ ≠ (.slice Ao20 y245.length co20 : Value).ownBlock∧k_ ≠ gb239)) k_∧some k_ ≠ (u5 : Value).ownBlock)) (HL249_1.out) (fun k_ hk => ⟨⟨hk.1,⟨hk.2.2.1,hk.2.2.2⟩⟩,hk.2.1⟩))).2.1 (Kd.V_F (Kd.V_mono (ok':=(fun k_ => ((fun k_ => (P0_ k_ ∨ w.heap.size ≤ k_)∧some k_ ≠ (.slice Ao20 y245.length co20 : Value).ownBlock∧k_ ≠ gb239)) k_∧some k_ ≠ (u5 : Value).ownBlock)) (HL249_1.out) (fun k_ hk => ⟨⟨hk.1,⟨hk.2.2.1,hk.2.2.2⟩⟩,hk.2.1⟩)))));(case aB => exact (by repeat (first|(with_reducible first|exact HB.out|apply below_alloc|apply pw_below_drewN|apply below_drew1|refine below_set ?_ GE239.out)|exact HB.out)));(case aF => exact (fun k_ hk => ⟨(.inr (Nat.le_trans (below_size (by repeat (first|(with_reducible first|exact HB.out|apply below_alloc|apply pw_below_drewN|apply below_drew1|refine below_set ?_ GE239.out)|exact HB.out))) hk)),Kd.fresh' (Kd.R_lt (by (with_reducible repeat (first|apply Kd.R_alloc|apply Kd.R_drewN|apply Kd.R_drew));exact HO_240001.out)) k_ hk,Kd.freshB (g:=gb239) (o:=.cells #[.int .i64 (wrap64 (((rd_T96 l1 x7_1).f0) + ((rd_T96 l1 (ji8)).f0))),.slice Ao20 y245.length co20] 96 (0,0)) (by (with_reducible repeat (first|refine blk_drewN ?_ _|refine blk_drew ?_|refine blk_alloc ?_ _));exact BK239.out) k_ hk⟩));(case aO => exact (by (with_reducible repeat (first|apply Kd.N_alloc|apply Kd.N_drewN|apply Kd.N_drew));exact HO_5.out));(case aS => exact (below_size (by repeat (first|(with_reducible first|exact HB.out|apply below_alloc|apply pw_below_drewN|apply below_drew1|refine below_set ?_ GE239.out)|exact HB.out))));(case aL => have:=LMc25.out;omega);intro v251 w27 ho hb hg hat;rw [← Ny250.out] at ho;have n0_:=Aside0.mk (Kd.V_afterv (ok:=(fun k_ => (P0_ k_ ∨ w.heap.size ≤ k_)∧some k_ ≠ (.slice Ao20 y245.length co20 : Value).ownBlock∧k_ ≠ gb239)) (by (with_reducible repeat (first|apply Kd.V_alloc|apply Kd.V_drewN|apply Kd.V_drew));exact Kd.V_mono HO_0.out (fun _ hk => ⟨⟨hk.1,⟨hk.2.2.1,hk.2.2.2⟩⟩,hk.2.1⟩)) hg hat);have n1_:=Aside0.mk (Kd.R_over' (by (with_reducible repeat (first|apply Kd.R_alloc|apply Kd.R_drewN|apply Kd.R_drew));exact HO_240001.out) (Kd.N_typed (by (with_reducible repeat (first|apply Kd.N_alloc|apply Kd.N_drewN|apply Kd.N_drew));exact HO_5.out)) (by decide) hg);have n2_:=Aside0.mk (blk_grown (g:=gb239) (o:=.cells #[.int .i64 (wrap64 (((rd_T96 l1 x7_1).f0) + ((rd_T96 l1 (ji8)).f0))),.slice Ao20 y245.length co20] 96 (0,0)) (by (with_reducible repeat (first|refine blk_drewN ?_ _|refine blk_drew ?_|refine blk_alloc ?_ _));exact BK239.out) hg (Kd.N_away HO_5.out (fun _ hk => hk.2.2)));have n3_:=Aside0.mk (Kd.V_afterv (ok:=(fun k_ => (P0_ k_ ∨ w.heap.size ≤ k_)∧some k_ ≠ (.slice Ao20 y245.length co20 : Value).ownBlock∧k_ ≠ gb239)) (by (with_reducible repeat (first|apply Kd.V_alloc|apply Kd.V_drewN|apply Kd.V_drew));exact Kd.V_mono HL248_1.out (fun _ hk => ⟨⟨hk.1,⟨hk.2.2.1,hk.2.2.2⟩⟩,hk.2.1⟩)) hg hat);have n4_:=Aside0.mk (Kd.V_afterv (ok:=(fun k_ => (P0_ k_ ∨ w.heap.size ≤ k_)∧some k_ ≠ (.slice Ao20 y245.length co20 : Value).ownBlock∧k_ ≠ gb239)) (by (with_reducible repeat (first|apply Kd.V_alloc|apply Kd.V_drewN|apply Kd.V_drew));exact Kd.V_mono HL249_1.out (fun _ hk => ⟨⟨hk.1,⟨hk.2.2.1,hk.2.2.2⟩⟩,hk.2.1⟩)) hg hat);have n5_:=Aside0.mk (hb);have n6_:=Aside0.mk (ho);clear HO_0;clear HO_240001;clear BK239;clear HL248_1;clear HL249_1;clear HB;clear HO_5;have HO_0:=n0_;have HO_240001:=n1_;have BK239:=n2_;have HL248_1:=n3_;have HL249_1:=n4_;have HB:=n5_;have HO252:=n6_;clear n0_ n1_ n2_ n3_ n4_ n5_ n6_;clear ho hb hg hat))
     go_roundg k2
     case measure => have:=HK1.out;have:=HK2.out;omega
     case rel => exact ⟨(y250),(wrap64 (x6_2 + 1)),(by first|rfl|(simp;done)|(simp [*];done)),H',⟨by have:=HK1.out;have:=HK2.out;omega⟩,⟨by (with_reducible repeat (first|apply Kd.V_alloc|apply Kd.V_drewN|apply Kd.V_drew));exact Kd.V_mono HO_0.out (fun _ hk => ⟨hk.1.1,⟨hk.2,⟨hk.1.2.1,hk.1.2.2⟩⟩⟩)⟩,⟨by (with_reducible repeat (first|apply Kd.N_alloc|apply Kd.N_drewN|apply Kd.N_drew));exact HO252.out⟩,⟨by (with_reducible repeat (first|apply Kd.R_alloc|apply Kd.R_drewN|apply Kd.R_drew));exact HO_240001.out⟩,⟨by (with_reducible repeat (first|refine blk_drewN ?_ _|refine blk_drew ?_|refine blk_alloc ?_ _));exact BK239.out⟩,⟨by repeat (first|(with_reducible first|exact HB.out|apply below_alloc|apply pw_below_drewN|apply below_drew1|refine below_set ?_ GE239.out)|exact HB.out)⟩⟩
end Go.Proofs.Ytimomemkbcidnaa.PFnPackage
