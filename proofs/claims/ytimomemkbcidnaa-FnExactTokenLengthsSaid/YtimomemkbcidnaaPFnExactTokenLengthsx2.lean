-- Written by a program of this session (a changed print); Lean checks it.
import Derived.Test.YtimomemkbcidnaaPFnExactTokenLengthsx0
namespace Go.Proofs.Ytimomemkbcidnaa.PFnExactTokenLengths
open Go.RowKit Go.Proofs.YtimomemkbcidnaaW.PrintWords Go.Proofs.YtimomemkbcidnaaW.PrintLast Go.Proofs.YtimomemkbcidnaaW.PrintMore
attribute [local go_sem] max2_int min2_int max_two min_two max_three min_three max_four min_four   -- for this text's walks alone
set_option linter.unusedVariables false
set_option linter.unusedSimpArgs false
open Act renaming put → sPu
open List renaming setIfInBounds_toArray → sIa, set_cons_zero → sCz, set_cons_succ → sCs
open Bool renaming true → Y, false → Z

/-! ### spec_l04Next: function 69 -/
mutual
def spec_l04Next.l0 : Nat → List (S96) → List (S96) → List (S96) → Int → Int → Option ((List (S96)))
  | 0, _, _, _, _, _ => none
  | k + 1, x0, x1, x5, x6, x7 => if (wrap64 (x7 + 1)) < (x1.length : Int) then (if 0 ≤ x7 then (if x7 < (x1.length : Int) then (if 0 ≤ (wrap64 (x7 + 1)) then (if ([] : List Int).length + ((rd_T96 x1 x7).f1).length < 17592186044416 then ((some (([] : List Int) ++ ((rd_T96 x1 x7).f1) : List Int)).bind fun y174 => (if y174.length + ((rd_T96 x1 (wrap64 (x7 + 1))).f1).length < 17592186044416 then (spec_l04Next.l1 k x0 x1 x5 x6 x7 (wrap64 (((rd_T96 x1 x7).f0) + ((rd_T96 x1 (wrap64 (x7 + 1))).f0))) (y174 ++ ((rd_T96 x1 (wrap64 (x7 + 1))).f1))) else (none))) else (none)) else (none)) else (none)) else (none)) else (if 0 ≤ x6 then (if x6 ≤ (x0.length : Int) then ((some (x0.drop (x6 : Int).toNat : List (S96))).bind fun y162 => (if x5.length + y162.length < 4398046511104 then (some (x5 ++ y162)) else (none))) else (none)) else (none))
def spec_l04Next.l1 : Nat → List (S96) → List (S96) → List (S96) → Int → Int → Int → List Int → Option ((List (S96)))
  | 0, _, _, _, _, _, _, _ => none
  | k + 1, x0, x1, x5, x6, x7, x173000, x173001 => if x6 < (x0.length : Int) then (if 0 ≤ x6 then (if ((rd_T96 x0 x6).f0) ≤ x173000 then (if x5.length < 4398046511104 then (spec_l04Next.l1 k x0 x1 (x5 ++ [(⟨(rd_T96 x0 x6).f0, (rd_T96 x0 x6).f1⟩ : S96)]) (wrap64 (x6 + 1)) x7 x173000 x173001) else (none)) else (if x5.length < 4398046511104 then (spec_l04Next.l0 k x0 x1 (x5 ++ [(⟨x173000, x173001⟩ : S96)]) x6 (wrap64 (x7 + 2))) else (none))) else (none)) else (if x5.length < 4398046511104 then (spec_l04Next.l0 k x0 x1 (x5 ++ [(⟨x173000, x173001⟩ : S96)]) x6 (wrap64 (x7 + 2))) else (none))
end
def spec_l04Next.f (k : Nat) (l0 : List (S96)) (l1 : List (S96)) : Option ((List (S96))) := spec_l04Next.l0 k l0 l1 (([] : List (S96))) 0 0
theorem spec_l04Next.mono_l : ∀ k, (∀ y0 y1 y2 y3 y4, LeO (spec_l04Next.l0 k y0 y1 y2 y3 y4) (spec_l04Next.l0 (k + 1) y0 y1 y2 y3 y4)) ∧ (∀ y0 y1 y2 y3 y4 y5 y6, LeO (spec_l04Next.l1 k y0 y1 y2 y3 y4 y5 y6) (spec_l04Next.l1 (k + 1) y0 y1 y2 y3 y4 y5 y6))
  | 0 => ⟨fun _ _ _ _ _ r h => by simp [spec_l04Next.l0] at h, fun _ _ _ _ _ _ _ r h => by simp [spec_l04Next.l1] at h⟩
  | k + 1 => by
    obtain ⟨ih0, ih1⟩ := spec_l04Next.mono_l k
    refine ⟨?_, ?_⟩
    · intro y0 y1 y2 y3 y4
      unfold spec_l04Next.l0
      repeat' first
      | (with_reducible exact ih0 _ _ _ _ _)
      | (with_reducible exact ih1 _ _ _ _ _ _ _)
      | (with_reducible exact LeO.refl _)
      | (with_reducible exact LeO.none _)
      | (with_reducible refine LeO.ite ?_ ?_)
      | (with_reducible refine LeO.bind ?_ (fun _ => ?_))
      | exact ih0 _ _ _ _ _
      | exact ih1 _ _ _ _ _ _ _
      | exact LeO.none _
      | refine LeO.ite ?_ ?_
      | refine LeO.bind ?_ (fun _ => ?_)
    · intro y0 y1 y2 y3 y4 y5 y6
      unfold spec_l04Next.l1
      repeat' first
      | (with_reducible exact ih0 _ _ _ _ _)
      | (with_reducible exact ih1 _ _ _ _ _ _ _)
      | (with_reducible exact LeO.refl _)
      | (with_reducible exact LeO.none _)
      | (with_reducible refine LeO.ite ?_ ?_)
      | (with_reducible refine LeO.bind ?_ (fun _ => ?_))
      | exact ih0 _ _ _ _ _
      | exact ih1 _ _ _ _ _ _ _
      | exact LeO.none _
      | refine LeO.ite ?_ ?_
      | refine LeO.bind ?_ (fun _ => ?_)
theorem spec_l04Next.mono : ∀ a0 a1 k, LeO (spec_l04Next.f k a0 a1) (spec_l04Next.f (k + 1) a0 a1) := by
  intro a0 a1 k
  obtain ⟨ih0, ih1⟩ := spec_l04Next.mono_l k
  unfold spec_l04Next.f
  repeat' first
      | (with_reducible exact ih0 _ _ _ _ _)
      | (with_reducible exact ih1 _ _ _ _ _ _ _)
      | (with_reducible exact LeO.refl _)
      | (with_reducible exact LeO.none _)
      | (with_reducible refine LeO.ite ?_ ?_)
      | (with_reducible refine LeO.bind ?_ (fun _ => ?_))
      | exact ih0 _ _ _ _ _
      | exact ih1 _ _ _ _ _ _ _
      | exact LeO.none _
      | refine LeO.ite ?_ ?_
      | refine LeO.bind ?_ (fun _ => ?_)
def spec_l04Next.T6 : Bool × List (List Nat × List Nat) := (true, [([], []), ([], []), ([0, 1], [0, 1]), ([2], [2]), ([3], [3]), ([], []), ([], []), ([6], [6]), ([5, 7], [5, 7]), ([8], [8]), ([9], [9]), ([4, 10], [4, 10]), ([11], [11]), ([], []), ([13, 12, 0, 1, 2, 3, 4, 5, 6, 7, 8, 9, 10, 11, 12, 13], [12, 13])])
def spec_l04Next.B6 : List Nat := [0, 0, 3, 7, 15, 0, 0, 64, 224, 480, 992, 2047, 4095, 0, 16383]
theorem spec_l04Next.tab6 : rtab .any (opsOf Try.f69 6) = spec_l04Next.T6 := by kernel_rfl
theorem spec_l04Next.bits6 : waitsOk spec_l04Next.T6.2 spec_l04Next.B6 = true := by kernel_rfl
def spec_l04Next.T7 : Bool × List (List Nat × List Nat) := (true, [([], []), ([0], [0]), ([], []), ([], []), ([2, 3], [2, 3]), ([4], [4]), ([5], [5]), ([1, 6], [1, 6]), ([], []), ([], []), ([9], [9]), ([8, 10], [8, 10]), ([11], [11]), ([12], [12]), ([7, 13, 7], [7, 13]), ([0, 1, 2, 3, 4, 5, 6, 7, 8, 9, 10, 11, 12, 13, 14], []), ([15, 14, 14, 0, 1, 2, 3, 4, 5, 6, 7, 8, 9, 10, 11, 12, 13, 14], [14, 15])])
def spec_l04Next.B7 : List Nat := [0, 1, 0, 0, 12, 28, 60, 127, 0, 0, 512, 1792, 3840, 7936, 16383, 32767, 65535]
theorem spec_l04Next.tab7 : rtab .any (opsOf Try.f69 7) = spec_l04Next.T7 := by kernel_rfl
theorem spec_l04Next.bits7 : waitsOk spec_l04Next.T7.2 spec_l04Next.B7 = true := by kernel_rfl
def spec_l04Next.T8 : Bool × List (List Nat × List Nat) := (true, [([], []), ([], []), ([1], [1]), ([0, 2], [0, 2]), ([3], [3]), ([4], [4]), ([4], [4]), ([5, 6, 4], [4, 5, 6]), ([7, 4], [4, 7]), ([8, 4], [4, 8]), ([4], [4]), ([10, 4], [4, 10]), ([9, 11, 4], [4, 9, 11]), ([4, 12], [4, 12])])
def spec_l04Next.B8 : List Nat := [0, 0, 2, 7, 15, 31, 31, 127, 255, 511, 31, 1055, 4095, 8191]
theorem spec_l04Next.tab8 : rtab .any (opsOf Try.f69 8) = spec_l04Next.T8 := by kernel_rfl
theorem spec_l04Next.bits8 : waitsOk spec_l04Next.T8.2 spec_l04Next.B8 = true := by kernel_rfl
set_option maxHeartbeats 8000000 in
set_option maxRecDepth 100000 in
theorem spec_l04Next.calls (k : Nat) (P0_ : Nat → Prop) (A0 : Option Addr) (c0 : Nat) (l0 : List (S96)) (A1 : Option Addr) (c1 : Nat) (l1 : List (S96)) (r : List (S96)) (w : World) (hs0 : Kd.V k96 96 w w.heap.size (fun k_ => P0_ k_) (.slice A0 l0.length c0) l0) (hr1 : Kd.C k96 w A1 l1.length l1) (hc1 : l1.length ≤ c1) (h : spec_l04Next.f k l0 l1 = some r) :
    Calls Try.prog 69 #[.slice A0 l0.length c0, .slice A1 l1.length c1] w fun e w' => ∃ v0_ : Value, e = .returned (v0_) ∧ Kd.N k96 96 w' w.heap.size (fun k_ => (P0_ k_ ∨ w.heap.size ≤ k_)) v0_ r ∧ Below w.heap.size w w' := by
 have hu96:=Try.underlying96
 have HO0:=Aside0.mk (show Kd.V k96 96 w w.heap.size (fun k_ => (P0_ k_ ∨ w.heap.size ≤ k_)) (.slice A0 l0.length c0) l0 from Kd.V_mono hs0 (fun k_ hk => .inl hk))
 have HR1:=Aside0.mk hr1
 have HC1:=Aside0.mk hc1
 clear hr1 hc1
 have HB:=Aside0.mk (Below.refl w.heap.size w)
 have H : (spec_l04Next.l0 k l0 l1 (([] : List (S96))) 0 0) = some r:=h
 clear h
 obtain ⟨y159,hy159⟩ : ∃ y_ : List (S96),y_ = (([] : List (S96))):=⟨_,rfl⟩
 replace H : (spec_l04Next.l0 k l0 l1 y159 0 0) = some r:=by first|(rw [hy159];with_reducible exact H)|(have H2_:=(Option.bind_some _ _).symm.trans H;rw [hy159];with_reducible exact H2_)|(have H2_:=(Option.bind_some _ _).symm.trans H;with_reducible exact H2_)|with_reducible exact H|(rw [hy159];exact H)|exact H
 have Ny159:=Aside0.mk hy159
 clear hy159
 have H':=Aside0.mk H
 clear H
 go_enter Try.func69,Try.ntmps69
 go_wp2_with (first|((with_reducible refine gate_dst (N:=9) rfl ?_);refine Kd.N_lit k96 _ 96 ?hg (N':=9) ?hd (xs:=([] : List (S96))) (inner:=[]) (ok:=(fun k_ => (P0_ k_ ∨ w.heap.size ≤ k_))) (okp:=(fun k_ => (P0_ k_ ∨ w.heap.size ≤ k_))) ?hr ?hp (fun _ hk => hk) ((show ∀ k_,w.heap.size ≤ k_ → (fun k_ => (P0_ k_ ∨ w.heap.size ≤ k_)) k_ from fun k_ hk => (.inr (Nat.le_trans (below_size (by repeat (first|(with_reducible first|exact HB.out|apply below_alloc|apply pw_below_drewN|apply below_drew1)|exact HB.out))) hk))) _ (Nat.le_refl _)) (Below.refl _ _) (Nat.le_refl _) (by simp) ?_;(case hd => rfl);(case hg => rfl);(case hr => first|(go_simp;done)|(go_simp;rfl));(case hp => exact (Reps.none _ _));intro v160 w3 ho4 hb hg_ hnew_;clear hg_ hnew_;(first|rw [← Ny159.out] at ho4|(simp only [Int.reduceToNat] at ho4;rw [← Ny159.out] at ho4));have n0_:=Aside0.mk (Kd.V_elder' (by (with_reducible repeat (first|apply Kd.V_alloc|apply Kd.V_drewN|apply Kd.V_drew));exact HO0.out) (Kd.N_base ho4) hb);have n1_:=Aside0.mk (Kd.N_lower ho4 (below_size (by repeat (first|(with_reducible first|exact HB.out|apply below_alloc|apply pw_below_drewN|apply below_drew1)|exact HB.out))));have n2_:=Aside0.mk (below_step (by repeat (first|(with_reducible first|exact HB.out|apply below_alloc|apply pw_below_drewN|apply below_drew1)|exact HB.out)) hb);clear HO0;clear HB;have HO0:=n0_;have HO161:=n1_;have HB:=n2_;clear n0_ n1_ n2_;clear hb ho4))
 go_loopg [5,6,7] k (fun kq v5 v6 v7 w' => ∃ (x5_1 : List (S96)) (x6_1 : Int) (x7_1 : Int),v6 = .int .i64 x6_1∧v7 = .int .i64 x7_1∧Aside0 (spec_l04Next.l0 kq l0 l1 x5_1 x6_1 x7_1 = some r)∧Aside0 (kq ≤ k)∧Aside0 (Kd.V k96 96 w' w.heap.size (fun k_ => (P0_ k_ ∨ w.heap.size ≤ k_)∧some k_ ≠ (v5 : Value).ownBlock) (.slice A0 l0.length c0) l0)∧Aside0 (Kd.N k96 96 w' w.heap.size (fun k_ => (P0_ k_ ∨ w.heap.size ≤ k_)) v5 x5_1)∧Aside0 (Below w.heap.size w w'))
 case atStart => exact ⟨(y159),(0),(0),(by first|rfl|(simp;done)|(simp [*];done)),(by first|rfl|(simp;done)|(simp [*];done)),H',⟨Nat.le_refl _⟩,⟨by (with_reducible repeat (first|apply Kd.V_alloc|apply Kd.V_drewN|apply Kd.V_drew));exact HO0.out⟩,⟨by (with_reducible repeat (first|apply Kd.N_alloc|apply Kd.N_drewN|apply Kd.N_drew));exact HO161.out⟩,⟨by repeat (first|(with_reducible first|exact HB.out|apply below_alloc|apply pw_below_drewN|apply below_drew1)|exact HB.out)⟩⟩
 case round =>
  clear H'
  obtain ⟨x5_1,x6_1,x7_1,rfl,rfl,HA,HK1,HO_0,HO_5,HB⟩:=hrel
  cases gk with
  | zero => exact absurd HA.out (by simp [spec_l04Next.l0])
  | succ k1 =>
   have H:=HA.out
   clear HA
   simp only [spec_l04Next.l0] at H
   by_cases c5 : (wrap64 (x7_1 + 1)) < (l1.length : Int)
   rotate_left
   ·rw [if_neg c5] at H
    have c5b0 : decide ((wrap64 (x7_1 + 1)) < (l1.length : Int)) = false:=decide_eq_false c5
    clear c5
    by_cases c36 : 0 ≤ x6_1
    rotate_left
    ·rw [if_neg c36] at H
     exact absurd H (by simp)
    rw [if_pos c36] at H
    have c36b0:=eq_true c36
    have c36b1 : decide (0 ≤ x6_1) = true:=decide_eq_true c36
    clear c36
    by_cases c37 : x6_1 ≤ (l0.length : Int)
    rotate_left
    ·rw [if_neg c37] at H
     exact absurd H (by simp)
    rw [if_pos c37] at H
    have c37b0:=eq_true c37
    have c37b1 : decide (x6_1 ≤ (l0.length : Int)) = true:=decide_eq_true c37
    clear c37
    obtain ⟨y162,hy162⟩ : ∃ y_ : List (S96),y_ = (l0.drop (x6_1 : Int).toNat):=⟨_,rfl⟩
    replace H : (if x5_1.length + y162.length < 4398046511104 then (some (x5_1 ++ y162)) else (none)) = some r:=by first|(rw [hy162];with_reducible exact H)|(have H2_:=(Option.bind_some _ _).symm.trans H;rw [hy162];with_reducible exact H2_)|(have H2_:=(Option.bind_some _ _).symm.trans H;with_reducible exact H2_)|with_reducible exact H|(rw [hy162];exact H)|exact H
    have Ny162:=Aside0.mk hy162
    clear hy162
    by_cases c38 : x5_1.length + y162.length < 4398046511104
    rotate_left
    ·rw [if_neg c38] at H
     exact absurd H (by simp)
    rw [if_pos c38] at H
    have LMc38:=Aside0.mk c38
    clear c38
    obtain ⟨y167,hy167⟩ : ∃ y_ : List (S96),y_ = (x5_1 ++ y162):=⟨_,rfl⟩
    replace H : (some y167) = some r:=by first|(rw [hy167];with_reducible exact H)|(have H2_:=(Option.bind_some _ _).symm.trans H;rw [hy167];with_reducible exact H2_)|(have H2_:=(Option.bind_some _ _).symm.trans H;with_reducible exact H2_)|with_reducible exact H|(rw [hy167];exact H)|exact H
    have Ny167:=Aside0.mk hy167
    clear hy167
    obtain rfl:=Option.some.inj H
    have q39 : (x6_1 : Int) ≤ ((l0.length : Int) : Int):=of_decide_eq_true (by assumption)
    obtain ⟨i039,hi039,_,hsz39,_⟩:=info_parts info96
    have hroom39 : l0.length ≤ c0:=(Kd.V_reads' HO_0.out).2.1
    have hC39 : Kd.F k96 _ _ A0 l0.length l0:=(Kd.V_at (base:=w.heap.size) HO_0.out).2.2
    have q039 : (0 : Int) ≤ (x6_1 : Int):=of_decide_eq_true (by assumption)
    have hcut39:=cut_from (P:=Try.prog) 93 96 .i64 Try.underlying93 hi039 2 hsz39 A0 l0.length c0 x6_1 q039 q39
    have hr39:=Kd.F_cut (m:=(x6_1 : Int).toNat) (c:=c0) hC39 (by omega) hroom39
    obtain ⟨A39,hA39⟩ : ∃ A1,A1 = (if c0 = (x6_1 : Int).toNat then A0 else (A0 : Option Addr).map (·.add ((x6_1 : Int).toNat * 2))):=⟨_,rfl⟩
    obtain ⟨c39,hc39⟩ : ∃ c1,c1 = c0 - (x6_1 : Int).toNat:=⟨_,rfl⟩
    have hy39 : y162.length = l0.length - (x6_1 : Int).toNat:=(by rw [Ny162.out,List.length_drop] <;> omega)
    rw [show (l0).drop (x6_1 : Int).toNat = y162 from Ny162.out.symm] at hr39
    replace hr39 : Kd.F k96 _ _ A39 y162.length y162:=(by rw [hA39];exact hr39)
    rw [← hy39,← hA39,← hc39] at hcut39
    have HO166:=Aside0.mk (show Kd.V k96 96 _ w.heap.size _ (.slice A39 y162.length c39) y162 from Kd.V_mk (by rw [hy39,hc39];exact Nat.sub_le_sub_right hroom39 _) hr39)
    have HC166:=Aside0.mk (show y162.length ≤ c39 from by rw [hy39,hc39];exact Nat.sub_le_sub_right hroom39 _)
    clear hr39 hC39 hroom39 hi039 hsz39 hc39
    have KY39:=Aside0.mk hy39
    have KA39:=Aside0.mk hA39
    clear hy39 hA39
    replace q39:=eq_true q39
    go_wp2_with (first|((with_reducible refine gate_builtin (b:=.append) (xs:=#[.tmp 73,.tmp 76]) rfl ?_);at_builtin;refine Kd.N_append_rows k96 (w0:=w) w.heap.size rfl (.tmp 73) (.tmp 76) 93 96 (.agg #[(.int .i64 0),(.slice none 0 0)]) 32 rfl Try.underlying93 info96 rfl (by decide) (by omega) u5 x5_1 y162 _ _ _ (fun k_ => (P0_ k_ ∨ w.heap.size ≤ k_)) (fun k_ => ((fun k_ => (P0_ k_ ∨ w.heap.size ≤ k_))) k_∧some k_ ≠ (u5 : Value).ownBlock) rfl rfl ?aO ?aR (fun _ hk => hk) ?aF ?aB ?aS ?aL ?_;(case aR => exact (by skip;exact Kd.V_F (Kd.V_mono (ok':=(fun k_ => ((fun k_ => (P0_ k_ ∨ w.heap.size ≤ k_))) k_∧some k_ ≠ (u5 : Value).ownBlock)) (HO166.out) (fun k_ hk => ⟨hk.1,hk.2⟩))));(case aB => exact (by repeat (first|(with_reducible first|exact HB.out|apply below_alloc|apply pw_below_drewN|apply below_drew1)|exact HB.out)));(case aF => exact (fun k_ hk => (.inr (Nat.le_trans (below_size (by repeat (first|(with_reducible first|exact HB.out|apply below_alloc|apply pw_below_drewN|apply below_drew1)|exact HB.out))) hk))));(case aO => exact (by (with_reducible repeat (first|apply Kd.N_alloc|apply Kd.N_drewN|apply Kd.N_drew));exact HO_5.out));(case aS => exact (below_size (by repeat (first|(with_reducible first|exact HB.out|apply below_alloc|apply pw_below_drewN|apply below_drew1)|exact HB.out))));(case aL => have:=LMc38.out;omega);intro v168 w40 ho hb hg hat;rw [← Ny167.out] at ho;have n0_:=Aside0.mk (Kd.V_afterv (ok:=(fun k_ => (P0_ k_ ∨ w.heap.size ≤ k_))) (by (with_reducible repeat (first|apply Kd.V_alloc|apply Kd.V_drewN|apply Kd.V_drew));exact HO_0.out) hg hat);have n1_:=Aside0.mk (Kd.V_afterv (ok:=(fun k_ => (P0_ k_ ∨ w.heap.size ≤ k_))) (by (with_reducible repeat (first|apply Kd.V_alloc|apply Kd.V_drewN|apply Kd.V_drew));exact HO166.out) hg hat);have n2_:=Aside0.mk (hb);have n3_:=Aside0.mk (ho);clear HO_0;clear HO166;clear HB;clear HO_5;have HO_0:=n0_;have HO166:=n1_;have HB:=n2_;have HO169:=n3_;clear n0_ n1_ n2_ n3_;clear ho hb hg hat))
    go_ret
    exact ⟨_,by first|rfl|(simp [errW_none,errW_some] <;> rfl)|(simp [*,errW_none,errW_some] <;> rfl),by (with_reducible repeat (first|apply Kd.N_alloc|apply Kd.N_drewN|apply Kd.N_drew));exact HO169.out,by repeat (first|(with_reducible first|exact HB.out|apply below_alloc|apply pw_below_drewN|apply below_drew1)|exact HB.out)⟩
   rw [if_pos c5] at H
   have c5b0 : decide ((wrap64 (x7_1 + 1)) < (l1.length : Int)) = true:=decide_eq_true c5
   clear c5
   by_cases c6 : 0 ≤ x7_1
   rotate_left
   ·rw [if_neg c6] at H
    exact absurd H (by simp)
   rw [if_pos c6] at H
   have c6b0 : decide (0 ≤ x7_1) = true:=decide_eq_true c6
   clear c6
   by_cases c7 : x7_1 < (l1.length : Int)
   rotate_left
   ·rw [if_neg c7] at H
    exact absurd H (by simp)
   rw [if_pos c7] at H
   have c7b0 : decide (x7_1 < (l1.length : Int)) = true:=decide_eq_true c7
   clear c7
   obtain ⟨ji8,hji8⟩ : ∃ j_ : Int,(wrap64 (x7_1 + 1)) = j_:=⟨_,rfl⟩
   replace H : (if 0 ≤ (ji8) then (if ([] : List Int).length + ((rd_T96 l1 x7_1).f1).length < 17592186044416 then ((some (([] : List Int) ++ ((rd_T96 l1 x7_1).f1) : List Int)).bind fun y174 => (if y174.length + ((rd_T96 l1 (ji8)).f1).length < 17592186044416 then (spec_l04Next.l1 k1 l0 l1 x5_1 x6_1 x7_1 (wrap64 (((rd_T96 l1 x7_1).f0) + ((rd_T96 l1 (ji8)).f0))) (y174 ++ ((rd_T96 l1 (ji8)).f1))) else (none))) else (none)) else (none)) = some r:=by first|(rw [hji8] at H;exact H)|(simp only [hji8] at H ⊢;exact H)
   (try rw [hji8] at c5b0)
   have hji8w : (IntKind.i64.wrap (x7_1 + 1)) = ji8:=(i64_w _).trans hji8
   by_cases c9 : 0 ≤ (ji8)
   rotate_left
   ·rw [if_neg c9] at H
    exact absurd H (by simp)
   rw [if_pos c9] at H
   have c9b0 : decide (0 ≤ (ji8)) = true:=decide_eq_true c9
   clear c9
   by_cases c10 : ([] : List Int).length + ((rd_T96 l1 x7_1).f1).length < 17592186044416
   rotate_left
   ·rw [if_neg c10] at H
    exact absurd H (by simp)
   rw [if_pos c10] at H
   have LMc10:=Aside0.mk c10
   clear c10
   obtain ⟨y174,hy174⟩ : ∃ y_ : List Int,y_ = (([] : List Int) ++ ((rd_T96 l1 x7_1).f1)):=⟨_,rfl⟩
   replace H : (if y174.length + ((rd_T96 l1 (ji8)).f1).length < 17592186044416 then (spec_l04Next.l1 k1 l0 l1 x5_1 x6_1 x7_1 (wrap64 (((rd_T96 l1 x7_1).f0) + ((rd_T96 l1 (ji8)).f0))) (y174 ++ ((rd_T96 l1 (ji8)).f1))) else (none)) = some r:=by first|(rw [hy174];with_reducible exact H)|(have H2_:=(Option.bind_some _ _).symm.trans H;rw [hy174];with_reducible exact H2_)|(have H2_:=(Option.bind_some _ _).symm.trans H;with_reducible exact H2_)|with_reducible exact H|(rw [hy174];exact H)|exact H
   have Ny174:=Aside0.mk hy174
   clear hy174
   by_cases c11 : y174.length + ((rd_T96 l1 (ji8)).f1).length < 17592186044416
   rotate_left
   ·rw [if_neg c11] at H
    exact absurd H (by simp)
   rw [if_pos c11] at H
   have LMc11:=Aside0.mk c11
   clear c11
   obtain ⟨y178,hy178⟩ : ∃ y_ : List Int,y_ = (y174 ++ ((rd_T96 l1 (ji8)).f1)):=⟨_,rfl⟩
   replace H : (spec_l04Next.l1 k1 l0 l1 x5_1 x6_1 x7_1 (wrap64 (((rd_T96 l1 x7_1).f0) + ((rd_T96 l1 (ji8)).f0))) y178) = some r:=by first|(rw [hy178];with_reducible exact H)|(have H2_:=(Option.bind_some _ _).symm.trans H;rw [hy178];with_reducible exact H2_)|(have H2_:=(Option.bind_some _ _).symm.trans H;with_reducible exact H2_)|with_reducible exact H|(rw [hy178];exact H)|exact H
   have Ny178:=Aside0.mk hy178
   clear hy178
   have H':=Aside0.mk H
   clear H
   try go_wp2
   have n0_:=Aside0.mk (Kd.V_drew HO_0.out)
   have n1_:=Aside0.mk (Kd.N_drew HO_5.out)
   have n2_:=Aside0.mk (below_drew1 HB.out)
   clear HO_0
   clear HO_5
   clear HB
   have HO_0:=n0_
   have HO_5:=n1_
   have HB:=n2_
   clear n0_ n1_ n2_
   have p170 : 0 ≤ (x7_1 : Int):=of_decide_eq_true (by assumption)
   have q170 : x7_1 < (l1.length : Int):=of_decide_eq_true (by assumption)
   obtain ⟨ad170,A170_1,c170_1,e170,hx170_0,hx170_1,hl170_1,hi170_1⟩:=at_T96 HR1.out x7_1 p170 q170
   have hw170_1:=hx170_1
   have hw170_0:=hx170_0
   cases e170
   replace hx170_0:=(HB.out.cell (World.block_lt_of_cell? w _ hx170_0)).trans hx170_0
   replace hx170_1:=(HB.out.cell (World.block_lt_of_cell? w _ hx170_1)).trans hx170_1
   have HR170_1:=Aside0.mk hi170_1
   have HC170_1:=Aside0.mk hl170_1
   clear hi170_1 hl170_1
   replace p170:=eq_true p170
   replace q170:=eq_true q170
   have p171 : 0 ≤ ((ji8) : Int):=of_decide_eq_true (by assumption)
   have q171 : (ji8) < (l1.length : Int):=of_decide_eq_true (by assumption)
   obtain ⟨ad171,A171_1,c171_1,e171,hx171_0,hx171_1,hl171_1,hi171_1⟩:=at_T96 HR1.out (ji8) p171 q171
   have hw171_1:=hx171_1
   have hw171_0:=hx171_0
   obtain rfl : ad170 = ad171:=(by injection e171)
   replace hx171_0:=(HB.out.cell (World.block_lt_of_cell? w _ hx171_0)).trans hx171_0
   replace hx171_1:=(HB.out.cell (World.block_lt_of_cell? w _ hx171_1)).trans hx171_1
   have HR171_1:=Aside0.mk hi171_1
   have HC171_1:=Aside0.mk hl171_1
   clear hi171_1 hl171_1
   replace p171:=eq_true p171
   replace q171:=eq_true q171
   refine start_ (n:=15) (S:=fun w' => w'.cell? (ad170.add ((x7_1).toNat * 2)) = some (.int .i64 ((rd_T96 l1 x7_1).f0))∧w'.cell? ⟨(ad170.add ((x7_1).toNat * 2)).block,(ad170.add ((x7_1).toNat * 2)).off + 1,none⟩ = some (.slice A170_1 ((rd_T96 l1 x7_1).f1).length c170_1)∧w'.cell? (ad170.add (((ji8)).toNat * 2)) = some (.int .i64 ((rd_T96 l1 (ji8)).f0))∧w'.cell? ⟨(ad170.add (((ji8)).toNat * 2)).block,(ad170.add (((ji8)).toNat * 2)).off + 1,none⟩ = some (.slice A171_1 ((rd_T96 l1 (ji8)).f1).length c171_1)) (ds:=[]) #[Z,Z,Z,Z,Z,Z,Z,Z,Z,Z,Z,Z,Z,Z,Z] (by kernel_rfl) rfl rfl ⟨((HB.out.cell (World.block_lt_of_cell? w _ hw170_0)).trans hw170_0),((HB.out.cell (World.block_lt_of_cell? w _ hw170_1)).trans hw170_1),((HB.out.cell (World.block_lt_of_cell? w _ hw171_0)).trans hw171_0),((HB.out.cell (World.block_lt_of_cell? w _ hw171_1)).trans hw171_1)⟩ (fun hHeld => ?_);refine with_tabW spec_l04Next.tab6 spec_l04Next.bits6 (fun HT_ HW_ => ?_)
   generalize wr.drew = w12 at HO_0 HO_5 HB HR170_1 HR171_1 hx170_0 hx170_1 hx171_0 hx171_1 hHeld ⊢
   refine pure_ (i:=0) (N:=some 17) (v:=?_) (a':=?_) #[Y,Z,Z,Z,Z,Z,Z,Z,Z,Z,Z,Z,Z,Z,Z] rfl rfl (any_of HT_.out (by kernel_rfl)) (fun _ _ _ h => h) (Or.inl ⟨by rfl,?_⟩) ?_ ?_
   rotate_left
   ·intro w'
    go_simp
    with_reducible rfl
   rotate_left
   ·simp only [sPu,sIa,sCz,sCs,i64_w,i32_w]
    rfl
   refine pure_ (i:=1) (N:=some 18) (v:=?_) (a':=?_) #[Y,Y,Z,Z,Z,Z,Z,Z,Z,Z,Z,Z,Z,Z,Z] rfl rfl (any_of HT_.out (by kernel_rfl)) (fun _ _ _ h => h) (Or.inl ⟨by rfl,?_⟩) ?_ ?_
   rotate_left
   ·intro w'
    go_simp
    with_reducible rfl
   rotate_left
   ·simp only [sPu,sIa,sCz,sCs,i64_w,i32_w]
    rfl
   refine pure_ (i:=2) (N:=some 19) (v:=?_) (a':=?_) #[Y,Y,Y,Z,Z,Z,Z,Z,Z,Z,Z,Z,Z,Z,Z] rfl rfl (any_of HT_.out (by kernel_rfl)) (fun _ _ _ h => h) (Or.inl ⟨by rfl,?_⟩) ?_ ?_
   rotate_left
   ·intro w'
    go_simp
    with_reducible rfl
   rotate_left
   ·simp only [sPu,sIa,sCz,sCs,i64_w,i32_w]
    rfl
   refine pure_ (i:=3) (N:=some 20) (v:=?_) (a':=?_) #[Y,Y,Y,Y,Z,Z,Z,Z,Z,Z,Z,Z,Z,Z,Z] rfl rfl (any_of HT_.out (by kernel_rfl)) (fun _ _ _ h => h) (Or.inl ⟨by rfl,?_⟩) ?_ ?_
   rotate_left
   ·intro w'
    go_simp
    with_reducible rfl
   rotate_left
   ·simp only [sPu,sIa,sCz,sCs,i64_w,i32_w]
    rfl
   refine pure_ (i:=5) (N:=some 22) (v:=?_) (a':=?_) #[Y,Y,Y,Y,Z,Y,Z,Z,Z,Z,Z,Z,Z,Z,Z] rfl rfl (any_of HT_.out (by kernel_rfl)) (fun _ _ _ h => h) (Or.inl ⟨by rfl,?_⟩) ?_ ?_
   rotate_left
   ·intro w'
    go_simp
    with_reducible rfl
   rotate_left
   ·simp only [sPu,sIa,sCz,sCs,i64_w,i32_w]
    rfl
   refine pure_ (i:=6) (N:=some 23) (v:=?_) (a':=?_) #[Y,Y,Y,Y,Z,Y,Y,Z,Z,Z,Z,Z,Z,Z,Z] rfl rfl (any_of HT_.out (by kernel_rfl)) (fun _ _ _ h => h) (Or.inl ⟨by rfl,?_⟩) ?_ ?_
   rotate_left
   ·intro w'
    go_simp
    with_reducible rfl
   rotate_left
   ·simp only [sPu,sIa,sCz,sCs,i64_w,i32_w]
    rfl
   refine pure_ (i:=7) (N:=some 24) (v:=?_) (a':=?_) #[Y,Y,Y,Y,Z,Y,Y,Y,Z,Z,Z,Z,Z,Z,Z] rfl rfl (any_of HT_.out (by kernel_rfl)) (fun _ _ _ h => h) (Or.inl ⟨by rfl,?_⟩) ?_ ?_
   rotate_left
   ·intro w'
    go_simp
    with_reducible rfl
   rotate_left
   ·simp only [sPu,sIa,sCz,sCs,i64_w,i32_w]
    rfl
   refine pure_ (i:=8) (N:=some 25) (v:=?_) (a':=?_) #[Y,Y,Y,Y,Z,Y,Y,Y,Y,Z,Z,Z,Z,Z,Z] rfl rfl (any_of HT_.out (by kernel_rfl)) (fun _ _ _ h => h) (Or.inl ⟨by rfl,?_⟩) ?_ ?_
   rotate_left
   ·intro w'
    go_simp
    with_reducible rfl
   rotate_left
   ·simp only [sPu,sIa,sCz,sCs,i64_w,i32_w]
    rfl
   refine pure_ (i:=9) (N:=some 26) (v:=?_) (a':=?_) #[Y,Y,Y,Y,Z,Y,Y,Y,Y,Y,Z,Z,Z,Z,Z] rfl rfl (any_of HT_.out (by kernel_rfl)) (fun _ _ _ h => h) (Or.inl ⟨by rfl,?_⟩) ?_ ?_
   rotate_left
   ·intro w'
    go_simp
    with_reducible rfl
   rotate_left
   ·simp only [sPu,sIa,sCz,sCs,i64_w,i32_w]
    rfl
   refine take_ (i:=4) (N:=some 21) (v:=?_) (a':=?_) #[Y,Y,Y,Y,Y,Y,Y,Y,Y,Y,Z,Z,Z,Z,Z] rfl rfl (take_ofW HT_.out HW_.out (by kernel_rfl)) (fun _ _ _ h => h) (Or.inl ⟨by rfl,?_⟩) hHeld ?_ ?_
   rotate_left
   ·rintro w' ⟨s0,s1,s2,s3⟩
    go_simp
    with_reducible rfl
   rotate_left
   ·simp only [sPu,sIa,sCz,sCs,i64_w,i32_w]
    rfl
   refine take_ (i:=10) (N:=some 27) (v:=?_) (a':=?_) #[Y,Y,Y,Y,Y,Y,Y,Y,Y,Y,Y,Z,Z,Z,Z] rfl rfl (take_ofW HT_.out HW_.out (by kernel_rfl)) (fun _ _ _ h => h) (Or.inl ⟨by rfl,?_⟩) hHeld ?_ ?_
   rotate_left
   ·rintro w' ⟨s0,s1,s2,s3⟩
    go_simp
    with_reducible rfl
   rotate_left
   ·simp only [sPu,sIa,sCz,sCs,i64_w,i32_w]
    rfl
   refine pure_ (i:=11) (N:=some 28) (v:=?_) (a':=?_) #[Y,Y,Y,Y,Y,Y,Y,Y,Y,Y,Y,Y,Z,Z,Z] rfl rfl (any_of HT_.out (by kernel_rfl)) (fun _ _ _ h => h) (Or.inl ⟨by rfl,?_⟩) ?_ ?_
   rotate_left
   ·intro w'
    go_simp
    with_reducible rfl
   rotate_left
   ·simp only [sPu,sIa,sCz,sCs,i64_w,i32_w]
    rfl
   refine pure_ (i:=12) (N:=some 29) (v:=?_) (a':=?_) #[Y,Y,Y,Y,Y,Y,Y,Y,Y,Y,Y,Y,Y,Z,Z] rfl rfl (any_of HT_.out (by kernel_rfl)) (fun _ _ _ h => h) (Or.inl ⟨by rfl,?_⟩) ?_ ?_
   rotate_left
   ·intro w'
    go_simp
    with_reducible rfl
   rotate_left
   ·simp only [sPu,sIa,sCz,sCs,i64_w,i32_w]
    rfl
   refine one_ (i:=13) (N:=some 8) #[Y,Y,Y,Y,Y,Y,Y,Y,Y,Y,Y,Y,Y,Y,Z] rfl rfl (one_of HT_.out (by kernel_rfl)) (by decide) (fun K hK => ?_)
   refine box_step ?hg (N:=8) ?hd (cs:=#[.int .i64 0,.slice none 0 0]) (t:=96) ?hr ?_;(case hd => rfl);(case hg => rfl);(case hr => first|(go_simp;done)|(go_simp;rfl))
   intro gb172 hg w13 hbox hb
   have n0_:=Aside0.mk (Kd.V_below (Kd.V_elderB (by (with_reducible repeat (first|apply Kd.V_alloc|apply Kd.V_drewN|apply Kd.V_drew));exact HO_0.out) gb172 (Nat.le_of_eq hg.symm)) hb)
   have n1_:=Aside0.mk (Kd.N_below (Kd.N_elderB (by (with_reducible repeat (first|apply Kd.N_alloc|apply Kd.N_drewN|apply Kd.N_drew));exact HO_5.out) gb172 (Nat.le_of_eq hg.symm)) hb)
   have n2_:=Aside0.mk (below_step (by repeat (first|(with_reducible first|exact HB.out|apply below_alloc|apply pw_below_drewN|apply below_drew1)|exact HB.out)) hb)
   have n3_:=Aside0.mk (hbox)
   have n4_:=Aside0.mk ((by rw [hg];exact (below_size (by repeat (first|(with_reducible first|exact HB.out|apply below_alloc|apply pw_below_drewN|apply below_drew1)|exact HB.out))) : w.heap.size ≤ gb172))
   have n5_:=Aside0.mk ((by rw [hg];exact (below_size (by repeat (first|(with_reducible first|exact HB.out|apply below_alloc|apply pw_below_drewN|apply below_drew1)|exact HB.out))) : w.heap.size ≤ gb172))
   clear HO_0
   clear HO_5
   clear HB
   have HO_0:=n0_
   have HO_5:=n1_
   have HB:=n2_
   have BK172:=n3_
   have GW172:=n4_
   have GE172:=n5_
   clear n0_ n1_ n2_ n3_ n4_ n5_
   clear hb hbox hg
   refine hK.out _ _ ⟨((HB.out.cell (World.block_lt_of_cell? w _ hw170_0)).trans hw170_0),((HB.out.cell (World.block_lt_of_cell? w _ hw170_1)).trans hw170_1),((HB.out.cell (World.block_lt_of_cell? w _ hw171_0)).trans hw171_0),((HB.out.cell (World.block_lt_of_cell? w _ hw171_1)).trans hw171_1)⟩ (fun hHeld => ?_)
   clear hK K
   refine norm_ (a':=?_) ?_ ?_
   rotate_left
   ·show Act.put _ (some 8) _ = _
    simp only [sPu,sIa,sCz,sCs,i64_w,i32_w]
    rfl
   refine one_ (i:=14) (N:=none) #[Y,Y,Y,Y,Y,Y,Y,Y,Y,Y,Y,Y,Y,Y,Y] rfl rfl (one_of HT_.out (by kernel_rfl)) (by decide) (fun K hK => ?_)
   have hs14 : w13.cell? ⟨gb172,0,none⟩ = some (.int .i64 0):=(blk_cell BK172.out 0).trans rfl
   have hfs14:=blk_frozen BK172.out 0
   have hs15 : w13.cell? ⟨gb172,1,none⟩ = some (.slice none 0 0):=(blk_cell BK172.out 1).trans rfl
   have hfs15:=blk_frozen BK172.out 1
   refine skip_ (w1:=?_) (by rfl) rfl ?_ ?_
   rotate_left
   ·go_simp
    rfl
   refine hK.out _ _ ⟨((cell_far (p:=⟨gb172,_,none⟩) (by first|exact Nat.ne_of_lt (Nat.lt_of_lt_of_le (by have:=World.block_lt_of_cell? _ _ hw170_0;first|rwa [add_block] at this|exact this) GW172.out)|(rw [add_block];exact Nat.ne_of_lt (Nat.lt_of_lt_of_le (by have:=World.block_lt_of_cell? _ _ hw170_0;first|rwa [add_block] at this|exact this) GW172.out))|(show (Addr.add _ _).block ≠ _;rw [add_block];exact Nat.ne_of_lt (Nat.lt_of_lt_of_le (by have:=World.block_lt_of_cell? _ _ hw170_0;first|rwa [add_block] at this|exact this) GW172.out))|(dsimp only;exact Nat.ne_of_lt (Nat.lt_of_lt_of_le (by have:=World.block_lt_of_cell? _ _ hw170_0;first|rwa [add_block] at this|exact this) GW172.out))) _).trans (((cell_far (p:=⟨gb172,_,none⟩) (by first|exact Nat.ne_of_lt (Nat.lt_of_lt_of_le (by have:=World.block_lt_of_cell? _ _ hw170_0;first|rwa [add_block] at this|exact this) GW172.out)|(rw [add_block];exact Nat.ne_of_lt (Nat.lt_of_lt_of_le (by have:=World.block_lt_of_cell? _ _ hw170_0;first|rwa [add_block] at this|exact this) GW172.out))|(show (Addr.add _ _).block ≠ _;rw [add_block];exact Nat.ne_of_lt (Nat.lt_of_lt_of_le (by have:=World.block_lt_of_cell? _ _ hw170_0;first|rwa [add_block] at this|exact this) GW172.out))|(dsimp only;exact Nat.ne_of_lt (Nat.lt_of_lt_of_le (by have:=World.block_lt_of_cell? _ _ hw170_0;first|rwa [add_block] at this|exact this) GW172.out))) _).trans (hHeld.1)))),((cell_far (p:=⟨gb172,_,none⟩) (by first|exact Nat.ne_of_lt (Nat.lt_of_lt_of_le (by have:=World.block_lt_of_cell? _ _ hw170_1;first|rwa [add_block] at this|exact this) GW172.out)|(rw [add_block];exact Nat.ne_of_lt (Nat.lt_of_lt_of_le (by have:=World.block_lt_of_cell? _ _ hw170_1;first|rwa [add_block] at this|exact this) GW172.out))|(show (Addr.add _ _).block ≠ _;rw [add_block];exact Nat.ne_of_lt (Nat.lt_of_lt_of_le (by have:=World.block_lt_of_cell? _ _ hw170_1;first|rwa [add_block] at this|exact this) GW172.out))|(dsimp only;exact Nat.ne_of_lt (Nat.lt_of_lt_of_le (by have:=World.block_lt_of_cell? _ _ hw170_1;first|rwa [add_block] at this|exact this) GW172.out))) _).trans (((cell_far (p:=⟨gb172,_,none⟩) (by first|exact Nat.ne_of_lt (Nat.lt_of_lt_of_le (by have:=World.block_lt_of_cell? _ _ hw170_1;first|rwa [add_block] at this|exact this) GW172.out)|(rw [add_block];exact Nat.ne_of_lt (Nat.lt_of_lt_of_le (by have:=World.block_lt_of_cell? _ _ hw170_1;first|rwa [add_block] at this|exact this) GW172.out))|(show (Addr.add _ _).block ≠ _;rw [add_block];exact Nat.ne_of_lt (Nat.lt_of_lt_of_le (by have:=World.block_lt_of_cell? _ _ hw170_1;first|rwa [add_block] at this|exact this) GW172.out))|(dsimp only;exact Nat.ne_of_lt (Nat.lt_of_lt_of_le (by have:=World.block_lt_of_cell? _ _ hw170_1;first|rwa [add_block] at this|exact this) GW172.out))) _).trans (hHeld.2.1)))),((cell_far (p:=⟨gb172,_,none⟩) (by first|exact Nat.ne_of_lt (Nat.lt_of_lt_of_le (by have:=World.block_lt_of_cell? _ _ hw171_0;first|rwa [add_block] at this|exact this) GW172.out)|(rw [add_block];exact Nat.ne_of_lt (Nat.lt_of_lt_of_le (by have:=World.block_lt_of_cell? _ _ hw171_0;first|rwa [add_block] at this|exact this) GW172.out))|(show (Addr.add _ _).block ≠ _;rw [add_block];exact Nat.ne_of_lt (Nat.lt_of_lt_of_le (by have:=World.block_lt_of_cell? _ _ hw171_0;first|rwa [add_block] at this|exact this) GW172.out))|(dsimp only;exact Nat.ne_of_lt (Nat.lt_of_lt_of_le (by have:=World.block_lt_of_cell? _ _ hw171_0;first|rwa [add_block] at this|exact this) GW172.out))) _).trans (((cell_far (p:=⟨gb172,_,none⟩) (by first|exact Nat.ne_of_lt (Nat.lt_of_lt_of_le (by have:=World.block_lt_of_cell? _ _ hw171_0;first|rwa [add_block] at this|exact this) GW172.out)|(rw [add_block];exact Nat.ne_of_lt (Nat.lt_of_lt_of_le (by have:=World.block_lt_of_cell? _ _ hw171_0;first|rwa [add_block] at this|exact this) GW172.out))|(show (Addr.add _ _).block ≠ _;rw [add_block];exact Nat.ne_of_lt (Nat.lt_of_lt_of_le (by have:=World.block_lt_of_cell? _ _ hw171_0;first|rwa [add_block] at this|exact this) GW172.out))|(dsimp only;exact Nat.ne_of_lt (Nat.lt_of_lt_of_le (by have:=World.block_lt_of_cell? _ _ hw171_0;first|rwa [add_block] at this|exact this) GW172.out))) _).trans (hHeld.2.2.1)))),((cell_far (p:=⟨gb172,_,none⟩) (by first|exact Nat.ne_of_lt (Nat.lt_of_lt_of_le (by have:=World.block_lt_of_cell? _ _ hw171_1;first|rwa [add_block] at this|exact this) GW172.out)|(rw [add_block];exact Nat.ne_of_lt (Nat.lt_of_lt_of_le (by have:=World.block_lt_of_cell? _ _ hw171_1;first|rwa [add_block] at this|exact this) GW172.out))|(show (Addr.add _ _).block ≠ _;rw [add_block];exact Nat.ne_of_lt (Nat.lt_of_lt_of_le (by have:=World.block_lt_of_cell? _ _ hw171_1;first|rwa [add_block] at this|exact this) GW172.out))|(dsimp only;exact Nat.ne_of_lt (Nat.lt_of_lt_of_le (by have:=World.block_lt_of_cell? _ _ hw171_1;first|rwa [add_block] at this|exact this) GW172.out))) _).trans (((cell_far (p:=⟨gb172,_,none⟩) (by first|exact Nat.ne_of_lt (Nat.lt_of_lt_of_le (by have:=World.block_lt_of_cell? _ _ hw171_1;first|rwa [add_block] at this|exact this) GW172.out)|(rw [add_block];exact Nat.ne_of_lt (Nat.lt_of_lt_of_le (by have:=World.block_lt_of_cell? _ _ hw171_1;first|rwa [add_block] at this|exact this) GW172.out))|(show (Addr.add _ _).block ≠ _;rw [add_block];exact Nat.ne_of_lt (Nat.lt_of_lt_of_le (by have:=World.block_lt_of_cell? _ _ hw171_1;first|rwa [add_block] at this|exact this) GW172.out))|(dsimp only;exact Nat.ne_of_lt (Nat.lt_of_lt_of_le (by have:=World.block_lt_of_cell? _ _ hw171_1;first|rwa [add_block] at this|exact this) GW172.out))) _).trans (hHeld.2.2.2))))⟩ (fun hHeld => ?_)
   clear hK K
   refine done_ (done_of HT_.out (by kernel_rfl)) ?_
   try go_wp2
   have n0_ : Aside0 (Kd.V k96 96 ((w13.setCell ⟨gb172,0,none⟩ (.int .i64 (wrap64 (((rd_T96 l1 x7_1).f0) + ((rd_T96 l1 (ji8)).f0))))).setCell ⟨gb172,1,none⟩ (.slice none 0 0)) w.heap.size (fun k_ => (P0_ k_ ∨ w.heap.size ≤ k_)∧some k_ ≠ (u5 : Value).ownBlock∧k_ ≠ gb172) (.slice A0 l0.length c0) l0):=⟨by (with_reducible repeat (first|apply Kd.V_alloc|apply Kd.V_drewN|apply Kd.V_drew));exact Kd.V_mono (Kd.V_far (p:=⟨gb172,1,none⟩) (Kd.V_far (p:=⟨gb172,0,none⟩) (Kd.V_mono HO_0.out (fun k_ hk => (⟨hk,hk.2⟩ : _∧k_ ≠ gb172))) (fun _ hk => hk.2) (.int .i64 (wrap64 (((rd_T96 l1 x7_1).f0) + ((rd_T96 l1 (ji8)).f0))))) (fun _ hk => hk.2) (.slice none 0 0)) (fun _ hk => ⟨hk.1.1.1,⟨hk.1.1.2,hk.1.2⟩⟩)⟩
   have n1_ : Aside0 (Kd.N k96 96 ((w13.setCell ⟨gb172,0,none⟩ (.int .i64 (wrap64 (((rd_T96 l1 x7_1).f0) + ((rd_T96 l1 (ji8)).f0))))).setCell ⟨gb172,1,none⟩ (.slice none 0 0)) w.heap.size (fun k_ => (P0_ k_ ∨ w.heap.size ≤ k_)∧k_ ≠ gb172) u5 x5_1):=⟨by (with_reducible repeat (first|apply Kd.N_alloc|apply Kd.N_drewN|apply Kd.N_drew));exact Kd.N_mono (Kd.N_far (p:=⟨gb172,1,none⟩) (Kd.N_far (p:=⟨gb172,0,none⟩) (Kd.N_mono HO_5.out (fun k_ hk => (⟨hk,hk.2⟩ : _∧k_ ≠ gb172))) (fun _ hk => hk.2) (.int .i64 (wrap64 (((rd_T96 l1 x7_1).f0) + ((rd_T96 l1 (ji8)).f0))))) (fun _ hk => hk.2) (.slice none 0 0)) (fun _ hk => ⟨hk.1.1,hk.1.2⟩)⟩
   have n2_ : Aside0 (((w13.setCell ⟨gb172,0,none⟩ (.int .i64 (wrap64 (((rd_T96 l1 x7_1).f0) + ((rd_T96 l1 (ji8)).f0))))).setCell ⟨gb172,1,none⟩ (.slice none 0 0)).heap[gb172]? = some (.cells #[.int .i64 (wrap64 (((rd_T96 l1 x7_1).f0) + ((rd_T96 l1 (ji8)).f0))),.slice none 0 0] 96 (0,0))):=⟨by (with_reducible repeat (first|refine blk_drewN ?_ _|refine blk_drew ?_|refine blk_alloc ?_ _));refine blk_put (cs:=#[.int .i64 (wrap64 (((rd_T96 l1 x7_1).f0) + ((rd_T96 l1 (ji8)).f0))),.slice none 0 0]) ?_ 1 _ rfl;(with_reducible repeat (first|refine blk_drewN ?_ _|refine blk_drew ?_|refine blk_alloc ?_ _));refine blk_put (cs:=#[.int .i64 0,.slice none 0 0]) ?_ 0 _ rfl;(with_reducible repeat (first|refine blk_drewN ?_ _|refine blk_drew ?_|refine blk_alloc ?_ _));exact BK172.out⟩
   have n3_ : Aside0 (Below w.heap.size w ((w13.setCell ⟨gb172,0,none⟩ (.int .i64 (wrap64 (((rd_T96 l1 x7_1).f0) + ((rd_T96 l1 (ji8)).f0))))).setCell ⟨gb172,1,none⟩ (.slice none 0 0))):=⟨by repeat (first|(with_reducible first|exact HB.out|apply below_alloc|apply pw_below_drewN|apply below_drew1|refine below_set ?_ GE172.out)|exact HB.out)⟩
   (try clear HO_0)
   (try clear HO_5)
   (try clear BK172)
   (try clear HB)
   generalize ((w13.setCell ⟨gb172,0,none⟩ (.int .i64 (wrap64 (((rd_T96 l1 x7_1).f0) + ((rd_T96 l1 (ji8)).f0))))).setCell ⟨gb172,1,none⟩ (.slice none 0 0)) = w16 at n0_ n1_ n2_ n3_ ⊢
   have HO_0:=n0_
   have HO_5:=n1_
   have BK172:=n2_
   have HB:=n3_
   clear n0_ n1_ n2_ n3_
   have n0_:=Aside0.mk (Kd.V_drew HO_0.out)
   have n1_:=Aside0.mk (Kd.N_drew HO_5.out)
   have n2_:=Aside0.mk (blk_drew BK172.out)
   have n3_:=Aside0.mk (below_drew1 HB.out)
   clear HO_0
   clear HO_5
   clear BK172
   clear HB
   have HO_0:=n0_
   have HO_5:=n1_
   have BK172:=n2_
   have HB:=n3_
   clear n0_ n1_ n2_ n3_
   have p173 : 0 ≤ (x7_1 : Int):=of_decide_eq_true (by assumption)
   have q173 : x7_1 < (l1.length : Int):=of_decide_eq_true (by assumption)
   obtain ⟨ad173,A173_1,c173_1,e173,hx173_0,hx173_1,hl173_1,hi173_1⟩:=at_T96 HR1.out x7_1 p173 q173
   have hw173_1:=hx173_1
   have hw173_0:=hx173_0
   obtain rfl : ad170 = ad173:=(by injection e173)
   replace hx173_0:=(HB.out.cell (World.block_lt_of_cell? w _ hx173_0)).trans hx173_0
   replace hx173_1:=(HB.out.cell (World.block_lt_of_cell? w _ hx173_1)).trans hx173_1
   have HR173_1:=Aside0.mk hi173_1
   have HC173_1:=Aside0.mk hl173_1
   clear hi173_1 hl173_1
   replace p173:=eq_true p173
   replace q173:=eq_true q173
   have p177 : 0 ≤ ((ji8) : Int):=of_decide_eq_true (by assumption)
   have q177 : (ji8) < (l1.length : Int):=of_decide_eq_true (by assumption)
   obtain ⟨ad177,A177_1,c177_1,e177,hx177_0,hx177_1,hl177_1,hi177_1⟩:=at_T96 HR1.out (ji8) p177 q177
   have hw177_1:=hx177_1
   have hw177_0:=hx177_0
   obtain rfl : ad170 = ad177:=(by injection e177)
   replace hx177_0:=(HB.out.cell (World.block_lt_of_cell? w _ hx177_0)).trans hx177_0
   replace hx177_1:=(HB.out.cell (World.block_lt_of_cell? w _ hx177_1)).trans hx177_1
   have HR177_1:=Aside0.mk hi177_1
   have HC177_1:=Aside0.mk hl177_1
   clear hi177_1 hl177_1
   replace p177:=eq_true p177
   replace q177:=eq_true q177
   refine start_ (n:=17) (S:=fun w' => w'.cell? ⟨gb172,0,none⟩ = some (.int .i64 (wrap64 (((rd_T96 l1 x7_1).f0) + ((rd_T96 l1 (ji8)).f0))))∧w'.cell? ⟨gb172,1,none⟩ = some (.slice none 0 0)∧w'.cell? (ad170.add ((x7_1).toNat * 2)) = some (.int .i64 ((rd_T96 l1 x7_1).f0))∧w'.cell? ⟨(ad170.add ((x7_1).toNat * 2)).block,(ad170.add ((x7_1).toNat * 2)).off + 1,none⟩ = some (.slice A173_1 ((rd_T96 l1 x7_1).f1).length c173_1)∧w'.cell? (ad170.add (((ji8)).toNat * 2)) = some (.int .i64 ((rd_T96 l1 (ji8)).f0))∧w'.cell? ⟨(ad170.add (((ji8)).toNat * 2)).block,(ad170.add (((ji8)).toNat * 2)).off + 1,none⟩ = some (.slice A177_1 ((rd_T96 l1 (ji8)).f1).length c177_1)) (ds:=[16]) #[Z,Z,Z,Z,Z,Z,Z,Z,Z,Z,Z,Z,Z,Z,Z,Z,Z] (by kernel_rfl) rfl rfl ⟨(blk_cell BK172.out 0).trans rfl,(blk_cell BK172.out 1).trans rfl,((HB.out.cell (World.block_lt_of_cell? w _ hw173_0)).trans hw173_0),((HB.out.cell (World.block_lt_of_cell? w _ hw173_1)).trans hw173_1),((HB.out.cell (World.block_lt_of_cell? w _ hw177_0)).trans hw177_0),((HB.out.cell (World.block_lt_of_cell? w _ hw177_1)).trans hw177_1)⟩ (fun hHeld => ?_);refine with_tabW spec_l04Next.tab7 spec_l04Next.bits7 (fun HT_ HW_ => ?_)
   generalize w16.drew = w17 at HO_0 HO_5 BK172 HB HR173_1 HR177_1 hx173_0 hx173_1 hx177_0 hx177_1 hHeld ⊢
   refine pure_ (i:=0) (N:=some 30) (v:=?_) (a':=?_) #[Y,Z,Z,Z,Z,Z,Z,Z,Z,Z,Z,Z,Z,Z,Z,Z,Z] rfl rfl (any_of HT_.out (by kernel_rfl)) (fun _ _ _ h => h) (Or.inl ⟨by rfl,?_⟩) ?_ ?_
   rotate_left
   ·intro w'
    go_simp
    with_reducible rfl
   rotate_left
   ·simp only [sPu,sIa,sCz,sCs,i64_w,i32_w]
    rfl
   refine pure_ (i:=2) (N:=some 32) (v:=?_) (a':=?_) #[Y,Z,Y,Z,Z,Z,Z,Z,Z,Z,Z,Z,Z,Z,Z,Z,Z] rfl rfl (any_of HT_.out (by kernel_rfl)) (fun _ _ _ h => h) (Or.inl ⟨by rfl,?_⟩) ?_ ?_
   rotate_left
   ·intro w'
    go_simp
    with_reducible rfl
   rotate_left
   ·simp only [sPu,sIa,sCz,sCs,i64_w,i32_w]
    rfl
   refine pure_ (i:=3) (N:=some 33) (v:=?_) (a':=?_) #[Y,Z,Y,Y,Z,Z,Z,Z,Z,Z,Z,Z,Z,Z,Z,Z,Z] rfl rfl (any_of HT_.out (by kernel_rfl)) (fun _ _ _ h => h) (Or.inl ⟨by rfl,?_⟩) ?_ ?_
   rotate_left
   ·intro w'
    go_simp
    with_reducible rfl
   rotate_left
   ·simp only [sPu,sIa,sCz,sCs,i64_w,i32_w]
    rfl
   refine pure_ (i:=4) (N:=some 34) (v:=?_) (a':=?_) #[Y,Z,Y,Y,Y,Z,Z,Z,Z,Z,Z,Z,Z,Z,Z,Z,Z] rfl rfl (any_of HT_.out (by kernel_rfl)) (fun _ _ _ h => h) (Or.inl ⟨by rfl,?_⟩) ?_ ?_
   rotate_left
   ·intro w'
    go_simp
    with_reducible rfl
   rotate_left
   ·simp only [sPu,sIa,sCz,sCs,i64_w,i32_w]
    rfl
   refine pure_ (i:=5) (N:=some 35) (v:=?_) (a':=?_) #[Y,Z,Y,Y,Y,Y,Z,Z,Z,Z,Z,Z,Z,Z,Z,Z,Z] rfl rfl (any_of HT_.out (by kernel_rfl)) (fun _ _ _ h => h) (Or.inl ⟨by rfl,?_⟩) ?_ ?_
   rotate_left
   ·intro w'
    go_simp
    with_reducible rfl
   rotate_left
   ·simp only [sPu,sIa,sCz,sCs,i64_w,i32_w]
    rfl
   refine pure_ (i:=8) (N:=some 38) (v:=?_) (a':=?_) #[Y,Z,Y,Y,Y,Y,Z,Z,Y,Z,Z,Z,Z,Z,Z,Z,Z] rfl rfl (any_of HT_.out (by kernel_rfl)) (fun _ _ _ h => h) (Or.inl ⟨by rfl,?_⟩) ?_ ?_
   rotate_left
   ·intro w'
    go_simp
    with_reducible rfl
   rotate_left
   ·simp only [sPu,sIa,sCz,sCs,i64_w,i32_w]
    rfl
   refine pure_ (i:=9) (N:=some 39) (v:=?_) (a':=?_) #[Y,Z,Y,Y,Y,Y,Z,Z,Y,Y,Z,Z,Z,Z,Z,Z,Z] rfl rfl (any_of HT_.out (by kernel_rfl)) (fun _ _ _ h => h) (Or.inl ⟨by rfl,?_⟩) ?_ ?_
   rotate_left
   ·intro w'
    go_simp
    with_reducible rfl
   rotate_left
   ·simp only [sPu,sIa,sCz,sCs,i64_w,i32_w]
    rfl
   refine pure_ (i:=10) (N:=some 40) (v:=?_) (a':=?_) #[Y,Z,Y,Y,Y,Y,Z,Z,Y,Y,Y,Z,Z,Z,Z,Z,Z] rfl rfl (any_of HT_.out (by kernel_rfl)) (fun _ _ _ h => h) (Or.inl ⟨by rfl,?_⟩) ?_ ?_
   rotate_left
   ·intro w'
    go_simp
    with_reducible rfl
   rotate_left
   ·simp only [sPu,sIa,sCz,sCs,i64_w,i32_w]
    rfl
   refine pure_ (i:=11) (N:=some 41) (v:=?_) (a':=?_) #[Y,Z,Y,Y,Y,Y,Z,Z,Y,Y,Y,Y,Z,Z,Z,Z,Z] rfl rfl (any_of HT_.out (by kernel_rfl)) (fun _ _ _ h => h) (Or.inl ⟨by rfl,?_⟩) ?_ ?_
   rotate_left
   ·intro w'
    go_simp
    with_reducible rfl
   rotate_left
   ·simp only [sPu,sIa,sCz,sCs,i64_w,i32_w]
    rfl
   refine pure_ (i:=12) (N:=some 42) (v:=?_) (a':=?_) #[Y,Z,Y,Y,Y,Y,Z,Z,Y,Y,Y,Y,Y,Z,Z,Z,Z] rfl rfl (any_of HT_.out (by kernel_rfl)) (fun _ _ _ h => h) (Or.inl ⟨by rfl,?_⟩) ?_ ?_
   rotate_left
   ·intro w'
    go_simp
    with_reducible rfl
   rotate_left
   ·simp only [sPu,sIa,sCz,sCs,i64_w,i32_w]
    rfl
   refine take_ (i:=1) (N:=some 31) (v:=?_) (a':=?_) #[Y,Y,Y,Y,Y,Y,Z,Z,Y,Y,Y,Y,Y,Z,Z,Z,Z] rfl rfl (take_ofW HT_.out HW_.out (by kernel_rfl)) (fun _ _ _ h => h) (Or.inl ⟨by rfl,?_⟩) hHeld ?_ ?_
   rotate_left
   ·rintro w' ⟨s0,s1,s2,s3,s4,s5⟩
    go_simp
    with_reducible rfl
   rotate_left
   ·simp only [sPu,sIa,sCz,sCs,i64_w,i32_w]
    rfl
   refine take_ (i:=6) (N:=some 36) (v:=?_) (a':=?_) #[Y,Y,Y,Y,Y,Y,Y,Z,Y,Y,Y,Y,Y,Z,Z,Z,Z] rfl rfl (take_ofW HT_.out HW_.out (by kernel_rfl)) (fun _ _ _ h => h) (Or.inl ⟨by rfl,?_⟩) hHeld ?_ ?_
   rotate_left
   ·rintro w' ⟨s0,s1,s2,s3,s4,s5⟩
    go_simp
    with_reducible rfl
   rotate_left
   ·simp only [sPu,sIa,sCz,sCs,i64_w,i32_w]
    rfl
   refine take_ (i:=13) (N:=some 43) (v:=?_) (a':=?_) #[Y,Y,Y,Y,Y,Y,Y,Z,Y,Y,Y,Y,Y,Y,Z,Z,Z] rfl rfl (take_ofW HT_.out HW_.out (by kernel_rfl)) (fun _ _ _ h => h) (Or.inl ⟨by rfl,?_⟩) hHeld ?_ ?_
   rotate_left
   ·rintro w' ⟨s0,s1,s2,s3,s4,s5⟩
    go_simp
    with_reducible rfl
   rotate_left
   ·simp only [sPu,sIa,sCz,sCs,i64_w,i32_w]
    rfl
   refine one_ (i:=7) (N:=some 37) #[Y,Y,Y,Y,Y,Y,Y,Y,Y,Y,Y,Y,Y,Y,Z,Z,Z] rfl rfl (one_of HT_.out (by kernel_rfl)) (by decide) (fun K hK => ?_)
   refine Kd.R_append_rows_step (Kd.int .i64) (w0:=w) w.heap.size (by rfl) (.tmp 31) (.tmp 36) 22 3 (.int .i64 0) 8 rfl Try.underlying22 info3 rfl (by decide) (by omega) (.slice none 0 0) ([] : List Int) ((rd_T96 l1 x7_1).f1) _ _ _ (fun k_ => (w.heap.size ≤ k_)) (fun _ => False) rfl rfl ?aO ?aR (fun _ _ h => h) (fun _ h => h.elim) ?aF ?aB ?aS ?aL ?_
   (case aR => repeat (first|exact (Kd.C_below HR173_1.out HB.out)|(with_reducible refine Kd.C_alloc ?_ _)|(with_reducible refine Kd.C_drewN ?_ _)|(with_reducible refine Kd.C_drew ?_)))
   (case aB => exact (by repeat (first|(with_reducible first|exact HB.out|apply below_alloc|apply pw_below_drewN|apply below_drew1|refine below_set ?_ GE172.out)|exact HB.out)))
   (case aF => exact (fun k_ hk => (Nat.le_trans (below_size (by repeat (first|(with_reducible first|exact HB.out|apply below_alloc|apply pw_below_drewN|apply below_drew1|refine below_set ?_ GE172.out)|exact HB.out))) hk)))
   (case aO => exact ((Kd.R_nil _ _ _ _ (fun k_ => (w.heap.size ≤ k_)))))
   (case aS => exact (below_size (by repeat (first|(with_reducible first|exact HB.out|apply below_alloc|apply pw_below_drewN|apply below_drew1|refine below_set ?_ GE172.out)|exact HB.out))))
   (case aL => have:=LMc10.out;omega)
   intro v175 w18 ho hb hg hat
   rw [← Ny174.out] at ho
   have n0_:=Aside0.mk (Kd.V_afterv (Kd.V_apart_nil (by (with_reducible repeat (first|apply Kd.V_alloc|apply Kd.V_drewN|apply Kd.V_drew));exact HO_0.out)) hg hat)
   have n1_:=Aside0.mk (Kd.N_afterv (Kd.N_apart_nil (by (with_reducible repeat (first|apply Kd.N_alloc|apply Kd.N_drewN|apply Kd.N_drew));exact HO_5.out)) hg hat)
   have n2_:=Aside0.mk (blk_grown (g:=gb172) (o:=.cells #[.int .i64 (wrap64 (((rd_T96 l1 x7_1).f0) + ((rd_T96 l1 (ji8)).f0))),.slice none 0 0] 96 (0,0)) (by (with_reducible repeat (first|refine blk_drewN ?_ _|refine blk_drew ?_|refine blk_alloc ?_ _));exact BK172.out) hg (by simp [Value.ownBlock]))
   have n3_:=Aside0.mk (hb)
   have n4_:=Aside0.mk (ho)
   clear HO_0
   clear HO_5
   clear BK172
   clear HB
   have HO_0:=n0_
   have HO_5:=n1_
   have BK172:=n2_
   have HB:=n3_
   have HO176:=n4_
   clear n0_ n1_ n2_ n3_ n4_
   clear ho hb hg hat
   refine hK.out _ _ ⟨(blk_cell BK172.out 0).trans rfl,(blk_cell BK172.out 1).trans rfl,((HB.out.cell (World.block_lt_of_cell? w _ hw173_0)).trans hw173_0),((HB.out.cell (World.block_lt_of_cell? w _ hw173_1)).trans hw173_1),((HB.out.cell (World.block_lt_of_cell? w _ hw177_0)).trans hw177_0),((HB.out.cell (World.block_lt_of_cell? w _ hw177_1)).trans hw177_1)⟩ (fun hHeld => ?_)
   clear hK K
   refine norm_ (a':=?_) ?_ ?_
   rotate_left
   ·show Act.put _ (some 37) _ = _
    simp only [sPu,sIa,sCz,sCs,i64_w,i32_w]
    rfl
   refine one_ (i:=14) (N:=some 44) #[Y,Y,Y,Y,Y,Y,Y,Y,Y,Y,Y,Y,Y,Y,Y,Z,Z] rfl rfl (one_of HT_.out (by kernel_rfl)) (by decide) (fun K hK => ?_)
   refine Kd.R_append_rows_step (Kd.int .i64) (w0:=w) w.heap.size (by rfl) (.tmp 37) (.tmp 43) 22 3 (.int .i64 0) 8 rfl Try.underlying22 info3 rfl (by decide) (by omega) v175 y174 ((rd_T96 l1 (ji8)).f1) _ _ _ (fun k_ => (w.heap.size ≤ k_)) (fun _ => False) rfl rfl ?aO ?aR (fun _ _ h => h) (fun _ h => h.elim) ?aF ?aB ?aS ?aL ?_
   (case aR => repeat (first|exact (Kd.C_below HR177_1.out HB.out)|(with_reducible refine Kd.C_alloc ?_ _)|(with_reducible refine Kd.C_drewN ?_ _)|(with_reducible refine Kd.C_drew ?_)))
   (case aB => exact (by repeat (first|(with_reducible first|exact HB.out|apply below_alloc|apply pw_below_drewN|apply below_drew1|refine below_set ?_ GE172.out)|exact HB.out)))
   (case aF => exact (fun k_ hk => (Nat.le_trans (below_size (by repeat (first|(with_reducible first|exact HB.out|apply below_alloc|apply pw_below_drewN|apply below_drew1|refine below_set ?_ GE172.out)|exact HB.out))) hk)))
   (case aO => exact (by (with_reducible repeat (first|apply Kd.R_alloc|apply Kd.R_drewN|apply Kd.R_drew));exact HO176.out))
   (case aS => exact (below_size (by repeat (first|(with_reducible first|exact HB.out|apply below_alloc|apply pw_below_drewN|apply below_drew1|refine below_set ?_ GE172.out)|exact HB.out))))
   (case aL => have:=LMc11.out;omega)
   intro v179 w19 ho hb hg hat
   rw [← Ny178.out] at ho
   have n0_:=Aside0.mk (Kd.V_afterv (ok:=(fun k_ => (P0_ k_ ∨ w.heap.size ≤ k_)∧some k_ ≠ (u5 : Value).ownBlock∧k_ ≠ gb172)) (by (with_reducible repeat (first|apply Kd.V_alloc|apply Kd.V_drewN|apply Kd.V_drew));exact HO_0.out) hg hat)
   have n1_:=Aside0.mk (Kd.N_afterv (ok:=(fun k_ => (P0_ k_ ∨ w.heap.size ≤ k_)∧k_ ≠ gb172)) (by (with_reducible repeat (first|apply Kd.N_alloc|apply Kd.N_drewN|apply Kd.N_drew));exact HO_5.out) hg hat)
   have n2_:=Aside0.mk (blk_grown (g:=gb172) (o:=.cells #[.int .i64 (wrap64 (((rd_T96 l1 x7_1).f0) + ((rd_T96 l1 (ji8)).f0))),.slice none 0 0] 96 (0,0)) (by (with_reducible repeat (first|refine blk_drewN ?_ _|refine blk_drew ?_|refine blk_alloc ?_ _));exact BK172.out) hg (Kd.R_ne HO176.out BK172.out (by decide)))
   have n3_:=Aside0.mk (hb)
   have n4_:=Aside0.mk (ho)
   clear HO_0
   clear HO_5
   clear BK172
   clear HB
   clear HO176
   have HO_0:=n0_
   have HO_5:=n1_
   have BK172:=n2_
   have HB:=n3_
   have HO180:=n4_
   clear n0_ n1_ n2_ n3_ n4_
   clear ho hb hg hat
   obtain ⟨Ao20,co20,eo20⟩:=Kd.R_slice HO180.out
   (first|subst eo20|(injection eo20 with f1_ f2_ f3_;have f4_:=f1_.symm;have f5_:=f3_.symm;clear f1_ f2_ f3_;subst f4_;subst f5_))
   refine hK.out _ _ ⟨(blk_cell BK172.out 0).trans rfl,(blk_cell BK172.out 1).trans rfl,((HB.out.cell (World.block_lt_of_cell? w _ hw173_0)).trans hw173_0),((HB.out.cell (World.block_lt_of_cell? w _ hw173_1)).trans hw173_1),((HB.out.cell (World.block_lt_of_cell? w _ hw177_0)).trans hw177_0),((HB.out.cell (World.block_lt_of_cell? w _ hw177_1)).trans hw177_1)⟩ (fun hHeld => ?_)
   clear hK K
   refine norm_ (a':=?_) ?_ ?_
   rotate_left
   ·show Act.put _ (some 44) _ = _
    simp only [sPu,sIa,sCz,sCs,i64_w,i32_w]
    rfl
   refine pure_ (i:=15) (N:=some 45) (v:=?_) (a':=?_) #[Y,Y,Y,Y,Y,Y,Y,Y,Y,Y,Y,Y,Y,Y,Y,Y,Z] rfl rfl (any_of HT_.out (by kernel_rfl)) (fun _ _ _ h => h) (Or.inl ⟨by rfl,?_⟩) ?_ ?_
   rotate_left
   ·intro w'
    go_simp
    with_reducible rfl
   rotate_left
   ·simp only [sPu,sIa,sCz,sCs,i64_w,i32_w]
    rfl
   refine last_ (i:=16) (N:=none) #[Y,Y,Y,Y,Y,Y,Y,Y,Y,Y,Y,Y,Y,Y,Y,Y,Y] rfl rfl (one_of HT_.out (by kernel_rfl)) (by decide) (fun K hK => ?_)
   have hs21 : w19.cell? ⟨gb172,1,none⟩ = some (.slice none 0 0):=(blk_cell BK172.out 1).trans rfl
   have hfs21:=blk_frozen BK172.out 1
   refine skip_ (w1:=?_) (by rfl) rfl ?_ ?_
   rotate_left
   ·go_simp
    rfl
   refine hK.out _ _ ?_
   clear hK K
   refine done_ (done_of HT_.out (by kernel_rfl)) ?_
   try go_wp2
   go_loopg [5,6] k1 (fun kq v5 v6 w' => ∃ (x5_2 : List (S96)) (x6_2 : Int),v6 = .int .i64 x6_2∧Aside0 (spec_l04Next.l1 kq l0 l1 x5_2 x6_2 x7_1 (wrap64 (((rd_T96 l1 x7_1).f0) + ((rd_T96 l1 (ji8)).f0))) y178 = some r)∧Aside0 (kq ≤ k1)∧Aside0 (Kd.V k96 96 w' w.heap.size (fun k_ => (P0_ k_ ∨ w.heap.size ≤ k_)∧some k_ ≠ (v5 : Value).ownBlock∧some k_ ≠ ((.slice Ao20 y178.length co20) : Value).ownBlock∧k_ ≠ gb172) (.slice A0 l0.length c0) l0)∧Aside0 (Kd.N k96 96 w' w.heap.size (fun k_ => (P0_ k_ ∨ w.heap.size ≤ k_)∧some k_ ≠ ((.slice Ao20 y178.length co20) : Value).ownBlock∧k_ ≠ gb172) v5 x5_2)∧Aside0 (Kd.R (Kd.int .i64) 3 w' w.heap.size (fun k_ => (w.heap.size ≤ k_)) (.slice Ao20 y178.length co20) y178)∧Aside0 (w'.heap[gb172]? = some (.cells #[.int .i64 (wrap64 (((rd_T96 l1 x7_1).f0) + ((rd_T96 l1 (ji8)).f0))),(.slice Ao20 y178.length co20)] 96 (0,0)))∧Aside0 (Below w.heap.size w w'))
   case atStart => exact ⟨(x5_1),(x6_1),(by first|rfl|(simp;done)|(simp [*];done)),H',⟨Nat.le_refl _⟩,⟨by (with_reducible repeat (first|apply Kd.V_alloc|apply Kd.V_drewN|apply Kd.V_drew));exact Kd.V_mono (Kd.V_far (p:=⟨gb172,1,none⟩) (Kd.V_mono HO_0.out (fun k_ hk => (⟨hk,hk.1.2.2⟩ : _∧k_ ≠ gb172))) (fun _ hk => hk.2) (.slice Ao20 y178.length co20)) (fun _ hk => ⟨hk.1.1.1,⟨hk.1.1.2.1,⟨hk.1.2,hk.1.1.2.2⟩⟩⟩)⟩,⟨by (with_reducible repeat (first|apply Kd.N_alloc|apply Kd.N_drewN|apply Kd.N_drew));exact Kd.N_mono (Kd.N_far (p:=⟨gb172,1,none⟩) (Kd.N_mono HO_5.out (fun k_ hk => (⟨hk,hk.1.2⟩ : _∧k_ ≠ gb172))) (fun _ hk => hk.2) (.slice Ao20 y178.length co20)) (fun _ hk => ⟨hk.1.1.1,⟨hk.1.2,hk.1.1.2⟩⟩)⟩,⟨by (with_reducible repeat (first|apply Kd.R_alloc|apply Kd.R_drewN|apply Kd.R_drew));exact Kd.R_mono (Kd.R_far (p:=⟨gb172,1,none⟩) (Kd.R_types HO180.out BK172.out (by decide)) (fun _ hk => hk.2) (.slice Ao20 y178.length co20)) (fun _ hk => hk.1)⟩,⟨by (with_reducible repeat (first|refine blk_drewN ?_ _|refine blk_drew ?_|refine blk_alloc ?_ _));refine blk_put (cs:=#[.int .i64 (wrap64 (((rd_T96 l1 x7_1).f0) + ((rd_T96 l1 (ji8)).f0))),.slice none 0 0]) ?_ 1 _ rfl;(with_reducible repeat (first|refine blk_drewN ?_ _|refine blk_drew ?_|refine blk_alloc ?_ _));exact BK172.out⟩,⟨by repeat (first|(with_reducible first|exact HB.out|apply below_alloc|apply pw_below_drewN|apply below_drew1|refine below_set ?_ GE172.out)|exact HB.out)⟩⟩
   case round =>
    clear H'
    obtain ⟨x5_2,x6_2,rfl,HA,HK2,HO_0,HO_5,HO_173001,BK172,HB⟩:=hrel
    cases gk with
    | zero => exact absurd HA.out (by simp [spec_l04Next.l1])
    | succ k2 =>
     have H:=HA.out
     clear HA
     simp only [spec_l04Next.l1] at H
     by_cases c22 : x6_2 < (l0.length : Int)
     rotate_left
     ·rw [if_neg c22] at H
      have c22b0 : decide (x6_2 < (l0.length : Int)) = false:=decide_eq_false c22
      clear c22
      by_cases c32 : x5_2.length < 4398046511104
      rotate_left
      ·rw [if_neg c32] at H
       exact absurd H (by simp)
      rw [if_pos c32] at H
      have LMc32:=Aside0.mk c32
      clear c32
      obtain ⟨y189,hy189⟩ : ∃ y_ : List (S96),y_ = (x5_2 ++ [(⟨(wrap64 (((rd_T96 l1 x7_1).f0) + ((rd_T96 l1 (ji8)).f0))),y178⟩ : S96)]):=⟨_,rfl⟩
      replace H : (spec_l04Next.l0 k2 l0 l1 y189 x6_2 (wrap64 (x7_1 + 2))) = some r:=by first|(rw [hy189];with_reducible exact H)|(have H2_:=(Option.bind_some _ _).symm.trans H;rw [hy189];with_reducible exact H2_)|(have H2_:=(Option.bind_some _ _).symm.trans H;with_reducible exact H2_)|with_reducible exact H|(rw [hy189];exact H)|exact H
      have Ny189:=Aside0.mk hy189
      clear hy189
      have H':=Aside0.mk H
      clear H
      try go_wp2
      have n0_:=Aside0.mk (Kd.V_drew HO_0.out)
      have n1_:=Aside0.mk (Kd.N_drew HO_5.out)
      have n2_:=Aside0.mk (Kd.R_drew HO_173001.out)
      have n3_:=Aside0.mk (blk_drew BK172.out)
      have n4_:=Aside0.mk (below_drew1 HB.out)
      clear HO_0
      clear HO_5
      clear HO_173001
      clear BK172
      clear HB
      have HO_0:=n0_
      have HO_5:=n1_
      have HO_173001:=n2_
      have BK172:=n3_
      have HB:=n4_
      clear n0_ n1_ n2_ n3_ n4_
      refine start_ (n:=14) (S:=fun w' => True) (ds:=[]) #[Z,Z,Z,Z,Z,Z,Z,Z,Z,Z,Z,Z,Z,Z] (by kernel_rfl) rfl rfl trivial (fun hHeld => ?_);refine with_tabW spec_l04Next.tab8 spec_l04Next.bits8 (fun HT_ HW_ => ?_)
      generalize wr.drew = w33 at HO_0 HO_5 HO_173001 BK172 HB hHeld ⊢
      refine pure_ (i:=0) (N:=some 46) (v:=?_) (a':=?_) #[Y,Z,Z,Z,Z,Z,Z,Z,Z,Z,Z,Z,Z,Z] rfl rfl (any_of HT_.out (by kernel_rfl)) (fun _ _ _ h => h) (Or.inl ⟨by rfl,?_⟩) ?_ ?_
      rotate_left
      ·intro w'
       go_simp
       with_reducible rfl
      rotate_left
      ·simp only [sPu,sIa,sCz,sCs,i64_w,i32_w]
       rfl
      refine pure_ (i:=1) (N:=some 47) (v:=?_) (a':=?_) #[Y,Y,Z,Z,Z,Z,Z,Z,Z,Z,Z,Z,Z,Z] rfl rfl (any_of HT_.out (by kernel_rfl)) (fun _ _ _ h => h) (Or.inl ⟨by rfl,?_⟩) ?_ ?_
      rotate_left
      ·intro w'
       go_simp
       with_reducible rfl
      rotate_left
      ·simp only [sPu,sIa,sCz,sCs,i64_w,i32_w]
       rfl
      refine pure_ (i:=2) (N:=some 48) (v:=?_) (a':=?_) #[Y,Y,Y,Z,Z,Z,Z,Z,Z,Z,Z,Z,Z,Z] rfl rfl (any_of HT_.out (by kernel_rfl)) (fun _ _ _ h => h) (Or.inl ⟨by rfl,?_⟩) ?_ ?_
      rotate_left
      ·intro w'
       go_simp
       with_reducible rfl
      rotate_left
      ·simp only [sPu,sIa,sCz,sCs,i64_w,i32_w]
       rfl
      refine pure_ (i:=3) (N:=some 49) (v:=?_) (a':=?_) #[Y,Y,Y,Y,Z,Z,Z,Z,Z,Z,Z,Z,Z,Z] rfl rfl (any_of HT_.out (by kernel_rfl)) (fun _ _ _ h => h) (Or.inl ⟨by rfl,?_⟩) ?_ ?_
      rotate_left
      ·intro w'
       go_simp
       with_reducible rfl
      rotate_left
      ·simp only [sPu,sIa,sCz,sCs,i64_w,i32_w]
       rfl
      refine pure_ (i:=4) (N:=some 50) (v:=?_) (a':=?_) #[Y,Y,Y,Y,Y,Z,Z,Z,Z,Z,Z,Z,Z,Z] rfl rfl (any_of HT_.out (by kernel_rfl)) (fun _ _ _ h => h) (Or.inl ⟨by rfl,?_⟩) ?_ ?_
      rotate_left
      ·intro w'
       go_simp
       with_reducible rfl
      rotate_left
      ·simp only [sPu,sIa,sCz,sCs,i64_w,i32_w]
       rfl
      refine pure_ (i:=5) (N:=some 51) (v:=undef) (a':=?_) #[Y,Y,Y,Y,Y,Y,Z,Z,Z,Z,Z,Z,Z,Z] rfl rfl (any_of HT_.out (by kernel_rfl)) (fun _ _ _ h => h) (Or.inr ⟨by rfl,rfl⟩) ?_ ?_
      rotate_left
      ·simp only [sPu,sIa,sCz,sCs,i64_w,i32_w]
       rfl
      refine pure_ (i:=6) (N:=some 52) (v:=undef) (a':=?_) #[Y,Y,Y,Y,Y,Y,Y,Z,Z,Z,Z,Z,Z,Z] rfl rfl (any_of HT_.out (by kernel_rfl)) (fun _ _ _ h => h) (Or.inr ⟨by rfl,rfl⟩) ?_ ?_
      rotate_left
      ·simp only [sPu,sIa,sCz,sCs,i64_w,i32_w]
       rfl
      refine pure_ (i:=7) (N:=some 53) (v:=undef) (a':=?_) #[Y,Y,Y,Y,Y,Y,Y,Y,Z,Z,Z,Z,Z,Z] rfl rfl (any_of HT_.out (by kernel_rfl)) (fun _ _ _ h => h) (Or.inr ⟨by rfl,rfl⟩) ?_ ?_
      rotate_left
      ·simp only [sPu,sIa,sCz,sCs,i64_w,i32_w]
       rfl
      refine pure_ (i:=8) (N:=some 54) (v:=undef) (a':=?_) #[Y,Y,Y,Y,Y,Y,Y,Y,Y,Z,Z,Z,Z,Z] rfl rfl (any_of HT_.out (by kernel_rfl)) (fun _ _ _ h => h) (Or.inr ⟨by rfl,rfl⟩) ?_ ?_
      rotate_left
      ·simp only [sPu,sIa,sCz,sCs,i64_w,i32_w]
       rfl
      refine pure_ (i:=9) (N:=some 55) (v:=undef) (a':=?_) #[Y,Y,Y,Y,Y,Y,Y,Y,Y,Y,Z,Z,Z,Z] rfl rfl (any_of HT_.out (by kernel_rfl)) (fun _ _ _ h => h) (Or.inr ⟨by rfl,rfl⟩) ?_ ?_
      rotate_left
      ·simp only [sPu,sIa,sCz,sCs,i64_w,i32_w]
       rfl
      refine pure_ (i:=10) (N:=some 56) (v:=undef) (a':=?_) #[Y,Y,Y,Y,Y,Y,Y,Y,Y,Y,Y,Z,Z,Z] rfl rfl (any_of HT_.out (by kernel_rfl)) (fun _ _ _ h => h) (Or.inr ⟨by rfl,rfl⟩) ?_ ?_
      rotate_left
      ·simp only [sPu,sIa,sCz,sCs,i64_w,i32_w]
       rfl
      refine pure_ (i:=11) (N:=some 57) (v:=undef) (a':=?_) #[Y,Y,Y,Y,Y,Y,Y,Y,Y,Y,Y,Y,Z,Z] rfl rfl (any_of HT_.out (by kernel_rfl)) (fun _ _ _ h => h) (Or.inr ⟨by rfl,rfl⟩) ?_ ?_
      rotate_left
      ·simp only [sPu,sIa,sCz,sCs,i64_w,i32_w]
       rfl
      refine pure_ (i:=12) (N:=some 58) (v:=undef) (a':=?_) #[Y,Y,Y,Y,Y,Y,Y,Y,Y,Y,Y,Y,Y,Z] rfl rfl (any_of HT_.out (by kernel_rfl)) (fun _ _ _ h => h) (Or.inr ⟨by rfl,rfl⟩) ?_ ?_
      rotate_left
      ·simp only [sPu,sIa,sCz,sCs,i64_w,i32_w]
       rfl
      refine pure_ (i:=13) (N:=some 59) (v:=?_) (a':=?_) #[Y,Y,Y,Y,Y,Y,Y,Y,Y,Y,Y,Y,Y,Y] rfl rfl (any_of HT_.out (by kernel_rfl)) (fun _ _ _ h => h) (Or.inl ⟨by rfl,?_⟩) ?_ ?_
      rotate_left
      ·intro w'
       go_simp
       with_reducible rfl
      rotate_left
      ·simp only [sPu,sIa,sCz,sCs,i64_w,i32_w]
       rfl
      refine done_ (done_of HT_.out (by kernel_rfl)) ?_
      have hcz34_0 : w33.cell? ⟨gb172,0,none⟩ = some (.int .i64 (wrap64 (((rd_T96 l1 x7_1).f0) + ((rd_T96 l1 (ji8)).f0)))):=(blk_cell BK172.out 0).trans rfl
      have hcz34_1 : w33.cell? ⟨gb172,1,none⟩ = some (.slice Ao20 y178.length co20):=(blk_cell BK172.out 1).trans rfl
      have hfz34_0:=blk_frozen BK172.out 0
      have hfz34_1:=blk_frozen BK172.out 1
      try go_wp2_with (first|((with_reducible refine gate_builtin (b:=.append) (xs:=#[.tmp 69,.tmp 71]) rfl ?_);at_builtin;refine Kd.N_append k96 (w0:=w) w.heap.size rfl (.tmp 69) (.tmp 71) 93 96 (.agg #[(.int .i64 0),(.slice none 0 0)]) 32 rfl Try.underlying93 info96 rfl (by decide) (by omega) u5 x5_2 (⟨(wrap64 (((rd_T96 l1 x7_1).f0) + ((rd_T96 l1 (ji8)).f0))),y178⟩ : S96) [.int .i64 (wrap64 (((rd_T96 l1 x7_1).f0) + ((rd_T96 l1 (ji8)).f0))),.slice Ao20 y178.length co20] (fun k_ => (P0_ k_ ∨ w.heap.size ≤ k_)∧k_ ≠ gb172) (fun k_ => ((fun k_ => (P0_ k_ ∨ w.heap.size ≤ k_)∧k_ ≠ gb172)) k_∧some k_ ≠ (u5 : Value).ownBlock) rfl rfl ?aP (fun _ hk => hk) ?aF ?aO ?aB ?aS ?aL ?_;(case aP => exact (k96_mkF _ _ (⟨(wrap64 (((rd_T96 l1 x7_1).f0) + ((rd_T96 l1 (ji8)).f0))),y178⟩ : S96) (Kd.R_reads' (Kd.R_mono (ok':=(fun k_ => ((fun k_ => (P0_ k_ ∨ w.heap.size ≤ k_)∧k_ ≠ gb172)) k_∧some k_ ≠ (u5 : Value).ownBlock)) (Kd.R_types (Kd.R_apart' (HO_173001.out) (Kd.N_typed HO_5.out) (by decide)) BK172.out (by decide)) (fun k_ hk => ⟨⟨(.inr (hk.1.1)),hk.2⟩,hk.1.2⟩))).2.1 (Kd.R_F (Kd.R_mono (ok':=(fun k_ => ((fun k_ => (P0_ k_ ∨ w.heap.size ≤ k_)∧k_ ≠ gb172)) k_∧some k_ ≠ (u5 : Value).ownBlock)) (Kd.R_types (Kd.R_apart' (HO_173001.out) (Kd.N_typed HO_5.out) (by decide)) BK172.out (by decide)) (fun k_ hk => ⟨⟨(.inr (hk.1.1)),hk.2⟩,hk.1.2⟩)))));(case aB => exact (by repeat (first|(with_reducible first|exact HB.out|apply below_alloc|apply pw_below_drewN|apply below_drew1|refine below_set ?_ GE172.out)|exact HB.out)));(case aF => exact (fun k_ hk => ⟨(.inr (Nat.le_trans (below_size (by repeat (first|(with_reducible first|exact HB.out|apply below_alloc|apply pw_below_drewN|apply below_drew1|refine below_set ?_ GE172.out)|exact HB.out))) hk)),Kd.freshB (g:=gb172) (o:=.cells #[.int .i64 (wrap64 (((rd_T96 l1 x7_1).f0) + ((rd_T96 l1 (ji8)).f0))),.slice Ao20 y178.length co20] 96 (0,0)) (by (with_reducible repeat (first|refine blk_drewN ?_ _|refine blk_drew ?_|refine blk_alloc ?_ _));exact BK172.out) k_ hk⟩));(case aO => exact (by (with_reducible repeat (first|apply Kd.N_alloc|apply Kd.N_drewN|apply Kd.N_drew));exact Kd.N_mono HO_5.out (fun _ hk => ⟨hk.1,hk.2.2⟩)));(case aS => exact (below_size (by repeat (first|(with_reducible first|exact HB.out|apply below_alloc|apply pw_below_drewN|apply below_drew1|refine below_set ?_ GE172.out)|exact HB.out))));(case aL => have:=LMc32.out;omega);intro v190 w35 ho hb hg hat;rw [← Ny189.out] at ho;have n0_:=Aside0.mk (Kd.V_afterv (ok:=(fun k_ => (P0_ k_ ∨ w.heap.size ≤ k_)∧some k_ ≠ (.slice Ao20 y178.length co20 : Value).ownBlock∧k_ ≠ gb172)) (by (with_reducible repeat (first|apply Kd.V_alloc|apply Kd.V_drewN|apply Kd.V_drew));exact Kd.V_mono HO_0.out (fun _ hk => ⟨⟨hk.1,⟨hk.2.2.1,hk.2.2.2⟩⟩,hk.2.1⟩)) hg hat);have n1_:=Aside0.mk (blk_grown (g:=gb172) (o:=.cells #[.int .i64 (wrap64 (((rd_T96 l1 x7_1).f0) + ((rd_T96 l1 (ji8)).f0))),.slice Ao20 y178.length co20] 96 (0,0)) (by (with_reducible repeat (first|refine blk_drewN ?_ _|refine blk_drew ?_|refine blk_alloc ?_ _));exact BK172.out) hg (Kd.N_away HO_5.out (fun _ hk => hk.2.2)));have n2_:=Aside0.mk (hb);have n3_:=Aside0.mk (ho);clear HO_0;clear BK172;clear HB;clear HO_5;clear HO_173001;have HO_0:=n0_;have BK172:=n1_;have HB:=n2_;have HO191:=n3_;clear n0_ n1_ n2_ n3_;clear ho hb hg hat))
      go_roundg k2
      case measure => have:=HK1.out;have:=HK2.out;omega
      case rel => exact ⟨(y189),(x6_2),(wrap64 (x7_1 + 2)),(by first|rfl|(simp;done)|(simp [*];done)),(by first|rfl|(simp;done)|(simp [*];done)),H',⟨by have:=HK1.out;have:=HK2.out;omega⟩,⟨by (with_reducible repeat (first|apply Kd.V_alloc|apply Kd.V_drewN|apply Kd.V_drew));exact Kd.V_mono HO_0.out (fun _ hk => ⟨hk.1.1,hk.2⟩)⟩,⟨by (with_reducible repeat (first|apply Kd.N_alloc|apply Kd.N_drewN|apply Kd.N_drew));exact Kd.N_mono HO191.out (fun _ hk => hk.1)⟩,⟨by repeat (first|(with_reducible first|exact HB.out|apply below_alloc|apply pw_below_drewN|apply below_drew1|refine below_set ?_ GE172.out)|exact HB.out)⟩⟩
     rw [if_pos c22] at H
     have c22b0 : decide (x6_2 < (l0.length : Int)) = true:=decide_eq_true c22
     clear c22
     by_cases c23 : 0 ≤ x6_2
     rotate_left
     ·rw [if_neg c23] at H
      exact absurd H (by simp)
     rw [if_pos c23] at H
     have c23b0 : decide (0 ≤ x6_2) = true:=decide_eq_true c23
     clear c23
     by_cases c24 : ((rd_T96 l0 x6_2).f0) ≤ (wrap64 (((rd_T96 l1 x7_1).f0) + ((rd_T96 l1 (ji8)).f0)))
     rotate_left
     ·rw [if_neg c24] at H
      have c24b0 : decide (((rd_T96 l0 x6_2).f0) ≤ (wrap64 (((rd_T96 l1 x7_1).f0) + ((rd_T96 l1 (ji8)).f0)))) = false:=decide_eq_false c24
      clear c24
      by_cases c28 : x5_2.length < 4398046511104
      rotate_left
      ·rw [if_neg c28] at H
       exact absurd H (by simp)
      rw [if_pos c28] at H
      have LMc28:=Aside0.mk c28
      clear c28
      obtain ⟨y186,hy186⟩ : ∃ y_ : List (S96),y_ = (x5_2 ++ [(⟨(wrap64 (((rd_T96 l1 x7_1).f0) + ((rd_T96 l1 (ji8)).f0))),y178⟩ : S96)]):=⟨_,rfl⟩
      replace H : (spec_l04Next.l0 k2 l0 l1 y186 x6_2 (wrap64 (x7_1 + 2))) = some r:=by first|(rw [hy186];with_reducible exact H)|(have H2_:=(Option.bind_some _ _).symm.trans H;rw [hy186];with_reducible exact H2_)|(have H2_:=(Option.bind_some _ _).symm.trans H;with_reducible exact H2_)|with_reducible exact H|(rw [hy186];exact H)|exact H
      have Ny186:=Aside0.mk hy186
      clear hy186
      have H':=Aside0.mk H
      clear H
      try go_wp2
      have n0_:=Aside0.mk (Kd.V_drew HO_0.out)
      have n1_:=Aside0.mk (Kd.N_drew HO_5.out)
      have n2_:=Aside0.mk (Kd.R_drew HO_173001.out)
      have n3_:=Aside0.mk (blk_drew BK172.out)
      have n4_:=Aside0.mk (below_drew1 HB.out)
      clear HO_0
      clear HO_5
      clear HO_173001
      clear BK172
      clear HB
      have HO_0:=n0_
      have HO_5:=n1_
      have HO_173001:=n2_
      have BK172:=n3_
      have HB:=n4_
      clear n0_ n1_ n2_ n3_ n4_
      have p181 : 0 ≤ (x6_2 : Int):=of_decide_eq_true (by assumption)
      have q181 : x6_2 < (l0.length : Int):=of_decide_eq_true (by assumption)
      obtain ⟨ad181,A181_1,c181_1,e181,hx181_0,hx181_1,hl181_1,hi181_1⟩:=at_T96 (Kd.V_reads' HO_0.out).2.2 x6_2 p181 q181
      cases e181
      obtain ⟨ce181,hce181,hMe181,hcc181⟩:=Kd.V_get HO_0.out z96 x6_2 p181 (by first|exact q181|exact of_decide_eq_true (by assumption)|(have e_:=(Kd.V_reads' HO_0.out).1;omega))
      obtain ⟨ua181_1,uc181_1,rfl,ul181_1,ge181_1⟩:=k96_openF hMe181
      have hv181_1:=hcc181 1 _ rfl
      rw [add_field _ _ 1 (by omega)] at hv181_1
      replace hv181_1:=Option.some.inj (hv181_1.symm.trans hx181_1)
      injection hv181_1 with hva_ hvn_ hvc_
      rw [hva_] at ge181_1
      rw [hvc_] at ul181_1
      have HL181_1:=Aside0.mk (show Kd.V (Kd.int .i64) 3 _ w.heap.size _ _ ((rd_T96 l0 x6_2).f1) from Kd.V_mk ul181_1 ge181_1)
      clear hva_ hvn_ hvc_ ge181_1 ul181_1
      clear hcc181 hce181
      have HR181_1:=Aside0.mk hi181_1
      have HC181_1:=Aside0.mk hl181_1
      clear hi181_1 hl181_1
      replace p181:=eq_true p181
      replace q181:=eq_true q181
      refine start_ (n:=14) (S:=fun w' => w'.cell? ⟨gb172,0,none⟩ = some (.int .i64 (wrap64 (((rd_T96 l1 x7_1).f0) + ((rd_T96 l1 (ji8)).f0))))∧w'.cell? ⟨gb172,1,none⟩ = some (.slice Ao20 y178.length co20)∧w'.cell? (ad181.add ((x6_2).toNat * 2)) = some (.int .i64 ((rd_T96 l0 x6_2).f0))∧w'.cell? ⟨(ad181.add ((x6_2).toNat * 2)).block,(ad181.add ((x6_2).toNat * 2)).off + 1,none⟩ = some (.slice A181_1 ((rd_T96 l0 x6_2).f1).length c181_1)) (ds:=[]) #[Z,Z,Z,Z,Z,Z,Z,Z,Z,Z,Z,Z,Z,Z] (by kernel_rfl) rfl rfl ⟨(blk_cell BK172.out 0).trans rfl,(blk_cell BK172.out 1).trans rfl,hx181_0,hx181_1⟩ (fun hHeld => ?_);refine with_tabW spec_l04Next.tab8 spec_l04Next.bits8 (fun HT_ HW_ => ?_)
      generalize wr.drew = w29 at HO_0 HO_5 HO_173001 BK172 HB HL181_1 HR181_1 hx181_0 hx181_1 hHeld ⊢
      refine pure_ (i:=0) (N:=some 46) (v:=?_) (a':=?_) #[Y,Z,Z,Z,Z,Z,Z,Z,Z,Z,Z,Z,Z,Z] rfl rfl (any_of HT_.out (by kernel_rfl)) (fun _ _ _ h => h) (Or.inl ⟨by rfl,?_⟩) ?_ ?_
      rotate_left
      ·intro w'
       go_simp
       with_reducible rfl
      rotate_left
      ·simp only [sPu,sIa,sCz,sCs,i64_w,i32_w]
       rfl
      refine pure_ (i:=1) (N:=some 47) (v:=?_) (a':=?_) #[Y,Y,Z,Z,Z,Z,Z,Z,Z,Z,Z,Z,Z,Z] rfl rfl (any_of HT_.out (by kernel_rfl)) (fun _ _ _ h => h) (Or.inl ⟨by rfl,?_⟩) ?_ ?_
      rotate_left
      ·intro w'
       go_simp
       with_reducible rfl
      rotate_left
      ·simp only [sPu,sIa,sCz,sCs,i64_w,i32_w]
       rfl
      refine pure_ (i:=2) (N:=some 48) (v:=?_) (a':=?_) #[Y,Y,Y,Z,Z,Z,Z,Z,Z,Z,Z,Z,Z,Z] rfl rfl (any_of HT_.out (by kernel_rfl)) (fun _ _ _ h => h) (Or.inl ⟨by rfl,?_⟩) ?_ ?_
      rotate_left
      ·intro w'
       go_simp
       with_reducible rfl
      rotate_left
      ·simp only [sPu,sIa,sCz,sCs,i64_w,i32_w]
       rfl
      refine pure_ (i:=3) (N:=some 49) (v:=?_) (a':=?_) #[Y,Y,Y,Y,Z,Z,Z,Z,Z,Z,Z,Z,Z,Z] rfl rfl (any_of HT_.out (by kernel_rfl)) (fun _ _ _ h => h) (Or.inl ⟨by rfl,?_⟩) ?_ ?_
      rotate_left
      ·intro w'
       go_simp
       with_reducible rfl
      rotate_left
      ·simp only [sPu,sIa,sCz,sCs,i64_w,i32_w]
       rfl
      refine pure_ (i:=4) (N:=some 50) (v:=?_) (a':=?_) #[Y,Y,Y,Y,Y,Z,Z,Z,Z,Z,Z,Z,Z,Z] rfl rfl (any_of HT_.out (by kernel_rfl)) (fun _ _ _ h => h) (Or.inl ⟨by rfl,?_⟩) ?_ ?_
      rotate_left
      ·intro w'
       go_simp
       with_reducible rfl
      rotate_left
      ·simp only [sPu,sIa,sCz,sCs,i64_w,i32_w]
       rfl
      refine pure_ (i:=5) (N:=some 51) (v:=?_) (a':=?_) #[Y,Y,Y,Y,Y,Y,Z,Z,Z,Z,Z,Z,Z,Z] rfl rfl (any_of HT_.out (by kernel_rfl)) (fun _ _ _ h => h) (Or.inl ⟨by rfl,?_⟩) ?_ ?_
      rotate_left
      ·intro w'
       go_simp
       with_reducible rfl
      rotate_left
      ·simp only [sPu,sIa,sCz,sCs,i64_w,i32_w]
       rfl
      refine pure_ (i:=6) (N:=some 52) (v:=?_) (a':=?_) #[Y,Y,Y,Y,Y,Y,Y,Z,Z,Z,Z,Z,Z,Z] rfl rfl (any_of HT_.out (by kernel_rfl)) (fun _ _ _ h => h) (Or.inl ⟨by rfl,?_⟩) ?_ ?_
      rotate_left
      ·intro w'
       go_simp
       with_reducible rfl
      rotate_left
      ·simp only [sPu,sIa,sCz,sCs,i64_w,i32_w]
       rfl
      refine pure_ (i:=7) (N:=some 53) (v:=?_) (a':=?_) #[Y,Y,Y,Y,Y,Y,Y,Y,Z,Z,Z,Z,Z,Z] rfl rfl (any_of HT_.out (by kernel_rfl)) (fun _ _ _ h => h) (Or.inl ⟨by rfl,?_⟩) ?_ ?_
      rotate_left
      ·intro w'
       go_simp
       with_reducible rfl
      rotate_left
      ·simp only [sPu,sIa,sCz,sCs,i64_w,i32_w]
       rfl
      refine pure_ (i:=8) (N:=some 54) (v:=?_) (a':=?_) #[Y,Y,Y,Y,Y,Y,Y,Y,Y,Z,Z,Z,Z,Z] rfl rfl (any_of HT_.out (by kernel_rfl)) (fun _ _ _ h => h) (Or.inl ⟨by rfl,?_⟩) ?_ ?_
      rotate_left
      ·intro w'
       go_simp
       with_reducible rfl
      rotate_left
      ·simp only [sPu,sIa,sCz,sCs,i64_w,i32_w]
       rfl
      refine pure_ (i:=10) (N:=some 56) (v:=?_) (a':=?_) #[Y,Y,Y,Y,Y,Y,Y,Y,Y,Z,Y,Z,Z,Z] rfl rfl (any_of HT_.out (by kernel_rfl)) (fun _ _ _ h => h) (Or.inl ⟨by rfl,?_⟩) ?_ ?_
      rotate_left
      ·intro w'
       go_simp
       with_reducible rfl
      rotate_left
      ·simp only [sPu,sIa,sCz,sCs,i64_w,i32_w]
       rfl
      refine take_ (i:=9) (N:=some 55) (v:=?_) (a':=?_) #[Y,Y,Y,Y,Y,Y,Y,Y,Y,Y,Y,Z,Z,Z] rfl rfl (take_ofW HT_.out HW_.out (by kernel_rfl)) (fun _ _ _ h => h) (Or.inl ⟨by rfl,?_⟩) hHeld ?_ ?_
      rotate_left
      ·rintro w' ⟨s0,s1,s2,s3⟩
       go_simp
       with_reducible rfl
      rotate_left
      ·simp only [sPu,sIa,sCz,sCs,i64_w,i32_w]
       rfl
      refine take_ (i:=11) (N:=some 57) (v:=?_) (a':=?_) #[Y,Y,Y,Y,Y,Y,Y,Y,Y,Y,Y,Y,Z,Z] rfl rfl (take_ofW HT_.out HW_.out (by kernel_rfl)) (fun _ _ _ h => h) (Or.inl ⟨by rfl,?_⟩) hHeld ?_ ?_
      rotate_left
      ·rintro w' ⟨s0,s1,s2,s3⟩
       go_simp
       with_reducible rfl
      rotate_left
      ·simp only [sPu,sIa,sCz,sCs,i64_w,i32_w]
       rfl
      refine pure_ (i:=12) (N:=some 58) (v:=?_) (a':=?_) #[Y,Y,Y,Y,Y,Y,Y,Y,Y,Y,Y,Y,Y,Z] rfl rfl (any_of HT_.out (by kernel_rfl)) (fun _ _ _ h => h) (Or.inl ⟨by rfl,?_⟩) ?_ ?_
      rotate_left
      ·intro w'
       go_simp
       with_reducible rfl
      rotate_left
      ·simp only [sPu,sIa,sCz,sCs,i64_w,i32_w]
       rfl
      refine pure_ (i:=13) (N:=some 59) (v:=?_) (a':=?_) #[Y,Y,Y,Y,Y,Y,Y,Y,Y,Y,Y,Y,Y,Y] rfl rfl (any_of HT_.out (by kernel_rfl)) (fun _ _ _ h => h) (Or.inl ⟨by rfl,?_⟩) ?_ ?_
      rotate_left
      ·intro w'
       go_simp
       with_reducible rfl
      rotate_left
      ·simp only [sPu,sIa,sCz,sCs,i64_w,i32_w]
       rfl
      refine done_ (done_of HT_.out (by kernel_rfl)) ?_
      have hcz30_0 : w29.cell? ⟨gb172,0,none⟩ = some (.int .i64 (wrap64 (((rd_T96 l1 x7_1).f0) + ((rd_T96 l1 (ji8)).f0)))):=(blk_cell BK172.out 0).trans rfl
      have hcz30_1 : w29.cell? ⟨gb172,1,none⟩ = some (.slice Ao20 y178.length co20):=(blk_cell BK172.out 1).trans rfl
      have hfz30_0:=blk_frozen BK172.out 0
      have hfz30_1:=blk_frozen BK172.out 1
      try go_wp2_with (first|((with_reducible refine gate_builtin (b:=.append) (xs:=#[.tmp 69,.tmp 71]) rfl ?_);at_builtin;refine Kd.N_append k96 (w0:=w) w.heap.size rfl (.tmp 69) (.tmp 71) 93 96 (.agg #[(.int .i64 0),(.slice none 0 0)]) 32 rfl Try.underlying93 info96 rfl (by decide) (by omega) u5 x5_2 (⟨(wrap64 (((rd_T96 l1 x7_1).f0) + ((rd_T96 l1 (ji8)).f0))),y178⟩ : S96) [.int .i64 (wrap64 (((rd_T96 l1 x7_1).f0) + ((rd_T96 l1 (ji8)).f0))),.slice Ao20 y178.length co20] (fun k_ => (P0_ k_ ∨ w.heap.size ≤ k_)∧k_ ≠ gb172) (fun k_ => ((fun k_ => (P0_ k_ ∨ w.heap.size ≤ k_)∧k_ ≠ gb172)) k_∧some k_ ≠ (u5 : Value).ownBlock) rfl rfl ?aP (fun _ hk => hk) ?aF ?aO ?aB ?aS ?aL ?_;(case aP => exact (k96_mkF _ _ (⟨(wrap64 (((rd_T96 l1 x7_1).f0) + ((rd_T96 l1 (ji8)).f0))),y178⟩ : S96) (Kd.R_reads' (Kd.R_mono (ok':=(fun k_ => ((fun k_ => (P0_ k_ ∨ w.heap.size ≤ k_)∧k_ ≠ gb172)) k_∧some k_ ≠ (u5 : Value).ownBlock)) (Kd.R_types (Kd.R_apart' (HO_173001.out) (Kd.N_typed HO_5.out) (by decide)) BK172.out (by decide)) (fun k_ hk => ⟨⟨(.inr (hk.1.1)),hk.2⟩,hk.1.2⟩))).2.1 (Kd.R_F (Kd.R_mono (ok':=(fun k_ => ((fun k_ => (P0_ k_ ∨ w.heap.size ≤ k_)∧k_ ≠ gb172)) k_∧some k_ ≠ (u5 : Value).ownBlock)) (Kd.R_types (Kd.R_apart' (HO_173001.out) (Kd.N_typed HO_5.out) (by decide)) BK172.out (by decide)) (fun k_ hk => ⟨⟨(.inr (hk.1.1)),hk.2⟩,hk.1.2⟩)))));(case aB => exact (by repeat (first|(with_reducible first|exact HB.out|apply below_alloc|apply pw_below_drewN|apply below_drew1|refine below_set ?_ GE172.out)|exact HB.out)));(case aF => exact (fun k_ hk => ⟨(.inr (Nat.le_trans (below_size (by repeat (first|(with_reducible first|exact HB.out|apply below_alloc|apply pw_below_drewN|apply below_drew1|refine below_set ?_ GE172.out)|exact HB.out))) hk)),Kd.freshB (g:=gb172) (o:=.cells #[.int .i64 (wrap64 (((rd_T96 l1 x7_1).f0) + ((rd_T96 l1 (ji8)).f0))),.slice Ao20 y178.length co20] 96 (0,0)) (by (with_reducible repeat (first|refine blk_drewN ?_ _|refine blk_drew ?_|refine blk_alloc ?_ _));exact BK172.out) k_ hk⟩));(case aO => exact (by (with_reducible repeat (first|apply Kd.N_alloc|apply Kd.N_drewN|apply Kd.N_drew));exact Kd.N_mono HO_5.out (fun _ hk => ⟨hk.1,hk.2.2⟩)));(case aS => exact (below_size (by repeat (first|(with_reducible first|exact HB.out|apply below_alloc|apply pw_below_drewN|apply below_drew1|refine below_set ?_ GE172.out)|exact HB.out))));(case aL => have:=LMc28.out;omega);intro v187 w31 ho hb hg hat;rw [← Ny186.out] at ho;have n0_:=Aside0.mk (Kd.V_afterv (ok:=(fun k_ => (P0_ k_ ∨ w.heap.size ≤ k_)∧some k_ ≠ (.slice Ao20 y178.length co20 : Value).ownBlock∧k_ ≠ gb172)) (by (with_reducible repeat (first|apply Kd.V_alloc|apply Kd.V_drewN|apply Kd.V_drew));exact Kd.V_mono HO_0.out (fun _ hk => ⟨⟨hk.1,⟨hk.2.2.1,hk.2.2.2⟩⟩,hk.2.1⟩)) hg hat);have n1_:=Aside0.mk (blk_grown (g:=gb172) (o:=.cells #[.int .i64 (wrap64 (((rd_T96 l1 x7_1).f0) + ((rd_T96 l1 (ji8)).f0))),.slice Ao20 y178.length co20] 96 (0,0)) (by (with_reducible repeat (first|refine blk_drewN ?_ _|refine blk_drew ?_|refine blk_alloc ?_ _));exact BK172.out) hg (Kd.N_away HO_5.out (fun _ hk => hk.2.2)));have n2_:=Aside0.mk (Kd.V_afterv (ok:=(fun k_ => (P0_ k_ ∨ w.heap.size ≤ k_)∧some k_ ≠ (.slice Ao20 y178.length co20 : Value).ownBlock∧k_ ≠ gb172)) (by (with_reducible repeat (first|apply Kd.V_alloc|apply Kd.V_drewN|apply Kd.V_drew));exact Kd.V_mono HL181_1.out (fun _ hk => ⟨⟨hk.1,⟨hk.2.2.1,hk.2.2.2⟩⟩,hk.2.1⟩)) hg hat);have n3_:=Aside0.mk (hb);have n4_:=Aside0.mk (ho);clear HO_0;clear BK172;clear HL181_1;clear HB;clear HO_5;clear HO_173001;have HO_0:=n0_;have BK172:=n1_;have HL181_1:=n2_;have HB:=n3_;have HO188:=n4_;clear n0_ n1_ n2_ n3_ n4_;clear ho hb hg hat))
      go_roundg k2
      case measure => have:=HK1.out;have:=HK2.out;omega
      case rel => exact ⟨(y186),(x6_2),(wrap64 (x7_1 + 2)),(by first|rfl|(simp;done)|(simp [*];done)),(by first|rfl|(simp;done)|(simp [*];done)),H',⟨by have:=HK1.out;have:=HK2.out;omega⟩,⟨by (with_reducible repeat (first|apply Kd.V_alloc|apply Kd.V_drewN|apply Kd.V_drew));exact Kd.V_mono HO_0.out (fun _ hk => ⟨hk.1.1,hk.2⟩)⟩,⟨by (with_reducible repeat (first|apply Kd.N_alloc|apply Kd.N_drewN|apply Kd.N_drew));exact Kd.N_mono HO188.out (fun _ hk => hk.1)⟩,⟨by repeat (first|(with_reducible first|exact HB.out|apply below_alloc|apply pw_below_drewN|apply below_drew1|refine below_set ?_ GE172.out)|exact HB.out)⟩⟩
     rw [if_pos c24] at H
     have c24b0 : decide (((rd_T96 l0 x6_2).f0) ≤ (wrap64 (((rd_T96 l1 x7_1).f0) + ((rd_T96 l1 (ji8)).f0)))) = true:=decide_eq_true c24
     clear c24
     by_cases c25 : x5_2.length < 4398046511104
     rotate_left
     ·rw [if_neg c25] at H
      exact absurd H (by simp)
     rw [if_pos c25] at H
     have LMc25:=Aside0.mk c25
     clear c25
     obtain ⟨y183,hy183⟩ : ∃ y_ : List (S96),y_ = (x5_2 ++ [(⟨(rd_T96 l0 x6_2).f0,(rd_T96 l0 x6_2).f1⟩ : S96)]):=⟨_,rfl⟩
     replace H : (spec_l04Next.l1 k2 l0 l1 y183 (wrap64 (x6_2 + 1)) x7_1 (wrap64 (((rd_T96 l1 x7_1).f0) + ((rd_T96 l1 (ji8)).f0))) y178) = some r:=by first|(rw [hy183];with_reducible exact H)|(have H2_:=(Option.bind_some _ _).symm.trans H;rw [hy183];with_reducible exact H2_)|(have H2_:=(Option.bind_some _ _).symm.trans H;with_reducible exact H2_)|with_reducible exact H|(rw [hy183];exact H)|exact H
     have Ny183:=Aside0.mk hy183
     clear hy183
     have H':=Aside0.mk H
     clear H
     try go_wp2
     have n0_:=Aside0.mk (Kd.V_drew HO_0.out)
     have n1_:=Aside0.mk (Kd.N_drew HO_5.out)
     have n2_:=Aside0.mk (Kd.R_drew HO_173001.out)
     have n3_:=Aside0.mk (blk_drew BK172.out)
     have n4_:=Aside0.mk (below_drew1 HB.out)
     clear HO_0
     clear HO_5
     clear HO_173001
     clear BK172
     clear HB
     have HO_0:=n0_
     have HO_5:=n1_
     have HO_173001:=n2_
     have BK172:=n3_
     have HB:=n4_
     clear n0_ n1_ n2_ n3_ n4_
     have p181 : 0 ≤ (x6_2 : Int):=of_decide_eq_true (by assumption)
     have q181 : x6_2 < (l0.length : Int):=of_decide_eq_true (by assumption)
     obtain ⟨ad181,A181_1,c181_1,e181,hx181_0,hx181_1,hl181_1,hi181_1⟩:=at_T96 (Kd.V_reads' HO_0.out).2.2 x6_2 p181 q181
     cases e181
     obtain ⟨ce181,hce181,hMe181,hcc181⟩:=Kd.V_get HO_0.out z96 x6_2 p181 (by first|exact q181|exact of_decide_eq_true (by assumption)|(have e_:=(Kd.V_reads' HO_0.out).1;omega))
     obtain ⟨ua181_1,uc181_1,rfl,ul181_1,ge181_1⟩:=k96_openF hMe181
     have hv181_1:=hcc181 1 _ rfl
     rw [add_field _ _ 1 (by omega)] at hv181_1
     replace hv181_1:=Option.some.inj (hv181_1.symm.trans hx181_1)
     injection hv181_1 with hva_ hvn_ hvc_
     rw [hva_] at ge181_1
     rw [hvc_] at ul181_1
     have HL181_1:=Aside0.mk (show Kd.V (Kd.int .i64) 3 _ w.heap.size _ _ ((rd_T96 l0 x6_2).f1) from Kd.V_mk ul181_1 ge181_1)
     clear hva_ hvn_ hvc_ ge181_1 ul181_1
     clear hcc181 hce181
     have HR181_1:=Aside0.mk hi181_1
     have HC181_1:=Aside0.mk hl181_1
     clear hi181_1 hl181_1
     replace p181:=eq_true p181
     replace q181:=eq_true q181
     refine start_ (n:=14) (S:=fun w' => w'.cell? ⟨gb172,0,none⟩ = some (.int .i64 (wrap64 (((rd_T96 l1 x7_1).f0) + ((rd_T96 l1 (ji8)).f0))))∧w'.cell? ⟨gb172,1,none⟩ = some (.slice Ao20 y178.length co20)∧w'.cell? (ad181.add ((x6_2).toNat * 2)) = some (.int .i64 ((rd_T96 l0 x6_2).f0))∧w'.cell? ⟨(ad181.add ((x6_2).toNat * 2)).block,(ad181.add ((x6_2).toNat * 2)).off + 1,none⟩ = some (.slice A181_1 ((rd_T96 l0 x6_2).f1).length c181_1)) (ds:=[]) #[Z,Z,Z,Z,Z,Z,Z,Z,Z,Z,Z,Z,Z,Z] (by kernel_rfl) rfl rfl ⟨(blk_cell BK172.out 0).trans rfl,(blk_cell BK172.out 1).trans rfl,hx181_0,hx181_1⟩ (fun hHeld => ?_);refine with_tabW spec_l04Next.tab8 spec_l04Next.bits8 (fun HT_ HW_ => ?_)
     generalize wr.drew = w26 at HO_0 HO_5 HO_173001 BK172 HB HL181_1 HR181_1 hx181_0 hx181_1 hHeld ⊢
     refine pure_ (i:=0) (N:=some 46) (v:=?_) (a':=?_) #[Y,Z,Z,Z,Z,Z,Z,Z,Z,Z,Z,Z,Z,Z] rfl rfl (any_of HT_.out (by kernel_rfl)) (fun _ _ _ h => h) (Or.inl ⟨by rfl,?_⟩) ?_ ?_
     rotate_left
     ·intro w'
      go_simp
      with_reducible rfl
     rotate_left
     ·simp only [sPu,sIa,sCz,sCs,i64_w,i32_w]
      rfl
     refine pure_ (i:=1) (N:=some 47) (v:=?_) (a':=?_) #[Y,Y,Z,Z,Z,Z,Z,Z,Z,Z,Z,Z,Z,Z] rfl rfl (any_of HT_.out (by kernel_rfl)) (fun _ _ _ h => h) (Or.inl ⟨by rfl,?_⟩) ?_ ?_
     rotate_left
     ·intro w'
      go_simp
      with_reducible rfl
     rotate_left
     ·simp only [sPu,sIa,sCz,sCs,i64_w,i32_w]
      rfl
     refine pure_ (i:=2) (N:=some 48) (v:=?_) (a':=?_) #[Y,Y,Y,Z,Z,Z,Z,Z,Z,Z,Z,Z,Z,Z] rfl rfl (any_of HT_.out (by kernel_rfl)) (fun _ _ _ h => h) (Or.inl ⟨by rfl,?_⟩) ?_ ?_
     rotate_left
     ·intro w'
      go_simp
      with_reducible rfl
     rotate_left
     ·simp only [sPu,sIa,sCz,sCs,i64_w,i32_w]
      rfl
     refine pure_ (i:=3) (N:=some 49) (v:=?_) (a':=?_) #[Y,Y,Y,Y,Z,Z,Z,Z,Z,Z,Z,Z,Z,Z] rfl rfl (any_of HT_.out (by kernel_rfl)) (fun _ _ _ h => h) (Or.inl ⟨by rfl,?_⟩) ?_ ?_
     rotate_left
     ·intro w'
      go_simp
      with_reducible rfl
     rotate_left
     ·simp only [sPu,sIa,sCz,sCs,i64_w,i32_w]
      rfl
     refine pure_ (i:=4) (N:=some 50) (v:=?_) (a':=?_) #[Y,Y,Y,Y,Y,Z,Z,Z,Z,Z,Z,Z,Z,Z] rfl rfl (any_of HT_.out (by kernel_rfl)) (fun _ _ _ h => h) (Or.inl ⟨by rfl,?_⟩) ?_ ?_
     rotate_left
     ·intro w'
      go_simp
      with_reducible rfl
     rotate_left
     ·simp only [sPu,sIa,sCz,sCs,i64_w,i32_w]
      rfl
     refine pure_ (i:=5) (N:=some 51) (v:=?_) (a':=?_) #[Y,Y,Y,Y,Y,Y,Z,Z,Z,Z,Z,Z,Z,Z] rfl rfl (any_of HT_.out (by kernel_rfl)) (fun _ _ _ h => h) (Or.inl ⟨by rfl,?_⟩) ?_ ?_
     rotate_left
     ·intro w'
      go_simp
      with_reducible rfl
     rotate_left
     ·simp only [sPu,sIa,sCz,sCs,i64_w,i32_w]
      rfl
     refine pure_ (i:=6) (N:=some 52) (v:=?_) (a':=?_) #[Y,Y,Y,Y,Y,Y,Y,Z,Z,Z,Z,Z,Z,Z] rfl rfl (any_of HT_.out (by kernel_rfl)) (fun _ _ _ h => h) (Or.inl ⟨by rfl,?_⟩) ?_ ?_
     rotate_left
     ·intro w'
      go_simp
      with_reducible rfl
     rotate_left
     ·simp only [sPu,sIa,sCz,sCs,i64_w,i32_w]
      rfl
     refine pure_ (i:=7) (N:=some 53) (v:=?_) (a':=?_) #[Y,Y,Y,Y,Y,Y,Y,Y,Z,Z,Z,Z,Z,Z] rfl rfl (any_of HT_.out (by kernel_rfl)) (fun _ _ _ h => h) (Or.inl ⟨by rfl,?_⟩) ?_ ?_
     rotate_left
     ·intro w'
      go_simp
      with_reducible rfl
     rotate_left
     ·simp only [sPu,sIa,sCz,sCs,i64_w,i32_w]
      rfl
     refine pure_ (i:=8) (N:=some 54) (v:=?_) (a':=?_) #[Y,Y,Y,Y,Y,Y,Y,Y,Y,Z,Z,Z,Z,Z] rfl rfl (any_of HT_.out (by kernel_rfl)) (fun _ _ _ h => h) (Or.inl ⟨by rfl,?_⟩) ?_ ?_
     rotate_left
     ·intro w'
      go_simp
      with_reducible rfl
     rotate_left
     ·simp only [sPu,sIa,sCz,sCs,i64_w,i32_w]
      rfl
     refine pure_ (i:=10) (N:=some 56) (v:=?_) (a':=?_) #[Y,Y,Y,Y,Y,Y,Y,Y,Y,Z,Y,Z,Z,Z] rfl rfl (any_of HT_.out (by kernel_rfl)) (fun _ _ _ h => h) (Or.inl ⟨by rfl,?_⟩) ?_ ?_
     rotate_left
     ·intro w'
      go_simp
      with_reducible rfl
     rotate_left
     ·simp only [sPu,sIa,sCz,sCs,i64_w,i32_w]
      rfl
     refine take_ (i:=9) (N:=some 55) (v:=?_) (a':=?_) #[Y,Y,Y,Y,Y,Y,Y,Y,Y,Y,Y,Z,Z,Z] rfl rfl (take_ofW HT_.out HW_.out (by kernel_rfl)) (fun _ _ _ h => h) (Or.inl ⟨by rfl,?_⟩) hHeld ?_ ?_
     rotate_left
     ·rintro w' ⟨s0,s1,s2,s3⟩
      go_simp
      with_reducible rfl
     rotate_left
     ·simp only [sPu,sIa,sCz,sCs,i64_w,i32_w]
      rfl
     refine take_ (i:=11) (N:=some 57) (v:=?_) (a':=?_) #[Y,Y,Y,Y,Y,Y,Y,Y,Y,Y,Y,Y,Z,Z] rfl rfl (take_ofW HT_.out HW_.out (by kernel_rfl)) (fun _ _ _ h => h) (Or.inl ⟨by rfl,?_⟩) hHeld ?_ ?_
     rotate_left
     ·rintro w' ⟨s0,s1,s2,s3⟩
      go_simp
      with_reducible rfl
     rotate_left
     ·simp only [sPu,sIa,sCz,sCs,i64_w,i32_w]
      rfl
     refine pure_ (i:=12) (N:=some 58) (v:=?_) (a':=?_) #[Y,Y,Y,Y,Y,Y,Y,Y,Y,Y,Y,Y,Y,Z] rfl rfl (any_of HT_.out (by kernel_rfl)) (fun _ _ _ h => h) (Or.inl ⟨by rfl,?_⟩) ?_ ?_
     rotate_left
     ·intro w'
      go_simp
      with_reducible rfl
     rotate_left
     ·simp only [sPu,sIa,sCz,sCs,i64_w,i32_w]
      rfl
     refine pure_ (i:=13) (N:=some 59) (v:=?_) (a':=?_) #[Y,Y,Y,Y,Y,Y,Y,Y,Y,Y,Y,Y,Y,Y] rfl rfl (any_of HT_.out (by kernel_rfl)) (fun _ _ _ h => h) (Or.inl ⟨by rfl,?_⟩) ?_ ?_
     rotate_left
     ·intro w'
      go_simp
      with_reducible rfl
     rotate_left
     ·simp only [sPu,sIa,sCz,sCs,i64_w,i32_w]
      rfl
     refine done_ (done_of HT_.out (by kernel_rfl)) ?_
     have p182 : 0 ≤ (x6_2 : Int):=of_decide_eq_true (by assumption)
     have q182 : x6_2 < (l0.length : Int):=of_decide_eq_true (by assumption)
     obtain ⟨ad182,A182_1,c182_1,e182,hx182_0,hx182_1,hl182_1,hi182_1⟩:=at_T96 (Kd.V_reads' HO_0.out).2.2 x6_2 p182 q182
     obtain rfl : ad181 = ad182:=(by injection e182)
     obtain ⟨ce182,hce182,hMe182,hcc182⟩:=Kd.V_get HO_0.out z96 x6_2 p182 (by first|exact q182|exact of_decide_eq_true (by assumption)|(have e_:=(Kd.V_reads' HO_0.out).1;omega))
     obtain ⟨ua182_1,uc182_1,rfl,ul182_1,ge182_1⟩:=k96_openF hMe182
     have hv182_1:=hcc182 1 _ rfl
     rw [add_field _ _ 1 (by omega)] at hv182_1
     replace hv182_1:=Option.some.inj (hv182_1.symm.trans hx182_1)
     injection hv182_1 with hva_ hvn_ hvc_
     rw [hva_] at ge182_1
     rw [hvc_] at ul182_1
     have HL182_1:=Aside0.mk (show Kd.V (Kd.int .i64) 3 _ w.heap.size _ _ ((rd_T96 l0 x6_2).f1) from Kd.V_mk ul182_1 ge182_1)
     clear hva_ hvn_ hvc_ ge182_1 ul182_1
     clear hcc182 hce182
     have HR182_1:=Aside0.mk hi182_1
     have HC182_1:=Aside0.mk hl182_1
     clear hi182_1 hl182_1
     replace p182:=eq_true p182
     replace q182:=eq_true q182
     have ea_:=Option.some.inj (hx181_1.symm.trans hx182_1)
     injection ea_ with ea_ en_ ec_
     subst ea_
     subst ec_
     clear en_
     try go_wp2_with (first|((with_reducible refine gate_builtin (b:=.append) (xs:=#[.tmp 60,.tmp 65]) rfl ?_);at_builtin;refine Kd.N_append k96 (w0:=w) w.heap.size rfl (.tmp 60) (.tmp 65) 93 96 (.agg #[(.int .i64 0),(.slice none 0 0)]) 32 rfl Try.underlying93 info96 rfl (by decide) (by omega) u5 x5_2 (⟨(rd_T96 l0 x6_2).f0,(rd_T96 l0 x6_2).f1⟩ : S96) [.int .i64 ((rd_T96 l0 x6_2).f0),.slice A181_1 ((rd_T96 l0 x6_2).f1).length c181_1] (fun k_ => (P0_ k_ ∨ w.heap.size ≤ k_)∧some k_ ≠ (.slice Ao20 y178.length co20 : Value).ownBlock∧k_ ≠ gb172) (fun k_ => ((fun k_ => (P0_ k_ ∨ w.heap.size ≤ k_)∧some k_ ≠ (.slice Ao20 y178.length co20 : Value).ownBlock∧k_ ≠ gb172)) k_∧some k_ ≠ (u5 : Value).ownBlock) rfl rfl ?aP (fun _ hk => hk) ?aF ?aO ?aB ?aS ?aL ?_;(case aP => exact (k96_mkF _ _ (⟨(rd_T96 l0 x6_2).f0,(rd_T96 l0 x6_2).f1⟩ : S96) (Kd.V_reads' (Kd.V_mono (ok':=(fun k_ => ((fun k_ => (P0_ k_ ∨ w.heap.size ≤ k_)∧some k_ ≠ (.slice Ao20 y178.length co20 : Value).ownBlock∧k_ ≠ gb172)) k_∧some k_ ≠ (u5 : Value).ownBlock)) (HL182_1.out) (fun k_ hk => ⟨⟨hk.1,⟨hk.2.2.1,hk.2.2.2⟩⟩,hk.2.1⟩))).2.1 (Kd.V_F (Kd.V_mono (ok':=(fun k_ => ((fun k_ => (P0_ k_ ∨ w.heap.size ≤ k_)∧some k_ ≠ (.slice Ao20 y178.length co20 : Value).ownBlock∧k_ ≠ gb172)) k_∧some k_ ≠ (u5 : Value).ownBlock)) (HL182_1.out) (fun k_ hk => ⟨⟨hk.1,⟨hk.2.2.1,hk.2.2.2⟩⟩,hk.2.1⟩)))));(case aB => exact (by repeat (first|(with_reducible first|exact HB.out|apply below_alloc|apply pw_below_drewN|apply below_drew1|refine below_set ?_ GE172.out)|exact HB.out)));(case aF => exact (fun k_ hk => ⟨(.inr (Nat.le_trans (below_size (by repeat (first|(with_reducible first|exact HB.out|apply below_alloc|apply pw_below_drewN|apply below_drew1|refine below_set ?_ GE172.out)|exact HB.out))) hk)),Kd.fresh' (Kd.R_lt (by (with_reducible repeat (first|apply Kd.R_alloc|apply Kd.R_drewN|apply Kd.R_drew));exact HO_173001.out)) k_ hk,Kd.freshB (g:=gb172) (o:=.cells #[.int .i64 (wrap64 (((rd_T96 l1 x7_1).f0) + ((rd_T96 l1 (ji8)).f0))),.slice Ao20 y178.length co20] 96 (0,0)) (by (with_reducible repeat (first|refine blk_drewN ?_ _|refine blk_drew ?_|refine blk_alloc ?_ _));exact BK172.out) k_ hk⟩));(case aO => exact (by (with_reducible repeat (first|apply Kd.N_alloc|apply Kd.N_drewN|apply Kd.N_drew));exact HO_5.out));(case aS => exact (below_size (by repeat (first|(with_reducible first|exact HB.out|apply below_alloc|apply pw_below_drewN|apply below_drew1|refine below_set ?_ GE172.out)|exact HB.out))));(case aL => have:=LMc25.out;omega);intro v184 w27 ho hb hg hat;rw [← Ny183.out] at ho;have n0_:=Aside0.mk (Kd.V_afterv (ok:=(fun k_ => (P0_ k_ ∨ w.heap.size ≤ k_)∧some k_ ≠ (.slice Ao20 y178.length co20 : Value).ownBlock∧k_ ≠ gb172)) (by (with_reducible repeat (first|apply Kd.V_alloc|apply Kd.V_drewN|apply Kd.V_drew));exact Kd.V_mono HO_0.out (fun _ hk => ⟨⟨hk.1,⟨hk.2.2.1,hk.2.2.2⟩⟩,hk.2.1⟩)) hg hat);have n1_:=Aside0.mk (Kd.R_over' (by (with_reducible repeat (first|apply Kd.R_alloc|apply Kd.R_drewN|apply Kd.R_drew));exact HO_173001.out) (Kd.N_typed (by (with_reducible repeat (first|apply Kd.N_alloc|apply Kd.N_drewN|apply Kd.N_drew));exact HO_5.out)) (by decide) hg);have n2_:=Aside0.mk (blk_grown (g:=gb172) (o:=.cells #[.int .i64 (wrap64 (((rd_T96 l1 x7_1).f0) + ((rd_T96 l1 (ji8)).f0))),.slice Ao20 y178.length co20] 96 (0,0)) (by (with_reducible repeat (first|refine blk_drewN ?_ _|refine blk_drew ?_|refine blk_alloc ?_ _));exact BK172.out) hg (Kd.N_away HO_5.out (fun _ hk => hk.2.2)));have n3_:=Aside0.mk (Kd.V_afterv (ok:=(fun k_ => (P0_ k_ ∨ w.heap.size ≤ k_)∧some k_ ≠ (.slice Ao20 y178.length co20 : Value).ownBlock∧k_ ≠ gb172)) (by (with_reducible repeat (first|apply Kd.V_alloc|apply Kd.V_drewN|apply Kd.V_drew));exact Kd.V_mono HL181_1.out (fun _ hk => ⟨⟨hk.1,⟨hk.2.2.1,hk.2.2.2⟩⟩,hk.2.1⟩)) hg hat);have n4_:=Aside0.mk (Kd.V_afterv (ok:=(fun k_ => (P0_ k_ ∨ w.heap.size ≤ k_)∧some k_ ≠ (.slice Ao20 y178.length co20 : Value).ownBlock∧k_ ≠ gb172)) (by (with_reducible repeat (first|apply Kd.V_alloc|apply Kd.V_drewN|apply Kd.V_drew));exact Kd.V_mono HL182_1.out (fun _ hk => ⟨⟨hk.1,⟨hk.2.2.1,hk.2.2.2⟩⟩,hk.2.1⟩)) hg hat);have n5_:=Aside0.mk (hb);have n6_:=Aside0.mk (ho);clear HO_0;clear HO_173001;clear BK172;clear HL181_1;clear HL182_1;clear HB;clear HO_5;have HO_0:=n0_;have HO_173001:=n1_;have BK172:=n2_;have HL181_1:=n3_;have HL182_1:=n4_;have HB:=n5_;have HO185:=n6_;clear n0_ n1_ n2_ n3_ n4_ n5_ n6_;clear ho hb hg hat))
     go_roundg k2
     case measure => have:=HK1.out;have:=HK2.out;omega
     case rel => exact ⟨(y183),(wrap64 (x6_2 + 1)),(by first|rfl|(simp;done)|(simp [*];done)),H',⟨by have:=HK1.out;have:=HK2.out;omega⟩,⟨by (with_reducible repeat (first|apply Kd.V_alloc|apply Kd.V_drewN|apply Kd.V_drew));exact Kd.V_mono HO_0.out (fun _ hk => ⟨hk.1.1,⟨hk.2,⟨hk.1.2.1,hk.1.2.2⟩⟩⟩)⟩,⟨by (with_reducible repeat (first|apply Kd.N_alloc|apply Kd.N_drewN|apply Kd.N_drew));exact HO185.out⟩,⟨by (with_reducible repeat (first|apply Kd.R_alloc|apply Kd.R_drewN|apply Kd.R_drew));exact HO_173001.out⟩,⟨by (with_reducible repeat (first|refine blk_drewN ?_ _|refine blk_drew ?_|refine blk_alloc ?_ _));exact BK172.out⟩,⟨by repeat (first|(with_reducible first|exact HB.out|apply below_alloc|apply pw_below_drewN|apply below_drew1|refine below_set ?_ GE172.out)|exact HB.out)⟩⟩
end Go.Proofs.Ytimomemkbcidnaa.PFnExactTokenLengths
