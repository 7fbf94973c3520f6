-- Written by a program of this session (a changed print); Lean checks it.
import Derived.Test.YtimomemkbcidnaaPFnPackagex0
import Derived.Test.YtimomemkbcidnaaPFnPackagex6
namespace Go.Proofs.Ytimomemkbcidnaa.PFnPackage
open Go.RowKit Go.Proofs.YtimomemkbcidnaaW.PrintWords Go.Proofs.YtimomemkbcidnaaW.PrintLast Go.Proofs.YtimomemkbcidnaaW.PrintMore
attribute [local go_sem] max2_int min2_int max_two min_two max_three min_three max_four min_four   -- for this text's walks alone
set_option linter.unusedVariables false
set_option linter.unusedSimpArgs false
open Act renaming put → sPu
open List renaming setIfInBounds_toArray → sIa, set_cons_zero → sCz, set_cons_succ → sCs
open Bool renaming true → Y, false → Z

/-! ### impl_nextCoins: function 72 -/
def impl_nextCoins.l0 : Nat → List (S101) → List (S101) → Int → Option ((List (S101)))
  | 0, _, _, _ => none
  | k + 1, x1, x5, x6 => if (wrap64 (x6 + 1)) < (x1.length : Int) then (if 0 ≤ x6 then (if x6 < (x1.length : Int) then (if 0 ≤ (wrap64 (x6 + 1)) then ((slices_Concat_int_int.f (([(rd_T101 x1 x6).f1, (rd_T101 x1 (wrap64 (x6 + 1))).f1] : List (List Int)))).bind fun t310 => (if x5.length < 4398046511104 then (impl_nextCoins.l0 k x1 (x5 ++ [(⟨wrap64 (((rd_T101 x1 x6).f0) + ((rd_T101 x1 (wrap64 (x6 + 1))).f0)), t310⟩ : S101)]) (wrap64 (x6 + 2))) else (none))) else (none)) else (none)) else (none)) else (some x5)
def impl_nextCoins.u (k : Nat) (l0 : List (S101)) (l1 : List (S101)) : Option ((List (S101))) := (some (([] : List (S101)) : List (S101))).bind fun y297 => (if y297.length + l0.length < 4398046511104 then (impl_nextCoins.l0 k l1 (y297 ++ l0) 0) else (none))
theorem impl_nextCoins.mono_l : ∀ k, (∀ y0 y1 y2, LeO (impl_nextCoins.l0 k y0 y1 y2) (impl_nextCoins.l0 (k + 1) y0 y1 y2))
  | 0 => fun _ _ _ r h => by simp [impl_nextCoins.l0] at h
  | k + 1 => by
    have ih0 := impl_nextCoins.mono_l k
    · intro y0 y1 y2
      unfold impl_nextCoins.l0
      repeat' first
      | (with_reducible exact ih0 _ _ _)
      | (with_reducible exact LeO.refl _)
      | (with_reducible exact LeO.none _)
      | (with_reducible refine LeO.ite ?_ ?_)
      | (with_reducible refine LeO.bind ?_ (fun _ => ?_))
      | exact ih0 _ _ _
      | exact LeO.none _
      | refine LeO.ite ?_ ?_
      | refine LeO.bind ?_ (fun _ => ?_)
theorem impl_nextCoins.monou : ∀ a0 a1 k, LeO (impl_nextCoins.u k a0 a1) (impl_nextCoins.u (k + 1) a0 a1) := by
  intro a0 a1 k
  have ih0 := impl_nextCoins.mono_l k
  unfold impl_nextCoins.u
  repeat' first
      | (with_reducible exact ih0 _ _ _)
      | (with_reducible exact LeO.refl _)
      | (with_reducible exact LeO.none _)
      | (with_reducible refine LeO.ite ?_ ?_)
      | (with_reducible refine LeO.bind ?_ (fun _ => ?_))
      | exact ih0 _ _ _
      | exact LeO.none _
      | refine LeO.ite ?_ ?_
      | refine LeO.bind ?_ (fun _ => ?_)
def impl_nextCoins.T5 : Bool × List (List Nat × List Nat) := (true, [([], []), ([], []), ([0, 1], [0, 1]), ([2], [2]), ([], []), ([], []), ([5], [5]), ([4, 6], [4, 6]), ([7], [7]), ([], []), ([], []), ([9, 3, 0, 1, 2, 3, 9, 10], [3, 9]), ([10, 8, 11, 0, 1, 2, 3, 4, 5, 6, 7, 8, 9, 10, 11], [8, 10])])
def impl_nextCoins.B5 : List Nat := [0, 0, 3, 7, 0, 0, 32, 112, 240, 0, 0, 1551, 4095]
theorem impl_nextCoins.tab5 : rtab .any (opsOf Try.f72 5) = impl_nextCoins.T5 := by kernel_rfl
theorem impl_nextCoins.bits5 : waitsOk impl_nextCoins.T5.2 impl_nextCoins.B5 = true := by kernel_rfl
def impl_nextCoins.T6 : Bool × List (List Nat × List Nat) := (true, [([], []), ([], []), ([1], [1]), ([], []), ([3], [3]), ([2, 4], [2, 4]), ([], []), ([6], [6]), ([], []), ([8], [8]), ([7, 9], [7, 9]), ([10], [10]), ([5, 11], [5, 11]), ([12], [12]), ([0, 13, 11], [0, 13]), ([14, 14, 0, 1, 2, 3, 4, 5, 6, 7, 8, 9, 10, 11, 12, 13, 14], [0, 14])])
def impl_nextCoins.B6 : List Nat := [0, 0, 2, 0, 8, 30, 0, 64, 0, 256, 960, 1984, 4094, 8190, 16383, 32767]
theorem impl_nextCoins.tab6 : rtab .any (opsOf Try.f72 6) = impl_nextCoins.T6 := by kernel_rfl
theorem impl_nextCoins.bits6 : waitsOk impl_nextCoins.T6.2 impl_nextCoins.B6 = true := by kernel_rfl
def impl_nextCoins.f (k : Nat) (l0 : List (S101)) (l1 : List (S101)) : Option ((List (S101))) := (impl_nextCoins.u k l0 l1).bind fun x_ => if x_.length < 1000000000000 then some (Go.Proofs.Ytimomemkbcidnaa.MStab.isort S101.f0 x_) else none
theorem impl_nextCoins.mono : ∀ l0 l1 k, LeO (impl_nextCoins.f k l0 l1) (impl_nextCoins.f (k + 1) l0 l1) := by
  intro l0 l1 k
  unfold impl_nextCoins.f
  exact LeO.bind (impl_nextCoins.monou l0 l1 k) (fun _ => LeO.refl _)
theorem impl_nextCoins.weighs : Go.Proofs.Ytimomemkbcidnaa.MCoins.Weighs k101 S101.f0 := ⟨rfl, fun w x cs h => by
  obtain ⟨A1, c1, rfl, _, _⟩ := k101_open h
  exact ⟨_, rfl⟩⟩
theorem impl_nextCoins.V_blk {α : Type} {d : Kd α} {e base n c g : Nat} {ok : Nat → Prop} {W : World} {ad : Addr} {xs : List α} (h : Kd.V d e W base ok (.slice (some ad) n c) xs) (hs : 0 < d.sz) (z : α) (i : Int) (h0 : 0 ≤ i) (h1 : i < n) (hok : ∀ k, ok k → k ≠ g) : ad.block ≠ g := by
  obtain ⟨ad', cs, he, _, _, _, hin⟩ := Kd.F_get (Kd.V_F h) z i h0 h1
  injection he with he
  subst he
  exact hok _ (hin hs)
set_option maxHeartbeats 8000000 in
set_option maxRecDepth 100000 in
theorem impl_nextCoins.calls (k : Nat) (P0_ : Nat → Prop) (A0 : Option Addr) (c0 : Nat) (l0 : List (S101)) (P1_ : Nat → Prop) (A1 : Option Addr) (c1 : Nat) (l1 : List (S101)) (rs_ : List (S101)) (w : World) (hs0 : Kd.V k101 101 w w.heap.size (fun k_ => P0_ k_) (.slice A0 l0.length c0) l0) (hs1 : Kd.V k101 101 w w.heap.size (fun k_ => P1_ k_) (.slice A1 l1.length c1) l1) (h : impl_nextCoins.f k l0 l1 = some rs_) :
    Calls Try.prog 72 #[.slice A0 l0.length c0, .slice A1 l1.length c1] w fun e w' => ∃ v0_ : Value, e = .returned (v0_) ∧ Kd.N k101 101 w' w.heap.size (fun k_ => ((P0_ k_ ∨ P1_ k_) ∨ w.heap.size ≤ k_)) v0_ rs_ ∧ Below w.heap.size w w' := by
 unfold impl_nextCoins.f at h
 obtain ⟨r,hq_,hs_⟩:=Option.bind_eq_some_iff.mp h
 clear h
 have h:=hq_
 clear hq_
 have hl_ : r.length < 1000000000000 := by
  by_cases hl_ : r.length < 1000000000000
  ·exact hl_
  rw [if_neg hl_] at hs_
  cases hs_
 rw [if_pos hl_] at hs_
 obtain rfl:=Option.some.inj hs_
 clear hs_
 have HLEN_:=Aside0.mk hl_
 clear hl_
 have hu101:=Try.underlying101
 have HO0:=Aside0.mk (show Kd.V k101 101 w w.heap.size (fun k_ => ((P0_ k_ ∨ P1_ k_) ∨ w.heap.size ≤ k_)) (.slice A0 l0.length c0) l0 from Kd.V_mono hs0 (fun k_ hk => .inl (.inl hk)))
 have HO1:=Aside0.mk (show Kd.V k101 101 w w.heap.size (fun k_ => ((P0_ k_ ∨ P1_ k_) ∨ w.heap.size ≤ k_)) (.slice A1 l1.length c1) l1 from Kd.V_mono hs1 (fun k_ hk => .inl (.inr hk)))
 have HB:=Aside0.mk (Below.refl w.heap.size w)
 have H : ((some (([] : List (S101)) : List (S101))).bind fun y297 => (if y297.length + l0.length < 4398046511104 then (impl_nextCoins.l0 k l1 (y297 ++ l0) 0) else (none))) = some r:=h
 clear h
 obtain ⟨y297,hy297⟩ : ∃ y_ : List (S101),y_ = (([] : List (S101))):=⟨_,rfl⟩
 replace H : (if y297.length + l0.length < 4398046511104 then (impl_nextCoins.l0 k l1 (y297 ++ l0) 0) else (none)) = some r:=by first|(rw [hy297];with_reducible exact H)|(have H2_:=(Option.bind_some _ _).symm.trans H;rw [hy297];with_reducible exact H2_)|(have H2_:=(Option.bind_some _ _).symm.trans H;with_reducible exact H2_)|with_reducible exact H|(rw [hy297];exact H)|exact H
 have Ny297:=Aside0.mk hy297
 clear hy297
 by_cases c3 : y297.length + l0.length < 4398046511104
 rotate_left
 ·rw [if_neg c3] at H
  exact absurd H (by simp)
 rw [if_pos c3] at H
 have LMc3:=Aside0.mk c3
 clear c3
 obtain ⟨y300,hy300⟩ : ∃ y_ : List (S101),y_ = (y297 ++ l0):=⟨_,rfl⟩
 replace H : (impl_nextCoins.l0 k l1 y300 0) = some r:=by first|(rw [hy300];with_reducible exact H)|(have H2_:=(Option.bind_some _ _).symm.trans H;rw [hy300];with_reducible exact H2_)|(have H2_:=(Option.bind_some _ _).symm.trans H;with_reducible exact H2_)|with_reducible exact H|(rw [hy300];exact H)|exact H
 have Ny300:=Aside0.mk hy300
 clear hy300
 have H':=Aside0.mk H
 clear H
 go_enter Try.func72,Try.ntmps72
 go_wp2_with (first|((with_reducible refine gate_dst (N:=9) rfl ?_);refine Kd.N_lit k101 _ 101 ?hg (N':=9) ?hd (xs:=([] : List (S101))) (inner:=[]) (ok:=(fun k_ => ((P0_ k_ ∨ P1_ k_) ∨ w.heap.size ≤ k_))) (okp:=(fun k_ => ((P0_ k_ ∨ P1_ k_) ∨ w.heap.size ≤ k_))) ?hr ?hp (fun _ hk => hk) ((show ∀ k_,w.heap.size ≤ k_ → (fun k_ => ((P0_ k_ ∨ P1_ k_) ∨ w.heap.size ≤ k_)) k_ from fun k_ hk => (.inr (Nat.le_trans (below_size (by repeat (first|(with_reducible first|exact HB.out|apply below_alloc|apply pw_below_drewN|apply below_drew1)|exact HB.out))) hk))) _ (Nat.le_refl _)) (Below.refl _ _) (Nat.le_refl _) (by simp) ?_;(case hd => rfl);(case hg => rfl);(case hr => first|(go_simp;done)|(go_simp;rfl));(case hp => exact (Reps.none _ _));intro v298 w4 ho5 hb hg_ hnew_;clear hg_ hnew_;(first|rw [← Ny297.out] at ho5|(simp only [Int.reduceToNat] at ho5;rw [← Ny297.out] at ho5));have n0_:=Aside0.mk (Kd.V_elder' (by (with_reducible repeat (first|apply Kd.V_alloc|apply Kd.V_drewN|apply Kd.V_drew));exact HO0.out) (Kd.N_base ho5) hb);have n1_:=Aside0.mk (Kd.V_elder' (by (with_reducible repeat (first|apply Kd.V_alloc|apply Kd.V_drewN|apply Kd.V_drew));exact HO1.out) (Kd.N_base ho5) hb);have n2_:=Aside0.mk (Kd.N_lower ho5 (below_size (by repeat (first|(with_reducible first|exact HB.out|apply below_alloc|apply pw_below_drewN|apply below_drew1)|exact HB.out))));have n3_:=Aside0.mk (below_step (by repeat (first|(with_reducible first|exact HB.out|apply below_alloc|apply pw_below_drewN|apply below_drew1)|exact HB.out)) hb);clear HO0;clear HO1;clear HB;have HO0:=n0_;have HO1:=n1_;have HO299:=n2_;have HB:=n3_;clear n0_ n1_ n2_ n3_;clear hb ho5)|((with_reducible refine gate_builtin (b:=.append) (xs:=#[.tmp 9,.tmp 10]) rfl ?_);at_builtin;refine Kd.N_append_rows k101 (w0:=w) w.heap.size rfl (.tmp 9) (.tmp 10) 98 101 (.agg #[(.int .i64 0),(.slice none 0 0)]) 32 rfl Try.underlying98 info101 rfl (by decide) (by omega) v298 y297 l0 _ _ _ (fun k_ => ((P0_ k_ ∨ P1_ k_) ∨ w.heap.size ≤ k_)) (fun k_ => ((fun k_ => ((P0_ k_ ∨ P1_ k_) ∨ w.heap.size ≤ k_))) k_∧some k_ ≠ (v298 : Value).ownBlock) rfl rfl ?aO ?aR (fun _ hk => hk) ?aF ?aB ?aS ?aL ?_;(case aR => exact (by skip;exact Kd.V_F (Kd.V_mono (ok':=(fun k_ => ((fun k_ => ((P0_ k_ ∨ P1_ k_) ∨ w.heap.size ≤ k_))) k_∧some k_ ≠ (v298 : Value).ownBlock)) (HO0.out) (fun k_ hk => ⟨hk.1,hk.2⟩))));(case aB => exact (by repeat (first|(with_reducible first|exact HB.out|apply below_alloc|apply pw_below_drewN|apply below_drew1)|exact HB.out)));(case aF => exact (fun k_ hk => (.inr (Nat.le_trans (below_size (by repeat (first|(with_reducible first|exact HB.out|apply below_alloc|apply pw_below_drewN|apply below_drew1)|exact HB.out))) hk))));(case aO => exact (by (with_reducible repeat (first|apply Kd.N_alloc|apply Kd.N_drewN|apply Kd.N_drew));exact HO299.out));(case aS => exact (below_size (by repeat (first|(with_reducible first|exact HB.out|apply below_alloc|apply pw_below_drewN|apply below_drew1)|exact HB.out))));(case aL => have:=LMc3.out;omega);intro v301 w6 ho hb hg hat;rw [← Ny300.out] at ho;have n0_:=Aside0.mk (Kd.V_afterv (ok:=(fun k_ => ((P0_ k_ ∨ P1_ k_) ∨ w.heap.size ≤ k_))) (by (with_reducible repeat (first|apply Kd.V_alloc|apply Kd.V_drewN|apply Kd.V_drew));exact HO0.out) hg hat);have n1_:=Aside0.mk (Kd.V_afterv (ok:=(fun k_ => ((P0_ k_ ∨ P1_ k_) ∨ w.heap.size ≤ k_))) (by (with_reducible repeat (first|apply Kd.V_alloc|apply Kd.V_drewN|apply Kd.V_drew));exact HO1.out) hg hat);have n2_:=Aside0.mk (hb);have n3_:=Aside0.mk (ho);clear HO0;clear HO1;clear HB;clear HO299;have HO0:=n0_;have HO1:=n1_;have HB:=n2_;have HO302:=n3_;clear n0_ n1_ n2_ n3_;clear ho hb hg hat))
 go_loopg [5,6] k (fun kq v5 v6 w' => ∃ (x5_1 : List (S101)) (x6_1 : Int),v6 = .int .i64 x6_1∧Aside0 (impl_nextCoins.l0 kq l1 x5_1 x6_1 = some r)∧Aside0 (kq ≤ k)∧Aside0 (Kd.V k101 101 w' w.heap.size (fun k_ => ((P0_ k_ ∨ P1_ k_) ∨ w.heap.size ≤ k_)∧some k_ ≠ (v5 : Value).ownBlock) (.slice A1 l1.length c1) l1)∧Aside0 (Kd.N k101 101 w' w.heap.size (fun k_ => ((P0_ k_ ∨ P1_ k_) ∨ w.heap.size ≤ k_)) v5 x5_1)∧Aside0 (Below w.heap.size w w'))
 case atStart => exact ⟨(y300),(0),(by first|rfl|(simp;done)|(simp [*];done)),H',⟨Nat.le_refl _⟩,⟨by (with_reducible repeat (first|apply Kd.V_alloc|apply Kd.V_drewN|apply Kd.V_drew));exact HO1.out⟩,⟨by (with_reducible repeat (first|apply Kd.N_alloc|apply Kd.N_drewN|apply Kd.N_drew));exact HO302.out⟩,⟨by repeat (first|(with_reducible first|exact HB.out|apply below_alloc|apply pw_below_drewN|apply below_drew1)|exact HB.out)⟩⟩
 case round =>
  clear H'
  obtain ⟨x5_1,x6_1,rfl,HA,HK1,HO_1,HO_5,HB⟩:=hrel
  cases gk with
  | zero => exact absurd HA.out (by simp [impl_nextCoins.l0])
  | succ k1 =>
   have H:=HA.out
   clear HA
   simp only [impl_nextCoins.l0] at H
   by_cases c7 : (wrap64 (x6_1 + 1)) < (l1.length : Int)
   rotate_left
   ·rw [if_neg c7] at H
    have c7b0 : decide ((wrap64 (x6_1 + 1)) < (l1.length : Int)) = false:=decide_eq_false c7
    clear c7
    obtain rfl:=Option.some.inj H
    go_wp2_with (go_at_call 98;refine (Go.Proofs.Ytimomemkbcidnaa.MCoins.sortN _ Go.Proofs.Ytimomemkbcidnaa.MCoins.enters2 Go.Proofs.Ytimomemkbcidnaa.MCoins.closure2 impl_nextCoins.weighs (Nat.lt_trans HLEN_.out (by decide)) HO_5.out).mono ?_;rintro e_ w_ ⟨rfl,hg_,hs_⟩;have HOS_:=Aside0.mk hs_;have HBS_:=Aside0.mk (HB.out.grown hg_ HB.out.size (Kd.N_base HO_5.out));clear hg_ hs_)
    go_ret
    exact ⟨_,rfl,HOS_.out,HBS_.out⟩
   rw [if_pos c7] at H
   have c7b0 : decide ((wrap64 (x6_1 + 1)) < (l1.length : Int)) = true:=decide_eq_true c7
   clear c7
   by_cases c8 : 0 ≤ x6_1
   rotate_left
   ·rw [if_neg c8] at H
    exact absurd H (by simp)
   rw [if_pos c8] at H
   have c8b0 : decide (0 ≤ x6_1) = true:=decide_eq_true c8
   clear c8
   by_cases c9 : x6_1 < (l1.length : Int)
   rotate_left
   ·rw [if_neg c9] at H
    exact absurd H (by simp)
   rw [if_pos c9] at H
   have c9b0 : decide (x6_1 < (l1.length : Int)) = true:=decide_eq_true c9
   clear c9
   obtain ⟨ji10,hji10⟩ : ∃ j_ : Int,(wrap64 (x6_1 + 1)) = j_:=⟨_,rfl⟩
   replace H : (if 0 ≤ (ji10) then ((slices_Concat_int_int.f (([(rd_T101 l1 x6_1).f1,(rd_T101 l1 (ji10)).f1] : List (List Int)))).bind fun t310 => (if x5_1.length < 4398046511104 then (impl_nextCoins.l0 k1 l1 (x5_1 ++ [(⟨wrap64 (((rd_T101 l1 x6_1).f0) + ((rd_T101 l1 (ji10)).f0)),t310⟩ : S101)]) (wrap64 (x6_1 + 2))) else (none))) else (none)) = some r:=by first|(rw [hji10] at H;exact H)|(simp only [hji10] at H ⊢;exact H)
   (try rw [hji10] at c7b0)
   have hji10w : (IntKind.i64.wrap (x6_1 + 1)) = ji10:=(i64_w _).trans hji10
   by_cases c11 : 0 ≤ (ji10)
   rotate_left
   ·rw [if_neg c11] at H
    exact absurd H (by simp)
   rw [if_pos c11] at H
   have c11b0 : decide (0 ≤ (ji10)) = true:=decide_eq_true c11
   clear c11
   obtain ⟨y307,hy307⟩ : ∃ y_ : List (List Int),y_ = (([(rd_T101 l1 x6_1).f1,(rd_T101 l1 (ji10)).f1] : List (List Int))):=⟨_,rfl⟩
   replace H : ((slices_Concat_int_int.f y307).bind fun t310 => (if x5_1.length < 4398046511104 then (impl_nextCoins.l0 k1 l1 (x5_1 ++ [(⟨wrap64 (((rd_T101 l1 x6_1).f0) + ((rd_T101 l1 (ji10)).f0)),t310⟩ : S101)]) (wrap64 (x6_1 + 2))) else (none))) = some r:=by first|(rw [hy307];with_reducible exact H)|(have H2_:=(Option.bind_some _ _).symm.trans H;rw [hy307];with_reducible exact H2_)|(have H2_:=(Option.bind_some _ _).symm.trans H;with_reducible exact H2_)|with_reducible exact H|(rw [hy307];exact H)|exact H
   have Ny307:=Aside0.mk hy307
   clear hy307
   replace H:=Option.bind_eq_some_iff.mp H
   obtain ⟨t310,A120,H⟩:=H
   replace H : (if x5_1.length < 4398046511104 then (impl_nextCoins.l0 k1 l1 (x5_1 ++ [(⟨wrap64 (((rd_T101 l1 x6_1).f0) + ((rd_T101 l1 (ji10)).f0)),t310⟩ : S101)]) (wrap64 (x6_1 + 2))) else (none)) = some r:=H
   have A12:=Aside0.mk A120
   clear A120
   by_cases c13 : x5_1.length < 4398046511104
   rotate_left
   ·rw [if_neg c13] at H
    exact absurd H (by simp)
   rw [if_pos c13] at H
   have LMc13:=Aside0.mk c13
   clear c13
   obtain ⟨y313,hy313⟩ : ∃ y_ : List (S101),y_ = (x5_1 ++ [(⟨wrap64 (((rd_T101 l1 x6_1).f0) + ((rd_T101 l1 (ji10)).f0)),t310⟩ : S101)]):=⟨_,rfl⟩
   replace H : (impl_nextCoins.l0 k1 l1 y313 (wrap64 (x6_1 + 2))) = some r:=by first|(rw [hy313];with_reducible exact H)|(have H2_:=(Option.bind_some _ _).symm.trans H;rw [hy313];with_reducible exact H2_)|(have H2_:=(Option.bind_some _ _).symm.trans H;with_reducible exact H2_)|with_reducible exact H|(rw [hy313];exact H)|exact H
   have Ny313:=Aside0.mk hy313
   clear hy313
   have H':=Aside0.mk H
   clear H
   try go_wp2
   have n0_:=Aside0.mk (Kd.V_drew HO_1.out)
   have n1_:=Aside0.mk (Kd.N_drew HO_5.out)
   have n2_:=Aside0.mk (below_drew1 HB.out)
   clear HO_1
   clear HO_5
   clear HB
   have HO_1:=n0_
   have HO_5:=n1_
   have HB:=n2_
   clear n0_ n1_ n2_
   have p303 : 0 ≤ (x6_1 : Int):=of_decide_eq_true (by assumption)
   have q303 : x6_1 < (l1.length : Int):=of_decide_eq_true (by assumption)
   obtain ⟨ad303,A303_1,c303_1,e303,hx303_0,hx303_1,hl303_1,hi303_1⟩:=at_T101 (Kd.V_reads' HO_1.out).2.2 x6_1 p303 q303
   cases e303
   obtain ⟨ce303,hce303,hMe303,hcc303⟩:=Kd.V_get HO_1.out z101 x6_1 p303 (by first|exact q303|exact of_decide_eq_true (by assumption)|(have e_:=(Kd.V_reads' HO_1.out).1;omega))
   obtain ⟨ua303_1,uc303_1,rfl,ul303_1,ge303_1⟩:=k101_openF hMe303
   have hv303_1:=hcc303 1 _ rfl
   rw [add_field _ _ 1 (by omega)] at hv303_1
   replace hv303_1:=Option.some.inj (hv303_1.symm.trans hx303_1)
   injection hv303_1 with hva_ hvn_ hvc_
   rw [hva_] at ge303_1
   rw [hvc_] at ul303_1
   have HL303_1:=Aside0.mk (show Kd.V (Kd.int .i64) 3 _ w.heap.size _ _ ((rd_T101 l1 x6_1).f1) from Kd.V_mk ul303_1 ge303_1)
   clear hva_ hvn_ hvc_ ge303_1 ul303_1
   clear hcc303 hce303
   have HR303_1:=Aside0.mk hi303_1
   have HC303_1:=Aside0.mk hl303_1
   clear hi303_1 hl303_1
   replace p303:=eq_true p303
   replace q303:=eq_true q303
   have p304 : 0 ≤ ((ji10) : Int):=of_decide_eq_true (by assumption)
   have q304 : (ji10) < (l1.length : Int):=of_decide_eq_true (by assumption)
   obtain ⟨ad304,A304_1,c304_1,e304,hx304_0,hx304_1,hl304_1,hi304_1⟩:=at_T101 (Kd.V_reads' HO_1.out).2.2 (ji10) p304 q304
   obtain rfl : ad303 = ad304:=(by injection e304)
   obtain ⟨ce304,hce304,hMe304,hcc304⟩:=Kd.V_get HO_1.out z101 (ji10) p304 (by first|exact q304|exact of_decide_eq_true (by assumption)|(have e_:=(Kd.V_reads' HO_1.out).1;omega))
   obtain ⟨ua304_1,uc304_1,rfl,ul304_1,ge304_1⟩:=k101_openF hMe304
   have hv304_1:=hcc304 1 _ rfl
   rw [add_field _ _ 1 (by omega)] at hv304_1
   replace hv304_1:=Option.some.inj (hv304_1.symm.trans hx304_1)
   injection hv304_1 with hva_ hvn_ hvc_
   rw [hva_] at ge304_1
   rw [hvc_] at ul304_1
   have HL304_1:=Aside0.mk (show Kd.V (Kd.int .i64) 3 _ w.heap.size _ _ ((rd_T101 l1 (ji10)).f1) from Kd.V_mk ul304_1 ge304_1)
   clear hva_ hvn_ hvc_ ge304_1 ul304_1
   clear hcc304 hce304
   have HR304_1:=Aside0.mk hi304_1
   have HC304_1:=Aside0.mk hl304_1
   clear hi304_1 hl304_1
   replace p304:=eq_true p304
   replace q304:=eq_true q304
   refine start_ (n:=13) (S:=fun w' => w'.cell? (ad303.add ((x6_1).toNat * 2)) = some (.int .i64 ((rd_T101 l1 x6_1).f0))∧w'.cell? ⟨(ad303.add ((x6_1).toNat * 2)).block,(ad303.add ((x6_1).toNat * 2)).off + 1,none⟩ = some (.slice A303_1 ((rd_T101 l1 x6_1).f1).length c303_1)∧w'.cell? (ad303.add (((ji10)).toNat * 2)) = some (.int .i64 ((rd_T101 l1 (ji10)).f0))∧w'.cell? ⟨(ad303.add (((ji10)).toNat * 2)).block,(ad303.add (((ji10)).toNat * 2)).off + 1,none⟩ = some (.slice A304_1 ((rd_T101 l1 (ji10)).f1).length c304_1)) (ds:=[]) #[Z,Z,Z,Z,Z,Z,Z,Z,Z,Z,Z,Z,Z] (by kernel_rfl) rfl rfl ⟨hx303_0,hx303_1,hx304_0,hx304_1⟩ (fun hHeld => ?_);refine with_tabW impl_nextCoins.tab5 impl_nextCoins.bits5 (fun HT_ HW_ => ?_)
   generalize wr.drew = w14 at HO_1 HO_5 HB HL303_1 HL304_1 HR303_1 HR304_1 hx303_0 hx303_1 hx304_0 hx304_1 hHeld ⊢
   refine pure_ (i:=0) (N:=some 19) (v:=?_) (a':=?_) #[Y,Z,Z,Z,Z,Z,Z,Z,Z,Z,Z,Z,Z] rfl rfl (any_of HT_.out (by kernel_rfl)) (fun _ _ _ h => h) (Or.inl ⟨by rfl,?_⟩) ?_ ?_
   rotate_left
   ·intro w'
    go_simp
    with_reducible rfl
   rotate_left
   ·simp only [sPu,sIa,sCz,sCs,i64_w,i32_w]
    rfl
   refine pure_ (i:=1) (N:=some 20) (v:=?_) (a':=?_) #[Y,Y,Z,Z,Z,Z,Z,Z,Z,Z,Z,Z,Z] rfl rfl (any_of HT_.out (by kernel_rfl)) (fun _ _ _ h => h) (Or.inl ⟨by rfl,?_⟩) ?_ ?_
   rotate_left
   ·intro w'
    go_simp
    with_reducible rfl
   rotate_left
   ·simp only [sPu,sIa,sCz,sCs,i64_w,i32_w]
    rfl
   refine pure_ (i:=2) (N:=some 21) (v:=?_) (a':=?_) #[Y,Y,Y,Z,Z,Z,Z,Z,Z,Z,Z,Z,Z] rfl rfl (any_of HT_.out (by kernel_rfl)) (fun _ _ _ h => h) (Or.inl ⟨by rfl,?_⟩) ?_ ?_
   rotate_left
   ·intro w'
    go_simp
    with_reducible rfl
   rotate_left
   ·simp only [sPu,sIa,sCz,sCs,i64_w,i32_w]
    rfl
   refine pure_ (i:=4) (N:=some 23) (v:=?_) (a':=?_) #[Y,Y,Y,Z,Y,Z,Z,Z,Z,Z,Z,Z,Z] rfl rfl (any_of HT_.out (by kernel_rfl)) (fun _ _ _ h => h) (Or.inl ⟨by rfl,?_⟩) ?_ ?_
   rotate_left
   ·intro w'
    go_simp
    with_reducible rfl
   rotate_left
   ·simp only [sPu,sIa,sCz,sCs,i64_w,i32_w]
    rfl
   refine pure_ (i:=5) (N:=some 24) (v:=?_) (a':=?_) #[Y,Y,Y,Z,Y,Y,Z,Z,Z,Z,Z,Z,Z] rfl rfl (any_of HT_.out (by kernel_rfl)) (fun _ _ _ h => h) (Or.inl ⟨by rfl,?_⟩) ?_ ?_
   rotate_left
   ·intro w'
    go_simp
    with_reducible rfl
   rotate_left
   ·simp only [sPu,sIa,sCz,sCs,i64_w,i32_w]
    rfl
   refine pure_ (i:=6) (N:=some 25) (v:=?_) (a':=?_) #[Y,Y,Y,Z,Y,Y,Y,Z,Z,Z,Z,Z,Z] rfl rfl (any_of HT_.out (by kernel_rfl)) (fun _ _ _ h => h) (Or.inl ⟨by rfl,?_⟩) ?_ ?_
   rotate_left
   ·intro w'
    go_simp
    with_reducible rfl
   rotate_left
   ·simp only [sPu,sIa,sCz,sCs,i64_w,i32_w]
    rfl
   refine pure_ (i:=7) (N:=some 26) (v:=?_) (a':=?_) #[Y,Y,Y,Z,Y,Y,Y,Y,Z,Z,Z,Z,Z] rfl rfl (any_of HT_.out (by kernel_rfl)) (fun _ _ _ h => h) (Or.inl ⟨by rfl,?_⟩) ?_ ?_
   rotate_left
   ·intro w'
    go_simp
    with_reducible rfl
   rotate_left
   ·simp only [sPu,sIa,sCz,sCs,i64_w,i32_w]
    rfl
   refine take_ (i:=3) (N:=some 22) (v:=?_) (a':=?_) #[Y,Y,Y,Y,Y,Y,Y,Y,Z,Z,Z,Z,Z] rfl rfl (take_ofW HT_.out HW_.out (by kernel_rfl)) (fun _ _ _ h => h) (Or.inl ⟨by rfl,?_⟩) hHeld ?_ ?_
   rotate_left
   ·rintro w' ⟨s0,s1,s2,s3⟩
    go_simp
    with_reducible rfl
   rotate_left
   ·simp only [sPu,sIa,sCz,sCs,i64_w,i32_w]
    rfl
   refine take_ (i:=8) (N:=some 27) (v:=?_) (a':=?_) #[Y,Y,Y,Y,Y,Y,Y,Y,Y,Z,Z,Z,Z] rfl rfl (take_ofW HT_.out HW_.out (by kernel_rfl)) (fun _ _ _ h => h) (Or.inl ⟨by rfl,?_⟩) hHeld ?_ ?_
   rotate_left
   ·rintro w' ⟨s0,s1,s2,s3⟩
    go_simp
    with_reducible rfl
   rotate_left
   ·simp only [sPu,sIa,sCz,sCs,i64_w,i32_w]
    rfl
   refine join_ (σ:=Nat × Nat) 2 #[Y,Y,Y,Y,Y,Y,Y,Y,Y,Y,Y,Z,Z] (fun s_ => [(7,.pointer (some ⟨s_.1,0,none⟩)),(8,.pointer (some ⟨s_.2,0,none⟩))]) (fun s_ w' => (w'.cell? (ad303.add ((x6_1).toNat * 2)) = some (.int .i64 ((rd_T101 l1 x6_1).f0))∧w'.cell? ⟨(ad303.add ((x6_1).toNat * 2)).block,(ad303.add ((x6_1).toNat * 2)).off + 1,none⟩ = some (.slice A303_1 ((rd_T101 l1 x6_1).f1).length c303_1)∧w'.cell? (ad303.add (((ji10)).toNat * 2)) = some (.int .i64 ((rd_T101 l1 (ji10)).f0))∧w'.cell? ⟨(ad303.add (((ji10)).toNat * 2)).block,(ad303.add (((ji10)).toNat * 2)).off + 1,none⟩ = some (.slice A304_1 ((rd_T101 l1 (ji10)).f1).length c304_1))∧(Kd.V (Kd.int .i64) 3 w' w.heap.size (fun k_ => ((P0_ k_ ∨ P1_ k_) ∨ w.heap.size ≤ k_)∧some k_ ≠ (u5 : Value).ownBlock∧k_ ≠ s_.1∧k_ ≠ s_.2) (.slice A303_1 ((rd_T101 l1 x6_1).f1).length c303_1) ((rd_T101 l1 x6_1).f1))∧(Kd.V (Kd.int .i64) 3 w' w.heap.size (fun k_ => ((P0_ k_ ∨ P1_ k_) ∨ w.heap.size ≤ k_)∧some k_ ≠ (u5 : Value).ownBlock∧k_ ≠ s_.1∧k_ ≠ s_.2) (.slice A304_1 ((rd_T101 l1 (ji10)).f1).length c304_1) ((rd_T101 l1 (ji10)).f1))∧(Kd.V k101 101 w' w.heap.size (fun k_ => ((P0_ k_ ∨ P1_ k_) ∨ w.heap.size ≤ k_)∧some k_ ≠ (u5 : Value).ownBlock∧k_ ≠ s_.1∧k_ ≠ s_.2) (.slice (some ad303) l1.length c1) l1)∧(Kd.N k101 101 w' w.heap.size (fun k_ => ((P0_ k_ ∨ P1_ k_) ∨ w.heap.size ≤ k_)∧k_ ≠ s_.1∧k_ ≠ s_.2) u5 x5_1)∧(w'.heap[s_.1]? = some (.cells #[.int .i64 0,.slice none 0 0] 101 (0,0)))∧(w'.heap[s_.2]? = some (.cells #[.int .i64 0,.slice none 0 0] 101 (0,0)))∧(w.heap.size ≤ s_.1)∧(w.heap.size ≤ s_.1)∧(s_.2 ≠ s_.1)∧(s_.1 ≠ s_.2)∧(w.heap.size ≤ s_.2)∧(w.heap.size ≤ s_.2)∧(Below w.heap.size w w')) ?_ ?_
   rotate_left
   ·intro hCont
    refine two_ (i:=9) (j:=10) (Ni:=some 7) (Nj:=some 8) #[Y,Y,Y,Y,Y,Y,Y,Y,Y,Y,Z,Z,Z] #[Y,Y,Y,Y,Y,Y,Y,Y,Y,Z,Y,Z,Z] rfl rfl rfl rfl (two_of HT_.out (by kernel_rfl)) (by decide) (by decide) (fun K hK => ?_) (fun K hK => ?_)
    ·skip
     refine box_step ?hg (N:=7) ?hd (cs:=#[.int .i64 0,.slice none 0 0]) (t:=101) ?hr ?_;(case hd => rfl);(case hg => rfl);(case hr => first|(go_simp;done)|(go_simp;rfl))
     intro gb305 hg w15 hbox hb
     have HS0_:=(hb.cell (World.block_lt_of_cell? _ _ (hHeld.1))).trans (hHeld.1)
     have HS1_:=(hb.cell (World.block_lt_of_cell? _ _ (hHeld.2.1))).trans (hHeld.2.1)
     have HS2_:=(hb.cell (World.block_lt_of_cell? _ _ (hHeld.2.2.1))).trans (hHeld.2.2.1)
     have HS3_:=(hb.cell (World.block_lt_of_cell? _ _ (hHeld.2.2.2))).trans (hHeld.2.2.2)
     have n0_:=Aside0.mk (Kd.V_below (Kd.V_elderB (by (with_reducible repeat (first|apply Kd.V_alloc|apply Kd.V_drewN|apply Kd.V_drew));exact HO_1.out) gb305 (Nat.le_of_eq hg.symm)) hb)
     have n1_:=Aside0.mk (Kd.N_below (Kd.N_elderB (by (with_reducible repeat (first|apply Kd.N_alloc|apply Kd.N_drewN|apply Kd.N_drew));exact HO_5.out) gb305 (Nat.le_of_eq hg.symm)) hb)
     have n2_:=Aside0.mk (Kd.V_below (Kd.V_elderB (by (with_reducible repeat (first|apply Kd.V_alloc|apply Kd.V_drewN|apply Kd.V_drew));exact HL303_1.out) gb305 (Nat.le_of_eq hg.symm)) hb)
     have n3_:=Aside0.mk (Kd.V_below (Kd.V_elderB (by (with_reducible repeat (first|apply Kd.V_alloc|apply Kd.V_drewN|apply Kd.V_drew));exact HL304_1.out) gb305 (Nat.le_of_eq hg.symm)) hb)
     have n4_:=Aside0.mk (Kd.C_below (by repeat (first|(with_reducible exact HR303_1.out)|(with_reducible refine Kd.C_alloc ?_ _)|(with_reducible refine Kd.C_drewN ?_ _)|(with_reducible refine Kd.C_drew ?_)|exact HR303_1.out)) hb)
     have n5_:=Aside0.mk (Kd.C_below (by repeat (first|(with_reducible exact HR304_1.out)|(with_reducible refine Kd.C_alloc ?_ _)|(with_reducible refine Kd.C_drewN ?_ _)|(with_reducible refine Kd.C_drew ?_)|exact HR304_1.out)) hb)
     have n6_:=Aside0.mk (below_step (by repeat (first|(with_reducible first|exact HB.out|apply below_alloc|apply pw_below_drewN|apply below_drew1)|exact HB.out)) hb)
     have n7_:=Aside0.mk (hbox)
     have n8_:=Aside0.mk ((by rw [hg];exact (below_size (by repeat (first|(with_reducible first|exact HB.out|apply below_alloc|apply pw_below_drewN|apply below_drew1)|exact HB.out))) : w.heap.size ≤ gb305))
     have n9_:=Aside0.mk ((by rw [hg];exact (below_size (by repeat (first|(with_reducible first|exact HB.out|apply below_alloc|apply pw_below_drewN|apply below_drew1)|exact HB.out))) : w.heap.size ≤ gb305))
     clear HO_1
     clear HO_5
     clear HL303_1
     clear HL304_1
     clear HR303_1
     clear HR304_1
     clear HB
     have HO_1:=n0_
     have HO_5:=n1_
     have HL303_1:=n2_
     have HL304_1:=n3_
     have HR303_1:=n4_
     have HR304_1:=n5_
     have HB:=n6_
     have BK305:=n7_
     have GW305:=n8_
     have GE305:=n9_
     clear n0_ n1_ n2_ n3_ n4_ n5_ n6_ n7_ n8_ n9_
     clear hb hbox hg
     refine hK.out _ _ ⟨HS0_,HS1_,HS2_,HS3_⟩ (fun hHeld => ?_)
     clear hK K
     refine norm_ (a':=?_) ?_ ?_
     rotate_left
     ·show Act.put _ (some 7) _ = _
      simp only [sPu,sIa,sCz,sCs,i64_w,i32_w]
      rfl
     refine one_ (i:=10) (N:=some 8) #[Y,Y,Y,Y,Y,Y,Y,Y,Y,Y,Y,Z,Z] rfl rfl (one_of HT_.out (by kernel_rfl)) (by decide) (fun K hK => ?_)
     refine box_step ?hg (N:=8) ?hd (cs:=#[.int .i64 0,.slice none 0 0]) (t:=101) ?hr ?_;(case hd => rfl);(case hg => rfl);(case hr => first|(go_simp;done)|(go_simp;rfl))
     intro gb306 hg w16 hbox hb
     have HS0_:=(hb.cell (World.block_lt_of_cell? _ _ (hHeld.1))).trans (hHeld.1)
     have HS1_:=(hb.cell (World.block_lt_of_cell? _ _ (hHeld.2.1))).trans (hHeld.2.1)
     have HS2_:=(hb.cell (World.block_lt_of_cell? _ _ (hHeld.2.2.1))).trans (hHeld.2.2.1)
     have HS3_:=(hb.cell (World.block_lt_of_cell? _ _ (hHeld.2.2.2))).trans (hHeld.2.2.2)
     have n0_:=Aside0.mk (Kd.V_below (Kd.V_elderB (by (with_reducible repeat (first|apply Kd.V_alloc|apply Kd.V_drewN|apply Kd.V_drew));exact HO_1.out) gb306 (Nat.le_of_eq hg.symm)) hb)
     have n1_:=Aside0.mk (Kd.N_below (Kd.N_elderB (by (with_reducible repeat (first|apply Kd.N_alloc|apply Kd.N_drewN|apply Kd.N_drew));exact HO_5.out) gb306 (Nat.le_of_eq hg.symm)) hb)
     have n2_:=Aside0.mk (Kd.V_below (Kd.V_elderB (by (with_reducible repeat (first|apply Kd.V_alloc|apply Kd.V_drewN|apply Kd.V_drew));exact HL303_1.out) gb306 (Nat.le_of_eq hg.symm)) hb)
     have n3_:=Aside0.mk (Kd.V_below (Kd.V_elderB (by (with_reducible repeat (first|apply Kd.V_alloc|apply Kd.V_drewN|apply Kd.V_drew));exact HL304_1.out) gb306 (Nat.le_of_eq hg.symm)) hb)
     have n4_:=Aside0.mk (Kd.C_below (by repeat (first|(with_reducible exact HR303_1.out)|(with_reducible refine Kd.C_alloc ?_ _)|(with_reducible refine Kd.C_drewN ?_ _)|(with_reducible refine Kd.C_drew ?_)|exact HR303_1.out)) hb)
     have n5_:=Aside0.mk (Kd.C_below (by repeat (first|(with_reducible exact HR304_1.out)|(with_reducible refine Kd.C_alloc ?_ _)|(with_reducible refine Kd.C_drewN ?_ _)|(with_reducible refine Kd.C_drew ?_)|exact HR304_1.out)) hb)
     have n6_:=Aside0.mk (blk_below (g:=gb305) (o:=.cells #[.int .i64 0,.slice none 0 0] 101 (0,0)) (by (with_reducible repeat (first|refine blk_drewN ?_ _|refine blk_drew ?_|refine blk_alloc ?_ _));exact BK305.out) hb)
     have n7_:=Aside0.mk (below_step (by repeat (first|(with_reducible first|exact HB.out|apply below_alloc|apply pw_below_drewN|apply below_drew1|refine below_set ?_ GE305.out)|exact HB.out)) hb)
     have n8_:=Aside0.mk (hbox)
     have n9_:=Aside0.mk ((by rw [hg];exact (below_size (by repeat (first|(with_reducible first|exact HB.out|apply below_alloc|apply pw_below_drewN|apply below_drew1|refine below_set ?_ GE305.out)|exact HB.out))) : w.heap.size ≤ gb306))
     have n10_:=Aside0.mk ((by rw [hg];exact (below_size (by repeat (first|(with_reducible first|exact HB.out|apply below_alloc|apply pw_below_drewN|apply below_drew1|refine below_set ?_ GE305.out)|exact HB.out))) : w.heap.size ≤ gb306))
     have n11_:=Aside0.mk ((by rw [hg];exact Nat.ne_of_lt (blk_lt (g:=gb305) (o:=.cells #[.int .i64 0,.slice none 0 0] 101 (0,0)) (by (with_reducible repeat (first|refine blk_drewN ?_ _|refine blk_drew ?_|refine blk_alloc ?_ _));exact BK305.out)) : gb305 ≠ gb306))
     have n12_:=Aside0.mk ((by rw [hg];exact Nat.ne_of_gt (blk_lt (g:=gb305) (o:=.cells #[.int .i64 0,.slice none 0 0] 101 (0,0)) (by (with_reducible repeat (first|refine blk_drewN ?_ _|refine blk_drew ?_|refine blk_alloc ?_ _));exact BK305.out)) : gb306 ≠ gb305))
     clear HO_1
     clear HO_5
     clear HL303_1
     clear HL304_1
     clear HR303_1
     clear HR304_1
     clear BK305
     clear HB
     have HO_1:=n0_
     have HO_5:=n1_
     have HL303_1:=n2_
     have HL304_1:=n3_
     have HR303_1:=n4_
     have HR304_1:=n5_
     have BK305:=n6_
     have HB:=n7_
     have BK306:=n8_
     have GW306:=n9_
     have GE306:=n10_
     have NB305_306:=n11_
     have NB306_305:=n12_
     clear n0_ n1_ n2_ n3_ n4_ n5_ n6_ n7_ n8_ n9_ n10_ n11_ n12_
     clear hb hbox hg
     refine hK.out _ _ ⟨HS0_,HS1_,HS2_,HS3_⟩ (fun hHeld => ?_)
     clear hK K
     refine norm_ (a':=?_) ?_ ?_
     rotate_left
     ·show Act.put _ (some 8) _ = _
      simp only [sPu,sIa,sCz,sCs,i64_w,i32_w]
      rfl
     exact norm_ (by simp only [putAll,Act.put,List.setIfInBounds_toArray,List.set_cons_zero,List.set_cons_succ]) (hCont (gb305,gb306) _ ⟨hHeld,(by (with_reducible repeat (first|apply Kd.V_alloc|apply Kd.V_drewN|apply Kd.V_drew));exact Kd.V_mono HL303_1.out (fun _ hk => ⟨hk.1.1.1,⟨hk.1.1.2,⟨hk.1.2,hk.2⟩⟩⟩)),(by (with_reducible repeat (first|apply Kd.V_alloc|apply Kd.V_drewN|apply Kd.V_drew));exact Kd.V_mono HL304_1.out (fun _ hk => ⟨hk.1.1.1,⟨hk.1.1.2,⟨hk.1.2,hk.2⟩⟩⟩)),(by (with_reducible repeat (first|apply Kd.V_alloc|apply Kd.V_drewN|apply Kd.V_drew));exact Kd.V_mono HO_1.out (fun _ hk => ⟨hk.1.1.1,⟨hk.1.1.2,⟨hk.1.2,hk.2⟩⟩⟩)),(by (with_reducible repeat (first|apply Kd.N_alloc|apply Kd.N_drewN|apply Kd.N_drew));exact Kd.N_mono HO_5.out (fun _ hk => ⟨hk.1.1,⟨hk.1.2,hk.2⟩⟩)),(by (with_reducible repeat (first|refine blk_drewN ?_ _|refine blk_drew ?_|refine blk_alloc ?_ _));exact BK305.out),(by (with_reducible repeat (first|refine blk_drewN ?_ _|refine blk_drew ?_|refine blk_alloc ?_ _));exact BK306.out),GW305.out,GE305.out,NB306_305.out,NB305_306.out,GW306.out,GE306.out,(by repeat (first|(with_reducible first|exact HB.out|apply below_alloc|apply pw_below_drewN|apply below_drew1|refine below_set ?_ GE305.out|refine below_set ?_ GE306.out)|exact HB.out))⟩)
    skip
    refine box_step ?hg (N:=8) ?hd (cs:=#[.int .i64 0,.slice none 0 0]) (t:=101) ?hr ?_;(case hd => rfl);(case hg => rfl);(case hr => first|(go_simp;done)|(go_simp;rfl))
    intro gb306 hg w15 hbox hb
    have HS0_:=(hb.cell (World.block_lt_of_cell? _ _ (hHeld.1))).trans (hHeld.1)
    have HS1_:=(hb.cell (World.block_lt_of_cell? _ _ (hHeld.2.1))).trans (hHeld.2.1)
    have HS2_:=(hb.cell (World.block_lt_of_cell? _ _ (hHeld.2.2.1))).trans (hHeld.2.2.1)
    have HS3_:=(hb.cell (World.block_lt_of_cell? _ _ (hHeld.2.2.2))).trans (hHeld.2.2.2)
    have n0_:=Aside0.mk (Kd.V_below (Kd.V_elderB (by (with_reducible repeat (first|apply Kd.V_alloc|apply Kd.V_drewN|apply Kd.V_drew));exact HO_1.out) gb306 (Nat.le_of_eq hg.symm)) hb)
    have n1_:=Aside0.mk (Kd.N_below (Kd.N_elderB (by (with_reducible repeat (first|apply Kd.N_alloc|apply Kd.N_drewN|apply Kd.N_drew));exact HO_5.out) gb306 (Nat.le_of_eq hg.symm)) hb)
    have n2_:=Aside0.mk (Kd.V_below (Kd.V_elderB (by (with_reducible repeat (first|apply Kd.V_alloc|apply Kd.V_drewN|apply Kd.V_drew));exact HL303_1.out) gb306 (Nat.le_of_eq hg.symm)) hb)
    have n3_:=Aside0.mk (Kd.V_below (Kd.V_elderB (by (with_reducible repeat (first|apply Kd.V_alloc|apply Kd.V_drewN|apply Kd.V_drew));exact HL304_1.out) gb306 (Nat.le_of_eq hg.symm)) hb)
    have n4_:=Aside0.mk (Kd.C_below (by repeat (first|(with_reducible exact HR303_1.out)|(with_reducible refine Kd.C_alloc ?_ _)|(with_reducible refine Kd.C_drewN ?_ _)|(with_reducible refine Kd.C_drew ?_)|exact HR303_1.out)) hb)
    have n5_:=Aside0.mk (Kd.C_below (by repeat (first|(with_reducible exact HR304_1.out)|(with_reducible refine Kd.C_alloc ?_ _)|(with_reducible refine Kd.C_drewN ?_ _)|(with_reducible refine Kd.C_drew ?_)|exact HR304_1.out)) hb)
    have n6_:=Aside0.mk (below_step (by repeat (first|(with_reducible first|exact HB.out|apply below_alloc|apply pw_below_drewN|apply below_drew1)|exact HB.out)) hb)
    have n7_:=Aside0.mk (hbox)
    have n8_:=Aside0.mk ((by rw [hg];exact (below_size (by repeat (first|(with_reducible first|exact HB.out|apply below_alloc|apply pw_below_drewN|apply below_drew1)|exact HB.out))) : w.heap.size ≤ gb306))
    have n9_:=Aside0.mk ((by rw [hg];exact (below_size (by repeat (first|(with_reducible first|exact HB.out|apply below_alloc|apply pw_below_drewN|apply below_drew1)|exact HB.out))) : w.heap.size ≤ gb306))
    clear HO_1
    clear HO_5
    clear HL303_1
    clear HL304_1
    clear HR303_1
    clear HR304_1
    clear HB
    have HO_1:=n0_
    have HO_5:=n1_
    have HL303_1:=n2_
    have HL304_1:=n3_
    have HR303_1:=n4_
    have HR304_1:=n5_
    have HB:=n6_
    have BK306:=n7_
    have GW306:=n8_
    have GE306:=n9_
    clear n0_ n1_ n2_ n3_ n4_ n5_ n6_ n7_ n8_ n9_
    clear hb hbox hg
    refine hK.out _ _ ⟨HS0_,HS1_,HS2_,HS3_⟩ (fun hHeld => ?_)
    clear hK K
    refine norm_ (a':=?_) ?_ ?_
    rotate_left
    ·show Act.put _ (some 8) _ = _
     simp only [sPu,sIa,sCz,sCs,i64_w,i32_w]
     rfl
    refine one_ (i:=9) (N:=some 7) #[Y,Y,Y,Y,Y,Y,Y,Y,Y,Y,Y,Z,Z] rfl rfl (one_of HT_.out (by kernel_rfl)) (by decide) (fun K hK => ?_)
    refine box_step ?hg (N:=7) ?hd (cs:=#[.int .i64 0,.slice none 0 0]) (t:=101) ?hr ?_;(case hd => rfl);(case hg => rfl);(case hr => first|(go_simp;done)|(go_simp;rfl))
    intro gb305 hg w16 hbox hb
    have HS0_:=(hb.cell (World.block_lt_of_cell? _ _ (hHeld.1))).trans (hHeld.1)
    have HS1_:=(hb.cell (World.block_lt_of_cell? _ _ (hHeld.2.1))).trans (hHeld.2.1)
    have HS2_:=(hb.cell (World.block_lt_of_cell? _ _ (hHeld.2.2.1))).trans (hHeld.2.2.1)
    have HS3_:=(hb.cell (World.block_lt_of_cell? _ _ (hHeld.2.2.2))).trans (hHeld.2.2.2)
    have n0_:=Aside0.mk (Kd.V_below (Kd.V_elderB (by (with_reducible repeat (first|apply Kd.V_alloc|apply Kd.V_drewN|apply Kd.V_drew));exact HO_1.out) gb305 (Nat.le_of_eq hg.symm)) hb)
    have n1_:=Aside0.mk (Kd.N_below (Kd.N_elderB (by (with_reducible repeat (first|apply Kd.N_alloc|apply Kd.N_drewN|apply Kd.N_drew));exact HO_5.out) gb305 (Nat.le_of_eq hg.symm)) hb)
    have n2_:=Aside0.mk (Kd.V_below (Kd.V_elderB (by (with_reducible repeat (first|apply Kd.V_alloc|apply Kd.V_drewN|apply Kd.V_drew));exact HL303_1.out) gb305 (Nat.le_of_eq hg.symm)) hb)
    have n3_:=Aside0.mk (Kd.V_below (Kd.V_elderB (by (with_reducible repeat (first|apply Kd.V_alloc|apply Kd.V_drewN|apply Kd.V_drew));exact HL304_1.out) gb305 (Nat.le_of_eq hg.symm)) hb)
    have n4_:=Aside0.mk (Kd.C_below (by repeat (first|(with_reducible exact HR303_1.out)|(with_reducible refine Kd.C_alloc ?_ _)|(with_reducible refine Kd.C_drewN ?_ _)|(with_reducible refine Kd.C_drew ?_)|exact HR303_1.out)) hb)
    have n5_:=Aside0.mk (Kd.C_below (by repeat (first|(with_reducible exact HR304_1.out)|(with_reducible refine Kd.C_alloc ?_ _)|(with_reducible refine Kd.C_drewN ?_ _)|(with_reducible refine Kd.C_drew ?_)|exact HR304_1.out)) hb)
    have n6_:=Aside0.mk (blk_below (g:=gb306) (o:=.cells #[.int .i64 0,.slice none 0 0] 101 (0,0)) (by (with_reducible repeat (first|refine blk_drewN ?_ _|refine blk_drew ?_|refine blk_alloc ?_ _));exact BK306.out) hb)
    have n7_:=Aside0.mk (below_step (by repeat (first|(with_reducible first|exact HB.out|apply below_alloc|apply pw_below_drewN|apply below_drew1|refine below_set ?_ GE306.out)|exact HB.out)) hb)
    have n8_:=Aside0.mk (hbox)
    have n9_:=Aside0.mk ((by rw [hg];exact (below_size (by repeat (first|(with_reducible first|exact HB.out|apply below_alloc|apply pw_below_drewN|apply below_drew1|refine below_set ?_ GE306.out)|exact HB.out))) : w.heap.size ≤ gb305))
    have n10_:=Aside0.mk ((by rw [hg];exact (below_size (by repeat (first|(with_reducible first|exact HB.out|apply below_alloc|apply pw_below_drewN|apply below_drew1|refine below_set ?_ GE306.out)|exact HB.out))) : w.heap.size ≤ gb305))
    have n11_:=Aside0.mk ((by rw [hg];exact Nat.ne_of_lt (blk_lt (g:=gb306) (o:=.cells #[.int .i64 0,.slice none 0 0] 101 (0,0)) (by (with_reducible repeat (first|refine blk_drewN ?_ _|refine blk_drew ?_|refine blk_alloc ?_ _));exact BK306.out)) : gb306 ≠ gb305))
    have n12_:=Aside0.mk ((by rw [hg];exact Nat.ne_of_gt (blk_lt (g:=gb306) (o:=.cells #[.int .i64 0,.slice none 0 0] 101 (0,0)) (by (with_reducible repeat (first|refine blk_drewN ?_ _|refine blk_drew ?_|refine blk_alloc ?_ _));exact BK306.out)) : gb305 ≠ gb306))
    clear HO_1
    clear HO_5
    clear HL303_1
    clear HL304_1
    clear HR303_1
    clear HR304_1
    clear BK306
    clear HB
    have HO_1:=n0_
    have HO_5:=n1_
    have HL303_1:=n2_
    have HL304_1:=n3_
    have HR303_1:=n4_
    have HR304_1:=n5_
    have BK306:=n6_
    have HB:=n7_
    have BK305:=n8_
    have GW305:=n9_
    have GE305:=n10_
    have NB306_305:=n11_
    have NB305_306:=n12_
    clear n0_ n1_ n2_ n3_ n4_ n5_ n6_ n7_ n8_ n9_ n10_ n11_ n12_
    clear hb hbox hg
    refine hK.out _ _ ⟨HS0_,HS1_,HS2_,HS3_⟩ (fun hHeld => ?_)
    clear hK K
    refine norm_ (a':=?_) ?_ ?_
    rotate_left
    ·show Act.put _ (some 7) _ = _
     simp only [sPu,sIa,sCz,sCs,i64_w,i32_w]
     rfl
    exact norm_ (by simp only [putAll,Act.put,List.setIfInBounds_toArray,List.set_cons_zero,List.set_cons_succ]) (hCont (gb305,gb306) _ ⟨hHeld,(by (with_reducible repeat (first|apply Kd.V_alloc|apply Kd.V_drewN|apply Kd.V_drew));exact Kd.V_mono HL303_1.out (fun _ hk => ⟨hk.1.1.1,⟨hk.1.1.2,⟨hk.2,hk.1.2⟩⟩⟩)),(by (with_reducible repeat (first|apply Kd.V_alloc|apply Kd.V_drewN|apply Kd.V_drew));exact Kd.V_mono HL304_1.out (fun _ hk => ⟨hk.1.1.1,⟨hk.1.1.2,⟨hk.2,hk.1.2⟩⟩⟩)),(by (with_reducible repeat (first|apply Kd.V_alloc|apply Kd.V_drewN|apply Kd.V_drew));exact Kd.V_mono HO_1.out (fun _ hk => ⟨hk.1.1.1,⟨hk.1.1.2,⟨hk.2,hk.1.2⟩⟩⟩)),(by (with_reducible repeat (first|apply Kd.N_alloc|apply Kd.N_drewN|apply Kd.N_drew));exact Kd.N_mono HO_5.out (fun _ hk => ⟨hk.1.1,⟨hk.2,hk.1.2⟩⟩)),(by (with_reducible repeat (first|refine blk_drewN ?_ _|refine blk_drew ?_|refine blk_alloc ?_ _));exact BK305.out),(by (with_reducible repeat (first|refine blk_drewN ?_ _|refine blk_drew ?_|refine blk_alloc ?_ _));exact BK306.out),GW305.out,GE305.out,NB306_305.out,NB305_306.out,GW306.out,GE306.out,(by repeat (first|(with_reducible first|exact HB.out|apply below_alloc|apply pw_below_drewN|apply below_drew1|refine below_set ?_ GE306.out|refine below_set ?_ GE305.out)|exact HB.out))⟩)
   rintro ⟨gb305,gb306⟩ w17 ⟨hS_,h0_,h1_,h2_,h3_,h4_,h5_,h6_,h7_,h8_,h9_,h10_,h11_,h12_⟩
   have n0_ : Aside0 (Kd.V (Kd.int .i64) 3 w17 w.heap.size (fun k_ => ((P0_ k_ ∨ P1_ k_) ∨ w.heap.size ≤ k_)∧some k_ ≠ (u5 : Value).ownBlock∧k_ ≠ gb305∧k_ ≠ gb306) (.slice A303_1 ((rd_T101 l1 x6_1).f1).length c303_1) ((rd_T101 l1 x6_1).f1)):=⟨h0_⟩
   have n1_ : Aside0 (Kd.V (Kd.int .i64) 3 w17 w.heap.size (fun k_ => ((P0_ k_ ∨ P1_ k_) ∨ w.heap.size ≤ k_)∧some k_ ≠ (u5 : Value).ownBlock∧k_ ≠ gb305∧k_ ≠ gb306) (.slice A304_1 ((rd_T101 l1 (ji10)).f1).length c304_1) ((rd_T101 l1 (ji10)).f1)):=⟨h1_⟩
   have n2_ : Aside0 (Kd.V k101 101 w17 w.heap.size (fun k_ => ((P0_ k_ ∨ P1_ k_) ∨ w.heap.size ≤ k_)∧some k_ ≠ (u5 : Value).ownBlock∧k_ ≠ gb305∧k_ ≠ gb306) (.slice (some ad303) l1.length c1) l1):=⟨h2_⟩
   have n3_ : Aside0 (Kd.N k101 101 w17 w.heap.size (fun k_ => ((P0_ k_ ∨ P1_ k_) ∨ w.heap.size ≤ k_)∧k_ ≠ gb305∧k_ ≠ gb306) u5 x5_1):=⟨h3_⟩
   have n4_ : Aside0 (w17.heap[gb305]? = some (.cells #[.int .i64 0,.slice none 0 0] 101 (0,0))):=⟨h4_⟩
   have n5_ : Aside0 (w17.heap[gb306]? = some (.cells #[.int .i64 0,.slice none 0 0] 101 (0,0))):=⟨h5_⟩
   have n6_ : Aside0 (w.heap.size ≤ gb305):=⟨h6_⟩
   have n7_ : Aside0 (w.heap.size ≤ gb305):=⟨h7_⟩
   have n8_ : Aside0 (gb306 ≠ gb305):=⟨h8_⟩
   have n9_ : Aside0 (gb305 ≠ gb306):=⟨h9_⟩
   have n10_ : Aside0 (w.heap.size ≤ gb306):=⟨h10_⟩
   have n11_ : Aside0 (w.heap.size ≤ gb306):=⟨h11_⟩
   have n12_ : Aside0 (Below w.heap.size w w17):=⟨h12_⟩
   clear HO_1
   clear HO_5
   clear HB
   clear h0_ h1_ h2_ h3_ h4_ h5_ h6_ h7_ h8_ h9_ h10_ h11_ h12_
   have HL303_1:=n0_
   have HL304_1:=n1_
   have HO_1:=n2_
   have HO_5:=n3_
   have BK305:=n4_
   have BK306:=n5_
   have GW305:=n6_
   have GE305:=n7_
   have NB306_305:=n8_
   have NB305_306:=n9_
   have GW306:=n10_
   have GE306:=n11_
   have HB:=n12_
   clear n0_ n1_ n2_ n3_ n4_ n5_ n6_ n7_ n8_ n9_ n10_ n11_ n12_
   have hHeld : w17.cell? (ad303.add ((x6_1).toNat * 2)) = some (.int .i64 ((rd_T101 l1 x6_1).f0))∧w17.cell? ⟨(ad303.add ((x6_1).toNat * 2)).block,(ad303.add ((x6_1).toNat * 2)).off + 1,none⟩ = some (.slice A303_1 ((rd_T101 l1 x6_1).f1).length c303_1)∧w17.cell? (ad303.add (((ji10)).toNat * 2)) = some (.int .i64 ((rd_T101 l1 (ji10)).f0))∧w17.cell? ⟨(ad303.add (((ji10)).toNat * 2)).block,(ad303.add (((ji10)).toNat * 2)).off + 1,none⟩ = some (.slice A304_1 ((rd_T101 l1 (ji10)).f1).length c304_1):=hS_
   refine norm_ (a':=?_) ?_ ?_
   rotate_left
   ·simp only [putAll,Act.put,List.setIfInBounds_toArray,List.set_cons_zero,List.set_cons_succ]
    rfl
   refine one_ (i:=11) (N:=none) #[Y,Y,Y,Y,Y,Y,Y,Y,Y,Y,Y,Y,Z] rfl rfl (one_of HT_.out (by kernel_rfl)) (by decide) (fun K hK => ?_)
   have hs18 : w17.cell? ⟨gb305,0,none⟩ = some (.int .i64 0):=(blk_cell BK305.out 0).trans rfl
   have hfs18:=blk_frozen BK305.out 0
   have hns18_1:=NB306_305.out
   have hms18_1:=NB305_306.out
   have hs19 : w17.cell? ⟨gb305,1,none⟩ = some (.slice none 0 0):=(blk_cell BK305.out 1).trans rfl
   have hfs19:=blk_frozen BK305.out 1
   have hns19_1:=NB306_305.out
   have hms19_1:=NB305_306.out
   refine skip_ (w1:=?_) (by rfl) rfl ?_ ?_
   rotate_left
   ·go_simp
    rfl
   refine hK.out _ _ ⟨((cell_far (p:=⟨gb305,_,none⟩) (by first|exact impl_nextCoins.V_blk HO_1.out (show 0 < 2 from by decide) z101 _ (of_eq_true p303) (of_eq_true q303) (fun _ hk => hk.2.2.1)|(rw [add_block];exact impl_nextCoins.V_blk HO_1.out (show 0 < 2 from by decide) z101 _ (of_eq_true p303) (of_eq_true q303) (fun _ hk => hk.2.2.1))|(show (Addr.add _ _).block ≠ _;rw [add_block];exact impl_nextCoins.V_blk HO_1.out (show 0 < 2 from by decide) z101 _ (of_eq_true p303) (of_eq_true q303) (fun _ hk => hk.2.2.1))|(dsimp only;exact impl_nextCoins.V_blk HO_1.out (show 0 < 2 from by decide) z101 _ (of_eq_true p303) (of_eq_true q303) (fun _ hk => hk.2.2.1))) _).trans (((cell_far (p:=⟨gb305,_,none⟩) (by first|exact impl_nextCoins.V_blk HO_1.out (show 0 < 2 from by decide) z101 _ (of_eq_true p303) (of_eq_true q303) (fun _ hk => hk.2.2.1)|(rw [add_block];exact impl_nextCoins.V_blk HO_1.out (show 0 < 2 from by decide) z101 _ (of_eq_true p303) (of_eq_true q303) (fun _ hk => hk.2.2.1))|(show (Addr.add _ _).block ≠ _;rw [add_block];exact impl_nextCoins.V_blk HO_1.out (show 0 < 2 from by decide) z101 _ (of_eq_true p303) (of_eq_true q303) (fun _ hk => hk.2.2.1))|(dsimp only;exact impl_nextCoins.V_blk HO_1.out (show 0 < 2 from by decide) z101 _ (of_eq_true p303) (of_eq_true q303) (fun _ hk => hk.2.2.1))) _).trans (hHeld.1)))),((cell_far (p:=⟨gb305,_,none⟩) (by first|exact impl_nextCoins.V_blk HO_1.out (show 0 < 2 from by decide) z101 _ (of_eq_true p303) (of_eq_true q303) (fun _ hk => hk.2.2.1)|(rw [add_block];exact impl_nextCoins.V_blk HO_1.out (show 0 < 2 from by decide) z101 _ (of_eq_true p303) (of_eq_true q303) (fun _ hk => hk.2.2.1))|(show (Addr.add _ _).block ≠ _;rw [add_block];exact impl_nextCoins.V_blk HO_1.out (show 0 < 2 from by decide) z101 _ (of_eq_true p303) (of_eq_true q303) (fun _ hk => hk.2.2.1))|(dsimp only;exact impl_nextCoins.V_blk HO_1.out (show 0 < 2 from by decide) z101 _ (of_eq_true p303) (of_eq_true q303) (fun _ hk => hk.2.2.1))) _).trans (((cell_far (p:=⟨gb305,_,none⟩) (by first|exact impl_nextCoins.V_blk HO_1.out (show 0 < 2 from by decide) z101 _ (of_eq_true p303) (of_eq_true q303) (fun _ hk => hk.2.2.1)|(rw [add_block];exact impl_nextCoins.V_blk HO_1.out (show 0 < 2 from by decide) z101 _ (of_eq_true p303) (of_eq_true q303) (fun _ hk => hk.2.2.1))|(show (Addr.add _ _).block ≠ _;rw [add_block];exact impl_nextCoins.V_blk HO_1.out (show 0 < 2 from by decide) z101 _ (of_eq_true p303) (of_eq_true q303) (fun _ hk => hk.2.2.1))|(dsimp only;exact impl_nextCoins.V_blk HO_1.out (show 0 < 2 from by decide) z101 _ (of_eq_true p303) (of_eq_true q303) (fun _ hk => hk.2.2.1))) _).trans (hHeld.2.1)))),((cell_far (p:=⟨gb305,_,none⟩) (by first|exact impl_nextCoins.V_blk HO_1.out (show 0 < 2 from by decide) z101 _ (of_eq_true p303) (of_eq_true q303) (fun _ hk => hk.2.2.1)|(rw [add_block];exact impl_nextCoins.V_blk HO_1.out (show 0 < 2 from by decide) z101 _ (of_eq_true p303) (of_eq_true q303) (fun _ hk => hk.2.2.1))|(show (Addr.add _ _).block ≠ _;rw [add_block];exact impl_nextCoins.V_blk HO_1.out (show 0 < 2 from by decide) z101 _ (of_eq_true p303) (of_eq_true q303) (fun _ hk => hk.2.2.1))|(dsimp only;exact impl_nextCoins.V_blk HO_1.out (show 0 < 2 from by decide) z101 _ (of_eq_true p303) (of_eq_true q303) (fun _ hk => hk.2.2.1))) _).trans (((cell_far (p:=⟨gb305,_,none⟩) (by first|exact impl_nextCoins.V_blk HO_1.out (show 0 < 2 from by decide) z101 _ (of_eq_true p303) (of_eq_true q303) (fun _ hk => hk.2.2.1)|(rw [add_block];exact impl_nextCoins.V_blk HO_1.out (show 0 < 2 from by decide) z101 _ (of_eq_true p303) (of_eq_true q303) (fun _ hk => hk.2.2.1))|(show (Addr.add _ _).block ≠ _;rw [add_block];exact impl_nextCoins.V_blk HO_1.out (show 0 < 2 from by decide) z101 _ (of_eq_true p303) (of_eq_true q303) (fun _ hk => hk.2.2.1))|(dsimp only;exact impl_nextCoins.V_blk HO_1.out (show 0 < 2 from by decide) z101 _ (of_eq_true p303) (of_eq_true q303) (fun _ hk => hk.2.2.1))) _).trans (hHeld.2.2.1)))),((cell_far (p:=⟨gb305,_,none⟩) (by first|exact impl_nextCoins.V_blk HO_1.out (show 0 < 2 from by decide) z101 _ (of_eq_true p303) (of_eq_true q303) (fun _ hk => hk.2.2.1)|(rw [add_block];exact impl_nextCoins.V_blk HO_1.out (show 0 < 2 from by decide) z101 _ (of_eq_true p303) (of_eq_true q303) (fun _ hk => hk.2.2.1))|(show (Addr.add _ _).block ≠ _;rw [add_block];exact impl_nextCoins.V_blk HO_1.out (show 0 < 2 from by decide) z101 _ (of_eq_true p303) (of_eq_true q303) (fun _ hk => hk.2.2.1))|(dsimp only;exact impl_nextCoins.V_blk HO_1.out (show 0 < 2 from by decide) z101 _ (of_eq_true p303) (of_eq_true q303) (fun _ hk => hk.2.2.1))) _).trans (((cell_far (p:=⟨gb305,_,none⟩) (by first|exact impl_nextCoins.V_blk HO_1.out (show 0 < 2 from by decide) z101 _ (of_eq_true p303) (of_eq_true q303) (fun _ hk => hk.2.2.1)|(rw [add_block];exact impl_nextCoins.V_blk HO_1.out (show 0 < 2 from by decide) z101 _ (of_eq_true p303) (of_eq_true q303) (fun _ hk => hk.2.2.1))|(show (Addr.add _ _).block ≠ _;rw [add_block];exact impl_nextCoins.V_blk HO_1.out (show 0 < 2 from by decide) z101 _ (of_eq_true p303) (of_eq_true q303) (fun _ hk => hk.2.2.1))|(dsimp only;exact impl_nextCoins.V_blk HO_1.out (show 0 < 2 from by decide) z101 _ (of_eq_true p303) (of_eq_true q303) (fun _ hk => hk.2.2.1))) _).trans (hHeld.2.2.2))))⟩ (fun hHeld => ?_)
   clear hK K
   refine one_ (i:=12) (N:=none) #[Y,Y,Y,Y,Y,Y,Y,Y,Y,Y,Y,Y,Y] rfl rfl (one_of HT_.out (by kernel_rfl)) (by decide) (fun K hK => ?_)
   have hs20 : w17.cell? ⟨gb306,0,none⟩ = some (.int .i64 0):=(blk_cell BK306.out 0).trans rfl
   have hfs20:=blk_frozen BK306.out 0
   have hns20_0:=NB305_306.out
   have hms20_0:=NB306_305.out
   have hs21 : w17.cell? ⟨gb306,1,none⟩ = some (.slice none 0 0):=(blk_cell BK306.out 1).trans rfl
   have hfs21:=blk_frozen BK306.out 1
   have hns21_0:=NB305_306.out
   have hms21_0:=NB306_305.out
   refine skip_ (w1:=?_) (by rfl) rfl ?_ ?_
   rotate_left
   ·go_simp
    rfl
   refine hK.out _ _ ⟨((cell_far (p:=⟨gb306,_,none⟩) (by first|exact impl_nextCoins.V_blk HO_1.out (show 0 < 2 from by decide) z101 _ (of_eq_true p303) (of_eq_true q303) (fun _ hk => hk.2.2.2)|(rw [add_block];exact impl_nextCoins.V_blk HO_1.out (show 0 < 2 from by decide) z101 _ (of_eq_true p303) (of_eq_true q303) (fun _ hk => hk.2.2.2))|(show (Addr.add _ _).block ≠ _;rw [add_block];exact impl_nextCoins.V_blk HO_1.out (show 0 < 2 from by decide) z101 _ (of_eq_true p303) (of_eq_true q303) (fun _ hk => hk.2.2.2))|(dsimp only;exact impl_nextCoins.V_blk HO_1.out (show 0 < 2 from by decide) z101 _ (of_eq_true p303) (of_eq_true q303) (fun _ hk => hk.2.2.2))) _).trans (((cell_far (p:=⟨gb306,_,none⟩) (by first|exact impl_nextCoins.V_blk HO_1.out (show 0 < 2 from by decide) z101 _ (of_eq_true p303) (of_eq_true q303) (fun _ hk => hk.2.2.2)|(rw [add_block];exact impl_nextCoins.V_blk HO_1.out (show 0 < 2 from by decide) z101 _ (of_eq_true p303) (of_eq_true q303) (fun _ hk => hk.2.2.2))|(show (Addr.add _ _).block ≠ _;rw [add_block];exact impl_nextCoins.V_blk HO_1.out (show 0 < 2 from by decide) z101 _ (of_eq_true p303) (of_eq_true q303) (fun _ hk => hk.2.2.2))|(dsimp only;exact impl_nextCoins.V_blk HO_1.out (show 0 < 2 from by decide) z101 _ (of_eq_true p303) (of_eq_true q303) (fun _ hk => hk.2.2.2))) _).trans (hHeld.1)))),((cell_far (p:=⟨gb306,_,none⟩) (by first|exact impl_nextCoins.V_blk HO_1.out (show 0 < 2 from by decide) z101 _ (of_eq_true p303) (of_eq_true q303) (fun _ hk => hk.2.2.2)|(rw [add_block];exact impl_nextCoins.V_blk HO_1.out (show 0 < 2 from by decide) z101 _ (of_eq_true p303) (of_eq_true q303) (fun _ hk => hk.2.2.2))|(show (Addr.add _ _).block ≠ _;rw [add_block];exact impl_nextCoins.V_blk HO_1.out (show 0 < 2 from by decide) z101 _ (of_eq_true p303) (of_eq_true q303) (fun _ hk => hk.2.2.2))|(dsimp only;exact impl_nextCoins.V_blk HO_1.out (show 0 < 2 from by decide) z101 _ (of_eq_true p303) (of_eq_true q303) (fun _ hk => hk.2.2.2))) _).trans (((cell_far (p:=⟨gb306,_,none⟩) (by first|exact impl_nextCoins.V_blk HO_1.out (show 0 < 2 from by decide) z101 _ (of_eq_true p303) (of_eq_true q303) (fun _ hk => hk.2.2.2)|(rw [add_block];exact impl_nextCoins.V_blk HO_1.out (show 0 < 2 from by decide) z101 _ (of_eq_true p303) (of_eq_true q303) (fun _ hk => hk.2.2.2))|(show (Addr.add _ _).block ≠ _;rw [add_block];exact impl_nextCoins.V_blk HO_1.out (show 0 < 2 from by decide) z101 _ (of_eq_true p303) (of_eq_true q303) (fun _ hk => hk.2.2.2))|(dsimp only;exact impl_nextCoins.V_blk HO_1.out (show 0 < 2 from by decide) z101 _ (of_eq_true p303) (of_eq_true q303) (fun _ hk => hk.2.2.2))) _).trans (hHeld.2.1)))),((cell_far (p:=⟨gb306,_,none⟩) (by first|exact impl_nextCoins.V_blk HO_1.out (show 0 < 2 from by decide) z101 _ (of_eq_true p303) (of_eq_true q303) (fun _ hk => hk.2.2.2)|(rw [add_block];exact impl_nextCoins.V_blk HO_1.out (show 0 < 2 from by decide) z101 _ (of_eq_true p303) (of_eq_true q303) (fun _ hk => hk.2.2.2))|(show (Addr.add _ _).block ≠ _;rw [add_block];exact impl_nextCoins.V_blk HO_1.out (show 0 < 2 from by decide) z101 _ (of_eq_true p303) (of_eq_true q303) (fun _ hk => hk.2.2.2))|(dsimp only;exact impl_nextCoins.V_blk HO_1.out (show 0 < 2 from by decide) z101 _ (of_eq_true p303) (of_eq_true q303) (fun _ hk => hk.2.2.2))) _).trans (((cell_far (p:=⟨gb306,_,none⟩) (by first|exact impl_nextCoins.V_blk HO_1.out (show 0 < 2 from by decide) z101 _ (of_eq_true p303) (of_eq_true q303) (fun _ hk => hk.2.2.2)|(rw [add_block];exact impl_nextCoins.V_blk HO_1.out (show 0 < 2 from by decide) z101 _ (of_eq_true p303) (of_eq_true q303) (fun _ hk => hk.2.2.2))|(show (Addr.add _ _).block ≠ _;rw [add_block];exact impl_nextCoins.V_blk HO_1.out (show 0 < 2 from by decide) z101 _ (of_eq_true p303) (of_eq_true q303) (fun _ hk => hk.2.2.2))|(dsimp only;exact impl_nextCoins.V_blk HO_1.out (show 0 < 2 from by decide) z101 _ (of_eq_true p303) (of_eq_true q303) (fun _ hk => hk.2.2.2))) _).trans (hHeld.2.2.1)))),((cell_far (p:=⟨gb306,_,none⟩) (by first|exact impl_nextCoins.V_blk HO_1.out (show 0 < 2 from by decide) z101 _ (of_eq_true p303) (of_eq_true q303) (fun _ hk => hk.2.2.2)|(rw [add_block];exact impl_nextCoins.V_blk HO_1.out (show 0 < 2 from by decide) z101 _ (of_eq_true p303) (of_eq_true q303) (fun _ hk => hk.2.2.2))|(show (Addr.add _ _).block ≠ _;rw [add_block];exact impl_nextCoins.V_blk HO_1.out (show 0 < 2 from by decide) z101 _ (of_eq_true p303) (of_eq_true q303) (fun _ hk => hk.2.2.2))|(dsimp only;exact impl_nextCoins.V_blk HO_1.out (show 0 < 2 from by decide) z101 _ (of_eq_true p303) (of_eq_true q303) (fun _ hk => hk.2.2.2))) _).trans (((cell_far (p:=⟨gb306,_,none⟩) (by first|exact impl_nextCoins.V_blk HO_1.out (show 0 < 2 from by decide) z101 _ (of_eq_true p303) (of_eq_true q303) (fun _ hk => hk.2.2.2)|(rw [add_block];exact impl_nextCoins.V_blk HO_1.out (show 0 < 2 from by decide) z101 _ (of_eq_true p303) (of_eq_true q303) (fun _ hk => hk.2.2.2))|(show (Addr.add _ _).block ≠ _;rw [add_block];exact impl_nextCoins.V_blk HO_1.out (show 0 < 2 from by decide) z101 _ (of_eq_true p303) (of_eq_true q303) (fun _ hk => hk.2.2.2))|(dsimp only;exact impl_nextCoins.V_blk HO_1.out (show 0 < 2 from by decide) z101 _ (of_eq_true p303) (of_eq_true q303) (fun _ hk => hk.2.2.2))) _).trans (hHeld.2.2.2))))⟩ (fun hHeld => ?_)
   clear hK K
   refine done_ (done_of HT_.out (by kernel_rfl)) ?_
   try go_wp2
   have n0_ : Aside0 (Kd.V k101 101 ((((w17.setCell ⟨gb305,0,none⟩ (.int .i64 ((rd_T101 l1 x6_1).f0))).setCell ⟨gb305,1,none⟩ (.slice A303_1 ((rd_T101 l1 x6_1).f1).length c303_1)).setCell ⟨gb306,0,none⟩ (.int .i64 ((rd_T101 l1 (ji10)).f0))).setCell ⟨gb306,1,none⟩ (.slice A304_1 ((rd_T101 l1 (ji10)).f1).length c304_1)) w.heap.size (fun k_ => ((P0_ k_ ∨ P1_ k_) ∨ w.heap.size ≤ k_)∧some k_ ≠ (u5 : Value).ownBlock∧k_ ≠ gb305∧k_ ≠ gb306) (.slice (some ad303) l1.length c1) l1):=⟨by (with_reducible repeat (first|apply Kd.V_alloc|apply Kd.V_drewN|apply Kd.V_drew));exact Kd.V_mono (Kd.V_far (p:=⟨gb306,1,none⟩) (Kd.V_far (p:=⟨gb306,0,none⟩) (Kd.V_far (p:=⟨gb305,1,none⟩) (Kd.V_far (p:=⟨gb305,0,none⟩) (Kd.V_mono (Kd.V_mono HO_1.out (fun k_ hk => (⟨hk,hk.2.2.1⟩ : _∧k_ ≠ gb305))) (fun k_ hk => (⟨hk,hk.1.2.2.2⟩ : _∧k_ ≠ gb306))) (fun _ hk => hk.1.2) (.int .i64 ((rd_T101 l1 x6_1).f0))) (fun _ hk => hk.1.2) (.slice A303_1 ((rd_T101 l1 x6_1).f1).length c303_1)) (fun _ hk => hk.2) (.int .i64 ((rd_T101 l1 (ji10)).f0))) (fun _ hk => hk.2) (.slice A304_1 ((rd_T101 l1 (ji10)).f1).length c304_1)) (fun _ hk => ⟨hk.1.1.1,⟨hk.1.1.2.1,⟨hk.1.1.2.2.1,hk.1.1.2.2.2⟩⟩⟩)⟩
   have n1_ : Aside0 (Kd.N k101 101 ((((w17.setCell ⟨gb305,0,none⟩ (.int .i64 ((rd_T101 l1 x6_1).f0))).setCell ⟨gb305,1,none⟩ (.slice A303_1 ((rd_T101 l1 x6_1).f1).length c303_1)).setCell ⟨gb306,0,none⟩ (.int .i64 ((rd_T101 l1 (ji10)).f0))).setCell ⟨gb306,1,none⟩ (.slice A304_1 ((rd_T101 l1 (ji10)).f1).length c304_1)) w.heap.size (fun k_ => ((P0_ k_ ∨ P1_ k_) ∨ w.heap.size ≤ k_)∧k_ ≠ gb305∧k_ ≠ gb306) u5 x5_1):=⟨by (with_reducible repeat (first|apply Kd.N_alloc|apply Kd.N_drewN|apply Kd.N_drew));exact Kd.N_mono (Kd.N_far (p:=⟨gb306,1,none⟩) (Kd.N_far (p:=⟨gb306,0,none⟩) (Kd.N_far (p:=⟨gb305,1,none⟩) (Kd.N_far (p:=⟨gb305,0,none⟩) (Kd.N_mono (Kd.N_mono HO_5.out (fun k_ hk => (⟨hk,hk.2.1⟩ : _∧k_ ≠ gb305))) (fun k_ hk => (⟨hk,hk.1.2.2⟩ : _∧k_ ≠ gb306))) (fun _ hk => hk.1.2) (.int .i64 ((rd_T101 l1 x6_1).f0))) (fun _ hk => hk.1.2) (.slice A303_1 ((rd_T101 l1 x6_1).f1).length c303_1)) (fun _ hk => hk.2) (.int .i64 ((rd_T101 l1 (ji10)).f0))) (fun _ hk => hk.2) (.slice A304_1 ((rd_T101 l1 (ji10)).f1).length c304_1)) (fun _ hk => ⟨hk.1.1.1,⟨hk.1.1.2.1,hk.1.1.2.2⟩⟩)⟩
   have n2_ : Aside0 (Kd.V (Kd.int .i64) 3 ((((w17.setCell ⟨gb305,0,none⟩ (.int .i64 ((rd_T101 l1 x6_1).f0))).setCell ⟨gb305,1,none⟩ (.slice A303_1 ((rd_T101 l1 x6_1).f1).length c303_1)).setCell ⟨gb306,0,none⟩ (.int .i64 ((rd_T101 l1 (ji10)).f0))).setCell ⟨gb306,1,none⟩ (.slice A304_1 ((rd_T101 l1 (ji10)).f1).length c304_1)) w.heap.size (fun k_ => ((P0_ k_ ∨ P1_ k_) ∨ w.heap.size ≤ k_)∧some k_ ≠ (u5 : Value).ownBlock∧k_ ≠ gb305∧k_ ≠ gb306) (.slice A303_1 ((rd_T101 l1 x6_1).f1).length c303_1) ((rd_T101 l1 x6_1).f1)):=⟨by (with_reducible repeat (first|apply Kd.V_alloc|apply Kd.V_drewN|apply Kd.V_drew));exact Kd.V_mono (Kd.V_far (p:=⟨gb306,1,none⟩) (Kd.V_far (p:=⟨gb306,0,none⟩) (Kd.V_far (p:=⟨gb305,1,none⟩) (Kd.V_far (p:=⟨gb305,0,none⟩) (Kd.V_mono (Kd.V_mono HL303_1.out (fun k_ hk => (⟨hk,hk.2.2.1⟩ : _∧k_ ≠ gb305))) (fun k_ hk => (⟨hk,hk.1.2.2.2⟩ : _∧k_ ≠ gb306))) (fun _ hk => hk.1.2) (.int .i64 ((rd_T101 l1 x6_1).f0))) (fun _ hk => hk.1.2) (.slice A303_1 ((rd_T101 l1 x6_1).f1).length c303_1)) (fun _ hk => hk.2) (.int .i64 ((rd_T101 l1 (ji10)).f0))) (fun _ hk => hk.2) (.slice A304_1 ((rd_T101 l1 (ji10)).f1).length c304_1)) (fun _ hk => ⟨hk.1.1.1,⟨hk.1.1.2.1,⟨hk.1.1.2.2.1,hk.1.1.2.2.2⟩⟩⟩)⟩
   have n3_ : Aside0 (Kd.V (Kd.int .i64) 3 ((((w17.setCell ⟨gb305,0,none⟩ (.int .i64 ((rd_T101 l1 x6_1).f0))).setCell ⟨gb305,1,none⟩ (.slice A303_1 ((rd_T101 l1 x6_1).f1).length c303_1)).setCell ⟨gb306,0,none⟩ (.int .i64 ((rd_T101 l1 (ji10)).f0))).setCell ⟨gb306,1,none⟩ (.slice A304_1 ((rd_T101 l1 (ji10)).f1).length c304_1)) w.heap.size (fun k_ => ((P0_ k_ ∨ P1_ k_) ∨ w.heap.size ≤ k_)∧some k_ ≠ (u5 : Value).ownBlock∧k_ ≠ gb305∧k_ ≠ gb306) (.slice A304_1 ((rd_T101 l1 (ji10)).f1).length c304_1) ((rd_T101 l1 (ji10)).f1)):=⟨by (with_reducible repeat (first|apply Kd.V_alloc|apply Kd.V_drewN|apply Kd.V_drew));exact Kd.V_mono (Kd.V_far (p:=⟨gb306,1,none⟩) (Kd.V_far (p:=⟨gb306,0,none⟩) (Kd.V_far (p:=⟨gb305,1,none⟩) (Kd.V_far (p:=⟨gb305,0,none⟩) (Kd.V_mono (Kd.V_mono HL304_1.out (fun k_ hk => (⟨hk,hk.2.2.1⟩ : _∧k_ ≠ gb305))) (fun k_ hk => (⟨hk,hk.1.2.2.2⟩ : _∧k_ ≠ gb306))) (fun _ hk => hk.1.2) (.int .i64 ((rd_T101 l1 x6_1).f0))) (fun _ hk => hk.1.2) (.slice A303_1 ((rd_T101 l1 x6_1).f1).length c303_1)) (fun _ hk => hk.2) (.int .i64 ((rd_T101 l1 (ji10)).f0))) (fun _ hk => hk.2) (.slice A304_1 ((rd_T101 l1 (ji10)).f1).length c304_1)) (fun _ hk => ⟨hk.1.1.1,⟨hk.1.1.2.1,⟨hk.1.1.2.2.1,hk.1.1.2.2.2⟩⟩⟩)⟩
   have n4_ : Aside0 (((((w17.setCell ⟨gb305,0,none⟩ (.int .i64 ((rd_T101 l1 x6_1).f0))).setCell ⟨gb305,1,none⟩ (.slice A303_1 ((rd_T101 l1 x6_1).f1).length c303_1)).setCell ⟨gb306,0,none⟩ (.int .i64 ((rd_T101 l1 (ji10)).f0))).setCell ⟨gb306,1,none⟩ (.slice A304_1 ((rd_T101 l1 (ji10)).f1).length c304_1)).heap[gb305]? = some (.cells #[.int .i64 ((rd_T101 l1 x6_1).f0),.slice A303_1 ((rd_T101 l1 x6_1).f1).length c303_1] 101 (0,0))):=⟨by (with_reducible repeat (first|refine blk_drewN ?_ _|refine blk_drew ?_|refine blk_alloc ?_ _));refine blk_far ?_ NB305_306.out _;(with_reducible repeat (first|refine blk_drewN ?_ _|refine blk_drew ?_|refine blk_alloc ?_ _));refine blk_far ?_ NB305_306.out _;(with_reducible repeat (first|refine blk_drewN ?_ _|refine blk_drew ?_|refine blk_alloc ?_ _));refine blk_put (cs:=#[.int .i64 ((rd_T101 l1 x6_1).f0),.slice none 0 0]) ?_ 1 _ rfl;(with_reducible repeat (first|refine blk_drewN ?_ _|refine blk_drew ?_|refine blk_alloc ?_ _));refine blk_put (cs:=#[.int .i64 0,.slice none 0 0]) ?_ 0 _ rfl;(with_reducible repeat (first|refine blk_drewN ?_ _|refine blk_drew ?_|refine blk_alloc ?_ _));exact BK305.out⟩
   have n5_ : Aside0 (((((w17.setCell ⟨gb305,0,none⟩ (.int .i64 ((rd_T101 l1 x6_1).f0))).setCell ⟨gb305,1,none⟩ (.slice A303_1 ((rd_T101 l1 x6_1).f1).length c303_1)).setCell ⟨gb306,0,none⟩ (.int .i64 ((rd_T101 l1 (ji10)).f0))).setCell ⟨gb306,1,none⟩ (.slice A304_1 ((rd_T101 l1 (ji10)).f1).length c304_1)).heap[gb306]? = some (.cells #[.int .i64 ((rd_T101 l1 (ji10)).f0),.slice A304_1 ((rd_T101 l1 (ji10)).f1).length c304_1] 101 (0,0))):=⟨by (with_reducible repeat (first|refine blk_drewN ?_ _|refine blk_drew ?_|refine blk_alloc ?_ _));refine blk_put (cs:=#[.int .i64 ((rd_T101 l1 (ji10)).f0),.slice none 0 0]) ?_ 1 _ rfl;(with_reducible repeat (first|refine blk_drewN ?_ _|refine blk_drew ?_|refine blk_alloc ?_ _));refine blk_put (cs:=#[.int .i64 0,.slice none 0 0]) ?_ 0 _ rfl;(with_reducible repeat (first|refine blk_drewN ?_ _|refine blk_drew ?_|refine blk_alloc ?_ _));refine blk_far ?_ NB306_305.out _;(with_reducible repeat (first|refine blk_drewN ?_ _|refine blk_drew ?_|refine blk_alloc ?_ _));refine blk_far ?_ NB306_305.out _;(with_reducible repeat (first|refine blk_drewN ?_ _|refine blk_drew ?_|refine blk_alloc ?_ _));exact BK306.out⟩
   have n6_ : Aside0 (Below w.heap.size w ((((w17.setCell ⟨gb305,0,none⟩ (.int .i64 ((rd_T101 l1 x6_1).f0))).setCell ⟨gb305,1,none⟩ (.slice A303_1 ((rd_T101 l1 x6_1).f1).length c303_1)).setCell ⟨gb306,0,none⟩ (.int .i64 ((rd_T101 l1 (ji10)).f0))).setCell ⟨gb306,1,none⟩ (.slice A304_1 ((rd_T101 l1 (ji10)).f1).length c304_1))):=⟨by repeat (first|(with_reducible first|exact HB.out|apply below_alloc|apply pw_below_drewN|apply below_drew1|refine below_set ?_ GE305.out|refine below_set ?_ GE306.out)|exact HB.out)⟩
   (try clear HO_1)
   (try clear HO_5)
   (try clear HL303_1)
   (try clear HL304_1)
   (try clear BK305)
   (try clear BK306)
   (try clear HB)
   generalize ((((w17.setCell ⟨gb305,0,none⟩ (.int .i64 ((rd_T101 l1 x6_1).f0))).setCell ⟨gb305,1,none⟩ (.slice A303_1 ((rd_T101 l1 x6_1).f1).length c303_1)).setCell ⟨gb306,0,none⟩ (.int .i64 ((rd_T101 l1 (ji10)).f0))).setCell ⟨gb306,1,none⟩ (.slice A304_1 ((rd_T101 l1 (ji10)).f1).length c304_1)) = w22 at n0_ n1_ n2_ n3_ n4_ n5_ n6_ ⊢
   have HO_1:=n0_
   have HO_5:=n1_
   have HL303_1:=n2_
   have HL304_1:=n3_
   have BK305:=n4_
   have BK306:=n5_
   have HB:=n6_
   clear n0_ n1_ n2_ n3_ n4_ n5_ n6_
   have n0_:=Aside0.mk (Kd.V_drew HO_1.out)
   have n1_:=Aside0.mk (Kd.N_drew HO_5.out)
   have n2_:=Aside0.mk (Kd.V_drew HL303_1.out)
   have n3_:=Aside0.mk (Kd.V_drew HL304_1.out)
   have n4_:=Aside0.mk (blk_drew BK305.out)
   have n5_:=Aside0.mk (blk_drew BK306.out)
   have n6_:=Aside0.mk (below_drew1 HB.out)
   clear HO_1
   clear HO_5
   clear HL303_1
   clear HL304_1
   clear BK305
   clear BK306
   clear HB
   have HO_1:=n0_
   have HO_5:=n1_
   have HL303_1:=n2_
   have HL304_1:=n3_
   have BK305:=n4_
   have BK306:=n5_
   have HB:=n6_
   clear n0_ n1_ n2_ n3_ n4_ n5_ n6_
   refine start_ (n:=16) (S:=fun w' => w'.cell? ⟨gb305,0,none⟩ = some (.int .i64 ((rd_T101 l1 x6_1).f0))∧w'.cell? ⟨gb305,1,none⟩ = some (.slice A303_1 ((rd_T101 l1 x6_1).f1).length c303_1)∧w'.cell? ⟨gb306,0,none⟩ = some (.int .i64 ((rd_T101 l1 (ji10)).f0))∧w'.cell? ⟨gb306,1,none⟩ = some (.slice A304_1 ((rd_T101 l1 (ji10)).f1).length c304_1)) (ds:=[]) #[Z,Z,Z,Z,Z,Z,Z,Z,Z,Z,Z,Z,Z,Z,Z,Z] (by kernel_rfl) rfl rfl ⟨(blk_cell BK305.out 0).trans rfl,(blk_cell BK305.out 1).trans rfl,(blk_cell BK306.out 0).trans rfl,(blk_cell BK306.out 1).trans rfl⟩ (fun hHeld => ?_);refine with_tabW impl_nextCoins.tab6 impl_nextCoins.bits6 (fun HT_ HW_ => ?_)
   generalize w22.drew = w23 at HO_1 HO_5 HL303_1 HL304_1 BK305 BK306 HB hHeld ⊢
   refine pure_ (i:=0) (N:=some 28) (v:=?_) (a':=?_) #[Y,Z,Z,Z,Z,Z,Z,Z,Z,Z,Z,Z,Z,Z,Z,Z] rfl rfl (any_of HT_.out (by kernel_rfl)) (fun _ _ _ h => h) (Or.inl ⟨by rfl,?_⟩) ?_ ?_
   rotate_left
   ·intro w'
    go_simp
    with_reducible rfl
   rotate_left
   ·simp only [sPu,sIa,sCz,sCs,i64_w,i32_w]
    rfl
   refine pure_ (i:=1) (N:=some 29) (v:=?_) (a':=?_) #[Y,Y,Z,Z,Z,Z,Z,Z,Z,Z,Z,Z,Z,Z,Z,Z] rfl rfl (any_of HT_.out (by kernel_rfl)) (fun _ _ _ h => h) (Or.inl ⟨by rfl,?_⟩) ?_ ?_
   rotate_left
   ·intro w'
    go_simp
    with_reducible rfl
   rotate_left
   ·simp only [sPu,sIa,sCz,sCs,i64_w,i32_w]
    rfl
   refine pure_ (i:=3) (N:=some 31) (v:=?_) (a':=?_) #[Y,Y,Z,Y,Z,Z,Z,Z,Z,Z,Z,Z,Z,Z,Z,Z] rfl rfl (any_of HT_.out (by kernel_rfl)) (fun _ _ _ h => h) (Or.inl ⟨by rfl,?_⟩) ?_ ?_
   rotate_left
   ·intro w'
    go_simp
    with_reducible rfl
   rotate_left
   ·simp only [sPu,sIa,sCz,sCs,i64_w,i32_w]
    rfl
   refine pure_ (i:=6) (N:=some 34) (v:=?_) (a':=?_) #[Y,Y,Z,Y,Z,Z,Y,Z,Z,Z,Z,Z,Z,Z,Z,Z] rfl rfl (any_of HT_.out (by kernel_rfl)) (fun _ _ _ h => h) (Or.inl ⟨by rfl,?_⟩) ?_ ?_
   rotate_left
   ·intro w'
    go_simp
    with_reducible rfl
   rotate_left
   ·simp only [sPu,sIa,sCz,sCs,i64_w,i32_w]
    rfl
   refine pure_ (i:=8) (N:=some 36) (v:=?_) (a':=?_) #[Y,Y,Z,Y,Z,Z,Y,Z,Y,Z,Z,Z,Z,Z,Z,Z] rfl rfl (any_of HT_.out (by kernel_rfl)) (fun _ _ _ h => h) (Or.inl ⟨by rfl,?_⟩) ?_ ?_
   rotate_left
   ·intro w'
    go_simp
    with_reducible rfl
   rotate_left
   ·simp only [sPu,sIa,sCz,sCs,i64_w,i32_w]
    rfl
   refine take_ (i:=2) (N:=some 30) (v:=?_) (a':=?_) #[Y,Y,Y,Y,Z,Z,Y,Z,Y,Z,Z,Z,Z,Z,Z,Z] rfl rfl (take_ofW HT_.out HW_.out (by kernel_rfl)) (fun _ _ _ h => h) (Or.inl ⟨by rfl,?_⟩) hHeld ?_ ?_
   rotate_left
   ·rintro w' ⟨s0,s1,s2,s3⟩
    go_simp
    with_reducible rfl
   rotate_left
   ·simp only [sPu,sIa,sCz,sCs,i64_w,i32_w]
    rfl
   refine take_ (i:=4) (N:=some 32) (v:=?_) (a':=?_) #[Y,Y,Y,Y,Y,Z,Y,Z,Y,Z,Z,Z,Z,Z,Z,Z] rfl rfl (take_ofW HT_.out HW_.out (by kernel_rfl)) (fun _ _ _ h => h) (Or.inl ⟨by rfl,?_⟩) hHeld ?_ ?_
   rotate_left
   ·rintro w' ⟨s0,s1,s2,s3⟩
    go_simp
    with_reducible rfl
   rotate_left
   ·simp only [sPu,sIa,sCz,sCs,i64_w,i32_w]
    rfl
   refine pure_ (i:=5) (N:=some 33) (v:=?_) (a':=?_) #[Y,Y,Y,Y,Y,Y,Y,Z,Y,Z,Z,Z,Z,Z,Z,Z] rfl rfl (any_of HT_.out (by kernel_rfl)) (fun _ _ _ h => h) (Or.inl ⟨by rfl,?_⟩) ?_ ?_
   rotate_left
   ·intro w'
    go_simp
    with_reducible rfl
   rotate_left
   ·simp only [sPu,sIa,sCz,sCs,i64_w,i32_w]
    rfl
   refine take_ (i:=7) (N:=some 35) (v:=?_) (a':=?_) #[Y,Y,Y,Y,Y,Y,Y,Y,Y,Z,Z,Z,Z,Z,Z,Z] rfl rfl (take_ofW HT_.out HW_.out (by kernel_rfl)) (fun _ _ _ h => h) (Or.inl ⟨by rfl,?_⟩) hHeld ?_ ?_
   rotate_left
   ·rintro w' ⟨s0,s1,s2,s3⟩
    go_simp
    with_reducible rfl
   rotate_left
   ·simp only [sPu,sIa,sCz,sCs,i64_w,i32_w]
    rfl
   refine take_ (i:=9) (N:=some 37) (v:=?_) (a':=?_) #[Y,Y,Y,Y,Y,Y,Y,Y,Y,Y,Z,Z,Z,Z,Z,Z] rfl rfl (take_ofW HT_.out HW_.out (by kernel_rfl)) (fun _ _ _ h => h) (Or.inl ⟨by rfl,?_⟩) hHeld ?_ ?_
   rotate_left
   ·rintro w' ⟨s0,s1,s2,s3⟩
    go_simp
    with_reducible rfl
   rotate_left
   ·simp only [sPu,sIa,sCz,sCs,i64_w,i32_w]
    rfl
   refine one_ (i:=10) (N:=some 38) #[Y,Y,Y,Y,Y,Y,Y,Y,Y,Y,Y,Z,Z,Z,Z,Z] rfl rfl (one_of HT_.out (by kernel_rfl)) (by decide) (fun K hK => ?_)
   refine Kd.N_lit_step (Kd.slice 3 (Kd.int .i64)) _ 22 ?hg (N':=38) ?hd (xs:=([(rd_T101 l1 x6_1).f1,(rd_T101 l1 (ji10)).f1] : List (List Int))) (inner:=[.slice A303_1 ((rd_T101 l1 x6_1).f1).length c303_1,.slice A304_1 ((rd_T101 l1 (ji10)).f1).length c304_1]) (ok:=(fun k_ => ((P0_ k_ ∨ P1_ k_) ∨ w.heap.size ≤ k_)∧some k_ ≠ (u5 : Value).ownBlock∧k_ ≠ gb305∧k_ ≠ gb306)) (okp:=(fun k_ => ((P0_ k_ ∨ P1_ k_) ∨ w.heap.size ≤ k_)∧some k_ ≠ (u5 : Value).ownBlock∧k_ ≠ gb305∧k_ ≠ gb306)) ?hr ?hp (fun _ hk => hk) ((show ∀ k_,w23.heap.size ≤ k_ → (fun k_ => ((P0_ k_ ∨ P1_ k_) ∨ w.heap.size ≤ k_)∧some k_ ≠ (u5 : Value).ownBlock∧k_ ≠ gb305∧k_ ≠ gb306) k_ from fun k_ hk => ⟨(.inr (Nat.le_trans (below_size (by repeat (first|(with_reducible first|exact HB.out|apply below_alloc|apply pw_below_drewN|apply below_drew1|refine below_set ?_ GE305.out|refine below_set ?_ GE306.out)|exact HB.out))) hk)),Kd.fresh' (Kd.N_lt (by (with_reducible repeat (first|apply Kd.N_alloc|apply Kd.N_drewN|apply Kd.N_drew));exact HO_5.out)) k_ hk,Kd.freshB (g:=gb305) (o:=.cells #[.int .i64 ((rd_T101 l1 x6_1).f0),.slice A303_1 ((rd_T101 l1 x6_1).f1).length c303_1] 101 (0,0)) (by (with_reducible repeat (first|refine blk_drewN ?_ _|refine blk_drew ?_|refine blk_alloc ?_ _));exact BK305.out) k_ hk,Kd.freshB (g:=gb306) (o:=.cells #[.int .i64 ((rd_T101 l1 (ji10)).f0),.slice A304_1 ((rd_T101 l1 (ji10)).f1).length c304_1] 101 (0,0)) (by (with_reducible repeat (first|refine blk_drewN ?_ _|refine blk_drew ?_|refine blk_alloc ?_ _));exact BK306.out) k_ hk⟩) _ (Nat.le_refl _)) (Below.refl _ _) (Nat.le_refl _) (by simp) ?_;(case hd => rfl);(case hg => rfl);(case hr => first|(go_simp;done)|(go_simp;rfl));(case hp => exact (Reps.one (show Kd.FK (Kd.slice 3 (Kd.int .i64)) _ _ ((rd_T101 l1 x6_1).f1) [.slice A303_1 ((rd_T101 l1 x6_1).f1).length c303_1] from (Kd.FK_slice_mk (Kd.V_reads' (Kd.V_mono (ok':=(fun k_ => ((P0_ k_ ∨ P1_ k_) ∨ w.heap.size ≤ k_)∧some k_ ≠ (u5 : Value).ownBlock∧k_ ≠ gb305∧k_ ≠ gb306)) (HL303_1.out) (fun k_ hk => ⟨hk.1,⟨hk.2.1,⟨hk.2.2.1,hk.2.2.2⟩⟩⟩))).2.1 (Kd.V_F (Kd.V_mono (ok':=(fun k_ => ((P0_ k_ ∨ P1_ k_) ∨ w.heap.size ≤ k_)∧some k_ ≠ (u5 : Value).ownBlock∧k_ ≠ gb305∧k_ ≠ gb306)) (HL303_1.out) (fun k_ hk => ⟨hk.1,⟨hk.2.1,⟨hk.2.2.1,hk.2.2.2⟩⟩⟩))))) (Reps.one (show Kd.FK (Kd.slice 3 (Kd.int .i64)) _ _ ((rd_T101 l1 (ji10)).f1) [.slice A304_1 ((rd_T101 l1 (ji10)).f1).length c304_1] from (Kd.FK_slice_mk (Kd.V_reads' (Kd.V_mono (ok':=(fun k_ => ((P0_ k_ ∨ P1_ k_) ∨ w.heap.size ≤ k_)∧some k_ ≠ (u5 : Value).ownBlock∧k_ ≠ gb305∧k_ ≠ gb306)) (HL304_1.out) (fun k_ hk => ⟨hk.1,⟨hk.2.1,⟨hk.2.2.1,hk.2.2.2⟩⟩⟩))).2.1 (Kd.V_F (Kd.V_mono (ok':=(fun k_ => ((P0_ k_ ∨ P1_ k_) ∨ w.heap.size ≤ k_)∧some k_ ≠ (u5 : Value).ownBlock∧k_ ≠ gb305∧k_ ≠ gb306)) (HL304_1.out) (fun k_ hk => ⟨hk.1,⟨hk.2.1,⟨hk.2.2.1,hk.2.2.2⟩⟩⟩))))) (Reps.none _ _))))
   intro v308 w24 ho25 hb hg_ hnew_
   clear hg_ hnew_
   (first|rw [← Ny307.out] at ho25|(simp only [Int.reduceToNat] at ho25;rw [← Ny307.out] at ho25))
   have n0_:=Aside0.mk (Kd.V_elder' (by (with_reducible repeat (first|apply Kd.V_alloc|apply Kd.V_drewN|apply Kd.V_drew));exact HO_1.out) (Kd.N_base ho25) hb)
   have n1_:=Aside0.mk (Kd.N_elder' (by (with_reducible repeat (first|apply Kd.N_alloc|apply Kd.N_drewN|apply Kd.N_drew));exact HO_5.out) (Kd.N_base ho25) hb)
   have n2_:=Aside0.mk (Kd.V_elder' (by (with_reducible repeat (first|apply Kd.V_alloc|apply Kd.V_drewN|apply Kd.V_drew));exact HL303_1.out) (Kd.N_base ho25) hb)
   have n3_:=Aside0.mk (Kd.V_elder' (by (with_reducible repeat (first|apply Kd.V_alloc|apply Kd.V_drewN|apply Kd.V_drew));exact HL304_1.out) (Kd.N_base ho25) hb)
   have n4_:=Aside0.mk (Kd.N_lower ho25 (below_size (by repeat (first|(with_reducible first|exact HB.out|apply below_alloc|apply pw_below_drewN|apply below_drew1|refine below_set ?_ GE305.out|refine below_set ?_ GE306.out)|exact HB.out))))
   have n5_:=Aside0.mk (blk_below (g:=gb305) (o:=.cells #[.int .i64 ((rd_T101 l1 x6_1).f0),.slice A303_1 ((rd_T101 l1 x6_1).f1).length c303_1] 101 (0,0)) (by (with_reducible repeat (first|refine blk_drewN ?_ _|refine blk_drew ?_|refine blk_alloc ?_ _));exact BK305.out) hb)
   have n6_:=Aside0.mk (blk_below (g:=gb306) (o:=.cells #[.int .i64 ((rd_T101 l1 (ji10)).f0),.slice A304_1 ((rd_T101 l1 (ji10)).f1).length c304_1] 101 (0,0)) (by (with_reducible repeat (first|refine blk_drewN ?_ _|refine blk_drew ?_|refine blk_alloc ?_ _));exact BK306.out) hb)
   have n7_:=Aside0.mk (below_step (by repeat (first|(with_reducible first|exact HB.out|apply below_alloc|apply pw_below_drewN|apply below_drew1|refine below_set ?_ GE305.out|refine below_set ?_ GE306.out)|exact HB.out)) hb)
   clear HO_1
   clear HO_5
   clear HL303_1
   clear HL304_1
   clear BK305
   clear BK306
   clear HB
   have HO_1:=n0_
   have HO_5:=n1_
   have HL303_1:=n2_
   have HL304_1:=n3_
   have HO309:=n4_
   have BK305:=n5_
   have BK306:=n6_
   have HB:=n7_
   clear n0_ n1_ n2_ n3_ n4_ n5_ n6_ n7_
   clear hb ho25
   obtain ⟨Ao26,co26,eo26⟩:=Kd.N_slice HO309.out
   (first|subst eo26|(injection eo26 with f1_ f2_ f3_;have f4_:=f1_.symm;have f5_:=f3_.symm;clear f1_ f2_ f3_;subst f4_;subst f5_))
   refine hK.out _ _ ⟨(blk_cell BK305.out 0).trans rfl,(blk_cell BK305.out 1).trans rfl,(blk_cell BK306.out 0).trans rfl,(blk_cell BK306.out 1).trans rfl⟩ (fun hHeld => ?_)
   clear hK K
   refine norm_ (a':=?_) ?_ ?_
   rotate_left
   ·show Act.put _ (some 38) _ = _
    simp only [sPu,sIa,sCz,sCs,i64_w,i32_w]
    rfl
   refine one_ (i:=11) (N:=some 39) #[Y,Y,Y,Y,Y,Y,Y,Y,Y,Y,Y,Y,Z,Z,Z,Z] rfl rfl (one_of HT_.out (by kernel_rfl)) (by decide) (fun K hK => ?_)
   refine goes_ Try.func101 (by kernel_rfl) rfl #[.slice Ao26 y307.length co26] (by rfl) rfl rfl (by (try simp only [List.map_toArray,List.map_cons,List.map_nil]);first|done|rfl|(simp only [List.length_drop,List.length_take];rfl)) ?_
   with_reducible refine (slices_Concat_int_int.calls _ _ y307 t310 _ ?side1 ?side2 A12.out).mono ?_
   (case side1 => repeat (first|exact (Kd.N_reads' HO309.out).2.2|(with_reducible refine Kd.C_alloc ?_ _)|(with_reducible refine Kd.C_drewN ?_ _)|(with_reducible refine Kd.C_drew ?_)))
   (case side2 => exact (Kd.N_reads' HO309.out).2.1)
   rintro e w27 ⟨v311,rfl,ho0,hb⟩
   refine ⟨_,rfl,?_⟩
   have n0_:=Aside0.mk (Kd.V_elder' (by (with_reducible repeat (first|apply Kd.V_alloc|apply Kd.V_drewN|apply Kd.V_drew));exact HO_1.out) (Kd.R_base ho0) hb)
   have n1_:=Aside0.mk (Kd.N_elder' (by (with_reducible repeat (first|apply Kd.N_alloc|apply Kd.N_drewN|apply Kd.N_drew));exact HO_5.out) (Kd.R_base ho0) hb)
   have n2_:=Aside0.mk (Kd.V_elder' (by (with_reducible repeat (first|apply Kd.V_alloc|apply Kd.V_drewN|apply Kd.V_drew));exact HL303_1.out) (Kd.R_base ho0) hb)
   have n3_:=Aside0.mk (Kd.V_elder' (by (with_reducible repeat (first|apply Kd.V_alloc|apply Kd.V_drewN|apply Kd.V_drew));exact HL304_1.out) (Kd.R_base ho0) hb)
   have n4_:=Aside0.mk (Kd.N_elder' (by (with_reducible repeat (first|apply Kd.N_alloc|apply Kd.N_drewN|apply Kd.N_drew));exact HO309.out) (Kd.R_base ho0) hb)
   have n5_:=Aside0.mk (Kd.R_lower (Kd.R_newM (M:=fun k_ => (w.heap.size ≤ k_)) ho0 (below_size (by repeat (first|(with_reducible first|exact HB.out|apply below_alloc|apply pw_below_drewN|apply below_drew1|refine below_set ?_ GE305.out|refine below_set ?_ GE306.out)|exact HB.out))) (fun k_ h_ => h_)) (below_size (by repeat (first|(with_reducible first|exact HB.out|apply below_alloc|apply pw_below_drewN|apply below_drew1|refine below_set ?_ GE305.out|refine below_set ?_ GE306.out)|exact HB.out))))
   have n6_:=Aside0.mk (blk_below (g:=gb305) (o:=.cells #[.int .i64 ((rd_T101 l1 x6_1).f0),.slice A303_1 ((rd_T101 l1 x6_1).f1).length c303_1] 101 (0,0)) (by (with_reducible repeat (first|refine blk_drewN ?_ _|refine blk_drew ?_|refine blk_alloc ?_ _));exact BK305.out) hb)
   have n7_:=Aside0.mk (blk_below (g:=gb306) (o:=.cells #[.int .i64 ((rd_T101 l1 (ji10)).f0),.slice A304_1 ((rd_T101 l1 (ji10)).f1).length c304_1] 101 (0,0)) (by (with_reducible repeat (first|refine blk_drewN ?_ _|refine blk_drew ?_|refine blk_alloc ?_ _));exact BK306.out) hb)
   have n8_:=Aside0.mk (below_step (by repeat (first|(with_reducible first|exact HB.out|apply below_alloc|apply pw_below_drewN|apply below_drew1|refine below_set ?_ GE305.out|refine below_set ?_ GE306.out)|exact HB.out)) hb)
   clear HO_1
   clear HO_5
   clear HL303_1
   clear HL304_1
   clear HO309
   clear BK305
   clear BK306
   clear HB
   have HO_1:=n0_
   have HO_5:=n1_
   have HL303_1:=n2_
   have HL304_1:=n3_
   have HO309:=n4_
   have HO312:=n5_
   have BK305:=n6_
   have BK306:=n7_
   have HB:=n8_
   clear n0_ n1_ n2_ n3_ n4_ n5_ n6_ n7_ n8_
   (try clear hb)
   (try clear hb2)
   (try clear hk)
   (try clear hi)
   (try clear ho0)
   obtain ⟨Ao28,co28,eo28⟩:=Kd.R_slice HO312.out
   (first|subst eo28|(injection eo28 with f1_ f2_ f3_;have f4_:=f1_.symm;have f5_:=f3_.symm;clear f1_ f2_ f3_;subst f4_;subst f5_))
   refine hK.out _ _ ⟨(blk_cell BK305.out 0).trans rfl,(blk_cell BK305.out 1).trans rfl,(blk_cell BK306.out 0).trans rfl,(blk_cell BK306.out 1).trans rfl⟩ (fun hHeld => ?_)
   clear hK K
   refine norm_ (a':=?_) ?_ ?_
   rotate_left
   ·show Act.put _ (some 39) _ = _
    simp only [sPu,sIa,sCz,sCs,i64_w,i32_w]
    rfl
   refine pure_ (i:=12) (N:=some 40) (v:=?_) (a':=?_) #[Y,Y,Y,Y,Y,Y,Y,Y,Y,Y,Y,Y,Y,Z,Z,Z] rfl rfl (any_of HT_.out (by kernel_rfl)) (fun _ _ _ h => h) (Or.inl ⟨by rfl,?_⟩) ?_ ?_
   rotate_left
   ·intro w'
    go_simp
    with_reducible rfl
   rotate_left
   ·simp only [sPu,sIa,sCz,sCs,i64_w,i32_w]
    rfl
   refine one_ (i:=13) (N:=some 41) #[Y,Y,Y,Y,Y,Y,Y,Y,Y,Y,Y,Y,Y,Y,Z,Z] rfl rfl (one_of HT_.out (by kernel_rfl)) (by decide) (fun K hK => ?_)
   refine value_ (w1:=?_) (v:=?_) (by rfl) rfl ?_ ?_
   rotate_left 2
   ·go_simp
    constructor
    ·rfl
    rfl
   refine hK.out _ _ ⟨(blk_cell (blk_alloc BK305.out _) 0).trans rfl,(blk_cell (blk_alloc BK305.out _) 1).trans rfl,(blk_cell (blk_alloc BK306.out _) 0).trans rfl,(blk_cell (blk_alloc BK306.out _) 1).trans rfl⟩ (fun hHeld => ?_)
   clear hK K
   refine norm_ (a':=?_) ?_ ?_
   rotate_left
   ·show Act.put _ (some 41) _ = _
    simp only [sPu,sIa,sCz,sCs,i64_w,i32_w]
    rfl
   refine one_ (i:=14) (N:=some 42) #[Y,Y,Y,Y,Y,Y,Y,Y,Y,Y,Y,Y,Y,Y,Y,Z] rfl rfl (one_of HT_.out (by kernel_rfl)) (by decide) (fun K hK => ?_)
   refine Kd.N_append_step k101 (w0:=w) w.heap.size (by rfl) (.tmp 28) (.tmp 41) 98 101 (.agg #[(.int .i64 0),(.slice none 0 0)]) 32 rfl Try.underlying98 info101 rfl (by decide) (by omega) u5 x5_1 (⟨wrap64 (((rd_T101 l1 x6_1).f0) + ((rd_T101 l1 (ji10)).f0)),t310⟩ : S101) [.int .i64 (wrap64 (((rd_T101 l1 x6_1).f0) + ((rd_T101 l1 (ji10)).f0))),.slice Ao28 t310.length co28] (fun k_ => ((P0_ k_ ∨ P1_ k_) ∨ w.heap.size ≤ k_)∧some k_ ≠ (.slice Ao26 y307.length co26 : Value).ownBlock∧k_ ≠ gb305∧k_ ≠ gb306) (fun k_ => ((fun k_ => ((P0_ k_ ∨ P1_ k_) ∨ w.heap.size ≤ k_)∧some k_ ≠ (.slice Ao26 y307.length co26 : Value).ownBlock∧k_ ≠ gb305∧k_ ≠ gb306)) k_∧some k_ ≠ (u5 : Value).ownBlock) rfl rfl ?aP (fun _ hk => hk) ?aF ?aO ?aB ?aS ?aL ?_
   (case aP => exact (k101_mkF _ _ (⟨wrap64 (((rd_T101 l1 x6_1).f0) + ((rd_T101 l1 (ji10)).f0)),t310⟩ : S101) (Kd.R_reads' (Kd.R_mono (ok':=(fun k_ => ((fun k_ => ((P0_ k_ ∨ P1_ k_) ∨ w.heap.size ≤ k_)∧some k_ ≠ (.slice Ao26 y307.length co26 : Value).ownBlock∧k_ ≠ gb305∧k_ ≠ gb306)) k_∧some k_ ≠ (u5 : Value).ownBlock)) (Kd.R_types (Kd.R_types (Kd.R_apart' (Kd.R_apart' (HO312.out) (Kd.N_typed HO309.out) (by decide)) (Kd.N_typed HO_5.out) (by decide)) BK305.out (by decide)) BK306.out (by decide)) (fun k_ hk => ⟨⟨(.inr (hk.1.1.1.1.1)),⟨hk.1.1.1.2,⟨hk.1.2,hk.2⟩⟩⟩,hk.1.1.2⟩))).2.1 (Kd.R_F (Kd.R_mono (ok':=(fun k_ => ((fun k_ => ((P0_ k_ ∨ P1_ k_) ∨ w.heap.size ≤ k_)∧some k_ ≠ (.slice Ao26 y307.length co26 : Value).ownBlock∧k_ ≠ gb305∧k_ ≠ gb306)) k_∧some k_ ≠ (u5 : Value).ownBlock)) (Kd.R_types (Kd.R_types (Kd.R_apart' (Kd.R_apart' (HO312.out) (Kd.N_typed HO309.out) (by decide)) (Kd.N_typed HO_5.out) (by decide)) BK305.out (by decide)) BK306.out (by decide)) (fun k_ hk => ⟨⟨(.inr (hk.1.1.1.1.1)),⟨hk.1.1.1.2,⟨hk.1.2,hk.2⟩⟩⟩,hk.1.1.2⟩)))))
   (case aB => exact (by repeat (first|(with_reducible first|exact HB.out|apply below_alloc|apply pw_below_drewN|apply below_drew1|refine below_set ?_ GE305.out|refine below_set ?_ GE306.out)|exact HB.out)))
   (case aF => exact (fun k_ hk => ⟨(.inr (Nat.le_trans (below_size (by repeat (first|(with_reducible first|exact HB.out|apply below_alloc|apply pw_below_drewN|apply below_drew1|refine below_set ?_ GE305.out|refine below_set ?_ GE306.out)|exact HB.out))) hk)),Kd.fresh' (Kd.N_lt (by (with_reducible repeat (first|apply Kd.N_alloc|apply Kd.N_drewN|apply Kd.N_drew));exact HO309.out)) k_ hk,Kd.freshB (g:=gb305) (o:=.cells #[.int .i64 ((rd_T101 l1 x6_1).f0),.slice A303_1 ((rd_T101 l1 x6_1).f1).length c303_1] 101 (0,0)) (by (with_reducible repeat (first|refine blk_drewN ?_ _|refine blk_drew ?_|refine blk_alloc ?_ _));exact BK305.out) k_ hk,Kd.freshB (g:=gb306) (o:=.cells #[.int .i64 ((rd_T101 l1 (ji10)).f0),.slice A304_1 ((rd_T101 l1 (ji10)).f1).length c304_1] 101 (0,0)) (by (with_reducible repeat (first|refine blk_drewN ?_ _|refine blk_drew ?_|refine blk_alloc ?_ _));exact BK306.out) k_ hk⟩))
   (case aO => exact (by (with_reducible repeat (first|apply Kd.N_alloc|apply Kd.N_drewN|apply Kd.N_drew));exact Kd.N_mono HO_5.out (fun _ hk => ⟨hk.1.1.1,⟨hk.1.2,⟨hk.1.1.2.1,hk.1.1.2.2⟩⟩⟩)))
   (case aS => exact (below_size (by repeat (first|(with_reducible first|exact HB.out|apply below_alloc|apply pw_below_drewN|apply below_drew1|refine below_set ?_ GE305.out|refine below_set ?_ GE306.out)|exact HB.out))))
   (case aL => have:=LMc13.out;omega)
   intro v314 w29 ho hb hg hat
   rw [← Ny313.out] at ho
   have n0_:=Aside0.mk (Kd.V_afterv (ok:=(fun k_ => ((P0_ k_ ∨ P1_ k_) ∨ w.heap.size ≤ k_)∧some k_ ≠ (.slice Ao26 y307.length co26 : Value).ownBlock∧some k_ ≠ (.slice Ao28 t310.length co28 : Value).ownBlock∧k_ ≠ gb305∧k_ ≠ gb306)) (by (with_reducible repeat (first|apply Kd.V_alloc|apply Kd.V_drewN|apply Kd.V_drew));exact Kd.V_mono HO_1.out (fun _ hk => ⟨⟨hk.1.1.1,⟨hk.1.2,⟨hk.2,⟨hk.1.1.2.2.1,hk.1.1.2.2.2⟩⟩⟩⟩,hk.1.1.2.1⟩)) hg hat)
   have n1_:=Aside0.mk (Kd.V_afterv (ok:=(fun k_ => ((P0_ k_ ∨ P1_ k_) ∨ w.heap.size ≤ k_)∧some k_ ≠ (.slice Ao26 y307.length co26 : Value).ownBlock∧some k_ ≠ (.slice Ao28 t310.length co28 : Value).ownBlock∧k_ ≠ gb305∧k_ ≠ gb306)) (by (with_reducible repeat (first|apply Kd.V_alloc|apply Kd.V_drewN|apply Kd.V_drew));exact Kd.V_mono HL303_1.out (fun _ hk => ⟨⟨hk.1.1.1,⟨hk.1.2,⟨hk.2,⟨hk.1.1.2.2.1,hk.1.1.2.2.2⟩⟩⟩⟩,hk.1.1.2.1⟩)) hg hat)
   have n2_:=Aside0.mk (Kd.V_afterv (ok:=(fun k_ => ((P0_ k_ ∨ P1_ k_) ∨ w.heap.size ≤ k_)∧some k_ ≠ (.slice Ao26 y307.length co26 : Value).ownBlock∧some k_ ≠ (.slice Ao28 t310.length co28 : Value).ownBlock∧k_ ≠ gb305∧k_ ≠ gb306)) (by (with_reducible repeat (first|apply Kd.V_alloc|apply Kd.V_drewN|apply Kd.V_drew));exact Kd.V_mono HL304_1.out (fun _ hk => ⟨⟨hk.1.1.1,⟨hk.1.2,⟨hk.2,⟨hk.1.1.2.2.1,hk.1.1.2.2.2⟩⟩⟩⟩,hk.1.1.2.1⟩)) hg hat)
   have n3_:=Aside0.mk (blk_grown (g:=gb305) (o:=.cells #[.int .i64 ((rd_T101 l1 x6_1).f0),.slice A303_1 ((rd_T101 l1 x6_1).f1).length c303_1] 101 (0,0)) (by (with_reducible repeat (first|refine blk_drewN ?_ _|refine blk_drew ?_|refine blk_alloc ?_ _));exact BK305.out) hg (Kd.N_away HO_5.out (fun _ hk => hk.1.1.2.1)))
   have n4_:=Aside0.mk (blk_grown (g:=gb306) (o:=.cells #[.int .i64 ((rd_T101 l1 (ji10)).f0),.slice A304_1 ((rd_T101 l1 (ji10)).f1).length c304_1] 101 (0,0)) (by (with_reducible repeat (first|refine blk_drewN ?_ _|refine blk_drew ?_|refine blk_alloc ?_ _));exact BK306.out) hg (Kd.N_away HO_5.out (fun _ hk => hk.1.1.2.2)))
   have n5_:=Aside0.mk (Kd.N_afterv (ok:=(fun k_ => ((P0_ k_ ∨ P1_ k_) ∨ w.heap.size ≤ k_)∧some k_ ≠ (.slice Ao28 t310.length co28 : Value).ownBlock∧k_ ≠ gb305∧k_ ≠ gb306)) (by (with_reducible repeat (first|apply Kd.N_alloc|apply Kd.N_drewN|apply Kd.N_drew));exact Kd.N_mono HO309.out (fun _ hk => ⟨⟨hk.1.1,⟨hk.2,⟨hk.1.2.2.1,hk.1.2.2.2⟩⟩⟩,hk.1.2.1⟩)) hg hat)
   have n6_:=Aside0.mk (hb)
   have n7_:=Aside0.mk (ho)
   clear HO_1
   clear HL303_1
   clear HL304_1
   clear BK305
   clear BK306
   clear HO309
   clear HB
   clear HO_5
   clear HO312
   have HO_1:=n0_
   have HL303_1:=n1_
   have HL304_1:=n2_
   have BK305:=n3_
   have BK306:=n4_
   have HO309:=n5_
   have HB:=n6_
   have HO315:=n7_
   clear n0_ n1_ n2_ n3_ n4_ n5_ n6_ n7_
   clear ho hb hg hat
   refine hK.out _ _ ⟨(blk_cell BK305.out 0).trans rfl,(blk_cell BK305.out 1).trans rfl,(blk_cell BK306.out 0).trans rfl,(blk_cell BK306.out 1).trans rfl⟩ (fun hHeld => ?_)
   clear hK K
   refine norm_ (a':=?_) ?_ ?_
   rotate_left
   ·show Act.put _ (some 42) _ = _
    simp only [sPu,sIa,sCz,sCs,i64_w,i32_w]
    rfl
   refine pure_ (i:=15) (N:=some 5) (v:=?_) (a':=?_) #[Y,Y,Y,Y,Y,Y,Y,Y,Y,Y,Y,Y,Y,Y,Y,Y] rfl rfl (any_of HT_.out (by kernel_rfl)) (fun _ _ _ h => h) (Or.inl ⟨by rfl,?_⟩) ?_ ?_
   rotate_left
   ·intro w'
    go_simp
    with_reducible rfl
   rotate_left
   ·simp only [sPu,sIa,sCz,sCs,i64_w,i32_w]
    rfl
   refine done_ (done_of HT_.out (by kernel_rfl)) ?_
   try go_wp2
   go_roundg k1
   case measure => have:=HK1.out;omega
   case rel => exact ⟨(y313),(wrap64 (x6_1 + 2)),(by first|rfl|(simp;done)|(simp [*];done)),H',⟨by have:=HK1.out;omega⟩,⟨by (with_reducible repeat (first|apply Kd.V_alloc|apply Kd.V_drewN|apply Kd.V_drew));exact Kd.V_mono HO_1.out (fun _ hk => ⟨hk.1.1,hk.2⟩)⟩,⟨by (with_reducible repeat (first|apply Kd.N_alloc|apply Kd.N_drewN|apply Kd.N_drew));exact Kd.N_mono HO315.out (fun _ hk => hk.1)⟩,⟨by repeat (first|(with_reducible first|exact HB.out|apply below_alloc|apply pw_below_drewN|apply below_drew1|refine below_set ?_ GE305.out|refine below_set ?_ GE306.out)|exact HB.out)⟩⟩
end Go.Proofs.Ytimomemkbcidnaa.PFnPackage
