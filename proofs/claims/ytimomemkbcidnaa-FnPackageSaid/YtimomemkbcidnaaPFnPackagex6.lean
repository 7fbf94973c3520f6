-- Written by a program of this session (a changed print); Lean checks it.
import Derived.Test.YtimomemkbcidnaaPFnPackagex0
import Derived.Test.YtimomemkbcidnaaPFnPackagex1
namespace Go.Proofs.Ytimomemkbcidnaa.PFnPackage
open Go.RowKit Go.Proofs.YtimomemkbcidnaaW.PrintWords Go.Proofs.YtimomemkbcidnaaW.PrintLast Go.Proofs.YtimomemkbcidnaaW.PrintMore
attribute [local go_sem] max2_int min2_int max_two min_two max_three min_three max_four min_four   -- for this text's walks alone
set_option linter.unusedVariables false
set_option linter.unusedSimpArgs false
open Act renaming put → sPu
open List renaming setIfInBounds_toArray → sIa, set_cons_zero → sCz, set_cons_succ → sCs
open Bool renaming true → Y, false → Z

-- NOT PRINTED: function 119 (impl_coin_119)

-- NOT PRINTED: function 125 (impl_coin_125)

-- NOT PRINTED: function 122 (impl_coin_122)

-- NOT PRINTED: function 120 (impl_coin_120)

-- NOT PRINTED: function 114 (impl_coin_114)

-- NOT PRINTED: function 98 (impl_coin_98)

/-! ### impl_coinsOf: function 70 -/
def impl_coinsOf.l0 : Nat → List (S101) → List Int → Int → Int → Option ((List (S101)))
  | 0, _, _, _, _ => none
  | k + 1, x3, x7, x8, x9 => if x9 < x8 then (if 0 ≤ x9 then (if x9 < (x7.length : Int) then (if (rd x7 x9) > 0 then (if x3.length < 4398046511104 then (impl_coinsOf.l0 k (x3 ++ [(⟨rd x7 x9, (([x9] : List Int))⟩ : S101)]) x7 x8 (wrap64 (x9 + 1))) else (none)) else (impl_coinsOf.l0 k x3 x7 x8 (wrap64 (x9 + 1)))) else (none)) else (none)) else (some x3)
def impl_coinsOf.u (k : Nat) (l0 : List Int) : Option ((List (S101))) := impl_coinsOf.l0 k (([] : List (S101))) l0 (l0.length : Int) 0
theorem impl_coinsOf.mono_l : ∀ k, (∀ y0 y1 y2 y3, LeO (impl_coinsOf.l0 k y0 y1 y2 y3) (impl_coinsOf.l0 (k + 1) y0 y1 y2 y3))
  | 0 => fun _ _ _ _ r h => by simp [impl_coinsOf.l0] at h
  | k + 1 => by
    have ih0 := impl_coinsOf.mono_l k
    · intro y0 y1 y2 y3
      unfold impl_coinsOf.l0
      repeat' first
      | (with_reducible exact ih0 _ _ _ _)
      | (with_reducible exact LeO.refl _)
      | (with_reducible exact LeO.none _)
      | (with_reducible refine LeO.ite ?_ ?_)
      | (with_reducible refine LeO.bind ?_ (fun _ => ?_))
      | exact ih0 _ _ _ _
      | exact LeO.none _
      | refine LeO.ite ?_ ?_
      | refine LeO.bind ?_ (fun _ => ?_)
theorem impl_coinsOf.monou : ∀ a0 k, LeO (impl_coinsOf.u k a0) (impl_coinsOf.u (k + 1) a0) := by
  intro a0 k
  have ih0 := impl_coinsOf.mono_l k
  unfold impl_coinsOf.u
  repeat' first
      | (with_reducible exact ih0 _ _ _ _)
      | (with_reducible exact LeO.refl _)
      | (with_reducible exact LeO.none _)
      | (with_reducible refine LeO.ite ?_ ?_)
      | (with_reducible refine LeO.bind ?_ (fun _ => ?_))
      | exact ih0 _ _ _ _
      | exact LeO.none _
      | refine LeO.ite ?_ ?_
      | refine LeO.bind ?_ (fun _ => ?_)
def impl_coinsOf.f (k : Nat) (l0 : List Int) : Option ((List (S101))) := (impl_coinsOf.u k l0).bind fun x_ => if x_.length < 1000000000000 then some (Go.Proofs.Ytimomemkbcidnaa.MStab.isort S101.f0 x_) else none
theorem impl_coinsOf.mono : ∀ l0 k, LeO (impl_coinsOf.f k l0) (impl_coinsOf.f (k + 1) l0) := by
  intro l0 k
  unfold impl_coinsOf.f
  exact LeO.bind (impl_coinsOf.monou l0 k) (fun _ => LeO.refl _)
theorem impl_coinsOf.weighs : Go.Proofs.Ytimomemkbcidnaa.MCoins.Weighs k101 S101.f0 := ⟨rfl, fun w x cs h => by
  obtain ⟨A1, c1, rfl, _, _⟩ := k101_open h
  exact ⟨_, rfl⟩⟩
set_option maxHeartbeats 8000000 in
set_option maxRecDepth 100000 in
theorem impl_coinsOf.calls (k : Nat) (A0 : Option Addr) (c0 : Nat) (l0 : List Int) (rs_ : List (S101)) (w : World) (hr0 : Kd.C (Kd.int .i64) w A0 l0.length l0) (hc0 : l0.length ≤ c0) (h : impl_coinsOf.f k l0 = some rs_) :
    Calls Try.prog 70 #[.slice A0 l0.length c0] w fun e w' => ∃ v0_ : Value, e = .returned (v0_) ∧ Kd.S k101 101 w' w.heap.size (fun _ => True) v0_ rs_ ∧ Below w.heap.size w w' := by
 unfold impl_coinsOf.f at h
 obtain ⟨r,hq_,hs_⟩:=Option.bind_eq_some_iff.mp h
 clear h
 have h:=hq_
 clear hq_
 have hl_ : r.length < 1000000000000 := by
  by_cases hl_ : r.length < 1000000000000
  ·exact hl_
  rw [if_neg hl_] at hs_
  cases hs_
 rw [if_pos hl_] at hs_
 obtain rfl:=Option.some.inj hs_
 clear hs_
 have HLEN_:=Aside0.mk hl_
 clear hl_
 have hu101:=Try.underlying101
 have HR0:=Aside0.mk hr0
 have HC0:=Aside0.mk hc0
 clear hr0 hc0
 have HB:=Aside0.mk (Below.refl w.heap.size w)
 have H : (impl_coinsOf.l0 k (([] : List (S101))) l0 (l0.length : Int) 0) = some r:=h
 clear h
 obtain ⟨y286,hy286⟩ : ∃ y_ : List (S101),y_ = (([] : List (S101))):=⟨_,rfl⟩
 replace H : (impl_coinsOf.l0 k y286 l0 (l0.length : Int) 0) = some r:=by first|(rw [hy286];with_reducible exact H)|(have H2_:=(Option.bind_some _ _).symm.trans H;rw [hy286];with_reducible exact H2_)|(have H2_:=(Option.bind_some _ _).symm.trans H;with_reducible exact H2_)|with_reducible exact H|(rw [hy286];exact H)|exact H
 have Ny286:=Aside0.mk hy286
 clear hy286
 have H':=Aside0.mk H
 clear H
 go_enter Try.func70,Try.ntmps70
 go_wp2_with (first|((with_reducible refine gate_dst (N:=6) rfl ?_);refine Kd.S_lit k101 _ 101 ?hg (N:=6) ?hd (xs:=([] : List (S101))) (inner:=[]) (ok:=fun _ => True) (okp:=fun _ => True) ?hr ?hp (fun _ hk => hk) trivial (Below.refl _ _) (Nat.le_refl _) (by simp) ?_;(case hd => rfl);(case hg => rfl);(case hr => first|(go_simp;done)|(go_simp;rfl));(case hp => exact (Reps.none _ _));intro v287 w2 ho3 hb hg_ hnew_;clear hg_ hnew_;(first|rw [← Ny286.out] at ho3|(simp only [Int.reduceToNat] at ho3;rw [← Ny286.out] at ho3));have n0_:=Aside0.mk (Kd.S_lower ho3 (below_size (by repeat (first|(with_reducible first|exact HB.out|apply below_alloc|apply pw_below_drewN|apply below_drew1)|exact HB.out))));have n1_:=Aside0.mk (below_step (by repeat (first|(with_reducible first|exact HB.out|apply below_alloc|apply pw_below_drewN|apply below_drew1)|exact HB.out)) hb);clear HB;have HO288:=n0_;have HB:=n1_;clear n0_ n1_;clear hb ho3))
 go_loopg [3,9] k (fun kq v3 v9 w' => ∃ (x3_1 : List (S101)) (x9_1 : Int),v9 = .int .i64 x9_1∧Aside0 (impl_coinsOf.l0 kq x3_1 l0 (l0.length : Int) x9_1 = some r)∧Aside0 (kq ≤ k)∧Aside0 (Kd.S k101 101 w' w.heap.size (fun _ => True) v3 x3_1)∧Aside0 (Below w.heap.size w w'))
 case atStart => exact ⟨(y286),(0),(by first|rfl|(simp;done)|(simp [*];done)),H',⟨Nat.le_refl _⟩,⟨by (with_reducible repeat (first|apply Kd.S_alloc|apply Kd.S_drewN|apply Kd.S_drew));exact HO288.out⟩,⟨by repeat (first|(with_reducible first|exact HB.out|apply below_alloc|apply pw_below_drewN|apply below_drew1)|exact HB.out)⟩⟩
 case round =>
  clear H'
  obtain ⟨x3_1,x9_1,rfl,HA,HK1,HO_3,HB⟩:=hrel
  cases gk with
  | zero => exact absurd HA.out (by simp [impl_coinsOf.l0])
  | succ k1 =>
   have H:=HA.out
   clear HA
   simp only [impl_coinsOf.l0] at H
   by_cases c4 : x9_1 < (l0.length : Int)
   rotate_left
   ·rw [if_neg c4] at H
    have c4b0 : decide (x9_1 < (l0.length : Int)) = false:=decide_eq_false c4
    clear c4
    obtain rfl:=Option.some.inj H
    go_wp2_with (go_at_call 98;refine (Go.Proofs.Ytimomemkbcidnaa.MCoins.sortS _ Go.Proofs.Ytimomemkbcidnaa.MCoins.enters1 Go.Proofs.Ytimomemkbcidnaa.MCoins.closure1 impl_coinsOf.weighs (Nat.lt_trans HLEN_.out (by decide)) HO_3.out).mono ?_;rintro e_ w_ ⟨rfl,hg_,hs_⟩;have HOS_:=Aside0.mk hs_;have HBS_:=Aside0.mk (HB.out.grown hg_ HB.out.size (Kd.R_base (Kd.S_R HO_3.out)));clear hg_ hs_)
    go_ret
    exact ⟨_,rfl,HOS_.out,HBS_.out⟩
   rw [if_pos c4] at H
   have c4b0 : decide (x9_1 < (l0.length : Int)) = true:=decide_eq_true c4
   clear c4
   by_cases c5 : 0 ≤ x9_1
   rotate_left
   ·rw [if_neg c5] at H
    exact absurd H (by simp)
   rw [if_pos c5] at H
   have c5b0 : decide (0 ≤ x9_1) = true:=decide_eq_true c5
   clear c5
   by_cases c6 : x9_1 < (l0.length : Int)
   rotate_left
   ·rw [if_neg c6] at H
    exact absurd H (by simp)
   rw [if_pos c6] at H
   have c6b0 : decide (x9_1 < (l0.length : Int)) = true:=decide_eq_true c6
   clear c6
   by_cases c7 : (rd l0 x9_1) > 0
   rotate_left
   ·rw [if_neg c7] at H
    have c7b0 : decide (0 < (rd l0 x9_1)) = false:=decide_eq_false c7
    clear c7
    have H':=Aside0.mk H
    clear H
    have p289 : 0 ≤ (x9_1 : Int):=of_decide_eq_true (by assumption)
    have q289 : x9_1 < (l0.length : Int):=of_decide_eq_true (by assumption)
    obtain ⟨ad289,e289,hx289_0⟩:=Kd.at_int HR0.out x9_1 p289 q289
    cases e289
    replace hx289_0:=(HB.out.cell (World.block_lt_of_cell? w _ hx289_0)).trans hx289_0
    replace p289:=eq_true p289
    replace q289:=eq_true q289
    go_wp2
    go_roundg k1
    case measure => have:=HK1.out;omega
    case rel => exact ⟨(x3_1),(wrap64 (x9_1 + 1)),(by first|rfl|(simp;done)|(simp [*];done)),H',⟨by have:=HK1.out;omega⟩,⟨by (with_reducible repeat (first|apply Kd.S_alloc|apply Kd.S_drewN|apply Kd.S_drew));exact HO_3.out⟩,⟨by repeat (first|(with_reducible first|exact HB.out|apply below_alloc|apply pw_below_drewN|apply below_drew1)|exact HB.out)⟩⟩
   rw [if_pos c7] at H
   have c7b0 : decide (0 < (rd l0 x9_1)) = true:=decide_eq_true c7
   clear c7
   obtain ⟨y290,hy290⟩ : ∃ y_ : List Int,y_ = (([x9_1] : List Int)):=⟨_,rfl⟩
   replace H : (if x3_1.length < 4398046511104 then (impl_coinsOf.l0 k1 (x3_1 ++ [(⟨rd l0 x9_1,y290⟩ : S101)]) l0 (l0.length : Int) (wrap64 (x9_1 + 1))) else (none)) = some r:=by first|(rw [hy290];with_reducible exact H)|(have H2_:=(Option.bind_some _ _).symm.trans H;rw [hy290];with_reducible exact H2_)|(have H2_:=(Option.bind_some _ _).symm.trans H;with_reducible exact H2_)|with_reducible exact H|(rw [hy290];exact H)|exact H
   have Ny290:=Aside0.mk hy290
   clear hy290
   by_cases c8 : x3_1.length < 4398046511104
   rotate_left
   ·rw [if_neg c8] at H
    exact absurd H (by simp)
   rw [if_pos c8] at H
   have LMc8:=Aside0.mk c8
   clear c8
   obtain ⟨y293,hy293⟩ : ∃ y_ : List (S101),y_ = (x3_1 ++ [(⟨rd l0 x9_1,y290⟩ : S101)]):=⟨_,rfl⟩
   replace H : (impl_coinsOf.l0 k1 y293 l0 (l0.length : Int) (wrap64 (x9_1 + 1))) = some r:=by first|(rw [hy293];with_reducible exact H)|(have H2_:=(Option.bind_some _ _).symm.trans H;rw [hy293];with_reducible exact H2_)|(have H2_:=(Option.bind_some _ _).symm.trans H;with_reducible exact H2_)|with_reducible exact H|(rw [hy293];exact H)|exact H
   have Ny293:=Aside0.mk hy293
   clear hy293
   have H':=Aside0.mk H
   clear H
   have p289 : 0 ≤ (x9_1 : Int):=of_decide_eq_true (by assumption)
   have q289 : x9_1 < (l0.length : Int):=of_decide_eq_true (by assumption)
   obtain ⟨ad289,e289,hx289_0⟩:=Kd.at_int HR0.out x9_1 p289 q289
   cases e289
   replace hx289_0:=(HB.out.cell (World.block_lt_of_cell? w _ hx289_0)).trans hx289_0
   replace p289:=eq_true p289
   replace q289:=eq_true q289
   go_wp2_with (first|((with_reducible refine gate_dst (N:=19) rfl ?_);refine Kd.R_lit (Kd.int .i64) _ 3 ?hg (N:=19) ?hd (xs:=([x9_1] : List Int)) (inner:=[.int .i64 x9_1]) (ok:=fun _ => True) (okp:=fun _ => True) ?hr ?hp (fun _ hk => hk) trivial (Below.refl _ _) (Nat.le_refl _) (by simp) ?_;(case hd => rfl);(case hg => rfl);(case hr => first|(go_simp;done)|(go_simp;rfl));(case hp => exact (Reps.one (show Kd.M (Kd.int .i64) _ _ _ x9_1 [.int .i64 x9_1] from rfl) (Reps.none _ _)));intro v291 w9 ho10 hb hg_ hnew_;clear hg_ hnew_;(first|rw [← Ny290.out] at ho10|(simp only [Int.reduceToNat] at ho10;rw [← Ny290.out] at ho10));have n0_:=Aside0.mk (Kd.S_elder' (by (with_reducible repeat (first|apply Kd.S_alloc|apply Kd.S_drewN|apply Kd.S_drew));exact HO_3.out) (Kd.R_base ho10) hb);have n1_:=Aside0.mk (Kd.R_lower ho10 (below_size (by repeat (first|(with_reducible first|exact HB.out|apply below_alloc|apply pw_below_drewN|apply below_drew1)|exact HB.out))));have n2_:=Aside0.mk (below_step (by repeat (first|(with_reducible first|exact HB.out|apply below_alloc|apply pw_below_drewN|apply below_drew1)|exact HB.out)) hb);clear HO_3;clear HB;have HO_3:=n0_;have HO292:=n1_;have HB:=n2_;clear n0_ n1_ n2_;clear hb ho10;obtain ⟨Ao11,co11,eo11⟩:=Kd.R_slice HO292.out;subst eo11)|((with_reducible refine gate_builtin (b:=.append) (xs:=#[.tmp 16,.tmp 21]) rfl ?_);at_builtin;refine Kd.S_append k101 (w0:=w) w.heap.size rfl (.tmp 16) (.tmp 21) 98 101 (.agg #[(.int .i64 0),(.slice none 0 0)]) 32 rfl Try.underlying98 info101 rfl (by decide) (by omega) u3 x3_1 (⟨rd l0 x9_1,y290⟩ : S101) [.int .i64 (rd l0 x9_1),.slice Ao11 y290.length co11] (fun _ => True) (fun k_ => some k_ = (.slice Ao11 y290.length co11 : Value).ownBlock) rfl rfl ?aP (fun k_ hk_ => ((Kd.R_mono (ok':=fun k_ => ((fun _ => True)) k_∧some k_ ≠ (u3 : Value).ownBlock) (Kd.R_apart' (HO292.out) (Kd.S_typed HO_3.out) (by decide)) (fun k_ hk => ⟨trivial,hk.2⟩))).1 k_ hk_.symm) ?aF ?aO ?aB ?aS ?aL ?_;(case aP => exact k101_mkM _ _ _ (⟨rd l0 x9_1,y290⟩ : S101) (Kd.R_mono (Kd.R_tight rfl (Kd.R_mono (ok':=fun k_ => ((fun _ => True)) k_∧some k_ ≠ (u3 : Value).ownBlock) (Kd.R_apart' (HO292.out) (Kd.S_typed HO_3.out) (by decide)) (fun k_ hk => ⟨trivial,hk.2⟩))) (fun _ h_ => h_)));(case aB => exact (by repeat (first|(with_reducible first|exact HB.out|apply below_alloc|apply pw_below_drewN|apply below_drew1)|exact HB.out)));(case aF => exact (fun _ _ => trivial));(case aO => exact (by (with_reducible repeat (first|apply Kd.S_alloc|apply Kd.S_drewN|apply Kd.S_drew));exact Kd.S_mono HO_3.out (fun k_ hk => ⟨trivial,fun e_ => hk.2 e_⟩)));(case aS => exact (below_size (by repeat (first|(with_reducible first|exact HB.out|apply below_alloc|apply pw_below_drewN|apply below_drew1)|exact HB.out))));(case aL => have:=LMc8.out;omega);intro v294 w12 ho hb hg hat;rw [← Ny293.out] at ho;have n0_:=Aside0.mk (hb);have n1_:=Aside0.mk (ho);clear HB;clear HO_3;clear HO292;have HB:=n0_;have HO295:=n1_;clear n0_ n1_;clear ho hb hg hat))
   go_roundg k1
   case measure => have:=HK1.out;omega
   case rel => exact ⟨(y293),(wrap64 (x9_1 + 1)),(by first|rfl|(simp;done)|(simp [*];done)),H',⟨by have:=HK1.out;omega⟩,⟨by (with_reducible repeat (first|apply Kd.S_alloc|apply Kd.S_drewN|apply Kd.S_drew));exact HO295.out⟩,⟨by repeat (first|(with_reducible first|exact HB.out|apply below_alloc|apply pw_below_drewN|apply below_drew1)|exact HB.out)⟩⟩
/-! ### impl_powerOf: function 71 -/
def impl_powerOf.f (a0 : Int) : Option (Int) := (impl_within.f a0 0 62).bind fun t296 => (if t296 = true then (if 0 ≤ a0 then (some (shl .i64 1 a0)) else (none)) else (some 0))
set_option maxHeartbeats 8000000 in
set_option maxRecDepth 100000 in
theorem impl_powerOf.calls (a0 : Int) (r : Int) (w : World) (h : impl_powerOf.f a0 = some r) :
    Calls Try.prog 71 #[.int .i64 a0] w fun e w' => e = .returned (.int .i64 r) ∧ Drawn0 w w' := by
 have H : ((impl_within.f a0 0 62).bind fun t296 => (if t296 = true then (if 0 ≤ a0 then (some (shl .i64 1 a0)) else (none)) else (some 0))) = some r:=h
 clear h
 replace H:=Option.bind_eq_some_iff.mp H
 obtain ⟨t296,A20,H⟩:=H
 replace H : (if t296 = true then (if 0 ≤ a0 then (some (shl .i64 1 a0)) else (none)) else (some 0)) = some r:=H
 have A2:=Aside0.mk A20
 clear A20
 by_cases c3 : t296 = true
 rotate_left
 ·replace c3:=Bool.eq_false_iff.mpr c3
  subst c3
  have H1 : (some 0) = some r:=by rw [if_neg (show ¬ (false = true) by decide)] at H;exact H
  clear H
  have H:=H1
  clear H1
  obtain rfl:=Option.some.inj H
  go_enter Try.func71,Try.ntmps71
  go_wp2_with (first|((with_reducible refine gate_callee (f:=53) rfl ?_);refine goesL_ (some 4) rfl rfl Try.func53 (by kernel_rfl) rfl #[.int .i64 a0,.int .i64 0,.int .i64 62] rfl (by (try simp only [List.map_toArray,List.map_cons,List.map_nil]);first|done|rfl|(simp only [List.length_drop,List.length_take];rfl)) ?_;(with_reducible refine (impl_within.calls a0 0 62 false _ A2.out).mono ?_);rintro e w' ⟨rfl,⟨nd,rfl⟩⟩;refine ⟨_,rfl,?_⟩))
  go_ret
  exact ⟨by first|rfl|(simp;done)|(simp [*];done),by repeat (first|exact Drawn0.refl _|apply Drawn0.step)⟩
 subst c3
 have H1 : (if 0 ≤ a0 then (some (shl .i64 1 a0)) else (none)) = some r:=by rw [if_pos rfl] at H;exact H
 clear H
 have H:=H1
 clear H1
 by_cases c4 : 0 ≤ a0
 rotate_left
 ·rw [if_neg c4] at H
  exact absurd H (by simp)
 rw [if_pos c4] at H
 have c4b0:=eq_true c4
 have c4b1 : decide (0 ≤ a0) = true:=decide_eq_true c4
 clear c4
 obtain ⟨ji5,hji5⟩ : ∃ j_ : Int,(shl .i64 1 a0) = j_:=⟨_,rfl⟩
 replace H : (some ji5) = some r:=by first|(rw [hji5] at H;exact H)|(simp only [hji5] at H ⊢;exact H)
 (try rw [hji5] at A2)
 have hji5_ : (IntKind.i64.wrap (1 * 2 ^ min a0.toNat 64)) = ji5:=hji5
 have hji5z : a0 ≤ 64 → (IntKind.i64.wrap (1 * 2 ^ a0.toNat)) = ji5:=shl_small hji5
 have hji5u : (IntKind.i64.wrap (2 ^ min a0.toNat 64)) = ji5:=by have h_:=hji5_;rw [Int.one_mul] at h_;exact h_
 have hji5v : a0 ≤ 64 → (IntKind.i64.wrap (2 ^ a0.toNat)) = ji5:=fun hle_ => by have h_:=hji5z hle_;rw [Int.one_mul] at h_;exact h_
 have hji5y : (wrap64 (1 * 2 ^ min a0.toNat 64)) = ji5:=(i64_w _).symm.trans hji5_
 have hji5x : a0 ≤ 64 → (wrap64 (1 * 2 ^ a0.toNat)) = ji5:=fun h_ => (i64_w _).symm.trans (hji5z h_)
 obtain rfl:=Option.some.inj H
 go_enter Try.func71,Try.ntmps71
 go_wp2_with (first|((with_reducible refine gate_callee (f:=53) rfl ?_);refine goesL_ (some 4) rfl rfl Try.func53 (by kernel_rfl) rfl #[.int .i64 a0,.int .i64 0,.int .i64 62] rfl (by (try simp only [List.map_toArray,List.map_cons,List.map_nil]);first|done|rfl|(simp only [List.length_drop,List.length_take];rfl)) ?_;(with_reducible refine (impl_within.calls a0 0 62 true _ A2.out).mono ?_);rintro e w' ⟨rfl,⟨nd,rfl⟩⟩;refine ⟨_,rfl,?_⟩))
 go_ret
 exact ⟨by first|rfl|(simp;done)|(simp only [← hji5] <;> (first|rfl|simp))|(simp [*];done),by repeat (first|exact Drawn0.refl _|apply Drawn0.step)⟩
-- NOT PRINTED: function 116 (slices_Grow_int_int)

/-! ### slices_Concat_int_int: function 101 -/
def slices_Concat_int_int.f (l0 : List (List Int)) : Option (List Int) := Go.Proofs.Ytimomemkbcidnaa.MCoins.concatF l0
set_option maxHeartbeats 8000000 in
set_option maxRecDepth 100000 in
theorem slices_Concat_int_int.calls (A0 : Option Addr) (c0 : Nat) (l0 : List (List Int)) (r : List Int) (w : World) (hr0 : Kd.C (Kd.slice 3 (Kd.int .i64)) w A0 l0.length l0) (hc0 : l0.length ≤ c0) (h : slices_Concat_int_int.f l0 = some r) :
    Calls Try.prog 101 #[.slice A0 l0.length c0] w fun e w' => ∃ v0_ : Value, e = .returned (v0_) ∧ Kd.R (Kd.int .i64) 3 w' w.heap.size (fun _ => True) v0_ r ∧ Below w.heap.size w w' := by
 exact Go.Proofs.Ytimomemkbcidnaa.MCoins.concat_f A0 c0 l0 r w hr0 h
end Go.Proofs.Ytimomemkbcidnaa.PFnPackage
