-- Written by a program of this session (a changed print); Lean checks it.
import Derived.Test.YtimomemkbcidnaaPFnExactTokenLengthsx0
import Derived.Test.YtimomemkbcidnaaPFnExactTokenLengthsx8
import Derived.Test.YtimomemkbcidnaaPFnExactTokenLengthsx9
namespace Go.Proofs.Ytimomemkbcidnaa.PFnExactTokenLengths
open Go.RowKit Go.Proofs.YtimomemkbcidnaaW.PrintWords Go.Proofs.YtimomemkbcidnaaW.PrintLast Go.Proofs.YtimomemkbcidnaaW.PrintMore
attribute [local go_sem] max2_int min2_int max_two min_two max_three min_three max_four min_four   -- for this text's walks alone
set_option linter.unusedVariables false
set_option linter.unusedSimpArgs false
open Act renaming put → sPu
open List renaming setIfInBounds_toArray → sIa, set_cons_zero → sCz, set_cons_succ → sCs
open Bool renaming true → Y, false → Z

/-! ### impl_TokenLengths: function 44 -/
def impl_TokenLengths.l0 : Nat → List Int → List Int → List (S107) → Int → Int → Option (List Int × List Int × Bool)
  | 0, _, _, _, _, _ => none
  | k + 1, x5, x6, x26, x27, x28 => if x28 < x27 then (if 0 ≤ x28 then (if x28 < (x26.length : Int) then (if ((rd_T107 x26 x28).f1) = 0 then (if 0 ≤ ((rd_T107 x26 x28).f0) then (if ((rd_T107 x26 x28).f0) < (x5.length : Int) then (impl_TokenLengths.l0 k (x5.set (((rd_T107 x26 x28).f0) : Int).toNat (wrap64 ((rd x5 ((rd_T107 x26 x28).f0)) + 1))) x6 x26 x27 (wrap64 (x28 + 1))) else (none)) else (none)) else ((impl_LengthCode.f k ((rd_T107 x26 x28).f1)).bind fun bt388 => ((impl_DistCode.f k ((rd_T107 x26 x28).f2)).bind fun bt391 => (if 0 ≤ bt388.1 then (if bt388.1 < (x5.length : Int) then (if 0 ≤ bt391.1 then (if bt391.1 < (x6.length : Int) then (impl_TokenLengths.l0 k (x5.set (bt388.1 : Int).toNat (wrap64 ((rd x5 bt388.1) + 1))) (x6.set (bt391.1 : Int).toNat (wrap64 ((rd x6 bt391.1) + 1))) x26 x27 (wrap64 (x28 + 1))) else (none)) else (none)) else (none)) else (none))))) else (none)) else (none)) else ((impl_LimitedLengths.f k x5 15).bind fun bt398 => ((impl_LimitedLengths.f k x6 15).bind fun bt402 => ((impl_trimmed.f k bt398.1 257).bind fun t406 => ((impl_trimmed.f k bt402.1 1).bind fun t409 => (some (t406, t409, true))))))
def impl_TokenLengths.f (k : Nat) (l0 : List (S107)) : Option (List Int × List Int × Bool) := (impl_tokensOk.f k l0).bind fun t376 => (if t376 = true then (if 286 ≤ 35184372088832 then ((some (List.replicate 286 0 : List Int)).bind fun y377 => (if 30 ≤ 35184372088832 then (if 256 < (y377.length : Int) then (impl_TokenLengths.l0 k (y377.set (256 : Int).toNat 1) (List.replicate 30 0) l0 (l0.length : Int) 0) else (none)) else (none))) else (none)) else (some (([] : List Int), ([] : List Int), false)))
theorem impl_TokenLengths.mono_l : ∀ k, (∀ y0 y1 y2 y3 y4, LeO (impl_TokenLengths.l0 k y0 y1 y2 y3 y4) (impl_TokenLengths.l0 (k + 1) y0 y1 y2 y3 y4))
  | 0 => fun _ _ _ _ _ r h => by simp [impl_TokenLengths.l0] at h
  | k + 1 => by
    have ih0 := impl_TokenLengths.mono_l k
    · intro y0 y1 y2 y3 y4
      unfold impl_TokenLengths.l0
      repeat' first
      | (with_reducible exact ih0 _ _ _ _ _)
      | (with_reducible exact impl_DistCode.mono _ _)
      | (with_reducible exact impl_LengthCode.mono _ _)
      | (with_reducible exact impl_LimitedLengths.mono _ _ _)
      | (with_reducible exact impl_tokensOk.mono _ _)
      | (with_reducible exact impl_trimmed.mono _ _ _)
      | (with_reducible exact LeO.refl _)
      | (with_reducible exact LeO.none _)
      | (with_reducible refine LeO.ite ?_ ?_)
      | (with_reducible refine LeO.bind ?_ (fun _ => ?_))
      | exact ih0 _ _ _ _ _
      | exact impl_DistCode.mono _ _
      | exact impl_LengthCode.mono _ _
      | exact impl_LimitedLengths.mono _ _ _
      | exact impl_tokensOk.mono _ _
      | exact impl_trimmed.mono _ _ _
      | exact LeO.none _
      | refine LeO.ite ?_ ?_
      | refine LeO.bind ?_ (fun _ => ?_)
theorem impl_TokenLengths.mono : ∀ a0 k, LeO (impl_TokenLengths.f k a0) (impl_TokenLengths.f (k + 1) a0) := by
  intro a0 k
  have ih0 := impl_TokenLengths.mono_l k
  unfold impl_TokenLengths.f
  repeat' first
      | (with_reducible exact ih0 _ _ _ _ _)
      | (with_reducible exact impl_DistCode.mono _ _)
      | (with_reducible exact impl_LengthCode.mono _ _)
      | (with_reducible exact impl_LimitedLengths.mono _ _ _)
      | (with_reducible exact impl_tokensOk.mono _ _)
      | (with_reducible exact impl_trimmed.mono _ _ _)
      | (with_reducible exact LeO.refl _)
      | (with_reducible exact LeO.none _)
      | (with_reducible refine LeO.ite ?_ ?_)
      | (with_reducible refine LeO.bind ?_ (fun _ => ?_))
      | exact ih0 _ _ _ _ _
      | exact impl_DistCode.mono _ _
      | exact impl_LengthCode.mono _ _
      | exact impl_LimitedLengths.mono _ _ _
      | exact impl_tokensOk.mono _ _
      | exact impl_trimmed.mono _ _ _
      | exact LeO.none _
      | refine LeO.ite ?_ ?_
      | refine LeO.bind ?_ (fun _ => ?_)
set_option maxHeartbeats 8000000 in
set_option maxRecDepth 100000 in
theorem impl_TokenLengths.calls (k : Nat) (A0 : Option Addr) (c0 : Nat) (l0 : List (S107)) (r1 : List Int) (r2 : List Int) (r3 : Bool) (w : World) (hr0 : Kd.C k107 w A0 l0.length l0) (hc0 : l0.length ≤ c0) (h : impl_TokenLengths.f k l0 = some (r1, r2, r3)) :
    Calls Try.prog 44 #[.slice A0 l0.length c0] w fun e w' => ∃ v0_ v1_ : Value, e = .returned (.tuple #[v0_, v1_, .bool r3]) ∧ Kd.R (Kd.int .i64) 3 w' w.heap.size (fun k_ => some k_ ≠ (v1_ : Value).ownBlock) v0_ r1 ∧ Kd.R (Kd.int .i64) 3 w' w.heap.size (fun k_ => some k_ ≠ (v0_ : Value).ownBlock) v1_ r2 ∧ Below w.heap.size w w' := by
 have hu107:=Try.underlying107
 have HR0:=Aside0.mk hr0
 have HC0:=Aside0.mk hc0
 clear hr0 hc0
 have HB:=Aside0.mk (Below.refl w.heap.size w)
 have H : ((impl_tokensOk.f k l0).bind fun t376 => (if t376 = true then (if 286 ≤ 35184372088832 then ((some (List.replicate 286 0 : List Int)).bind fun y377 => (if 30 ≤ 35184372088832 then (if 256 < (y377.length : Int) then (impl_TokenLengths.l0 k (y377.set (256 : Int).toNat 1) (List.replicate 30 0) l0 (l0.length : Int) 0) else (none)) else (none))) else (none)) else (some (([] : List Int),([] : List Int),false)))) = some (r1,r2,r3):=h
 clear h
 replace H:=Option.bind_eq_some_iff.mp H
 obtain ⟨t376,A20,H⟩:=H
 replace H : (if t376 = true then (if 286 ≤ 35184372088832 then ((some (List.replicate 286 0 : List Int)).bind fun y377 => (if 30 ≤ 35184372088832 then (if 256 < (y377.length : Int) then (impl_TokenLengths.l0 k (y377.set (256 : Int).toNat 1) (List.replicate 30 0) l0 (l0.length : Int) 0) else (none)) else (none))) else (none)) else (some (([] : List Int),([] : List Int),false))) = some (r1,r2,r3):=H
 have A2:=Aside0.mk A20
 clear A20
 by_cases c3 : t376 = true
 rotate_left
 ·replace c3:=Bool.eq_false_iff.mpr c3
  subst c3
  have H1 : (some (([] : List Int),([] : List Int),false)) = some (r1,r2,r3):=by rw [if_neg (show ¬ (false = true) by decide)] at H;exact H
  clear H
  have H:=H1
  clear H1
  simp only [Option.some.injEq,Prod.mk.injEq] at H
  obtain ⟨rfl,rfl,rfl⟩:=H
  go_enter Try.func44,Try.ntmps44
  go_wp2_with (first|((with_reducible refine gate_callee (f:=81) rfl ?_);refine goesL_ (some 20) rfl rfl Try.func81 (by kernel_rfl) rfl #[.slice A0 l0.length c0] rfl (by (try simp only [List.map_toArray,List.map_cons,List.map_nil]);first|done|rfl|(simp only [List.length_drop,List.length_take];rfl)) ?_;(with_reducible refine (impl_tokensOk.calls k _ _ l0 false _ ?side1 ?side2 A2.out).mono ?_);(case side1 => repeat (first|exact HR0.out|(with_reducible refine Kd.C_alloc ?_ _)|(with_reducible refine Kd.C_drewN ?_ _)|(with_reducible refine Kd.C_drew ?_)));(case side2 => exact HC0.out);rintro e w56 ⟨rfl,hb⟩;refine ⟨_,rfl,?_⟩;have n0_:=Aside0.mk (below_step (by repeat (first|(with_reducible first|exact HB.out|apply below_alloc|apply pw_below_drewN|apply below_drew1)|exact HB.out)) hb);clear HB;have HB:=n0_;clear n0_;(try clear hb);(try clear hb2);(try clear hk);(try clear hi)))
  go_ret3
  exact ⟨_,_,by first|rfl|(simp [errW_none,errW_some] <;> rfl)|(simp [*,errW_none,errW_some] <;> rfl),by first|exact Kd.R_nil _ _ _ _ _|exact Kd.N_nil _ _ _ _ _|exact Kd.V_nil _ _ _ _ _|exact Kd.Q_nil _ _ _ _ _|exact Kd.S_nil _ _ _ _ _,by first|exact Kd.R_nil _ _ _ _ _|exact Kd.N_nil _ _ _ _ _|exact Kd.V_nil _ _ _ _ _|exact Kd.Q_nil _ _ _ _ _|exact Kd.S_nil _ _ _ _ _,by repeat (first|(with_reducible first|exact HB.out|apply below_alloc|apply pw_below_drewN|apply below_drew1)|exact HB.out)⟩
 subst c3
 have H1 : (if 286 ≤ 35184372088832 then ((some (List.replicate 286 0 : List Int)).bind fun y377 => (if 30 ≤ 35184372088832 then (if 256 < (y377.length : Int) then (impl_TokenLengths.l0 k (y377.set (256 : Int).toNat 1) (List.replicate 30 0) l0 (l0.length : Int) 0) else (none)) else (none))) else (none)) = some (r1,r2,r3):=by rw [if_pos rfl] at H;exact H
 clear H
 have H:=H1
 clear H1
 by_cases c4 : 286 ≤ 35184372088832
 rotate_left
 ·rw [if_neg c4] at H
  exact absurd H (by simp)
 rw [if_pos c4] at H
 have c4b0:=eq_true c4
 have c4b1 : decide (286 ≤ 35184372088832) = true:=decide_eq_true c4
 clear c4
 obtain ⟨y377,hy377⟩ : ∃ y_ : List Int,y_ = (List.replicate 286 0):=⟨_,rfl⟩
 replace H : (if 30 ≤ 35184372088832 then (if 256 < (y377.length : Int) then (impl_TokenLengths.l0 k (y377.set (256 : Int).toNat 1) (List.replicate 30 0) l0 (l0.length : Int) 0) else (none)) else (none)) = some (r1,r2,r3):=by first|(rw [hy377];with_reducible exact H)|(have H2_:=(Option.bind_some _ _).symm.trans H;rw [hy377];with_reducible exact H2_)|(have H2_:=(Option.bind_some _ _).symm.trans H;with_reducible exact H2_)|with_reducible exact H|(rw [hy377];exact H)|exact H
 have Ny377:=Aside0.mk hy377
 clear hy377
 by_cases c5 : 30 ≤ 35184372088832
 rotate_left
 ·rw [if_neg c5] at H
  exact absurd H (by simp)
 rw [if_pos c5] at H
 have c5b0:=eq_true c5
 have c5b1 : decide (30 ≤ 35184372088832) = true:=decide_eq_true c5
 clear c5
 obtain ⟨y380,hy380⟩ : ∃ y_ : List Int,y_ = (List.replicate 30 0):=⟨_,rfl⟩
 replace H : (if 256 < (y377.length : Int) then (impl_TokenLengths.l0 k (y377.set (256 : Int).toNat 1) y380 l0 (l0.length : Int) 0) else (none)) = some (r1,r2,r3):=by first|(rw [hy380];with_reducible exact H)|(have H2_:=(Option.bind_some _ _).symm.trans H;rw [hy380];with_reducible exact H2_)|(have H2_:=(Option.bind_some _ _).symm.trans H;with_reducible exact H2_)|with_reducible exact H|(rw [hy380];exact H)|exact H
 have Ny380:=Aside0.mk hy380
 clear hy380
 by_cases c6 : 256 < (y377.length : Int)
 rotate_left
 ·rw [if_neg c6] at H
  exact absurd H (by simp)
 rw [if_pos c6] at H
 have c6b0 : decide (256 < (y377.length : Int)) = true:=decide_eq_true c6
 have c6b1 : decide (256 < y377.length) = true:=decide_eq_true (by omega)
 clear c6
 obtain ⟨y383,hy383⟩ : ∃ y_ : List Int,y_ = (y377.set (256 : Int).toNat 1):=⟨_,rfl⟩
 replace H : (impl_TokenLengths.l0 k y383 y380 l0 (l0.length : Int) 0) = some (r1,r2,r3):=by first|(rw [hy383];with_reducible exact H)|(have H2_:=(Option.bind_some _ _).symm.trans H;rw [hy383];with_reducible exact H2_)|(have H2_:=(Option.bind_some _ _).symm.trans H;with_reducible exact H2_)|with_reducible exact H|(rw [hy383];exact H)|exact H
 have Ny383:=Aside0.mk hy383
 clear hy383
 have H':=Aside0.mk H
 clear H
 go_enter Try.func44,Try.ntmps44
 go_wp2_with (first|((with_reducible refine gate_callee (f:=81) rfl ?_);refine goesL_ (some 20) rfl rfl Try.func81 (by kernel_rfl) rfl #[.slice A0 l0.length c0] rfl (by (try simp only [List.map_toArray,List.map_cons,List.map_nil]);first|done|rfl|(simp only [List.length_drop,List.length_take];rfl)) ?_;(with_reducible refine (impl_tokensOk.calls k _ _ l0 true _ ?side1 ?side2 A2.out).mono ?_);(case side1 => repeat (first|exact HR0.out|(with_reducible refine Kd.C_alloc ?_ _)|(with_reducible refine Kd.C_drewN ?_ _)|(with_reducible refine Kd.C_drew ?_)));(case side2 => exact HC0.out);rintro e w8 ⟨rfl,hb⟩;refine ⟨_,rfl,?_⟩;have n0_:=Aside0.mk (below_step (by repeat (first|(with_reducible first|exact HB.out|apply below_alloc|apply pw_below_drewN|apply below_drew1)|exact HB.out)) hb);clear HB;have HB:=n0_;clear n0_;(try clear hb);(try clear hb2);(try clear hk);(try clear hi))|((with_reducible refine gate_dst (N:=22) rfl ?_);refine Kd.R_make (Kd.int .i64) _ 3 rfl (N:=22) rfl 22 _ _ rfl 286 rfl rfl Try.underlying22 (.int .i64 0) 8 info3 rfl (by decide) (by omega) 0 (ok:=fun _ => True) (okp:=fun _ => True) rfl (fun _ hk => hk) trivial (by omega) (by omega) (Below.refl _ _) (Nat.le_refl _) ?_;intro v378 w9 ho10 hb hg_ hnew_;clear hg_ hnew_;(first|rw [← Ny377.out] at ho10|(simp only [Int.reduceToNat] at ho10;rw [← Ny377.out] at ho10));have n0_:=Aside0.mk (Kd.R_lower ho10 (below_size (by repeat (first|(with_reducible first|exact HB.out|apply below_alloc|apply pw_below_drewN|apply below_drew1)|exact HB.out))));have n1_:=Aside0.mk (below_step (by repeat (first|(with_reducible first|exact HB.out|apply below_alloc|apply pw_below_drewN|apply below_drew1)|exact HB.out)) hb);clear HB;have HO379:=n0_;have HB:=n1_;clear n0_ n1_;clear hb ho10)|((with_reducible refine gate_dst (N:=23) rfl ?_);refine Kd.R_make (Kd.int .i64) _ 3 rfl (N:=23) rfl 22 _ _ rfl 30 rfl rfl Try.underlying22 (.int .i64 0) 8 info3 rfl (by decide) (by omega) 0 (ok:=fun _ => True) (okp:=fun _ => True) rfl (fun _ hk => hk) trivial (by omega) (by omega) (Below.refl _ _) (Nat.le_refl _) ?_;intro v381 w11 ho12 hb hg_ hnew_;clear hg_ hnew_;(first|rw [← Ny380.out] at ho12|(simp only [Int.reduceToNat] at ho12;rw [← Ny380.out] at ho12));have n0_:=Aside0.mk (Kd.R_elder' (by (with_reducible repeat (first|apply Kd.R_alloc|apply Kd.R_drewN|apply Kd.R_drew));exact HO379.out) (Kd.R_base ho12) hb);have n1_:=Aside0.mk (Kd.R_lower (Kd.R_new' ho12 (Kd.R_lt (by (with_reducible repeat (first|apply Kd.R_alloc|apply Kd.R_drewN|apply Kd.R_drew));exact HO379.out))) (below_size (by repeat (first|(with_reducible first|exact HB.out|apply below_alloc|apply pw_below_drewN|apply below_drew1)|exact HB.out))));have n2_:=Aside0.mk (below_step (by repeat (first|(with_reducible first|exact HB.out|apply below_alloc|apply pw_below_drewN|apply below_drew1)|exact HB.out)) hb);clear HO379;clear HB;have HO379:=n0_;have HO382:=n1_;have HB:=n2_;clear n0_ n1_ n2_;clear hb ho12;have p7 : 0 ≤ (256 : Int):=(by omega);have q7 : (256 : Int) < ((y377.length : Int) : Int):=of_decide_eq_true (by assumption);have qi7 : (256 < y377.length) = True:=eq_true (by omega);obtain ⟨go7,co7,eo7,gb7,gl7,cl7,HG7⟩:=Kd.R_form HO379.out (by omega);(first|cases eo7|(injection eo7 with ea_ en_ ec_;(first|subst ea_|(injection ea_ with ea_;subst ea_));subst ec_;clear en_));have GB7:=Aside0.mk gb7;have GG7:=Aside0.mk HG7;clear gb7 gl7 HG7;obtain ⟨hx7_0,hf7_0⟩:=Kd.R_celln 0 HO379.out (256 : Int) p7 q7;(try rw [show ((256 : Int)).toNat = 256 from rfl] at hx7_0);(try simp only [Nat.reduceMul,Nat.zero_mul,Nat.zero_add,Nat.reduceAdd] at hx7_0);(try rw [show ((256 : Int)).toNat = 256 from rfl] at hf7_0);(try simp only [Nat.reduceMul,Nat.zero_mul,Nat.zero_add,Nat.reduceAdd] at hf7_0);replace p7:=eq_true p7;replace q7:=eq_true q7;have n_:=Aside0.mk (Kd.R_mono (ok':=(fun k_ => some k_ ≠ (v381 : Value).ownBlock)) HO379.out (fun k_ hk => hk.2));clear HO379;have HO379:=n_;clear n_;obtain ⟨hy13_,hz13_⟩:=Kd.R_celln 0 HO379.out (256 : Int) (by omega) (of_decide_eq_true (by assumption));(try simp only [Int.reduceToNat,Int.toNat_zero,Int.toNat_ofNat,Nat.reduceMul,Nat.zero_mul,Nat.zero_add] at hy13_ hz13_);(try rw [show ((256 : Int)).toNat = 256 from rfl] at hy13_);(try rw [show ((256 : Int)).toNat = 256 from rfl] at hz13_);have HP13:=Kd.R_putg HO379.out (256 : Int) 1)|((with_reducible refine gate_store (t:=3) (p:=25) rfl ?_);refine store_event (t:=3) (p:=25) (v:=?vo_w14) (w1:=(w11.setCell ⟨go7,(256 : Int).toNat,none⟩ (.int .i64 1))) ?hg ?ho ?hn ?hr ?_;(case ho => rfl);(case hg => rfl);(case hn => rfl);(case hr => first|(go_simp;done)|(go_simp;rfl));intro w14 hw;have hg : w11.grownBy w14 (some go7):=(by rw [hw];exact HP13.2);have hp_ : Kd.R (Kd.int .i64) 3 w14 w.heap.size (fun k_ => some k_ ≠ (v381 : Value).ownBlock) (.slice (some ⟨go7,0,none⟩) y377.length co7) y383:=(by rw [hw,Ny383.out];exact HP13.1);clear HP13;have n0_:=Aside0.mk (hp_);have n1_:=Aside0.mk (Kd.R_after (v:=(.slice (some ⟨go7,0,none⟩) y377.length co7)) (v1:=(.slice (some ⟨go7,0,none⟩) y377.length co7)) (ok:=(fun _ => True)) (by (with_reducible repeat (first|apply Kd.R_alloc|apply Kd.R_drewN|apply Kd.R_drew));exact HO382.out) hg (.inl rfl));have n2_:=Aside0.mk ((by rw [hw];exact below_set (HB.out) GB7.out : Below w.heap.size w w14));clear HO379;clear HO382;clear HB;have HO379:=n0_;have HO382:=n1_;have HB:=n2_;clear n0_ n1_ n2_;clear hg hw hp_))
 go_loopg [28] k (fun kq v28 w' => ∃ (x5_1 : List Int) (x6_1 : List Int) (x28_1 : Int),v28 = .int .i64 x28_1∧Aside0 (impl_TokenLengths.l0 kq x5_1 x6_1 l0 (l0.length : Int) x28_1 = some (r1,r2,r3))∧Aside0 (kq ≤ k)∧Aside0 (Kd.R (Kd.int .i64) 3 w' w.heap.size (fun k_ => some k_ ≠ (v381 : Value).ownBlock) (.slice (some ⟨go7,0,none⟩) y377.length co7) x5_1)∧Aside0 (Kd.R (Kd.int .i64) 3 w' w.heap.size (fun k_ => some k_ ≠ ((.slice (some ⟨go7,0,none⟩) y377.length co7) : Value).ownBlock) v381 x6_1)∧Aside0 (Below w.heap.size w w'))
 case atStart => exact ⟨(y383),(y380),(0),(by first|rfl|(simp;done)|(simp [*];done)),H',⟨Nat.le_refl _⟩,⟨by (with_reducible repeat (first|apply Kd.R_alloc|apply Kd.R_drewN|apply Kd.R_drew));exact HO379.out⟩,⟨by (with_reducible repeat (first|apply Kd.R_alloc|apply Kd.R_drewN|apply Kd.R_drew));exact Kd.R_mono HO382.out (fun _ hk => hk.2)⟩,⟨by repeat (first|(with_reducible first|exact HB.out|apply below_alloc|apply pw_below_drewN|apply below_drew1)|exact HB.out)⟩⟩
 case round =>
  clear H'
  obtain ⟨x5_1,x6_1,x28_1,rfl,HA,HK1,HO_5,HO_6,HB⟩:=hrel
  have hl5_1:=(Kd.R_reads' HO_5.out).1
  rw [hl5_1] at HO_5
  (try simp only [hl5_1])
  (try simp only [hl5_1] at HO_6)
  cases gk with
  | zero => exact absurd HA.out (by simp [impl_TokenLengths.l0])
  | succ k1 =>
   have H:=HA.out
   clear HA
   simp only [impl_TokenLengths.l0] at H
   by_cases c15 : x28_1 < (l0.length : Int)
   rotate_left
   ·rw [if_neg c15] at H
    have c15b0 : decide (x28_1 < (l0.length : Int)) = false:=decide_eq_false c15
    clear c15
    replace H:=Option.bind_eq_some_iff.mp H
    obtain ⟨⟨t398,t399⟩,A450,H⟩:=H
    replace H : ((impl_LimitedLengths.f k1 x6_1 15).bind fun bt402 => ((impl_trimmed.f k1 t398 257).bind fun t406 => ((impl_trimmed.f k1 bt402.1 1).bind fun t409 => (some (t406,t409,true))))) = some (r1,r2,r3):=H
    have A45:=Aside0.mk A450
    clear A450
    replace H:=Option.bind_eq_some_iff.mp H
    obtain ⟨⟨t402,t403⟩,A460,H⟩:=H
    replace H : ((impl_trimmed.f k1 t398 257).bind fun t406 => ((impl_trimmed.f k1 t402 1).bind fun t409 => (some (t406,t409,true)))) = some (r1,r2,r3):=H
    have A46:=Aside0.mk A460
    clear A460
    replace H:=Option.bind_eq_some_iff.mp H
    obtain ⟨t406,A470,H⟩:=H
    replace H : ((impl_trimmed.f k1 t402 1).bind fun t409 => (some (t406,t409,true))) = some (r1,r2,r3):=H
    have A47:=Aside0.mk A470
    clear A470
    replace H:=Option.bind_eq_some_iff.mp H
    obtain ⟨t409,A480,H⟩:=H
    replace H : (some (t406,t409,true)) = some (r1,r2,r3):=H
    have A48:=Aside0.mk A480
    clear A480
    simp only [Option.some.injEq,Prod.mk.injEq] at H
    obtain ⟨rfl,rfl,rfl⟩:=H
    go_wp2_with (first|((with_reducible refine gate_callee (f:=39) rfl ?_);refine goesL_ (some 71) rfl rfl Try.func39 (by kernel_rfl) rfl #[.slice (some ⟨go7,0,none⟩) x5_1.length co7,.int .i64 15] rfl (by (try simp only [List.map_toArray,List.map_cons,List.map_nil]);first|done|rfl|(simp only [List.length_drop,List.length_take];rfl)) ?_;(with_reducible refine (impl_LimitedLengths.calls k1 _ _ x5_1 15 t398 t399 _ ?side1 ?side2 A45.out).mono ?_);(case side1 => repeat (first|exact (Kd.R_reads' HO_5.out).2.2|(with_reducible refine Kd.C_alloc ?_ _)|(with_reducible refine Kd.C_drewN ?_ _)|(with_reducible refine Kd.C_drew ?_)));(case side2 => exact (Kd.R_reads' HO_5.out).2.1);rintro e w49 ⟨v400,rfl,ho0,hb⟩;refine ⟨_,rfl,?_⟩;have n0_:=Aside0.mk (Kd.R_elder' (by (with_reducible repeat (first|apply Kd.R_alloc|apply Kd.R_drewN|apply Kd.R_drew));exact HO_5.out) (Kd.R_base ho0) hb);have n1_:=Aside0.mk (Kd.R_elder' (by (with_reducible repeat (first|apply Kd.R_alloc|apply Kd.R_drewN|apply Kd.R_drew));exact HO_6.out) (Kd.R_base ho0) hb);have n2_:=Aside0.mk (Kd.R_lower (Kd.R_new' (Kd.R_new' ho0 (Kd.R_lt (by (with_reducible repeat (first|apply Kd.R_alloc|apply Kd.R_drewN|apply Kd.R_drew));exact HO_5.out))) (Kd.R_lt (by (with_reducible repeat (first|apply Kd.R_alloc|apply Kd.R_drewN|apply Kd.R_drew));exact HO_6.out))) (below_size (by repeat (first|(with_reducible first|exact HB.out|apply below_alloc|apply pw_below_drewN|apply below_drew1)|exact HB.out))));have n3_:=Aside0.mk (below_step (by repeat (first|(with_reducible first|exact HB.out|apply below_alloc|apply pw_below_drewN|apply below_drew1)|exact HB.out)) hb);clear HO_5;clear HO_6;clear HB;have HO_5:=n0_;have HO_6:=n1_;have HO401:=n2_;have HB:=n3_;clear n0_ n1_ n2_ n3_;(try clear hb);(try clear hb2);(try clear hk);(try clear hi);(try clear ho0);obtain ⟨Ao50,co50,eo50⟩:=Kd.R_slice HO_6.out;subst eo50)|((with_reducible refine gate_callee (f:=39) rfl ?_);refine goesL_ (some 76) rfl rfl Try.func39 (by kernel_rfl) rfl #[.slice Ao50 x6_1.length co50,.int .i64 15] rfl (by (try simp only [List.map_toArray,List.map_cons,List.map_nil]);first|done|rfl|(simp only [List.length_drop,List.length_take];rfl)) ?_;(with_reducible refine (impl_LimitedLengths.calls k1 _ _ x6_1 15 t402 t403 _ ?side1 ?side2 A46.out).mono ?_);(case side1 => repeat (first|exact (Kd.R_reads' HO_6.out).2.2|(with_reducible refine Kd.C_alloc ?_ _)|(with_reducible refine Kd.C_drewN ?_ _)|(with_reducible refine Kd.C_drew ?_)));(case side2 => exact (Kd.R_reads' HO_6.out).2.1);rintro e w51 ⟨v404,rfl,ho0,hb⟩;refine ⟨_,rfl,?_⟩;have n0_:=Aside0.mk (Kd.R_elder' (by (with_reducible repeat (first|apply Kd.R_alloc|apply Kd.R_drewN|apply Kd.R_drew));exact HO_5.out) (Kd.R_base ho0) hb);have n1_:=Aside0.mk (Kd.R_elder' (by (with_reducible repeat (first|apply Kd.R_alloc|apply Kd.R_drewN|apply Kd.R_drew));exact HO_6.out) (Kd.R_base ho0) hb);have n2_:=Aside0.mk (Kd.R_elder' (by (with_reducible repeat (first|apply Kd.R_alloc|apply Kd.R_drewN|apply Kd.R_drew));exact HO401.out) (Kd.R_base ho0) hb);have n3_:=Aside0.mk (Kd.R_lower (Kd.R_new' (Kd.R_new' (Kd.R_new' ho0 (Kd.R_lt (by (with_reducible repeat (first|apply Kd.R_alloc|apply Kd.R_drewN|apply Kd.R_drew));exact HO_5.out))) (Kd.R_lt (by (with_reducible repeat (first|apply Kd.R_alloc|apply Kd.R_drewN|apply Kd.R_drew));exact HO_6.out))) (Kd.R_lt (by (with_reducible repeat (first|apply Kd.R_alloc|apply Kd.R_drewN|apply Kd.R_drew));exact HO401.out))) (below_size (by repeat (first|(with_reducible first|exact HB.out|apply below_alloc|apply pw_below_drewN|apply below_drew1)|exact HB.out))));have n4_:=Aside0.mk (below_step (by repeat (first|(with_reducible first|exact HB.out|apply below_alloc|apply pw_below_drewN|apply below_drew1)|exact HB.out)) hb);clear HO_5;clear HO_6;clear HO401;clear HB;have HO_5:=n0_;have HO_6:=n1_;have HO401:=n2_;have HO405:=n3_;have HB:=n4_;clear n0_ n1_ n2_ n3_ n4_;(try clear hb);(try clear hb2);(try clear hk);(try clear hi);(try clear ho0);obtain ⟨Ao52,co52,eo52⟩:=Kd.R_slice HO401.out;subst eo52)|((with_reducible refine gate_callee (f:=84) rfl ?_);refine goesL_ (some 80) rfl rfl Try.func84 (by kernel_rfl) rfl #[.slice Ao52 t398.length co52,.int .i64 257] rfl (by (try simp only [List.map_toArray,List.map_cons,List.map_nil]);first|done|rfl|(simp only [List.length_drop,List.length_take];rfl)) ?_;(with_reducible refine (impl_trimmed.calls k1 (fun k_ => some k_ = (.slice Ao52 t398.length co52 : Value).ownBlock) (.slice Ao52 t398.length co52) t398 257 t406 w _ ?side1 ?side2 A47.out).mono ?_);(case side1 => repeat (first|(with_reducible first|exact HB.out|apply below_alloc|apply pw_below_drewN|apply below_drew1)|exact HB.out));(case side2 => exact Kd.R_tight rfl HO401.out);rintro e w53 ⟨v407,rfl,ho0,hb,hkp⟩;refine ⟨_,rfl,?_⟩;have n0_:=Aside0.mk (Kd.R_mono (ok':=fun k_ => some k_ ≠ (.slice Ao50 x6_1.length co50 : Value).ownBlock∧some k_ ≠ (v404 : Value).ownBlock∧some k_ ≠ (v407 : Value).ownBlock) (Kd.R_keptB (HO_5.out) hkp (fun k_ hk_ hs_ => (hk_.1.2) hs_)) (fun k_ hk_ => ⟨hk_.1.1.1,hk_.1.2,fun e_ => Or.elim (ho0.1 k_ e_.symm) (fun hs_ => hk_.2.1 hs_) (fun hn_ => Nat.not_le.2 hk_.2.2 hn_)⟩));have n1_:=Aside0.mk (Kd.R_mono (ok':=fun k_ => some k_ ≠ (.slice (some ⟨go7,0,none⟩) x5_1.length co7 : Value).ownBlock∧some k_ ≠ (v404 : Value).ownBlock∧some k_ ≠ (v407 : Value).ownBlock) (Kd.R_keptB (HO_6.out) hkp (fun k_ hk_ hs_ => (hk_.1.2) hs_)) (fun k_ hk_ => ⟨hk_.1.1.1,hk_.1.2,fun e_ => Or.elim (ho0.1 k_ e_.symm) (fun hs_ => hk_.2.1 hs_) (fun hn_ => Nat.not_le.2 hk_.2.2 hn_)⟩));have n2_:=Aside0.mk (Kd.R_mono (ok':=fun k_ => some k_ ≠ (.slice (some ⟨go7,0,none⟩) x5_1.length co7 : Value).ownBlock∧some k_ ≠ (.slice Ao50 x6_1.length co50 : Value).ownBlock∧some k_ ≠ (v407 : Value).ownBlock) (Kd.R_keptB (HO405.out) hkp (fun k_ hk_ hs_ => (hk_.2) hs_)) (fun k_ hk_ => ⟨hk_.1.1.1.2,hk_.1.1.2,fun e_ => Or.elim (ho0.1 k_ e_.symm) (fun hs_ => hk_.2.1 hs_) (fun hn_ => Nat.not_le.2 hk_.2.2 hn_)⟩));have n3_:=Aside0.mk (Kd.R_mono (ok':=fun k_ => some k_ ≠ (.slice (some ⟨go7,0,none⟩) x5_1.length co7 : Value).ownBlock∧some k_ ≠ (.slice Ao50 x6_1.length co50 : Value).ownBlock∧some k_ ≠ (v404 : Value).ownBlock) ho0 (fun k_ hk_ => ⟨Or.elim hk_ (fun hs_ => fun e_ => (((HO_5.out).1 k_ e_.symm).1.2) hs_) (fun hn_ => (Kd.fresh' (Kd.R_lt (by (with_reducible repeat (first|apply Kd.R_alloc|apply Kd.R_drewN|apply Kd.R_drew));exact HO_5.out)) k_ hn_)),Or.elim hk_ (fun hs_ => fun e_ => (((HO_6.out).1 k_ e_.symm).1.2) hs_) (fun hn_ => (Kd.fresh' (Kd.R_lt (by (with_reducible repeat (first|apply Kd.R_alloc|apply Kd.R_drewN|apply Kd.R_drew));exact HO_6.out)) k_ hn_)),Or.elim hk_ (fun hs_ => fun e_ => (((HO405.out).1 k_ e_.symm).2) hs_) (fun hn_ => (Kd.fresh' (Kd.R_lt (by (with_reducible repeat (first|apply Kd.R_alloc|apply Kd.R_drewN|apply Kd.R_drew));exact HO405.out)) k_ hn_))⟩));have n4_:=Aside0.mk (hb);clear HO_5;clear HO_6;clear HO405;clear HB;clear HO401;have HO_5:=n0_;have HO_6:=n1_;have HO405:=n2_;have HO408:=n3_;have HB:=n4_;clear n0_ n1_ n2_ n3_ n4_;(try clear hb);(try clear hkp);(try clear ho0);obtain ⟨Ao54,co54,eo54⟩:=Kd.R_slice HO405.out;subst eo54)|((with_reducible refine gate_callee (f:=84) rfl ?_);refine goesL_ (some 82) rfl rfl Try.func84 (by kernel_rfl) rfl #[.slice Ao54 t402.length co54,.int .i64 1] rfl (by (try simp only [List.map_toArray,List.map_cons,List.map_nil]);first|done|rfl|(simp only [List.length_drop,List.length_take];rfl)) ?_;(with_reducible refine (impl_trimmed.calls k1 (fun k_ => some k_ = (.slice Ao54 t402.length co54 : Value).ownBlock) (.slice Ao54 t402.length co54) t402 1 t409 w _ ?side1 ?side2 A48.out).mono ?_);(case side1 => repeat (first|(with_reducible first|exact HB.out|apply below_alloc|apply pw_below_drewN|apply below_drew1)|exact HB.out));(case side2 => exact Kd.R_tight rfl HO405.out);rintro e w55 ⟨v410,rfl,ho0,hb,hkp⟩;refine ⟨_,rfl,?_⟩;have n0_:=Aside0.mk (Kd.R_mono (ok':=fun k_ => some k_ ≠ (.slice Ao50 x6_1.length co50 : Value).ownBlock∧some k_ ≠ (v407 : Value).ownBlock∧some k_ ≠ (v410 : Value).ownBlock) (Kd.R_keptB (HO_5.out) hkp (fun k_ hk_ hs_ => (hk_.2.1) hs_)) (fun k_ hk_ => ⟨hk_.1.1,hk_.1.2.2,fun e_ => Or.elim (ho0.1 k_ e_.symm) (fun hs_ => hk_.2.1 hs_) (fun hn_ => Nat.not_le.2 hk_.2.2 hn_)⟩));have n1_:=Aside0.mk (Kd.R_mono (ok':=fun k_ => some k_ ≠ (.slice (some ⟨go7,0,none⟩) x5_1.length co7 : Value).ownBlock∧some k_ ≠ (v407 : Value).ownBlock∧some k_ ≠ (v410 : Value).ownBlock) (Kd.R_keptB (HO_6.out) hkp (fun k_ hk_ hs_ => (hk_.2.1) hs_)) (fun k_ hk_ => ⟨hk_.1.1,hk_.1.2.2,fun e_ => Or.elim (ho0.1 k_ e_.symm) (fun hs_ => hk_.2.1 hs_) (fun hn_ => Nat.not_le.2 hk_.2.2 hn_)⟩));have n2_:=Aside0.mk (Kd.R_mono (ok':=fun k_ => some k_ ≠ (.slice (some ⟨go7,0,none⟩) x5_1.length co7 : Value).ownBlock∧some k_ ≠ (.slice Ao50 x6_1.length co50 : Value).ownBlock∧some k_ ≠ (v410 : Value).ownBlock) (Kd.R_keptB (HO408.out) hkp (fun k_ hk_ hs_ => (hk_.2.2) hs_)) (fun k_ hk_ => ⟨hk_.1.1,hk_.1.2.1,fun e_ => Or.elim (ho0.1 k_ e_.symm) (fun hs_ => hk_.2.1 hs_) (fun hn_ => Nat.not_le.2 hk_.2.2 hn_)⟩));have n3_:=Aside0.mk (Kd.R_mono (ok':=fun k_ => some k_ ≠ (.slice (some ⟨go7,0,none⟩) x5_1.length co7 : Value).ownBlock∧some k_ ≠ (.slice Ao50 x6_1.length co50 : Value).ownBlock∧some k_ ≠ (v407 : Value).ownBlock) ho0 (fun k_ hk_ => ⟨Or.elim hk_ (fun hs_ => fun e_ => (((HO_5.out).1 k_ e_.symm).2.1) hs_) (fun hn_ => (Kd.fresh' (Kd.R_lt (by (with_reducible repeat (first|apply Kd.R_alloc|apply Kd.R_drewN|apply Kd.R_drew));exact HO_5.out)) k_ hn_)),Or.elim hk_ (fun hs_ => fun e_ => (((HO_6.out).1 k_ e_.symm).2.1) hs_) (fun hn_ => (Kd.fresh' (Kd.R_lt (by (with_reducible repeat (first|apply Kd.R_alloc|apply Kd.R_drewN|apply Kd.R_drew));exact HO_6.out)) k_ hn_)),Or.elim hk_ (fun hs_ => fun e_ => (((HO408.out).1 k_ e_.symm).2.2) hs_) (fun hn_ => (Kd.fresh' (Kd.R_lt (by (with_reducible repeat (first|apply Kd.R_alloc|apply Kd.R_drewN|apply Kd.R_drew));exact HO408.out)) k_ hn_))⟩));have n4_:=Aside0.mk (hb);clear HO_5;clear HO_6;clear HO408;clear HB;clear HO405;have HO_5:=n0_;have HO_6:=n1_;have HO408:=n2_;have HO411:=n3_;have HB:=n4_;clear n0_ n1_ n2_ n3_ n4_;(try clear hb);(try clear hkp);(try clear ho0)))
    go_ret3
    exact ⟨_,_,by first|rfl|(simp [errW_none,errW_some] <;> rfl)|(simp [*,errW_none,errW_some] <;> rfl),by (with_reducible repeat (first|apply Kd.R_alloc|apply Kd.R_drewN|apply Kd.R_drew));exact Kd.R_mono HO408.out (fun _ hk => hk.2.2),by (with_reducible repeat (first|apply Kd.R_alloc|apply Kd.R_drewN|apply Kd.R_drew));exact Kd.R_mono HO411.out (fun _ hk => hk.2.2),by repeat (first|(with_reducible first|exact HB.out|apply below_alloc|apply pw_below_drewN|apply below_drew1)|exact HB.out)⟩
   rw [if_pos c15] at H
   have c15b0 : decide (x28_1 < (l0.length : Int)) = true:=decide_eq_true c15
   clear c15
   by_cases c16 : 0 ≤ x28_1
   rotate_left
   ·rw [if_neg c16] at H
    exact absurd H (by simp)
   rw [if_pos c16] at H
   have c16b0 : decide (0 ≤ x28_1) = true:=decide_eq_true c16
   clear c16
   by_cases c17 : x28_1 < (l0.length : Int)
   rotate_left
   ·rw [if_neg c17] at H
    exact absurd H (by simp)
   rw [if_pos c17] at H
   have c17b0 : decide (x28_1 < (l0.length : Int)) = true:=decide_eq_true c17
   clear c17
   by_cases c18 : ((rd_T107 l0 x28_1).f1) = 0
   ·rw [if_pos c18] at H
    have c18b0 : (((rd_T107 l0 x28_1).f1) == 0) = true:=beq_iff_eq.mpr c18
    have c18b1 : (((rd_T107 l0 x28_1).f1) != 0) = false:=bne_eq_false_iff_eq.mpr c18
    clear c18
    by_cases c19 : 0 ≤ ((rd_T107 l0 x28_1).f0)
    rotate_left
    ·rw [if_neg c19] at H
     exact absurd H (by simp)
    rw [if_pos c19] at H
    have c19b0 : decide (0 ≤ ((rd_T107 l0 x28_1).f0)) = true:=decide_eq_true c19
    clear c19
    by_cases c20 : ((rd_T107 l0 x28_1).f0) < (x5_1.length : Int)
    rotate_left
    ·rw [if_neg c20] at H
     exact absurd H (by simp)
    rw [if_pos c20] at H
    have c20b0 : decide (((rd_T107 l0 x28_1).f0) < (x5_1.length : Int)) = true:=decide_eq_true c20
    clear c20
    obtain ⟨y387,hy387⟩ : ∃ y_ : List Int,y_ = (x5_1.set (((rd_T107 l0 x28_1).f0) : Int).toNat (wrap64 ((rd x5_1 ((rd_T107 l0 x28_1).f0)) + 1))):=⟨_,rfl⟩
    replace H : (impl_TokenLengths.l0 k1 y387 x6_1 l0 (l0.length : Int) (wrap64 (x28_1 + 1))) = some (r1,r2,r3):=by first|(rw [hy387];with_reducible exact H)|(have H2_:=(Option.bind_some _ _).symm.trans H;rw [hy387];with_reducible exact H2_)|(have H2_:=(Option.bind_some _ _).symm.trans H;with_reducible exact H2_)|with_reducible exact H|(rw [hy387];exact H)|exact H
    have Ny387:=Aside0.mk hy387
    clear hy387
    have H':=Aside0.mk H
    clear H
    have p384 : 0 ≤ (x28_1 : Int):=of_decide_eq_true (by assumption)
    have q384 : x28_1 < (l0.length : Int):=of_decide_eq_true (by assumption)
    obtain ⟨ad384,e384,hx384_0,hx384_1,hx384_2⟩:=at_T107 HR0.out x28_1 p384 q384
    cases e384
    replace hx384_0:=(HB.out.cell (World.block_lt_of_cell? w _ hx384_0)).trans hx384_0
    replace hx384_1:=(HB.out.cell (World.block_lt_of_cell? w _ hx384_1)).trans hx384_1
    replace hx384_2:=(HB.out.cell (World.block_lt_of_cell? w _ hx384_2)).trans hx384_2
    replace p384:=eq_true p384
    replace q384:=eq_true q384
    go_wp2_with (first|((with_reducible refine gate_dst (N:=8) rfl ?_);refine box_event ?hg (N:=8) ?hd (cs:=#[.int .i64 0,.int .i64 0,.int .i64 0]) (t:=107) ?hr ?_;(case hd => rfl);(case hg => rfl);(case hr => first|(go_simp;done)|(go_simp;rfl));intro gb385 hg w22 hbox hb;have n0_:=Aside0.mk (Kd.R_below (by (with_reducible repeat (first|apply Kd.R_alloc|apply Kd.R_drewN|apply Kd.R_drew));exact HO_5.out) hb);have n1_:=Aside0.mk (Kd.R_below (by (with_reducible repeat (first|apply Kd.R_alloc|apply Kd.R_drewN|apply Kd.R_drew));exact HO_6.out) hb);have n2_:=Aside0.mk (below_step (by repeat (first|(with_reducible first|exact HB.out|apply below_alloc|apply pw_below_drewN|apply below_drew1)|exact HB.out)) hb);have n3_:=Aside0.mk (hbox);have n4_:=Aside0.mk ((by rw [hg];exact (below_size (by repeat (first|(with_reducible first|exact HB.out|apply below_alloc|apply pw_below_drewN|apply below_drew1)|exact HB.out))) : w.heap.size ≤ gb385));have n5_:=Aside0.mk ((by rw [hg];exact (below_size (by repeat (first|(with_reducible first|exact HB.out|apply below_alloc|apply pw_below_drewN|apply below_drew1)|exact HB.out))) : w.heap.size ≤ gb385));clear HO_5;clear HO_6;clear HB;have HO_5:=n0_;have HO_6:=n1_;have HB:=n2_;have BK385:=n3_;have GW385:=n4_;have GE385:=n5_;clear n0_ n1_ n2_ n3_ n4_ n5_;clear hb hbox hg;have hcz23_0 : w22.cell? ⟨gb385,0,none⟩ = some (.int .i64 0):=(blk_cell BK385.out 0).trans rfl;have hcz23_1 : w22.cell? ⟨gb385,1,none⟩ = some (.int .i64 0):=(blk_cell BK385.out 1).trans rfl;have hcz23_2 : w22.cell? ⟨gb385,2,none⟩ = some (.int .i64 0):=(blk_cell BK385.out 2).trans rfl;have hfz23_0:=blk_frozen BK385.out 0;have hfz23_1:=blk_frozen BK385.out 1;have hfz23_2:=blk_frozen BK385.out 2)|((with_reducible refine gate_store (t:=107) (p:=8) rfl ?_);refine store_event (t:=107) (p:=8) (v:=?vo_w24) (w1:=(((w22.setCell ⟨gb385,0,none⟩ (.int .i64 ((rd_T107 l0 x28_1).f0))).setCell ⟨gb385,1,none⟩ (.int .i64 ((rd_T107 l0 x28_1).f1))).setCell ⟨gb385,2,none⟩ (.int .i64 ((rd_T107 l0 x28_1).f2)))) ?hg ?ho ?hn ?hr ?_;(case ho => rfl);(case hg => rfl);(case hn => rfl);(case hr => first|(go_simp;done)|(go_simp;rfl));intro w24 hw;have n0_ : Aside0 (Kd.R (Kd.int .i64) 3 w24 w.heap.size (fun k_ => some k_ ≠ (v381 : Value).ownBlock) (.slice (some ⟨go7,0,none⟩) x5_1.length co7) x5_1):=⟨(by rw [hw];exact (by (with_reducible repeat (first|apply Kd.R_alloc|apply Kd.R_drewN|apply Kd.R_drew));exact Kd.R_mono (Kd.R_far (p:=⟨gb385,2,none⟩) (Kd.R_far (p:=⟨gb385,1,none⟩) (Kd.R_far (p:=⟨gb385,0,none⟩) (Kd.R_types HO_5.out BK385.out (by decide)) (fun _ hk => hk.2) (.int .i64 ((rd_T107 l0 x28_1).f0))) (fun _ hk => hk.2) (.int .i64 ((rd_T107 l0 x28_1).f1))) (fun _ hk => hk.2) (.int .i64 ((rd_T107 l0 x28_1).f2))) (fun _ hk => hk.1)))⟩;have n1_ : Aside0 (Kd.R (Kd.int .i64) 3 w24 w.heap.size (fun k_ => some k_ ≠ (.slice (some ⟨go7,0,none⟩) x5_1.length co7 : Value).ownBlock) v381 x6_1):=⟨(by rw [hw];exact (by (with_reducible repeat (first|apply Kd.R_alloc|apply Kd.R_drewN|apply Kd.R_drew));exact Kd.R_mono (Kd.R_far (p:=⟨gb385,2,none⟩) (Kd.R_far (p:=⟨gb385,1,none⟩) (Kd.R_far (p:=⟨gb385,0,none⟩) (Kd.R_types HO_6.out BK385.out (by decide)) (fun _ hk => hk.2) (.int .i64 ((rd_T107 l0 x28_1).f0))) (fun _ hk => hk.2) (.int .i64 ((rd_T107 l0 x28_1).f1))) (fun _ hk => hk.2) (.int .i64 ((rd_T107 l0 x28_1).f2))) (fun _ hk => hk.1)))⟩;have n2_ : Aside0 (w24.heap[gb385]? = some (.cells #[.int .i64 ((rd_T107 l0 x28_1).f0),.int .i64 ((rd_T107 l0 x28_1).f1),.int .i64 ((rd_T107 l0 x28_1).f2)] 107 (0,0))):=⟨(by rw [hw];exact (by (with_reducible repeat (first|refine blk_drewN ?_ _|refine blk_drew ?_|refine blk_alloc ?_ _));refine blk_put (cs:=#[.int .i64 ((rd_T107 l0 x28_1).f0),.int .i64 ((rd_T107 l0 x28_1).f1),.int .i64 0]) ?_ 2 _ rfl;(with_reducible repeat (first|refine blk_drewN ?_ _|refine blk_drew ?_|refine blk_alloc ?_ _));refine blk_put (cs:=#[.int .i64 ((rd_T107 l0 x28_1).f0),.int .i64 0,.int .i64 0]) ?_ 1 _ rfl;(with_reducible repeat (first|refine blk_drewN ?_ _|refine blk_drew ?_|refine blk_alloc ?_ _));refine blk_put (cs:=#[.int .i64 0,.int .i64 0,.int .i64 0]) ?_ 0 _ rfl;(with_reducible repeat (first|refine blk_drewN ?_ _|refine blk_drew ?_|refine blk_alloc ?_ _));exact BK385.out))⟩;have n3_ : Aside0 (Below w.heap.size w w24):=⟨(by rw [hw];exact (by repeat (first|(with_reducible first|exact HB.out|apply below_alloc|apply pw_below_drewN|apply below_drew1|refine below_set ?_ GE385.out)|exact HB.out)))⟩;clear hw;clear HO_5;clear HO_6;clear BK385;clear HB;have HO_5:=n0_;have HO_6:=n1_;have BK385:=n2_;have HB:=n3_;clear n0_ n1_ n2_ n3_;have hcz25_0 : w24.cell? ⟨gb385,0,none⟩ = some (.int .i64 ((rd_T107 l0 x28_1).f0)):=(blk_cell BK385.out 0).trans rfl;have hcz25_1 : w24.cell? ⟨gb385,1,none⟩ = some (.int .i64 ((rd_T107 l0 x28_1).f1)):=(blk_cell BK385.out 1).trans rfl;have hcz25_2 : w24.cell? ⟨gb385,2,none⟩ = some (.int .i64 ((rd_T107 l0 x28_1).f2)):=(blk_cell BK385.out 2).trans rfl;have hfz25_0:=blk_frozen BK385.out 0;have hfz25_1:=blk_frozen BK385.out 1;have hfz25_2:=blk_frozen BK385.out 2;have p386 : 0 ≤ (((rd_T107 l0 x28_1).f0) : Int):=of_decide_eq_true (by assumption);have q386 : ((rd_T107 l0 x28_1).f0) < (x5_1.length : Int):=of_decide_eq_true (by assumption);obtain ⟨ad386,e386,hx386_0⟩:=Kd.at_int (Kd.R_reads' HO_5.out).2.2 ((rd_T107 l0 x28_1).f0) p386 q386;obtain rfl : (⟨go7,0,none⟩ : Addr) = ad386:=(by injection e386);(first|simp only [add_plain] at hx386_0|simp only [add_at] at hx386_0|simp only [Addr.add,Nat.zero_add] at hx386_0|skip);replace p386:=eq_true p386;replace q386:=eq_true q386;have p21 : 0 ≤ (((rd_T107 l0 x28_1).f0) : Int):=of_decide_eq_true (by assumption);have q21 : (((rd_T107 l0 x28_1).f0) : Int) < ((x5_1.length : Int) : Int):=of_decide_eq_true (by assumption);obtain ⟨hx21_0,hf21_0⟩:=Kd.R_celln 0 HO_5.out (((rd_T107 l0 x28_1).f0) : Int) p21 q21;replace p21:=eq_true p21;replace q21:=eq_true q21;obtain ⟨hy26_,hz26_⟩:=Kd.R_celln 0 HO_5.out (((rd_T107 l0 x28_1).f0) : Int) (of_decide_eq_true (by assumption)) (of_decide_eq_true (by assumption));have HP26:=Kd.R_putg HO_5.out (((rd_T107 l0 x28_1).f0) : Int) (wrap64 ((rd x5_1 ((rd_T107 l0 x28_1).f0)) + 1)))|((with_reducible refine gate_store (t:=3) (p:=41) rfl ?_);refine store_event (t:=3) (p:=41) (v:=?vo_w27) (w1:=(w24.setCell ⟨go7,(((rd_T107 l0 x28_1).f0) : Int).toNat,none⟩ (.int .i64 (wrap64 ((rd x5_1 ((rd_T107 l0 x28_1).f0)) + 1))))) ?hg ?ho ?hn ?hr ?_;(case ho => rfl);(case hg => rfl);(case hn => rfl);(case hr => first|(go_simp;done)|(go_simp;rfl));intro w27 hw;have hg : w24.grownBy w27 (some go7):=(by rw [hw];exact HP26.2);have hp_ : Kd.R (Kd.int .i64) 3 w27 w.heap.size (fun k_ => some k_ ≠ (v381 : Value).ownBlock) (.slice (some ⟨go7,0,none⟩) x5_1.length co7) y387:=(by rw [hw,Ny387.out];exact HP26.1);clear HP26;have n0_:=Aside0.mk (hp_);have n1_:=Aside0.mk (Kd.R_after (v:=(.slice (some ⟨go7,0,none⟩) x5_1.length co7)) (v1:=(.slice (some ⟨go7,0,none⟩) x5_1.length co7)) (ok:=(fun _ => True)) (by (with_reducible repeat (first|apply Kd.R_alloc|apply Kd.R_drewN|apply Kd.R_drew));exact Kd.R_mono HO_6.out (fun _ hk => ⟨trivial,hk⟩)) hg (.inl rfl));have n2_:=Aside0.mk (blk_grown (g:=gb385) (o:=.cells #[.int .i64 ((rd_T107 l0 x28_1).f0),.int .i64 ((rd_T107 l0 x28_1).f1),.int .i64 ((rd_T107 l0 x28_1).f2)] 107 (0,0)) (by (with_reducible repeat (first|refine blk_drewN ?_ _|refine blk_drew ?_|refine blk_alloc ?_ _));exact BK385.out) hg (Kd.R_ne HO_5.out BK385.out (by decide)));have n3_:=Aside0.mk ((by rw [hw];exact below_set (HB.out) GB7.out : Below w.heap.size w w27));clear HO_5;clear HO_6;clear BK385;clear HB;have HO_5:=n0_;have HO_6:=n1_;have BK385:=n2_;have HB:=n3_;clear n0_ n1_ n2_ n3_;clear hg hw hp_))
    (try simp only [← hl5_1])
    go_roundg k1
    case measure => have:=HK1.out;omega
    case rel => exact ⟨(y387),(x6_1),(wrap64 (x28_1 + 1)),(by first|rfl|(simp;done)|(simp [*];done)),H',⟨by have:=HK1.out;omega⟩,⟨by (try simp only [hl5_1]);(with_reducible repeat (first|apply Kd.R_alloc|apply Kd.R_drewN|apply Kd.R_drew));exact HO_5.out⟩,⟨by (try simp only [hl5_1]);(with_reducible repeat (first|apply Kd.R_alloc|apply Kd.R_drewN|apply Kd.R_drew));exact Kd.R_mono HO_6.out (fun _ hk => hk.2)⟩,⟨by repeat (first|(with_reducible first|exact HB.out|apply below_alloc|apply pw_below_drewN|apply below_drew1|refine below_set ?_ GE385.out)|exact HB.out)⟩⟩
   rw [if_neg c18] at H
   have c18b0 : (((rd_T107 l0 x28_1).f1) == 0) = false:=beq_eq_false_iff_ne.mpr c18
   have c18b1 : (((rd_T107 l0 x28_1).f1) != 0) = true:=bne_iff_ne.mpr c18
   replace H:=Option.bind_eq_some_iff.mp H
   obtain ⟨⟨t388,t389,t390⟩,A280,H⟩:=H
   replace H : ((impl_DistCode.f k1 ((rd_T107 l0 x28_1).f2)).bind fun bt391 => (if 0 ≤ t388 then (if t388 < (x5_1.length : Int) then (if 0 ≤ bt391.1 then (if bt391.1 < (x6_1.length : Int) then (impl_TokenLengths.l0 k1 (x5_1.set (t388 : Int).toNat (wrap64 ((rd x5_1 t388) + 1))) (x6_1.set (bt391.1 : Int).toNat (wrap64 ((rd x6_1 bt391.1) + 1))) l0 (l0.length : Int) (wrap64 (x28_1 + 1))) else (none)) else (none)) else (none)) else (none))) = some (r1,r2,r3):=H
   have A28:=Aside0.mk A280
   clear A280
   replace H:=Option.bind_eq_some_iff.mp H
   obtain ⟨⟨t391,t392,t393⟩,A290,H⟩:=H
   replace H : (if 0 ≤ t388 then (if t388 < (x5_1.length : Int) then (if 0 ≤ t391 then (if t391 < (x6_1.length : Int) then (impl_TokenLengths.l0 k1 (x5_1.set (t388 : Int).toNat (wrap64 ((rd x5_1 t388) + 1))) (x6_1.set (t391 : Int).toNat (wrap64 ((rd x6_1 t391) + 1))) l0 (l0.length : Int) (wrap64 (x28_1 + 1))) else (none)) else (none)) else (none)) else (none)) = some (r1,r2,r3):=H
   have A29:=Aside0.mk A290
   clear A290
   by_cases c30 : 0 ≤ t388
   rotate_left
   ·rw [if_neg c30] at H
    exact absurd H (by simp)
   rw [if_pos c30] at H
   have c30b0 : decide (0 ≤ t388) = true:=decide_eq_true c30
   clear c30
   by_cases c31 : t388 < (x5_1.length : Int)
   rotate_left
   ·rw [if_neg c31] at H
    exact absurd H (by simp)
   rw [if_pos c31] at H
   have c31b0 : decide (t388 < (x5_1.length : Int)) = true:=decide_eq_true c31
   clear c31
   obtain ⟨y395,hy395⟩ : ∃ y_ : List Int,y_ = (x5_1.set (t388 : Int).toNat (wrap64 ((rd x5_1 t388) + 1))):=⟨_,rfl⟩
   replace H : (if 0 ≤ t391 then (if t391 < (x6_1.length : Int) then (impl_TokenLengths.l0 k1 y395 (x6_1.set (t391 : Int).toNat (wrap64 ((rd x6_1 t391) + 1))) l0 (l0.length : Int) (wrap64 (x28_1 + 1))) else (none)) else (none)) = some (r1,r2,r3):=by first|(rw [hy395];with_reducible exact H)|(have H2_:=(Option.bind_some _ _).symm.trans H;rw [hy395];with_reducible exact H2_)|(have H2_:=(Option.bind_some _ _).symm.trans H;with_reducible exact H2_)|with_reducible exact H|(rw [hy395];exact H)|exact H
   have Ny395:=Aside0.mk hy395
   clear hy395
   by_cases c33 : 0 ≤ t391
   rotate_left
   ·rw [if_neg c33] at H
    exact absurd H (by simp)
   rw [if_pos c33] at H
   have c33b0 : decide (0 ≤ t391) = true:=decide_eq_true c33
   clear c33
   by_cases c34 : t391 < (x6_1.length : Int)
   rotate_left
   ·rw [if_neg c34] at H
    exact absurd H (by simp)
   rw [if_pos c34] at H
   have c34b0 : decide (t391 < (x6_1.length : Int)) = true:=decide_eq_true c34
   clear c34
   obtain ⟨y397,hy397⟩ : ∃ y_ : List Int,y_ = (x6_1.set (t391 : Int).toNat (wrap64 ((rd x6_1 t391) + 1))):=⟨_,rfl⟩
   replace H : (impl_TokenLengths.l0 k1 y395 y397 l0 (l0.length : Int) (wrap64 (x28_1 + 1))) = some (r1,r2,r3):=by first|(rw [hy397];with_reducible exact H)|(have H2_:=(Option.bind_some _ _).symm.trans H;rw [hy397];with_reducible exact H2_)|(have H2_:=(Option.bind_some _ _).symm.trans H;with_reducible exact H2_)|with_reducible exact H|(rw [hy397];exact H)|exact H
   have Ny397:=Aside0.mk hy397
   clear hy397
   have H':=Aside0.mk H
   clear H
   have p384 : 0 ≤ (x28_1 : Int):=of_decide_eq_true (by assumption)
   have q384 : x28_1 < (l0.length : Int):=of_decide_eq_true (by assumption)
   obtain ⟨ad384,e384,hx384_0,hx384_1,hx384_2⟩:=at_T107 HR0.out x28_1 p384 q384
   cases e384
   replace hx384_0:=(HB.out.cell (World.block_lt_of_cell? w _ hx384_0)).trans hx384_0
   replace hx384_1:=(HB.out.cell (World.block_lt_of_cell? w _ hx384_1)).trans hx384_1
   replace hx384_2:=(HB.out.cell (World.block_lt_of_cell? w _ hx384_2)).trans hx384_2
   replace p384:=eq_true p384
   replace q384:=eq_true q384
   go_wp2_with (first|((with_reducible refine gate_dst (N:=8) rfl ?_);refine box_event ?hg (N:=8) ?hd (cs:=#[.int .i64 0,.int .i64 0,.int .i64 0]) (t:=107) ?hr ?_;(case hd => rfl);(case hg => rfl);(case hr => first|(go_simp;done)|(go_simp;rfl));intro gb385 hg w36 hbox hb;have n0_:=Aside0.mk (Kd.R_below (by (with_reducible repeat (first|apply Kd.R_alloc|apply Kd.R_drewN|apply Kd.R_drew));exact HO_5.out) hb);have n1_:=Aside0.mk (Kd.R_below (by (with_reducible repeat (first|apply Kd.R_alloc|apply Kd.R_drewN|apply Kd.R_drew));exact HO_6.out) hb);have n2_:=Aside0.mk (below_step (by repeat (first|(with_reducible first|exact HB.out|apply below_alloc|apply pw_below_drewN|apply below_drew1)|exact HB.out)) hb);have n3_:=Aside0.mk (hbox);have n4_:=Aside0.mk ((by rw [hg];exact (below_size (by repeat (first|(with_reducible first|exact HB.out|apply below_alloc|apply pw_below_drewN|apply below_drew1)|exact HB.out))) : w.heap.size ≤ gb385));have n5_:=Aside0.mk ((by rw [hg];exact (below_size (by repeat (first|(with_reducible first|exact HB.out|apply below_alloc|apply pw_below_drewN|apply below_drew1)|exact HB.out))) : w.heap.size ≤ gb385));clear HO_5;clear HO_6;clear HB;have HO_5:=n0_;have HO_6:=n1_;have HB:=n2_;have BK385:=n3_;have GW385:=n4_;have GE385:=n5_;clear n0_ n1_ n2_ n3_ n4_ n5_;clear hb hbox hg;have hcz37_0 : w36.cell? ⟨gb385,0,none⟩ = some (.int .i64 0):=(blk_cell BK385.out 0).trans rfl;have hcz37_1 : w36.cell? ⟨gb385,1,none⟩ = some (.int .i64 0):=(blk_cell BK385.out 1).trans rfl;have hcz37_2 : w36.cell? ⟨gb385,2,none⟩ = some (.int .i64 0):=(blk_cell BK385.out 2).trans rfl;have hfz37_0:=blk_frozen BK385.out 0;have hfz37_1:=blk_frozen BK385.out 1;have hfz37_2:=blk_frozen BK385.out 2)|((with_reducible refine gate_store (t:=107) (p:=8) rfl ?_);refine store_event (t:=107) (p:=8) (v:=?vo_w38) (w1:=(((w36.setCell ⟨gb385,0,none⟩ (.int .i64 ((rd_T107 l0 x28_1).f0))).setCell ⟨gb385,1,none⟩ (.int .i64 ((rd_T107 l0 x28_1).f1))).setCell ⟨gb385,2,none⟩ (.int .i64 ((rd_T107 l0 x28_1).f2)))) ?hg ?ho ?hn ?hr ?_;(case ho => rfl);(case hg => rfl);(case hn => rfl);(case hr => first|(go_simp;done)|(go_simp;rfl));intro w38 hw;have n0_ : Aside0 (Kd.R (Kd.int .i64) 3 w38 w.heap.size (fun k_ => some k_ ≠ (v381 : Value).ownBlock) (.slice (some ⟨go7,0,none⟩) x5_1.length co7) x5_1):=⟨(by rw [hw];exact (by (with_reducible repeat (first|apply Kd.R_alloc|apply Kd.R_drewN|apply Kd.R_drew));exact Kd.R_mono (Kd.R_far (p:=⟨gb385,2,none⟩) (Kd.R_far (p:=⟨gb385,1,none⟩) (Kd.R_far (p:=⟨gb385,0,none⟩) (Kd.R_types HO_5.out BK385.out (by decide)) (fun _ hk => hk.2) (.int .i64 ((rd_T107 l0 x28_1).f0))) (fun _ hk => hk.2) (.int .i64 ((rd_T107 l0 x28_1).f1))) (fun _ hk => hk.2) (.int .i64 ((rd_T107 l0 x28_1).f2))) (fun _ hk => hk.1)))⟩;have n1_ : Aside0 (Kd.R (Kd.int .i64) 3 w38 w.heap.size (fun k_ => some k_ ≠ (.slice (some ⟨go7,0,none⟩) x5_1.length co7 : Value).ownBlock) v381 x6_1):=⟨(by rw [hw];exact (by (with_reducible repeat (first|apply Kd.R_alloc|apply Kd.R_drewN|apply Kd.R_drew));exact Kd.R_mono (Kd.R_far (p:=⟨gb385,2,none⟩) (Kd.R_far (p:=⟨gb385,1,none⟩) (Kd.R_far (p:=⟨gb385,0,none⟩) (Kd.R_types HO_6.out BK385.out (by decide)) (fun _ hk => hk.2) (.int .i64 ((rd_T107 l0 x28_1).f0))) (fun _ hk => hk.2) (.int .i64 ((rd_T107 l0 x28_1).f1))) (fun _ hk => hk.2) (.int .i64 ((rd_T107 l0 x28_1).f2))) (fun _ hk => hk.1)))⟩;have n2_ : Aside0 (w38.heap[gb385]? = some (.cells #[.int .i64 ((rd_T107 l0 x28_1).f0),.int .i64 ((rd_T107 l0 x28_1).f1),.int .i64 ((rd_T107 l0 x28_1).f2)] 107 (0,0))):=⟨(by rw [hw];exact (by (with_reducible repeat (first|refine blk_drewN ?_ _|refine blk_drew ?_|refine blk_alloc ?_ _));refine blk_put (cs:=#[.int .i64 ((rd_T107 l0 x28_1).f0),.int .i64 ((rd_T107 l0 x28_1).f1),.int .i64 0]) ?_ 2 _ rfl;(with_reducible repeat (first|refine blk_drewN ?_ _|refine blk_drew ?_|refine blk_alloc ?_ _));refine blk_put (cs:=#[.int .i64 ((rd_T107 l0 x28_1).f0),.int .i64 0,.int .i64 0]) ?_ 1 _ rfl;(with_reducible repeat (first|refine blk_drewN ?_ _|refine blk_drew ?_|refine blk_alloc ?_ _));refine blk_put (cs:=#[.int .i64 0,.int .i64 0,.int .i64 0]) ?_ 0 _ rfl;(with_reducible repeat (first|refine blk_drewN ?_ _|refine blk_drew ?_|refine blk_alloc ?_ _));exact BK385.out))⟩;have n3_ : Aside0 (Below w.heap.size w w38):=⟨(by rw [hw];exact (by repeat (first|(with_reducible first|exact HB.out|apply below_alloc|apply pw_below_drewN|apply below_drew1|refine below_set ?_ GE385.out)|exact HB.out)))⟩;clear hw;clear HO_5;clear HO_6;clear BK385;clear HB;have HO_5:=n0_;have HO_6:=n1_;have BK385:=n2_;have HB:=n3_;clear n0_ n1_ n2_ n3_;have hcz39_0 : w38.cell? ⟨gb385,0,none⟩ = some (.int .i64 ((rd_T107 l0 x28_1).f0)):=(blk_cell BK385.out 0).trans rfl;have hcz39_1 : w38.cell? ⟨gb385,1,none⟩ = some (.int .i64 ((rd_T107 l0 x28_1).f1)):=(blk_cell BK385.out 1).trans rfl;have hcz39_2 : w38.cell? ⟨gb385,2,none⟩ = some (.int .i64 ((rd_T107 l0 x28_1).f2)):=(blk_cell BK385.out 2).trans rfl;have hfz39_0:=blk_frozen BK385.out 0;have hfz39_1:=blk_frozen BK385.out 1;have hfz39_2:=blk_frozen BK385.out 2)|((with_reducible refine gate_callee (f:=82) rfl ?_);refine goesL_ (some 45) rfl rfl Try.func82 (by kernel_rfl) rfl #[.int .i64 ((rd_T107 l0 x28_1).f1)] rfl (by (try simp only [List.map_toArray,List.map_cons,List.map_nil]);first|done|rfl|(simp only [List.length_drop,List.length_take];rfl)) ?_;(with_reducible refine (impl_LengthCode.calls k1 ((rd_T107 l0 x28_1).f1) t388 t389 t390 _ A28.out).mono ?_);rintro e w' ⟨rfl,⟨nd,rfl⟩⟩;refine ⟨_,rfl,?_⟩;(try (rw [drewN_self w38];generalize hq_ : World.drewN w38 _ = w38;have n0_ : Aside0 (Kd.R (Kd.int .i64) 3 w38 w.heap.size (fun k_ => some k_ ≠ (v381 : Value).ownBlock) (.slice (some ⟨go7,0,none⟩) x5_1.length co7) x5_1):=⟨by rw [← hq_];exact (by (with_reducible repeat (first|apply Kd.R_alloc|apply Kd.R_drewN|apply Kd.R_drew));exact HO_5.out)⟩;have n1_ : Aside0 (Kd.R (Kd.int .i64) 3 w38 w.heap.size (fun k_ => some k_ ≠ (.slice (some ⟨go7,0,none⟩) x5_1.length co7 : Value).ownBlock) v381 x6_1):=⟨by rw [← hq_];exact (by (with_reducible repeat (first|apply Kd.R_alloc|apply Kd.R_drewN|apply Kd.R_drew));exact HO_6.out)⟩;have n2_ : Aside0 (w38.heap[gb385]? = some (.cells #[.int .i64 ((rd_T107 l0 x28_1).f0),.int .i64 ((rd_T107 l0 x28_1).f1),.int .i64 ((rd_T107 l0 x28_1).f2)] 107 (0,0))):=⟨by rw [← hq_];exact (by (with_reducible repeat (first|refine blk_drewN ?_ _|refine blk_drew ?_|refine blk_alloc ?_ _));exact BK385.out)⟩;have n3_ : Aside0 (Below w.heap.size w w38):=⟨by rw [← hq_];exact (by repeat (first|(with_reducible first|exact HB.out|apply below_alloc|apply pw_below_drewN|apply below_drew1|refine below_set ?_ GE385.out)|exact HB.out))⟩;clear HO_5 HO_6 BK385 HB hq_;have HO_5:=n0_;have HO_6:=n1_;have BK385:=n2_;have HB:=n3_;clear n0_ n1_ n2_ n3_;have hcz39_0 : w38.cell? ⟨gb385,0,none⟩ = some (.int .i64 ((rd_T107 l0 x28_1).f0)):=(blk_cell BK385.out 0).trans rfl;have hcz39_1 : w38.cell? ⟨gb385,1,none⟩ = some (.int .i64 ((rd_T107 l0 x28_1).f1)):=(blk_cell BK385.out 1).trans rfl;have hcz39_2 : w38.cell? ⟨gb385,2,none⟩ = some (.int .i64 ((rd_T107 l0 x28_1).f2)):=(blk_cell BK385.out 2).trans rfl;have hfz39_0:=blk_frozen BK385.out 0;have hfz39_1:=blk_frozen BK385.out 1;have hfz39_2:=blk_frozen BK385.out 2)))|((with_reducible refine gate_callee (f:=83) rfl ?_);refine goesL_ (some 52) rfl rfl Try.func83 (by kernel_rfl) rfl #[.int .i64 ((rd_T107 l0 x28_1).f2)] rfl (by (try simp only [List.map_toArray,List.map_cons,List.map_nil]);first|done|rfl|(simp only [List.length_drop,List.length_take];rfl)) ?_;(with_reducible refine (impl_DistCode.calls k1 ((rd_T107 l0 x28_1).f2) t391 t392 t393 _ A29.out).mono ?_);rintro e w' ⟨rfl,⟨nd,rfl⟩⟩;refine ⟨_,rfl,?_⟩;(try (rw [drewN_self w38];generalize hq_ : World.drewN w38 _ = w38;have n0_ : Aside0 (Kd.R (Kd.int .i64) 3 w38 w.heap.size (fun k_ => some k_ ≠ (v381 : Value).ownBlock) (.slice (some ⟨go7,0,none⟩) x5_1.length co7) x5_1):=⟨by rw [← hq_];exact (by (with_reducible repeat (first|apply Kd.R_alloc|apply Kd.R_drewN|apply Kd.R_drew));exact HO_5.out)⟩;have n1_ : Aside0 (Kd.R (Kd.int .i64) 3 w38 w.heap.size (fun k_ => some k_ ≠ (.slice (some ⟨go7,0,none⟩) x5_1.length co7 : Value).ownBlock) v381 x6_1):=⟨by rw [← hq_];exact (by (with_reducible repeat (first|apply Kd.R_alloc|apply Kd.R_drewN|apply Kd.R_drew));exact HO_6.out)⟩;have n2_ : Aside0 (w38.heap[gb385]? = some (.cells #[.int .i64 ((rd_T107 l0 x28_1).f0),.int .i64 ((rd_T107 l0 x28_1).f1),.int .i64 ((rd_T107 l0 x28_1).f2)] 107 (0,0))):=⟨by rw [← hq_];exact (by (with_reducible repeat (first|refine blk_drewN ?_ _|refine blk_drew ?_|refine blk_alloc ?_ _));exact BK385.out)⟩;have n3_ : Aside0 (Below w.heap.size w w38):=⟨by rw [← hq_];exact (by repeat (first|(with_reducible first|exact HB.out|apply below_alloc|apply pw_below_drewN|apply below_drew1|refine below_set ?_ GE385.out)|exact HB.out))⟩;clear HO_5 HO_6 BK385 HB hq_;have HO_5:=n0_;have HO_6:=n1_;have BK385:=n2_;have HB:=n3_;clear n0_ n1_ n2_ n3_));have p394 : 0 ≤ (t388 : Int):=of_decide_eq_true (by assumption);have q394 : t388 < (x5_1.length : Int):=of_decide_eq_true (by assumption);obtain ⟨ad394,e394,hx394_0⟩:=Kd.at_int (Kd.R_reads' HO_5.out).2.2 t388 p394 q394;obtain rfl : (⟨go7,0,none⟩ : Addr) = ad394:=(by injection e394);(first|simp only [add_plain] at hx394_0|simp only [add_at] at hx394_0|simp only [Addr.add,Nat.zero_add] at hx394_0|skip);replace p394:=eq_true p394;replace q394:=eq_true q394;have p32 : 0 ≤ (t388 : Int):=of_decide_eq_true (by assumption);have q32 : (t388 : Int) < ((x5_1.length : Int) : Int):=of_decide_eq_true (by assumption);obtain ⟨hx32_0,hf32_0⟩:=Kd.R_celln 0 HO_5.out (t388 : Int) p32 q32;replace p32:=eq_true p32;replace q32:=eq_true q32;obtain ⟨hy40_,hz40_⟩:=Kd.R_celln 0 HO_5.out (t388 : Int) (of_decide_eq_true (by assumption)) (of_decide_eq_true (by assumption));have HP40:=Kd.R_putg HO_5.out (t388 : Int) (wrap64 ((rd x5_1 t388) + 1)))|((with_reducible refine gate_store (t:=3) (p:=61) rfl ?_);refine store_event (t:=3) (p:=61) (v:=?vo_w41) (w1:=(w38.setCell ⟨go7,(t388 : Int).toNat,none⟩ (.int .i64 (wrap64 ((rd x5_1 t388) + 1))))) ?hg ?ho ?hn ?hr ?_;(case ho => rfl);(case hg => rfl);(case hn => rfl);(case hr => first|(go_simp;done)|(go_simp;rfl));intro w41 hw;have hg : w38.grownBy w41 (some go7):=(by rw [hw];exact HP40.2);have hp_ : Kd.R (Kd.int .i64) 3 w41 w.heap.size (fun k_ => some k_ ≠ (v381 : Value).ownBlock) (.slice (some ⟨go7,0,none⟩) x5_1.length co7) y395:=(by rw [hw,Ny395.out];exact HP40.1);clear HP40;have n0_:=Aside0.mk (hp_);have n1_:=Aside0.mk (Kd.R_after (v:=(.slice (some ⟨go7,0,none⟩) x5_1.length co7)) (v1:=(.slice (some ⟨go7,0,none⟩) x5_1.length co7)) (ok:=(fun _ => True)) (by (with_reducible repeat (first|apply Kd.R_alloc|apply Kd.R_drewN|apply Kd.R_drew));exact Kd.R_mono HO_6.out (fun _ hk => ⟨trivial,hk⟩)) hg (.inl rfl));have n2_:=Aside0.mk (blk_grown (g:=gb385) (o:=.cells #[.int .i64 ((rd_T107 l0 x28_1).f0),.int .i64 ((rd_T107 l0 x28_1).f1),.int .i64 ((rd_T107 l0 x28_1).f2)] 107 (0,0)) (by (with_reducible repeat (first|refine blk_drewN ?_ _|refine blk_drew ?_|refine blk_alloc ?_ _));exact BK385.out) hg (Kd.R_ne HO_5.out BK385.out (by decide)));have n3_:=Aside0.mk ((by rw [hw];exact below_set (HB.out) GB7.out : Below w.heap.size w w41));clear HO_5;clear HO_6;clear BK385;clear HB;have HO_5:=n0_;have HO_6:=n1_;have BK385:=n2_;have HB:=n3_;clear n0_ n1_ n2_ n3_;clear hg hw hp_;obtain ⟨Ao42,co42,eo42⟩:=Kd.R_slice HO_6.out;subst eo42;have p396 : 0 ≤ (t391 : Int):=of_decide_eq_true (by assumption);have q396 : t391 < (x6_1.length : Int):=of_decide_eq_true (by assumption);obtain ⟨ad396,e396,hx396_0⟩:=Kd.at_int (Kd.R_reads' HO_6.out).2.2 t391 p396 q396;cases e396;replace p396:=eq_true p396;replace q396:=eq_true q396;have p35 : 0 ≤ (t391 : Int):=of_decide_eq_true (by assumption);have q35 : (t391 : Int) < ((x6_1.length : Int) : Int):=of_decide_eq_true (by assumption);obtain ⟨go35,co35,eo35,gb35,gl35,cl35,HG35⟩:=Kd.R_form HO_6.out (by omega);(first|cases eo35|(injection eo35 with ea_ en_ ec_;(first|subst ea_|(injection ea_ with ea_;subst ea_));subst ec_;clear en_));have GB35:=Aside0.mk gb35;have GG35:=Aside0.mk HG35;clear gb35 gl35 HG35;(first|simp only [add_plain] at hx396_0|skip);obtain ⟨hx35_0,hf35_0⟩:=Kd.R_celln 0 HO_6.out (t391 : Int) p35 q35;replace p35:=eq_true p35;replace q35:=eq_true q35;have n_:=Aside0.mk (Kd.R_mono (ok':=(fun k_ => some k_ ≠ (.slice (some ⟨go7,0,none⟩) x5_1.length co7 : Value).ownBlock)) HO_6.out (fun k_ hk => hk.2));clear HO_6;have HO_6:=n_;clear n_;obtain ⟨hy43_,hz43_⟩:=Kd.R_celln 0 HO_6.out (t391 : Int) (of_decide_eq_true (by assumption)) (of_decide_eq_true (by assumption));have HP43:=Kd.R_putg HO_6.out (t391 : Int) (wrap64 ((rd x6_1 t391) + 1)))|((with_reducible refine gate_store (t:=3) (p:=67) rfl ?_);refine store_event (t:=3) (p:=67) (v:=?vo_w44) (w1:=(w41.setCell ⟨go35,(t391 : Int).toNat,none⟩ (.int .i64 (wrap64 ((rd x6_1 t391) + 1))))) ?hg ?ho ?hn ?hr ?_;(case ho => rfl);(case hg => rfl);(case hn => rfl);(case hr => first|(go_simp;done)|(go_simp;rfl));intro w44 hw;have hg : w41.grownBy w44 (some go35):=(by rw [hw];exact HP43.2);have hp_ : Kd.R (Kd.int .i64) 3 w44 w.heap.size (fun k_ => some k_ ≠ (.slice (some ⟨go7,0,none⟩) x5_1.length co7 : Value).ownBlock) (.slice (some ⟨go35,0,none⟩) x6_1.length co42) y397:=(by rw [hw,Ny397.out];exact HP43.1);clear HP43;have n0_:=Aside0.mk (Kd.R_after (v:=(.slice (some ⟨go35,0,none⟩) x6_1.length co42)) (v1:=(.slice (some ⟨go35,0,none⟩) x6_1.length co42)) (ok:=(fun _ => True)) (by (with_reducible repeat (first|apply Kd.R_alloc|apply Kd.R_drewN|apply Kd.R_drew));exact Kd.R_mono HO_5.out (fun _ hk => ⟨trivial,hk⟩)) hg (.inl rfl));have n1_:=Aside0.mk (hp_);have n2_:=Aside0.mk (blk_grown (g:=gb385) (o:=.cells #[.int .i64 ((rd_T107 l0 x28_1).f0),.int .i64 ((rd_T107 l0 x28_1).f1),.int .i64 ((rd_T107 l0 x28_1).f2)] 107 (0,0)) (by (with_reducible repeat (first|refine blk_drewN ?_ _|refine blk_drew ?_|refine blk_alloc ?_ _));exact BK385.out) hg (Kd.R_ne HO_6.out BK385.out (by decide)));have n3_:=Aside0.mk ((by rw [hw];exact below_set (HB.out) GB35.out : Below w.heap.size w w44));clear HO_5;clear HO_6;clear BK385;clear HB;have HO_5:=n0_;have HO_6:=n1_;have BK385:=n2_;have HB:=n3_;clear n0_ n1_ n2_ n3_;clear hg hw hp_))
   (try simp only [← hl5_1])
   go_roundg k1
   case measure => have:=HK1.out;omega
   case rel => exact ⟨(y395),(y397),(wrap64 (x28_1 + 1)),(by first|rfl|(simp;done)|(simp [*];done)),H',⟨by have:=HK1.out;omega⟩,⟨by (try simp only [hl5_1]);(with_reducible repeat (first|apply Kd.R_alloc|apply Kd.R_drewN|apply Kd.R_drew));exact Kd.R_mono HO_5.out (fun _ hk => hk.2)⟩,⟨by (try simp only [hl5_1]);(with_reducible repeat (first|apply Kd.R_alloc|apply Kd.R_drewN|apply Kd.R_drew));exact HO_6.out⟩,⟨by repeat (first|(with_reducible first|exact HB.out|apply below_alloc|apply pw_below_drewN|apply below_drew1|refine below_set ?_ GE385.out)|exact HB.out)⟩⟩
/-! ### laws_eqToken: function 85 -/
def laws_eqToken.f (a0_0 : Int) (a0_1 : Int) (a0_2 : Int) (a1_0 : Int) (a1_1 : Int) (a1_2 : Int) : Option (Bool) := if a0_0 = a1_0 then (if a0_1 = a1_1 then (if a0_2 = a1_2 then (some true) else (some false)) else (some false)) else (some false)
set_option maxHeartbeats 8000000 in
set_option maxRecDepth 100000 in
theorem laws_eqToken.calls (a0_0 : Int) (a0_1 : Int) (a0_2 : Int) (a1_0 : Int) (a1_1 : Int) (a1_2 : Int) (r : Bool) (w : World) (h : laws_eqToken.f a0_0 a0_1 a0_2 a1_0 a1_1 a1_2 = some r) :
    Calls Try.prog 85 #[.agg #[.int .i64 a0_0, .int .i64 a0_1, .int .i64 a0_2], .agg #[.int .i64 a1_0, .int .i64 a1_1, .int .i64 a1_2]] w fun e w' => e = .returned (.bool r) ∧ Below w.heap.size w w' := by
 have hu107:=Try.underlying107
 have HB:=Aside0.mk (Below.refl w.heap.size w)
 have H : (if a0_0 = a1_0 then (if a0_1 = a1_1 then (if a0_2 = a1_2 then (some true) else (some false)) else (some false)) else (some false)) = some r:=h
 clear h
 by_cases c3 : a0_0 = a1_0
 rotate_left
 ·rw [if_neg c3] at H
  have c3b0 : (a0_0 == a1_0) = false:=beq_eq_false_iff_ne.mpr c3
  have c3b1 : (a0_0 != a1_0) = true:=bne_iff_ne.mpr c3
  obtain rfl:=Option.some.inj H
  go_enter Try.func85,Try.ntmps85
  go_wp2_with (first|((with_reducible refine gate_dst (N:=2) rfl ?_);refine box_event ?hg (N:=2) ?hd (cs:=#[.int .i64 a0_0,.int .i64 a0_1,.int .i64 a0_2]) (t:=107) ?hr ?_;(case hd => rfl);(case hg => rfl);(case hr => first|(go_simp;done)|(go_simp;rfl));intro gb412 hg w21 hbox hb;have n0_:=Aside0.mk (below_step (by repeat (first|(with_reducible first|exact HB.out|apply below_alloc|apply pw_below_drewN|apply below_drew1)|exact HB.out)) hb);have n1_:=Aside0.mk (hbox);have n2_:=Aside0.mk ((by rw [hg];exact (below_size (by repeat (first|(with_reducible first|exact HB.out|apply below_alloc|apply pw_below_drewN|apply below_drew1)|exact HB.out))) : w.heap.size ≤ gb412));have n3_:=Aside0.mk ((by rw [hg];exact (below_size (by repeat (first|(with_reducible first|exact HB.out|apply below_alloc|apply pw_below_drewN|apply below_drew1)|exact HB.out))) : w.heap.size ≤ gb412));clear HB;have HB:=n0_;have BK412:=n1_;have GW412:=n2_;have GE412:=n3_;clear n0_ n1_ n2_ n3_;clear hb hbox hg)|((with_reducible refine gate_dst (N:=3) rfl ?_);refine box_event ?hg (N:=3) ?hd (cs:=#[.int .i64 a1_0,.int .i64 a1_1,.int .i64 a1_2]) (t:=107) ?hr ?_;(case hd => rfl);(case hg => rfl);(case hr => first|(go_simp;done)|(go_simp;rfl));intro gb413 hg w22 hbox hb;have n0_:=Aside0.mk (blk_below (g:=gb412) (o:=.cells #[.int .i64 a0_0,.int .i64 a0_1,.int .i64 a0_2] 107 (0,0)) (by (with_reducible repeat (first|refine blk_drewN ?_ _|refine blk_drew ?_|refine blk_alloc ?_ _));exact BK412.out) hb);have n1_:=Aside0.mk (below_step (by repeat (first|(with_reducible first|exact HB.out|apply below_alloc|apply pw_below_drewN|apply below_drew1|refine below_set ?_ GE412.out)|exact HB.out)) hb);have n2_:=Aside0.mk (hbox);have n3_:=Aside0.mk ((by rw [hg];exact (below_size (by repeat (first|(with_reducible first|exact HB.out|apply below_alloc|apply pw_below_drewN|apply below_drew1|refine below_set ?_ GE412.out)|exact HB.out))) : w.heap.size ≤ gb413));have n4_:=Aside0.mk ((by rw [hg];exact (below_size (by repeat (first|(with_reducible first|exact HB.out|apply below_alloc|apply pw_below_drewN|apply below_drew1|refine below_set ?_ GE412.out)|exact HB.out))) : w.heap.size ≤ gb413));have n5_:=Aside0.mk ((by rw [hg];exact Nat.ne_of_lt (blk_lt (g:=gb412) (o:=.cells #[.int .i64 a0_0,.int .i64 a0_1,.int .i64 a0_2] 107 (0,0)) (by (with_reducible repeat (first|refine blk_drewN ?_ _|refine blk_drew ?_|refine blk_alloc ?_ _));exact BK412.out)) : gb412 ≠ gb413));have n6_:=Aside0.mk ((by rw [hg];exact Nat.ne_of_gt (blk_lt (g:=gb412) (o:=.cells #[.int .i64 a0_0,.int .i64 a0_1,.int .i64 a0_2] 107 (0,0)) (by (with_reducible repeat (first|refine blk_drewN ?_ _|refine blk_drew ?_|refine blk_alloc ?_ _));exact BK412.out)) : gb413 ≠ gb412));clear BK412;clear HB;have BK412:=n0_;have HB:=n1_;have BK413:=n2_;have GW413:=n3_;have GE413:=n4_;have NB412_413:=n5_;have NB413_412:=n6_;clear n0_ n1_ n2_ n3_ n4_ n5_ n6_;clear hb hbox hg;have hnb23:=NB412_413.out;have hnc23:=NB413_412.out;have hcz24_0 : w22.cell? ⟨gb412,0,none⟩ = some (.int .i64 a0_0):=(blk_cell BK412.out 0).trans rfl;have hcz24_1 : w22.cell? ⟨gb412,1,none⟩ = some (.int .i64 a0_1):=(blk_cell BK412.out 1).trans rfl;have hcz24_2 : w22.cell? ⟨gb412,2,none⟩ = some (.int .i64 a0_2):=(blk_cell BK412.out 2).trans rfl;have hfz24_0:=blk_frozen BK412.out 0;have hfz24_1:=blk_frozen BK412.out 1;have hfz24_2:=blk_frozen BK412.out 2;have hcz25_0 : w22.cell? ⟨gb413,0,none⟩ = some (.int .i64 a1_0):=(blk_cell BK413.out 0).trans rfl;have hcz25_1 : w22.cell? ⟨gb413,1,none⟩ = some (.int .i64 a1_1):=(blk_cell BK413.out 1).trans rfl;have hcz25_2 : w22.cell? ⟨gb413,2,none⟩ = some (.int .i64 a1_2):=(blk_cell BK413.out 2).trans rfl;have hfz25_0:=blk_frozen BK413.out 0;have hfz25_1:=blk_frozen BK413.out 1;have hfz25_2:=blk_frozen BK413.out 2))
  go_ret
  exact ⟨by first|rfl|(simp [errW_none,errW_some] <;> rfl)|(simp [*,errW_none,errW_some] <;> rfl),by repeat (first|(with_reducible first|exact HB.out|apply below_alloc|apply pw_below_drewN|apply below_drew1|refine below_set ?_ GE412.out|refine below_set ?_ GE413.out)|exact HB.out)⟩
 rw [if_pos c3] at H
 have c3b0 : (a0_0 == a1_0) = true:=beq_iff_eq.mpr c3
 have c3b1 : (a0_0 != a1_0) = false:=bne_eq_false_iff_eq.mpr c3
 clear c3
 by_cases c4 : a0_1 = a1_1
 rotate_left
 ·rw [if_neg c4] at H
  have c4b0 : (a0_1 == a1_1) = false:=beq_eq_false_iff_ne.mpr c4
  have c4b1 : (a0_1 != a1_1) = true:=bne_iff_ne.mpr c4
  obtain rfl:=Option.some.inj H
  go_enter Try.func85,Try.ntmps85
  go_wp2_with (first|((with_reducible refine gate_dst (N:=2) rfl ?_);refine box_event ?hg (N:=2) ?hd (cs:=#[.int .i64 a0_0,.int .i64 a0_1,.int .i64 a0_2]) (t:=107) ?hr ?_;(case hd => rfl);(case hg => rfl);(case hr => first|(go_simp;done)|(go_simp;rfl));intro gb412 hg w16 hbox hb;have n0_:=Aside0.mk (below_step (by repeat (first|(with_reducible first|exact HB.out|apply below_alloc|apply pw_below_drewN|apply below_drew1)|exact HB.out)) hb);have n1_:=Aside0.mk (hbox);have n2_:=Aside0.mk ((by rw [hg];exact (below_size (by repeat (first|(with_reducible first|exact HB.out|apply below_alloc|apply pw_below_drewN|apply below_drew1)|exact HB.out))) : w.heap.size ≤ gb412));have n3_:=Aside0.mk ((by rw [hg];exact (below_size (by repeat (first|(with_reducible first|exact HB.out|apply below_alloc|apply pw_below_drewN|apply below_drew1)|exact HB.out))) : w.heap.size ≤ gb412));clear HB;have HB:=n0_;have BK412:=n1_;have GW412:=n2_;have GE412:=n3_;clear n0_ n1_ n2_ n3_;clear hb hbox hg)|((with_reducible refine gate_dst (N:=3) rfl ?_);refine box_event ?hg (N:=3) ?hd (cs:=#[.int .i64 a1_0,.int .i64 a1_1,.int .i64 a1_2]) (t:=107) ?hr ?_;(case hd => rfl);(case hg => rfl);(case hr => first|(go_simp;done)|(go_simp;rfl));intro gb413 hg w17 hbox hb;have n0_:=Aside0.mk (blk_below (g:=gb412) (o:=.cells #[.int .i64 a0_0,.int .i64 a0_1,.int .i64 a0_2] 107 (0,0)) (by (with_reducible repeat (first|refine blk_drewN ?_ _|refine blk_drew ?_|refine blk_alloc ?_ _));exact BK412.out) hb);have n1_:=Aside0.mk (below_step (by repeat (first|(with_reducible first|exact HB.out|apply below_alloc|apply pw_below_drewN|apply below_drew1|refine below_set ?_ GE412.out)|exact HB.out)) hb);have n2_:=Aside0.mk (hbox);have n3_:=Aside0.mk ((by rw [hg];exact (below_size (by repeat (first|(with_reducible first|exact HB.out|apply below_alloc|apply pw_below_drewN|apply below_drew1|refine below_set ?_ GE412.out)|exact HB.out))) : w.heap.size ≤ gb413));have n4_:=Aside0.mk ((by rw [hg];exact (below_size (by repeat (first|(with_reducible first|exact HB.out|apply below_alloc|apply pw_below_drewN|apply below_drew1|refine below_set ?_ GE412.out)|exact HB.out))) : w.heap.size ≤ gb413));have n5_:=Aside0.mk ((by rw [hg];exact Nat.ne_of_lt (blk_lt (g:=gb412) (o:=.cells #[.int .i64 a0_0,.int .i64 a0_1,.int .i64 a0_2] 107 (0,0)) (by (with_reducible repeat (first|refine blk_drewN ?_ _|refine blk_drew ?_|refine blk_alloc ?_ _));exact BK412.out)) : gb412 ≠ gb413));have n6_:=Aside0.mk ((by rw [hg];exact Nat.ne_of_gt (blk_lt (g:=gb412) (o:=.cells #[.int .i64 a0_0,.int .i64 a0_1,.int .i64 a0_2] 107 (0,0)) (by (with_reducible repeat (first|refine blk_drewN ?_ _|refine blk_drew ?_|refine blk_alloc ?_ _));exact BK412.out)) : gb413 ≠ gb412));clear BK412;clear HB;have BK412:=n0_;have HB:=n1_;have BK413:=n2_;have GW413:=n3_;have GE413:=n4_;have NB412_413:=n5_;have NB413_412:=n6_;clear n0_ n1_ n2_ n3_ n4_ n5_ n6_;clear hb hbox hg;have hnb18:=NB412_413.out;have hnc18:=NB413_412.out;have hcz19_0 : w17.cell? ⟨gb412,0,none⟩ = some (.int .i64 a0_0):=(blk_cell BK412.out 0).trans rfl;have hcz19_1 : w17.cell? ⟨gb412,1,none⟩ = some (.int .i64 a0_1):=(blk_cell BK412.out 1).trans rfl;have hcz19_2 : w17.cell? ⟨gb412,2,none⟩ = some (.int .i64 a0_2):=(blk_cell BK412.out 2).trans rfl;have hfz19_0:=blk_frozen BK412.out 0;have hfz19_1:=blk_frozen BK412.out 1;have hfz19_2:=blk_frozen BK412.out 2;have hcz20_0 : w17.cell? ⟨gb413,0,none⟩ = some (.int .i64 a1_0):=(blk_cell BK413.out 0).trans rfl;have hcz20_1 : w17.cell? ⟨gb413,1,none⟩ = some (.int .i64 a1_1):=(blk_cell BK413.out 1).trans rfl;have hcz20_2 : w17.cell? ⟨gb413,2,none⟩ = some (.int .i64 a1_2):=(blk_cell BK413.out 2).trans rfl;have hfz20_0:=blk_frozen BK413.out 0;have hfz20_1:=blk_frozen BK413.out 1;have hfz20_2:=blk_frozen BK413.out 2))
  go_ret
  exact ⟨by first|rfl|(simp [errW_none,errW_some] <;> rfl)|(simp [*,errW_none,errW_some] <;> rfl),by repeat (first|(with_reducible first|exact HB.out|apply below_alloc|apply pw_below_drewN|apply below_drew1|refine below_set ?_ GE412.out|refine below_set ?_ GE413.out)|exact HB.out)⟩
 rw [if_pos c4] at H
 have c4b0 : (a0_1 == a1_1) = true:=beq_iff_eq.mpr c4
 have c4b1 : (a0_1 != a1_1) = false:=bne_eq_false_iff_eq.mpr c4
 clear c4
 by_cases c5 : a0_2 = a1_2
 ·rw [if_pos c5] at H
  have c5b0 : (a0_2 == a1_2) = true:=beq_iff_eq.mpr c5
  have c5b1 : (a0_2 != a1_2) = false:=bne_eq_false_iff_eq.mpr c5
  clear c5
  obtain rfl:=Option.some.inj H
  go_enter Try.func85,Try.ntmps85
  go_wp2_with (first|((with_reducible refine gate_dst (N:=2) rfl ?_);refine box_event ?hg (N:=2) ?hd (cs:=#[.int .i64 a0_0,.int .i64 a0_1,.int .i64 a0_2]) (t:=107) ?hr ?_;(case hd => rfl);(case hg => rfl);(case hr => first|(go_simp;done)|(go_simp;rfl));intro gb412 hg w6 hbox hb;have n0_:=Aside0.mk (below_step (by repeat (first|(with_reducible first|exact HB.out|apply below_alloc|apply pw_below_drewN|apply below_drew1)|exact HB.out)) hb);have n1_:=Aside0.mk (hbox);have n2_:=Aside0.mk ((by rw [hg];exact (below_size (by repeat (first|(with_reducible first|exact HB.out|apply below_alloc|apply pw_below_drewN|apply below_drew1)|exact HB.out))) : w.heap.size ≤ gb412));have n3_:=Aside0.mk ((by rw [hg];exact (below_size (by repeat (first|(with_reducible first|exact HB.out|apply below_alloc|apply pw_below_drewN|apply below_drew1)|exact HB.out))) : w.heap.size ≤ gb412));clear HB;have HB:=n0_;have BK412:=n1_;have GW412:=n2_;have GE412:=n3_;clear n0_ n1_ n2_ n3_;clear hb hbox hg)|((with_reducible refine gate_dst (N:=3) rfl ?_);refine box_event ?hg (N:=3) ?hd (cs:=#[.int .i64 a1_0,.int .i64 a1_1,.int .i64 a1_2]) (t:=107) ?hr ?_;(case hd => rfl);(case hg => rfl);(case hr => first|(go_simp;done)|(go_simp;rfl));intro gb413 hg w7 hbox hb;have n0_:=Aside0.mk (blk_below (g:=gb412) (o:=.cells #[.int .i64 a0_0,.int .i64 a0_1,.int .i64 a0_2] 107 (0,0)) (by (with_reducible repeat (first|refine blk_drewN ?_ _|refine blk_drew ?_|refine blk_alloc ?_ _));exact BK412.out) hb);have n1_:=Aside0.mk (below_step (by repeat (first|(with_reducible first|exact HB.out|apply below_alloc|apply pw_below_drewN|apply below_drew1|refine below_set ?_ GE412.out)|exact HB.out)) hb);have n2_:=Aside0.mk (hbox);have n3_:=Aside0.mk ((by rw [hg];exact (below_size (by repeat (first|(with_reducible first|exact HB.out|apply below_alloc|apply pw_below_drewN|apply below_drew1|refine below_set ?_ GE412.out)|exact HB.out))) : w.heap.size ≤ gb413));have n4_:=Aside0.mk ((by rw [hg];exact (below_size (by repeat (first|(with_reducible first|exact HB.out|apply below_alloc|apply pw_below_drewN|apply below_drew1|refine below_set ?_ GE412.out)|exact HB.out))) : w.heap.size ≤ gb413));have n5_:=Aside0.mk ((by rw [hg];exact Nat.ne_of_lt (blk_lt (g:=gb412) (o:=.cells #[.int .i64 a0_0,.int .i64 a0_1,.int .i64 a0_2] 107 (0,0)) (by (with_reducible repeat (first|refine blk_drewN ?_ _|refine blk_drew ?_|refine blk_alloc ?_ _));exact BK412.out)) : gb412 ≠ gb413));have n6_:=Aside0.mk ((by rw [hg];exact Nat.ne_of_gt (blk_lt (g:=gb412) (o:=.cells #[.int .i64 a0_0,.int .i64 a0_1,.int .i64 a0_2] 107 (0,0)) (by (with_reducible repeat (first|refine blk_drewN ?_ _|refine blk_drew ?_|refine blk_alloc ?_ _));exact BK412.out)) : gb413 ≠ gb412));clear BK412;clear HB;have BK412:=n0_;have HB:=n1_;have BK413:=n2_;have GW413:=n3_;have GE413:=n4_;have NB412_413:=n5_;have NB413_412:=n6_;clear n0_ n1_ n2_ n3_ n4_ n5_ n6_;clear hb hbox hg;have hnb8:=NB412_413.out;have hnc8:=NB413_412.out;have hcz9_0 : w7.cell? ⟨gb412,0,none⟩ = some (.int .i64 a0_0):=(blk_cell BK412.out 0).trans rfl;have hcz9_1 : w7.cell? ⟨gb412,1,none⟩ = some (.int .i64 a0_1):=(blk_cell BK412.out 1).trans rfl;have hcz9_2 : w7.cell? ⟨gb412,2,none⟩ = some (.int .i64 a0_2):=(blk_cell BK412.out 2).trans rfl;have hfz9_0:=blk_frozen BK412.out 0;have hfz9_1:=blk_frozen BK412.out 1;have hfz9_2:=blk_frozen BK412.out 2;have hcz10_0 : w7.cell? ⟨gb413,0,none⟩ = some (.int .i64 a1_0):=(blk_cell BK413.out 0).trans rfl;have hcz10_1 : w7.cell? ⟨gb413,1,none⟩ = some (.int .i64 a1_1):=(blk_cell BK413.out 1).trans rfl;have hcz10_2 : w7.cell? ⟨gb413,2,none⟩ = some (.int .i64 a1_2):=(blk_cell BK413.out 2).trans rfl;have hfz10_0:=blk_frozen BK413.out 0;have hfz10_1:=blk_frozen BK413.out 1;have hfz10_2:=blk_frozen BK413.out 2))
  go_ret
  exact ⟨by first|rfl|(simp [errW_none,errW_some] <;> rfl)|(simp [*,errW_none,errW_some] <;> rfl),by repeat (first|(with_reducible first|exact HB.out|apply below_alloc|apply pw_below_drewN|apply below_drew1|refine below_set ?_ GE412.out|refine below_set ?_ GE413.out)|exact HB.out)⟩
 rw [if_neg c5] at H
 have c5b0 : (a0_2 == a1_2) = false:=beq_eq_false_iff_ne.mpr c5
 have c5b1 : (a0_2 != a1_2) = true:=bne_iff_ne.mpr c5
 obtain rfl:=Option.some.inj H
 go_enter Try.func85,Try.ntmps85
 go_wp2_with (first|((with_reducible refine gate_dst (N:=2) rfl ?_);refine box_event ?hg (N:=2) ?hd (cs:=#[.int .i64 a0_0,.int .i64 a0_1,.int .i64 a0_2]) (t:=107) ?hr ?_;(case hd => rfl);(case hg => rfl);(case hr => first|(go_simp;done)|(go_simp;rfl));intro gb412 hg w11 hbox hb;have n0_:=Aside0.mk (below_step (by repeat (first|(with_reducible first|exact HB.out|apply below_alloc|apply pw_below_drewN|apply below_drew1)|exact HB.out)) hb);have n1_:=Aside0.mk (hbox);have n2_:=Aside0.mk ((by rw [hg];exact (below_size (by repeat (first|(with_reducible first|exact HB.out|apply below_alloc|apply pw_below_drewN|apply below_drew1)|exact HB.out))) : w.heap.size ≤ gb412));have n3_:=Aside0.mk ((by rw [hg];exact (below_size (by repeat (first|(with_reducible first|exact HB.out|apply below_alloc|apply pw_below_drewN|apply below_drew1)|exact HB.out))) : w.heap.size ≤ gb412));clear HB;have HB:=n0_;have BK412:=n1_;have GW412:=n2_;have GE412:=n3_;clear n0_ n1_ n2_ n3_;clear hb hbox hg)|((with_reducible refine gate_dst (N:=3) rfl ?_);refine box_event ?hg (N:=3) ?hd (cs:=#[.int .i64 a1_0,.int .i64 a1_1,.int .i64 a1_2]) (t:=107) ?hr ?_;(case hd => rfl);(case hg => rfl);(case hr => first|(go_simp;done)|(go_simp;rfl));intro gb413 hg w12 hbox hb;have n0_:=Aside0.mk (blk_below (g:=gb412) (o:=.cells #[.int .i64 a0_0,.int .i64 a0_1,.int .i64 a0_2] 107 (0,0)) (by (with_reducible repeat (first|refine blk_drewN ?_ _|refine blk_drew ?_|refine blk_alloc ?_ _));exact BK412.out) hb);have n1_:=Aside0.mk (below_step (by repeat (first|(with_reducible first|exact HB.out|apply below_alloc|apply pw_below_drewN|apply below_drew1|refine below_set ?_ GE412.out)|exact HB.out)) hb);have n2_:=Aside0.mk (hbox);have n3_:=Aside0.mk ((by rw [hg];exact (below_size (by repeat (first|(with_reducible first|exact HB.out|apply below_alloc|apply pw_below_drewN|apply below_drew1|refine below_set ?_ GE412.out)|exact HB.out))) : w.heap.size ≤ gb413));have n4_:=Aside0.mk ((by rw [hg];exact (below_size (by repeat (first|(with_reducible first|exact HB.out|apply below_alloc|apply pw_below_drewN|apply below_drew1|refine below_set ?_ GE412.out)|exact HB.out))) : w.heap.size ≤ gb413));have n5_:=Aside0.mk ((by rw [hg];exact Nat.ne_of_lt (blk_lt (g:=gb412) (o:=.cells #[.int .i64 a0_0,.int .i64 a0_1,.int .i64 a0_2] 107 (0,0)) (by (with_reducible repeat (first|refine blk_drewN ?_ _|refine blk_drew ?_|refine blk_alloc ?_ _));exact BK412.out)) : gb412 ≠ gb413));have n6_:=Aside0.mk ((by rw [hg];exact Nat.ne_of_gt (blk_lt (g:=gb412) (o:=.cells #[.int .i64 a0_0,.int .i64 a0_1,.int .i64 a0_2] 107 (0,0)) (by (with_reducible repeat (first|refine blk_drewN ?_ _|refine blk_drew ?_|refine blk_alloc ?_ _));exact BK412.out)) : gb413 ≠ gb412));clear BK412;clear HB;have BK412:=n0_;have HB:=n1_;have BK413:=n2_;have GW413:=n3_;have GE413:=n4_;have NB412_413:=n5_;have NB413_412:=n6_;clear n0_ n1_ n2_ n3_ n4_ n5_ n6_;clear hb hbox hg;have hnb13:=NB412_413.out;have hnc13:=NB413_412.out;have hcz14_0 : w12.cell? ⟨gb412,0,none⟩ = some (.int .i64 a0_0):=(blk_cell BK412.out 0).trans rfl;have hcz14_1 : w12.cell? ⟨gb412,1,none⟩ = some (.int .i64 a0_1):=(blk_cell BK412.out 1).trans rfl;have hcz14_2 : w12.cell? ⟨gb412,2,none⟩ = some (.int .i64 a0_2):=(blk_cell BK412.out 2).trans rfl;have hfz14_0:=blk_frozen BK412.out 0;have hfz14_1:=blk_frozen BK412.out 1;have hfz14_2:=blk_frozen BK412.out 2;have hcz15_0 : w12.cell? ⟨gb413,0,none⟩ = some (.int .i64 a1_0):=(blk_cell BK413.out 0).trans rfl;have hcz15_1 : w12.cell? ⟨gb413,1,none⟩ = some (.int .i64 a1_1):=(blk_cell BK413.out 1).trans rfl;have hcz15_2 : w12.cell? ⟨gb413,2,none⟩ = some (.int .i64 a1_2):=(blk_cell BK413.out 2).trans rfl;have hfz15_0:=blk_frozen BK413.out 0;have hfz15_1:=blk_frozen BK413.out 1;have hfz15_2:=blk_frozen BK413.out 2))
 go_ret
 exact ⟨by first|rfl|(simp [errW_none,errW_some] <;> rfl)|(simp [*,errW_none,errW_some] <;> rfl),by repeat (first|(with_reducible first|exact HB.out|apply below_alloc|apply pw_below_drewN|apply below_drew1|refine below_set ?_ GE412.out|refine below_set ?_ GE413.out)|exact HB.out)⟩
/-! ### laws_eqTokenS: function 45 -/
def laws_eqTokenS.l0 : Nat → List (S107) → List (S107) → Int → Option (Bool)
  | 0, _, _, _ => none
  | k + 1, x0, x1, x5 => if x5 < (x0.length : Int) then (if 0 ≤ x5 then (if x5 < (x1.length : Int) then ((laws_eqToken.f ((rd_T107 x0 x5).f0) ((rd_T107 x0 x5).f1) ((rd_T107 x0 x5).f2) ((rd_T107 x1 x5).f0) ((rd_T107 x1 x5).f1) ((rd_T107 x1 x5).f2)).bind fun t416 => (if t416 = true then (laws_eqTokenS.l0 k x0 x1 (wrap64 (x5 + 1))) else (some false))) else (none)) else (none)) else (some true)
def laws_eqTokenS.f (k : Nat) (l0 : List (S107)) (l1 : List (S107)) : Option (Bool) := if (l0.length : Int) = (l1.length : Int) then (laws_eqTokenS.l0 k l0 l1 0) else (some false)
theorem laws_eqTokenS.mono_l : ∀ k, (∀ y0 y1 y2, LeO (laws_eqTokenS.l0 k y0 y1 y2) (laws_eqTokenS.l0 (k + 1) y0 y1 y2))
  | 0 => fun _ _ _ r h => by simp [laws_eqTokenS.l0] at h
  | k + 1 => by
    have ih0 := laws_eqTokenS.mono_l k
    · intro y0 y1 y2
      unfold laws_eqTokenS.l0
      repeat' first
      | (with_reducible exact ih0 _ _ _)
      | (with_reducible exact LeO.refl _)
      | (with_reducible exact LeO.none _)
      | (with_reducible refine LeO.ite ?_ ?_)
      | (with_reducible refine LeO.bind ?_ (fun _ => ?_))
      | exact ih0 _ _ _
      | exact LeO.none _
      | refine LeO.ite ?_ ?_
      | refine LeO.bind ?_ (fun _ => ?_)
theorem laws_eqTokenS.mono : ∀ a0 a1 k, LeO (laws_eqTokenS.f k a0 a1) (laws_eqTokenS.f (k + 1) a0 a1) := by
  intro a0 a1 k
  have ih0 := laws_eqTokenS.mono_l k
  unfold laws_eqTokenS.f
  repeat' first
      | (with_reducible exact ih0 _ _ _)
      | (with_reducible exact LeO.refl _)
      | (with_reducible exact LeO.none _)
      | (with_reducible refine LeO.ite ?_ ?_)
      | (with_reducible refine LeO.bind ?_ (fun _ => ?_))
      | exact ih0 _ _ _
      | exact LeO.none _
      | refine LeO.ite ?_ ?_
      | refine LeO.bind ?_ (fun _ => ?_)
def laws_eqTokenS.T6 : Bool × List (List Nat × List Nat) := (true, [([], []), ([], []), ([0, 1], [0, 1]), ([2], [2]), ([], []), ([], []), ([4, 5], [4, 5]), ([6], [6]), ([3, 7], [3, 7]), ([8], [8])])
def laws_eqTokenS.B6 : List Nat := [0, 0, 3, 7, 0, 0, 48, 112, 255, 511]
theorem laws_eqTokenS.tab6 : rtab .any (opsOf Try.f45 6) = laws_eqTokenS.T6 := by kernel_rfl
theorem laws_eqTokenS.bits6 : waitsOk laws_eqTokenS.T6.2 laws_eqTokenS.B6 = true := by kernel_rfl
set_option maxHeartbeats 8000000 in
set_option maxRecDepth 100000 in
theorem laws_eqTokenS.calls (k : Nat) (A0 : Option Addr) (c0 : Nat) (l0 : List (S107)) (A1 : Option Addr) (c1 : Nat) (l1 : List (S107)) (r : Bool) (w : World) (hr0 : Kd.C k107 w A0 l0.length l0) (hc0 : l0.length ≤ c0) (hr1 : Kd.C k107 w A1 l1.length l1) (hc1 : l1.length ≤ c1) (h : laws_eqTokenS.f k l0 l1 = some r) :
    Calls Try.prog 45 #[.slice A0 l0.length c0, .slice A1 l1.length c1] w fun e w' => e = .returned (.bool r) ∧ Below w.heap.size w w' := by
 have hu107:=Try.underlying107
 have HR0:=Aside0.mk hr0
 have HC0:=Aside0.mk hc0
 clear hr0 hc0
 have HR1:=Aside0.mk hr1
 have HC1:=Aside0.mk hc1
 clear hr1 hc1
 have HB:=Aside0.mk (Below.refl w.heap.size w)
 have H : (if (l0.length : Int) = (l1.length : Int) then (laws_eqTokenS.l0 k l0 l1 0) else (some false)) = some r:=h
 clear h
 by_cases c3 : (l0.length : Int) = (l1.length : Int)
 rotate_left
 ·rw [if_neg c3] at H
  have c3b0 : ((l0.length : Int) == (l1.length : Int)) = false:=beq_eq_false_iff_ne.mpr c3
  have c3b1 : ((l0.length : Int) != (l1.length : Int)) = true:=bne_iff_ne.mpr c3
  have c3b2 : (l0.length == l1.length) = false:=by first|simpa using c3|(simp at c3 ⊢;omega)
  obtain rfl:=Option.some.inj H
  go_enter Try.func45,Try.ntmps45
  go_wp2
  go_ret
  exact ⟨by first|rfl|(simp [errW_none,errW_some] <;> rfl)|(simp [*,errW_none,errW_some] <;> rfl),by repeat (first|(with_reducible first|exact HB.out|apply below_alloc|apply pw_below_drewN|apply below_drew1)|exact HB.out)⟩
 rw [if_pos c3] at H
 have c3b0 : ((l0.length : Int) == (l1.length : Int)) = true:=beq_iff_eq.mpr c3
 have c3b1 : ((l0.length : Int) != (l1.length : Int)) = false:=bne_eq_false_iff_eq.mpr c3
 have c3b2 : (l0.length == l1.length) = true:=by first|simpa using c3|(simp at c3 ⊢;omega)
 clear c3
 have H':=Aside0.mk H
 clear H
 go_enter Try.func45,Try.ntmps45
 go_wp2
 go_loopg [5] k (fun kq v5 w' => ∃ (x5_1 : Int),v5 = .int .i64 x5_1∧Aside0 (laws_eqTokenS.l0 kq l0 l1 x5_1 = some r)∧Aside0 (kq ≤ k)∧Aside0 (Below w.heap.size w w'))
 case atStart => exact ⟨(0),(by first|rfl|(simp;done)|(simp [*];done)),H',⟨Nat.le_refl _⟩,⟨by repeat (first|(with_reducible first|exact HB.out|apply below_alloc|apply pw_below_drewN|apply below_drew1)|exact HB.out)⟩⟩
 case round =>
  clear H'
  obtain ⟨x5_1,rfl,HA,HK1,HB⟩:=hrel
  cases gk with
  | zero => exact absurd HA.out (by simp [laws_eqTokenS.l0])
  | succ k1 =>
   have H:=HA.out
   clear HA
   simp only [laws_eqTokenS.l0] at H
   by_cases c4 : x5_1 < (l0.length : Int)
   rotate_left
   ·rw [if_neg c4] at H
    have c4b0 : decide (x5_1 < (l0.length : Int)) = false:=decide_eq_false c4
    clear c4
    obtain rfl:=Option.some.inj H
    go_wp2
    go_ret
    exact ⟨by first|rfl|(simp [errW_none,errW_some] <;> rfl)|(simp [*,errW_none,errW_some] <;> rfl),by repeat (first|(with_reducible first|exact HB.out|apply below_alloc|apply pw_below_drewN|apply below_drew1)|exact HB.out)⟩
   rw [if_pos c4] at H
   have c4b0 : decide (x5_1 < (l0.length : Int)) = true:=decide_eq_true c4
   clear c4
   by_cases c5 : 0 ≤ x5_1
   rotate_left
   ·rw [if_neg c5] at H
    exact absurd H (by simp)
   rw [if_pos c5] at H
   have c5b0 : decide (0 ≤ x5_1) = true:=decide_eq_true c5
   clear c5
   by_cases c6 : x5_1 < (l1.length : Int)
   rotate_left
   ·rw [if_neg c6] at H
    exact absurd H (by simp)
   rw [if_pos c6] at H
   have c6b0 : decide (x5_1 < (l1.length : Int)) = true:=decide_eq_true c6
   clear c6
   replace H:=Option.bind_eq_some_iff.mp H
   obtain ⟨t416,A70,H⟩:=H
   replace H : (if t416 = true then (laws_eqTokenS.l0 k1 l0 l1 (wrap64 (x5_1 + 1))) else (some false)) = some r:=H
   have A7:=Aside0.mk A70
   clear A70
   by_cases c8 : t416 = true
   rotate_left
   ·replace c8:=Bool.eq_false_iff.mpr c8
    subst c8
    have H1 : (some false) = some r:=by rw [if_neg (show ¬ (false = true) by decide)] at H;exact H
    clear H
    have H:=H1
    clear H1
    obtain rfl:=Option.some.inj H
    try go_wp2
    have n0_:=Aside0.mk (below_drew1 HB.out)
    clear HB
    have HB:=n0_
    clear n0_
    have p414 : 0 ≤ (x5_1 : Int):=of_decide_eq_true (by assumption)
    have q414 : x5_1 < (l0.length : Int):=of_decide_eq_true (by assumption)
    obtain ⟨ad414,e414,hx414_0,hx414_1,hx414_2⟩:=at_T107 HR0.out x5_1 p414 q414
    have hw414_2:=hx414_2
    have hw414_1:=hx414_1
    have hw414_0:=hx414_0
    cases e414
    replace hx414_0:=(HB.out.cell (World.block_lt_of_cell? w _ hx414_0)).trans hx414_0
    replace hx414_1:=(HB.out.cell (World.block_lt_of_cell? w _ hx414_1)).trans hx414_1
    replace hx414_2:=(HB.out.cell (World.block_lt_of_cell? w _ hx414_2)).trans hx414_2
    replace p414:=eq_true p414
    replace q414:=eq_true q414
    have p415 : 0 ≤ (x5_1 : Int):=of_decide_eq_true (by assumption)
    have q415 : x5_1 < (l1.length : Int):=of_decide_eq_true (by assumption)
    obtain ⟨ad415,e415,hx415_0,hx415_1,hx415_2⟩:=at_T107 HR1.out x5_1 p415 q415
    have hw415_2:=hx415_2
    have hw415_1:=hx415_1
    have hw415_0:=hx415_0
    cases e415
    replace hx415_0:=(HB.out.cell (World.block_lt_of_cell? w _ hx415_0)).trans hx415_0
    replace hx415_1:=(HB.out.cell (World.block_lt_of_cell? w _ hx415_1)).trans hx415_1
    replace hx415_2:=(HB.out.cell (World.block_lt_of_cell? w _ hx415_2)).trans hx415_2
    replace p415:=eq_true p415
    replace q415:=eq_true q415
    refine start_ (n:=10) (S:=fun w' => w'.cell? (ad414.add ((x5_1).toNat * 3)) = some (.int .i64 ((rd_T107 l0 x5_1).f0))∧w'.cell? ⟨(ad414.add ((x5_1).toNat * 3)).block,(ad414.add ((x5_1).toNat * 3)).off + 1,none⟩ = some (.int .i64 ((rd_T107 l0 x5_1).f1))∧w'.cell? ⟨(ad414.add ((x5_1).toNat * 3)).block,(ad414.add ((x5_1).toNat * 3)).off + 2,none⟩ = some (.int .i64 ((rd_T107 l0 x5_1).f2))∧w'.cell? (ad415.add ((x5_1).toNat * 3)) = some (.int .i64 ((rd_T107 l1 x5_1).f0))∧w'.cell? ⟨(ad415.add ((x5_1).toNat * 3)).block,(ad415.add ((x5_1).toNat * 3)).off + 1,none⟩ = some (.int .i64 ((rd_T107 l1 x5_1).f1))∧w'.cell? ⟨(ad415.add ((x5_1).toNat * 3)).block,(ad415.add ((x5_1).toNat * 3)).off + 2,none⟩ = some (.int .i64 ((rd_T107 l1 x5_1).f2))) (ds:=[]) #[Z,Z,Z,Z,Z,Z,Z,Z,Z,Z] (by kernel_rfl) rfl rfl ⟨((HB.out.cell (World.block_lt_of_cell? w _ hw414_0)).trans hw414_0),((HB.out.cell (World.block_lt_of_cell? w _ hw414_1)).trans hw414_1),((HB.out.cell (World.block_lt_of_cell? w _ hw414_2)).trans hw414_2),((HB.out.cell (World.block_lt_of_cell? w _ hw415_0)).trans hw415_0),((HB.out.cell (World.block_lt_of_cell? w _ hw415_1)).trans hw415_1),((HB.out.cell (World.block_lt_of_cell? w _ hw415_2)).trans hw415_2)⟩ (fun hHeld => ?_);refine with_tabW laws_eqTokenS.tab6 laws_eqTokenS.bits6 (fun HT_ HW_ => ?_)
    generalize wr.drew = w11 at HB hx414_0 hx414_1 hx414_2 hx415_0 hx415_1 hx415_2 hHeld ⊢
    refine pure_ (i:=0) (N:=some 17) (v:=?_) (a':=?_) #[Y,Z,Z,Z,Z,Z,Z,Z,Z,Z] rfl rfl (any_of HT_.out (by kernel_rfl)) (fun _ _ _ h => h) (Or.inl ⟨by rfl,?_⟩) ?_ ?_
    rotate_left
    ·intro w'
     go_simp
     with_reducible rfl
    rotate_left
    ·simp only [sPu,sIa,sCz,sCs,i64_w,i32_w]
     rfl
    refine pure_ (i:=1) (N:=some 18) (v:=?_) (a':=?_) #[Y,Y,Z,Z,Z,Z,Z,Z,Z,Z] rfl rfl (any_of HT_.out (by kernel_rfl)) (fun _ _ _ h => h) (Or.inl ⟨by rfl,?_⟩) ?_ ?_
    rotate_left
    ·intro w'
     go_simp
     with_reducible rfl
    rotate_left
    ·simp only [sPu,sIa,sCz,sCs,i64_w,i32_w]
     rfl
    refine pure_ (i:=2) (N:=some 19) (v:=?_) (a':=?_) #[Y,Y,Y,Z,Z,Z,Z,Z,Z,Z] rfl rfl (any_of HT_.out (by kernel_rfl)) (fun _ _ _ h => h) (Or.inl ⟨by rfl,?_⟩) ?_ ?_
    rotate_left
    ·intro w'
     go_simp
     with_reducible rfl
    rotate_left
    ·simp only [sPu,sIa,sCz,sCs,i64_w,i32_w]
     rfl
    refine pure_ (i:=4) (N:=some 21) (v:=?_) (a':=?_) #[Y,Y,Y,Z,Y,Z,Z,Z,Z,Z] rfl rfl (any_of HT_.out (by kernel_rfl)) (fun _ _ _ h => h) (Or.inl ⟨by rfl,?_⟩) ?_ ?_
    rotate_left
    ·intro w'
     go_simp
     with_reducible rfl
    rotate_left
    ·simp only [sPu,sIa,sCz,sCs,i64_w,i32_w]
     rfl
    refine pure_ (i:=5) (N:=some 22) (v:=?_) (a':=?_) #[Y,Y,Y,Z,Y,Y,Z,Z,Z,Z] rfl rfl (any_of HT_.out (by kernel_rfl)) (fun _ _ _ h => h) (Or.inl ⟨by rfl,?_⟩) ?_ ?_
    rotate_left
    ·intro w'
     go_simp
     with_reducible rfl
    rotate_left
    ·simp only [sPu,sIa,sCz,sCs,i64_w,i32_w]
     rfl
    refine pure_ (i:=6) (N:=some 23) (v:=?_) (a':=?_) #[Y,Y,Y,Z,Y,Y,Y,Z,Z,Z] rfl rfl (any_of HT_.out (by kernel_rfl)) (fun _ _ _ h => h) (Or.inl ⟨by rfl,?_⟩) ?_ ?_
    rotate_left
    ·intro w'
     go_simp
     with_reducible rfl
    rotate_left
    ·simp only [sPu,sIa,sCz,sCs,i64_w,i32_w]
     rfl
    refine take_ (i:=3) (N:=some 20) (v:=?_) (a':=?_) #[Y,Y,Y,Y,Y,Y,Y,Z,Z,Z] rfl rfl (take_ofW HT_.out HW_.out (by kernel_rfl)) (fun _ _ _ h => h) (Or.inl ⟨by rfl,?_⟩) hHeld ?_ ?_
    rotate_left
    ·rintro w' ⟨s0,s1,s2,s3,s4,s5⟩
     go_simp
     with_reducible rfl
    rotate_left
    ·simp only [sPu,sIa,sCz,sCs,i64_w,i32_w]
     rfl
    refine take_ (i:=7) (N:=some 24) (v:=?_) (a':=?_) #[Y,Y,Y,Y,Y,Y,Y,Y,Z,Z] rfl rfl (take_ofW HT_.out HW_.out (by kernel_rfl)) (fun _ _ _ h => h) (Or.inl ⟨by rfl,?_⟩) hHeld ?_ ?_
    rotate_left
    ·rintro w' ⟨s0,s1,s2,s3,s4,s5⟩
     go_simp
     with_reducible rfl
    rotate_left
    ·simp only [sPu,sIa,sCz,sCs,i64_w,i32_w]
     rfl
    refine one_ (i:=8) (N:=some 25) #[Y,Y,Y,Y,Y,Y,Y,Y,Y,Z] rfl rfl (one_of HT_.out (by kernel_rfl)) (by decide) (fun K hK => ?_)
    refine goes_ Try.func85 (by kernel_rfl) rfl #[.agg #[.int .i64 ((rd_T107 l0 x5_1).f0),.int .i64 ((rd_T107 l0 x5_1).f1),.int .i64 ((rd_T107 l0 x5_1).f2)],.agg #[.int .i64 ((rd_T107 l1 x5_1).f0),.int .i64 ((rd_T107 l1 x5_1).f1),.int .i64 ((rd_T107 l1 x5_1).f2)]] (by rfl) rfl rfl (by (try simp only [List.map_toArray,List.map_cons,List.map_nil]);first|done|rfl|(simp only [List.length_drop,List.length_take];rfl)) ?_
    with_reducible refine (laws_eqToken.calls ((rd_T107 l0 x5_1).f0) ((rd_T107 l0 x5_1).f1) ((rd_T107 l0 x5_1).f2) ((rd_T107 l1 x5_1).f0) ((rd_T107 l1 x5_1).f1) ((rd_T107 l1 x5_1).f2) false _ A7.out).mono ?_
    rintro e w12 ⟨rfl,hb⟩
    refine ⟨_,rfl,?_⟩
    have n0_:=Aside0.mk (below_step (by repeat (first|(with_reducible first|exact HB.out|apply below_alloc|apply pw_below_drewN|apply below_drew1)|exact HB.out)) hb)
    clear HB
    have HB:=n0_
    clear n0_
    (try clear hb)
    (try clear hb2)
    (try clear hk)
    (try clear hi)
    refine hK.out _ _ ⟨((HB.out.cell (World.block_lt_of_cell? w _ hw414_0)).trans hw414_0),((HB.out.cell (World.block_lt_of_cell? w _ hw414_1)).trans hw414_1),((HB.out.cell (World.block_lt_of_cell? w _ hw414_2)).trans hw414_2),((HB.out.cell (World.block_lt_of_cell? w _ hw415_0)).trans hw415_0),((HB.out.cell (World.block_lt_of_cell? w _ hw415_1)).trans hw415_1),((HB.out.cell (World.block_lt_of_cell? w _ hw415_2)).trans hw415_2)⟩ (fun hHeld => ?_)
    clear hK K
    refine norm_ (a':=?_) ?_ ?_
    rotate_left
    ·show Act.put _ (some 25) _ = _
     simp only [sPu,sIa,sCz,sCs,i64_w,i32_w]
     rfl
    refine pure_ (i:=9) (N:=some 26) (v:=?_) (a':=?_) #[Y,Y,Y,Y,Y,Y,Y,Y,Y,Y] rfl rfl (any_of HT_.out (by kernel_rfl)) (fun _ _ _ h => h) (Or.inl ⟨by rfl,?_⟩) ?_ ?_
    rotate_left
    ·intro w'
     go_simp
     with_reducible rfl
    rotate_left
    ·simp only [sPu,sIa,sCz,sCs,i64_w,i32_w]
     rfl
    refine done_ (done_of HT_.out (by kernel_rfl)) ?_
    try go_wp2
    go_ret
    exact ⟨by first|rfl|(simp [errW_none,errW_some] <;> rfl)|(simp [*,errW_none,errW_some] <;> rfl),by repeat (first|(with_reducible first|exact HB.out|apply below_alloc|apply pw_below_drewN|apply below_drew1)|exact HB.out)⟩
   subst c8
   have H1 : (laws_eqTokenS.l0 k1 l0 l1 (wrap64 (x5_1 + 1))) = some r:=by rw [if_pos rfl] at H;exact H
   clear H
   have H:=H1
   clear H1
   have H':=Aside0.mk H
   clear H
   try go_wp2
   have n0_:=Aside0.mk (below_drew1 HB.out)
   clear HB
   have HB:=n0_
   clear n0_
   have p414 : 0 ≤ (x5_1 : Int):=of_decide_eq_true (by assumption)
   have q414 : x5_1 < (l0.length : Int):=of_decide_eq_true (by assumption)
   obtain ⟨ad414,e414,hx414_0,hx414_1,hx414_2⟩:=at_T107 HR0.out x5_1 p414 q414
   have hw414_2:=hx414_2
   have hw414_1:=hx414_1
   have hw414_0:=hx414_0
   cases e414
   replace hx414_0:=(HB.out.cell (World.block_lt_of_cell? w _ hx414_0)).trans hx414_0
   replace hx414_1:=(HB.out.cell (World.block_lt_of_cell? w _ hx414_1)).trans hx414_1
   replace hx414_2:=(HB.out.cell (World.block_lt_of_cell? w _ hx414_2)).trans hx414_2
   replace p414:=eq_true p414
   replace q414:=eq_true q414
   have p415 : 0 ≤ (x5_1 : Int):=of_decide_eq_true (by assumption)
   have q415 : x5_1 < (l1.length : Int):=of_decide_eq_true (by assumption)
   obtain ⟨ad415,e415,hx415_0,hx415_1,hx415_2⟩:=at_T107 HR1.out x5_1 p415 q415
   have hw415_2:=hx415_2
   have hw415_1:=hx415_1
   have hw415_0:=hx415_0
   cases e415
   replace hx415_0:=(HB.out.cell (World.block_lt_of_cell? w _ hx415_0)).trans hx415_0
   replace hx415_1:=(HB.out.cell (World.block_lt_of_cell? w _ hx415_1)).trans hx415_1
   replace hx415_2:=(HB.out.cell (World.block_lt_of_cell? w _ hx415_2)).trans hx415_2
   replace p415:=eq_true p415
   replace q415:=eq_true q415
   refine start_ (n:=10) (S:=fun w' => w'.cell? (ad414.add ((x5_1).toNat * 3)) = some (.int .i64 ((rd_T107 l0 x5_1).f0))∧w'.cell? ⟨(ad414.add ((x5_1).toNat * 3)).block,(ad414.add ((x5_1).toNat * 3)).off + 1,none⟩ = some (.int .i64 ((rd_T107 l0 x5_1).f1))∧w'.cell? ⟨(ad414.add ((x5_1).toNat * 3)).block,(ad414.add ((x5_1).toNat * 3)).off + 2,none⟩ = some (.int .i64 ((rd_T107 l0 x5_1).f2))∧w'.cell? (ad415.add ((x5_1).toNat * 3)) = some (.int .i64 ((rd_T107 l1 x5_1).f0))∧w'.cell? ⟨(ad415.add ((x5_1).toNat * 3)).block,(ad415.add ((x5_1).toNat * 3)).off + 1,none⟩ = some (.int .i64 ((rd_T107 l1 x5_1).f1))∧w'.cell? ⟨(ad415.add ((x5_1).toNat * 3)).block,(ad415.add ((x5_1).toNat * 3)).off + 2,none⟩ = some (.int .i64 ((rd_T107 l1 x5_1).f2))) (ds:=[]) #[Z,Z,Z,Z,Z,Z,Z,Z,Z,Z] (by kernel_rfl) rfl rfl ⟨((HB.out.cell (World.block_lt_of_cell? w _ hw414_0)).trans hw414_0),((HB.out.cell (World.block_lt_of_cell? w _ hw414_1)).trans hw414_1),((HB.out.cell (World.block_lt_of_cell? w _ hw414_2)).trans hw414_2),((HB.out.cell (World.block_lt_of_cell? w _ hw415_0)).trans hw415_0),((HB.out.cell (World.block_lt_of_cell? w _ hw415_1)).trans hw415_1),((HB.out.cell (World.block_lt_of_cell? w _ hw415_2)).trans hw415_2)⟩ (fun hHeld => ?_);refine with_tabW laws_eqTokenS.tab6 laws_eqTokenS.bits6 (fun HT_ HW_ => ?_)
   generalize wr.drew = w9 at HB hx414_0 hx414_1 hx414_2 hx415_0 hx415_1 hx415_2 hHeld ⊢
   refine pure_ (i:=0) (N:=some 17) (v:=?_) (a':=?_) #[Y,Z,Z,Z,Z,Z,Z,Z,Z,Z] rfl rfl (any_of HT_.out (by kernel_rfl)) (fun _ _ _ h => h) (Or.inl ⟨by rfl,?_⟩) ?_ ?_
   rotate_left
   ·intro w'
    go_simp
    with_reducible rfl
   rotate_left
   ·simp only [sPu,sIa,sCz,sCs,i64_w,i32_w]
    rfl
   refine pure_ (i:=1) (N:=some 18) (v:=?_) (a':=?_) #[Y,Y,Z,Z,Z,Z,Z,Z,Z,Z] rfl rfl (any_of HT_.out (by kernel_rfl)) (fun _ _ _ h => h) (Or.inl ⟨by rfl,?_⟩) ?_ ?_
   rotate_left
   ·intro w'
    go_simp
    with_reducible rfl
   rotate_left
   ·simp only [sPu,sIa,sCz,sCs,i64_w,i32_w]
    rfl
   refine pure_ (i:=2) (N:=some 19) (v:=?_) (a':=?_) #[Y,Y,Y,Z,Z,Z,Z,Z,Z,Z] rfl rfl (any_of HT_.out (by kernel_rfl)) (fun _ _ _ h => h) (Or.inl ⟨by rfl,?_⟩) ?_ ?_
   rotate_left
   ·intro w'
    go_simp
    with_reducible rfl
   rotate_left
   ·simp only [sPu,sIa,sCz,sCs,i64_w,i32_w]
    rfl
   refine pure_ (i:=4) (N:=some 21) (v:=?_) (a':=?_) #[Y,Y,Y,Z,Y,Z,Z,Z,Z,Z] rfl rfl (any_of HT_.out (by kernel_rfl)) (fun _ _ _ h => h) (Or.inl ⟨by rfl,?_⟩) ?_ ?_
   rotate_left
   ·intro w'
    go_simp
    with_reducible rfl
   rotate_left
   ·simp only [sPu,sIa,sCz,sCs,i64_w,i32_w]
    rfl
   refine pure_ (i:=5) (N:=some 22) (v:=?_) (a':=?_) #[Y,Y,Y,Z,Y,Y,Z,Z,Z,Z] rfl rfl (any_of HT_.out (by kernel_rfl)) (fun _ _ _ h => h) (Or.inl ⟨by rfl,?_⟩) ?_ ?_
   rotate_left
   ·intro w'
    go_simp
    with_reducible rfl
   rotate_left
   ·simp only [sPu,sIa,sCz,sCs,i64_w,i32_w]
    rfl
   refine pure_ (i:=6) (N:=some 23) (v:=?_) (a':=?_) #[Y,Y,Y,Z,Y,Y,Y,Z,Z,Z] rfl rfl (any_of HT_.out (by kernel_rfl)) (fun _ _ _ h => h) (Or.inl ⟨by rfl,?_⟩) ?_ ?_
   rotate_left
   ·intro w'
    go_simp
    with_reducible rfl
   rotate_left
   ·simp only [sPu,sIa,sCz,sCs,i64_w,i32_w]
    rfl
   refine take_ (i:=3) (N:=some 20) (v:=?_) (a':=?_) #[Y,Y,Y,Y,Y,Y,Y,Z,Z,Z] rfl rfl (take_ofW HT_.out HW_.out (by kernel_rfl)) (fun _ _ _ h => h) (Or.inl ⟨by rfl,?_⟩) hHeld ?_ ?_
   rotate_left
   ·rintro w' ⟨s0,s1,s2,s3,s4,s5⟩
    go_simp
    with_reducible rfl
   rotate_left
   ·simp only [sPu,sIa,sCz,sCs,i64_w,i32_w]
    rfl
   refine take_ (i:=7) (N:=some 24) (v:=?_) (a':=?_) #[Y,Y,Y,Y,Y,Y,Y,Y,Z,Z] rfl rfl (take_ofW HT_.out HW_.out (by kernel_rfl)) (fun _ _ _ h => h) (Or.inl ⟨by rfl,?_⟩) hHeld ?_ ?_
   rotate_left
   ·rintro w' ⟨s0,s1,s2,s3,s4,s5⟩
    go_simp
    with_reducible rfl
   rotate_left
   ·simp only [sPu,sIa,sCz,sCs,i64_w,i32_w]
    rfl
   refine one_ (i:=8) (N:=some 25) #[Y,Y,Y,Y,Y,Y,Y,Y,Y,Z] rfl rfl (one_of HT_.out (by kernel_rfl)) (by decide) (fun K hK => ?_)
   refine goes_ Try.func85 (by kernel_rfl) rfl #[.agg #[.int .i64 ((rd_T107 l0 x5_1).f0),.int .i64 ((rd_T107 l0 x5_1).f1),.int .i64 ((rd_T107 l0 x5_1).f2)],.agg #[.int .i64 ((rd_T107 l1 x5_1).f0),.int .i64 ((rd_T107 l1 x5_1).f1),.int .i64 ((rd_T107 l1 x5_1).f2)]] (by rfl) rfl rfl (by (try simp only [List.map_toArray,List.map_cons,List.map_nil]);first|done|rfl|(simp only [List.length_drop,List.length_take];rfl)) ?_
   with_reducible refine (laws_eqToken.calls ((rd_T107 l0 x5_1).f0) ((rd_T107 l0 x5_1).f1) ((rd_T107 l0 x5_1).f2) ((rd_T107 l1 x5_1).f0) ((rd_T107 l1 x5_1).f1) ((rd_T107 l1 x5_1).f2) true _ A7.out).mono ?_
   rintro e w10 ⟨rfl,hb⟩
   refine ⟨_,rfl,?_⟩
   have n0_:=Aside0.mk (below_step (by repeat (first|(with_reducible first|exact HB.out|apply below_alloc|apply pw_below_drewN|apply below_drew1)|exact HB.out)) hb)
   clear HB
   have HB:=n0_
   clear n0_
   (try clear hb)
   (try clear hb2)
   (try clear hk)
   (try clear hi)
   refine hK.out _ _ ⟨((HB.out.cell (World.block_lt_of_cell? w _ hw414_0)).trans hw414_0),((HB.out.cell (World.block_lt_of_cell? w _ hw414_1)).trans hw414_1),((HB.out.cell (World.block_lt_of_cell? w _ hw414_2)).trans hw414_2),((HB.out.cell (World.block_lt_of_cell? w _ hw415_0)).trans hw415_0),((HB.out.cell (World.block_lt_of_cell? w _ hw415_1)).trans hw415_1),((HB.out.cell (World.block_lt_of_cell? w _ hw415_2)).trans hw415_2)⟩ (fun hHeld => ?_)
   clear hK K
   refine norm_ (a':=?_) ?_ ?_
   rotate_left
   ·show Act.put _ (some 25) _ = _
    simp only [sPu,sIa,sCz,sCs,i64_w,i32_w]
    rfl
   refine pure_ (i:=9) (N:=some 26) (v:=?_) (a':=?_) #[Y,Y,Y,Y,Y,Y,Y,Y,Y,Y] rfl rfl (any_of HT_.out (by kernel_rfl)) (fun _ _ _ h => h) (Or.inl ⟨by rfl,?_⟩) ?_ ?_
   rotate_left
   ·intro w'
    go_simp
    with_reducible rfl
   rotate_left
   ·simp only [sPu,sIa,sCz,sCs,i64_w,i32_w]
    rfl
   refine done_ (done_of HT_.out (by kernel_rfl)) ?_
   try go_wp2
   go_roundg k1
   case measure => have:=HK1.out;omega
   case rel => exact ⟨(wrap64 (x5_1 + 1)),(by first|rfl|(simp;done)|(simp [*];done)),H',⟨by have:=HK1.out;omega⟩,⟨by repeat (first|(with_reducible first|exact HB.out|apply below_alloc|apply pw_below_drewN|apply below_drew1)|exact HB.out)⟩⟩
/-! ### laws_markTokenS: function 46 -/
def laws_markTokenS.l0 : Nat → List (S107) → Int → Int → Option (Int × (List (S107)))
  | 0, _, _, _ => none
  | k + 1, x0, x1, x5 => if x5 < (x0.length : Int) then (if 0 ≤ x5 then ((some (x0.set (x5 : Int).toNat (⟨x1, (rd_T107 x0 x5).f1, (rd_T107 x0 x5).f2⟩ : S107) : List (S107))).bind fun y417 => ((some (y417.set (x5 : Int).toNat (⟨(rd_T107 y417 x5).f0, wrap64 (x1 + 1), (rd_T107 y417 x5).f2⟩ : S107) : List (S107))).bind fun y418 => (laws_markTokenS.l0 k (y418.set (x5 : Int).toNat (⟨(rd_T107 y418 x5).f0, (rd_T107 y418 x5).f1, wrap64 ((wrap64 (x1 + 1)) + 1)⟩ : S107)) (wrap64 ((wrap64 ((wrap64 (x1 + 1)) + 1)) + 1)) (wrap64 (x5 + 1))))) else (none)) else (some (x1, x0))
def laws_markTokenS.f (k : Nat) (l0 : List (S107)) (a1 : Int) : Option (Int × (List (S107))) := laws_markTokenS.l0 k l0 a1 0
theorem laws_markTokenS.mono_l : ∀ k, (∀ y0 y1 y2, LeO (laws_markTokenS.l0 k y0 y1 y2) (laws_markTokenS.l0 (k + 1) y0 y1 y2))
  | 0 => fun _ _ _ r h => by simp [laws_markTokenS.l0] at h
  | k + 1 => by
    have ih0 := laws_markTokenS.mono_l k
    · intro y0 y1 y2
      unfold laws_markTokenS.l0
      repeat' first
      | (with_reducible exact ih0 _ _ _)
      | (with_reducible exact LeO.refl _)
      | (with_reducible exact LeO.none _)
      | (with_reducible refine LeO.ite ?_ ?_)
      | (with_reducible refine LeO.bind ?_ (fun _ => ?_))
      | exact ih0 _ _ _
      | exact LeO.none _
      | refine LeO.ite ?_ ?_
      | refine LeO.bind ?_ (fun _ => ?_)
theorem laws_markTokenS.mono : ∀ a0 a1 k, LeO (laws_markTokenS.f k a0 a1) (laws_markTokenS.f (k + 1) a0 a1) := by
  intro a0 a1 k
  have ih0 := laws_markTokenS.mono_l k
  unfold laws_markTokenS.f
  repeat' first
      | (with_reducible exact ih0 _ _ _)
      | (with_reducible exact LeO.refl _)
      | (with_reducible exact LeO.none _)
      | (with_reducible refine LeO.ite ?_ ?_)
      | (with_reducible refine LeO.bind ?_ (fun _ => ?_))
      | exact ih0 _ _ _
      | exact LeO.none _
      | refine LeO.ite ?_ ?_
      | refine LeO.bind ?_ (fun _ => ?_)
set_option maxHeartbeats 8000000 in
set_option maxRecDepth 100000 in
theorem laws_markTokenS.calls (k : Nat) (P0_ : Nat → Prop) (u9000_ : Value) (l0 : List (S107)) (a1 : Int) (r1 : Int) (r2 : List (S107)) (w0 w : World) (hB : Below w0.heap.size w0 w) (ho0 : Kd.R k107 107 w w0.heap.size P0_ u9000_ l0) (h : laws_markTokenS.f k l0 a1 = some (r1, r2)) :
    Calls Try.prog 46 #[u9000_, .int .i64 a1] w fun e w' => e = .returned (.int .i64 r1) ∧ Kd.R k107 107 w' w0.heap.size (fun k_ => (P0_ k_ ∨ w.heap.size ≤ k_)) u9000_ r2 ∧ Below w0.heap.size w0 w' ∧ Kept w w' (fun k_ => P0_ k_) := by
 have HO0:=Aside0.mk (show Kd.R k107 107 w w0.heap.size (fun k_ => (P0_ k_ ∨ w.heap.size ≤ k_)) u9000_ l0 from Kd.R_mono ho0 (fun k_ hk => (.inl hk)))
 have HK:=Aside0.mk (Kept.refl w (fun k_ => P0_ k_))
 have HW0:=Aside0.mk hB.size
 have HB:=Aside0.mk hB
 clear hB
 have H : (laws_markTokenS.l0 k l0 a1 0) = some (r1,r2):=h
 clear h
 have H':=Aside0.mk H
 clear H
 go_enter Try.func46,Try.ntmps46
 go_wp2
 go_loopg [1,5] k (fun kq v1 v5 w' => ∃ (x0_1 : List (S107)) (x1_1 : Int) (x5_1 : Int),v1 = .int .i64 x1_1∧v5 = .int .i64 x5_1∧Aside0 (laws_markTokenS.l0 kq x0_1 x1_1 x5_1 = some (r1,r2))∧Aside0 (kq ≤ k)∧Aside0 (Kd.R k107 107 w' w0.heap.size (fun k_ => (P0_ k_ ∨ w.heap.size ≤ k_)) u9000_ x0_1)∧Aside0 (Kept w w' (fun k_ => P0_ k_))∧Aside0 (Below w0.heap.size w0 w'))
 case atStart => exact ⟨(l0),(a1),(0),(by first|rfl|(simp;done)|(simp [*];done)),(by first|rfl|(simp;done)|(simp [*];done)),H',⟨Nat.le_refl _⟩,⟨by (with_reducible repeat (first|apply Kd.R_alloc|apply Kd.R_drewN|apply Kd.R_drew));exact HO0.out⟩,⟨by repeat (first|(with_reducible first|exact HK.out|apply Kept.alloc|apply Kept.drewN|apply Kept.drew)|exact HK.out)⟩,⟨by repeat (first|(with_reducible first|exact HB.out|apply below_alloc|apply pw_below_drewN|apply below_drew1)|exact HB.out)⟩⟩
 case round =>
  clear H'
  obtain ⟨x0_1,x1_1,x5_1,rfl,rfl,HA,HK1,HO_0,HK,HB⟩:=hrel
  cases gk with
  | zero => exact absurd HA.out (by simp [laws_markTokenS.l0])
  | succ k1 =>
   have H:=HA.out
   clear HA
   simp only [laws_markTokenS.l0] at H
   by_cases c3 : x5_1 < (x0_1.length : Int)
   rotate_left
   ·rw [if_neg c3] at H
    have c3b0 : decide (x5_1 < (x0_1.length : Int)) = false:=decide_eq_false c3
    clear c3
    simp only [Option.some.injEq,Prod.mk.injEq] at H
    obtain ⟨rfl,rfl⟩:=H
    obtain ⟨Ao15,co15,eo15⟩:=Kd.R_slice HO_0.out
    subst eo15
    go_wp2
    go_ret
    exact ⟨by first|rfl|(simp [errW_none,errW_some] <;> rfl)|(simp [*,errW_none,errW_some] <;> rfl),by (with_reducible repeat (first|apply Kd.R_alloc|apply Kd.R_drewN|apply Kd.R_drew));exact HO_0.out,by repeat (first|(with_reducible first|exact HB.out|apply below_alloc|apply pw_below_drewN|apply below_drew1)|exact HB.out),by repeat (first|(with_reducible first|exact HK.out|apply Kept.alloc|apply Kept.drewN|apply Kept.drew)|exact HK.out)⟩
   rw [if_pos c3] at H
   have c3b0 : decide (x5_1 < (x0_1.length : Int)) = true:=decide_eq_true c3
   clear c3
   by_cases c4 : 0 ≤ x5_1
   rotate_left
   ·rw [if_neg c4] at H
    exact absurd H (by simp)
   rw [if_pos c4] at H
   have c4b0 : decide (0 ≤ x5_1) = true:=decide_eq_true c4
   clear c4
   obtain ⟨y417,hy417⟩ : ∃ y_ : List (S107),y_ = (x0_1.set (x5_1 : Int).toNat (⟨x1_1,(rd_T107 x0_1 x5_1).f1,(rd_T107 x0_1 x5_1).f2⟩ : S107)):=⟨_,rfl⟩
   replace H : ((some (y417.set (x5_1 : Int).toNat (⟨(rd_T107 y417 x5_1).f0,wrap64 (x1_1 + 1),(rd_T107 y417 x5_1).f2⟩ : S107) : List (S107))).bind fun y418 => (laws_markTokenS.l0 k1 (y418.set (x5_1 : Int).toNat (⟨(rd_T107 y418 x5_1).f0,(rd_T107 y418 x5_1).f1,wrap64 ((wrap64 (x1_1 + 1)) + 1)⟩ : S107)) (wrap64 ((wrap64 ((wrap64 (x1_1 + 1)) + 1)) + 1)) (wrap64 (x5_1 + 1)))) = some (r1,r2):=by first|(rw [hy417];with_reducible exact H)|(have H2_:=(Option.bind_some _ _).symm.trans H;rw [hy417];with_reducible exact H2_)|(have H2_:=(Option.bind_some _ _).symm.trans H;with_reducible exact H2_)|with_reducible exact H|(rw [hy417];exact H)|exact H
   have Ny417:=Aside0.mk hy417
   clear hy417
   obtain ⟨y418,hy418⟩ : ∃ y_ : List (S107),y_ = (y417.set (x5_1 : Int).toNat (⟨(rd_T107 y417 x5_1).f0,wrap64 (x1_1 + 1),(rd_T107 y417 x5_1).f2⟩ : S107)):=⟨_,rfl⟩
   replace H : (laws_markTokenS.l0 k1 (y418.set (x5_1 : Int).toNat (⟨(rd_T107 y418 x5_1).f0,(rd_T107 y418 x5_1).f1,wrap64 ((wrap64 (x1_1 + 1)) + 1)⟩ : S107)) (wrap64 ((wrap64 ((wrap64 (x1_1 + 1)) + 1)) + 1)) (wrap64 (x5_1 + 1))) = some (r1,r2):=by first|(rw [hy418];with_reducible exact H)|(have H2_:=(Option.bind_some _ _).symm.trans H;rw [hy418];with_reducible exact H2_)|(have H2_:=(Option.bind_some _ _).symm.trans H;with_reducible exact H2_)|with_reducible exact H|(rw [hy418];exact H)|exact H
   have Ny418:=Aside0.mk hy418
   clear hy418
   obtain ⟨y419,hy419⟩ : ∃ y_ : List (S107),y_ = (y418.set (x5_1 : Int).toNat (⟨(rd_T107 y418 x5_1).f0,(rd_T107 y418 x5_1).f1,wrap64 ((wrap64 (x1_1 + 1)) + 1)⟩ : S107)):=⟨_,rfl⟩
   replace H : (laws_markTokenS.l0 k1 y419 (wrap64 ((wrap64 ((wrap64 (x1_1 + 1)) + 1)) + 1)) (wrap64 (x5_1 + 1))) = some (r1,r2):=by first|(rw [hy419];with_reducible exact H)|(have H2_:=(Option.bind_some _ _).symm.trans H;rw [hy419];with_reducible exact H2_)|(have H2_:=(Option.bind_some _ _).symm.trans H;with_reducible exact H2_)|with_reducible exact H|(rw [hy419];exact H)|exact H
   have Ny419:=Aside0.mk hy419
   clear hy419
   have H':=Aside0.mk H
   clear H
   obtain ⟨Ao8,co8,eo8⟩:=Kd.R_slice HO_0.out
   subst eo8
   have p5 : 0 ≤ (x5_1 : Int):=of_decide_eq_true (by assumption)
   have q5 : (x5_1 : Int) < ((x0_1.length : Int) : Int):=of_decide_eq_true (by assumption)
   obtain ⟨go5,co5,eo5,gb5,gl5,cl5,HG5⟩:=Kd.R_form HO_0.out (by omega)
   (first|cases eo5|(injection eo5 with ea_ en_ ec_;(first|subst ea_|(injection ea_ with ea_;subst ea_));subst ec_;clear en_))
   have GB5:=Aside0.mk gb5
   have GG5:=Aside0.mk HG5
   clear gb5 gl5 HG5
   have HMgo5:=Aside0.mk (show (P0_ go5 ∨ w.heap.size ≤ go5) from (HO_0.out.1 _ rfl))
   obtain ⟨ce5,hcl5,hM5,hcc5,hfr5⟩:=Kd.R_elem HO_0.out z107 (x5_1 : Int) p5 q5
   obtain rfl:=k107_openM hM5
   have hx5_0 : wr.cell? ⟨go5,(x5_1 : Int).toNat * 3,none⟩ = some (.int .i64 ((rd_T107 x0_1 x5_1).f0)):=hcc5 0 _ rfl
   have hx5_1 : wr.cell? ⟨go5,(x5_1 : Int).toNat * 3 + 1,none⟩ = some (.int .i64 ((rd_T107 x0_1 x5_1).f1)):=hcc5 1 _ rfl
   have hx5_2 : wr.cell? ⟨go5,(x5_1 : Int).toNat * 3 + 2,none⟩ = some (.int .i64 ((rd_T107 x0_1 x5_1).f2)):=hcc5 2 _ rfl
   have hf5_0 : wr.frozen? ⟨go5,(x5_1 : Int).toNat * 3,none⟩ = false:=hfr5 0
   have hf5_1 : wr.frozen? ⟨go5,(x5_1 : Int).toNat * 3 + 1,none⟩ = false:=hfr5 1
   have hf5_2 : wr.frozen? ⟨go5,(x5_1 : Int).toNat * 3 + 2,none⟩ = false:=hfr5 2
   clear hcl5 hcc5 hfr5 hM5
   replace p5:=eq_true p5
   replace q5:=eq_true q5
   have HX9:=Aside0.mk (show Kd.R k107 107 wr w0.heap.size (fun k_ => (P0_ k_ ∨ w.heap.size ≤ k_)) (.slice (some ⟨go5,0,none⟩) x0_1.length co8) x0_1 from (by (with_reducible repeat (first|apply Kd.R_alloc|apply Kd.R_drewN|apply Kd.R_drew));exact HO_0.out))
   obtain ⟨ce9,hcl9,hM9,hcc9,hfr9⟩:=Kd.R_elem HX9.out z107 (x5_1 : Int) (of_decide_eq_true (by assumption)) (by have h_ : (x5_1 : Int) < ((x0_1.length : Int) : Int):=of_decide_eq_true (by assumption);first|exact h_|(have e_:=(Kd.R_reads' HO_0.out).1;omega)|simpa using h_)
   obtain rfl:=k107_openM hM9
   have HP9:=Kd.R_seg HX9.out (x5_1 : Int) (of_decide_eq_true (by assumption)) (by have h_ : (x5_1 : Int) < ((x0_1.length : Int) : Int):=of_decide_eq_true (by assumption);first|exact h_|(have e_:=(Kd.R_reads' HO_0.out).1;omega)|simpa using h_) (seg:=[.int .i64 x1_1]) (j:=0) hcl9 hcc9 (show 1 ≤ 3 from by decide) (x':=(⟨x1_1,(rd_T107 x0_1 x5_1).f1,(rd_T107 x0_1 x5_1).f2⟩ : S107)) (k107_mkM _ _ _ (⟨x1_1,(rd_T107 x0_1 x5_1).f1,(rd_T107 x0_1 x5_1).f2⟩ : S107) ) (fun _ hk => hk)
   have hx9_0:=hcc9 0 _ rfl
   (try simp only [show (k107).sz = 3 from rfl,Nat.mul_one,Nat.add_zero] at hx9_0)
   have hf9_0:=hfr9 0
   (try simp only [show (k107).sz = 3 from rfl,Nat.mul_one,Nat.add_zero] at hf9_0)
   clear hcl9 hcc9 hfr9 hM9
   go_wp2_with (first|((with_reducible refine gate_store (t:=3) (p:=16) rfl ?_);refine store_event (t:=3) (p:=16) (v:=?vo_w10) (w1:=(wr.setCell ⟨go5,(x5_1 : Int).toNat * 3,none⟩ (.int .i64 x1_1))) ?hg ?ho ?hn ?hr ?_;(case ho => rfl);(case hg => rfl);(case hn => rfl);(case hr => first|(go_simp;done)|(go_simp;rfl));intro w10 hw;have hg : wr.grownBy w10 (some go5):=(by rw [hw];exact HP9.2);have hp_ : Kd.R k107 107 w10 w0.heap.size (fun k_ => (P0_ k_ ∨ w.heap.size ≤ k_)) (.slice (some ⟨go5,0,none⟩) x0_1.length co8) y417:=(by rw [hw,Ny417.out];exact HP9.1);clear HP9;have n0_:=Aside0.mk (hp_);have n1_:=Aside0.mk ((by rw [hw];exact below_set (HB.out) GB5.out : Below w0.heap.size w0 w10));have n2_:=Aside0.mk (Kept.of_grown (S:=(fun k_ => P0_ k_)) hg (by repeat (first|(with_reducible first|exact HK.out|apply Kept.alloc|apply Kept.drewN|apply Kept.drew)|exact HK.out)) (fun k_ e_ => (HO_0.out.1 k_ e_)));clear HO_0;clear HB;clear HK;have HO_0:=n0_;have HB:=n1_;have HK:=n2_;clear n0_ n1_ n2_;clear hg hw hp_;have p6 : 0 ≤ (x5_1 : Int):=of_decide_eq_true (by assumption);have q6 : (x5_1 : Int) < ((x0_1.length : Int) : Int):=of_decide_eq_true (by assumption);obtain ⟨ce6,hcl6,hM6,hcc6,hfr6⟩:=Kd.R_elem HO_0.out z107 (x5_1 : Int) p6 q6;obtain rfl:=k107_openM hM6;have hx6_0 : w10.cell? ⟨go5,(x5_1 : Int).toNat * 3,none⟩ = some (.int .i64 ((rd_T107 y417 x5_1).f0)):=hcc6 0 _ rfl;have hx6_1 : w10.cell? ⟨go5,(x5_1 : Int).toNat * 3 + 1,none⟩ = some (.int .i64 ((rd_T107 y417 x5_1).f1)):=hcc6 1 _ rfl;have hx6_2 : w10.cell? ⟨go5,(x5_1 : Int).toNat * 3 + 2,none⟩ = some (.int .i64 ((rd_T107 y417 x5_1).f2)):=hcc6 2 _ rfl;have hf6_0 : w10.frozen? ⟨go5,(x5_1 : Int).toNat * 3,none⟩ = false:=hfr6 0;have hf6_1 : w10.frozen? ⟨go5,(x5_1 : Int).toNat * 3 + 1,none⟩ = false:=hfr6 1;have hf6_2 : w10.frozen? ⟨go5,(x5_1 : Int).toNat * 3 + 2,none⟩ = false:=hfr6 2;clear hcl6 hcc6 hfr6 hM6;replace p6:=eq_true p6;replace q6:=eq_true q6;have HX11:=Aside0.mk (show Kd.R k107 107 w10 w0.heap.size (fun k_ => (P0_ k_ ∨ w.heap.size ≤ k_)) (.slice (some ⟨go5,0,none⟩) x0_1.length co8) y417 from (by (with_reducible repeat (first|apply Kd.R_alloc|apply Kd.R_drewN|apply Kd.R_drew));exact HO_0.out));obtain ⟨ce11,hcl11,hM11,hcc11,hfr11⟩:=Kd.R_elem HX11.out z107 (x5_1 : Int) (of_decide_eq_true (by assumption)) (by have h_ : (x5_1 : Int) < ((x0_1.length : Int) : Int):=of_decide_eq_true (by assumption);first|exact h_|(have e_:=(Kd.R_reads' HO_0.out).1;omega)|simpa using h_);obtain rfl:=k107_openM hM11;have HP11:=Kd.R_seg HX11.out (x5_1 : Int) (of_decide_eq_true (by assumption)) (by have h_ : (x5_1 : Int) < ((x0_1.length : Int) : Int):=of_decide_eq_true (by assumption);first|exact h_|(have e_:=(Kd.R_reads' HO_0.out).1;omega)|simpa using h_) (seg:=[.int .i64 (wrap64 (x1_1 + 1))]) (j:=1) hcl11 hcc11 (show 2 ≤ 3 from by decide) (x':=(⟨(rd_T107 y417 x5_1).f0,wrap64 (x1_1 + 1),(rd_T107 y417 x5_1).f2⟩ : S107)) (k107_mkM _ _ _ (⟨(rd_T107 y417 x5_1).f0,wrap64 (x1_1 + 1),(rd_T107 y417 x5_1).f2⟩ : S107) ) (fun _ hk => hk);have hx11_1:=hcc11 1 _ rfl;(try simp only [show (k107).sz = 3 from rfl,Nat.mul_one,Nat.add_zero] at hx11_1);have hf11_1:=hfr11 1;(try simp only [show (k107).sz = 3 from rfl,Nat.mul_one,Nat.add_zero] at hf11_1);clear hcl11 hcc11 hfr11 hM11)|((with_reducible refine gate_store (t:=3) (p:=23) rfl ?_);refine store_event (t:=3) (p:=23) (v:=?vo_w12) (w1:=(w10.setCell ⟨go5,(x5_1 : Int).toNat * 3 + 1,none⟩ (.int .i64 (wrap64 (x1_1 + 1))))) ?hg ?ho ?hn ?hr ?_;(case ho => rfl);(case hg => rfl);(case hn => rfl);(case hr => first|(go_simp;done)|(go_simp;rfl));intro w12 hw;have hg : w10.grownBy w12 (some go5):=(by rw [hw];exact HP11.2);have hp_ : Kd.R k107 107 w12 w0.heap.size (fun k_ => (P0_ k_ ∨ w.heap.size ≤ k_)) (.slice (some ⟨go5,0,none⟩) x0_1.length co8) y418:=(by rw [hw,Ny418.out];exact HP11.1);clear HP11;have n0_:=Aside0.mk (hp_);have n1_:=Aside0.mk ((by rw [hw];exact below_set (HB.out) GB5.out : Below w0.heap.size w0 w12));have n2_:=Aside0.mk (Kept.of_grown (S:=(fun k_ => P0_ k_)) hg (by repeat (first|(with_reducible first|exact HK.out|apply Kept.alloc|apply Kept.drewN|apply Kept.drew)|exact HK.out)) (fun k_ e_ => (HO_0.out.1 k_ e_)));clear HO_0;clear HB;clear HK;have HO_0:=n0_;have HB:=n1_;have HK:=n2_;clear n0_ n1_ n2_;clear hg hw hp_;have p7 : 0 ≤ (x5_1 : Int):=of_decide_eq_true (by assumption);have q7 : (x5_1 : Int) < ((x0_1.length : Int) : Int):=of_decide_eq_true (by assumption);obtain ⟨ce7,hcl7,hM7,hcc7,hfr7⟩:=Kd.R_elem HO_0.out z107 (x5_1 : Int) p7 q7;obtain rfl:=k107_openM hM7;have hx7_0 : w12.cell? ⟨go5,(x5_1 : Int).toNat * 3,none⟩ = some (.int .i64 ((rd_T107 y418 x5_1).f0)):=hcc7 0 _ rfl;have hx7_1 : w12.cell? ⟨go5,(x5_1 : Int).toNat * 3 + 1,none⟩ = some (.int .i64 ((rd_T107 y418 x5_1).f1)):=hcc7 1 _ rfl;have hx7_2 : w12.cell? ⟨go5,(x5_1 : Int).toNat * 3 + 2,none⟩ = some (.int .i64 ((rd_T107 y418 x5_1).f2)):=hcc7 2 _ rfl;have hf7_0 : w12.frozen? ⟨go5,(x5_1 : Int).toNat * 3,none⟩ = false:=hfr7 0;have hf7_1 : w12.frozen? ⟨go5,(x5_1 : Int).toNat * 3 + 1,none⟩ = false:=hfr7 1;have hf7_2 : w12.frozen? ⟨go5,(x5_1 : Int).toNat * 3 + 2,none⟩ = false:=hfr7 2;clear hcl7 hcc7 hfr7 hM7;replace p7:=eq_true p7;replace q7:=eq_true q7;have HX13:=Aside0.mk (show Kd.R k107 107 w12 w0.heap.size (fun k_ => (P0_ k_ ∨ w.heap.size ≤ k_)) (.slice (some ⟨go5,0,none⟩) x0_1.length co8) y418 from (by (with_reducible repeat (first|apply Kd.R_alloc|apply Kd.R_drewN|apply Kd.R_drew));exact HO_0.out));obtain ⟨ce13,hcl13,hM13,hcc13,hfr13⟩:=Kd.R_elem HX13.out z107 (x5_1 : Int) (of_decide_eq_true (by assumption)) (by have h_ : (x5_1 : Int) < ((x0_1.length : Int) : Int):=of_decide_eq_true (by assumption);first|exact h_|(have e_:=(Kd.R_reads' HO_0.out).1;omega)|simpa using h_);obtain rfl:=k107_openM hM13;have HP13:=Kd.R_seg HX13.out (x5_1 : Int) (of_decide_eq_true (by assumption)) (by have h_ : (x5_1 : Int) < ((x0_1.length : Int) : Int):=of_decide_eq_true (by assumption);first|exact h_|(have e_:=(Kd.R_reads' HO_0.out).1;omega)|simpa using h_) (seg:=[.int .i64 (wrap64 ((wrap64 (x1_1 + 1)) + 1))]) (j:=2) hcl13 hcc13 (show 3 ≤ 3 from by decide) (x':=(⟨(rd_T107 y418 x5_1).f0,(rd_T107 y418 x5_1).f1,wrap64 ((wrap64 (x1_1 + 1)) + 1)⟩ : S107)) (k107_mkM _ _ _ (⟨(rd_T107 y418 x5_1).f0,(rd_T107 y418 x5_1).f1,wrap64 ((wrap64 (x1_1 + 1)) + 1)⟩ : S107) ) (fun _ hk => hk);have hx13_2:=hcc13 2 _ rfl;(try simp only [show (k107).sz = 3 from rfl,Nat.mul_one,Nat.add_zero] at hx13_2);have hf13_2:=hfr13 2;(try simp only [show (k107).sz = 3 from rfl,Nat.mul_one,Nat.add_zero] at hf13_2);clear hcl13 hcc13 hfr13 hM13)|((with_reducible refine gate_store (t:=3) (p:=30) rfl ?_);refine store_event (t:=3) (p:=30) (v:=?vo_w14) (w1:=(w12.setCell ⟨go5,(x5_1 : Int).toNat * 3 + 2,none⟩ (.int .i64 (wrap64 ((wrap64 (x1_1 + 1)) + 1))))) ?hg ?ho ?hn ?hr ?_;(case ho => rfl);(case hg => rfl);(case hn => rfl);(case hr => first|(go_simp;done)|(go_simp;rfl));intro w14 hw;have hg : w12.grownBy w14 (some go5):=(by rw [hw];exact HP13.2);have hp_ : Kd.R k107 107 w14 w0.heap.size (fun k_ => (P0_ k_ ∨ w.heap.size ≤ k_)) (.slice (some ⟨go5,0,none⟩) x0_1.length co8) y419:=(by rw [hw,Ny419.out];exact HP13.1);clear HP13;have n0_:=Aside0.mk (hp_);have n1_:=Aside0.mk ((by rw [hw];exact below_set (HB.out) GB5.out : Below w0.heap.size w0 w14));have n2_:=Aside0.mk (Kept.of_grown (S:=(fun k_ => P0_ k_)) hg (by repeat (first|(with_reducible first|exact HK.out|apply Kept.alloc|apply Kept.drewN|apply Kept.drew)|exact HK.out)) (fun k_ e_ => (HO_0.out.1 k_ e_)));clear HO_0;clear HB;clear HK;have HO_0:=n0_;have HB:=n1_;have HK:=n2_;clear n0_ n1_ n2_;clear hg hw hp_))
   go_roundg k1
   case measure => have:=HK1.out;omega
   case rel => exact ⟨(y419),(wrap64 ((wrap64 ((wrap64 (x1_1 + 1)) + 1)) + 1)),(wrap64 (x5_1 + 1)),(by first|rfl|(simp;done)|(simp [*];done)),(by first|rfl|(simp;done)|(simp [*];done)),H',⟨by have:=HK1.out;omega⟩,⟨by (with_reducible repeat (first|apply Kd.R_alloc|apply Kd.R_drewN|apply Kd.R_drew));exact HO_0.out⟩,⟨by repeat (first|(with_reducible first|exact HK.out|apply Kept.alloc|apply Kept.drewN|apply Kept.drew)|exact HK.out)⟩,⟨by repeat (first|(with_reducible first|exact HB.out|apply below_alloc|apply pw_below_drewN|apply below_drew1)|exact HB.out)⟩⟩
end Go.Proofs.Ytimomemkbcidnaa.PFnExactTokenLengths
