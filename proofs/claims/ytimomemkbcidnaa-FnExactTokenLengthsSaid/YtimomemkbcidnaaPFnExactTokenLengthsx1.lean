-- Written by a program of this session (a changed print); Lean checks it.
import Derived.Test.YtimomemkbcidnaaPFnExactTokenLengthsx0
namespace Go.Proofs.Ytimomemkbcidnaa.PFnExactTokenLengths
open Go.RowKit Go.Proofs.YtimomemkbcidnaaW.PrintWords Go.Proofs.YtimomemkbcidnaaW.PrintLast Go.Proofs.YtimomemkbcidnaaW.PrintMore
attribute [local go_sem] max2_int min2_int max_two min_two max_three min_three max_four min_four   -- for this text's walks alone
set_option linter.unusedVariables false
set_option linter.unusedSimpArgs false
open Act renaming put → sPu
open List renaming setIfInBounds_toArray → sIa, set_cons_zero → sCz, set_cons_succ → sCs
open Bool renaming true → Y, false → Z

/-! ### laws_eqIntS: function 17 -/
def laws_eqIntS.l0 : Nat → List Int → List Int → Int → Option (Bool)
  | 0, _, _, _ => none
  | k + 1, x0, x1, x5 => if x5 < (x0.length : Int) then (if 0 ≤ x5 then (if x5 < (x1.length : Int) then (if (rd x0 x5) = (rd x1 x5) then (laws_eqIntS.l0 k x0 x1 (wrap64 (x5 + 1))) else (some false)) else (none)) else (none)) else (some true)
def laws_eqIntS.f (k : Nat) (l0 : List Int) (l1 : List Int) : Option (Bool) := if (l0.length : Int) = (l1.length : Int) then (laws_eqIntS.l0 k l0 l1 0) else (some false)
theorem laws_eqIntS.mono_l : ∀ k, (∀ y0 y1 y2, LeO (laws_eqIntS.l0 k y0 y1 y2) (laws_eqIntS.l0 (k + 1) y0 y1 y2))
  | 0 => fun _ _ _ r h => by simp [laws_eqIntS.l0] at h
  | k + 1 => by
    have ih0 := laws_eqIntS.mono_l k
    · intro y0 y1 y2
      unfold laws_eqIntS.l0
      repeat' first
      | (with_reducible exact ih0 _ _ _)
      | (with_reducible exact LeO.refl _)
      | (with_reducible exact LeO.none _)
      | (with_reducible refine LeO.ite ?_ ?_)
      | (with_reducible refine LeO.bind ?_ (fun _ => ?_))
      | exact ih0 _ _ _
      | exact LeO.none _
      | refine LeO.ite ?_ ?_
      | refine LeO.bind ?_ (fun _ => ?_)
theorem laws_eqIntS.mono : ∀ a0 a1 k, LeO (laws_eqIntS.f k a0 a1) (laws_eqIntS.f (k + 1) a0 a1) := by
  intro a0 a1 k
  have ih0 := laws_eqIntS.mono_l k
  unfold laws_eqIntS.f
  repeat' first
      | (with_reducible exact ih0 _ _ _)
      | (with_reducible exact LeO.refl _)
      | (with_reducible exact LeO.none _)
      | (with_reducible refine LeO.ite ?_ ?_)
      | (with_reducible refine LeO.bind ?_ (fun _ => ?_))
      | exact ih0 _ _ _
      | exact LeO.none _
      | refine LeO.ite ?_ ?_
      | refine LeO.bind ?_ (fun _ => ?_)
set_option maxHeartbeats 8000000 in
set_option maxRecDepth 100000 in
theorem laws_eqIntS.calls (k : Nat) (A0 : Option Addr) (c0 : Nat) (l0 : List Int) (A1 : Option Addr) (c1 : Nat) (l1 : List Int) (r : Bool) (w : World) (hr0 : Kd.C (Kd.int .i64) w A0 l0.length l0) (hc0 : l0.length ≤ c0) (hr1 : Kd.C (Kd.int .i64) w A1 l1.length l1) (hc1 : l1.length ≤ c1) (h : laws_eqIntS.f k l0 l1 = some r) :
    Calls Try.prog 17 #[.slice A0 l0.length c0, .slice A1 l1.length c1] w fun e w' => e = .returned (.bool r) ∧ Drawn0 w w' := by
 have HR0:=Aside0.mk hr0
 have HC0:=Aside0.mk hc0
 clear hr0 hc0
 have HR1:=Aside0.mk hr1
 have HC1:=Aside0.mk hc1
 clear hr1 hc1
 have H : (if (l0.length : Int) = (l1.length : Int) then (laws_eqIntS.l0 k l0 l1 0) else (some false)) = some r:=h
 clear h
 by_cases c3 : (l0.length : Int) = (l1.length : Int)
 rotate_left
 ·rw [if_neg c3] at H
  have c3b0 : ((l0.length : Int) == (l1.length : Int)) = false:=beq_eq_false_iff_ne.mpr c3
  have c3b1 : ((l0.length : Int) != (l1.length : Int)) = true:=bne_iff_ne.mpr c3
  have c3b2 : (l0.length == l1.length) = false:=by first|simpa using c3|(simp at c3 ⊢;omega)
  obtain rfl:=Option.some.inj H
  go_enter Try.func17,Try.ntmps17
  go_wp2
  repeat (go_quiet (fail);try go_wp2)
  go_ret
  exact ⟨by first|rfl|(simp;done)|(simp [*];done),by repeat (first|exact Drawn0.refl _|apply Drawn0.step)⟩
 rw [if_pos c3] at H
 have c3b0 : ((l0.length : Int) == (l1.length : Int)) = true:=beq_iff_eq.mpr c3
 have c3b1 : ((l0.length : Int) != (l1.length : Int)) = false:=bne_eq_false_iff_eq.mpr c3
 have c3b2 : (l0.length == l1.length) = true:=by first|simpa using c3|(simp at c3 ⊢;omega)
 clear c3
 have H':=Aside0.mk H
 clear H
 go_enter Try.func17,Try.ntmps17
 go_wp2
 repeat (go_quiet (fail);try go_wp2)
 go_loopg [5] k (fun kq v5 w' => ∃ (x5_1 : Int),v5 = .int .i64 x5_1∧Aside0 (laws_eqIntS.l0 kq l0 l1 x5_1 = some r)∧Aside0 (kq ≤ k)∧Drawn0 w w')
 case atStart => exact ⟨(0),(by first|rfl|(simp;done)|(simp [*];done)),H',⟨Nat.le_refl _⟩,by repeat (first|exact Drawn0.refl _|apply Drawn0.step)⟩
 case round =>
  clear H'
  obtain ⟨x5_1,rfl,HA,HK1,⟨m1,rfl⟩⟩:=hrel
  cases gk with
  | zero => exact absurd HA.out (by simp [laws_eqIntS.l0])
  | succ k1 =>
   have H:=HA.out
   clear HA
   simp only [laws_eqIntS.l0] at H
   by_cases c4 : x5_1 < (l0.length : Int)
   rotate_left
   ·rw [if_neg c4] at H
    have c4b0 : decide (x5_1 < (l0.length : Int)) = false:=decide_eq_false c4
    clear c4
    obtain rfl:=Option.some.inj H
    go_wp2
    repeat (go_quiet (fail);try go_wp2)
    go_ret
    exact ⟨by first|rfl|(simp;done)|(simp [*];done),by repeat (first|exact Drawn0.refl _|apply Drawn0.step)⟩
   rw [if_pos c4] at H
   have c4b0 : decide (x5_1 < (l0.length : Int)) = true:=decide_eq_true c4
   clear c4
   by_cases c5 : 0 ≤ x5_1
   rotate_left
   ·rw [if_neg c5] at H
    exact absurd H (by simp)
   rw [if_pos c5] at H
   have c5b0 : decide (0 ≤ x5_1) = true:=decide_eq_true c5
   clear c5
   by_cases c6 : x5_1 < (l1.length : Int)
   rotate_left
   ·rw [if_neg c6] at H
    exact absurd H (by simp)
   rw [if_pos c6] at H
   have c6b0 : decide (x5_1 < (l1.length : Int)) = true:=decide_eq_true c6
   clear c6
   by_cases c7 : (rd l0 x5_1) = (rd l1 x5_1)
   rotate_left
   ·rw [if_neg c7] at H
    have c7b0 : ((rd l0 x5_1) == (rd l1 x5_1)) = false:=beq_eq_false_iff_ne.mpr c7
    have c7b1 : ((rd l0 x5_1) != (rd l1 x5_1)) = true:=bne_iff_ne.mpr c7
    obtain rfl:=Option.some.inj H
    have p101 : 0 ≤ (x5_1 : Int):=of_decide_eq_true (by assumption)
    have q101 : x5_1 < (l0.length : Int):=of_decide_eq_true (by assumption)
    obtain ⟨ad101,e101,hx101_0⟩:=Kd.at_int HR0.out x5_1 p101 q101
    cases e101
    replace p101:=eq_true p101
    replace q101:=eq_true q101
    have p102 : 0 ≤ (x5_1 : Int):=of_decide_eq_true (by assumption)
    have q102 : x5_1 < (l1.length : Int):=of_decide_eq_true (by assumption)
    obtain ⟨ad102,e102,hx102_0⟩:=Kd.at_int HR1.out x5_1 p102 q102
    cases e102
    replace p102:=eq_true p102
    replace q102:=eq_true q102
    go_wp2
    repeat (go_quiet (fail);try go_wp2)
    go_ret
    exact ⟨by first|rfl|(simp;done)|(simp [*];done),by repeat (first|exact Drawn0.refl _|apply Drawn0.step)⟩
   rw [if_pos c7] at H
   have c7b0 : ((rd l0 x5_1) == (rd l1 x5_1)) = true:=beq_iff_eq.mpr c7
   have c7b1 : ((rd l0 x5_1) != (rd l1 x5_1)) = false:=bne_eq_false_iff_eq.mpr c7
   clear c7
   have H':=Aside0.mk H
   clear H
   have p101 : 0 ≤ (x5_1 : Int):=of_decide_eq_true (by assumption)
   have q101 : x5_1 < (l0.length : Int):=of_decide_eq_true (by assumption)
   obtain ⟨ad101,e101,hx101_0⟩:=Kd.at_int HR0.out x5_1 p101 q101
   cases e101
   replace p101:=eq_true p101
   replace q101:=eq_true q101
   have p102 : 0 ≤ (x5_1 : Int):=of_decide_eq_true (by assumption)
   have q102 : x5_1 < (l1.length : Int):=of_decide_eq_true (by assumption)
   obtain ⟨ad102,e102,hx102_0⟩:=Kd.at_int HR1.out x5_1 p102 q102
   cases e102
   replace p102:=eq_true p102
   replace q102:=eq_true q102
   go_wp2
   repeat (go_quiet (fail);try go_wp2)
   go_roundg k1
   case measure => have:=HK1.out;omega
   case rel => exact ⟨(wrap64 (x5_1 + 1)),(by first|rfl|(simp;done)|(simp [*];done)),H',⟨by have:=HK1.out;omega⟩,by repeat (first|exact Drawn0.refl _|apply Drawn0.step)⟩
/-! ### laws_markIntS: function 22 -/
def laws_markIntS.l0 : Nat → List Int → Int → Int → Option (Int × List Int)
  | 0, _, _, _ => none
  | k + 1, x0, x1, x5 => if x5 < (x0.length : Int) then (if 0 ≤ x5 then (laws_markIntS.l0 k (x0.set (x5 : Int).toNat x1) (wrap64 (x1 + 1)) (wrap64 (x5 + 1))) else (none)) else (some (x1, x0))
def laws_markIntS.f (k : Nat) (l0 : List Int) (a1 : Int) : Option (Int × List Int) := laws_markIntS.l0 k l0 a1 0
theorem laws_markIntS.mono_l : ∀ k, (∀ y0 y1 y2, LeO (laws_markIntS.l0 k y0 y1 y2) (laws_markIntS.l0 (k + 1) y0 y1 y2))
  | 0 => fun _ _ _ r h => by simp [laws_markIntS.l0] at h
  | k + 1 => by
    have ih0 := laws_markIntS.mono_l k
    · intro y0 y1 y2
      unfold laws_markIntS.l0
      repeat' first
      | (with_reducible exact ih0 _ _ _)
      | (with_reducible exact LeO.refl _)
      | (with_reducible exact LeO.none _)
      | (with_reducible refine LeO.ite ?_ ?_)
      | (with_reducible refine LeO.bind ?_ (fun _ => ?_))
      | exact ih0 _ _ _
      | exact LeO.none _
      | refine LeO.ite ?_ ?_
      | refine LeO.bind ?_ (fun _ => ?_)
theorem laws_markIntS.mono : ∀ a0 a1 k, LeO (laws_markIntS.f k a0 a1) (laws_markIntS.f (k + 1) a0 a1) := by
  intro a0 a1 k
  have ih0 := laws_markIntS.mono_l k
  unfold laws_markIntS.f
  repeat' first
      | (with_reducible exact ih0 _ _ _)
      | (with_reducible exact LeO.refl _)
      | (with_reducible exact LeO.none _)
      | (with_reducible refine LeO.ite ?_ ?_)
      | (with_reducible refine LeO.bind ?_ (fun _ => ?_))
      | exact ih0 _ _ _
      | exact LeO.none _
      | refine LeO.ite ?_ ?_
      | refine LeO.bind ?_ (fun _ => ?_)
set_option maxHeartbeats 8000000 in
set_option maxRecDepth 100000 in
theorem laws_markIntS.calls (k : Nat) (P0_ : Nat → Prop) (u9000_ : Value) (l0 : List Int) (a1 : Int) (r1 : Int) (r2 : List Int) (w0 w : World) (hB : Below w0.heap.size w0 w) (ho0 : Kd.R (Kd.int .i64) 3 w w0.heap.size P0_ u9000_ l0) (h : laws_markIntS.f k l0 a1 = some (r1, r2)) :
    Calls Try.prog 22 #[u9000_, .int .i64 a1] w fun e w' => e = .returned (.int .i64 r1) ∧ Kd.R (Kd.int .i64) 3 w' w0.heap.size (fun k_ => (P0_ k_ ∨ w.heap.size ≤ k_)) u9000_ r2 ∧ Below w0.heap.size w0 w' ∧ Kept w w' (fun k_ => P0_ k_) := by
 have HO0:=Aside0.mk (show Kd.R (Kd.int .i64) 3 w w0.heap.size (fun k_ => (P0_ k_ ∨ w.heap.size ≤ k_)) u9000_ l0 from Kd.R_mono ho0 (fun k_ hk => (.inl hk)))
 have HK:=Aside0.mk (Kept.refl w (fun k_ => P0_ k_))
 have HW0:=Aside0.mk hB.size
 have HB:=Aside0.mk hB
 clear hB
 have H : (laws_markIntS.l0 k l0 a1 0) = some (r1,r2):=h
 clear h
 have H':=Aside0.mk H
 clear H
 go_enter Try.func22,Try.ntmps22
 go_wp2
 go_loopg [1,5] k (fun kq v1 v5 w' => ∃ (x0_1 : List Int) (x1_1 : Int) (x5_1 : Int),v1 = .int .i64 x1_1∧v5 = .int .i64 x5_1∧Aside0 (laws_markIntS.l0 kq x0_1 x1_1 x5_1 = some (r1,r2))∧Aside0 (kq ≤ k)∧Aside0 (Kd.R (Kd.int .i64) 3 w' w0.heap.size (fun k_ => (P0_ k_ ∨ w.heap.size ≤ k_)) u9000_ x0_1)∧Aside0 (Kept w w' (fun k_ => P0_ k_))∧Aside0 (Below w0.heap.size w0 w'))
 case atStart => exact ⟨(l0),(a1),(0),(by first|rfl|(simp;done)|(simp [*];done)),(by first|rfl|(simp;done)|(simp [*];done)),H',⟨Nat.le_refl _⟩,⟨by (with_reducible repeat (first|apply Kd.R_alloc|apply Kd.R_drewN|apply Kd.R_drew));exact HO0.out⟩,⟨by repeat (first|(with_reducible first|exact HK.out|apply Kept.alloc|apply Kept.drewN|apply Kept.drew)|exact HK.out)⟩,⟨by repeat (first|(with_reducible first|exact HB.out|apply below_alloc|apply pw_below_drewN|apply below_drew1)|exact HB.out)⟩⟩
 case round =>
  clear H'
  obtain ⟨x0_1,x1_1,x5_1,rfl,rfl,HA,HK1,HO_0,HK,HB⟩:=hrel
  cases gk with
  | zero => exact absurd HA.out (by simp [laws_markIntS.l0])
  | succ k1 =>
   have H:=HA.out
   clear HA
   simp only [laws_markIntS.l0] at H
   by_cases c3 : x5_1 < (x0_1.length : Int)
   rotate_left
   ·rw [if_neg c3] at H
    have c3b0 : decide (x5_1 < (x0_1.length : Int)) = false:=decide_eq_false c3
    clear c3
    simp only [Option.some.injEq,Prod.mk.injEq] at H
    obtain ⟨rfl,rfl⟩:=H
    obtain ⟨Ao9,co9,eo9⟩:=Kd.R_slice HO_0.out
    subst eo9
    go_wp2
    go_ret
    exact ⟨by first|rfl|(simp [errW_none,errW_some] <;> rfl)|(simp [*,errW_none,errW_some] <;> rfl),by (with_reducible repeat (first|apply Kd.R_alloc|apply Kd.R_drewN|apply Kd.R_drew));exact HO_0.out,by repeat (first|(with_reducible first|exact HB.out|apply below_alloc|apply pw_below_drewN|apply below_drew1)|exact HB.out),by repeat (first|(with_reducible first|exact HK.out|apply Kept.alloc|apply Kept.drewN|apply Kept.drew)|exact HK.out)⟩
   rw [if_pos c3] at H
   have c3b0 : decide (x5_1 < (x0_1.length : Int)) = true:=decide_eq_true c3
   clear c3
   by_cases c4 : 0 ≤ x5_1
   rotate_left
   ·rw [if_neg c4] at H
    exact absurd H (by simp)
   rw [if_pos c4] at H
   have c4b0 : decide (0 ≤ x5_1) = true:=decide_eq_true c4
   clear c4
   obtain ⟨y103,hy103⟩ : ∃ y_ : List Int,y_ = (x0_1.set (x5_1 : Int).toNat x1_1):=⟨_,rfl⟩
   replace H : (laws_markIntS.l0 k1 y103 (wrap64 (x1_1 + 1)) (wrap64 (x5_1 + 1))) = some (r1,r2):=by first|(rw [hy103];with_reducible exact H)|(have H2_:=(Option.bind_some _ _).symm.trans H;rw [hy103];with_reducible exact H2_)|(have H2_:=(Option.bind_some _ _).symm.trans H;with_reducible exact H2_)|with_reducible exact H|(rw [hy103];exact H)|exact H
   have Ny103:=Aside0.mk hy103
   clear hy103
   have H':=Aside0.mk H
   clear H
   obtain ⟨Ao6,co6,eo6⟩:=Kd.R_slice HO_0.out
   subst eo6
   have p5 : 0 ≤ (x5_1 : Int):=of_decide_eq_true (by assumption)
   have q5 : (x5_1 : Int) < ((x0_1.length : Int) : Int):=of_decide_eq_true (by assumption)
   obtain ⟨go5,co5,eo5,gb5,gl5,cl5,HG5⟩:=Kd.R_form HO_0.out (by omega)
   (first|cases eo5|(injection eo5 with ea_ en_ ec_;(first|subst ea_|(injection ea_ with ea_;subst ea_));subst ec_;clear en_))
   have GB5:=Aside0.mk gb5
   have GG5:=Aside0.mk HG5
   clear gb5 gl5 HG5
   have HMgo5:=Aside0.mk (show (P0_ go5 ∨ w.heap.size ≤ go5) from (HO_0.out.1 _ rfl))
   obtain ⟨hx5_0,hf5_0⟩:=Kd.R_celln 0 HO_0.out (x5_1 : Int) p5 q5
   replace p5:=eq_true p5
   replace q5:=eq_true q5
   have HP7:=Kd.R_putg HO_0.out (x5_1 : Int) x1_1
   go_wp2_with (first|((with_reducible refine gate_store (t:=3) (p:=15) rfl ?_);refine store_event (t:=3) (p:=15) (v:=?vo_w8) (w1:=(wr.setCell ⟨go5,(x5_1 : Int).toNat,none⟩ (.int .i64 x1_1))) ?hg ?ho ?hn ?hr ?_;(case ho => rfl);(case hg => rfl);(case hn => rfl);(case hr => first|(go_simp;done)|(go_simp;rfl));intro w8 hw;have hg : wr.grownBy w8 (some go5):=(by rw [hw];exact HP7.2);have hp_ : Kd.R (Kd.int .i64) 3 w8 w0.heap.size (fun k_ => (P0_ k_ ∨ w.heap.size ≤ k_)) (.slice (some ⟨go5,0,none⟩) x0_1.length co6) y103:=(by rw [hw,Ny103.out];exact HP7.1);clear HP7;have n0_:=Aside0.mk (hp_);have n1_:=Aside0.mk ((by rw [hw];exact below_set (HB.out) GB5.out : Below w0.heap.size w0 w8));have n2_:=Aside0.mk (Kept.of_grown (S:=(fun k_ => P0_ k_)) hg (by repeat (first|(with_reducible first|exact HK.out|apply Kept.alloc|apply Kept.drewN|apply Kept.drew)|exact HK.out)) (fun k_ e_ => (HO_0.out.1 k_ e_)));clear HO_0;clear HB;clear HK;have HO_0:=n0_;have HB:=n1_;have HK:=n2_;clear n0_ n1_ n2_;clear hg hw hp_))
   go_roundg k1
   case measure => have:=HK1.out;omega
   case rel => exact ⟨(y103),(wrap64 (x1_1 + 1)),(wrap64 (x5_1 + 1)),(by first|rfl|(simp;done)|(simp [*];done)),(by first|rfl|(simp;done)|(simp [*];done)),H',⟨by have:=HK1.out;omega⟩,⟨by (with_reducible repeat (first|apply Kd.R_alloc|apply Kd.R_drewN|apply Kd.R_drew));exact HO_0.out⟩,⟨by repeat (first|(with_reducible first|exact HK.out|apply Kept.alloc|apply Kept.drewN|apply Kept.drew)|exact HK.out)⟩,⟨by repeat (first|(with_reducible first|exact HB.out|apply below_alloc|apply pw_below_drewN|apply below_drew1)|exact HB.out)⟩⟩
/-! ### laws_heldIntS: function 23 -/
def laws_heldIntS.l0 : Nat → List Int → Int → Int → Option (Int)
  | 0, _, _, _ => none
  | k + 1, x0, x1, x5 => if x5 < (x0.length : Int) then (if 0 ≤ x5 then (if (rd x0 x5) = x1 then (laws_heldIntS.l0 k x0 (wrap64 (x1 + 1)) (wrap64 (x5 + 1))) else (some (-1))) else (none)) else (some x1)
def laws_heldIntS.f (k : Nat) (l0 : List Int) (a1 : Int) : Option (Int) := laws_heldIntS.l0 k l0 a1 0
theorem laws_heldIntS.mono_l : ∀ k, (∀ y0 y1 y2, LeO (laws_heldIntS.l0 k y0 y1 y2) (laws_heldIntS.l0 (k + 1) y0 y1 y2))
  | 0 => fun _ _ _ r h => by simp [laws_heldIntS.l0] at h
  | k + 1 => by
    have ih0 := laws_heldIntS.mono_l k
    · intro y0 y1 y2
      unfold laws_heldIntS.l0
      repeat' first
      | (with_reducible exact ih0 _ _ _)
      | (with_reducible exact LeO.refl _)
      | (with_reducible exact LeO.none _)
      | (with_reducible refine LeO.ite ?_ ?_)
      | (with_reducible refine LeO.bind ?_ (fun _ => ?_))
      | exact ih0 _ _ _
      | exact LeO.none _
      | refine LeO.ite ?_ ?_
      | refine LeO.bind ?_ (fun _ => ?_)
theorem laws_heldIntS.mono : ∀ a0 a1 k, LeO (laws_heldIntS.f k a0 a1) (laws_heldIntS.f (k + 1) a0 a1) := by
  intro a0 a1 k
  have ih0 := laws_heldIntS.mono_l k
  unfold laws_heldIntS.f
  repeat' first
      | (with_reducible exact ih0 _ _ _)
      | (with_reducible exact LeO.refl _)
      | (with_reducible exact LeO.none _)
      | (with_reducible refine LeO.ite ?_ ?_)
      | (with_reducible refine LeO.bind ?_ (fun _ => ?_))
      | exact ih0 _ _ _
      | exact LeO.none _
      | refine LeO.ite ?_ ?_
      | refine LeO.bind ?_ (fun _ => ?_)
set_option maxHeartbeats 8000000 in
set_option maxRecDepth 100000 in
theorem laws_heldIntS.calls (k : Nat) (A0 : Option Addr) (c0 : Nat) (l0 : List Int) (a1 : Int) (r : Int) (w : World) (hr0 : Kd.C (Kd.int .i64) w A0 l0.length l0) (hc0 : l0.length ≤ c0) (h : laws_heldIntS.f k l0 a1 = some r) :
    Calls Try.prog 23 #[.slice A0 l0.length c0, .int .i64 a1] w fun e w' => e = .returned (.int .i64 r) ∧ Drawn0 w w' := by
 have HR0:=Aside0.mk hr0
 have HC0:=Aside0.mk hc0
 clear hr0 hc0
 have H : (laws_heldIntS.l0 k l0 a1 0) = some r:=h
 clear h
 have H':=Aside0.mk H
 clear H
 go_enter Try.func23,Try.ntmps23
 go_wp2
 go_loopg [1,5] k (fun kq v1 v5 w' => ∃ (x1_1 : Int) (x5_1 : Int),v1 = .int .i64 x1_1∧v5 = .int .i64 x5_1∧Aside0 (laws_heldIntS.l0 kq l0 x1_1 x5_1 = some r)∧Aside0 (kq ≤ k)∧Drawn0 w w')
 case atStart => exact ⟨(a1),(0),(by first|rfl|(simp;done)|(simp [*];done)),(by first|rfl|(simp;done)|(simp [*];done)),H',⟨Nat.le_refl _⟩,by repeat (first|exact Drawn0.refl _|apply Drawn0.step)⟩
 case round =>
  clear H'
  obtain ⟨x1_1,x5_1,rfl,rfl,HA,HK1,⟨m1,rfl⟩⟩:=hrel
  cases gk with
  | zero => exact absurd HA.out (by simp [laws_heldIntS.l0])
  | succ k1 =>
   have H:=HA.out
   clear HA
   simp only [laws_heldIntS.l0] at H
   by_cases c3 : x5_1 < (l0.length : Int)
   rotate_left
   ·rw [if_neg c3] at H
    have c3b0 : decide (x5_1 < (l0.length : Int)) = false:=decide_eq_false c3
    clear c3
    obtain rfl:=Option.some.inj H
    go_wp2
    go_ret
    exact ⟨by first|rfl|(simp;done)|(simp [*];done),by repeat (first|exact Drawn0.refl _|apply Drawn0.step)⟩
   rw [if_pos c3] at H
   have c3b0 : decide (x5_1 < (l0.length : Int)) = true:=decide_eq_true c3
   clear c3
   by_cases c4 : 0 ≤ x5_1
   rotate_left
   ·rw [if_neg c4] at H
    exact absurd H (by simp)
   rw [if_pos c4] at H
   have c4b0 : decide (0 ≤ x5_1) = true:=decide_eq_true c4
   clear c4
   by_cases c5 : (rd l0 x5_1) = x1_1
   rotate_left
   ·rw [if_neg c5] at H
    have c5b0 : ((rd l0 x5_1) == x1_1) = false:=beq_eq_false_iff_ne.mpr c5
    have c5b1 : ((rd l0 x5_1) != x1_1) = true:=bne_iff_ne.mpr c5
    obtain rfl:=Option.some.inj H
    have p104 : 0 ≤ (x5_1 : Int):=of_decide_eq_true (by assumption)
    have q104 : x5_1 < (l0.length : Int):=of_decide_eq_true (by assumption)
    obtain ⟨ad104,e104,hx104_0⟩:=Kd.at_int HR0.out x5_1 p104 q104
    cases e104
    replace p104:=eq_true p104
    replace q104:=eq_true q104
    go_wp2
    go_ret
    exact ⟨by first|rfl|(simp;done)|(simp [*];done),by repeat (first|exact Drawn0.refl _|apply Drawn0.step)⟩
   rw [if_pos c5] at H
   have c5b0 : ((rd l0 x5_1) == x1_1) = true:=beq_iff_eq.mpr c5
   have c5b1 : ((rd l0 x5_1) != x1_1) = false:=bne_eq_false_iff_eq.mpr c5
   clear c5
   have H':=Aside0.mk H
   clear H
   have p104 : 0 ≤ (x5_1 : Int):=of_decide_eq_true (by assumption)
   have q104 : x5_1 < (l0.length : Int):=of_decide_eq_true (by assumption)
   obtain ⟨ad104,e104,hx104_0⟩:=Kd.at_int HR0.out x5_1 p104 q104
   cases e104
   replace p104:=eq_true p104
   replace q104:=eq_true q104
   go_wp2
   go_roundg k1
   case measure => have:=HK1.out;omega
   case rel => exact ⟨(wrap64 (x1_1 + 1)),(wrap64 (x5_1 + 1)),(by first|rfl|(simp;done)|(simp [*];done)),(by first|rfl|(simp;done)|(simp [*];done)),H',⟨by have:=HK1.out;omega⟩,by repeat (first|exact Drawn0.refl _|apply Drawn0.step)⟩
/-! ### laws_szTokenS: function 41 -/
def laws_szTokenS.f (l0 : List (S112)) (a1 : Int) : Option (Int) := if (wrap64 (a1 - (l0.length : Int))) < 0 then (some (-1)) else (some (wrap64 (a1 - (l0.length : Int))))
set_option maxHeartbeats 8000000 in
set_option maxRecDepth 100000 in
theorem laws_szTokenS.calls (A0 : Option Addr) (c0 : Nat) (l0 : List (S112)) (a1 : Int) (r : Int) (w : World) (hr0 : Kd.C k112 w A0 l0.length l0) (hc0 : l0.length ≤ c0) (h : laws_szTokenS.f l0 a1 = some r) :
    Calls Try.prog 41 #[.slice A0 l0.length c0, .int .i64 a1] w fun e w' => e = .returned (.int .i64 r) ∧ Drawn0 w w' := by
 have HR0:=Aside0.mk hr0
 have HC0:=Aside0.mk hc0
 clear hr0 hc0
 have H : (if (wrap64 (a1 - (l0.length : Int))) < 0 then (some (-1)) else (some (wrap64 (a1 - (l0.length : Int))))) = some r:=h
 clear h
 by_cases c3 : (wrap64 (a1 - (l0.length : Int))) < 0
 ·rw [if_pos c3] at H
  have c3b0 : decide ((wrap64 (a1 - (l0.length : Int))) < 0) = true:=decide_eq_true c3
  clear c3
  obtain rfl:=Option.some.inj H
  go_enter Try.func41,Try.ntmps41
  go_wp2
  go_ret
  exact ⟨by first|rfl|(simp;done)|(simp [*];done),by repeat (first|exact Drawn0.refl _|apply Drawn0.step)⟩
 rw [if_neg c3] at H
 have c3b0 : decide ((wrap64 (a1 - (l0.length : Int))) < 0) = false:=decide_eq_false c3
 clear c3
 obtain rfl:=Option.some.inj H
 go_enter Try.func41,Try.ntmps41
 go_wp2
 go_ret
 exact ⟨by first|rfl|(simp;done)|(simp [*];done),by repeat (first|exact Drawn0.refl _|apply Drawn0.step)⟩
/-! ### spec_l01In: function 52 -/
def spec_l01In.f (a0 : Int) (a1 : Int) (a2 : Int) : Option (Bool) := if a0 ≥ a1 then (some (decide (a0 ≤ a2))) else (some false)
set_option maxHeartbeats 8000000 in
set_option maxRecDepth 100000 in
theorem spec_l01In.calls (a0 : Int) (a1 : Int) (a2 : Int) (r : Bool) (w : World) (h : spec_l01In.f a0 a1 a2 = some r) :
    Calls Try.prog 52 #[.int .i64 a0, .int .i64 a1, .int .i64 a2] w fun e w' => e = .returned (.bool r) ∧ Drawn0 w w' := by
 have H : (if a0 ≥ a1 then (some (decide (a0 ≤ a2))) else (some false)) = some r:=h
 clear h
 by_cases c4 : a0 ≥ a1
 ·rw [if_pos c4] at H
  have c4b0 : decide (a1 ≤ a0) = true:=decide_eq_true c4
  clear c4
  obtain rfl:=Option.some.inj H
  go_enter Try.func52,Try.ntmps52
  go_wp2
  go_ret
  exact ⟨by first|rfl|(simp;done)|(simp [*];done),by repeat (first|exact Drawn0.refl _|apply Drawn0.step)⟩
 rw [if_neg c4] at H
 have c4b0 : decide (a1 ≤ a0) = false:=decide_eq_false c4
 clear c4
 obtain rfl:=Option.some.inj H
 go_enter Try.func52,Try.ntmps52
 go_wp2
 go_ret
 exact ⟨by first|rfl|(simp;done)|(simp [*];done),by repeat (first|exact Drawn0.refl _|apply Drawn0.step)⟩
/-! ### spec_l01Pow: function 67 -/
def spec_l01Pow.l0 : Nat → Int → Int → Int → Option (Int)
  | 0, _, _, _ => none
  | k + 1, x0, x3, x4 => if x4 < x0 then (spec_l01Pow.l0 k x0 (wrap64 (2 * x3)) (wrap64 (x4 + 1))) else (some x3)
def spec_l01Pow.f (k : Nat) (a0 : Int) : Option (Int) := spec_l01Pow.l0 k a0 1 0
theorem spec_l01Pow.mono_l : ∀ k, (∀ y0 y1 y2, LeO (spec_l01Pow.l0 k y0 y1 y2) (spec_l01Pow.l0 (k + 1) y0 y1 y2))
  | 0 => fun _ _ _ r h => by simp [spec_l01Pow.l0] at h
  | k + 1 => by
    have ih0 := spec_l01Pow.mono_l k
    · intro y0 y1 y2
      unfold spec_l01Pow.l0
      repeat' first
      | (with_reducible exact ih0 _ _ _)
      | (with_reducible exact LeO.refl _)
      | (with_reducible exact LeO.none _)
      | (with_reducible refine LeO.ite ?_ ?_)
      | (with_reducible refine LeO.bind ?_ (fun _ => ?_))
      | exact ih0 _ _ _
      | exact LeO.none _
      | refine LeO.ite ?_ ?_
      | refine LeO.bind ?_ (fun _ => ?_)
theorem spec_l01Pow.mono : ∀ a0 k, LeO (spec_l01Pow.f k a0) (spec_l01Pow.f (k + 1) a0) := by
  intro a0 k
  have ih0 := spec_l01Pow.mono_l k
  unfold spec_l01Pow.f
  repeat' first
      | (with_reducible exact ih0 _ _ _)
      | (with_reducible exact LeO.refl _)
      | (with_reducible exact LeO.none _)
      | (with_reducible refine LeO.ite ?_ ?_)
      | (with_reducible refine LeO.bind ?_ (fun _ => ?_))
      | exact ih0 _ _ _
      | exact LeO.none _
      | refine LeO.ite ?_ ?_
      | refine LeO.bind ?_ (fun _ => ?_)
set_option maxHeartbeats 8000000 in
set_option maxRecDepth 100000 in
theorem spec_l01Pow.calls (k : Nat) (a0 : Int) (r : Int) (w : World) (h : spec_l01Pow.f k a0 = some r) :
    Calls Try.prog 67 #[.int .i64 a0] w fun e w' => e = .returned (.int .i64 r) ∧ Drawn0 w w' := by
 have H : (spec_l01Pow.l0 k a0 1 0) = some r:=h
 clear h
 have H':=Aside0.mk H
 clear H
 go_enter Try.func67,Try.ntmps67
 go_wp2
 go_loopg [3,4] k (fun kq v3 v4 w' => ∃ (x3_1 : Int) (x4_1 : Int),v3 = .int .i64 x3_1∧v4 = .int .i64 x4_1∧Aside0 (spec_l01Pow.l0 kq a0 x3_1 x4_1 = some r)∧Aside0 (kq ≤ k)∧Drawn0 w w')
 case atStart => exact ⟨(1),(0),(by first|rfl|(simp;done)|(simp [*];done)),(by first|rfl|(simp;done)|(simp [*];done)),H',⟨Nat.le_refl _⟩,by repeat (first|exact Drawn0.refl _|apply Drawn0.step)⟩
 case round =>
  clear H'
  obtain ⟨x3_1,x4_1,rfl,rfl,HA,HK1,⟨m1,rfl⟩⟩:=hrel
  cases gk with
  | zero => exact absurd HA.out (by simp [spec_l01Pow.l0])
  | succ k1 =>
   have H:=HA.out
   clear HA
   simp only [spec_l01Pow.l0] at H
   by_cases c2 : x4_1 < a0
   rotate_left
   ·rw [if_neg c2] at H
    have c2b0 : decide (x4_1 < a0) = false:=decide_eq_false c2
    clear c2
    obtain rfl:=Option.some.inj H
    go_wp2
    go_ret
    exact ⟨by first|rfl|(simp;done)|(simp [*];done),by repeat (first|exact Drawn0.refl _|apply Drawn0.step)⟩
   rw [if_pos c2] at H
   have c2b0 : decide (x4_1 < a0) = true:=decide_eq_true c2
   clear c2
   have H':=Aside0.mk H
   clear H
   go_wp2
   go_roundg k1
   case measure => have:=HK1.out;omega
   case rel => exact ⟨(wrap64 (2 * x3_1)),(wrap64 (x4_1 + 1)),(by first|rfl|(simp;done)|(simp [*];done)),(by first|rfl|(simp;done)|(simp [*];done)),H',⟨by have:=HK1.out;omega⟩,by repeat (first|exact Drawn0.refl _|apply Drawn0.step)⟩
/-! ### spec_l04First: function 68 -/
mutual
def spec_l04First.l0 : Nat → List Int → List (S96) → Int → Option ((List (S96)))
  | 0, _, _, _ => none
  | k + 1, x0, x3, x4 => if x4 < (x0.length : Int) then (if 0 ≤ x4 then (if (rd x0 x4) = 0 then (spec_l04First.l0 k x0 x3 (wrap64 (x4 + 1))) else (spec_l04First.l1 k x0 x3 x4 (x3.length : Int) (rd x0 x4) (([x4] : List Int)))) else (none)) else (some x3)
def spec_l04First.l1 : Nat → List Int → List (S96) → Int → Int → Int → List Int → Option ((List (S96)))
  | 0, _, _, _, _, _, _ => none
  | k + 1, x0, x3, x4, x6, x114000, x114001 => if x6 > 0 then (if 0 ≤ (wrap64 (x6 - 1)) then (if (wrap64 (x6 - 1)) < (x3.length : Int) then (if ((rd_T96 x3 (wrap64 (x6 - 1))).f0) > x114000 then (spec_l04First.l1 k x0 x3 x4 (wrap64 (x6 - 1)) x114000 x114001) else ((some (([] : List (S96)) : List (S96))).bind fun y115 => (if 0 ≤ x6 then (if x6 ≤ (x3.length : Int) then ((some (x3.take (x6 : Int).toNat : List (S96))).bind fun y118 => (if y115.length + y118.length < 4398046511104 then ((some (y115 ++ y118 : List (S96))).bind fun y123 => (if y123.length < 4398046511104 then ((some (y123 ++ [(⟨x114000, x114001⟩ : S96)] : List (S96))).bind fun y126 => ((some (x3.drop (x6 : Int).toNat : List (S96))).bind fun y129 => (if y126.length + y129.length < 4398046511104 then (spec_l04First.l0 k x0 (y126 ++ y129) (wrap64 (x4 + 1))) else (none)))) else (none))) else (none))) else (none)) else (none)))) else (none)) else (none)) else ((some (([] : List (S96)) : List (S96))).bind fun y137 => (if 0 ≤ x6 then (if x6 ≤ (x3.length : Int) then ((some (x3.take (x6 : Int).toNat : List (S96))).bind fun y140 => (if y137.length + y140.length < 4398046511104 then ((some (y137 ++ y140 : List (S96))).bind fun y145 => (if y145.length < 4398046511104 then ((some (y145 ++ [(⟨x114000, x114001⟩ : S96)] : List (S96))).bind fun y148 => ((some (x3.drop (x6 : Int).toNat : List (S96))).bind fun y151 => (if y148.length + y151.length < 4398046511104 then (spec_l04First.l0 k x0 (y148 ++ y151) (wrap64 (x4 + 1))) else (none)))) else (none))) else (none))) else (none)) else (none)))
end
def spec_l04First.f (k : Nat) (l0 : List Int) : Option ((List (S96))) := spec_l04First.l0 k l0 (([] : List (S96))) 0
theorem spec_l04First.mono_l : ∀ k, (∀ y0 y1 y2, LeO (spec_l04First.l0 k y0 y1 y2) (spec_l04First.l0 (k + 1) y0 y1 y2)) ∧ (∀ y0 y1 y2 y3 y4 y5, LeO (spec_l04First.l1 k y0 y1 y2 y3 y4 y5) (spec_l04First.l1 (k + 1) y0 y1 y2 y3 y4 y5))
  | 0 => ⟨fun _ _ _ r h => by simp [spec_l04First.l0] at h, fun _ _ _ _ _ _ r h => by simp [spec_l04First.l1] at h⟩
  | k + 1 => by
    obtain ⟨ih0, ih1⟩ := spec_l04First.mono_l k
    refine ⟨?_, ?_⟩
    · intro y0 y1 y2
      unfold spec_l04First.l0
      repeat' first
      | (with_reducible exact ih0 _ _ _)
      | (with_reducible exact ih1 _ _ _ _ _ _)
      | (with_reducible exact LeO.refl _)
      | (with_reducible exact LeO.none _)
      | (with_reducible refine LeO.ite ?_ ?_)
      | (with_reducible refine LeO.bind ?_ (fun _ => ?_))
      | exact ih0 _ _ _
      | exact ih1 _ _ _ _ _ _
      | exact LeO.none _
      | refine LeO.ite ?_ ?_
      | refine LeO.bind ?_ (fun _ => ?_)
    · intro y0 y1 y2 y3 y4 y5
      unfold spec_l04First.l1
      repeat' first
      | (with_reducible exact ih0 _ _ _)
      | (with_reducible exact ih1 _ _ _ _ _ _)
      | (with_reducible exact LeO.refl _)
      | (with_reducible exact LeO.none _)
      | (with_reducible refine LeO.ite ?_ ?_)
      | (with_reducible refine LeO.bind ?_ (fun _ => ?_))
      | exact ih0 _ _ _
      | exact ih1 _ _ _ _ _ _
      | exact LeO.none _
      | refine LeO.ite ?_ ?_
      | refine LeO.bind ?_ (fun _ => ?_)
theorem spec_l04First.mono : ∀ a0 k, LeO (spec_l04First.f k a0) (spec_l04First.f (k + 1) a0) := by
  intro a0 k
  obtain ⟨ih0, ih1⟩ := spec_l04First.mono_l k
  unfold spec_l04First.f
  repeat' first
      | (with_reducible exact ih0 _ _ _)
      | (with_reducible exact ih1 _ _ _ _ _ _)
      | (with_reducible exact LeO.refl _)
      | (with_reducible exact LeO.none _)
      | (with_reducible refine LeO.ite ?_ ?_)
      | (with_reducible refine LeO.bind ?_ (fun _ => ?_))
      | exact ih0 _ _ _
      | exact ih1 _ _ _ _ _ _
      | exact LeO.none _
      | refine LeO.ite ?_ ?_
      | refine LeO.bind ?_ (fun _ => ?_)
set_option maxHeartbeats 8000000 in
set_option maxRecDepth 100000 in
theorem spec_l04First.calls (k : Nat) (A0 : Option Addr) (c0 : Nat) (l0 : List Int) (r : List (S96)) (w : World) (hr0 : Kd.C (Kd.int .i64) w A0 l0.length l0) (hc0 : l0.length ≤ c0) (h : spec_l04First.f k l0 = some r) :
    Calls Try.prog 68 #[.slice A0 l0.length c0] w fun e w' => ∃ v0_ : Value, e = .returned (v0_) ∧ Kd.N k96 96 w' w.heap.size (fun k_ => (w.heap.size ≤ k_)) v0_ r ∧ Below w.heap.size w w' := by
 have hu96:=Try.underlying96
 have HR0:=Aside0.mk hr0
 have HC0:=Aside0.mk hc0
 clear hr0 hc0
 have HB:=Aside0.mk (Below.refl w.heap.size w)
 have H : (spec_l04First.l0 k l0 (([] : List (S96))) 0) = some r:=h
 clear h
 obtain ⟨y105,hy105⟩ : ∃ y_ : List (S96),y_ = (([] : List (S96))):=⟨_,rfl⟩
 replace H : (spec_l04First.l0 k l0 y105 0) = some r:=by first|(rw [hy105];with_reducible exact H)|(have H2_:=(Option.bind_some _ _).symm.trans H;rw [hy105];with_reducible exact H2_)|(have H2_:=(Option.bind_some _ _).symm.trans H;with_reducible exact H2_)|with_reducible exact H|(rw [hy105];exact H)|exact H
 have Ny105:=Aside0.mk hy105
 clear hy105
 have H':=Aside0.mk H
 clear H
 go_enter Try.func68,Try.ntmps68
 go_wp2_with (first|((with_reducible refine gate_dst (N:=8) rfl ?_);refine Kd.N_lit k96 _ 96 ?hg (N':=8) ?hd (xs:=([] : List (S96))) (inner:=[]) (ok:=(fun k_ => (w.heap.size ≤ k_))) (okp:=(fun k_ => (w.heap.size ≤ k_))) ?hr ?hp (fun _ hk => hk) ((show ∀ k_,w.heap.size ≤ k_ → (fun k_ => (w.heap.size ≤ k_)) k_ from fun k_ hk => (Nat.le_trans (below_size (by repeat (first|(with_reducible first|exact HB.out|apply below_alloc|apply pw_below_drewN|apply below_drew1)|exact HB.out))) hk)) _ (Nat.le_refl _)) (Below.refl _ _) (Nat.le_refl _) (by simp) ?_;(case hd => rfl);(case hg => rfl);(case hr => first|(go_simp;done)|(go_simp;rfl));(case hp => exact (Reps.none _ _));intro v106 w2 ho3 hb hg_ hnew_;clear hg_ hnew_;(first|rw [← Ny105.out] at ho3|(simp only [Int.reduceToNat] at ho3;rw [← Ny105.out] at ho3));have n0_:=Aside0.mk (Kd.N_lower ho3 (below_size (by repeat (first|(with_reducible first|exact HB.out|apply below_alloc|apply pw_below_drewN|apply below_drew1)|exact HB.out))));have n1_:=Aside0.mk (below_step (by repeat (first|(with_reducible first|exact HB.out|apply below_alloc|apply pw_below_drewN|apply below_drew1)|exact HB.out)) hb);clear HB;have HO107:=n0_;have HB:=n1_;clear n0_ n1_;clear hb ho3))
 repeat (go_quiet (first|((with_reducible refine gate_dst (N:=8) rfl ?_);refine Kd.N_lit k96 _ 96 ?hg (N':=8) ?hd (xs:=([] : List (S96))) (inner:=[]) (ok:=(fun k_ => (w.heap.size ≤ k_))) (okp:=(fun k_ => (w.heap.size ≤ k_))) ?hr ?hp (fun _ hk => hk) ((show ∀ k_,w.heap.size ≤ k_ → (fun k_ => (w.heap.size ≤ k_)) k_ from fun k_ hk => (Nat.le_trans (below_size (by repeat (first|(with_reducible first|exact HB.out|apply below_alloc|apply pw_below_drewN|apply below_drew1)|exact HB.out))) hk)) _ (Nat.le_refl _)) (Below.refl _ _) (Nat.le_refl _) (by simp) ?_;(case hd => rfl);(case hg => rfl);(case hr => first|(go_simp;done)|(go_simp;rfl));(case hp => exact (Reps.none _ _));intro v106 w2 ho3 hb hg_ hnew_;clear hg_ hnew_;(first|rw [← Ny105.out] at ho3|(simp only [Int.reduceToNat] at ho3;rw [← Ny105.out] at ho3));have n0_:=Aside0.mk (Kd.N_lower ho3 (below_size (by repeat (first|(with_reducible first|exact HB.out|apply below_alloc|apply pw_below_drewN|apply below_drew1)|exact HB.out))));have n1_:=Aside0.mk (below_step (by repeat (first|(with_reducible first|exact HB.out|apply below_alloc|apply pw_below_drewN|apply below_drew1)|exact HB.out)) hb);clear HB;have HO107:=n0_;have HB:=n1_;clear n0_ n1_;clear hb ho3));try go_wp2_with (first|((with_reducible refine gate_dst (N:=8) rfl ?_);refine Kd.N_lit k96 _ 96 ?hg (N':=8) ?hd (xs:=([] : List (S96))) (inner:=[]) (ok:=(fun k_ => (w.heap.size ≤ k_))) (okp:=(fun k_ => (w.heap.size ≤ k_))) ?hr ?hp (fun _ hk => hk) ((show ∀ k_,w.heap.size ≤ k_ → (fun k_ => (w.heap.size ≤ k_)) k_ from fun k_ hk => (Nat.le_trans (below_size (by repeat (first|(with_reducible first|exact HB.out|apply below_alloc|apply pw_below_drewN|apply below_drew1)|exact HB.out))) hk)) _ (Nat.le_refl _)) (Below.refl _ _) (Nat.le_refl _) (by simp) ?_;(case hd => rfl);(case hg => rfl);(case hr => first|(go_simp;done)|(go_simp;rfl));(case hp => exact (Reps.none _ _));intro v106 w2 ho3 hb hg_ hnew_;clear hg_ hnew_;(first|rw [← Ny105.out] at ho3|(simp only [Int.reduceToNat] at ho3;rw [← Ny105.out] at ho3));have n0_:=Aside0.mk (Kd.N_lower ho3 (below_size (by repeat (first|(with_reducible first|exact HB.out|apply below_alloc|apply pw_below_drewN|apply below_drew1)|exact HB.out))));have n1_:=Aside0.mk (below_step (by repeat (first|(with_reducible first|exact HB.out|apply below_alloc|apply pw_below_drewN|apply below_drew1)|exact HB.out)) hb);clear HB;have HO107:=n0_;have HB:=n1_;clear n0_ n1_;clear hb ho3)))
 go_loopg [3,4] k (fun kq v3 v4 w' => ∃ (x3_1 : List (S96)) (x4_1 : Int),v4 = .int .i64 x4_1∧Aside0 (spec_l04First.l0 kq l0 x3_1 x4_1 = some r)∧Aside0 (kq ≤ k)∧Aside0 (Kd.N k96 96 w' w.heap.size (fun k_ => (w.heap.size ≤ k_)) v3 x3_1)∧Aside0 (Below w.heap.size w w'))
 case atStart => exact ⟨(y105),(0),(by first|rfl|(simp;done)|(simp [*];done)),H',⟨Nat.le_refl _⟩,⟨by (with_reducible repeat (first|apply Kd.N_alloc|apply Kd.N_drewN|apply Kd.N_drew));exact HO107.out⟩,⟨by repeat (first|(with_reducible first|exact HB.out|apply below_alloc|apply pw_below_drewN|apply below_drew1)|exact HB.out)⟩⟩
 case round =>
  clear H'
  obtain ⟨x3_1,x4_1,rfl,HA,HK1,HO_3,HB⟩:=hrel
  cases gk with
  | zero => exact absurd HA.out (by simp [spec_l04First.l0])
  | succ k1 =>
   have H:=HA.out
   clear HA
   simp only [spec_l04First.l0] at H
   by_cases c4 : x4_1 < (l0.length : Int)
   rotate_left
   ·rw [if_neg c4] at H
    have c4b0 : decide (x4_1 < (l0.length : Int)) = false:=decide_eq_false c4
    clear c4
    obtain rfl:=Option.some.inj H
    go_wp2
    repeat (go_quiet (fail);try go_wp2)
    go_ret
    exact ⟨_,by first|rfl|(simp [errW_none,errW_some] <;> rfl)|(simp [*,errW_none,errW_some] <;> rfl),by (with_reducible repeat (first|apply Kd.N_alloc|apply Kd.N_drewN|apply Kd.N_drew));exact HO_3.out,by repeat (first|(with_reducible first|exact HB.out|apply below_alloc|apply pw_below_drewN|apply below_drew1)|exact HB.out)⟩
   rw [if_pos c4] at H
   have c4b0 : decide (x4_1 < (l0.length : Int)) = true:=decide_eq_true c4
   clear c4
   by_cases c5 : 0 ≤ x4_1
   rotate_left
   ·rw [if_neg c5] at H
    exact absurd H (by simp)
   rw [if_pos c5] at H
   have c5b0 : decide (0 ≤ x4_1) = true:=decide_eq_true c5
   clear c5
   by_cases c6 : (rd l0 x4_1) = 0
   ·rw [if_pos c6] at H
    have c6b0 : ((rd l0 x4_1) == 0) = true:=beq_iff_eq.mpr c6
    have c6b1 : ((rd l0 x4_1) != 0) = false:=bne_eq_false_iff_eq.mpr c6
    clear c6
    have H':=Aside0.mk H
    clear H
    have p108 : 0 ≤ (x4_1 : Int):=of_decide_eq_true (by assumption)
    have q108 : x4_1 < (l0.length : Int):=of_decide_eq_true (by assumption)
    obtain ⟨ad108,e108,hx108_0⟩:=Kd.at_int HR0.out x4_1 p108 q108
    cases e108
    replace hx108_0:=(HB.out.cell (World.block_lt_of_cell? w _ hx108_0)).trans hx108_0
    replace p108:=eq_true p108
    replace q108:=eq_true q108
    go_wp2
    repeat (go_quiet (fail);try go_wp2)
    go_roundg k1
    case measure => have:=HK1.out;omega
    case rel => exact ⟨(x3_1),(wrap64 (x4_1 + 1)),(by first|rfl|(simp;done)|(simp [*];done)),H',⟨by have:=HK1.out;omega⟩,⟨by (with_reducible repeat (first|apply Kd.N_alloc|apply Kd.N_drewN|apply Kd.N_drew));exact HO_3.out⟩,⟨by repeat (first|(with_reducible first|exact HB.out|apply below_alloc|apply pw_below_drewN|apply below_drew1)|exact HB.out)⟩⟩
   rw [if_neg c6] at H
   have c6b0 : ((rd l0 x4_1) == 0) = false:=beq_eq_false_iff_ne.mpr c6
   have c6b1 : ((rd l0 x4_1) != 0) = true:=bne_iff_ne.mpr c6
   obtain ⟨y110,hy110⟩ : ∃ y_ : List Int,y_ = (([x4_1] : List Int)):=⟨_,rfl⟩
   replace H : (spec_l04First.l1 k1 l0 x3_1 x4_1 (x3_1.length : Int) (rd l0 x4_1) y110) = some r:=by first|(rw [hy110];with_reducible exact H)|(have H2_:=(Option.bind_some _ _).symm.trans H;rw [hy110];with_reducible exact H2_)|(have H2_:=(Option.bind_some _ _).symm.trans H;with_reducible exact H2_)|with_reducible exact H|(rw [hy110];exact H)|exact H
   have Ny110:=Aside0.mk hy110
   clear hy110
   have H':=Aside0.mk H
   clear H
   have p108 : 0 ≤ (x4_1 : Int):=of_decide_eq_true (by assumption)
   have q108 : x4_1 < (l0.length : Int):=of_decide_eq_true (by assumption)
   obtain ⟨ad108,e108,hx108_0⟩:=Kd.at_int HR0.out x4_1 p108 q108
   cases e108
   replace hx108_0:=(HB.out.cell (World.block_lt_of_cell? w _ hx108_0)).trans hx108_0
   replace p108:=eq_true p108
   replace q108:=eq_true q108
   have p109 : 0 ≤ (x4_1 : Int):=of_decide_eq_true (by assumption)
   have q109 : x4_1 < (l0.length : Int):=of_decide_eq_true (by assumption)
   obtain ⟨ad109,e109,hx109_0⟩:=Kd.at_int HR0.out x4_1 p109 q109
   obtain rfl : ad108 = ad109:=(by injection e109)
   replace hx109_0:=(HB.out.cell (World.block_lt_of_cell? w _ hx109_0)).trans hx109_0
   replace p109:=eq_true p109
   replace q109:=eq_true q109
   go_wp2_with (first|((with_reducible refine gate_dst (N:=25) rfl ?_);refine Kd.R_lit (Kd.int .i64) _ 3 ?hg (N:=25) ?hd (xs:=([x4_1] : List Int)) (inner:=[.int .i64 x4_1]) (ok:=fun _ => True) (okp:=fun _ => True) ?hr ?hp (fun _ hk => hk) trivial (Below.refl _ _) (Nat.le_refl _) (by simp) ?_;(case hd => rfl);(case hg => rfl);(case hr => first|(go_simp;done)|(go_simp;rfl));(case hp => exact (Reps.one (show Kd.M (Kd.int .i64) _ _ _ x4_1 [.int .i64 x4_1] from rfl) (Reps.none _ _)));intro v111 w7 ho8 hb hg_ hnew_;clear hg_ hnew_;(first|rw [← Ny110.out] at ho8|(simp only [Int.reduceToNat] at ho8;rw [← Ny110.out] at ho8));have n0_:=Aside0.mk (Kd.N_elder' (by (with_reducible repeat (first|apply Kd.N_alloc|apply Kd.N_drewN|apply Kd.N_drew));exact HO_3.out) (Kd.R_base ho8) hb);have n1_:=Aside0.mk (Kd.R_lower (Kd.R_newM (M:=fun k_ => (w.heap.size ≤ k_)) ho8 (below_size (by repeat (first|(with_reducible first|exact HB.out|apply below_alloc|apply pw_below_drewN|apply below_drew1)|exact HB.out))) (fun k_ h_ => h_)) (below_size (by repeat (first|(with_reducible first|exact HB.out|apply below_alloc|apply pw_below_drewN|apply below_drew1)|exact HB.out))));have n2_:=Aside0.mk (below_step (by repeat (first|(with_reducible first|exact HB.out|apply below_alloc|apply pw_below_drewN|apply below_drew1)|exact HB.out)) hb);clear HO_3;clear HB;have HO_3:=n0_;have HO112:=n1_;have HB:=n2_;clear n0_ n1_ n2_;clear hb ho8;obtain ⟨Ao9,co9,eo9⟩:=Kd.R_slice HO112.out;subst eo9)|((with_reducible refine gate_dst (N:=5) rfl ?_);refine box_event ?hg (N:=5) ?hd (cs:=#[.int .i64 0,.slice none 0 0]) (t:=96) ?hr ?_;(case hd => rfl);(case hg => rfl);(case hr => first|(go_simp;done)|(go_simp;rfl));intro gb113 hg w10 hbox hb;have n0_:=Aside0.mk (Kd.N_below (Kd.N_elderB (by (with_reducible repeat (first|apply Kd.N_alloc|apply Kd.N_drewN|apply Kd.N_drew));exact HO_3.out) gb113 (Nat.le_of_eq hg.symm)) hb);have n1_:=Aside0.mk (Kd.R_below (by (with_reducible repeat (first|apply Kd.R_alloc|apply Kd.R_drewN|apply Kd.R_drew));exact HO112.out) hb);have n2_:=Aside0.mk (below_step (by repeat (first|(with_reducible first|exact HB.out|apply below_alloc|apply pw_below_drewN|apply below_drew1)|exact HB.out)) hb);have n3_:=Aside0.mk (hbox);have n4_:=Aside0.mk ((by rw [hg];exact (below_size (by repeat (first|(with_reducible first|exact HB.out|apply below_alloc|apply pw_below_drewN|apply below_drew1)|exact HB.out))) : w.heap.size ≤ gb113));have n5_:=Aside0.mk ((by rw [hg];exact (below_size (by repeat (first|(with_reducible first|exact HB.out|apply below_alloc|apply pw_below_drewN|apply below_drew1)|exact HB.out))) : w.heap.size ≤ gb113));clear HO_3;clear HO112;clear HB;have HO_3:=n0_;have HO112:=n1_;have HB:=n2_;have BK113:=n3_;have GW113:=n4_;have GE113:=n5_;clear n0_ n1_ n2_ n3_ n4_ n5_;clear hb hbox hg;have hcz11_0 : w10.cell? ⟨gb113,0,none⟩ = some (.int .i64 0):=(blk_cell BK113.out 0).trans rfl;have hcz11_1 : w10.cell? ⟨gb113,1,none⟩ = some (.slice none 0 0):=(blk_cell BK113.out 1).trans rfl;have hfz11_0:=blk_frozen BK113.out 0;have hfz11_1:=blk_frozen BK113.out 1;obtain ⟨Ao12,co12,eo12⟩:=Kd.N_slice HO_3.out;subst eo12))
   repeat (go_quiet (first|((with_reducible refine gate_dst (N:=25) rfl ?_);refine Kd.R_lit (Kd.int .i64) _ 3 ?hg (N:=25) ?hd (xs:=([x4_1] : List Int)) (inner:=[.int .i64 x4_1]) (ok:=fun _ => True) (okp:=fun _ => True) ?hr ?hp (fun _ hk => hk) trivial (Below.refl _ _) (Nat.le_refl _) (by simp) ?_;(case hd => rfl);(case hg => rfl);(case hr => first|(go_simp;done)|(go_simp;rfl));(case hp => exact (Reps.one (show Kd.M (Kd.int .i64) _ _ _ x4_1 [.int .i64 x4_1] from rfl) (Reps.none _ _)));intro v111 w7 ho8 hb hg_ hnew_;clear hg_ hnew_;(first|rw [← Ny110.out] at ho8|(simp only [Int.reduceToNat] at ho8;rw [← Ny110.out] at ho8));have n0_:=Aside0.mk (Kd.N_elder' (by (with_reducible repeat (first|apply Kd.N_alloc|apply Kd.N_drewN|apply Kd.N_drew));exact HO_3.out) (Kd.R_base ho8) hb);have n1_:=Aside0.mk (Kd.R_lower (Kd.R_newM (M:=fun k_ => (w.heap.size ≤ k_)) ho8 (below_size (by repeat (first|(with_reducible first|exact HB.out|apply below_alloc|apply pw_below_drewN|apply below_drew1)|exact HB.out))) (fun k_ h_ => h_)) (below_size (by repeat (first|(with_reducible first|exact HB.out|apply below_alloc|apply pw_below_drewN|apply below_drew1)|exact HB.out))));have n2_:=Aside0.mk (below_step (by repeat (first|(with_reducible first|exact HB.out|apply below_alloc|apply pw_below_drewN|apply below_drew1)|exact HB.out)) hb);clear HO_3;clear HB;have HO_3:=n0_;have HO112:=n1_;have HB:=n2_;clear n0_ n1_ n2_;clear hb ho8;obtain ⟨Ao9,co9,eo9⟩:=Kd.R_slice HO112.out;subst eo9)|((with_reducible refine gate_dst (N:=5) rfl ?_);refine box_event ?hg (N:=5) ?hd (cs:=#[.int .i64 0,.slice none 0 0]) (t:=96) ?hr ?_;(case hd => rfl);(case hg => rfl);(case hr => first|(go_simp;done)|(go_simp;rfl));intro gb113 hg w10 hbox hb;have n0_:=Aside0.mk (Kd.N_below (Kd.N_elderB (by (with_reducible repeat (first|apply Kd.N_alloc|apply Kd.N_drewN|apply Kd.N_drew));exact HO_3.out) gb113 (Nat.le_of_eq hg.symm)) hb);have n1_:=Aside0.mk (Kd.R_below (by (with_reducible repeat (first|apply Kd.R_alloc|apply Kd.R_drewN|apply Kd.R_drew));exact HO112.out) hb);have n2_:=Aside0.mk (below_step (by repeat (first|(with_reducible first|exact HB.out|apply below_alloc|apply pw_below_drewN|apply below_drew1)|exact HB.out)) hb);have n3_:=Aside0.mk (hbox);have n4_:=Aside0.mk ((by rw [hg];exact (below_size (by repeat (first|(with_reducible first|exact HB.out|apply below_alloc|apply pw_below_drewN|apply below_drew1)|exact HB.out))) : w.heap.size ≤ gb113));have n5_:=Aside0.mk ((by rw [hg];exact (below_size (by repeat (first|(with_reducible first|exact HB.out|apply below_alloc|apply pw_below_drewN|apply below_drew1)|exact HB.out))) : w.heap.size ≤ gb113));clear HO_3;clear HO112;clear HB;have HO_3:=n0_;have HO112:=n1_;have HB:=n2_;have BK113:=n3_;have GW113:=n4_;have GE113:=n5_;clear n0_ n1_ n2_ n3_ n4_ n5_;clear hb hbox hg;have hcz11_0 : w10.cell? ⟨gb113,0,none⟩ = some (.int .i64 0):=(blk_cell BK113.out 0).trans rfl;have hcz11_1 : w10.cell? ⟨gb113,1,none⟩ = some (.slice none 0 0):=(blk_cell BK113.out 1).trans rfl;have hfz11_0:=blk_frozen BK113.out 0;have hfz11_1:=blk_frozen BK113.out 1;obtain ⟨Ao12,co12,eo12⟩:=Kd.N_slice HO_3.out;subst eo12));try go_wp2_with (first|((with_reducible refine gate_dst (N:=25) rfl ?_);refine Kd.R_lit (Kd.int .i64) _ 3 ?hg (N:=25) ?hd (xs:=([x4_1] : List Int)) (inner:=[.int .i64 x4_1]) (ok:=fun _ => True) (okp:=fun _ => True) ?hr ?hp (fun _ hk => hk) trivial (Below.refl _ _) (Nat.le_refl _) (by simp) ?_;(case hd => rfl);(case hg => rfl);(case hr => first|(go_simp;done)|(go_simp;rfl));(case hp => exact (Reps.one (show Kd.M (Kd.int .i64) _ _ _ x4_1 [.int .i64 x4_1] from rfl) (Reps.none _ _)));intro v111 w7 ho8 hb hg_ hnew_;clear hg_ hnew_;(first|rw [← Ny110.out] at ho8|(simp only [Int.reduceToNat] at ho8;rw [← Ny110.out] at ho8));have n0_:=Aside0.mk (Kd.N_elder' (by (with_reducible repeat (first|apply Kd.N_alloc|apply Kd.N_drewN|apply Kd.N_drew));exact HO_3.out) (Kd.R_base ho8) hb);have n1_:=Aside0.mk (Kd.R_lower (Kd.R_newM (M:=fun k_ => (w.heap.size ≤ k_)) ho8 (below_size (by repeat (first|(with_reducible first|exact HB.out|apply below_alloc|apply pw_below_drewN|apply below_drew1)|exact HB.out))) (fun k_ h_ => h_)) (below_size (by repeat (first|(with_reducible first|exact HB.out|apply below_alloc|apply pw_below_drewN|apply below_drew1)|exact HB.out))));have n2_:=Aside0.mk (below_step (by repeat (first|(with_reducible first|exact HB.out|apply below_alloc|apply pw_below_drewN|apply below_drew1)|exact HB.out)) hb);clear HO_3;clear HB;have HO_3:=n0_;have HO112:=n1_;have HB:=n2_;clear n0_ n1_ n2_;clear hb ho8;obtain ⟨Ao9,co9,eo9⟩:=Kd.R_slice HO112.out;subst eo9)|((with_reducible refine gate_dst (N:=5) rfl ?_);refine box_event ?hg (N:=5) ?hd (cs:=#[.int .i64 0,.slice none 0 0]) (t:=96) ?hr ?_;(case hd => rfl);(case hg => rfl);(case hr => first|(go_simp;done)|(go_simp;rfl));intro gb113 hg w10 hbox hb;have n0_:=Aside0.mk (Kd.N_below (Kd.N_elderB (by (with_reducible repeat (first|apply Kd.N_alloc|apply Kd.N_drewN|apply Kd.N_drew));exact HO_3.out) gb113 (Nat.le_of_eq hg.symm)) hb);have n1_:=Aside0.mk (Kd.R_below (by (with_reducible repeat (first|apply Kd.R_alloc|apply Kd.R_drewN|apply Kd.R_drew));exact HO112.out) hb);have n2_:=Aside0.mk (below_step (by repeat (first|(with_reducible first|exact HB.out|apply below_alloc|apply pw_below_drewN|apply below_drew1)|exact HB.out)) hb);have n3_:=Aside0.mk (hbox);have n4_:=Aside0.mk ((by rw [hg];exact (below_size (by repeat (first|(with_reducible first|exact HB.out|apply below_alloc|apply pw_below_drewN|apply below_drew1)|exact HB.out))) : w.heap.size ≤ gb113));have n5_:=Aside0.mk ((by rw [hg];exact (below_size (by repeat (first|(with_reducible first|exact HB.out|apply below_alloc|apply pw_below_drewN|apply below_drew1)|exact HB.out))) : w.heap.size ≤ gb113));clear HO_3;clear HO112;clear HB;have HO_3:=n0_;have HO112:=n1_;have HB:=n2_;have BK113:=n3_;have GW113:=n4_;have GE113:=n5_;clear n0_ n1_ n2_ n3_ n4_ n5_;clear hb hbox hg;have hcz11_0 : w10.cell? ⟨gb113,0,none⟩ = some (.int .i64 0):=(blk_cell BK113.out 0).trans rfl;have hcz11_1 : w10.cell? ⟨gb113,1,none⟩ = some (.slice none 0 0):=(blk_cell BK113.out 1).trans rfl;have hfz11_0:=blk_frozen BK113.out 0;have hfz11_1:=blk_frozen BK113.out 1;obtain ⟨Ao12,co12,eo12⟩:=Kd.N_slice HO_3.out;subst eo12)))
   go_loopg [6] k1 (fun kq v6 w' => ∃ (x6_2 : Int),v6 = .int .i64 x6_2∧Aside0 (spec_l04First.l1 kq l0 x3_1 x4_1 x6_2 (rd l0 x4_1) y110 = some r)∧Aside0 (kq ≤ k1)∧Aside0 (Kd.N k96 96 w' w.heap.size (fun k_ => (w.heap.size ≤ k_)∧some k_ ≠ ((.slice Ao9 y110.length co9) : Value).ownBlock∧k_ ≠ gb113) (.slice Ao12 x3_1.length co12) x3_1)∧Aside0 (Kd.R (Kd.int .i64) 3 w' w.heap.size (fun k_ => (w.heap.size ≤ k_)) (.slice Ao9 y110.length co9) y110)∧Aside0 (w'.heap[gb113]? = some (.cells #[.int .i64 (rd l0 x4_1),(.slice Ao9 y110.length co9)] 96 (0,0)))∧Aside0 (Below w.heap.size w w'))
   case atStart => exact ⟨((x3_1.length : Int)),(by first|rfl|(simp;done)|(simp [*];done)),H',⟨Nat.le_refl _⟩,⟨by (with_reducible repeat (first|apply Kd.N_alloc|apply Kd.N_drewN|apply Kd.N_drew));exact Kd.N_mono (Kd.N_far (p:=⟨gb113,1,none⟩) (Kd.N_far (p:=⟨gb113,0,none⟩) (Kd.N_mono HO_3.out (fun k_ hk => (⟨hk,hk.2⟩ : _∧k_ ≠ gb113))) (fun _ hk => hk.2) (.int .i64 (rd l0 x4_1))) (fun _ hk => hk.2) (.slice Ao9 y110.length co9)) (fun _ hk => ⟨hk.1.1.1,⟨hk.1.1.2,hk.1.2⟩⟩)⟩,⟨by (with_reducible repeat (first|apply Kd.R_alloc|apply Kd.R_drewN|apply Kd.R_drew));exact Kd.R_mono (Kd.R_far (p:=⟨gb113,1,none⟩) (Kd.R_far (p:=⟨gb113,0,none⟩) (Kd.R_types HO112.out BK113.out (by decide)) (fun _ hk => hk.2) (.int .i64 (rd l0 x4_1))) (fun _ hk => hk.2) (.slice Ao9 y110.length co9)) (fun _ hk => hk.1.1)⟩,⟨by (with_reducible repeat (first|refine blk_drewN ?_ _|refine blk_drew ?_|refine blk_alloc ?_ _));refine blk_put (cs:=#[.int .i64 (rd l0 x4_1),.slice none 0 0]) ?_ 1 _ rfl;(with_reducible repeat (first|refine blk_drewN ?_ _|refine blk_drew ?_|refine blk_alloc ?_ _));refine blk_put (cs:=#[.int .i64 0,.slice none 0 0]) ?_ 0 _ rfl;(with_reducible repeat (first|refine blk_drewN ?_ _|refine blk_drew ?_|refine blk_alloc ?_ _));exact BK113.out⟩,⟨by repeat (first|(with_reducible first|exact HB.out|apply below_alloc|apply pw_below_drewN|apply below_drew1|refine below_set ?_ GE113.out)|exact HB.out)⟩⟩
   case round =>
    clear H'
    obtain ⟨x6_2,rfl,HA,HK2,HO_3,HO_114001,BK113,HB⟩:=hrel
    cases gk with
    | zero => exact absurd HA.out (by simp [spec_l04First.l1])
    | succ k2 =>
     have H:=HA.out
     clear HA
     simp only [spec_l04First.l1] at H
     by_cases c13 : x6_2 > 0
     rotate_left
     ·rw [if_neg c13] at H
      have c13b0 : decide (0 < x6_2) = false:=decide_eq_false c13
      clear c13
      obtain ⟨y137,hy137⟩ : ∃ y_ : List (S96),y_ = (([] : List (S96))):=⟨_,rfl⟩
      replace H : (if 0 ≤ x6_2 then (if x6_2 ≤ (x3_1.length : Int) then ((some (x3_1.take (x6_2 : Int).toNat : List (S96))).bind fun y140 => (if y137.length + y140.length < 4398046511104 then ((some (y137 ++ y140 : List (S96))).bind fun y145 => (if y145.length < 4398046511104 then ((some (y145 ++ [(⟨(rd l0 x4_1),y110⟩ : S96)] : List (S96))).bind fun y148 => ((some (x3_1.drop (x6_2 : Int).toNat : List (S96))).bind fun y151 => (if y148.length + y151.length < 4398046511104 then (spec_l04First.l0 k2 l0 (y148 ++ y151) (wrap64 (x4_1 + 1))) else (none)))) else (none))) else (none))) else (none)) else (none)) = some r:=by first|(rw [hy137];with_reducible exact H)|(have H2_:=(Option.bind_some _ _).symm.trans H;rw [hy137];with_reducible exact H2_)|(have H2_:=(Option.bind_some _ _).symm.trans H;with_reducible exact H2_)|with_reducible exact H|(rw [hy137];exact H)|exact H
      have Ny137:=Aside0.mk hy137
      clear hy137
      by_cases c35 : 0 ≤ x6_2
      rotate_left
      ·rw [if_neg c35] at H
       exact absurd H (by simp)
      rw [if_pos c35] at H
      have c35b0:=eq_true c35
      have c35b1 : decide (0 ≤ x6_2) = true:=decide_eq_true c35
      clear c35
      by_cases c36 : x6_2 ≤ (x3_1.length : Int)
      rotate_left
      ·rw [if_neg c36] at H
       exact absurd H (by simp)
      rw [if_pos c36] at H
      have c36b0:=eq_true c36
      have c36b1 : decide (x6_2 ≤ (x3_1.length : Int)) = true:=decide_eq_true c36
      clear c36
      obtain ⟨y140,hy140⟩ : ∃ y_ : List (S96),y_ = (x3_1.take (x6_2 : Int).toNat):=⟨_,rfl⟩
      replace H : (if y137.length + y140.length < 4398046511104 then ((some (y137 ++ y140 : List (S96))).bind fun y145 => (if y145.length < 4398046511104 then ((some (y145 ++ [(⟨(rd l0 x4_1),y110⟩ : S96)] : List (S96))).bind fun y148 => ((some (x3_1.drop (x6_2 : Int).toNat : List (S96))).bind fun y151 => (if y148.length + y151.length < 4398046511104 then (spec_l04First.l0 k2 l0 (y148 ++ y151) (wrap64 (x4_1 + 1))) else (none)))) else (none))) else (none)) = some r:=by first|(rw [hy140];with_reducible exact H)|(have H2_:=(Option.bind_some _ _).symm.trans H;rw [hy140];with_reducible exact H2_)|(have H2_:=(Option.bind_some _ _).symm.trans H;with_reducible exact H2_)|with_reducible exact H|(rw [hy140];exact H)|exact H
      have Ny140:=Aside0.mk hy140
      clear hy140
      by_cases c37 : y137.length + y140.length < 4398046511104
      rotate_left
      ·rw [if_neg c37] at H
       exact absurd H (by simp)
      rw [if_pos c37] at H
      have LMc37:=Aside0.mk c37
      clear c37
      obtain ⟨y145,hy145⟩ : ∃ y_ : List (S96),y_ = (y137 ++ y140):=⟨_,rfl⟩
      replace H : (if y145.length < 4398046511104 then ((some (y145 ++ [(⟨(rd l0 x4_1),y110⟩ : S96)] : List (S96))).bind fun y148 => ((some (x3_1.drop (x6_2 : Int).toNat : List (S96))).bind fun y151 => (if y148.length + y151.length < 4398046511104 then (spec_l04First.l0 k2 l0 (y148 ++ y151) (wrap64 (x4_1 + 1))) else (none)))) else (none)) = some r:=by first|(rw [hy145];with_reducible exact H)|(have H2_:=(Option.bind_some _ _).symm.trans H;rw [hy145];with_reducible exact H2_)|(have H2_:=(Option.bind_some _ _).symm.trans H;with_reducible exact H2_)|with_reducible exact H|(rw [hy145];exact H)|exact H
      have Ny145:=Aside0.mk hy145
      clear hy145
      by_cases c38 : y145.length < 4398046511104
      rotate_left
      ·rw [if_neg c38] at H
       exact absurd H (by simp)
      rw [if_pos c38] at H
      have LMc38:=Aside0.mk c38
      clear c38
      obtain ⟨y148,hy148⟩ : ∃ y_ : List (S96),y_ = (y145 ++ [(⟨(rd l0 x4_1),y110⟩ : S96)]):=⟨_,rfl⟩
      replace H : ((some (x3_1.drop (x6_2 : Int).toNat : List (S96))).bind fun y151 => (if y148.length + y151.length < 4398046511104 then (spec_l04First.l0 k2 l0 (y148 ++ y151) (wrap64 (x4_1 + 1))) else (none))) = some r:=by first|(rw [hy148];with_reducible exact H)|(have H2_:=(Option.bind_some _ _).symm.trans H;rw [hy148];with_reducible exact H2_)|(have H2_:=(Option.bind_some _ _).symm.trans H;with_reducible exact H2_)|with_reducible exact H|(rw [hy148];exact H)|exact H
      have Ny148:=Aside0.mk hy148
      clear hy148
      have c39b0:=eq_true (of_decide_eq_true (by assumption) : 0 ≤ x6_2)
      have c40b0:=eq_true (of_decide_eq_true (by assumption) : x6_2 ≤ (x3_1.length : Int))
      obtain ⟨y151,hy151⟩ : ∃ y_ : List (S96),y_ = (x3_1.drop (x6_2 : Int).toNat):=⟨_,rfl⟩
      replace H : (if y148.length + y151.length < 4398046511104 then (spec_l04First.l0 k2 l0 (y148 ++ y151) (wrap64 (x4_1 + 1))) else (none)) = some r:=by first|(rw [hy151];with_reducible exact H)|(have H2_:=(Option.bind_some _ _).symm.trans H;rw [hy151];with_reducible exact H2_)|(have H2_:=(Option.bind_some _ _).symm.trans H;with_reducible exact H2_)|with_reducible exact H|(rw [hy151];exact H)|exact H
      have Ny151:=Aside0.mk hy151
      clear hy151
      by_cases c41 : y148.length + y151.length < 4398046511104
      rotate_left
      ·rw [if_neg c41] at H
       exact absurd H (by simp)
      rw [if_pos c41] at H
      have LMc41:=Aside0.mk c41
      clear c41
      obtain ⟨y156,hy156⟩ : ∃ y_ : List (S96),y_ = (y148 ++ y151):=⟨_,rfl⟩
      replace H : (spec_l04First.l0 k2 l0 y156 (wrap64 (x4_1 + 1))) = some r:=by first|(rw [hy156];with_reducible exact H)|(have H2_:=(Option.bind_some _ _).symm.trans H;rw [hy156];with_reducible exact H2_)|(have H2_:=(Option.bind_some _ _).symm.trans H;with_reducible exact H2_)|with_reducible exact H|(rw [hy156];exact H)|exact H
      have Ny156:=Aside0.mk hy156
      clear hy156
      have H':=Aside0.mk H
      clear H
      go_wp2_with (first|((with_reducible refine gate_dst (N:=44) rfl ?_);refine Kd.N_lit k96 _ 96 ?hg (N':=44) ?hd (xs:=([] : List (S96))) (inner:=[]) (ok:=(fun k_ => (w.heap.size ≤ k_)∧some k_ ≠ (.slice Ao12 x3_1.length co12 : Value).ownBlock∧some k_ ≠ (.slice Ao9 y110.length co9 : Value).ownBlock∧k_ ≠ gb113)) (okp:=(fun k_ => (w.heap.size ≤ k_)∧some k_ ≠ (.slice Ao12 x3_1.length co12 : Value).ownBlock∧some k_ ≠ (.slice Ao9 y110.length co9 : Value).ownBlock∧k_ ≠ gb113)) ?hr ?hp (fun _ hk => hk) ((show ∀ k_,wr.heap.size ≤ k_ → (fun k_ => (w.heap.size ≤ k_)∧some k_ ≠ (.slice Ao12 x3_1.length co12 : Value).ownBlock∧some k_ ≠ (.slice Ao9 y110.length co9 : Value).ownBlock∧k_ ≠ gb113) k_ from fun k_ hk => ⟨(Nat.le_trans (below_size (by repeat (first|(with_reducible first|exact HB.out|apply below_alloc|apply pw_below_drewN|apply below_drew1|refine below_set ?_ GE113.out)|exact HB.out))) hk),Kd.fresh' (Kd.N_lt (by (with_reducible repeat (first|apply Kd.N_alloc|apply Kd.N_drewN|apply Kd.N_drew));exact HO_3.out)) k_ hk,Kd.fresh' (Kd.R_lt (by (with_reducible repeat (first|apply Kd.R_alloc|apply Kd.R_drewN|apply Kd.R_drew));exact HO_114001.out)) k_ hk,Kd.freshB (g:=gb113) (o:=.cells #[.int .i64 (rd l0 x4_1),.slice Ao9 y110.length co9] 96 (0,0)) (by (with_reducible repeat (first|refine blk_drewN ?_ _|refine blk_drew ?_|refine blk_alloc ?_ _));exact BK113.out) k_ hk⟩) _ (Nat.le_refl _)) (Below.refl _ _) (Nat.le_refl _) (by simp) ?_;(case hd => rfl);(case hg => rfl);(case hr => first|(go_simp;done)|(go_simp;rfl));(case hp => exact (Reps.none _ _));intro v138 w42 ho43 hb hg_ hnew_;clear hg_ hnew_;(first|rw [← Ny137.out] at ho43|(simp only [Int.reduceToNat] at ho43;rw [← Ny137.out] at ho43));have n0_:=Aside0.mk (Kd.N_elder' (by (with_reducible repeat (first|apply Kd.N_alloc|apply Kd.N_drewN|apply Kd.N_drew));exact HO_3.out) (Kd.N_base ho43) hb);have n1_:=Aside0.mk (Kd.R_below (by (with_reducible repeat (first|apply Kd.R_alloc|apply Kd.R_drewN|apply Kd.R_drew));exact HO_114001.out) hb);have n2_:=Aside0.mk (Kd.N_lower ho43 (below_size (by repeat (first|(with_reducible first|exact HB.out|apply below_alloc|apply pw_below_drewN|apply below_drew1|refine below_set ?_ GE113.out)|exact HB.out))));have n3_:=Aside0.mk (blk_below (g:=gb113) (o:=.cells #[.int .i64 (rd l0 x4_1),.slice Ao9 y110.length co9] 96 (0,0)) (by (with_reducible repeat (first|refine blk_drewN ?_ _|refine blk_drew ?_|refine blk_alloc ?_ _));exact BK113.out) hb);have n4_:=Aside0.mk (below_step (by repeat (first|(with_reducible first|exact HB.out|apply below_alloc|apply pw_below_drewN|apply below_drew1|refine below_set ?_ GE113.out)|exact HB.out)) hb);clear HO_3;clear HO_114001;clear BK113;clear HB;have HO_3:=n0_;have HO_114001:=n1_;have HO139:=n2_;have BK113:=n3_;have HB:=n4_;clear n0_ n1_ n2_ n3_ n4_;clear hb ho43;have q44 : (x6_2 : Int) ≤ ((x3_1.length : Int) : Int):=of_decide_eq_true (by assumption);obtain ⟨i044,hi044,_,hsz44,_⟩:=info_parts info96;have hroom44 : x3_1.length ≤ co12:=(Kd.N_reads' HO_3.out).2.1;have hC44 : Kd.F k96 _ _ Ao12 x3_1.length x3_1:=(Kd.V_at (base:=w.heap.size) (Kd.N_V HO_3.out)).2.2;have hcut44:=cut_to (P:=Try.prog) 93 96 .i64 Try.underlying93 hi044 Ao12 x3_1.length co12 x6_2 (of_decide_eq_true (by assumption)) q44 hroom44;have hr44:=Kd.F_take (m:=(x6_2 : Int).toNat) hC44 (by omega);have hy44 : y140.length = (x6_2 : Int).toNat:=(by rw [Ny140.out,List.length_take];omega);rw [← Ny140.out] at hr44;rw [← hy44] at hcut44;have HO144:=Aside0.mk (show Kd.V k96 96 _ w.heap.size _ (.slice Ao12 y140.length co12) y140 from Kd.V_mk (by omega) hr44);have HC144:=Aside0.mk (show y140.length ≤ co12 from by omega);clear hr44 hC44 hroom44 hi044 hsz44;have KY44:=Aside0.mk hy44;clear hy44;replace q44:=eq_true q44)|((with_reducible refine gate_builtin (b:=.append) (xs:=#[.tmp 44,.tmp 47]) rfl ?_);at_builtin;refine Kd.N_append_rows k96 (w0:=w) w.heap.size rfl (.tmp 44) (.tmp 47) 93 96 (.agg #[(.int .i64 0),(.slice none 0 0)]) 32 rfl Try.underlying93 info96 rfl (by decide) (by omega) v138 y137 y140 _ _ _ (fun k_ => (w.heap.size ≤ k_)∧some k_ ≠ (.slice Ao9 y110.length co9 : Value).ownBlock∧k_ ≠ gb113) (fun k_ => ((fun k_ => (w.heap.size ≤ k_)∧some k_ ≠ (.slice Ao9 y110.length co9 : Value).ownBlock∧k_ ≠ gb113)) k_∧some k_ ≠ (v138 : Value).ownBlock) rfl rfl ?aO ?aR (fun _ hk => hk) ?aF ?aB ?aS ?aL ?_;(case aR => exact (by skip;exact Kd.V_F (Kd.V_mono (ok':=(fun k_ => ((fun k_ => (w.heap.size ≤ k_)∧some k_ ≠ (.slice Ao9 y110.length co9 : Value).ownBlock∧k_ ≠ gb113)) k_∧some k_ ≠ (v138 : Value).ownBlock)) (HO144.out) (fun k_ hk => ⟨⟨hk.1.1,⟨hk.1.2.1,hk.1.2.2⟩⟩,hk.2⟩))));(case aB => exact (by repeat (first|(with_reducible first|exact HB.out|apply below_alloc|apply pw_below_drewN|apply below_drew1|refine below_set ?_ GE113.out)|exact HB.out)));(case aF => exact (fun k_ hk => ⟨(Nat.le_trans (below_size (by repeat (first|(with_reducible first|exact HB.out|apply below_alloc|apply pw_below_drewN|apply below_drew1|refine below_set ?_ GE113.out)|exact HB.out))) hk),Kd.fresh' (Kd.R_lt (by (with_reducible repeat (first|apply Kd.R_alloc|apply Kd.R_drewN|apply Kd.R_drew));exact HO_114001.out)) k_ hk,Kd.freshB (g:=gb113) (o:=.cells #[.int .i64 (rd l0 x4_1),.slice Ao9 y110.length co9] 96 (0,0)) (by (with_reducible repeat (first|refine blk_drewN ?_ _|refine blk_drew ?_|refine blk_alloc ?_ _));exact BK113.out) k_ hk⟩));(case aO => exact (by (with_reducible repeat (first|apply Kd.N_alloc|apply Kd.N_drewN|apply Kd.N_drew));exact Kd.N_mono HO139.out (fun _ hk => ⟨hk.1,⟨hk.2.2.1,hk.2.2.2⟩⟩)));(case aS => exact (below_size (by repeat (first|(with_reducible first|exact HB.out|apply below_alloc|apply pw_below_drewN|apply below_drew1|refine below_set ?_ GE113.out)|exact HB.out))));(case aL => have:=LMc37.out;omega);intro v146 w45 ho hb hg hat;rw [← Ny145.out] at ho;have n0_:=Aside0.mk (Kd.N_afterv (ok:=(fun k_ => (w.heap.size ≤ k_)∧some k_ ≠ (.slice Ao9 y110.length co9 : Value).ownBlock∧k_ ≠ gb113)) (by (with_reducible repeat (first|apply Kd.N_alloc|apply Kd.N_drewN|apply Kd.N_drew));exact HO_3.out) hg hat);have n1_:=Aside0.mk (Kd.R_over' (by (with_reducible repeat (first|apply Kd.R_alloc|apply Kd.R_drewN|apply Kd.R_drew));exact HO_114001.out) (Kd.N_typed (by (with_reducible repeat (first|apply Kd.N_alloc|apply Kd.N_drewN|apply Kd.N_drew));exact HO139.out)) (by decide) hg);have n2_:=Aside0.mk (blk_grown (g:=gb113) (o:=.cells #[.int .i64 (rd l0 x4_1),.slice Ao9 y110.length co9] 96 (0,0)) (by (with_reducible repeat (first|refine blk_drewN ?_ _|refine blk_drew ?_|refine blk_alloc ?_ _));exact BK113.out) hg (Kd.N_away HO139.out (fun _ hk => hk.2.2.2)));have n3_:=Aside0.mk (Kd.V_afterv (ok:=(fun k_ => (w.heap.size ≤ k_)∧some k_ ≠ (.slice Ao9 y110.length co9 : Value).ownBlock∧k_ ≠ gb113)) (by (with_reducible repeat (first|apply Kd.V_alloc|apply Kd.V_drewN|apply Kd.V_drew));exact HO144.out) hg hat);have n4_:=Aside0.mk (hb);have n5_:=Aside0.mk (ho);clear HO_3;clear HO_114001;clear BK113;clear HO144;clear HB;clear HO139;have HO_3:=n0_;have HO_114001:=n1_;have BK113:=n2_;have HO144:=n3_;have HB:=n4_;have HO147:=n5_;clear n0_ n1_ n2_ n3_ n4_ n5_;clear ho hb hg hat;have hcz46_0 : w45.cell? ⟨gb113,0,none⟩ = some (.int .i64 (rd l0 x4_1)):=(blk_cell BK113.out 0).trans rfl;have hcz46_1 : w45.cell? ⟨gb113,1,none⟩ = some (.slice Ao9 y110.length co9):=(blk_cell BK113.out 1).trans rfl;have hfz46_0:=blk_frozen BK113.out 0;have hfz46_1:=blk_frozen BK113.out 1)|((with_reducible refine gate_builtin (b:=.append) (xs:=#[.tmp 49,.tmp 51]) rfl ?_);at_builtin;refine Kd.N_append k96 (w0:=w) w.heap.size rfl (.tmp 49) (.tmp 51) 93 96 (.agg #[(.int .i64 0),(.slice none 0 0)]) 32 rfl Try.underlying93 info96 rfl (by decide) (by omega) v146 y145 (⟨(rd l0 x4_1),y110⟩ : S96) [.int .i64 (rd l0 x4_1),.slice Ao9 y110.length co9] (fun k_ => (w.heap.size ≤ k_)∧k_ ≠ gb113) (fun k_ => ((fun k_ => (w.heap.size ≤ k_)∧k_ ≠ gb113)) k_∧some k_ ≠ (v146 : Value).ownBlock) rfl rfl ?aP (fun _ hk => hk) ?aF ?aO ?aB ?aS ?aL ?_;(case aP => exact (k96_mkF _ _ (⟨(rd l0 x4_1),y110⟩ : S96) (Kd.R_reads' (Kd.R_mono (ok':=(fun k_ => ((fun k_ => (w.heap.size ≤ k_)∧k_ ≠ gb113)) k_∧some k_ ≠ (v146 : Value).ownBlock)) (Kd.R_types (Kd.R_apart' (HO_114001.out) (Kd.N_typed HO147.out) (by decide)) BK113.out (by decide)) (fun k_ hk => ⟨⟨hk.1.1,hk.2⟩,hk.1.2⟩))).2.1 (Kd.R_F (Kd.R_mono (ok':=(fun k_ => ((fun k_ => (w.heap.size ≤ k_)∧k_ ≠ gb113)) k_∧some k_ ≠ (v146 : Value).ownBlock)) (Kd.R_types (Kd.R_apart' (HO_114001.out) (Kd.N_typed HO147.out) (by decide)) BK113.out (by decide)) (fun k_ hk => ⟨⟨hk.1.1,hk.2⟩,hk.1.2⟩)))));(case aB => exact (by repeat (first|(with_reducible first|exact HB.out|apply below_alloc|apply pw_below_drewN|apply below_drew1|refine below_set ?_ GE113.out)|exact HB.out)));(case aF => exact (fun k_ hk => ⟨(Nat.le_trans (below_size (by repeat (first|(with_reducible first|exact HB.out|apply below_alloc|apply pw_below_drewN|apply below_drew1|refine below_set ?_ GE113.out)|exact HB.out))) hk),Kd.freshB (g:=gb113) (o:=.cells #[.int .i64 (rd l0 x4_1),.slice Ao9 y110.length co9] 96 (0,0)) (by (with_reducible repeat (first|refine blk_drewN ?_ _|refine blk_drew ?_|refine blk_alloc ?_ _));exact BK113.out) k_ hk⟩));(case aO => exact (by (with_reducible repeat (first|apply Kd.N_alloc|apply Kd.N_drewN|apply Kd.N_drew));exact Kd.N_mono HO147.out (fun _ hk => ⟨hk.1,hk.2.2⟩)));(case aS => exact (below_size (by repeat (first|(with_reducible first|exact HB.out|apply below_alloc|apply pw_below_drewN|apply below_drew1|refine below_set ?_ GE113.out)|exact HB.out))));(case aL => have:=LMc38.out;omega);intro v149 w47 ho hb hg hat;rw [← Ny148.out] at ho;have n0_:=Aside0.mk (Kd.N_afterv (ok:=(fun k_ => (w.heap.size ≤ k_)∧some k_ ≠ (.slice Ao9 y110.length co9 : Value).ownBlock∧k_ ≠ gb113)) (by (with_reducible repeat (first|apply Kd.N_alloc|apply Kd.N_drewN|apply Kd.N_drew));exact HO_3.out) hg hat);have n1_:=Aside0.mk (blk_grown (g:=gb113) (o:=.cells #[.int .i64 (rd l0 x4_1),.slice Ao9 y110.length co9] 96 (0,0)) (by (with_reducible repeat (first|refine blk_drewN ?_ _|refine blk_drew ?_|refine blk_alloc ?_ _));exact BK113.out) hg (Kd.N_away HO147.out (fun _ hk => hk.2.2)));have n2_:=Aside0.mk (Kd.V_afterv (ok:=(fun k_ => (w.heap.size ≤ k_)∧some k_ ≠ (.slice Ao9 y110.length co9 : Value).ownBlock∧k_ ≠ gb113)) (by (with_reducible repeat (first|apply Kd.V_alloc|apply Kd.V_drewN|apply Kd.V_drew));exact HO144.out) hg hat);have n3_:=Aside0.mk (hb);have n4_:=Aside0.mk (ho);clear HO_3;clear BK113;clear HO144;clear HB;clear HO147;clear HO_114001;have HO_3:=n0_;have BK113:=n1_;have HO144:=n2_;have HB:=n3_;have HO150:=n4_;clear n0_ n1_ n2_ n3_ n4_;clear ho hb hg hat;have q48 : (x6_2 : Int) ≤ ((x3_1.length : Int) : Int):=of_decide_eq_true (by assumption);obtain ⟨i048,hi048,_,hsz48,_⟩:=info_parts info96;have hroom48 : x3_1.length ≤ co12:=(Kd.N_reads' HO_3.out).2.1;have hC48 : Kd.F k96 _ _ Ao12 x3_1.length x3_1:=(Kd.V_at (base:=w.heap.size) (Kd.N_V HO_3.out)).2.2;have q048 : (0 : Int) ≤ (x6_2 : Int):=of_decide_eq_true (by assumption);have hcut48:=cut_from (P:=Try.prog) 93 96 .i64 Try.underlying93 hi048 2 hsz48 Ao12 x3_1.length co12 x6_2 q048 q48;have hr48:=Kd.F_cut (m:=(x6_2 : Int).toNat) (c:=co12) hC48 (by omega) hroom48;obtain ⟨A48,hA48⟩ : ∃ A1,A1 = (if co12 = (x6_2 : Int).toNat then Ao12 else (Ao12 : Option Addr).map (·.add ((x6_2 : Int).toNat * 2))):=⟨_,rfl⟩;obtain ⟨c48,hc48⟩ : ∃ c1,c1 = co12 - (x6_2 : Int).toNat:=⟨_,rfl⟩;have hy48 : y151.length = x3_1.length - (x6_2 : Int).toNat:=(by rw [Ny151.out,List.length_drop] <;> omega);rw [show (x3_1).drop (x6_2 : Int).toNat = y151 from Ny151.out.symm] at hr48;replace hr48 : Kd.F k96 _ _ A48 y151.length y151:=(by rw [hA48];exact hr48);rw [← hy48,← hA48,← hc48] at hcut48;have HO155:=Aside0.mk (show Kd.V k96 96 _ w.heap.size _ (.slice A48 y151.length c48) y151 from Kd.V_mk (by rw [hy48,hc48];exact Nat.sub_le_sub_right hroom48 _) hr48);have HC155:=Aside0.mk (show y151.length ≤ c48 from by rw [hy48,hc48];exact Nat.sub_le_sub_right hroom48 _);clear hr48 hC48 hroom48 hi048 hsz48 hc48;have KY48:=Aside0.mk hy48;have KA48:=Aside0.mk hA48;clear hy48 hA48;replace q48:=eq_true q48)|((with_reducible refine gate_builtin (b:=.append) (xs:=#[.tmp 53,.tmp 56]) rfl ?_);at_builtin;refine Kd.N_append_rows k96 (w0:=w) w.heap.size rfl (.tmp 53) (.tmp 56) 93 96 (.agg #[(.int .i64 0),(.slice none 0 0)]) 32 rfl Try.underlying93 info96 rfl (by decide) (by omega) v149 y148 y151 _ _ _ (fun k_ => (w.heap.size ≤ k_)∧k_ ≠ gb113) (fun k_ => ((fun k_ => (w.heap.size ≤ k_)∧k_ ≠ gb113)) k_∧some k_ ≠ (v149 : Value).ownBlock) rfl rfl ?aO ?aR (fun _ hk => hk) ?aF ?aB ?aS ?aL ?_;(case aR => exact (by skip;exact Kd.V_F (Kd.V_mono (ok':=(fun k_ => ((fun k_ => (w.heap.size ≤ k_)∧k_ ≠ gb113)) k_∧some k_ ≠ (v149 : Value).ownBlock)) (HO155.out) (fun k_ hk => ⟨⟨hk.1.1,hk.1.2.2⟩,hk.2⟩))));(case aB => exact (by repeat (first|(with_reducible first|exact HB.out|apply below_alloc|apply pw_below_drewN|apply below_drew1|refine below_set ?_ GE113.out)|exact HB.out)));(case aF => exact (fun k_ hk => ⟨(Nat.le_trans (below_size (by repeat (first|(with_reducible first|exact HB.out|apply below_alloc|apply pw_below_drewN|apply below_drew1|refine below_set ?_ GE113.out)|exact HB.out))) hk),Kd.freshB (g:=gb113) (o:=.cells #[.int .i64 (rd l0 x4_1),.slice Ao9 y110.length co9] 96 (0,0)) (by (with_reducible repeat (first|refine blk_drewN ?_ _|refine blk_drew ?_|refine blk_alloc ?_ _));exact BK113.out) k_ hk⟩));(case aO => exact (by (with_reducible repeat (first|apply Kd.N_alloc|apply Kd.N_drewN|apply Kd.N_drew));exact HO150.out));(case aS => exact (below_size (by repeat (first|(with_reducible first|exact HB.out|apply below_alloc|apply pw_below_drewN|apply below_drew1|refine below_set ?_ GE113.out)|exact HB.out))));(case aL => have:=LMc41.out;omega);intro v157 w49 ho hb hg hat;rw [← Ny156.out] at ho;have n0_:=Aside0.mk (Kd.N_afterv (ok:=(fun k_ => (w.heap.size ≤ k_)∧k_ ≠ gb113)) (by (with_reducible repeat (first|apply Kd.N_alloc|apply Kd.N_drewN|apply Kd.N_drew));exact Kd.N_mono HO_3.out (fun _ hk => ⟨⟨hk.1.1,hk.1.2.2⟩,hk.2⟩)) hg hat);have n1_:=Aside0.mk (blk_grown (g:=gb113) (o:=.cells #[.int .i64 (rd l0 x4_1),.slice Ao9 y110.length co9] 96 (0,0)) (by (with_reducible repeat (first|refine blk_drewN ?_ _|refine blk_drew ?_|refine blk_alloc ?_ _));exact BK113.out) hg (Kd.N_away HO150.out (fun _ hk => hk.2)));have n2_:=Aside0.mk (Kd.V_afterv (ok:=(fun k_ => (w.heap.size ≤ k_)∧k_ ≠ gb113)) (by (with_reducible repeat (first|apply Kd.V_alloc|apply Kd.V_drewN|apply Kd.V_drew));exact Kd.V_mono HO144.out (fun _ hk => ⟨⟨hk.1.1,hk.1.2.2⟩,hk.2⟩)) hg hat);have n3_:=Aside0.mk (Kd.V_afterv (ok:=(fun k_ => (w.heap.size ≤ k_)∧k_ ≠ gb113)) (by (with_reducible repeat (first|apply Kd.V_alloc|apply Kd.V_drewN|apply Kd.V_drew));exact Kd.V_mono HO155.out (fun _ hk => ⟨⟨hk.1.1,hk.1.2.2⟩,hk.2⟩)) hg hat);have n4_:=Aside0.mk (hb);have n5_:=Aside0.mk (ho);clear HO_3;clear BK113;clear HO144;clear HO155;clear HB;clear HO150;have HO_3:=n0_;have BK113:=n1_;have HO144:=n2_;have HO155:=n3_;have HB:=n4_;have HO158:=n5_;clear n0_ n1_ n2_ n3_ n4_ n5_;clear ho hb hg hat))
      repeat (go_quiet (first|((with_reducible refine gate_dst (N:=44) rfl ?_);refine Kd.N_lit k96 _ 96 ?hg (N':=44) ?hd (xs:=([] : List (S96))) (inner:=[]) (ok:=(fun k_ => (w.heap.size ≤ k_)∧some k_ ≠ (.slice Ao12 x3_1.length co12 : Value).ownBlock∧some k_ ≠ (.slice Ao9 y110.length co9 : Value).ownBlock∧k_ ≠ gb113)) (okp:=(fun k_ => (w.heap.size ≤ k_)∧some k_ ≠ (.slice Ao12 x3_1.length co12 : Value).ownBlock∧some k_ ≠ (.slice Ao9 y110.length co9 : Value).ownBlock∧k_ ≠ gb113)) ?hr ?hp (fun _ hk => hk) ((show ∀ k_,wr.heap.size ≤ k_ → (fun k_ => (w.heap.size ≤ k_)∧some k_ ≠ (.slice Ao12 x3_1.length co12 : Value).ownBlock∧some k_ ≠ (.slice Ao9 y110.length co9 : Value).ownBlock∧k_ ≠ gb113) k_ from fun k_ hk => ⟨(Nat.le_trans (below_size (by repeat (first|(with_reducible first|exact HB.out|apply below_alloc|apply pw_below_drewN|apply below_drew1|refine below_set ?_ GE113.out)|exact HB.out))) hk),Kd.fresh' (Kd.N_lt (by (with_reducible repeat (first|apply Kd.N_alloc|apply Kd.N_drewN|apply Kd.N_drew));exact HO_3.out)) k_ hk,Kd.fresh' (Kd.R_lt (by (with_reducible repeat (first|apply Kd.R_alloc|apply Kd.R_drewN|apply Kd.R_drew));exact HO_114001.out)) k_ hk,Kd.freshB (g:=gb113) (o:=.cells #[.int .i64 (rd l0 x4_1),.slice Ao9 y110.length co9] 96 (0,0)) (by (with_reducible repeat (first|refine blk_drewN ?_ _|refine blk_drew ?_|refine blk_alloc ?_ _));exact BK113.out) k_ hk⟩) _ (Nat.le_refl _)) (Below.refl _ _) (Nat.le_refl _) (by simp) ?_;(case hd => rfl);(case hg => rfl);(case hr => first|(go_simp;done)|(go_simp;rfl));(case hp => exact (Reps.none _ _));intro v138 w42 ho43 hb hg_ hnew_;clear hg_ hnew_;(first|rw [← Ny137.out] at ho43|(simp only [Int.reduceToNat] at ho43;rw [← Ny137.out] at ho43));have n0_:=Aside0.mk (Kd.N_elder' (by (with_reducible repeat (first|apply Kd.N_alloc|apply Kd.N_drewN|apply Kd.N_drew));exact HO_3.out) (Kd.N_base ho43) hb);have n1_:=Aside0.mk (Kd.R_below (by (with_reducible repeat (first|apply Kd.R_alloc|apply Kd.R_drewN|apply Kd.R_drew));exact HO_114001.out) hb);have n2_:=Aside0.mk (Kd.N_lower ho43 (below_size (by repeat (first|(with_reducible first|exact HB.out|apply below_alloc|apply pw_below_drewN|apply below_drew1|refine below_set ?_ GE113.out)|exact HB.out))));have n3_:=Aside0.mk (blk_below (g:=gb113) (o:=.cells #[.int .i64 (rd l0 x4_1),.slice Ao9 y110.length co9] 96 (0,0)) (by (with_reducible repeat (first|refine blk_drewN ?_ _|refine blk_drew ?_|refine blk_alloc ?_ _));exact BK113.out) hb);have n4_:=Aside0.mk (below_step (by repeat (first|(with_reducible first|exact HB.out|apply below_alloc|apply pw_below_drewN|apply below_drew1|refine below_set ?_ GE113.out)|exact HB.out)) hb);clear HO_3;clear HO_114001;clear BK113;clear HB;have HO_3:=n0_;have HO_114001:=n1_;have HO139:=n2_;have BK113:=n3_;have HB:=n4_;clear n0_ n1_ n2_ n3_ n4_;clear hb ho43;have q44 : (x6_2 : Int) ≤ ((x3_1.length : Int) : Int):=of_decide_eq_true (by assumption);obtain ⟨i044,hi044,_,hsz44,_⟩:=info_parts info96;have hroom44 : x3_1.length ≤ co12:=(Kd.N_reads' HO_3.out).2.1;have hC44 : Kd.F k96 _ _ Ao12 x3_1.length x3_1:=(Kd.V_at (base:=w.heap.size) (Kd.N_V HO_3.out)).2.2;have hcut44:=cut_to (P:=Try.prog) 93 96 .i64 Try.underlying93 hi044 Ao12 x3_1.length co12 x6_2 (of_decide_eq_true (by assumption)) q44 hroom44;have hr44:=Kd.F_take (m:=(x6_2 : Int).toNat) hC44 (by omega);have hy44 : y140.length = (x6_2 : Int).toNat:=(by rw [Ny140.out,List.length_take];omega);rw [← Ny140.out] at hr44;rw [← hy44] at hcut44;have HO144:=Aside0.mk (show Kd.V k96 96 _ w.heap.size _ (.slice Ao12 y140.length co12) y140 from Kd.V_mk (by omega) hr44);have HC144:=Aside0.mk (show y140.length ≤ co12 from by omega);clear hr44 hC44 hroom44 hi044 hsz44;have KY44:=Aside0.mk hy44;clear hy44;replace q44:=eq_true q44)|((with_reducible refine gate_builtin (b:=.append) (xs:=#[.tmp 44,.tmp 47]) rfl ?_);at_builtin;refine Kd.N_append_rows k96 (w0:=w) w.heap.size rfl (.tmp 44) (.tmp 47) 93 96 (.agg #[(.int .i64 0),(.slice none 0 0)]) 32 rfl Try.underlying93 info96 rfl (by decide) (by omega) v138 y137 y140 _ _ _ (fun k_ => (w.heap.size ≤ k_)∧some k_ ≠ (.slice Ao9 y110.length co9 : Value).ownBlock∧k_ ≠ gb113) (fun k_ => ((fun k_ => (w.heap.size ≤ k_)∧some k_ ≠ (.slice Ao9 y110.length co9 : Value).ownBlock∧k_ ≠ gb113)) k_∧some k_ ≠ (v138 : Value).ownBlock) rfl rfl ?aO ?aR (fun _ hk => hk) ?aF ?aB ?aS ?aL ?_;(case aR => exact (by skip;exact Kd.V_F (Kd.V_mono (ok':=(fun k_ => ((fun k_ => (w.heap.size ≤ k_)∧some k_ ≠ (.slice Ao9 y110.length co9 : Value).ownBlock∧k_ ≠ gb113)) k_∧some k_ ≠ (v138 : Value).ownBlock)) (HO144.out) (fun k_ hk => ⟨⟨hk.1.1,⟨hk.1.2.1,hk.1.2.2⟩⟩,hk.2⟩))));(case aB => exact (by repeat (first|(with_reducible first|exact HB.out|apply below_alloc|apply pw_below_drewN|apply below_drew1|refine below_set ?_ GE113.out)|exact HB.out)));(case aF => exact (fun k_ hk => ⟨(Nat.le_trans (below_size (by repeat (first|(with_reducible first|exact HB.out|apply below_alloc|apply pw_below_drewN|apply below_drew1|refine below_set ?_ GE113.out)|exact HB.out))) hk),Kd.fresh' (Kd.R_lt (by (with_reducible repeat (first|apply Kd.R_alloc|apply Kd.R_drewN|apply Kd.R_drew));exact HO_114001.out)) k_ hk,Kd.freshB (g:=gb113) (o:=.cells #[.int .i64 (rd l0 x4_1),.slice Ao9 y110.length co9] 96 (0,0)) (by (with_reducible repeat (first|refine blk_drewN ?_ _|refine blk_drew ?_|refine blk_alloc ?_ _));exact BK113.out) k_ hk⟩));(case aO => exact (by (with_reducible repeat (first|apply Kd.N_alloc|apply Kd.N_drewN|apply Kd.N_drew));exact Kd.N_mono HO139.out (fun _ hk => ⟨hk.1,⟨hk.2.2.1,hk.2.2.2⟩⟩)));(case aS => exact (below_size (by repeat (first|(with_reducible first|exact HB.out|apply below_alloc|apply pw_below_drewN|apply below_drew1|refine below_set ?_ GE113.out)|exact HB.out))));(case aL => have:=LMc37.out;omega);intro v146 w45 ho hb hg hat;rw [← Ny145.out] at ho;have n0_:=Aside0.mk (Kd.N_afterv (ok:=(fun k_ => (w.heap.size ≤ k_)∧some k_ ≠ (.slice Ao9 y110.length co9 : Value).ownBlock∧k_ ≠ gb113)) (by (with_reducible repeat (first|apply Kd.N_alloc|apply Kd.N_drewN|apply Kd.N_drew));exact HO_3.out) hg hat);have n1_:=Aside0.mk (Kd.R_over' (by (with_reducible repeat (first|apply Kd.R_alloc|apply Kd.R_drewN|apply Kd.R_drew));exact HO_114001.out) (Kd.N_typed (by (with_reducible repeat (first|apply Kd.N_alloc|apply Kd.N_drewN|apply Kd.N_drew));exact HO139.out)) (by decide) hg);have n2_:=Aside0.mk (blk_grown (g:=gb113) (o:=.cells #[.int .i64 (rd l0 x4_1),.slice Ao9 y110.length co9] 96 (0,0)) (by (with_reducible repeat (first|refine blk_drewN ?_ _|refine blk_drew ?_|refine blk_alloc ?_ _));exact BK113.out) hg (Kd.N_away HO139.out (fun _ hk => hk.2.2.2)));have n3_:=Aside0.mk (Kd.V_afterv (ok:=(fun k_ => (w.heap.size ≤ k_)∧some k_ ≠ (.slice Ao9 y110.length co9 : Value).ownBlock∧k_ ≠ gb113)) (by (with_reducible repeat (first|apply Kd.V_alloc|apply Kd.V_drewN|apply Kd.V_drew));exact HO144.out) hg hat);have n4_:=Aside0.mk (hb);have n5_:=Aside0.mk (ho);clear HO_3;clear HO_114001;clear BK113;clear HO144;clear HB;clear HO139;have HO_3:=n0_;have HO_114001:=n1_;have BK113:=n2_;have HO144:=n3_;have HB:=n4_;have HO147:=n5_;clear n0_ n1_ n2_ n3_ n4_ n5_;clear ho hb hg hat;have hcz46_0 : w45.cell? ⟨gb113,0,none⟩ = some (.int .i64 (rd l0 x4_1)):=(blk_cell BK113.out 0).trans rfl;have hcz46_1 : w45.cell? ⟨gb113,1,none⟩ = some (.slice Ao9 y110.length co9):=(blk_cell BK113.out 1).trans rfl;have hfz46_0:=blk_frozen BK113.out 0;have hfz46_1:=blk_frozen BK113.out 1)|((with_reducible refine gate_builtin (b:=.append) (xs:=#[.tmp 49,.tmp 51]) rfl ?_);at_builtin;refine Kd.N_append k96 (w0:=w) w.heap.size rfl (.tmp 49) (.tmp 51) 93 96 (.agg #[(.int .i64 0),(.slice none 0 0)]) 32 rfl Try.underlying93 info96 rfl (by decide) (by omega) v146 y145 (⟨(rd l0 x4_1),y110⟩ : S96) [.int .i64 (rd l0 x4_1),.slice Ao9 y110.length co9] (fun k_ => (w.heap.size ≤ k_)∧k_ ≠ gb113) (fun k_ => ((fun k_ => (w.heap.size ≤ k_)∧k_ ≠ gb113)) k_∧some k_ ≠ (v146 : Value).ownBlock) rfl rfl ?aP (fun _ hk => hk) ?aF ?aO ?aB ?aS ?aL ?_;(case aP => exact (k96_mkF _ _ (⟨(rd l0 x4_1),y110⟩ : S96) (Kd.R_reads' (Kd.R_mono (ok':=(fun k_ => ((fun k_ => (w.heap.size ≤ k_)∧k_ ≠ gb113)) k_∧some k_ ≠ (v146 : Value).ownBlock)) (Kd.R_types (Kd.R_apart' (HO_114001.out) (Kd.N_typed HO147.out) (by decide)) BK113.out (by decide)) (fun k_ hk => ⟨⟨hk.1.1,hk.2⟩,hk.1.2⟩))).2.1 (Kd.R_F (Kd.R_mono (ok':=(fun k_ => ((fun k_ => (w.heap.size ≤ k_)∧k_ ≠ gb113)) k_∧some k_ ≠ (v146 : Value).ownBlock)) (Kd.R_types (Kd.R_apart' (HO_114001.out) (Kd.N_typed HO147.out) (by decide)) BK113.out (by decide)) (fun k_ hk => ⟨⟨hk.1.1,hk.2⟩,hk.1.2⟩)))));(case aB => exact (by repeat (first|(with_reducible first|exact HB.out|apply below_alloc|apply pw_below_drewN|apply below_drew1|refine below_set ?_ GE113.out)|exact HB.out)));(case aF => exact (fun k_ hk => ⟨(Nat.le_trans (below_size (by repeat (first|(with_reducible first|exact HB.out|apply below_alloc|apply pw_below_drewN|apply below_drew1|refine below_set ?_ GE113.out)|exact HB.out))) hk),Kd.freshB (g:=gb113) (o:=.cells #[.int .i64 (rd l0 x4_1),.slice Ao9 y110.length co9] 96 (0,0)) (by (with_reducible repeat (first|refine blk_drewN ?_ _|refine blk_drew ?_|refine blk_alloc ?_ _));exact BK113.out) k_ hk⟩));(case aO => exact (by (with_reducible repeat (first|apply Kd.N_alloc|apply Kd.N_drewN|apply Kd.N_drew));exact Kd.N_mono HO147.out (fun _ hk => ⟨hk.1,hk.2.2⟩)));(case aS => exact (below_size (by repeat (first|(with_reducible first|exact HB.out|apply below_alloc|apply pw_below_drewN|apply below_drew1|refine below_set ?_ GE113.out)|exact HB.out))));(case aL => have:=LMc38.out;omega);intro v149 w47 ho hb hg hat;rw [← Ny148.out] at ho;have n0_:=Aside0.mk (Kd.N_afterv (ok:=(fun k_ => (w.heap.size ≤ k_)∧some k_ ≠ (.slice Ao9 y110.length co9 : Value).ownBlock∧k_ ≠ gb113)) (by (with_reducible repeat (first|apply Kd.N_alloc|apply Kd.N_drewN|apply Kd.N_drew));exact HO_3.out) hg hat);have n1_:=Aside0.mk (blk_grown (g:=gb113) (o:=.cells #[.int .i64 (rd l0 x4_1),.slice Ao9 y110.length co9] 96 (0,0)) (by (with_reducible repeat (first|refine blk_drewN ?_ _|refine blk_drew ?_|refine blk_alloc ?_ _));exact BK113.out) hg (Kd.N_away HO147.out (fun _ hk => hk.2.2)));have n2_:=Aside0.mk (Kd.V_afterv (ok:=(fun k_ => (w.heap.size ≤ k_)∧some k_ ≠ (.slice Ao9 y110.length co9 : Value).ownBlock∧k_ ≠ gb113)) (by (with_reducible repeat (first|apply Kd.V_alloc|apply Kd.V_drewN|apply Kd.V_drew));exact HO144.out) hg hat);have n3_:=Aside0.mk (hb);have n4_:=Aside0.mk (ho);clear HO_3;clear BK113;clear HO144;clear HB;clear HO147;clear HO_114001;have HO_3:=n0_;have BK113:=n1_;have HO144:=n2_;have HB:=n3_;have HO150:=n4_;clear n0_ n1_ n2_ n3_ n4_;clear ho hb hg hat;have q48 : (x6_2 : Int) ≤ ((x3_1.length : Int) : Int):=of_decide_eq_true (by assumption);obtain ⟨i048,hi048,_,hsz48,_⟩:=info_parts info96;have hroom48 : x3_1.length ≤ co12:=(Kd.N_reads' HO_3.out).2.1;have hC48 : Kd.F k96 _ _ Ao12 x3_1.length x3_1:=(Kd.V_at (base:=w.heap.size) (Kd.N_V HO_3.out)).2.2;have q048 : (0 : Int) ≤ (x6_2 : Int):=of_decide_eq_true (by assumption);have hcut48:=cut_from (P:=Try.prog) 93 96 .i64 Try.underlying93 hi048 2 hsz48 Ao12 x3_1.length co12 x6_2 q048 q48;have hr48:=Kd.F_cut (m:=(x6_2 : Int).toNat) (c:=co12) hC48 (by omega) hroom48;obtain ⟨A48,hA48⟩ : ∃ A1,A1 = (if co12 = (x6_2 : Int).toNat then Ao12 else (Ao12 : Option Addr).map (·.add ((x6_2 : Int).toNat * 2))):=⟨_,rfl⟩;obtain ⟨c48,hc48⟩ : ∃ c1,c1 = co12 - (x6_2 : Int).toNat:=⟨_,rfl⟩;have hy48 : y151.length = x3_1.length - (x6_2 : Int).toNat:=(by rw [Ny151.out,List.length_drop] <;> omega);rw [show (x3_1).drop (x6_2 : Int).toNat = y151 from Ny151.out.symm] at hr48;replace hr48 : Kd.F k96 _ _ A48 y151.length y151:=(by rw [hA48];exact hr48);rw [← hy48,← hA48,← hc48] at hcut48;have HO155:=Aside0.mk (show Kd.V k96 96 _ w.heap.size _ (.slice A48 y151.length c48) y151 from Kd.V_mk (by rw [hy48,hc48];exact Nat.sub_le_sub_right hroom48 _) hr48);have HC155:=Aside0.mk (show y151.length ≤ c48 from by rw [hy48,hc48];exact Nat.sub_le_sub_right hroom48 _);clear hr48 hC48 hroom48 hi048 hsz48 hc48;have KY48:=Aside0.mk hy48;have KA48:=Aside0.mk hA48;clear hy48 hA48;replace q48:=eq_true q48)|((with_reducible refine gate_builtin (b:=.append) (xs:=#[.tmp 53,.tmp 56]) rfl ?_);at_builtin;refine Kd.N_append_rows k96 (w0:=w) w.heap.size rfl (.tmp 53) (.tmp 56) 93 96 (.agg #[(.int .i64 0),(.slice none 0 0)]) 32 rfl Try.underlying93 info96 rfl (by decide) (by omega) v149 y148 y151 _ _ _ (fun k_ => (w.heap.size ≤ k_)∧k_ ≠ gb113) (fun k_ => ((fun k_ => (w.heap.size ≤ k_)∧k_ ≠ gb113)) k_∧some k_ ≠ (v149 : Value).ownBlock) rfl rfl ?aO ?aR (fun _ hk => hk) ?aF ?aB ?aS ?aL ?_;(case aR => exact (by skip;exact Kd.V_F (Kd.V_mono (ok':=(fun k_ => ((fun k_ => (w.heap.size ≤ k_)∧k_ ≠ gb113)) k_∧some k_ ≠ (v149 : Value).ownBlock)) (HO155.out) (fun k_ hk => ⟨⟨hk.1.1,hk.1.2.2⟩,hk.2⟩))));(case aB => exact (by repeat (first|(with_reducible first|exact HB.out|apply below_alloc|apply pw_below_drewN|apply below_drew1|refine below_set ?_ GE113.out)|exact HB.out)));(case aF => exact (fun k_ hk => ⟨(Nat.le_trans (below_size (by repeat (first|(with_reducible first|exact HB.out|apply below_alloc|apply pw_below_drewN|apply below_drew1|refine below_set ?_ GE113.out)|exact HB.out))) hk),Kd.freshB (g:=gb113) (o:=.cells #[.int .i64 (rd l0 x4_1),.slice Ao9 y110.length co9] 96 (0,0)) (by (with_reducible repeat (first|refine blk_drewN ?_ _|refine blk_drew ?_|refine blk_alloc ?_ _));exact BK113.out) k_ hk⟩));(case aO => exact (by (with_reducible repeat (first|apply Kd.N_alloc|apply Kd.N_drewN|apply Kd.N_drew));exact HO150.out));(case aS => exact (below_size (by repeat (first|(with_reducible first|exact HB.out|apply below_alloc|apply pw_below_drewN|apply below_drew1|refine below_set ?_ GE113.out)|exact HB.out))));(case aL => have:=LMc41.out;omega);intro v157 w49 ho hb hg hat;rw [← Ny156.out] at ho;have n0_:=Aside0.mk (Kd.N_afterv (ok:=(fun k_ => (w.heap.size ≤ k_)∧k_ ≠ gb113)) (by (with_reducible repeat (first|apply Kd.N_alloc|apply Kd.N_drewN|apply Kd.N_drew));exact Kd.N_mono HO_3.out (fun _ hk => ⟨⟨hk.1.1,hk.1.2.2⟩,hk.2⟩)) hg hat);have n1_:=Aside0.mk (blk_grown (g:=gb113) (o:=.cells #[.int .i64 (rd l0 x4_1),.slice Ao9 y110.length co9] 96 (0,0)) (by (with_reducible repeat (first|refine blk_drewN ?_ _|refine blk_drew ?_|refine blk_alloc ?_ _));exact BK113.out) hg (Kd.N_away HO150.out (fun _ hk => hk.2)));have n2_:=Aside0.mk (Kd.V_afterv (ok:=(fun k_ => (w.heap.size ≤ k_)∧k_ ≠ gb113)) (by (with_reducible repeat (first|apply Kd.V_alloc|apply Kd.V_drewN|apply Kd.V_drew));exact Kd.V_mono HO144.out (fun _ hk => ⟨⟨hk.1.1,hk.1.2.2⟩,hk.2⟩)) hg hat);have n3_:=Aside0.mk (Kd.V_afterv (ok:=(fun k_ => (w.heap.size ≤ k_)∧k_ ≠ gb113)) (by (with_reducible repeat (first|apply Kd.V_alloc|apply Kd.V_drewN|apply Kd.V_drew));exact Kd.V_mono HO155.out (fun _ hk => ⟨⟨hk.1.1,hk.1.2.2⟩,hk.2⟩)) hg hat);have n4_:=Aside0.mk (hb);have n5_:=Aside0.mk (ho);clear HO_3;clear BK113;clear HO144;clear HO155;clear HB;clear HO150;have HO_3:=n0_;have BK113:=n1_;have HO144:=n2_;have HO155:=n3_;have HB:=n4_;have HO158:=n5_;clear n0_ n1_ n2_ n3_ n4_ n5_;clear ho hb hg hat));try go_wp2_with (first|((with_reducible refine gate_dst (N:=44) rfl ?_);refine Kd.N_lit k96 _ 96 ?hg (N':=44) ?hd (xs:=([] : List (S96))) (inner:=[]) (ok:=(fun k_ => (w.heap.size ≤ k_)∧some k_ ≠ (.slice Ao12 x3_1.length co12 : Value).ownBlock∧some k_ ≠ (.slice Ao9 y110.length co9 : Value).ownBlock∧k_ ≠ gb113)) (okp:=(fun k_ => (w.heap.size ≤ k_)∧some k_ ≠ (.slice Ao12 x3_1.length co12 : Value).ownBlock∧some k_ ≠ (.slice Ao9 y110.length co9 : Value).ownBlock∧k_ ≠ gb113)) ?hr ?hp (fun _ hk => hk) ((show ∀ k_,wr.heap.size ≤ k_ → (fun k_ => (w.heap.size ≤ k_)∧some k_ ≠ (.slice Ao12 x3_1.length co12 : Value).ownBlock∧some k_ ≠ (.slice Ao9 y110.length co9 : Value).ownBlock∧k_ ≠ gb113) k_ from fun k_ hk => ⟨(Nat.le_trans (below_size (by repeat (first|(with_reducible first|exact HB.out|apply below_alloc|apply pw_below_drewN|apply below_drew1|refine below_set ?_ GE113.out)|exact HB.out))) hk),Kd.fresh' (Kd.N_lt (by (with_reducible repeat (first|apply Kd.N_alloc|apply Kd.N_drewN|apply Kd.N_drew));exact HO_3.out)) k_ hk,Kd.fresh' (Kd.R_lt (by (with_reducible repeat (first|apply Kd.R_alloc|apply Kd.R_drewN|apply Kd.R_drew));exact HO_114001.out)) k_ hk,Kd.freshB (g:=gb113) (o:=.cells #[.int .i64 (rd l0 x4_1),.slice Ao9 y110.length co9] 96 (0,0)) (by (with_reducible repeat (first|refine blk_drewN ?_ _|refine blk_drew ?_|refine blk_alloc ?_ _));exact BK113.out) k_ hk⟩) _ (Nat.le_refl _)) (Below.refl _ _) (Nat.le_refl _) (by simp) ?_;(case hd => rfl);(case hg => rfl);(case hr => first|(go_simp;done)|(go_simp;rfl));(case hp => exact (Reps.none _ _));intro v138 w42 ho43 hb hg_ hnew_;clear hg_ hnew_;(first|rw [← Ny137.out] at ho43|(simp only [Int.reduceToNat] at ho43;rw [← Ny137.out] at ho43));have n0_:=Aside0.mk (Kd.N_elder' (by (with_reducible repeat (first|apply Kd.N_alloc|apply Kd.N_drewN|apply Kd.N_drew));exact HO_3.out) (Kd.N_base ho43) hb);have n1_:=Aside0.mk (Kd.R_below (by (with_reducible repeat (first|apply Kd.R_alloc|apply Kd.R_drewN|apply Kd.R_drew));exact HO_114001.out) hb);have n2_:=Aside0.mk (Kd.N_lower ho43 (below_size (by repeat (first|(with_reducible first|exact HB.out|apply below_alloc|apply pw_below_drewN|apply below_drew1|refine below_set ?_ GE113.out)|exact HB.out))));have n3_:=Aside0.mk (blk_below (g:=gb113) (o:=.cells #[.int .i64 (rd l0 x4_1),.slice Ao9 y110.length co9] 96 (0,0)) (by (with_reducible repeat (first|refine blk_drewN ?_ _|refine blk_drew ?_|refine blk_alloc ?_ _));exact BK113.out) hb);have n4_:=Aside0.mk (below_step (by repeat (first|(with_reducible first|exact HB.out|apply below_alloc|apply pw_below_drewN|apply below_drew1|refine below_set ?_ GE113.out)|exact HB.out)) hb);clear HO_3;clear HO_114001;clear BK113;clear HB;have HO_3:=n0_;have HO_114001:=n1_;have HO139:=n2_;have BK113:=n3_;have HB:=n4_;clear n0_ n1_ n2_ n3_ n4_;clear hb ho43;have q44 : (x6_2 : Int) ≤ ((x3_1.length : Int) : Int):=of_decide_eq_true (by assumption);obtain ⟨i044,hi044,_,hsz44,_⟩:=info_parts info96;have hroom44 : x3_1.length ≤ co12:=(Kd.N_reads' HO_3.out).2.1;have hC44 : Kd.F k96 _ _ Ao12 x3_1.length x3_1:=(Kd.V_at (base:=w.heap.size) (Kd.N_V HO_3.out)).2.2;have hcut44:=cut_to (P:=Try.prog) 93 96 .i64 Try.underlying93 hi044 Ao12 x3_1.length co12 x6_2 (of_decide_eq_true (by assumption)) q44 hroom44;have hr44:=Kd.F_take (m:=(x6_2 : Int).toNat) hC44 (by omega);have hy44 : y140.length = (x6_2 : Int).toNat:=(by rw [Ny140.out,List.length_take];omega);rw [← Ny140.out] at hr44;rw [← hy44] at hcut44;have HO144:=Aside0.mk (show Kd.V k96 96 _ w.heap.size _ (.slice Ao12 y140.length co12) y140 from Kd.V_mk (by omega) hr44);have HC144:=Aside0.mk (show y140.length ≤ co12 from by omega);clear hr44 hC44 hroom44 hi044 hsz44;have KY44:=Aside0.mk hy44;clear hy44;replace q44:=eq_true q44)|((with_reducible refine gate_builtin (b:=.append) (xs:=#[.tmp 44,.tmp 47]) rfl ?_);at_builtin;refine Kd.N_append_rows k96 (w0:=w) w.heap.size rfl (.tmp 44) (.tmp 47) 93 96 (.agg #[(.int .i64 0),(.slice none 0 0)]) 32 rfl Try.underlying93 info96 rfl (by decide) (by omega) v138 y137 y140 _ _ _ (fun k_ => (w.heap.size ≤ k_)∧some k_ ≠ (.slice Ao9 y110.length co9 : Value).ownBlock∧k_ ≠ gb113) (fun k_ => ((fun k_ => (w.heap.size ≤ k_)∧some k_ ≠ (.slice Ao9 y110.length co9 : Value).ownBlock∧k_ ≠ gb113)) k_∧some k_ ≠ (v138 : Value).ownBlock) rfl rfl ?aO ?aR (fun _ hk => hk) ?aF ?aB ?aS ?aL ?_;(case aR => exact (by skip;exact Kd.V_F (Kd.V_mono (ok':=(fun k_ => ((fun k_ => (w.heap.size ≤ k_)∧some k_ ≠ (.slice Ao9 y110.length co9 : Value).ownBlock∧k_ ≠ gb113)) k_∧some k_ ≠ (v138 : Value).ownBlock)) (HO144.out) (fun k_ hk => ⟨⟨hk.1.1,⟨hk.1.2.1,hk.1.2.2⟩⟩,hk.2⟩))));(case aB => exact (by repeat (first|(with_reducible first|exact HB.out|apply below_alloc|apply pw_below_drewN|apply below_drew1|refine below_set ?_ GE113.out)|exact HB.out)));(case aF => exact (fun k_ hk => ⟨(Nat.le_trans (below_size (by repeat (first|(with_reducible first|exact HB.out|apply below_alloc|apply pw_below_drewN|apply below_drew1|refine below_set ?_ GE113.out)|exact HB.out))) hk),Kd.fresh' (Kd.R_lt (by (with_reducible repeat (first|apply Kd.R_alloc|apply Kd.R_drewN|apply Kd.R_drew));exact HO_114001.out)) k_ hk,Kd.freshB (g:=gb113) (o:=.cells #[.int .i64 (rd l0 x4_1),.slice Ao9 y110.length co9] 96 (0,0)) (by (with_reducible repeat (first|refine blk_drewN ?_ _|refine blk_drew ?_|refine blk_alloc ?_ _));exact BK113.out) k_ hk⟩));(case aO => exact (by (with_reducible repeat (first|apply Kd.N_alloc|apply Kd.N_drewN|apply Kd.N_drew));exact Kd.N_mono HO139.out (fun _ hk => ⟨hk.1,⟨hk.2.2.1,hk.2.2.2⟩⟩)));(case aS => exact (below_size (by repeat (first|(with_reducible first|exact HB.out|apply below_alloc|apply pw_below_drewN|apply below_drew1|refine below_set ?_ GE113.out)|exact HB.out))));(case aL => have:=LMc37.out;omega);intro v146 w45 ho hb hg hat;rw [← Ny145.out] at ho;have n0_:=Aside0.mk (Kd.N_afterv (ok:=(fun k_ => (w.heap.size ≤ k_)∧some k_ ≠ (.slice Ao9 y110.length co9 : Value).ownBlock∧k_ ≠ gb113)) (by (with_reducible repeat (first|apply Kd.N_alloc|apply Kd.N_drewN|apply Kd.N_drew));exact HO_3.out) hg hat);have n1_:=Aside0.mk (Kd.R_over' (by (with_reducible repeat (first|apply Kd.R_alloc|apply Kd.R_drewN|apply Kd.R_drew));exact HO_114001.out) (Kd.N_typed (by (with_reducible repeat (first|apply Kd.N_alloc|apply Kd.N_drewN|apply Kd.N_drew));exact HO139.out)) (by decide) hg);have n2_:=Aside0.mk (blk_grown (g:=gb113) (o:=.cells #[.int .i64 (rd l0 x4_1),.slice Ao9 y110.length co9] 96 (0,0)) (by (with_reducible repeat (first|refine blk_drewN ?_ _|refine blk_drew ?_|refine blk_alloc ?_ _));exact BK113.out) hg (Kd.N_away HO139.out (fun _ hk => hk.2.2.2)));have n3_:=Aside0.mk (Kd.V_afterv (ok:=(fun k_ => (w.heap.size ≤ k_)∧some k_ ≠ (.slice Ao9 y110.length co9 : Value).ownBlock∧k_ ≠ gb113)) (by (with_reducible repeat (first|apply Kd.V_alloc|apply Kd.V_drewN|apply Kd.V_drew));exact HO144.out) hg hat);have n4_:=Aside0.mk (hb);have n5_:=Aside0.mk (ho);clear HO_3;clear HO_114001;clear BK113;clear HO144;clear HB;clear HO139;have HO_3:=n0_;have HO_114001:=n1_;have BK113:=n2_;have HO144:=n3_;have HB:=n4_;have HO147:=n5_;clear n0_ n1_ n2_ n3_ n4_ n5_;clear ho hb hg hat;have hcz46_0 : w45.cell? ⟨gb113,0,none⟩ = some (.int .i64 (rd l0 x4_1)):=(blk_cell BK113.out 0).trans rfl;have hcz46_1 : w45.cell? ⟨gb113,1,none⟩ = some (.slice Ao9 y110.length co9):=(blk_cell BK113.out 1).trans rfl;have hfz46_0:=blk_frozen BK113.out 0;have hfz46_1:=blk_frozen BK113.out 1)|((with_reducible refine gate_builtin (b:=.append) (xs:=#[.tmp 49,.tmp 51]) rfl ?_);at_builtin;refine Kd.N_append k96 (w0:=w) w.heap.size rfl (.tmp 49) (.tmp 51) 93 96 (.agg #[(.int .i64 0),(.slice none 0 0)]) 32 rfl Try.underlying93 info96 rfl (by decide) (by omega) v146 y145 (⟨(rd l0 x4_1),y110⟩ : S96) [.int .i64 (rd l0 x4_1),.slice Ao9 y110.length co9] (fun k_ => (w.heap.size ≤ k_)∧k_ ≠ gb113) (fun k_ => ((fun k_ => (w.heap.size ≤ k_)∧k_ ≠ gb113)) k_∧some k_ ≠ (v146 : Value).ownBlock) rfl rfl ?aP (fun _ hk => hk) ?aF ?aO ?aB ?aS ?aL ?_;(case aP => exact (k96_mkF _ _ (⟨(rd l0 x4_1),y110⟩ : S96) (Kd.R_reads' (Kd.R_mono (ok':=(fun k_ => ((fun k_ => (w.heap.size ≤ k_)∧k_ ≠ gb113)) k_∧some k_ ≠ (v146 : Value).ownBlock)) (Kd.R_types (Kd.R_apart' (HO_114001.out) (Kd.N_typed HO147.out) (by decide)) BK113.out (by decide)) (fun k_ hk => ⟨⟨hk.1.1,hk.2⟩,hk.1.2⟩))).2.1 (Kd.R_F (Kd.R_mono (ok':=(fun k_ => ((fun k_ => (w.heap.size ≤ k_)∧k_ ≠ gb113)) k_∧some k_ ≠ (v146 : Value).ownBlock)) (Kd.R_types (Kd.R_apart' (HO_114001.out) (Kd.N_typed HO147.out) (by decide)) BK113.out (by decide)) (fun k_ hk => ⟨⟨hk.1.1,hk.2⟩,hk.1.2⟩)))));(case aB => exact (by repeat (first|(with_reducible first|exact HB.out|apply below_alloc|apply pw_below_drewN|apply below_drew1|refine below_set ?_ GE113.out)|exact HB.out)));(case aF => exact (fun k_ hk => ⟨(Nat.le_trans (below_size (by repeat (first|(with_reducible first|exact HB.out|apply below_alloc|apply pw_below_drewN|apply below_drew1|refine below_set ?_ GE113.out)|exact HB.out))) hk),Kd.freshB (g:=gb113) (o:=.cells #[.int .i64 (rd l0 x4_1),.slice Ao9 y110.length co9] 96 (0,0)) (by (with_reducible repeat (first|refine blk_drewN ?_ _|refine blk_drew ?_|refine blk_alloc ?_ _));exact BK113.out) k_ hk⟩));(case aO => exact (by (with_reducible repeat (first|apply Kd.N_alloc|apply Kd.N_drewN|apply Kd.N_drew));exact Kd.N_mono HO147.out (fun _ hk => ⟨hk.1,hk.2.2⟩)));(case aS => exact (below_size (by repeat (first|(with_reducible first|exact HB.out|apply below_alloc|apply pw_below_drewN|apply below_drew1|refine below_set ?_ GE113.out)|exact HB.out))));(case aL => have:=LMc38.out;omega);intro v149 w47 ho hb hg hat;rw [← Ny148.out] at ho;have n0_:=Aside0.mk (Kd.N_afterv (ok:=(fun k_ => (w.heap.size ≤ k_)∧some k_ ≠ (.slice Ao9 y110.length co9 : Value).ownBlock∧k_ ≠ gb113)) (by (with_reducible repeat (first|apply Kd.N_alloc|apply Kd.N_drewN|apply Kd.N_drew));exact HO_3.out) hg hat);have n1_:=Aside0.mk (blk_grown (g:=gb113) (o:=.cells #[.int .i64 (rd l0 x4_1),.slice Ao9 y110.length co9] 96 (0,0)) (by (with_reducible repeat (first|refine blk_drewN ?_ _|refine blk_drew ?_|refine blk_alloc ?_ _));exact BK113.out) hg (Kd.N_away HO147.out (fun _ hk => hk.2.2)));have n2_:=Aside0.mk (Kd.V_afterv (ok:=(fun k_ => (w.heap.size ≤ k_)∧some k_ ≠ (.slice Ao9 y110.length co9 : Value).ownBlock∧k_ ≠ gb113)) (by (with_reducible repeat (first|apply Kd.V_alloc|apply Kd.V_drewN|apply Kd.V_drew));exact HO144.out) hg hat);have n3_:=Aside0.mk (hb);have n4_:=Aside0.mk (ho);clear HO_3;clear BK113;clear HO144;clear HB;clear HO147;clear HO_114001;have HO_3:=n0_;have BK113:=n1_;have HO144:=n2_;have HB:=n3_;have HO150:=n4_;clear n0_ n1_ n2_ n3_ n4_;clear ho hb hg hat;have q48 : (x6_2 : Int) ≤ ((x3_1.length : Int) : Int):=of_decide_eq_true (by assumption);obtain ⟨i048,hi048,_,hsz48,_⟩:=info_parts info96;have hroom48 : x3_1.length ≤ co12:=(Kd.N_reads' HO_3.out).2.1;have hC48 : Kd.F k96 _ _ Ao12 x3_1.length x3_1:=(Kd.V_at (base:=w.heap.size) (Kd.N_V HO_3.out)).2.2;have q048 : (0 : Int) ≤ (x6_2 : Int):=of_decide_eq_true (by assumption);have hcut48:=cut_from (P:=Try.prog) 93 96 .i64 Try.underlying93 hi048 2 hsz48 Ao12 x3_1.length co12 x6_2 q048 q48;have hr48:=Kd.F_cut (m:=(x6_2 : Int).toNat) (c:=co12) hC48 (by omega) hroom48;obtain ⟨A48,hA48⟩ : ∃ A1,A1 = (if co12 = (x6_2 : Int).toNat then Ao12 else (Ao12 : Option Addr).map (·.add ((x6_2 : Int).toNat * 2))):=⟨_,rfl⟩;obtain ⟨c48,hc48⟩ : ∃ c1,c1 = co12 - (x6_2 : Int).toNat:=⟨_,rfl⟩;have hy48 : y151.length = x3_1.length - (x6_2 : Int).toNat:=(by rw [Ny151.out,List.length_drop] <;> omega);rw [show (x3_1).drop (x6_2 : Int).toNat = y151 from Ny151.out.symm] at hr48;replace hr48 : Kd.F k96 _ _ A48 y151.length y151:=(by rw [hA48];exact hr48);rw [← hy48,← hA48,← hc48] at hcut48;have HO155:=Aside0.mk (show Kd.V k96 96 _ w.heap.size _ (.slice A48 y151.length c48) y151 from Kd.V_mk (by rw [hy48,hc48];exact Nat.sub_le_sub_right hroom48 _) hr48);have HC155:=Aside0.mk (show y151.length ≤ c48 from by rw [hy48,hc48];exact Nat.sub_le_sub_right hroom48 _);clear hr48 hC48 hroom48 hi048 hsz48 hc48;have KY48:=Aside0.mk hy48;have KA48:=Aside0.mk hA48;clear hy48 hA48;replace q48:=eq_true q48)|((with_reducible refine gate_builtin (b:=.append) (xs:=#[.tmp 53,.tmp 56]) rfl ?_);at_builtin;refine Kd.N_append_rows k96 (w0:=w) w.heap.size rfl (.tmp 53) (.tmp 56) 93 96 (.agg #[(.int .i64 0),(.slice none 0 0)]) 32 rfl Try.underlying93 info96 rfl (by decide) (by omega) v149 y148 y151 _ _ _ (fun k_ => (w.heap.size ≤ k_)∧k_ ≠ gb113) (fun k_ => ((fun k_ => (w.heap.size ≤ k_)∧k_ ≠ gb113)) k_∧some k_ ≠ (v149 : Value).ownBlock) rfl rfl ?aO ?aR (fun _ hk => hk) ?aF ?aB ?aS ?aL ?_;(case aR => exact (by skip;exact Kd.V_F (Kd.V_mono (ok':=(fun k_ => ((fun k_ => (w.heap.size ≤ k_)∧k_ ≠ gb113)) k_∧some k_ ≠ (v149 : Value).ownBlock)) (HO155.out) (fun k_ hk => ⟨⟨hk.1.1,hk.1.2.2⟩,hk.2⟩))));(case aB => exact (by repeat (first|(with_reducible first|exact HB.out|apply below_alloc|apply pw_below_drewN|apply below_drew1|refine below_set ?_ GE113.out)|exact HB.out)));(case aF => exact (fun k_ hk => ⟨(Nat.le_trans (below_size (by repeat (first|(with_reducible first|exact HB.out|apply below_alloc|apply pw_below_drewN|apply below_drew1|refine below_set ?_ GE113.out)|exact HB.out))) hk),Kd.freshB (g:=gb113) (o:=.cells #[.int .i64 (rd l0 x4_1),.slice Ao9 y110.length co9] 96 (0,0)) (by (with_reducible repeat (first|refine blk_drewN ?_ _|refine blk_drew ?_|refine blk_alloc ?_ _));exact BK113.out) k_ hk⟩));(case aO => exact (by (with_reducible repeat (first|apply Kd.N_alloc|apply Kd.N_drewN|apply Kd.N_drew));exact HO150.out));(case aS => exact (below_size (by repeat (first|(with_reducible first|exact HB.out|apply below_alloc|apply pw_below_drewN|apply below_drew1|refine below_set ?_ GE113.out)|exact HB.out))));(case aL => have:=LMc41.out;omega);intro v157 w49 ho hb hg hat;rw [← Ny156.out] at ho;have n0_:=Aside0.mk (Kd.N_afterv (ok:=(fun k_ => (w.heap.size ≤ k_)∧k_ ≠ gb113)) (by (with_reducible repeat (first|apply Kd.N_alloc|apply Kd.N_drewN|apply Kd.N_drew));exact Kd.N_mono HO_3.out (fun _ hk => ⟨⟨hk.1.1,hk.1.2.2⟩,hk.2⟩)) hg hat);have n1_:=Aside0.mk (blk_grown (g:=gb113) (o:=.cells #[.int .i64 (rd l0 x4_1),.slice Ao9 y110.length co9] 96 (0,0)) (by (with_reducible repeat (first|refine blk_drewN ?_ _|refine blk_drew ?_|refine blk_alloc ?_ _));exact BK113.out) hg (Kd.N_away HO150.out (fun _ hk => hk.2)));have n2_:=Aside0.mk (Kd.V_afterv (ok:=(fun k_ => (w.heap.size ≤ k_)∧k_ ≠ gb113)) (by (with_reducible repeat (first|apply Kd.V_alloc|apply Kd.V_drewN|apply Kd.V_drew));exact Kd.V_mono HO144.out (fun _ hk => ⟨⟨hk.1.1,hk.1.2.2⟩,hk.2⟩)) hg hat);have n3_:=Aside0.mk (Kd.V_afterv (ok:=(fun k_ => (w.heap.size ≤ k_)∧k_ ≠ gb113)) (by (with_reducible repeat (first|apply Kd.V_alloc|apply Kd.V_drewN|apply Kd.V_drew));exact Kd.V_mono HO155.out (fun _ hk => ⟨⟨hk.1.1,hk.1.2.2⟩,hk.2⟩)) hg hat);have n4_:=Aside0.mk (hb);have n5_:=Aside0.mk (ho);clear HO_3;clear BK113;clear HO144;clear HO155;clear HB;clear HO150;have HO_3:=n0_;have BK113:=n1_;have HO144:=n2_;have HO155:=n3_;have HB:=n4_;have HO158:=n5_;clear n0_ n1_ n2_ n3_ n4_ n5_;clear ho hb hg hat)))
      go_roundg k2
      case measure => have:=HK1.out;have:=HK2.out;omega
      case rel => exact ⟨(y156),(wrap64 (x4_1 + 1)),(by first|rfl|(simp;done)|(simp [*];done)),H',⟨by have:=HK1.out;have:=HK2.out;omega⟩,⟨by (with_reducible repeat (first|apply Kd.N_alloc|apply Kd.N_drewN|apply Kd.N_drew));exact Kd.N_mono HO158.out (fun _ hk => hk.1)⟩,⟨by repeat (first|(with_reducible first|exact HB.out|apply below_alloc|apply pw_below_drewN|apply below_drew1|refine below_set ?_ GE113.out)|exact HB.out)⟩⟩
     rw [if_pos c13] at H
     have c13b0 : decide (0 < x6_2) = true:=decide_eq_true c13
     clear c13
     obtain ⟨ji14,hji14⟩ : ∃ j_ : Int,(wrap64 (x6_2 - 1)) = j_:=⟨_,rfl⟩
     replace H : (if 0 ≤ (ji14) then (if (ji14) < (x3_1.length : Int) then (if ((rd_T96 x3_1 (ji14)).f0) > (rd l0 x4_1) then (spec_l04First.l1 k2 l0 x3_1 x4_1 ji14 (rd l0 x4_1) y110) else ((some (([] : List (S96)) : List (S96))).bind fun y115 => (if 0 ≤ x6_2 then (if x6_2 ≤ (x3_1.length : Int) then ((some (x3_1.take (x6_2 : Int).toNat : List (S96))).bind fun y118 => (if y115.length + y118.length < 4398046511104 then ((some (y115 ++ y118 : List (S96))).bind fun y123 => (if y123.length < 4398046511104 then ((some (y123 ++ [(⟨(rd l0 x4_1),y110⟩ : S96)] : List (S96))).bind fun y126 => ((some (x3_1.drop (x6_2 : Int).toNat : List (S96))).bind fun y129 => (if y126.length + y129.length < 4398046511104 then (spec_l04First.l0 k2 l0 (y126 ++ y129) (wrap64 (x4_1 + 1))) else (none)))) else (none))) else (none))) else (none)) else (none)))) else (none)) else (none)) = some r:=by first|(rw [hji14] at H;exact H)|(simp only [hji14] at H ⊢;exact H)
     have hji14w : (IntKind.i64.wrap (x6_2 - 1)) = ji14:=(i64_w _).trans hji14
     by_cases c15 : 0 ≤ (ji14)
     rotate_left
     ·rw [if_neg c15] at H
      exact absurd H (by simp)
     rw [if_pos c15] at H
     have c15b0 : decide (0 ≤ (ji14)) = true:=decide_eq_true c15
     clear c15
     by_cases c16 : (ji14) < (x3_1.length : Int)
     rotate_left
     ·rw [if_neg c16] at H
      exact absurd H (by simp)
     rw [if_pos c16] at H
     have c16b0 : decide ((ji14) < (x3_1.length : Int)) = true:=decide_eq_true c16
     clear c16
     by_cases c17 : ((rd_T96 x3_1 (ji14)).f0) > (rd l0 x4_1)
     ·rw [if_pos c17] at H
      have c17b0 : decide ((rd l0 x4_1) < ((rd_T96 x3_1 (ji14)).f0)) = true:=decide_eq_true c17
      clear c17
      have H':=Aside0.mk H
      clear H
      have p114 : 0 ≤ ((ji14) : Int):=of_decide_eq_true (by assumption)
      have q114 : (ji14) < (x3_1.length : Int):=of_decide_eq_true (by assumption)
      obtain ⟨ad114,A114_1,c114_1,e114,hx114_0,hx114_1,hl114_1,hi114_1⟩:=at_T96 (Kd.N_reads' HO_3.out).2.2 (ji14) p114 q114
      cases e114
      obtain ⟨ce114,hce114,hMe114,hcc114⟩:=Kd.N_get HO_3.out z96 (ji14) p114 (by first|exact q114|exact of_decide_eq_true (by assumption)|(have e_:=(Kd.N_reads' HO_3.out).1;omega))
      obtain ⟨ua114_1,uc114_1,rfl,ul114_1,ge114_1⟩:=k96_openF hMe114
      have hv114_1:=hcc114 1 _ rfl
      rw [add_field _ _ 1 (by omega)] at hv114_1
      replace hv114_1:=Option.some.inj (hv114_1.symm.trans hx114_1)
      injection hv114_1 with hva_ hvn_ hvc_
      rw [hva_] at ge114_1
      rw [hvc_] at ul114_1
      have HL114_1:=Aside0.mk (show Kd.V (Kd.int .i64) 3 _ w.heap.size _ _ ((rd_T96 x3_1 (ji14)).f1) from Kd.V_mk ul114_1 ge114_1)
      clear hva_ hvn_ hvc_ ge114_1 ul114_1
      clear hcc114 hce114
      have HR114_1:=Aside0.mk hi114_1
      have HC114_1:=Aside0.mk hl114_1
      clear hi114_1 hl114_1
      replace p114:=eq_true p114
      replace q114:=eq_true q114
      have hcz18_0 : wr.cell? ⟨gb113,0,none⟩ = some (.int .i64 (rd l0 x4_1)):=(blk_cell BK113.out 0).trans rfl
      have hcz18_1 : wr.cell? ⟨gb113,1,none⟩ = some (.slice Ao9 y110.length co9):=(blk_cell BK113.out 1).trans rfl
      have hfz18_0:=blk_frozen BK113.out 0
      have hfz18_1:=blk_frozen BK113.out 1
      go_wp2
      repeat (go_quiet (fail);try go_wp2)
      go_roundg k2
      case measure => have:=HK1.out;have:=HK2.out;omega
      case rel => exact ⟨(ji14),(by first|rfl|(simp;done)|(simp only [← hji14] <;> (first|rfl|simp))|(simp [*];done)),H',⟨by have:=HK1.out;have:=HK2.out;omega⟩,⟨by (with_reducible repeat (first|apply Kd.N_alloc|apply Kd.N_drewN|apply Kd.N_drew));exact HO_3.out⟩,⟨by (with_reducible repeat (first|apply Kd.R_alloc|apply Kd.R_drewN|apply Kd.R_drew));exact HO_114001.out⟩,⟨by (with_reducible repeat (first|refine blk_drewN ?_ _|refine blk_drew ?_|refine blk_alloc ?_ _));exact BK113.out⟩,⟨by repeat (first|(with_reducible first|exact HB.out|apply below_alloc|apply pw_below_drewN|apply below_drew1|refine below_set ?_ GE113.out)|exact HB.out)⟩⟩
     rw [if_neg c17] at H
     have c17b0 : decide ((rd l0 x4_1) < ((rd_T96 x3_1 (ji14)).f0)) = false:=decide_eq_false c17
     clear c17
     obtain ⟨y115,hy115⟩ : ∃ y_ : List (S96),y_ = (([] : List (S96))):=⟨_,rfl⟩
     replace H : (if 0 ≤ x6_2 then (if x6_2 ≤ (x3_1.length : Int) then ((some (x3_1.take (x6_2 : Int).toNat : List (S96))).bind fun y118 => (if y115.length + y118.length < 4398046511104 then ((some (y115 ++ y118 : List (S96))).bind fun y123 => (if y123.length < 4398046511104 then ((some (y123 ++ [(⟨(rd l0 x4_1),y110⟩ : S96)] : List (S96))).bind fun y126 => ((some (x3_1.drop (x6_2 : Int).toNat : List (S96))).bind fun y129 => (if y126.length + y129.length < 4398046511104 then (spec_l04First.l0 k2 l0 (y126 ++ y129) (wrap64 (x4_1 + 1))) else (none)))) else (none))) else (none))) else (none)) else (none)) = some r:=by first|(rw [hy115];with_reducible exact H)|(have H2_:=(Option.bind_some _ _).symm.trans H;rw [hy115];with_reducible exact H2_)|(have H2_:=(Option.bind_some _ _).symm.trans H;with_reducible exact H2_)|with_reducible exact H|(rw [hy115];exact H)|exact H
     have Ny115:=Aside0.mk hy115
     clear hy115
     by_cases c19 : 0 ≤ x6_2
     rotate_left
     ·rw [if_neg c19] at H
      exact absurd H (by simp)
     rw [if_pos c19] at H
     have c19b0:=eq_true c19
     have c19b1 : decide (0 ≤ x6_2) = true:=decide_eq_true c19
     clear c19
     by_cases c20 : x6_2 ≤ (x3_1.length : Int)
     rotate_left
     ·rw [if_neg c20] at H
      exact absurd H (by simp)
     rw [if_pos c20] at H
     have c20b0:=eq_true c20
     have c20b1 : decide (x6_2 ≤ (x3_1.length : Int)) = true:=decide_eq_true c20
     clear c20
     obtain ⟨y118,hy118⟩ : ∃ y_ : List (S96),y_ = (x3_1.take (x6_2 : Int).toNat):=⟨_,rfl⟩
     replace H : (if y115.length + y118.length < 4398046511104 then ((some (y115 ++ y118 : List (S96))).bind fun y123 => (if y123.length < 4398046511104 then ((some (y123 ++ [(⟨(rd l0 x4_1),y110⟩ : S96)] : List (S96))).bind fun y126 => ((some (x3_1.drop (x6_2 : Int).toNat : List (S96))).bind fun y129 => (if y126.length + y129.length < 4398046511104 then (spec_l04First.l0 k2 l0 (y126 ++ y129) (wrap64 (x4_1 + 1))) else (none)))) else (none))) else (none)) = some r:=by first|(rw [hy118];with_reducible exact H)|(have H2_:=(Option.bind_some _ _).symm.trans H;rw [hy118];with_reducible exact H2_)|(have H2_:=(Option.bind_some _ _).symm.trans H;with_reducible exact H2_)|with_reducible exact H|(rw [hy118];exact H)|exact H
     have Ny118:=Aside0.mk hy118
     clear hy118
     by_cases c21 : y115.length + y118.length < 4398046511104
     rotate_left
     ·rw [if_neg c21] at H
      exact absurd H (by simp)
     rw [if_pos c21] at H
     have LMc21:=Aside0.mk c21
     clear c21
     obtain ⟨y123,hy123⟩ : ∃ y_ : List (S96),y_ = (y115 ++ y118):=⟨_,rfl⟩
     replace H : (if y123.length < 4398046511104 then ((some (y123 ++ [(⟨(rd l0 x4_1),y110⟩ : S96)] : List (S96))).bind fun y126 => ((some (x3_1.drop (x6_2 : Int).toNat : List (S96))).bind fun y129 => (if y126.length + y129.length < 4398046511104 then (spec_l04First.l0 k2 l0 (y126 ++ y129) (wrap64 (x4_1 + 1))) else (none)))) else (none)) = some r:=by first|(rw [hy123];with_reducible exact H)|(have H2_:=(Option.bind_some _ _).symm.trans H;rw [hy123];with_reducible exact H2_)|(have H2_:=(Option.bind_some _ _).symm.trans H;with_reducible exact H2_)|with_reducible exact H|(rw [hy123];exact H)|exact H
     have Ny123:=Aside0.mk hy123
     clear hy123
     by_cases c22 : y123.length < 4398046511104
     rotate_left
     ·rw [if_neg c22] at H
      exact absurd H (by simp)
     rw [if_pos c22] at H
     have LMc22:=Aside0.mk c22
     clear c22
     obtain ⟨y126,hy126⟩ : ∃ y_ : List (S96),y_ = (y123 ++ [(⟨(rd l0 x4_1),y110⟩ : S96)]):=⟨_,rfl⟩
     replace H : ((some (x3_1.drop (x6_2 : Int).toNat : List (S96))).bind fun y129 => (if y126.length + y129.length < 4398046511104 then (spec_l04First.l0 k2 l0 (y126 ++ y129) (wrap64 (x4_1 + 1))) else (none))) = some r:=by first|(rw [hy126];with_reducible exact H)|(have H2_:=(Option.bind_some _ _).symm.trans H;rw [hy126];with_reducible exact H2_)|(have H2_:=(Option.bind_some _ _).symm.trans H;with_reducible exact H2_)|with_reducible exact H|(rw [hy126];exact H)|exact H
     have Ny126:=Aside0.mk hy126
     clear hy126
     have c23b0:=eq_true (of_decide_eq_true (by assumption) : 0 ≤ x6_2)
     have c24b0:=eq_true (of_decide_eq_true (by assumption) : x6_2 ≤ (x3_1.length : Int))
     obtain ⟨y129,hy129⟩ : ∃ y_ : List (S96),y_ = (x3_1.drop (x6_2 : Int).toNat):=⟨_,rfl⟩
     replace H : (if y126.length + y129.length < 4398046511104 then (spec_l04First.l0 k2 l0 (y126 ++ y129) (wrap64 (x4_1 + 1))) else (none)) = some r:=by first|(rw [hy129];with_reducible exact H)|(have H2_:=(Option.bind_some _ _).symm.trans H;rw [hy129];with_reducible exact H2_)|(have H2_:=(Option.bind_some _ _).symm.trans H;with_reducible exact H2_)|with_reducible exact H|(rw [hy129];exact H)|exact H
     have Ny129:=Aside0.mk hy129
     clear hy129
     by_cases c25 : y126.length + y129.length < 4398046511104
     rotate_left
     ·rw [if_neg c25] at H
      exact absurd H (by simp)
     rw [if_pos c25] at H
     have LMc25:=Aside0.mk c25
     clear c25
     obtain ⟨y134,hy134⟩ : ∃ y_ : List (S96),y_ = (y126 ++ y129):=⟨_,rfl⟩
     replace H : (spec_l04First.l0 k2 l0 y134 (wrap64 (x4_1 + 1))) = some r:=by first|(rw [hy134];with_reducible exact H)|(have H2_:=(Option.bind_some _ _).symm.trans H;rw [hy134];with_reducible exact H2_)|(have H2_:=(Option.bind_some _ _).symm.trans H;with_reducible exact H2_)|with_reducible exact H|(rw [hy134];exact H)|exact H
     have Ny134:=Aside0.mk hy134
     clear hy134
     have H':=Aside0.mk H
     clear H
     have p114 : 0 ≤ ((ji14) : Int):=of_decide_eq_true (by assumption)
     have q114 : (ji14) < (x3_1.length : Int):=of_decide_eq_true (by assumption)
     obtain ⟨ad114,A114_1,c114_1,e114,hx114_0,hx114_1,hl114_1,hi114_1⟩:=at_T96 (Kd.N_reads' HO_3.out).2.2 (ji14) p114 q114
     cases e114
     obtain ⟨ce114,hce114,hMe114,hcc114⟩:=Kd.N_get HO_3.out z96 (ji14) p114 (by first|exact q114|exact of_decide_eq_true (by assumption)|(have e_:=(Kd.N_reads' HO_3.out).1;omega))
     obtain ⟨ua114_1,uc114_1,rfl,ul114_1,ge114_1⟩:=k96_openF hMe114
     have hv114_1:=hcc114 1 _ rfl
     rw [add_field _ _ 1 (by omega)] at hv114_1
     replace hv114_1:=Option.some.inj (hv114_1.symm.trans hx114_1)
     injection hv114_1 with hva_ hvn_ hvc_
     rw [hva_] at ge114_1
     rw [hvc_] at ul114_1
     have HL114_1:=Aside0.mk (show Kd.V (Kd.int .i64) 3 _ w.heap.size _ _ ((rd_T96 x3_1 (ji14)).f1) from Kd.V_mk ul114_1 ge114_1)
     clear hva_ hvn_ hvc_ ge114_1 ul114_1
     clear hcc114 hce114
     have HR114_1:=Aside0.mk hi114_1
     have HC114_1:=Aside0.mk hl114_1
     clear hi114_1 hl114_1
     replace p114:=eq_true p114
     replace q114:=eq_true q114
     have hcz26_0 : wr.cell? ⟨gb113,0,none⟩ = some (.int .i64 (rd l0 x4_1)):=(blk_cell BK113.out 0).trans rfl
     have hcz26_1 : wr.cell? ⟨gb113,1,none⟩ = some (.slice Ao9 y110.length co9):=(blk_cell BK113.out 1).trans rfl
     have hfz26_0:=blk_frozen BK113.out 0
     have hfz26_1:=blk_frozen BK113.out 1
     go_wp2_with (first|((with_reducible refine gate_dst (N:=44) rfl ?_);refine Kd.N_lit k96 _ 96 ?hg (N':=44) ?hd (xs:=([] : List (S96))) (inner:=[]) (ok:=(fun k_ => (w.heap.size ≤ k_)∧some k_ ≠ (.slice (some ad114) x3_1.length co12 : Value).ownBlock∧some k_ ≠ (.slice Ao9 y110.length co9 : Value).ownBlock∧k_ ≠ gb113)) (okp:=(fun k_ => (w.heap.size ≤ k_)∧some k_ ≠ (.slice (some ad114) x3_1.length co12 : Value).ownBlock∧some k_ ≠ (.slice Ao9 y110.length co9 : Value).ownBlock∧k_ ≠ gb113)) ?hr ?hp (fun _ hk => hk) ((show ∀ k_,wr.heap.size ≤ k_ → (fun k_ => (w.heap.size ≤ k_)∧some k_ ≠ (.slice (some ad114) x3_1.length co12 : Value).ownBlock∧some k_ ≠ (.slice Ao9 y110.length co9 : Value).ownBlock∧k_ ≠ gb113) k_ from fun k_ hk => ⟨(Nat.le_trans (below_size (by repeat (first|(with_reducible first|exact HB.out|apply below_alloc|apply pw_below_drewN|apply below_drew1|refine below_set ?_ GE113.out)|exact HB.out))) hk),Kd.fresh' (Kd.N_lt (by (with_reducible repeat (first|apply Kd.N_alloc|apply Kd.N_drewN|apply Kd.N_drew));exact HO_3.out)) k_ hk,Kd.fresh' (Kd.R_lt (by (with_reducible repeat (first|apply Kd.R_alloc|apply Kd.R_drewN|apply Kd.R_drew));exact HO_114001.out)) k_ hk,Kd.freshB (g:=gb113) (o:=.cells #[.int .i64 (rd l0 x4_1),.slice Ao9 y110.length co9] 96 (0,0)) (by (with_reducible repeat (first|refine blk_drewN ?_ _|refine blk_drew ?_|refine blk_alloc ?_ _));exact BK113.out) k_ hk⟩) _ (Nat.le_refl _)) (Below.refl _ _) (Nat.le_refl _) (by simp) ?_;(case hd => rfl);(case hg => rfl);(case hr => first|(go_simp;done)|(go_simp;rfl));(case hp => exact (Reps.none _ _));intro v116 w27 ho28 hb hg_ hnew_;clear hg_ hnew_;(first|rw [← Ny115.out] at ho28|(simp only [Int.reduceToNat] at ho28;rw [← Ny115.out] at ho28));have n0_:=Aside0.mk (Kd.N_elder' (by (with_reducible repeat (first|apply Kd.N_alloc|apply Kd.N_drewN|apply Kd.N_drew));exact HO_3.out) (Kd.N_base ho28) hb);have n1_:=Aside0.mk (Kd.R_below (by (with_reducible repeat (first|apply Kd.R_alloc|apply Kd.R_drewN|apply Kd.R_drew));exact HO_114001.out) hb);have n2_:=Aside0.mk (Kd.V_elder' (by (with_reducible repeat (first|apply Kd.V_alloc|apply Kd.V_drewN|apply Kd.V_drew));exact HL114_1.out) (Kd.N_base ho28) hb);have n3_:=Aside0.mk (Kd.N_lower ho28 (below_size (by repeat (first|(with_reducible first|exact HB.out|apply below_alloc|apply pw_below_drewN|apply below_drew1|refine below_set ?_ GE113.out)|exact HB.out))));have n4_:=Aside0.mk (blk_below (g:=gb113) (o:=.cells #[.int .i64 (rd l0 x4_1),.slice Ao9 y110.length co9] 96 (0,0)) (by (with_reducible repeat (first|refine blk_drewN ?_ _|refine blk_drew ?_|refine blk_alloc ?_ _));exact BK113.out) hb);have n5_:=Aside0.mk (Kd.C_below (by repeat (first|(with_reducible exact HR114_1.out)|(with_reducible refine Kd.C_alloc ?_ _)|(with_reducible refine Kd.C_drewN ?_ _)|(with_reducible refine Kd.C_drew ?_)|exact HR114_1.out)) hb);have n6_:=Aside0.mk (below_step (by repeat (first|(with_reducible first|exact HB.out|apply below_alloc|apply pw_below_drewN|apply below_drew1|refine below_set ?_ GE113.out)|exact HB.out)) hb);clear HO_3;clear HO_114001;clear HL114_1;clear BK113;clear HR114_1;clear HB;have HO_3:=n0_;have HO_114001:=n1_;have HL114_1:=n2_;have HO117:=n3_;have BK113:=n4_;have HR114_1:=n5_;have HB:=n6_;clear n0_ n1_ n2_ n3_ n4_ n5_ n6_;clear hb ho28;have q29 : (x6_2 : Int) ≤ ((x3_1.length : Int) : Int):=of_decide_eq_true (by assumption);obtain ⟨i029,hi029,_,hsz29,_⟩:=info_parts info96;have hroom29 : x3_1.length ≤ co12:=(Kd.N_reads' HO_3.out).2.1;have hC29 : Kd.F k96 _ _ (some ad114) x3_1.length x3_1:=(Kd.V_at (base:=w.heap.size) (Kd.N_V HO_3.out)).2.2;have hcut29:=cut_to (P:=Try.prog) 93 96 .i64 Try.underlying93 hi029 (some ad114) x3_1.length co12 x6_2 (of_decide_eq_true (by assumption)) q29 hroom29;have hr29:=Kd.F_take (m:=(x6_2 : Int).toNat) hC29 (by omega);have hy29 : y118.length = (x6_2 : Int).toNat:=(by rw [Ny118.out,List.length_take];omega);rw [← Ny118.out] at hr29;rw [← hy29] at hcut29;have HO122:=Aside0.mk (show Kd.V k96 96 _ w.heap.size _ (.slice (some ad114) y118.length co12) y118 from Kd.V_mk (by omega) hr29);have HC122:=Aside0.mk (show y118.length ≤ co12 from by omega);clear hr29 hC29 hroom29 hi029 hsz29;have KY29:=Aside0.mk hy29;clear hy29;replace q29:=eq_true q29)|((with_reducible refine gate_builtin (b:=.append) (xs:=#[.tmp 44,.tmp 47]) rfl ?_);at_builtin;refine Kd.N_append_rows k96 (w0:=w) w.heap.size rfl (.tmp 44) (.tmp 47) 93 96 (.agg #[(.int .i64 0),(.slice none 0 0)]) 32 rfl Try.underlying93 info96 rfl (by decide) (by omega) v116 y115 y118 _ _ _ (fun k_ => (w.heap.size ≤ k_)∧some k_ ≠ (.slice Ao9 y110.length co9 : Value).ownBlock∧k_ ≠ gb113) (fun k_ => ((fun k_ => (w.heap.size ≤ k_)∧some k_ ≠ (.slice Ao9 y110.length co9 : Value).ownBlock∧k_ ≠ gb113)) k_∧some k_ ≠ (v116 : Value).ownBlock) rfl rfl ?aO ?aR (fun _ hk => hk) ?aF ?aB ?aS ?aL ?_;(case aR => exact (by skip;exact Kd.V_F (Kd.V_mono (ok':=(fun k_ => ((fun k_ => (w.heap.size ≤ k_)∧some k_ ≠ (.slice Ao9 y110.length co9 : Value).ownBlock∧k_ ≠ gb113)) k_∧some k_ ≠ (v116 : Value).ownBlock)) (HO122.out) (fun k_ hk => ⟨⟨hk.1.1,⟨hk.1.2.1,hk.1.2.2⟩⟩,hk.2⟩))));(case aB => exact (by repeat (first|(with_reducible first|exact HB.out|apply below_alloc|apply pw_below_drewN|apply below_drew1|refine below_set ?_ GE113.out)|exact HB.out)));(case aF => exact (fun k_ hk => ⟨(Nat.le_trans (below_size (by repeat (first|(with_reducible first|exact HB.out|apply below_alloc|apply pw_below_drewN|apply below_drew1|refine below_set ?_ GE113.out)|exact HB.out))) hk),Kd.fresh' (Kd.R_lt (by (with_reducible repeat (first|apply Kd.R_alloc|apply Kd.R_drewN|apply Kd.R_drew));exact HO_114001.out)) k_ hk,Kd.freshB (g:=gb113) (o:=.cells #[.int .i64 (rd l0 x4_1),.slice Ao9 y110.length co9] 96 (0,0)) (by (with_reducible repeat (first|refine blk_drewN ?_ _|refine blk_drew ?_|refine blk_alloc ?_ _));exact BK113.out) k_ hk⟩));(case aO => exact (by (with_reducible repeat (first|apply Kd.N_alloc|apply Kd.N_drewN|apply Kd.N_drew));exact Kd.N_mono HO117.out (fun _ hk => ⟨hk.1,⟨hk.2.2.1,hk.2.2.2⟩⟩)));(case aS => exact (below_size (by repeat (first|(with_reducible first|exact HB.out|apply below_alloc|apply pw_below_drewN|apply below_drew1|refine below_set ?_ GE113.out)|exact HB.out))));(case aL => have:=LMc21.out;omega);intro v124 w30 ho hb hg hat;rw [← Ny123.out] at ho;have n0_:=Aside0.mk (Kd.N_afterv (ok:=(fun k_ => (w.heap.size ≤ k_)∧some k_ ≠ (.slice Ao9 y110.length co9 : Value).ownBlock∧k_ ≠ gb113)) (by (with_reducible repeat (first|apply Kd.N_alloc|apply Kd.N_drewN|apply Kd.N_drew));exact HO_3.out) hg hat);have n1_:=Aside0.mk (Kd.R_over' (by (with_reducible repeat (first|apply Kd.R_alloc|apply Kd.R_drewN|apply Kd.R_drew));exact HO_114001.out) (Kd.N_typed (by (with_reducible repeat (first|apply Kd.N_alloc|apply Kd.N_drewN|apply Kd.N_drew));exact HO117.out)) (by decide) hg);have n2_:=Aside0.mk (blk_grown (g:=gb113) (o:=.cells #[.int .i64 (rd l0 x4_1),.slice Ao9 y110.length co9] 96 (0,0)) (by (with_reducible repeat (first|refine blk_drewN ?_ _|refine blk_drew ?_|refine blk_alloc ?_ _));exact BK113.out) hg (Kd.N_away HO117.out (fun _ hk => hk.2.2.2)));have n3_:=Aside0.mk (Kd.V_afterv (ok:=(fun k_ => (w.heap.size ≤ k_)∧some k_ ≠ (.slice (some ad114) x3_1.length co12 : Value).ownBlock∧some k_ ≠ (.slice Ao9 y110.length co9 : Value).ownBlock∧k_ ≠ gb113)) (by (with_reducible repeat (first|apply Kd.V_alloc|apply Kd.V_drewN|apply Kd.V_drew));exact Kd.V_mono HL114_1.out (fun _ hk => ⟨⟨hk.1.1.1,⟨hk.1.2,⟨hk.1.1.2.1,hk.1.1.2.2⟩⟩⟩,hk.2⟩)) hg hat);have n4_:=Aside0.mk (Kd.V_afterv (ok:=(fun k_ => (w.heap.size ≤ k_)∧some k_ ≠ (.slice Ao9 y110.length co9 : Value).ownBlock∧k_ ≠ gb113)) (by (with_reducible repeat (first|apply Kd.V_alloc|apply Kd.V_drewN|apply Kd.V_drew));exact HO122.out) hg hat);have n5_:=Aside0.mk (hb);have n6_:=Aside0.mk (ho);clear HO_3;clear HO_114001;clear BK113;clear HL114_1;clear HO122;clear HB;clear HO117;have HO_3:=n0_;have HO_114001:=n1_;have BK113:=n2_;have HL114_1:=n3_;have HO122:=n4_;have HB:=n5_;have HO125:=n6_;clear n0_ n1_ n2_ n3_ n4_ n5_ n6_;clear ho hb hg hat;have hcz31_0 : w30.cell? ⟨gb113,0,none⟩ = some (.int .i64 (rd l0 x4_1)):=(blk_cell BK113.out 0).trans rfl;have hcz31_1 : w30.cell? ⟨gb113,1,none⟩ = some (.slice Ao9 y110.length co9):=(blk_cell BK113.out 1).trans rfl;have hfz31_0:=blk_frozen BK113.out 0;have hfz31_1:=blk_frozen BK113.out 1)|((with_reducible refine gate_builtin (b:=.append) (xs:=#[.tmp 49,.tmp 51]) rfl ?_);at_builtin;refine Kd.N_append k96 (w0:=w) w.heap.size rfl (.tmp 49) (.tmp 51) 93 96 (.agg #[(.int .i64 0),(.slice none 0 0)]) 32 rfl Try.underlying93 info96 rfl (by decide) (by omega) v124 y123 (⟨(rd l0 x4_1),y110⟩ : S96) [.int .i64 (rd l0 x4_1),.slice Ao9 y110.length co9] (fun k_ => (w.heap.size ≤ k_)∧k_ ≠ gb113) (fun k_ => ((fun k_ => (w.heap.size ≤ k_)∧k_ ≠ gb113)) k_∧some k_ ≠ (v124 : Value).ownBlock) rfl rfl ?aP (fun _ hk => hk) ?aF ?aO ?aB ?aS ?aL ?_;(case aP => exact (k96_mkF _ _ (⟨(rd l0 x4_1),y110⟩ : S96) (Kd.R_reads' (Kd.R_mono (ok':=(fun k_ => ((fun k_ => (w.heap.size ≤ k_)∧k_ ≠ gb113)) k_∧some k_ ≠ (v124 : Value).ownBlock)) (Kd.R_types (Kd.R_apart' (HO_114001.out) (Kd.N_typed HO125.out) (by decide)) BK113.out (by decide)) (fun k_ hk => ⟨⟨hk.1.1,hk.2⟩,hk.1.2⟩))).2.1 (Kd.R_F (Kd.R_mono (ok':=(fun k_ => ((fun k_ => (w.heap.size ≤ k_)∧k_ ≠ gb113)) k_∧some k_ ≠ (v124 : Value).ownBlock)) (Kd.R_types (Kd.R_apart' (HO_114001.out) (Kd.N_typed HO125.out) (by decide)) BK113.out (by decide)) (fun k_ hk => ⟨⟨hk.1.1,hk.2⟩,hk.1.2⟩)))));(case aB => exact (by repeat (first|(with_reducible first|exact HB.out|apply below_alloc|apply pw_below_drewN|apply below_drew1|refine below_set ?_ GE113.out)|exact HB.out)));(case aF => exact (fun k_ hk => ⟨(Nat.le_trans (below_size (by repeat (first|(with_reducible first|exact HB.out|apply below_alloc|apply pw_below_drewN|apply below_drew1|refine below_set ?_ GE113.out)|exact HB.out))) hk),Kd.freshB (g:=gb113) (o:=.cells #[.int .i64 (rd l0 x4_1),.slice Ao9 y110.length co9] 96 (0,0)) (by (with_reducible repeat (first|refine blk_drewN ?_ _|refine blk_drew ?_|refine blk_alloc ?_ _));exact BK113.out) k_ hk⟩));(case aO => exact (by (with_reducible repeat (first|apply Kd.N_alloc|apply Kd.N_drewN|apply Kd.N_drew));exact Kd.N_mono HO125.out (fun _ hk => ⟨hk.1,hk.2.2⟩)));(case aS => exact (below_size (by repeat (first|(with_reducible first|exact HB.out|apply below_alloc|apply pw_below_drewN|apply below_drew1|refine below_set ?_ GE113.out)|exact HB.out))));(case aL => have:=LMc22.out;omega);intro v127 w32 ho hb hg hat;rw [← Ny126.out] at ho;have n0_:=Aside0.mk (Kd.N_afterv (ok:=(fun k_ => (w.heap.size ≤ k_)∧some k_ ≠ (.slice Ao9 y110.length co9 : Value).ownBlock∧k_ ≠ gb113)) (by (with_reducible repeat (first|apply Kd.N_alloc|apply Kd.N_drewN|apply Kd.N_drew));exact HO_3.out) hg hat);have n1_:=Aside0.mk (blk_grown (g:=gb113) (o:=.cells #[.int .i64 (rd l0 x4_1),.slice Ao9 y110.length co9] 96 (0,0)) (by (with_reducible repeat (first|refine blk_drewN ?_ _|refine blk_drew ?_|refine blk_alloc ?_ _));exact BK113.out) hg (Kd.N_away HO125.out (fun _ hk => hk.2.2)));have n2_:=Aside0.mk (Kd.V_afterv (ok:=(fun k_ => (w.heap.size ≤ k_)∧some k_ ≠ (.slice (some ad114) x3_1.length co12 : Value).ownBlock∧some k_ ≠ (.slice Ao9 y110.length co9 : Value).ownBlock∧k_ ≠ gb113)) (by (with_reducible repeat (first|apply Kd.V_alloc|apply Kd.V_drewN|apply Kd.V_drew));exact HL114_1.out) hg hat);have n3_:=Aside0.mk (Kd.V_afterv (ok:=(fun k_ => (w.heap.size ≤ k_)∧some k_ ≠ (.slice Ao9 y110.length co9 : Value).ownBlock∧k_ ≠ gb113)) (by (with_reducible repeat (first|apply Kd.V_alloc|apply Kd.V_drewN|apply Kd.V_drew));exact HO122.out) hg hat);have n4_:=Aside0.mk (hb);have n5_:=Aside0.mk (ho);clear HO_3;clear BK113;clear HL114_1;clear HO122;clear HB;clear HO125;clear HO_114001;have HO_3:=n0_;have BK113:=n1_;have HL114_1:=n2_;have HO122:=n3_;have HB:=n4_;have HO128:=n5_;clear n0_ n1_ n2_ n3_ n4_ n5_;clear ho hb hg hat;have q33 : (x6_2 : Int) ≤ ((x3_1.length : Int) : Int):=of_decide_eq_true (by assumption);obtain ⟨i033,hi033,_,hsz33,_⟩:=info_parts info96;have hroom33 : x3_1.length ≤ co12:=(Kd.N_reads' HO_3.out).2.1;have hC33 : Kd.F k96 _ _ (some ad114) x3_1.length x3_1:=(Kd.V_at (base:=w.heap.size) (Kd.N_V HO_3.out)).2.2;have q033 : (0 : Int) ≤ (x6_2 : Int):=of_decide_eq_true (by assumption);have hcut33:=cut_from (P:=Try.prog) 93 96 .i64 Try.underlying93 hi033 2 hsz33 (some ad114) x3_1.length co12 x6_2 q033 q33;have hr33:=Kd.F_cut (m:=(x6_2 : Int).toNat) (c:=co12) hC33 (by omega) hroom33;obtain ⟨A33,hA33⟩ : ∃ A1,A1 = (if co12 = (x6_2 : Int).toNat then (some ad114) else ((some ad114) : Option Addr).map (·.add ((x6_2 : Int).toNat * 2))):=⟨_,rfl⟩;obtain ⟨c33,hc33⟩ : ∃ c1,c1 = co12 - (x6_2 : Int).toNat:=⟨_,rfl⟩;have hy33 : y129.length = x3_1.length - (x6_2 : Int).toNat:=(by rw [Ny129.out,List.length_drop] <;> omega);rw [show (x3_1).drop (x6_2 : Int).toNat = y129 from Ny129.out.symm] at hr33;replace hr33 : Kd.F k96 _ _ A33 y129.length y129:=(by rw [hA33];exact hr33);rw [← hy33,← hA33,← hc33] at hcut33;have HO133:=Aside0.mk (show Kd.V k96 96 _ w.heap.size _ (.slice A33 y129.length c33) y129 from Kd.V_mk (by rw [hy33,hc33];exact Nat.sub_le_sub_right hroom33 _) hr33);have HC133:=Aside0.mk (show y129.length ≤ c33 from by rw [hy33,hc33];exact Nat.sub_le_sub_right hroom33 _);clear hr33 hC33 hroom33 hi033 hsz33 hc33;have KY33:=Aside0.mk hy33;have KA33:=Aside0.mk hA33;clear hy33 hA33;replace q33:=eq_true q33)|((with_reducible refine gate_builtin (b:=.append) (xs:=#[.tmp 53,.tmp 56]) rfl ?_);at_builtin;refine Kd.N_append_rows k96 (w0:=w) w.heap.size rfl (.tmp 53) (.tmp 56) 93 96 (.agg #[(.int .i64 0),(.slice none 0 0)]) 32 rfl Try.underlying93 info96 rfl (by decide) (by omega) v127 y126 y129 _ _ _ (fun k_ => (w.heap.size ≤ k_)∧k_ ≠ gb113) (fun k_ => ((fun k_ => (w.heap.size ≤ k_)∧k_ ≠ gb113)) k_∧some k_ ≠ (v127 : Value).ownBlock) rfl rfl ?aO ?aR (fun _ hk => hk) ?aF ?aB ?aS ?aL ?_;(case aR => exact (by skip;exact Kd.V_F (Kd.V_mono (ok':=(fun k_ => ((fun k_ => (w.heap.size ≤ k_)∧k_ ≠ gb113)) k_∧some k_ ≠ (v127 : Value).ownBlock)) (HO133.out) (fun k_ hk => ⟨⟨hk.1.1,hk.1.2.2⟩,hk.2⟩))));(case aB => exact (by repeat (first|(with_reducible first|exact HB.out|apply below_alloc|apply pw_below_drewN|apply below_drew1|refine below_set ?_ GE113.out)|exact HB.out)));(case aF => exact (fun k_ hk => ⟨(Nat.le_trans (below_size (by repeat (first|(with_reducible first|exact HB.out|apply below_alloc|apply pw_below_drewN|apply below_drew1|refine below_set ?_ GE113.out)|exact HB.out))) hk),Kd.freshB (g:=gb113) (o:=.cells #[.int .i64 (rd l0 x4_1),.slice Ao9 y110.length co9] 96 (0,0)) (by (with_reducible repeat (first|refine blk_drewN ?_ _|refine blk_drew ?_|refine blk_alloc ?_ _));exact BK113.out) k_ hk⟩));(case aO => exact (by (with_reducible repeat (first|apply Kd.N_alloc|apply Kd.N_drewN|apply Kd.N_drew));exact HO128.out));(case aS => exact (below_size (by repeat (first|(with_reducible first|exact HB.out|apply below_alloc|apply pw_below_drewN|apply below_drew1|refine below_set ?_ GE113.out)|exact HB.out))));(case aL => have:=LMc25.out;omega);intro v135 w34 ho hb hg hat;rw [← Ny134.out] at ho;have n0_:=Aside0.mk (Kd.N_afterv (ok:=(fun k_ => (w.heap.size ≤ k_)∧k_ ≠ gb113)) (by (with_reducible repeat (first|apply Kd.N_alloc|apply Kd.N_drewN|apply Kd.N_drew));exact Kd.N_mono HO_3.out (fun _ hk => ⟨⟨hk.1.1,hk.1.2.2⟩,hk.2⟩)) hg hat);have n1_:=Aside0.mk (blk_grown (g:=gb113) (o:=.cells #[.int .i64 (rd l0 x4_1),.slice Ao9 y110.length co9] 96 (0,0)) (by (with_reducible repeat (first|refine blk_drewN ?_ _|refine blk_drew ?_|refine blk_alloc ?_ _));exact BK113.out) hg (Kd.N_away HO128.out (fun _ hk => hk.2)));have n2_:=Aside0.mk (Kd.V_afterv (ok:=(fun k_ => (w.heap.size ≤ k_)∧some k_ ≠ (.slice (some ad114) x3_1.length co12 : Value).ownBlock∧k_ ≠ gb113)) (by (with_reducible repeat (first|apply Kd.V_alloc|apply Kd.V_drewN|apply Kd.V_drew));exact Kd.V_mono HL114_1.out (fun _ hk => ⟨⟨hk.1.1,⟨hk.1.2.1,hk.1.2.2.2⟩⟩,hk.2⟩)) hg hat);have n3_:=Aside0.mk (Kd.V_afterv (ok:=(fun k_ => (w.heap.size ≤ k_)∧k_ ≠ gb113)) (by (with_reducible repeat (first|apply Kd.V_alloc|apply Kd.V_drewN|apply Kd.V_drew));exact Kd.V_mono HO122.out (fun _ hk => ⟨⟨hk.1.1,hk.1.2.2⟩,hk.2⟩)) hg hat);have n4_:=Aside0.mk (Kd.V_afterv (ok:=(fun k_ => (w.heap.size ≤ k_)∧k_ ≠ gb113)) (by (with_reducible repeat (first|apply Kd.V_alloc|apply Kd.V_drewN|apply Kd.V_drew));exact Kd.V_mono HO133.out (fun _ hk => ⟨⟨hk.1.1,hk.1.2.2⟩,hk.2⟩)) hg hat);have n5_:=Aside0.mk (hb);have n6_:=Aside0.mk (ho);clear HO_3;clear BK113;clear HL114_1;clear HO122;clear HO133;clear HB;clear HO128;have HO_3:=n0_;have BK113:=n1_;have HL114_1:=n2_;have HO122:=n3_;have HO133:=n4_;have HB:=n5_;have HO136:=n6_;clear n0_ n1_ n2_ n3_ n4_ n5_ n6_;clear ho hb hg hat))
     repeat (go_quiet (first|((with_reducible refine gate_dst (N:=44) rfl ?_);refine Kd.N_lit k96 _ 96 ?hg (N':=44) ?hd (xs:=([] : List (S96))) (inner:=[]) (ok:=(fun k_ => (w.heap.size ≤ k_)∧some k_ ≠ (.slice (some ad114) x3_1.length co12 : Value).ownBlock∧some k_ ≠ (.slice Ao9 y110.length co9 : Value).ownBlock∧k_ ≠ gb113)) (okp:=(fun k_ => (w.heap.size ≤ k_)∧some k_ ≠ (.slice (some ad114) x3_1.length co12 : Value).ownBlock∧some k_ ≠ (.slice Ao9 y110.length co9 : Value).ownBlock∧k_ ≠ gb113)) ?hr ?hp (fun _ hk => hk) ((show ∀ k_,wr.heap.size ≤ k_ → (fun k_ => (w.heap.size ≤ k_)∧some k_ ≠ (.slice (some ad114) x3_1.length co12 : Value).ownBlock∧some k_ ≠ (.slice Ao9 y110.length co9 : Value).ownBlock∧k_ ≠ gb113) k_ from fun k_ hk => ⟨(Nat.le_trans (below_size (by repeat (first|(with_reducible first|exact HB.out|apply below_alloc|apply pw_below_drewN|apply below_drew1|refine below_set ?_ GE113.out)|exact HB.out))) hk),Kd.fresh' (Kd.N_lt (by (with_reducible repeat (first|apply Kd.N_alloc|apply Kd.N_drewN|apply Kd.N_drew));exact HO_3.out)) k_ hk,Kd.fresh' (Kd.R_lt (by (with_reducible repeat (first|apply Kd.R_alloc|apply Kd.R_drewN|apply Kd.R_drew));exact HO_114001.out)) k_ hk,Kd.freshB (g:=gb113) (o:=.cells #[.int .i64 (rd l0 x4_1),.slice Ao9 y110.length co9] 96 (0,0)) (by (with_reducible repeat (first|refine blk_drewN ?_ _|refine blk_drew ?_|refine blk_alloc ?_ _));exact BK113.out) k_ hk⟩) _ (Nat.le_refl _)) (Below.refl _ _) (Nat.le_refl _) (by simp) ?_;(case hd => rfl);(case hg => rfl);(case hr => first|(go_simp;done)|(go_simp;rfl));(case hp => exact (Reps.none _ _));intro v116 w27 ho28 hb hg_ hnew_;clear hg_ hnew_;(first|rw [← Ny115.out] at ho28|(simp only [Int.reduceToNat] at ho28;rw [← Ny115.out] at ho28));have n0_:=Aside0.mk (Kd.N_elder' (by (with_reducible repeat (first|apply Kd.N_alloc|apply Kd.N_drewN|apply Kd.N_drew));exact HO_3.out) (Kd.N_base ho28) hb);have n1_:=Aside0.mk (Kd.R_below (by (with_reducible repeat (first|apply Kd.R_alloc|apply Kd.R_drewN|apply Kd.R_drew));exact HO_114001.out) hb);have n2_:=Aside0.mk (Kd.V_elder' (by (with_reducible repeat (first|apply Kd.V_alloc|apply Kd.V_drewN|apply Kd.V_drew));exact HL114_1.out) (Kd.N_base ho28) hb);have n3_:=Aside0.mk (Kd.N_lower ho28 (below_size (by repeat (first|(with_reducible first|exact HB.out|apply below_alloc|apply pw_below_drewN|apply below_drew1|refine below_set ?_ GE113.out)|exact HB.out))));have n4_:=Aside0.mk (blk_below (g:=gb113) (o:=.cells #[.int .i64 (rd l0 x4_1),.slice Ao9 y110.length co9] 96 (0,0)) (by (with_reducible repeat (first|refine blk_drewN ?_ _|refine blk_drew ?_|refine blk_alloc ?_ _));exact BK113.out) hb);have n5_:=Aside0.mk (Kd.C_below (by repeat (first|(with_reducible exact HR114_1.out)|(with_reducible refine Kd.C_alloc ?_ _)|(with_reducible refine Kd.C_drewN ?_ _)|(with_reducible refine Kd.C_drew ?_)|exact HR114_1.out)) hb);have n6_:=Aside0.mk (below_step (by repeat (first|(with_reducible first|exact HB.out|apply below_alloc|apply pw_below_drewN|apply below_drew1|refine below_set ?_ GE113.out)|exact HB.out)) hb);clear HO_3;clear HO_114001;clear HL114_1;clear BK113;clear HR114_1;clear HB;have HO_3:=n0_;have HO_114001:=n1_;have HL114_1:=n2_;have HO117:=n3_;have BK113:=n4_;have HR114_1:=n5_;have HB:=n6_;clear n0_ n1_ n2_ n3_ n4_ n5_ n6_;clear hb ho28;have q29 : (x6_2 : Int) ≤ ((x3_1.length : Int) : Int):=of_decide_eq_true (by assumption);obtain ⟨i029,hi029,_,hsz29,_⟩:=info_parts info96;have hroom29 : x3_1.length ≤ co12:=(Kd.N_reads' HO_3.out).2.1;have hC29 : Kd.F k96 _ _ (some ad114) x3_1.length x3_1:=(Kd.V_at (base:=w.heap.size) (Kd.N_V HO_3.out)).2.2;have hcut29:=cut_to (P:=Try.prog) 93 96 .i64 Try.underlying93 hi029 (some ad114) x3_1.length co12 x6_2 (of_decide_eq_true (by assumption)) q29 hroom29;have hr29:=Kd.F_take (m:=(x6_2 : Int).toNat) hC29 (by omega);have hy29 : y118.length = (x6_2 : Int).toNat:=(by rw [Ny118.out,List.length_take];omega);rw [← Ny118.out] at hr29;rw [← hy29] at hcut29;have HO122:=Aside0.mk (show Kd.V k96 96 _ w.heap.size _ (.slice (some ad114) y118.length co12) y118 from Kd.V_mk (by omega) hr29);have HC122:=Aside0.mk (show y118.length ≤ co12 from by omega);clear hr29 hC29 hroom29 hi029 hsz29;have KY29:=Aside0.mk hy29;clear hy29;replace q29:=eq_true q29)|((with_reducible refine gate_builtin (b:=.append) (xs:=#[.tmp 44,.tmp 47]) rfl ?_);at_builtin;refine Kd.N_append_rows k96 (w0:=w) w.heap.size rfl (.tmp 44) (.tmp 47) 93 96 (.agg #[(.int .i64 0),(.slice none 0 0)]) 32 rfl Try.underlying93 info96 rfl (by decide) (by omega) v116 y115 y118 _ _ _ (fun k_ => (w.heap.size ≤ k_)∧some k_ ≠ (.slice Ao9 y110.length co9 : Value).ownBlock∧k_ ≠ gb113) (fun k_ => ((fun k_ => (w.heap.size ≤ k_)∧some k_ ≠ (.slice Ao9 y110.length co9 : Value).ownBlock∧k_ ≠ gb113)) k_∧some k_ ≠ (v116 : Value).ownBlock) rfl rfl ?aO ?aR (fun _ hk => hk) ?aF ?aB ?aS ?aL ?_;(case aR => exact (by skip;exact Kd.V_F (Kd.V_mono (ok':=(fun k_ => ((fun k_ => (w.heap.size ≤ k_)∧some k_ ≠ (.slice Ao9 y110.length co9 : Value).ownBlock∧k_ ≠ gb113)) k_∧some k_ ≠ (v116 : Value).ownBlock)) (HO122.out) (fun k_ hk => ⟨⟨hk.1.1,⟨hk.1.2.1,hk.1.2.2⟩⟩,hk.2⟩))));(case aB => exact (by repeat (first|(with_reducible first|exact HB.out|apply below_alloc|apply pw_below_drewN|apply below_drew1|refine below_set ?_ GE113.out)|exact HB.out)));(case aF => exact (fun k_ hk => ⟨(Nat.le_trans (below_size (by repeat (first|(with_reducible first|exact HB.out|apply below_alloc|apply pw_below_drewN|apply below_drew1|refine below_set ?_ GE113.out)|exact HB.out))) hk),Kd.fresh' (Kd.R_lt (by (with_reducible repeat (first|apply Kd.R_alloc|apply Kd.R_drewN|apply Kd.R_drew));exact HO_114001.out)) k_ hk,Kd.freshB (g:=gb113) (o:=.cells #[.int .i64 (rd l0 x4_1),.slice Ao9 y110.length co9] 96 (0,0)) (by (with_reducible repeat (first|refine blk_drewN ?_ _|refine blk_drew ?_|refine blk_alloc ?_ _));exact BK113.out) k_ hk⟩));(case aO => exact (by (with_reducible repeat (first|apply Kd.N_alloc|apply Kd.N_drewN|apply Kd.N_drew));exact Kd.N_mono HO117.out (fun _ hk => ⟨hk.1,⟨hk.2.2.1,hk.2.2.2⟩⟩)));(case aS => exact (below_size (by repeat (first|(with_reducible first|exact HB.out|apply below_alloc|apply pw_below_drewN|apply below_drew1|refine below_set ?_ GE113.out)|exact HB.out))));(case aL => have:=LMc21.out;omega);intro v124 w30 ho hb hg hat;rw [← Ny123.out] at ho;have n0_:=Aside0.mk (Kd.N_afterv (ok:=(fun k_ => (w.heap.size ≤ k_)∧some k_ ≠ (.slice Ao9 y110.length co9 : Value).ownBlock∧k_ ≠ gb113)) (by (with_reducible repeat (first|apply Kd.N_alloc|apply Kd.N_drewN|apply Kd.N_drew));exact HO_3.out) hg hat);have n1_:=Aside0.mk (Kd.R_over' (by (with_reducible repeat (first|apply Kd.R_alloc|apply Kd.R_drewN|apply Kd.R_drew));exact HO_114001.out) (Kd.N_typed (by (with_reducible repeat (first|apply Kd.N_alloc|apply Kd.N_drewN|apply Kd.N_drew));exact HO117.out)) (by decide) hg);have n2_:=Aside0.mk (blk_grown (g:=gb113) (o:=.cells #[.int .i64 (rd l0 x4_1),.slice Ao9 y110.length co9] 96 (0,0)) (by (with_reducible repeat (first|refine blk_drewN ?_ _|refine blk_drew ?_|refine blk_alloc ?_ _));exact BK113.out) hg (Kd.N_away HO117.out (fun _ hk => hk.2.2.2)));have n3_:=Aside0.mk (Kd.V_afterv (ok:=(fun k_ => (w.heap.size ≤ k_)∧some k_ ≠ (.slice (some ad114) x3_1.length co12 : Value).ownBlock∧some k_ ≠ (.slice Ao9 y110.length co9 : Value).ownBlock∧k_ ≠ gb113)) (by (with_reducible repeat (first|apply Kd.V_alloc|apply Kd.V_drewN|apply Kd.V_drew));exact Kd.V_mono HL114_1.out (fun _ hk => ⟨⟨hk.1.1.1,⟨hk.1.2,⟨hk.1.1.2.1,hk.1.1.2.2⟩⟩⟩,hk.2⟩)) hg hat);have n4_:=Aside0.mk (Kd.V_afterv (ok:=(fun k_ => (w.heap.size ≤ k_)∧some k_ ≠ (.slice Ao9 y110.length co9 : Value).ownBlock∧k_ ≠ gb113)) (by (with_reducible repeat (first|apply Kd.V_alloc|apply Kd.V_drewN|apply Kd.V_drew));exact HO122.out) hg hat);have n5_:=Aside0.mk (hb);have n6_:=Aside0.mk (ho);clear HO_3;clear HO_114001;clear BK113;clear HL114_1;clear HO122;clear HB;clear HO117;have HO_3:=n0_;have HO_114001:=n1_;have BK113:=n2_;have HL114_1:=n3_;have HO122:=n4_;have HB:=n5_;have HO125:=n6_;clear n0_ n1_ n2_ n3_ n4_ n5_ n6_;clear ho hb hg hat;have hcz31_0 : w30.cell? ⟨gb113,0,none⟩ = some (.int .i64 (rd l0 x4_1)):=(blk_cell BK113.out 0).trans rfl;have hcz31_1 : w30.cell? ⟨gb113,1,none⟩ = some (.slice Ao9 y110.length co9):=(blk_cell BK113.out 1).trans rfl;have hfz31_0:=blk_frozen BK113.out 0;have hfz31_1:=blk_frozen BK113.out 1)|((with_reducible refine gate_builtin (b:=.append) (xs:=#[.tmp 49,.tmp 51]) rfl ?_);at_builtin;refine Kd.N_append k96 (w0:=w) w.heap.size rfl (.tmp 49) (.tmp 51) 93 96 (.agg #[(.int .i64 0),(.slice none 0 0)]) 32 rfl Try.underlying93 info96 rfl (by decide) (by omega) v124 y123 (⟨(rd l0 x4_1),y110⟩ : S96) [.int .i64 (rd l0 x4_1),.slice Ao9 y110.length co9] (fun k_ => (w.heap.size ≤ k_)∧k_ ≠ gb113) (fun k_ => ((fun k_ => (w.heap.size ≤ k_)∧k_ ≠ gb113)) k_∧some k_ ≠ (v124 : Value).ownBlock) rfl rfl ?aP (fun _ hk => hk) ?aF ?aO ?aB ?aS ?aL ?_;(case aP => exact (k96_mkF _ _ (⟨(rd l0 x4_1),y110⟩ : S96) (Kd.R_reads' (Kd.R_mono (ok':=(fun k_ => ((fun k_ => (w.heap.size ≤ k_)∧k_ ≠ gb113)) k_∧some k_ ≠ (v124 : Value).ownBlock)) (Kd.R_types (Kd.R_apart' (HO_114001.out) (Kd.N_typed HO125.out) (by decide)) BK113.out (by decide)) (fun k_ hk => ⟨⟨hk.1.1,hk.2⟩,hk.1.2⟩))).2.1 (Kd.R_F (Kd.R_mono (ok':=(fun k_ => ((fun k_ => (w.heap.size ≤ k_)∧k_ ≠ gb113)) k_∧some k_ ≠ (v124 : Value).ownBlock)) (Kd.R_types (Kd.R_apart' (HO_114001.out) (Kd.N_typed HO125.out) (by decide)) BK113.out (by decide)) (fun k_ hk => ⟨⟨hk.1.1,hk.2⟩,hk.1.2⟩)))));(case aB => exact (by repeat (first|(with_reducible first|exact HB.out|apply below_alloc|apply pw_below_drewN|apply below_drew1|refine below_set ?_ GE113.out)|exact HB.out)));(case aF => exact (fun k_ hk => ⟨(Nat.le_trans (below_size (by repeat (first|(with_reducible first|exact HB.out|apply below_alloc|apply pw_below_drewN|apply below_drew1|refine below_set ?_ GE113.out)|exact HB.out))) hk),Kd.freshB (g:=gb113) (o:=.cells #[.int .i64 (rd l0 x4_1),.slice Ao9 y110.length co9] 96 (0,0)) (by (with_reducible repeat (first|refine blk_drewN ?_ _|refine blk_drew ?_|refine blk_alloc ?_ _));exact BK113.out) k_ hk⟩));(case aO => exact (by (with_reducible repeat (first|apply Kd.N_alloc|apply Kd.N_drewN|apply Kd.N_drew));exact Kd.N_mono HO125.out (fun _ hk => ⟨hk.1,hk.2.2⟩)));(case aS => exact (below_size (by repeat (first|(with_reducible first|exact HB.out|apply below_alloc|apply pw_below_drewN|apply below_drew1|refine below_set ?_ GE113.out)|exact HB.out))));(case aL => have:=LMc22.out;omega);intro v127 w32 ho hb hg hat;rw [← Ny126.out] at ho;have n0_:=Aside0.mk (Kd.N_afterv (ok:=(fun k_ => (w.heap.size ≤ k_)∧some k_ ≠ (.slice Ao9 y110.length co9 : Value).ownBlock∧k_ ≠ gb113)) (by (with_reducible repeat (first|apply Kd.N_alloc|apply Kd.N_drewN|apply Kd.N_drew));exact HO_3.out) hg hat);have n1_:=Aside0.mk (blk_grown (g:=gb113) (o:=.cells #[.int .i64 (rd l0 x4_1),.slice Ao9 y110.length co9] 96 (0,0)) (by (with_reducible repeat (first|refine blk_drewN ?_ _|refine blk_drew ?_|refine blk_alloc ?_ _));exact BK113.out) hg (Kd.N_away HO125.out (fun _ hk => hk.2.2)));have n2_:=Aside0.mk (Kd.V_afterv (ok:=(fun k_ => (w.heap.size ≤ k_)∧some k_ ≠ (.slice (some ad114) x3_1.length co12 : Value).ownBlock∧some k_ ≠ (.slice Ao9 y110.length co9 : Value).ownBlock∧k_ ≠ gb113)) (by (with_reducible repeat (first|apply Kd.V_alloc|apply Kd.V_drewN|apply Kd.V_drew));exact HL114_1.out) hg hat);have n3_:=Aside0.mk (Kd.V_afterv (ok:=(fun k_ => (w.heap.size ≤ k_)∧some k_ ≠ (.slice Ao9 y110.length co9 : Value).ownBlock∧k_ ≠ gb113)) (by (with_reducible repeat (first|apply Kd.V_alloc|apply Kd.V_drewN|apply Kd.V_drew));exact HO122.out) hg hat);have n4_:=Aside0.mk (hb);have n5_:=Aside0.mk (ho);clear HO_3;clear BK113;clear HL114_1;clear HO122;clear HB;clear HO125;clear HO_114001;have HO_3:=n0_;have BK113:=n1_;have HL114_1:=n2_;have HO122:=n3_;have HB:=n4_;have HO128:=n5_;clear n0_ n1_ n2_ n3_ n4_ n5_;clear ho hb hg hat;have q33 : (x6_2 : Int) ≤ ((x3_1.length : Int) : Int):=of_decide_eq_true (by assumption);obtain ⟨i033,hi033,_,hsz33,_⟩:=info_parts info96;have hroom33 : x3_1.length ≤ co12:=(Kd.N_reads' HO_3.out).2.1;have hC33 : Kd.F k96 _ _ (some ad114) x3_1.length x3_1:=(Kd.V_at (base:=w.heap.size) (Kd.N_V HO_3.out)).2.2;have q033 : (0 : Int) ≤ (x6_2 : Int):=of_decide_eq_true (by assumption);have hcut33:=cut_from (P:=Try.prog) 93 96 .i64 Try.underlying93 hi033 2 hsz33 (some ad114) x3_1.length co12 x6_2 q033 q33;have hr33:=Kd.F_cut (m:=(x6_2 : Int).toNat) (c:=co12) hC33 (by omega) hroom33;obtain ⟨A33,hA33⟩ : ∃ A1,A1 = (if co12 = (x6_2 : Int).toNat then (some ad114) else ((some ad114) : Option Addr).map (·.add ((x6_2 : Int).toNat * 2))):=⟨_,rfl⟩;obtain ⟨c33,hc33⟩ : ∃ c1,c1 = co12 - (x6_2 : Int).toNat:=⟨_,rfl⟩;have hy33 : y129.length = x3_1.length - (x6_2 : Int).toNat:=(by rw [Ny129.out,List.length_drop] <;> omega);rw [show (x3_1).drop (x6_2 : Int).toNat = y129 from Ny129.out.symm] at hr33;replace hr33 : Kd.F k96 _ _ A33 y129.length y129:=(by rw [hA33];exact hr33);rw [← hy33,← hA33,← hc33] at hcut33;have HO133:=Aside0.mk (show Kd.V k96 96 _ w.heap.size _ (.slice A33 y129.length c33) y129 from Kd.V_mk (by rw [hy33,hc33];exact Nat.sub_le_sub_right hroom33 _) hr33);have HC133:=Aside0.mk (show y129.length ≤ c33 from by rw [hy33,hc33];exact Nat.sub_le_sub_right hroom33 _);clear hr33 hC33 hroom33 hi033 hsz33 hc33;have KY33:=Aside0.mk hy33;have KA33:=Aside0.mk hA33;clear hy33 hA33;replace q33:=eq_true q33)|((with_reducible refine gate_builtin (b:=.append) (xs:=#[.tmp 53,.tmp 56]) rfl ?_);at_builtin;refine Kd.N_append_rows k96 (w0:=w) w.heap.size rfl (.tmp 53) (.tmp 56) 93 96 (.agg #[(.int .i64 0),(.slice none 0 0)]) 32 rfl Try.underlying93 info96 rfl (by decide) (by omega) v127 y126 y129 _ _ _ (fun k_ => (w.heap.size ≤ k_)∧k_ ≠ gb113) (fun k_ => ((fun k_ => (w.heap.size ≤ k_)∧k_ ≠ gb113)) k_∧some k_ ≠ (v127 : Value).ownBlock) rfl rfl ?aO ?aR (fun _ hk => hk) ?aF ?aB ?aS ?aL ?_;(case aR => exact (by skip;exact Kd.V_F (Kd.V_mono (ok':=(fun k_ => ((fun k_ => (w.heap.size ≤ k_)∧k_ ≠ gb113)) k_∧some k_ ≠ (v127 : Value).ownBlock)) (HO133.out) (fun k_ hk => ⟨⟨hk.1.1,hk.1.2.2⟩,hk.2⟩))));(case aB => exact (by repeat (first|(with_reducible first|exact HB.out|apply below_alloc|apply pw_below_drewN|apply below_drew1|refine below_set ?_ GE113.out)|exact HB.out)));(case aF => exact (fun k_ hk => ⟨(Nat.le_trans (below_size (by repeat (first|(with_reducible first|exact HB.out|apply below_alloc|apply pw_below_drewN|apply below_drew1|refine below_set ?_ GE113.out)|exact HB.out))) hk),Kd.freshB (g:=gb113) (o:=.cells #[.int .i64 (rd l0 x4_1),.slice Ao9 y110.length co9] 96 (0,0)) (by (with_reducible repeat (first|refine blk_drewN ?_ _|refine blk_drew ?_|refine blk_alloc ?_ _));exact BK113.out) k_ hk⟩));(case aO => exact (by (with_reducible repeat (first|apply Kd.N_alloc|apply Kd.N_drewN|apply Kd.N_drew));exact HO128.out));(case aS => exact (below_size (by repeat (first|(with_reducible first|exact HB.out|apply below_alloc|apply pw_below_drewN|apply below_drew1|refine below_set ?_ GE113.out)|exact HB.out))));(case aL => have:=LMc25.out;omega);intro v135 w34 ho hb hg hat;rw [← Ny134.out] at ho;have n0_:=Aside0.mk (Kd.N_afterv (ok:=(fun k_ => (w.heap.size ≤ k_)∧k_ ≠ gb113)) (by (with_reducible repeat (first|apply Kd.N_alloc|apply Kd.N_drewN|apply Kd.N_drew));exact Kd.N_mono HO_3.out (fun _ hk => ⟨⟨hk.1.1,hk.1.2.2⟩,hk.2⟩)) hg hat);have n1_:=Aside0.mk (blk_grown (g:=gb113) (o:=.cells #[.int .i64 (rd l0 x4_1),.slice Ao9 y110.length co9] 96 (0,0)) (by (with_reducible repeat (first|refine blk_drewN ?_ _|refine blk_drew ?_|refine blk_alloc ?_ _));exact BK113.out) hg (Kd.N_away HO128.out (fun _ hk => hk.2)));have n2_:=Aside0.mk (Kd.V_afterv (ok:=(fun k_ => (w.heap.size ≤ k_)∧some k_ ≠ (.slice (some ad114) x3_1.length co12 : Value).ownBlock∧k_ ≠ gb113)) (by (with_reducible repeat (first|apply Kd.V_alloc|apply Kd.V_drewN|apply Kd.V_drew));exact Kd.V_mono HL114_1.out (fun _ hk => ⟨⟨hk.1.1,⟨hk.1.2.1,hk.1.2.2.2⟩⟩,hk.2⟩)) hg hat);have n3_:=Aside0.mk (Kd.V_afterv (ok:=(fun k_ => (w.heap.size ≤ k_)∧k_ ≠ gb113)) (by (with_reducible repeat (first|apply Kd.V_alloc|apply Kd.V_drewN|apply Kd.V_drew));exact Kd.V_mono HO122.out (fun _ hk => ⟨⟨hk.1.1,hk.1.2.2⟩,hk.2⟩)) hg hat);have n4_:=Aside0.mk (Kd.V_afterv (ok:=(fun k_ => (w.heap.size ≤ k_)∧k_ ≠ gb113)) (by (with_reducible repeat (first|apply Kd.V_alloc|apply Kd.V_drewN|apply Kd.V_drew));exact Kd.V_mono HO133.out (fun _ hk => ⟨⟨hk.1.1,hk.1.2.2⟩,hk.2⟩)) hg hat);have n5_:=Aside0.mk (hb);have n6_:=Aside0.mk (ho);clear HO_3;clear BK113;clear HL114_1;clear HO122;clear HO133;clear HB;clear HO128;have HO_3:=n0_;have BK113:=n1_;have HL114_1:=n2_;have HO122:=n3_;have HO133:=n4_;have HB:=n5_;have HO136:=n6_;clear n0_ n1_ n2_ n3_ n4_ n5_ n6_;clear ho hb hg hat));try go_wp2_with (first|((with_reducible refine gate_dst (N:=44) rfl ?_);refine Kd.N_lit k96 _ 96 ?hg (N':=44) ?hd (xs:=([] : List (S96))) (inner:=[]) (ok:=(fun k_ => (w.heap.size ≤ k_)∧some k_ ≠ (.slice (some ad114) x3_1.length co12 : Value).ownBlock∧some k_ ≠ (.slice Ao9 y110.length co9 : Value).ownBlock∧k_ ≠ gb113)) (okp:=(fun k_ => (w.heap.size ≤ k_)∧some k_ ≠ (.slice (some ad114) x3_1.length co12 : Value).ownBlock∧some k_ ≠ (.slice Ao9 y110.length co9 : Value).ownBlock∧k_ ≠ gb113)) ?hr ?hp (fun _ hk => hk) ((show ∀ k_,wr.heap.size ≤ k_ → (fun k_ => (w.heap.size ≤ k_)∧some k_ ≠ (.slice (some ad114) x3_1.length co12 : Value).ownBlock∧some k_ ≠ (.slice Ao9 y110.length co9 : Value).ownBlock∧k_ ≠ gb113) k_ from fun k_ hk => ⟨(Nat.le_trans (below_size (by repeat (first|(with_reducible first|exact HB.out|apply below_alloc|apply pw_below_drewN|apply below_drew1|refine below_set ?_ GE113.out)|exact HB.out))) hk),Kd.fresh' (Kd.N_lt (by (with_reducible repeat (first|apply Kd.N_alloc|apply Kd.N_drewN|apply Kd.N_drew));exact HO_3.out)) k_ hk,Kd.fresh' (Kd.R_lt (by (with_reducible repeat (first|apply Kd.R_alloc|apply Kd.R_drewN|apply Kd.R_drew));exact HO_114001.out)) k_ hk,Kd.freshB (g:=gb113) (o:=.cells #[.int .i64 (rd l0 x4_1),.slice Ao9 y110.length co9] 96 (0,0)) (by (with_reducible repeat (first|refine blk_drewN ?_ _|refine blk_drew ?_|refine blk_alloc ?_ _));exact BK113.out) k_ hk⟩) _ (Nat.le_refl _)) (Below.refl _ _) (Nat.le_refl _) (by simp) ?_;(case hd => rfl);(case hg => rfl);(case hr => first|(go_simp;done)|(go_simp;rfl));(case hp => exact (Reps.none _ _));intro v116 w27 ho28 hb hg_ hnew_;clear hg_ hnew_;(first|rw [← Ny115.out] at ho28|(simp only [Int.reduceToNat] at ho28;rw [← Ny115.out] at ho28));have n0_:=Aside0.mk (Kd.N_elder' (by (with_reducible repeat (first|apply Kd.N_alloc|apply Kd.N_drewN|apply Kd.N_drew));exact HO_3.out) (Kd.N_base ho28) hb);have n1_:=Aside0.mk (Kd.R_below (by (with_reducible repeat (first|apply Kd.R_alloc|apply Kd.R_drewN|apply Kd.R_drew));exact HO_114001.out) hb);have n2_:=Aside0.mk (Kd.V_elder' (by (with_reducible repeat (first|apply Kd.V_alloc|apply Kd.V_drewN|apply Kd.V_drew));exact HL114_1.out) (Kd.N_base ho28) hb);have n3_:=Aside0.mk (Kd.N_lower ho28 (below_size (by repeat (first|(with_reducible first|exact HB.out|apply below_alloc|apply pw_below_drewN|apply below_drew1|refine below_set ?_ GE113.out)|exact HB.out))));have n4_:=Aside0.mk (blk_below (g:=gb113) (o:=.cells #[.int .i64 (rd l0 x4_1),.slice Ao9 y110.length co9] 96 (0,0)) (by (with_reducible repeat (first|refine blk_drewN ?_ _|refine blk_drew ?_|refine blk_alloc ?_ _));exact BK113.out) hb);have n5_:=Aside0.mk (Kd.C_below (by repeat (first|(with_reducible exact HR114_1.out)|(with_reducible refine Kd.C_alloc ?_ _)|(with_reducible refine Kd.C_drewN ?_ _)|(with_reducible refine Kd.C_drew ?_)|exact HR114_1.out)) hb);have n6_:=Aside0.mk (below_step (by repeat (first|(with_reducible first|exact HB.out|apply below_alloc|apply pw_below_drewN|apply below_drew1|refine below_set ?_ GE113.out)|exact HB.out)) hb);clear HO_3;clear HO_114001;clear HL114_1;clear BK113;clear HR114_1;clear HB;have HO_3:=n0_;have HO_114001:=n1_;have HL114_1:=n2_;have HO117:=n3_;have BK113:=n4_;have HR114_1:=n5_;have HB:=n6_;clear n0_ n1_ n2_ n3_ n4_ n5_ n6_;clear hb ho28;have q29 : (x6_2 : Int) ≤ ((x3_1.length : Int) : Int):=of_decide_eq_true (by assumption);obtain ⟨i029,hi029,_,hsz29,_⟩:=info_parts info96;have hroom29 : x3_1.length ≤ co12:=(Kd.N_reads' HO_3.out).2.1;have hC29 : Kd.F k96 _ _ (some ad114) x3_1.length x3_1:=(Kd.V_at (base:=w.heap.size) (Kd.N_V HO_3.out)).2.2;have hcut29:=cut_to (P:=Try.prog) 93 96 .i64 Try.underlying93 hi029 (some ad114) x3_1.length co12 x6_2 (of_decide_eq_true (by assumption)) q29 hroom29;have hr29:=Kd.F_take (m:=(x6_2 : Int).toNat) hC29 (by omega);have hy29 : y118.length = (x6_2 : Int).toNat:=(by rw [Ny118.out,List.length_take];omega);rw [← Ny118.out] at hr29;rw [← hy29] at hcut29;have HO122:=Aside0.mk (show Kd.V k96 96 _ w.heap.size _ (.slice (some ad114) y118.length co12) y118 from Kd.V_mk (by omega) hr29);have HC122:=Aside0.mk (show y118.length ≤ co12 from by omega);clear hr29 hC29 hroom29 hi029 hsz29;have KY29:=Aside0.mk hy29;clear hy29;replace q29:=eq_true q29)|((with_reducible refine gate_builtin (b:=.append) (xs:=#[.tmp 44,.tmp 47]) rfl ?_);at_builtin;refine Kd.N_append_rows k96 (w0:=w) w.heap.size rfl (.tmp 44) (.tmp 47) 93 96 (.agg #[(.int .i64 0),(.slice none 0 0)]) 32 rfl Try.underlying93 info96 rfl (by decide) (by omega) v116 y115 y118 _ _ _ (fun k_ => (w.heap.size ≤ k_)∧some k_ ≠ (.slice Ao9 y110.length co9 : Value).ownBlock∧k_ ≠ gb113) (fun k_ => ((fun k_ => (w.heap.size ≤ k_)∧some k_ ≠ (.slice Ao9 y110.length co9 : Value).ownBlock∧k_ ≠ gb113)) k_∧some k_ ≠ (v116 : Value).ownBlock) rfl rfl ?aO ?aR (fun _ hk => hk) ?aF ?aB ?aS ?aL ?_;(case aR => exact (by skip;exact Kd.V_F (Kd.V_mono (ok':=(fun k_ => ((fun k_ => (w.heap.size ≤ k_)∧some k_ ≠ (.slice Ao9 y110.length co9 : Value).ownBlock∧k_ ≠ gb113)) k_∧some k_ ≠ (v116 : Value).ownBlock)) (HO122.out) (fun k_ hk => ⟨⟨hk.1.1,⟨hk.1.2.1,hk.1.2.2⟩⟩,hk.2⟩))));(case aB => exact (by repeat (first|(with_reducible first|exact HB.out|apply below_alloc|apply pw_below_drewN|apply below_drew1|refine below_set ?_ GE113.out)|exact HB.out)));(case aF => exact (fun k_ hk => ⟨(Nat.le_trans (below_size (by repeat (first|(with_reducible first|exact HB.out|apply below_alloc|apply pw_below_drewN|apply below_drew1|refine below_set ?_ GE113.out)|exact HB.out))) hk),Kd.fresh' (Kd.R_lt (by (with_reducible repeat (first|apply Kd.R_alloc|apply Kd.R_drewN|apply Kd.R_drew));exact HO_114001.out)) k_ hk,Kd.freshB (g:=gb113) (o:=.cells #[.int .i64 (rd l0 x4_1),.slice Ao9 y110.length co9] 96 (0,0)) (by (with_reducible repeat (first|refine blk_drewN ?_ _|refine blk_drew ?_|refine blk_alloc ?_ _));exact BK113.out) k_ hk⟩));(case aO => exact (by (with_reducible repeat (first|apply Kd.N_alloc|apply Kd.N_drewN|apply Kd.N_drew));exact Kd.N_mono HO117.out (fun _ hk => ⟨hk.1,⟨hk.2.2.1,hk.2.2.2⟩⟩)));(case aS => exact (below_size (by repeat (first|(with_reducible first|exact HB.out|apply below_alloc|apply pw_below_drewN|apply below_drew1|refine below_set ?_ GE113.out)|exact HB.out))));(case aL => have:=LMc21.out;omega);intro v124 w30 ho hb hg hat;rw [← Ny123.out] at ho;have n0_:=Aside0.mk (Kd.N_afterv (ok:=(fun k_ => (w.heap.size ≤ k_)∧some k_ ≠ (.slice Ao9 y110.length co9 : Value).ownBlock∧k_ ≠ gb113)) (by (with_reducible repeat (first|apply Kd.N_alloc|apply Kd.N_drewN|apply Kd.N_drew));exact HO_3.out) hg hat);have n1_:=Aside0.mk (Kd.R_over' (by (with_reducible repeat (first|apply Kd.R_alloc|apply Kd.R_drewN|apply Kd.R_drew));exact HO_114001.out) (Kd.N_typed (by (with_reducible repeat (first|apply Kd.N_alloc|apply Kd.N_drewN|apply Kd.N_drew));exact HO117.out)) (by decide) hg);have n2_:=Aside0.mk (blk_grown (g:=gb113) (o:=.cells #[.int .i64 (rd l0 x4_1),.slice Ao9 y110.length co9] 96 (0,0)) (by (with_reducible repeat (first|refine blk_drewN ?_ _|refine blk_drew ?_|refine blk_alloc ?_ _));exact BK113.out) hg (Kd.N_away HO117.out (fun _ hk => hk.2.2.2)));have n3_:=Aside0.mk (Kd.V_afterv (ok:=(fun k_ => (w.heap.size ≤ k_)∧some k_ ≠ (.slice (some ad114) x3_1.length co12 : Value).ownBlock∧some k_ ≠ (.slice Ao9 y110.length co9 : Value).ownBlock∧k_ ≠ gb113)) (by (with_reducible repeat (first|apply Kd.V_alloc|apply Kd.V_drewN|apply Kd.V_drew));exact Kd.V_mono HL114_1.out (fun _ hk => ⟨⟨hk.1.1.1,⟨hk.1.2,⟨hk.1.1.2.1,hk.1.1.2.2⟩⟩⟩,hk.2⟩)) hg hat);have n4_:=Aside0.mk (Kd.V_afterv (ok:=(fun k_ => (w.heap.size ≤ k_)∧some k_ ≠ (.slice Ao9 y110.length co9 : Value).ownBlock∧k_ ≠ gb113)) (by (with_reducible repeat (first|apply Kd.V_alloc|apply Kd.V_drewN|apply Kd.V_drew));exact HO122.out) hg hat);have n5_:=Aside0.mk (hb);have n6_:=Aside0.mk (ho);clear HO_3;clear HO_114001;clear BK113;clear HL114_1;clear HO122;clear HB;clear HO117;have HO_3:=n0_;have HO_114001:=n1_;have BK113:=n2_;have HL114_1:=n3_;have HO122:=n4_;have HB:=n5_;have HO125:=n6_;clear n0_ n1_ n2_ n3_ n4_ n5_ n6_;clear ho hb hg hat;have hcz31_0 : w30.cell? ⟨gb113,0,none⟩ = some (.int .i64 (rd l0 x4_1)):=(blk_cell BK113.out 0).trans rfl;have hcz31_1 : w30.cell? ⟨gb113,1,none⟩ = some (.slice Ao9 y110.length co9):=(blk_cell BK113.out 1).trans rfl;have hfz31_0:=blk_frozen BK113.out 0;have hfz31_1:=blk_frozen BK113.out 1)|((with_reducible refine gate_builtin (b:=.append) (xs:=#[.tmp 49,.tmp 51]) rfl ?_);at_builtin;refine Kd.N_append k96 (w0:=w) w.heap.size rfl (.tmp 49) (.tmp 51) 93 96 (.agg #[(.int .i64 0),(.slice none 0 0)]) 32 rfl Try.underlying93 info96 rfl (by decide) (by omega) v124 y123 (⟨(rd l0 x4_1),y110⟩ : S96) [.int .i64 (rd l0 x4_1),.slice Ao9 y110.length co9] (fun k_ => (w.heap.size ≤ k_)∧k_ ≠ gb113) (fun k_ => ((fun k_ => (w.heap.size ≤ k_)∧k_ ≠ gb113)) k_∧some k_ ≠ (v124 : Value).ownBlock) rfl rfl ?aP (fun _ hk => hk) ?aF ?aO ?aB ?aS ?aL ?_;(case aP => exact (k96_mkF _ _ (⟨(rd l0 x4_1),y110⟩ : S96) (Kd.R_reads' (Kd.R_mono (ok':=(fun k_ => ((fun k_ => (w.heap.size ≤ k_)∧k_ ≠ gb113)) k_∧some k_ ≠ (v124 : Value).ownBlock)) (Kd.R_types (Kd.R_apart' (HO_114001.out) (Kd.N_typed HO125.out) (by decide)) BK113.out (by decide)) (fun k_ hk => ⟨⟨hk.1.1,hk.2⟩,hk.1.2⟩))).2.1 (Kd.R_F (Kd.R_mono (ok':=(fun k_ => ((fun k_ => (w.heap.size ≤ k_)∧k_ ≠ gb113)) k_∧some k_ ≠ (v124 : Value).ownBlock)) (Kd.R_types (Kd.R_apart' (HO_114001.out) (Kd.N_typed HO125.out) (by decide)) BK113.out (by decide)) (fun k_ hk => ⟨⟨hk.1.1,hk.2⟩,hk.1.2⟩)))));(case aB => exact (by repeat (first|(with_reducible first|exact HB.out|apply below_alloc|apply pw_below_drewN|apply below_drew1|refine below_set ?_ GE113.out)|exact HB.out)));(case aF => exact (fun k_ hk => ⟨(Nat.le_trans (below_size (by repeat (first|(with_reducible first|exact HB.out|apply below_alloc|apply pw_below_drewN|apply below_drew1|refine below_set ?_ GE113.out)|exact HB.out))) hk),Kd.freshB (g:=gb113) (o:=.cells #[.int .i64 (rd l0 x4_1),.slice Ao9 y110.length co9] 96 (0,0)) (by (with_reducible repeat (first|refine blk_drewN ?_ _|refine blk_drew ?_|refine blk_alloc ?_ _));exact BK113.out) k_ hk⟩));(case aO => exact (by (with_reducible repeat (first|apply Kd.N_alloc|apply Kd.N_drewN|apply Kd.N_drew));exact Kd.N_mono HO125.out (fun _ hk => ⟨hk.1,hk.2.2⟩)));(case aS => exact (below_size (by repeat (first|(with_reducible first|exact HB.out|apply below_alloc|apply pw_below_drewN|apply below_drew1|refine below_set ?_ GE113.out)|exact HB.out))));(case aL => have:=LMc22.out;omega);intro v127 w32 ho hb hg hat;rw [← Ny126.out] at ho;have n0_:=Aside0.mk (Kd.N_afterv (ok:=(fun k_ => (w.heap.size ≤ k_)∧some k_ ≠ (.slice Ao9 y110.length co9 : Value).ownBlock∧k_ ≠ gb113)) (by (with_reducible repeat (first|apply Kd.N_alloc|apply Kd.N_drewN|apply Kd.N_drew));exact HO_3.out) hg hat);have n1_:=Aside0.mk (blk_grown (g:=gb113) (o:=.cells #[.int .i64 (rd l0 x4_1),.slice Ao9 y110.length co9] 96 (0,0)) (by (with_reducible repeat (first|refine blk_drewN ?_ _|refine blk_drew ?_|refine blk_alloc ?_ _));exact BK113.out) hg (Kd.N_away HO125.out (fun _ hk => hk.2.2)));have n2_:=Aside0.mk (Kd.V_afterv (ok:=(fun k_ => (w.heap.size ≤ k_)∧some k_ ≠ (.slice (some ad114) x3_1.length co12 : Value).ownBlock∧some k_ ≠ (.slice Ao9 y110.length co9 : Value).ownBlock∧k_ ≠ gb113)) (by (with_reducible repeat (first|apply Kd.V_alloc|apply Kd.V_drewN|apply Kd.V_drew));exact HL114_1.out) hg hat);have n3_:=Aside0.mk (Kd.V_afterv (ok:=(fun k_ => (w.heap.size ≤ k_)∧some k_ ≠ (.slice Ao9 y110.length co9 : Value).ownBlock∧k_ ≠ gb113)) (by (with_reducible repeat (first|apply Kd.V_alloc|apply Kd.V_drewN|apply Kd.V_drew));exact HO122.out) hg hat);have n4_:=Aside0.mk (hb);have n5_:=Aside0.mk (ho);clear HO_3;clear BK113;clear HL114_1;clear HO122;clear HB;clear HO125;clear HO_114001;have HO_3:=n0_;have BK113:=n1_;have HL114_1:=n2_;have HO122:=n3_;have HB:=n4_;have HO128:=n5_;clear n0_ n1_ n2_ n3_ n4_ n5_;clear ho hb hg hat;have q33 : (x6_2 : Int) ≤ ((x3_1.length : Int) : Int):=of_decide_eq_true (by assumption);obtain ⟨i033,hi033,_,hsz33,_⟩:=info_parts info96;have hroom33 : x3_1.length ≤ co12:=(Kd.N_reads' HO_3.out).2.1;have hC33 : Kd.F k96 _ _ (some ad114) x3_1.length x3_1:=(Kd.V_at (base:=w.heap.size) (Kd.N_V HO_3.out)).2.2;have q033 : (0 : Int) ≤ (x6_2 : Int):=of_decide_eq_true (by assumption);have hcut33:=cut_from (P:=Try.prog) 93 96 .i64 Try.underlying93 hi033 2 hsz33 (some ad114) x3_1.length co12 x6_2 q033 q33;have hr33:=Kd.F_cut (m:=(x6_2 : Int).toNat) (c:=co12) hC33 (by omega) hroom33;obtain ⟨A33,hA33⟩ : ∃ A1,A1 = (if co12 = (x6_2 : Int).toNat then (some ad114) else ((some ad114) : Option Addr).map (·.add ((x6_2 : Int).toNat * 2))):=⟨_,rfl⟩;obtain ⟨c33,hc33⟩ : ∃ c1,c1 = co12 - (x6_2 : Int).toNat:=⟨_,rfl⟩;have hy33 : y129.length = x3_1.length - (x6_2 : Int).toNat:=(by rw [Ny129.out,List.length_drop] <;> omega);rw [show (x3_1).drop (x6_2 : Int).toNat = y129 from Ny129.out.symm] at hr33;replace hr33 : Kd.F k96 _ _ A33 y129.length y129:=(by rw [hA33];exact hr33);rw [← hy33,← hA33,← hc33] at hcut33;have HO133:=Aside0.mk (show Kd.V k96 96 _ w.heap.size _ (.slice A33 y129.length c33) y129 from Kd.V_mk (by rw [hy33,hc33];exact Nat.sub_le_sub_right hroom33 _) hr33);have HC133:=Aside0.mk (show y129.length ≤ c33 from by rw [hy33,hc33];exact Nat.sub_le_sub_right hroom33 _);clear hr33 hC33 hroom33 hi033 hsz33 hc33;have KY33:=Aside0.mk hy33;have KA33:=Aside0.mk hA33;clear hy33 hA33;replace q33:=eq_true q33)|((with_reducible refine gate_builtin (b:=.append) (xs:=#[.tmp 53,.tmp 56]) rfl ?_);at_builtin;refine Kd.N_append_rows k96 (w0:=w) w.heap.size rfl (.tmp 53) (.tmp 56) 93 96 (.agg #[(.int .i64 0),(.slice none 0 0)]) 32 rfl Try.underlying93 info96 rfl (by decide) (by omega) v127 y126 y129 _ _ _ (fun k_ => (w.heap.size ≤ k_)∧k_ ≠ gb113) (fun k_ => ((fun k_ => (w.heap.size ≤ k_)∧k_ ≠ gb113)) k_∧some k_ ≠ (v127 : Value).ownBlock) rfl rfl ?aO ?aR (fun _ hk => hk) ?aF ?aB ?aS ?aL ?_;(case aR => exact (by skip;exact Kd.V_F (Kd.V_mono (ok':=(fun k_ => ((fun k_ => (w.heap.size ≤ k_)∧k_ ≠ gb113)) k_∧some k_ ≠ (v127 : Value).ownBlock)) (HO133.out) (fun k_ hk => ⟨⟨hk.1.1,hk.1.2.2⟩,hk.2⟩))));(case aB => exact (by repeat (first|(with_reducible first|exact HB.out|apply below_alloc|apply pw_below_drewN|apply below_drew1|refine below_set ?_ GE113.out)|exact HB.out)));(case aF => exact (fun k_ hk => ⟨(Nat.le_trans (below_size (by repeat (first|(with_reducible first|exact HB.out|apply below_alloc|apply pw_below_drewN|apply below_drew1|refine below_set ?_ GE113.out)|exact HB.out))) hk),Kd.freshB (g:=gb113) (o:=.cells #[.int .i64 (rd l0 x4_1),.slice Ao9 y110.length co9] 96 (0,0)) (by (with_reducible repeat (first|refine blk_drewN ?_ _|refine blk_drew ?_|refine blk_alloc ?_ _));exact BK113.out) k_ hk⟩));(case aO => exact (by (with_reducible repeat (first|apply Kd.N_alloc|apply Kd.N_drewN|apply Kd.N_drew));exact HO128.out));(case aS => exact (below_size (by repeat (first|(with_reducible first|exact HB.out|apply below_alloc|apply pw_below_drewN|apply below_drew1|refine below_set ?_ GE113.out)|exact HB.out))));(case aL => have:=LMc25.out;omega);intro v135 w34 ho hb hg hat;rw [← Ny134.out] at ho;have n0_:=Aside0.mk (Kd.N_afterv (ok:=(fun k_ => (w.heap.size ≤ k_)∧k_ ≠ gb113)) (by (with_reducible repeat (first|apply Kd.N_alloc|apply Kd.N_drewN|apply Kd.N_drew));exact Kd.N_mono HO_3.out (fun _ hk => ⟨⟨hk.1.1,hk.1.2.2⟩,hk.2⟩)) hg hat);have n1_:=Aside0.mk (blk_grown (g:=gb113) (o:=.cells #[.int .i64 (rd l0 x4_1),.slice Ao9 y110.length co9] 96 (0,0)) (by (with_reducible repeat (first|refine blk_drewN ?_ _|refine blk_drew ?_|refine blk_alloc ?_ _));exact BK113.out) hg (Kd.N_away HO128.out (fun _ hk => hk.2)));have n2_:=Aside0.mk (Kd.V_afterv (ok:=(fun k_ => (w.heap.size ≤ k_)∧some k_ ≠ (.slice (some ad114) x3_1.length co12 : Value).ownBlock∧k_ ≠ gb113)) (by (with_reducible repeat (first|apply Kd.V_alloc|apply Kd.V_drewN|apply Kd.V_drew));exact Kd.V_mono HL114_1.out (fun _ hk => ⟨⟨hk.1.1,⟨hk.1.2.1,hk.1.2.2.2⟩⟩,hk.2⟩)) hg hat);have n3_:=Aside0.mk (Kd.V_afterv (ok:=(fun k_ => (w.heap.size ≤ k_)∧k_ ≠ gb113)) (by (with_reducible repeat (first|apply Kd.V_alloc|apply Kd.V_drewN|apply Kd.V_drew));exact Kd.V_mono HO122.out (fun _ hk => ⟨⟨hk.1.1,hk.1.2.2⟩,hk.2⟩)) hg hat);have n4_:=Aside0.mk (Kd.V_afterv (ok:=(fun k_ => (w.heap.size ≤ k_)∧k_ ≠ gb113)) (by (with_reducible repeat (first|apply Kd.V_alloc|apply Kd.V_drewN|apply Kd.V_drew));exact Kd.V_mono HO133.out (fun _ hk => ⟨⟨hk.1.1,hk.1.2.2⟩,hk.2⟩)) hg hat);have n5_:=Aside0.mk (hb);have n6_:=Aside0.mk (ho);clear HO_3;clear BK113;clear HL114_1;clear HO122;clear HO133;clear HB;clear HO128;have HO_3:=n0_;have BK113:=n1_;have HL114_1:=n2_;have HO122:=n3_;have HO133:=n4_;have HB:=n5_;have HO136:=n6_;clear n0_ n1_ n2_ n3_ n4_ n5_ n6_;clear ho hb hg hat)))
     go_roundg k2
     case measure => have:=HK1.out;have:=HK2.out;omega
     case rel => exact ⟨(y134),(wrap64 (x4_1 + 1)),(by first|rfl|(simp;done)|(simp [*];done)),H',⟨by have:=HK1.out;have:=HK2.out;omega⟩,⟨by (with_reducible repeat (first|apply Kd.N_alloc|apply Kd.N_drewN|apply Kd.N_drew));exact Kd.N_mono HO136.out (fun _ hk => hk.1)⟩,⟨by repeat (first|(with_reducible first|exact HB.out|apply below_alloc|apply pw_below_drewN|apply below_drew1|refine below_set ?_ GE113.out)|exact HB.out)⟩⟩
end Go.Proofs.Ytimomemkbcidnaa.PFnExactTokenLengths
