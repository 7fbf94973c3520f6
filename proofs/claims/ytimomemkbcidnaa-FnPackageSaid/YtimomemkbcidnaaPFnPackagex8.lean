-- Written by a program of this session (a changed print); Lean checks it.
import Derived.Test.YtimomemkbcidnaaPFnPackagex0
import Derived.Test.YtimomemkbcidnaaPFnPackagex1
import Derived.Test.YtimomemkbcidnaaPFnPackagex6
import Derived.Test.YtimomemkbcidnaaPFnPackagex7
namespace Go.Proofs.Ytimomemkbcidnaa.PFnPackage
open Go.RowKit Go.Proofs.YtimomemkbcidnaaW.PrintWords Go.Proofs.YtimomemkbcidnaaW.PrintLast Go.Proofs.YtimomemkbcidnaaW.PrintMore
attribute [local go_sem] max2_int min2_int max_two min_two max_three min_three max_four min_four   -- for this text's walks alone
set_option linter.unusedVariables false
set_option linter.unusedSimpArgs false
open Act renaming put → sPu
open List renaming setIfInBounds_toArray → sIa, set_cons_zero → sCz, set_cons_succ → sCs
open Bool renaming true → Y, false → Z

/-! ### impl_LimitedLengths: function 39 -/
mutual
def impl_LimitedLengths.l0 : Nat → List Int → Int → List Int → Int → Int → Option (List Int × Bool)
  | 0, _, _, _, _, _ => none
  | k + 1, x0, x1, x16, x17, x18 => if x18 < x17 then (if 0 ≤ x18 then (if x18 < (x16.length : Int) then ((impl_within.f (rd x16 x18) 0 12000).bind fun t317 => (if t317 = true then (impl_LimitedLengths.l0 k x0 x1 x16 x17 (wrap64 (x18 + 1))) else (some (([] : List Int), false)))) else (none)) else (none)) else (if (x0.length : Int) > 288 then (impl_LimitedLengths.j1 k x0 x1 true) else ((impl_within.f x1 1 15).bind fun t318 => (impl_LimitedLengths.j1 k x0 x1 (!t318))))
def impl_LimitedLengths.j1 : Nat → List Int → Int → Bool → Option (List Int × Bool)
  | 0, _, _, _ => none
  | k + 1, x0, x1, x33 => if x33 = true then (some (([] : List Int), false)) else ((impl_coinsOf.f k x0).bind fun t319 => ((impl_powerOf.f x1).bind fun t322 => (if (t319.length : Int) > t322 then (some (([] : List Int), false)) else (if 0 ≤ (x0.length : Int) then (if ((x0.length : Int) : Int).toNat ≤ 35184372088832 then ((some (List.replicate ((x0.length : Int) : Int).toNat 0 : List Int)).bind fun y323 => (if (t319.length : Int) = 1 then (if 0 < (t319.length : Int) then (if 0 < (((rd_T101 t319 0).f1).length : Int) then (if 0 ≤ (rd ((rd_T101 t319 0).f1) 0) then (if (rd ((rd_T101 t319 0).f1) 0) < (y323.length : Int) then (impl_LimitedLengths.j2 k x1 t319 (t319.length : Int) (y323.set ((rd ((rd_T101 t319 0).f1) 0) : Int).toNat 1)) else (none)) else (none)) else (none)) else (none)) else (impl_LimitedLengths.j2 k x1 t319 (t319.length : Int) y323))) else (none)) else (none)))))
def impl_LimitedLengths.j2 : Nat → Int → List (S101) → Int → List Int → Option (List Int × Bool)
  | 0, _, _, _, _ => none
  | k + 1, x1, x8, x9, x10 => if x9 < 2 then (some (x10, true)) else (impl_LimitedLengths.l1 k x8 x9 x10 x8 (wrap64 (x1 - 1)) 0)
def impl_LimitedLengths.l1 : Nat → List (S101) → Int → List Int → List (S101) → Int → Int → Option (List Int × Bool)
  | 0, _, _, _, _, _, _ => none
  | k + 1, x8, x9, x10, x11, x60, x61 => if x61 < x60 then ((impl_nextCoins.f k x8 x11).bind fun t329 => (impl_LimitedLengths.l1 k x8 x9 x10 t329 x60 (wrap64 (x61 + 1)))) else (if 0 ≤ (wrap64 ((wrap64 (2 * x9)) - 2)) then (if (wrap64 ((wrap64 (2 * x9)) - 2)) ≤ (x11.length : Int) then ((some (x11.take ((wrap64 ((wrap64 (2 * x9)) - 2)) : Int).toNat : List (S101))).bind fun y332 => (impl_LimitedLengths.l2 k x10 y332 (y332.length : Int) 0)) else (none)) else (none))
def impl_LimitedLengths.l2 : Nat → List Int → List (S101) → Int → Int → Option (List Int × Bool)
  | 0, _, _, _, _ => none
  | k + 1, x10, x71, x72, x73 => if x73 < x72 then (if 0 ≤ x73 then (if x73 < (x71.length : Int) then (impl_LimitedLengths.l3 k x10 x71 x72 x73 ((rd_T101 x71 x73).f1) (((rd_T101 x71 x73).f1).length : Int) 0) else (none)) else (none)) else (some (x10, true))
def impl_LimitedLengths.l3 : Nat → List Int → List (S101) → Int → Int → List Int → Int → Int → Option (List Int × Bool)
  | 0, _, _, _, _, _, _, _ => none
  | k + 1, x10, x71, x72, x73, x78, x79, x80 => if x80 < x79 then (if 0 ≤ x80 then (if x80 < (x78.length : Int) then (if 0 ≤ (rd x78 x80) then (if (rd x78 x80) < (x10.length : Int) then (impl_LimitedLengths.l3 k (x10.set ((rd x78 x80) : Int).toNat (wrap64 ((rd x10 (rd x78 x80)) + 1))) x71 x72 x73 x78 x79 (wrap64 (x80 + 1))) else (none)) else (none)) else (none)) else (none)) else (impl_LimitedLengths.l2 k x10 x71 x72 (wrap64 (x73 + 1)))
end
def impl_LimitedLengths.f (k : Nat) (l0 : List Int) (a1 : Int) : Option (List Int × Bool) := impl_LimitedLengths.l0 k l0 a1 l0 (l0.length : Int) 0
theorem impl_LimitedLengths.mono_l : ∀ k, (∀ y0 y1 y2 y3 y4, LeO (impl_LimitedLengths.l0 k y0 y1 y2 y3 y4) (impl_LimitedLengths.l0 (k + 1) y0 y1 y2 y3 y4)) ∧ (∀ y0 y1 y2, LeO (impl_LimitedLengths.j1 k y0 y1 y2) (impl_LimitedLengths.j1 (k + 1) y0 y1 y2)) ∧ (∀ y0 y1 y2 y3, LeO (impl_LimitedLengths.j2 k y0 y1 y2 y3) (impl_LimitedLengths.j2 (k + 1) y0 y1 y2 y3)) ∧ (∀ y0 y1 y2 y3 y4 y5, LeO (impl_LimitedLengths.l1 k y0 y1 y2 y3 y4 y5) (impl_LimitedLengths.l1 (k + 1) y0 y1 y2 y3 y4 y5)) ∧ (∀ y0 y1 y2 y3, LeO (impl_LimitedLengths.l2 k y0 y1 y2 y3) (impl_LimitedLengths.l2 (k + 1) y0 y1 y2 y3)) ∧ (∀ y0 y1 y2 y3 y4 y5 y6, LeO (impl_LimitedLengths.l3 k y0 y1 y2 y3 y4 y5 y6) (impl_LimitedLengths.l3 (k + 1) y0 y1 y2 y3 y4 y5 y6))
  | 0 => ⟨fun _ _ _ _ _ r h => by simp [impl_LimitedLengths.l0] at h, fun _ _ _ r h => by simp [impl_LimitedLengths.j1] at h, fun _ _ _ _ r h => by simp [impl_LimitedLengths.j2] at h, fun _ _ _ _ _ _ r h => by simp [impl_LimitedLengths.l1] at h, fun _ _ _ _ r h => by simp [impl_LimitedLengths.l2] at h, fun _ _ _ _ _ _ _ r h => by simp [impl_LimitedLengths.l3] at h⟩
  | k + 1 => by
    obtain ⟨ih0, ih1, ih2, ih3, ih4, ih5⟩ := impl_LimitedLengths.mono_l k
    refine ⟨?_, ?_, ?_, ?_, ?_, ?_⟩
    · intro y0 y1 y2 y3 y4
      unfold impl_LimitedLengths.l0
      repeat' first
      | (with_reducible exact ih0 _ _ _ _ _)
      | (with_reducible exact ih1 _ _ _)
      | (with_reducible exact ih2 _ _ _ _)
      | (with_reducible exact ih3 _ _ _ _ _ _)
      | (with_reducible exact ih4 _ _ _ _)
      | (with_reducible exact ih5 _ _ _ _ _ _ _)
      | (with_reducible exact impl_coinsOf.mono _ _)
      | (with_reducible exact impl_nextCoins.mono _ _ _)
      | (with_reducible exact LeO.refl _)
      | (with_reducible exact LeO.none _)
      | (with_reducible refine LeO.ite ?_ ?_)
      | (with_reducible refine LeO.bind ?_ (fun _ => ?_))
      | exact ih0 _ _ _ _ _
      | exact ih1 _ _ _
      | exact ih2 _ _ _ _
      | exact ih3 _ _ _ _ _ _
      | exact ih4 _ _ _ _
      | exact ih5 _ _ _ _ _ _ _
      | exact impl_coinsOf.mono _ _
      | exact impl_nextCoins.mono _ _ _
      | exact LeO.none _
      | refine LeO.ite ?_ ?_
      | refine LeO.bind ?_ (fun _ => ?_)
    · intro y0 y1 y2
      unfold impl_LimitedLengths.j1
      repeat' first
      | (with_reducible exact ih0 _ _ _ _ _)
      | (with_reducible exact ih1 _ _ _)
      | (with_reducible exact ih2 _ _ _ _)
      | (with_reducible exact ih3 _ _ _ _ _ _)
      | (with_reducible exact ih4 _ _ _ _)
      | (with_reducible exact ih5 _ _ _ _ _ _ _)
      | (with_reducible exact impl_coinsOf.mono _ _)
      | (with_reducible exact impl_nextCoins.mono _ _ _)
      | (with_reducible exact LeO.refl _)
      | (with_reducible exact LeO.none _)
      | (with_reducible refine LeO.ite ?_ ?_)
      | (with_reducible refine LeO.bind ?_ (fun _ => ?_))
      | exact ih0 _ _ _ _ _
      | exact ih1 _ _ _
      | exact ih2 _ _ _ _
      | exact ih3 _ _ _ _ _ _
      | exact ih4 _ _ _ _
      | exact ih5 _ _ _ _ _ _ _
      | exact impl_coinsOf.mono _ _
      | exact impl_nextCoins.mono _ _ _
      | exact LeO.none _
      | refine LeO.ite ?_ ?_
      | refine LeO.bind ?_ (fun _ => ?_)
    · intro y0 y1 y2 y3
      unfold impl_LimitedLengths.j2
      repeat' first
      | (with_reducible exact ih0 _ _ _ _ _)
      | (with_reducible exact ih1 _ _ _)
      | (with_reducible exact ih2 _ _ _ _)
      | (with_reducible exact ih3 _ _ _ _ _ _)
      | (with_reducible exact ih4 _ _ _ _)
      | (with_reducible exact ih5 _ _ _ _ _ _ _)
      | (with_reducible exact impl_coinsOf.mono _ _)
      | (with_reducible exact impl_nextCoins.mono _ _ _)
      | (with_reducible exact LeO.refl _)
      | (with_reducible exact LeO.none _)
      | (with_reducible refine LeO.ite ?_ ?_)
      | (with_reducible refine LeO.bind ?_ (fun _ => ?_))
      | exact ih0 _ _ _ _ _
      | exact ih1 _ _ _
      | exact ih2 _ _ _ _
      | exact ih3 _ _ _ _ _ _
      | exact ih4 _ _ _ _
      | exact ih5 _ _ _ _ _ _ _
      | exact impl_coinsOf.mono _ _
      | exact impl_nextCoins.mono _ _ _
      | exact LeO.none _
      | refine LeO.ite ?_ ?_
      | refine LeO.bind ?_ (fun _ => ?_)
    · intro y0 y1 y2 y3 y4 y5
      unfold impl_LimitedLengths.l1
      repeat' first
      | (with_reducible exact ih0 _ _ _ _ _)
      | (with_reducible exact ih1 _ _ _)
      | (with_reducible exact ih2 _ _ _ _)
      | (with_reducible exact ih3 _ _ _ _ _ _)
      | (with_reducible exact ih4 _ _ _ _)
      | (with_reducible exact ih5 _ _ _ _ _ _ _)
      | (with_reducible exact impl_coinsOf.mono _ _)
      | (with_reducible exact impl_nextCoins.mono _ _ _)
      | (with_reducible exact LeO.refl _)
      | (with_reducible exact LeO.none _)
      | (with_reducible refine LeO.ite ?_ ?_)
      | (with_reducible refine LeO.bind ?_ (fun _ => ?_))
      | exact ih0 _ _ _ _ _
      | exact ih1 _ _ _
      | exact ih2 _ _ _ _
      | exact ih3 _ _ _ _ _ _
      | exact ih4 _ _ _ _
      | exact ih5 _ _ _ _ _ _ _
      | exact impl_coinsOf.mono _ _
      | exact impl_nextCoins.mono _ _ _
      | exact LeO.none _
      | refine LeO.ite ?_ ?_
      | refine LeO.bind ?_ (fun _ => ?_)
    · intro y0 y1 y2 y3
      unfold impl_LimitedLengths.l2
      repeat' first
      | (with_reducible exact ih0 _ _ _ _ _)
      | (with_reducible exact ih1 _ _ _)
      | (with_reducible exact ih2 _ _ _ _)
      | (with_reducible exact ih3 _ _ _ _ _ _)
      | (with_reducible exact ih4 _ _ _ _)
      | (with_reducible exact ih5 _ _ _ _ _ _ _)
      | (with_reducible exact impl_coinsOf.mono _ _)
      | (with_reducible exact impl_nextCoins.mono _ _ _)
      | (with_reducible exact LeO.refl _)
      | (with_reducible exact LeO.none _)
      | (with_reducible refine LeO.ite ?_ ?_)
      | (with_reducible refine LeO.bind ?_ (fun _ => ?_))
      | exact ih0 _ _ _ _ _
      | exact ih1 _ _ _
      | exact ih2 _ _ _ _
      | exact ih3 _ _ _ _ _ _
      | exact ih4 _ _ _ _
      | exact ih5 _ _ _ _ _ _ _
      | exact impl_coinsOf.mono _ _
      | exact impl_nextCoins.mono _ _ _
      | exact LeO.none _
      | refine LeO.ite ?_ ?_
      | refine LeO.bind ?_ (fun _ => ?_)
    · intro y0 y1 y2 y3 y4 y5 y6
      unfold impl_LimitedLengths.l3
      repeat' first
      | (with_reducible exact ih0 _ _ _ _ _)
      | (with_reducible exact ih1 _ _ _)
      | (with_reducible exact ih2 _ _ _ _)
      | (with_reducible exact ih3 _ _ _ _ _ _)
      | (with_reducible exact ih4 _ _ _ _)
      | (with_reducible exact ih5 _ _ _ _ _ _ _)
      | (with_reducible exact impl_coinsOf.mono _ _)
      | (with_reducible exact impl_nextCoins.mono _ _ _)
      | (with_reducible exact LeO.refl _)
      | (with_reducible exact LeO.none _)
      | (with_reducible refine LeO.ite ?_ ?_)
      | (with_reducible refine LeO.bind ?_ (fun _ => ?_))
      | exact ih0 _ _ _ _ _
      | exact ih1 _ _ _
      | exact ih2 _ _ _ _
      | exact ih3 _ _ _ _ _ _
      | exact ih4 _ _ _ _
      | exact ih5 _ _ _ _ _ _ _
      | exact impl_coinsOf.mono _ _
      | exact impl_nextCoins.mono _ _ _
      | exact LeO.none _
      | refine LeO.ite ?_ ?_
      | refine LeO.bind ?_ (fun _ => ?_)
theorem impl_LimitedLengths.mono : ∀ a0 a1 k, LeO (impl_LimitedLengths.f k a0 a1) (impl_LimitedLengths.f (k + 1) a0 a1) := by
  intro a0 a1 k
  obtain ⟨ih0, ih1, ih2, ih3, ih4, ih5⟩ := impl_LimitedLengths.mono_l k
  unfold impl_LimitedLengths.f
  repeat' first
      | (with_reducible exact ih0 _ _ _ _ _)
      | (with_reducible exact ih1 _ _ _)
      | (with_reducible exact ih2 _ _ _ _)
      | (with_reducible exact ih3 _ _ _ _ _ _)
      | (with_reducible exact ih4 _ _ _ _)
      | (with_reducible exact ih5 _ _ _ _ _ _ _)
      | (with_reducible exact impl_coinsOf.mono _ _)
      | (with_reducible exact impl_nextCoins.mono _ _ _)
      | (with_reducible exact LeO.refl _)
      | (with_reducible exact LeO.none _)
      | (with_reducible refine LeO.ite ?_ ?_)
      | (with_reducible refine LeO.bind ?_ (fun _ => ?_))
      | exact ih0 _ _ _ _ _
      | exact ih1 _ _ _
      | exact ih2 _ _ _ _
      | exact ih3 _ _ _ _ _ _
      | exact ih4 _ _ _ _
      | exact ih5 _ _ _ _ _ _ _
      | exact impl_coinsOf.mono _ _
      | exact impl_nextCoins.mono _ _ _
      | exact LeO.none _
      | refine LeO.ite ?_ ?_
      | refine LeO.bind ?_ (fun _ => ?_)
set_option maxHeartbeats 8000000 in
set_option maxRecDepth 100000 in
theorem impl_LimitedLengths.calls (k : Nat) (A0 : Option Addr) (c0 : Nat) (l0 : List Int) (a1 : Int) (r1 : List Int) (r2 : Bool) (w : World) (hr0 : Kd.C (Kd.int .i64) w A0 l0.length l0) (hc0 : l0.length ≤ c0) (h : impl_LimitedLengths.f k l0 a1 = some (r1, r2)) :
    Calls Try.prog 39 #[.slice A0 l0.length c0, .int .i64 a1] w fun e w' => ∃ v0_ : Value, e = .returned (.tuple #[v0_, .bool r2]) ∧ Kd.R (Kd.int .i64) 3 w' w.heap.size (fun _ => True) v0_ r1 ∧ Below w.heap.size w w' := by
 have hu101:=Try.underlying101
 have HR0:=Aside0.mk hr0
 have HC0:=Aside0.mk hc0
 clear hr0 hc0
 have HB:=Aside0.mk (Below.refl w.heap.size w)
 have H : (impl_LimitedLengths.l0 k l0 a1 l0 (l0.length : Int) 0) = some (r1,r2):=h
 clear h
 have H':=Aside0.mk H
 clear H
 go_enter Try.func39,Try.ntmps39
 go_wp2
 go_loopg [18] k (fun kq v18 w' => ∃ (x18_1 : Int),v18 = .int .i64 x18_1∧Aside0 (impl_LimitedLengths.l0 kq l0 a1 l0 (l0.length : Int) x18_1 = some (r1,r2))∧Aside0 (kq ≤ k)∧Aside0 (Below w.heap.size w w'))
 case atStart => exact ⟨(0),(by first|rfl|(simp;done)|(simp [*];done)),H',⟨Nat.le_refl _⟩,⟨by repeat (first|(with_reducible first|exact HB.out|apply below_alloc|apply pw_below_drewN|apply below_drew1)|exact HB.out)⟩⟩
 case round =>
  clear H'
  obtain ⟨x18_1,rfl,HA,HK1,HB⟩:=hrel
  cases gk with
  | zero => exact absurd HA.out (by simp [impl_LimitedLengths.l0])
  | succ k1 =>
   have H:=HA.out
   clear HA
   simp only [impl_LimitedLengths.l0] at H
   by_cases c3 : x18_1 < (l0.length : Int)
   ·rw [if_pos c3] at H
    have c3b0 : decide (x18_1 < (l0.length : Int)) = true:=decide_eq_true c3
    clear c3
    by_cases c4 : 0 ≤ x18_1
    rotate_left
    ·rw [if_neg c4] at H
     exact absurd H (by simp)
    rw [if_pos c4] at H
    have c4b0 : decide (0 ≤ x18_1) = true:=decide_eq_true c4
    clear c4
    by_cases c5 : x18_1 < (l0.length : Int)
    rotate_left
    ·rw [if_neg c5] at H
     exact absurd H (by simp)
    rw [if_pos c5] at H
    have c5b0 : decide (x18_1 < (l0.length : Int)) = true:=decide_eq_true c5
    clear c5
    replace H:=Option.bind_eq_some_iff.mp H
    obtain ⟨t317,A60,H⟩:=H
    replace H : (if t317 = true then (impl_LimitedLengths.l0 k1 l0 a1 l0 (l0.length : Int) (wrap64 (x18_1 + 1))) else (some (([] : List Int),false))) = some (r1,r2):=H
    have A6:=Aside0.mk A60
    clear A60
    by_cases c7 : t317 = true
    ·subst c7
     have H1 : (impl_LimitedLengths.l0 k1 l0 a1 l0 (l0.length : Int) (wrap64 (x18_1 + 1))) = some (r1,r2):=by rw [if_pos rfl] at H;exact H
     clear H
     have H:=H1
     clear H1
     have H':=Aside0.mk H
     clear H
     have p316 : 0 ≤ (x18_1 : Int):=of_decide_eq_true (by assumption)
     have q316 : x18_1 < (l0.length : Int):=of_decide_eq_true (by assumption)
     obtain ⟨ad316,e316,hx316_0⟩:=Kd.at_int HR0.out x18_1 p316 q316
     cases e316
     replace hx316_0:=(HB.out.cell (World.block_lt_of_cell? w _ hx316_0)).trans hx316_0
     replace p316:=eq_true p316
     replace q316:=eq_true q316
     go_wp2_with (first|((with_reducible refine gate_callee (f:=53) rfl ?_);refine goesL_ (some 23) rfl rfl Try.func53 (by kernel_rfl) rfl #[.int .i64 (rd l0 x18_1),.int .i64 0,.int .i64 12000] rfl (by (try simp only [List.map_toArray,List.map_cons,List.map_nil]);first|done|rfl|(simp only [List.length_drop,List.length_take];rfl)) ?_;(with_reducible refine (impl_within.calls (rd l0 x18_1) 0 12000 true _ A6.out).mono ?_);rintro e w' ⟨rfl,⟨nd,rfl⟩⟩;refine ⟨_,rfl,?_⟩))
     go_roundg k1
     case measure => have:=HK1.out;omega
     case rel => exact ⟨(wrap64 (x18_1 + 1)),(by first|rfl|(simp;done)|(simp [*];done)),H',⟨by have:=HK1.out;omega⟩,⟨by repeat (first|(with_reducible first|exact HB.out|apply below_alloc|apply pw_below_drewN|apply below_drew1)|exact HB.out)⟩⟩
    replace c7:=Bool.eq_false_iff.mpr c7
    subst c7
    have H1 : (some (([] : List Int),false)) = some (r1,r2):=by rw [if_neg (show ¬ (false = true) by decide)] at H;exact H
    clear H
    have H:=H1
    clear H1
    simp only [Option.some.injEq,Prod.mk.injEq] at H
    obtain ⟨rfl,rfl⟩:=H
    have p316 : 0 ≤ (x18_1 : Int):=of_decide_eq_true (by assumption)
    have q316 : x18_1 < (l0.length : Int):=of_decide_eq_true (by assumption)
    obtain ⟨ad316,e316,hx316_0⟩:=Kd.at_int HR0.out x18_1 p316 q316
    cases e316
    replace hx316_0:=(HB.out.cell (World.block_lt_of_cell? w _ hx316_0)).trans hx316_0
    replace p316:=eq_true p316
    replace q316:=eq_true q316
    go_wp2_with (first|((with_reducible refine gate_callee (f:=53) rfl ?_);refine goesL_ (some 23) rfl rfl Try.func53 (by kernel_rfl) rfl #[.int .i64 (rd l0 x18_1),.int .i64 0,.int .i64 12000] rfl (by (try simp only [List.map_toArray,List.map_cons,List.map_nil]);first|done|rfl|(simp only [List.length_drop,List.length_take];rfl)) ?_;(with_reducible refine (impl_within.calls (rd l0 x18_1) 0 12000 false _ A6.out).mono ?_);rintro e w' ⟨rfl,⟨nd,rfl⟩⟩;refine ⟨_,rfl,?_⟩))
    go_ret2
    exact ⟨_,by first|rfl|(simp [errW_none,errW_some] <;> rfl)|(simp [*,errW_none,errW_some] <;> rfl),by first|exact Kd.R_nil _ _ _ _ _|exact Kd.N_nil _ _ _ _ _|exact Kd.V_nil _ _ _ _ _|exact Kd.Q_nil _ _ _ _ _|exact Kd.S_nil _ _ _ _ _,by repeat (first|(with_reducible first|exact HB.out|apply below_alloc|apply pw_below_drewN|apply below_drew1)|exact HB.out)⟩
   rw [if_neg c3] at H
   have c3b0 : decide (x18_1 < (l0.length : Int)) = false:=decide_eq_false c3
   clear c3
   have HC8:=Aside0.mk H
   clear H
   go_upto_region 7 with (fail)
   go_cut [33] (fun v33 wc => ∃ (kq : Nat) (x33_7 : Bool),v33 = .bool x33_7∧Aside0 (impl_LimitedLengths.j1 kq l0 a1 x33_7 = some (r1,r2))∧Aside0 (kq ≤ k1)∧Aside0 (Below w.heap.size w wc))
   case first =>
    have H:=HC8.out
    clear HC8
    by_cases c9 : (l0.length : Int) > 288
    ·rw [if_pos c9] at H
     have c9b0 : decide (288 < (l0.length : Int)) = true:=decide_eq_true c9
     have c9b1 : decide (288 < l0.length) = true:=decide_eq_true (by omega)
     clear c9
     (first|rw [c9b0]|(simp only [i64_w,i32_w];rw [c9b0])|skip)
     have H':=Aside0.mk H
     clear H
     go_wp2
     go_meet
     case rel => exact ⟨_,(true),(by first|rfl|(simp;done)|(simp [*];done)),H',⟨by have:=HK1.out;first|omega|exact Nat.le_refl _⟩,⟨by repeat (first|(with_reducible first|exact HB.out|apply below_alloc|apply pw_below_drewN|apply below_drew1)|exact HB.out)⟩⟩
    rw [if_neg c9] at H
    have c9b0 : decide (288 < (l0.length : Int)) = false:=decide_eq_false c9
    have c9b1 : decide (288 < l0.length) = false:=decide_eq_false (by omega)
    clear c9
    (first|rw [c9b0]|(simp only [i64_w,i32_w];rw [c9b0])|skip)
    replace H:=Option.bind_eq_some_iff.mp H
    obtain ⟨t318,A100,H⟩:=H
    replace H : (impl_LimitedLengths.j1 k1 l0 a1 (!t318)) = some (r1,r2):=H
    have A10:=Aside0.mk A100
    clear A100
    have H':=Aside0.mk H
    clear H
    go_wp2_with (first|(go_at_call 53;(with_reducible refine (impl_within.calls a1 1 15 t318 _ A10.out).mono ?_);rintro e w' ⟨rfl,⟨nd,rfl⟩⟩))
    go_meet
    case rel => exact ⟨_,(!t318),(by first|rfl|(simp;done)|(simp [*];done)),H',⟨by have:=HK1.out;first|omega|exact Nat.le_refl _⟩,⟨by repeat (first|(with_reducible first|exact HB.out|apply below_alloc|apply pw_below_drewN|apply below_drew1)|exact HB.out)⟩⟩
   case rest =>
    clear HC8
    obtain ⟨kq,x33_7,rfl,HA,HJ7,HB⟩:=hcut
    cases kq with
    | zero => exact absurd HA.out (by simp [impl_LimitedLengths.j1])
    | succ kj7 =>
     have H:=HA.out
     clear HA
     simp only [impl_LimitedLengths.j1] at H
     by_cases c11 : x33_7 = true
     ·subst c11
      have H1 : (some (([] : List Int),false)) = some (r1,r2):=by rw [if_pos rfl] at H;exact H
      clear H
      have H:=H1
      clear H1
      simp only [Option.some.injEq,Prod.mk.injEq] at H
      obtain ⟨rfl,rfl⟩:=H
      go_wp2
      go_ret2
      exact ⟨_,by first|rfl|(simp [errW_none,errW_some] <;> rfl)|(simp [*,errW_none,errW_some] <;> rfl),by first|exact Kd.R_nil _ _ _ _ _|exact Kd.N_nil _ _ _ _ _|exact Kd.V_nil _ _ _ _ _|exact Kd.Q_nil _ _ _ _ _|exact Kd.S_nil _ _ _ _ _,by repeat (first|(with_reducible first|exact HB.out|apply below_alloc|apply pw_below_drewN|apply below_drew1)|exact HB.out)⟩
     replace c11:=Bool.eq_false_iff.mpr c11
     subst c11
     have H1 : ((impl_coinsOf.f kj7 l0).bind fun t319 => ((impl_powerOf.f a1).bind fun t322 => (if (t319.length : Int) > t322 then (some (([] : List Int),false)) else (if 0 ≤ (l0.length : Int) then (if ((l0.length : Int) : Int).toNat ≤ 35184372088832 then ((some (List.replicate ((l0.length : Int) : Int).toNat 0 : List Int)).bind fun y323 => (if (t319.length : Int) = 1 then (if 0 < (t319.length : Int) then (if 0 < (((rd_T101 t319 0).f1).length : Int) then (if 0 ≤ (rd ((rd_T101 t319 0).f1) 0) then (if (rd ((rd_T101 t319 0).f1) 0) < (y323.length : Int) then (impl_LimitedLengths.j2 kj7 a1 t319 (t319.length : Int) (y323.set ((rd ((rd_T101 t319 0).f1) 0) : Int).toNat 1)) else (none)) else (none)) else (none)) else (none)) else (impl_LimitedLengths.j2 kj7 a1 t319 (t319.length : Int) y323))) else (none)) else (none))))) = some (r1,r2):=by rw [if_neg (show ¬ (false = true) by decide)] at H;exact H
     clear H
     have H:=H1
     clear H1
     replace H:=Option.bind_eq_some_iff.mp H
     obtain ⟨t319,A120,H⟩:=H
     replace H : ((impl_powerOf.f a1).bind fun t322 => (if (t319.length : Int) > t322 then (some (([] : List Int),false)) else (if 0 ≤ (l0.length : Int) then (if ((l0.length : Int) : Int).toNat ≤ 35184372088832 then ((some (List.replicate ((l0.length : Int) : Int).toNat 0 : List Int)).bind fun y323 => (if (t319.length : Int) = 1 then (if 0 < (t319.length : Int) then (if 0 < (((rd_T101 t319 0).f1).length : Int) then (if 0 ≤ (rd ((rd_T101 t319 0).f1) 0) then (if (rd ((rd_T101 t319 0).f1) 0) < (y323.length : Int) then (impl_LimitedLengths.j2 kj7 a1 t319 (t319.length : Int) (y323.set ((rd ((rd_T101 t319 0).f1) 0) : Int).toNat 1)) else (none)) else (none)) else (none)) else (none)) else (impl_LimitedLengths.j2 kj7 a1 t319 (t319.length : Int) y323))) else (none)) else (none)))) = some (r1,r2):=H
     have A12:=Aside0.mk A120
     clear A120
     replace H:=Option.bind_eq_some_iff.mp H
     obtain ⟨t322,A130,H⟩:=H
     replace H : (if (t319.length : Int) > t322 then (some (([] : List Int),false)) else (if 0 ≤ (l0.length : Int) then (if ((l0.length : Int) : Int).toNat ≤ 35184372088832 then ((some (List.replicate ((l0.length : Int) : Int).toNat 0 : List Int)).bind fun y323 => (if (t319.length : Int) = 1 then (if 0 < (t319.length : Int) then (if 0 < (((rd_T101 t319 0).f1).length : Int) then (if 0 ≤ (rd ((rd_T101 t319 0).f1) 0) then (if (rd ((rd_T101 t319 0).f1) 0) < (y323.length : Int) then (impl_LimitedLengths.j2 kj7 a1 t319 (t319.length : Int) (y323.set ((rd ((rd_T101 t319 0).f1) 0) : Int).toNat 1)) else (none)) else (none)) else (none)) else (none)) else (impl_LimitedLengths.j2 kj7 a1 t319 (t319.length : Int) y323))) else (none)) else (none))) = some (r1,r2):=H
     have A13:=Aside0.mk A130
     clear A130
     by_cases c14 : (t319.length : Int) > t322
     ·rw [if_pos c14] at H
      have c14b0 : decide (t322 < (t319.length : Int)) = true:=decide_eq_true c14
      clear c14
      simp only [Option.some.injEq,Prod.mk.injEq] at H
      obtain ⟨rfl,rfl⟩:=H
      go_wp2_with (first|((with_reducible refine gate_callee (f:=70) rfl ?_);refine goesL_ (some 35) rfl rfl Try.func70 (by kernel_rfl) rfl #[.slice A0 l0.length c0] rfl (by (try simp only [List.map_toArray,List.map_cons,List.map_nil]);first|done|rfl|(simp only [List.length_drop,List.length_take];rfl)) ?_;(with_reducible refine (impl_coinsOf.calls kj7 _ _ l0 t319 _ ?side1 ?side2 A12.out).mono ?_);(case side1 => repeat (first|exact (Kd.C_below HR0.out HB.out)|(with_reducible refine Kd.C_alloc ?_ _)|(with_reducible refine Kd.C_drewN ?_ _)|(with_reducible refine Kd.C_drew ?_)));(case side2 => exact HC0.out);rintro e w15 ⟨v320,rfl,ho0,hb⟩;refine ⟨_,rfl,?_⟩;have n0_:=Aside0.mk (Kd.N_lower (Kd.N_mono (ok':=fun k_ => True) (Kd.S_N (Kd.S_bound ho0)) (fun k_ hk_ => trivial)) (below_size (by repeat (first|(with_reducible first|exact HB.out|apply below_alloc|apply pw_below_drewN|apply below_drew1)|exact HB.out))));have n1_:=Aside0.mk (below_step (by repeat (first|(with_reducible first|exact HB.out|apply below_alloc|apply pw_below_drewN|apply below_drew1)|exact HB.out)) hb);clear HB;have HO321:=n0_;have HB:=n1_;clear n0_ n1_;(try clear hb);(try clear hb2);(try clear hk);(try clear hi);(try clear ho0);obtain ⟨Ao16,co16,eo16⟩:=Kd.N_slice HO321.out;subst eo16)|((with_reducible refine gate_callee (f:=71) rfl ?_);refine goesL_ (some 40) rfl rfl Try.func71 (by kernel_rfl) rfl #[.int .i64 a1] rfl (by (try simp only [List.map_toArray,List.map_cons,List.map_nil]);first|done|rfl|(simp only [List.length_drop,List.length_take];rfl)) ?_;(with_reducible refine (impl_powerOf.calls a1 t322 _ A13.out).mono ?_);rintro e w' ⟨rfl,⟨nd,rfl⟩⟩;refine ⟨_,rfl,?_⟩))
      go_ret2
      exact ⟨_,by first|rfl|(simp [errW_none,errW_some] <;> rfl)|(simp [*,errW_none,errW_some] <;> rfl),by first|exact Kd.R_nil _ _ _ _ _|exact Kd.N_nil _ _ _ _ _|exact Kd.V_nil _ _ _ _ _|exact Kd.Q_nil _ _ _ _ _|exact Kd.S_nil _ _ _ _ _,by repeat (first|(with_reducible first|exact HB.out|apply below_alloc|apply pw_below_drewN|apply below_drew1)|exact HB.out)⟩
     rw [if_neg c14] at H
     have c14b0 : decide (t322 < (t319.length : Int)) = false:=decide_eq_false c14
     clear c14
     by_cases c17 : 0 ≤ (l0.length : Int)
     rotate_left
     ·rw [if_neg c17] at H
      exact absurd H (by simp)
     rw [if_pos c17] at H
     have c17b0:=eq_true c17
     have c17b1 : decide (0 ≤ (l0.length : Int)) = true:=decide_eq_true c17
     clear c17
     by_cases c18 : ((l0.length : Int) : Int).toNat ≤ 35184372088832
     rotate_left
     ·rw [if_neg c18] at H
      exact absurd H (by simp)
     rw [if_pos c18] at H
     have c18b0:=eq_true c18
     have c18b1 : decide (((l0.length : Int) : Int).toNat ≤ 35184372088832) = true:=decide_eq_true c18
     clear c18
     obtain ⟨y323,hy323⟩ : ∃ y_ : List Int,y_ = (List.replicate ((l0.length : Int) : Int).toNat 0):=⟨_,rfl⟩
     replace H : (if (t319.length : Int) = 1 then (if 0 < (t319.length : Int) then (if 0 < (((rd_T101 t319 0).f1).length : Int) then (if 0 ≤ (rd ((rd_T101 t319 0).f1) 0) then (if (rd ((rd_T101 t319 0).f1) 0) < (y323.length : Int) then (impl_LimitedLengths.j2 kj7 a1 t319 (t319.length : Int) (y323.set ((rd ((rd_T101 t319 0).f1) 0) : Int).toNat 1)) else (none)) else (none)) else (none)) else (none)) else (impl_LimitedLengths.j2 kj7 a1 t319 (t319.length : Int) y323)) = some (r1,r2):=by first|(rw [hy323];with_reducible exact H)|(have H2_:=(Option.bind_some _ _).symm.trans H;rw [hy323];with_reducible exact H2_)|(have H2_:=(Option.bind_some _ _).symm.trans H;with_reducible exact H2_)|with_reducible exact H|(rw [hy323];exact H)|exact H
     have Ny323:=Aside0.mk hy323
     clear hy323
     have HC19:=Aside0.mk H
     clear H
     go_upto_if 46 with (first|((with_reducible refine gate_callee (f:=70) rfl ?_);refine goesL_ (some 35) rfl rfl Try.func70 (by kernel_rfl) rfl #[.slice A0 l0.length c0] rfl (by (try simp only [List.map_toArray,List.map_cons,List.map_nil]);first|done|rfl|(simp only [List.length_drop,List.length_take];rfl)) ?_;(with_reducible refine (impl_coinsOf.calls kj7 _ _ l0 t319 _ ?side1 ?side2 A12.out).mono ?_);(case side1 => repeat (first|exact (Kd.C_below HR0.out HB.out)|(with_reducible refine Kd.C_alloc ?_ _)|(with_reducible refine Kd.C_drewN ?_ _)|(with_reducible refine Kd.C_drew ?_)));(case side2 => exact HC0.out);rintro e w20 ⟨v320,rfl,ho0,hb⟩;refine ⟨_,rfl,?_⟩;have n0_:=Aside0.mk (Kd.N_lower (Kd.N_mono (ok':=fun k_ => True) (Kd.S_N (Kd.S_bound ho0)) (fun k_ hk_ => trivial)) (below_size (by repeat (first|(with_reducible first|exact HB.out|apply below_alloc|apply pw_below_drewN|apply below_drew1)|exact HB.out))));have n1_:=Aside0.mk (below_step (by repeat (first|(with_reducible first|exact HB.out|apply below_alloc|apply pw_below_drewN|apply below_drew1)|exact HB.out)) hb);clear HB;have HO321:=n0_;have HB:=n1_;clear n0_ n1_;(try clear hb);(try clear hb2);(try clear hk);(try clear hi);(try clear ho0);obtain ⟨Ao21,co21,eo21⟩:=Kd.N_slice HO321.out;subst eo21)|((with_reducible refine gate_callee (f:=71) rfl ?_);refine goesL_ (some 40) rfl rfl Try.func71 (by kernel_rfl) rfl #[.int .i64 a1] rfl (by (try simp only [List.map_toArray,List.map_cons,List.map_nil]);first|done|rfl|(simp only [List.length_drop,List.length_take];rfl)) ?_;(with_reducible refine (impl_powerOf.calls a1 t322 _ A13.out).mono ?_);rintro e w' ⟨rfl,⟨nd,rfl⟩⟩;refine ⟨_,rfl,?_⟩)|((with_reducible refine gate_dst (N:=44) rfl ?_);refine Kd.R_make (Kd.int .i64) _ 3 rfl (N:=44) rfl 22 _ _ rfl (l0.length : Int) rfl rfl Try.underlying22 (.int .i64 0) 8 info3 rfl (by decide) (by omega) 0 (ok:=fun _ => True) (okp:=fun _ => True) rfl (fun _ hk => hk) trivial (of_decide_eq_true (by assumption)) (Nat.le_trans (Nat.mul_le_mul_right _ (of_decide_eq_true (by assumption) : (l0.length : Int).toNat ≤ 35184372088832)) (by omega)) (Below.refl _ _) (Nat.le_refl _) ?_;intro v324 w22 ho23 hb hg_ hnew_;clear hg_ hnew_;(first|rw [← Ny323.out] at ho23|(simp only [Int.reduceToNat] at ho23;rw [← Ny323.out] at ho23));have n0_:=Aside0.mk (Kd.N_elder' (by (with_reducible repeat (first|apply Kd.N_alloc|apply Kd.N_drewN|apply Kd.N_drew));exact HO321.out) (Kd.R_base ho23) hb);have n1_:=Aside0.mk (Kd.R_lower ho23 (below_size (by repeat (first|(with_reducible first|exact HB.out|apply below_alloc|apply pw_below_drewN|apply below_drew1)|exact HB.out))));have n2_:=Aside0.mk (below_step (by repeat (first|(with_reducible first|exact HB.out|apply below_alloc|apply pw_below_drewN|apply below_drew1)|exact HB.out)) hb);clear HO321;clear HB;have HO321:=n0_;have HO325:=n1_;have HB:=n2_;clear n0_ n1_ n2_;clear hb ho23))
     (try simp only [Act.put,List.setIfInBounds_toArray,List.set_cons_zero,List.set_cons_succ])
     go_cut [] (fun wc => ∃ (kq : Nat) (x10_18 : List Int),Aside0 (impl_LimitedLengths.j2 kq a1 t319 (t319.length : Int) x10_18 = some (r1,r2))∧Aside0 (kq ≤ kj7)∧Aside0 (Kd.N k101 101 wc w.heap.size (fun k_ => some k_ ≠ (v324 : Value).ownBlock) (.slice Ao21 t319.length co21) t319)∧Aside0 (Kd.R (Kd.int .i64) 3 wc w.heap.size (fun _ => True) v324 x10_18)∧Aside0 (Below w.heap.size w wc))
     case first =>
      have H:=HC19.out
      clear HC19
      by_cases c24 : (t319.length : Int) = 1
      rotate_left
      ·rw [if_neg c24] at H
       have c24b0 : ((t319.length : Int) == 1) = false:=beq_eq_false_iff_ne.mpr c24
       have c24b1 : ((t319.length : Int) != 1) = true:=bne_iff_ne.mpr c24
       (first|rw [c24b0]|(simp only [i64_w,i32_w];rw [c24b0])|skip)
       have H':=Aside0.mk H
       clear H
       go_wp2
       go_meet
       case rel => exact ⟨_,(y323),H',⟨by have:=HK1.out;have:=HJ7.out;first|omega|exact Nat.le_refl _⟩,⟨by (with_reducible repeat (first|apply Kd.N_alloc|apply Kd.N_drewN|apply Kd.N_drew));exact Kd.N_mono HO321.out (fun _ hk => hk.2)⟩,⟨by (with_reducible repeat (first|apply Kd.R_alloc|apply Kd.R_drewN|apply Kd.R_drew));exact HO325.out⟩,⟨by repeat (first|(with_reducible first|exact HB.out|apply below_alloc|apply pw_below_drewN|apply below_drew1)|exact HB.out)⟩⟩
      rw [if_pos c24] at H
      have c24b0 : ((t319.length : Int) == 1) = true:=beq_iff_eq.mpr c24
      have c24b1 : ((t319.length : Int) != 1) = false:=bne_eq_false_iff_eq.mpr c24
      clear c24
      (first|rw [c24b0]|(simp only [i64_w,i32_w];rw [c24b0])|skip)
      by_cases c25 : 0 < (t319.length : Int)
      rotate_left
      ·rw [if_neg c25] at H
       exact absurd H (by simp)
      rw [if_pos c25] at H
      have c25b0 : decide (0 < (t319.length : Int)) = true:=decide_eq_true c25
      have c25b1 : decide (0 < t319.length) = true:=decide_eq_true (by omega)
      clear c25
      by_cases c26 : 0 < (((rd_T101 t319 0).f1).length : Int)
      rotate_left
      ·rw [if_neg c26] at H
       exact absurd H (by simp)
      rw [if_pos c26] at H
      have c26b0 : decide (0 < (((rd_T101 t319 0).f1).length : Int)) = true:=decide_eq_true c26
      have c26b1 : decide (0 < ((rd_T101 t319 0).f1).length) = true:=decide_eq_true (by omega)
      clear c26
      by_cases c27 : 0 ≤ (rd ((rd_T101 t319 0).f1) 0)
      rotate_left
      ·rw [if_neg c27] at H
       exact absurd H (by simp)
      rw [if_pos c27] at H
      have c27b0 : decide (0 ≤ (rd ((rd_T101 t319 0).f1) 0)) = true:=decide_eq_true c27
      clear c27
      by_cases c28 : (rd ((rd_T101 t319 0).f1) 0) < (y323.length : Int)
      rotate_left
      ·rw [if_neg c28] at H
       exact absurd H (by simp)
      rw [if_pos c28] at H
      have c28b0 : decide ((rd ((rd_T101 t319 0).f1) 0) < (y323.length : Int)) = true:=decide_eq_true c28
      clear c28
      obtain ⟨y328,hy328⟩ : ∃ y_ : List Int,y_ = (y323.set ((rd ((rd_T101 t319 0).f1) 0) : Int).toNat 1):=⟨_,rfl⟩
      replace H : (impl_LimitedLengths.j2 kj7 a1 t319 (t319.length : Int) y328) = some (r1,r2):=by first|(rw [hy328];with_reducible exact H)|(have H2_:=(Option.bind_some _ _).symm.trans H;rw [hy328];with_reducible exact H2_)|(have H2_:=(Option.bind_some _ _).symm.trans H;with_reducible exact H2_)|with_reducible exact H|(rw [hy328];exact H)|exact H
      have Ny328:=Aside0.mk hy328
      clear hy328
      have H':=Aside0.mk H
      clear H
      have p326 : 0 ≤ (0 : Int):=(by omega)
      have q326 : 0 < (t319.length : Int):=of_decide_eq_true (by assumption)
      obtain ⟨ad326,A326_1,c326_1,e326,hx326_0,hx326_1,hl326_1,hi326_1⟩:=at_T101 (Kd.N_reads' HO321.out).2.2 0 p326 q326
      cases e326
      obtain ⟨ce326,hce326,hMe326,hcc326⟩:=Kd.N_get HO321.out z101 0 p326 (by first|exact q326|exact of_decide_eq_true (by assumption)|(have e_:=(Kd.N_reads' HO321.out).1;omega))
      obtain ⟨ua326_1,uc326_1,rfl,ul326_1,ge326_1⟩:=k101_openF hMe326
      have hv326_1:=hcc326 1 _ rfl
      rw [add_field _ _ 1 (by omega)] at hv326_1
      replace hv326_1:=Option.some.inj (hv326_1.symm.trans hx326_1)
      injection hv326_1 with hva_ hvn_ hvc_
      rw [hva_] at ge326_1
      rw [hvc_] at ul326_1
      have HL326_1:=Aside0.mk (show Kd.V (Kd.int .i64) 3 _ w.heap.size _ _ ((rd_T101 t319 0).f1) from Kd.V_mk ul326_1 ge326_1)
      clear hva_ hvn_ hvc_ ge326_1 ul326_1
      clear hcc326 hce326
      have qi326 : (0 < t319.length) = True:=eq_true (by omega)
      (try rw [show ((0 : Int)).toNat = 0 from rfl] at hx326_0)
      (try rw [show 0 * 2 = 0 from rfl] at hx326_0)
      (try rw [Addr.add_zero'] at hx326_0)
      (try rw [show ((0 : Int)).toNat = 0 from rfl] at hx326_1)
      (try rw [show 0 * 2 = 0 from rfl] at hx326_1)
      (try rw [Addr.add_zero'] at hx326_1)
      have HR326_1:=Aside0.mk hi326_1
      have HC326_1:=Aside0.mk hl326_1
      clear hi326_1 hl326_1
      replace p326:=eq_true p326
      replace q326:=eq_true q326
      have p327 : 0 ≤ (0 : Int):=(by omega)
      have q327 : 0 < (((rd_T101 t319 0).f1).length : Int):=of_decide_eq_true (by assumption)
      obtain ⟨ad327,e327,hx327_0⟩:=Kd.at_int (by repeat (first|(with_reducible exact HR326_1.out)|(with_reducible refine Kd.C_alloc ?_ _)|(with_reducible refine Kd.C_drewN ?_ _)|(with_reducible refine Kd.C_drew ?_)|exact HR326_1.out)) 0 p327 q327
      cases e327
      have qi327 : (0 < ((rd_T101 t319 0).f1).length) = True:=eq_true (by omega)
      (try rw [show ((0 : Int)).toNat = 0 from rfl] at hx327_0)
      (try rw [Addr.add_zero'] at hx327_0)
      replace p327:=eq_true p327
      replace q327:=eq_true q327
      have p29 : 0 ≤ ((rd ((rd_T101 t319 0).f1) 0) : Int):=of_decide_eq_true (by assumption)
      have q29 : ((rd ((rd_T101 t319 0).f1) 0) : Int) < ((y323.length : Int) : Int):=of_decide_eq_true (by assumption)
      obtain ⟨go29,co29,eo29,gb29,gl29,cl29,HG29⟩:=Kd.R_form HO325.out (by omega)
      (first|cases eo29|(injection eo29 with ea_ en_ ec_;(first|subst ea_|(injection ea_ with ea_;subst ea_));subst ec_;clear en_))
      have GB29:=Aside0.mk gb29
      have GG29:=Aside0.mk HG29
      clear gb29 gl29 HG29
      obtain ⟨hx29_0,hf29_0⟩:=Kd.R_celln 0 HO325.out ((rd ((rd_T101 t319 0).f1) 0) : Int) p29 q29
      replace p29:=eq_true p29
      replace q29:=eq_true q29
      have HP30:=Kd.R_putg HO325.out ((rd ((rd_T101 t319 0).f1) 0) : Int) 1
      go_wp2_with (first|((with_reducible refine gate_store (t:=3) (p:=54) rfl ?_);refine store_event (t:=3) (p:=54) (v:=?vo_w31) (w1:=(w22.setCell ⟨go29,((rd ((rd_T101 t319 0).f1) 0) : Int).toNat,none⟩ (.int .i64 1))) ?hg ?ho ?hn ?hr ?_;(case ho => rfl);(case hg => rfl);(case hn => rfl);(case hr => first|(go_simp;done)|(go_simp;rfl));intro w31 hw;have hg : w22.grownBy w31 (some go29):=(by rw [hw];exact HP30.2);have hp_ : Kd.R (Kd.int .i64) 3 w31 w.heap.size (fun _ => True) (.slice (some ⟨go29,0,none⟩) y323.length co29) y328:=(by rw [hw,Ny328.out];exact HP30.1);clear HP30;have n0_:=Aside0.mk (Kd.N_afterv (v:=(.slice (some ⟨go29,0,none⟩) y323.length co29)) (v1:=(.slice (some ⟨go29,0,none⟩) y323.length co29)) (ok:=(fun _ => True)) (by (with_reducible repeat (first|apply Kd.N_alloc|apply Kd.N_drewN|apply Kd.N_drew));exact HO321.out) hg (.inl rfl));have n1_:=Aside0.mk (hp_);have n2_:=Aside0.mk (Kd.V_afterv (v:=(.slice (some ⟨go29,0,none⟩) y323.length co29)) (v1:=(.slice (some ⟨go29,0,none⟩) y323.length co29)) (ok:=(fun k_ => some k_ ≠ (.slice (some ad326) t319.length co21 : Value).ownBlock)) (by (with_reducible repeat (first|apply Kd.V_alloc|apply Kd.V_drewN|apply Kd.V_drew));exact Kd.V_mono HL326_1.out (fun _ hk => ⟨hk.2,hk.1.2⟩)) hg (.inl rfl));have n3_:=Aside0.mk ((by rw [hw];exact below_set (HB.out) GB29.out : Below w.heap.size w w31));clear HO321;clear HO325;clear HL326_1;clear HB;have HO321:=n0_;have HO325:=n1_;have HL326_1:=n2_;have HB:=n3_;clear n0_ n1_ n2_ n3_;clear hg hw hp_))
      go_meet
      case rel => exact ⟨_,(y328),H',⟨by have:=HK1.out;have:=HJ7.out;first|omega|exact Nat.le_refl _⟩,⟨by (with_reducible repeat (first|apply Kd.N_alloc|apply Kd.N_drewN|apply Kd.N_drew));exact Kd.N_mono HO321.out (fun _ hk => hk.2)⟩,⟨by (with_reducible repeat (first|apply Kd.R_alloc|apply Kd.R_drewN|apply Kd.R_drew));exact HO325.out⟩,⟨by repeat (first|(with_reducible first|exact HB.out|apply below_alloc|apply pw_below_drewN|apply below_drew1)|exact HB.out)⟩⟩
     case rest =>
      clear HC19
      obtain ⟨kq,x10_18,HA,HJ18,HO_8,HO_10,HB⟩:=hcut
      cases kq with
      | zero => exact absurd HA.out (by simp [impl_LimitedLengths.j2])
      | succ kj18 =>
       have H:=HA.out
       clear HA
       simp only [impl_LimitedLengths.j2] at H
       by_cases c32 : (t319.length : Int) < 2
       ·rw [if_pos c32] at H
        have c32b0 : decide ((t319.length : Int) < 2) = true:=decide_eq_true c32
        have c32b1 : decide (t319.length < 2) = true:=decide_eq_true (by omega)
        clear c32
        simp only [Option.some.injEq,Prod.mk.injEq] at H
        obtain ⟨rfl,rfl⟩:=H
        go_wp2
        go_ret2
        exact ⟨_,by first|rfl|(simp [errW_none,errW_some] <;> rfl)|(simp [*,errW_none,errW_some] <;> rfl),by (with_reducible repeat (first|apply Kd.R_alloc|apply Kd.R_drewN|apply Kd.R_drew));exact HO_10.out,by repeat (first|(with_reducible first|exact HB.out|apply below_alloc|apply pw_below_drewN|apply below_drew1)|exact HB.out)⟩
       rw [if_neg c32] at H
       have c32b0 : decide ((t319.length : Int) < 2) = false:=decide_eq_false c32
       have c32b1 : decide (t319.length < 2) = false:=decide_eq_false (by omega)
       clear c32
       have H':=Aside0.mk H
       clear H
       go_wp2
       go_loopg [11,61] kj18 (fun kq v11 v61 w' => ∃ (x11_4 : List (S101)) (x61_4 : Int),v61 = .int .i64 x61_4∧Aside0 (impl_LimitedLengths.l1 kq t319 (t319.length : Int) x10_18 x11_4 (wrap64 (a1 - 1)) x61_4 = some (r1,r2))∧Aside0 (kq ≤ kj18)∧Aside0 (Kd.N k101 101 w' w.heap.size (fun k_ => some k_ ≠ (v324 : Value).ownBlock) (.slice Ao21 t319.length co21) t319)∧Aside0 (Kd.R (Kd.int .i64) 3 w' w.heap.size (fun _ => True) v324 x10_18)∧Aside0 (Kd.N k101 101 w' w.heap.size (fun k_ => some k_ ≠ (v324 : Value).ownBlock) v11 x11_4)∧Aside0 (Below w.heap.size w w'))
       case atStart => exact ⟨(t319),(0),(by first|rfl|(simp;done)|(simp [*];done)),H',⟨Nat.le_refl _⟩,⟨by (with_reducible repeat (first|apply Kd.N_alloc|apply Kd.N_drewN|apply Kd.N_drew));exact HO_8.out⟩,⟨by (with_reducible repeat (first|apply Kd.R_alloc|apply Kd.R_drewN|apply Kd.R_drew));exact HO_10.out⟩,⟨by (with_reducible repeat (first|apply Kd.N_alloc|apply Kd.N_drewN|apply Kd.N_drew));exact HO_8.out⟩,⟨by repeat (first|(with_reducible first|exact HB.out|apply below_alloc|apply pw_below_drewN|apply below_drew1)|exact HB.out)⟩⟩
       case round =>
        clear H'
        obtain ⟨x11_4,x61_4,rfl,HA,HK4,HO_8,HO_10,HO_11,HB⟩:=hrel
        cases gk with
        | zero => exact absurd HA.out (by simp [impl_LimitedLengths.l1])
        | succ k4 =>
         have H:=HA.out
         clear HA
         simp only [impl_LimitedLengths.l1] at H
         by_cases c33 : x61_4 < (wrap64 (a1 - 1))
         ·rw [if_pos c33] at H
          have c33b0 : decide (x61_4 < (wrap64 (a1 - 1))) = true:=decide_eq_true c33
          clear c33
          replace H:=Option.bind_eq_some_iff.mp H
          obtain ⟨t329,A340,H⟩:=H
          replace H : (impl_LimitedLengths.l1 k4 t319 (t319.length : Int) x10_18 t329 (wrap64 (a1 - 1)) (wrap64 (x61_4 + 1))) = some (r1,r2):=H
          have A34:=Aside0.mk A340
          clear A340
          have H':=Aside0.mk H
          clear H
          obtain ⟨Ao35,co35,eo35⟩:=Kd.N_slice HO_11.out
          subst eo35
          go_wp2_with (first|((with_reducible refine gate_callee (f:=72) rfl ?_);refine goesL_ (some 65) rfl rfl Try.func72 (by kernel_rfl) rfl #[.slice Ao21 t319.length co21,.slice Ao35 x11_4.length co35] rfl (by (try simp only [List.map_toArray,List.map_cons,List.map_nil]);first|done|rfl|(simp only [List.length_drop,List.length_take];rfl)) ?_;(with_reducible refine (impl_nextCoins.calls k4 (fun k_ => some k_ ≠ (v324 : Value).ownBlock) _ _ t319 (fun k_ => some k_ ≠ (v324 : Value).ownBlock) _ _ x11_4 t329 _ ?side1 ?side2 A34.out).mono ?_);(case side1 => exact Kd.N_V (HO_8.out));(case side2 => exact Kd.N_V (HO_11.out));rintro e w36 ⟨v330,rfl,ho0,hb⟩;refine ⟨_,rfl,?_⟩;have n0_:=Aside0.mk (Kd.N_elder' (by (with_reducible repeat (first|apply Kd.N_alloc|apply Kd.N_drewN|apply Kd.N_drew));exact HO_8.out) (Kd.N_base ho0) hb);have n1_:=Aside0.mk (Kd.R_below (by (with_reducible repeat (first|apply Kd.R_alloc|apply Kd.R_drewN|apply Kd.R_drew));exact HO_10.out) hb);have n2_:=Aside0.mk (Kd.N_elder' (by (with_reducible repeat (first|apply Kd.N_alloc|apply Kd.N_drewN|apply Kd.N_drew));exact HO_11.out) (Kd.N_base ho0) hb);have n3_:=Aside0.mk (Kd.N_lower (Kd.N_mono (ok':=fun k_ => some k_ ≠ (v324 : Value).ownBlock) ho0 (fun k_ hk_ => Or.elim hk_ (fun hs_ => Or.elim hs_ (fun hs_ => hs_) (fun hs_ => hs_)) (fun hn_ => (Kd.fresh' (Kd.R_lt (by (with_reducible repeat (first|apply Kd.R_alloc|apply Kd.R_drewN|apply Kd.R_drew));exact HO_10.out)) k_ hn_)))) (below_size (by repeat (first|(with_reducible first|exact HB.out|apply below_alloc|apply pw_below_drewN|apply below_drew1)|exact HB.out))));have n4_:=Aside0.mk (below_step (by repeat (first|(with_reducible first|exact HB.out|apply below_alloc|apply pw_below_drewN|apply below_drew1)|exact HB.out)) hb);clear HO_8;clear HO_10;clear HO_11;clear HB;have HO_8:=n0_;have HO_10:=n1_;have HO_11:=n2_;have HO331:=n3_;have HB:=n4_;clear n0_ n1_ n2_ n3_ n4_;(try clear hb);(try clear hb2);(try clear hk);(try clear hi);(try clear ho0)))
          go_roundg k4
          case measure => have:=HK1.out;have:=HJ7.out;have:=HJ18.out;have:=HK4.out;omega
          case rel => exact ⟨(t329),(wrap64 (x61_4 + 1)),(by first|rfl|(simp;done)|(simp [*];done)),H',⟨by have:=HK1.out;have:=HJ7.out;have:=HJ18.out;have:=HK4.out;omega⟩,⟨by (with_reducible repeat (first|apply Kd.N_alloc|apply Kd.N_drewN|apply Kd.N_drew));first|exact HO_8.out|exact Kd.N_mono HO_8.out (fun _ hk_ => hk_.1)⟩,⟨by (with_reducible repeat (first|apply Kd.R_alloc|apply Kd.R_drewN|apply Kd.R_drew));exact HO_10.out⟩,⟨by (with_reducible repeat (first|apply Kd.N_alloc|apply Kd.N_drewN|apply Kd.N_drew));exact HO331.out⟩,⟨by repeat (first|(with_reducible first|exact HB.out|apply below_alloc|apply pw_below_drewN|apply below_drew1)|exact HB.out)⟩⟩
         rw [if_neg c33] at H
         have c33b0 : decide (x61_4 < (wrap64 (a1 - 1))) = false:=decide_eq_false c33
         clear c33
         obtain ⟨ji37,hji37⟩ : ∃ j_ : Int,(wrap64 ((wrap64 (2 * (t319.length : Int))) - 2)) = j_:=⟨_,rfl⟩
         replace H : (if 0 ≤ (ji37) then (if (ji37) ≤ (x11_4.length : Int) then ((some (x11_4.take ((ji37) : Int).toNat : List (S101))).bind fun y332 => (impl_LimitedLengths.l2 k4 x10_18 y332 (y332.length : Int) 0)) else (none)) else (none)) = some (r1,r2):=by first|(rw [hji37] at H;exact H)|(simp only [hji37] at H ⊢;exact H)
         have hji37w : (IntKind.i64.wrap ((wrap64 (2 * (t319.length : Int))) - 2)) = ji37:=(i64_w _).trans hji37
         by_cases c38 : 0 ≤ (ji37)
         rotate_left
         ·rw [if_neg c38] at H
          exact absurd H (by simp)
         rw [if_pos c38] at H
         have c38b0:=eq_true c38
         have c38b1 : decide (0 ≤ (ji37)) = true:=decide_eq_true c38
         clear c38
         by_cases c39 : (ji37) ≤ (x11_4.length : Int)
         rotate_left
         ·rw [if_neg c39] at H
          exact absurd H (by simp)
         rw [if_pos c39] at H
         have c39b0:=eq_true c39
         have c39b1 : decide ((ji37) ≤ (x11_4.length : Int)) = true:=decide_eq_true c39
         clear c39
         obtain ⟨y332,hy332⟩ : ∃ y_ : List (S101),y_ = (x11_4.take ((ji37) : Int).toNat):=⟨_,rfl⟩
         replace H : (impl_LimitedLengths.l2 k4 x10_18 y332 (y332.length : Int) 0) = some (r1,r2):=by first|(rw [hy332];with_reducible exact H)|(have H2_:=(Option.bind_some _ _).symm.trans H;rw [hy332];with_reducible exact H2_)|(have H2_:=(Option.bind_some _ _).symm.trans H;with_reducible exact H2_)|with_reducible exact H|(rw [hy332];exact H)|exact H
         have Ny332:=Aside0.mk hy332
         clear hy332
         have H':=Aside0.mk H
         clear H
         obtain ⟨Ao41,co41,eo41⟩:=Kd.N_slice HO_11.out
         subst eo41
         have q40 : ((ji37) : Int) ≤ ((x11_4.length : Int) : Int):=of_decide_eq_true (by assumption)
         obtain ⟨i040,hi040,_,hsz40,_⟩:=info_parts info101
         have hroom40 : x11_4.length ≤ co41:=(Kd.N_reads' HO_11.out).2.1
         have hC40 : Kd.F k101 _ _ Ao41 x11_4.length x11_4:=(Kd.V_at (base:=w.heap.size) (Kd.N_V HO_11.out)).2.2
         have hcut40:=cut_to (P:=Try.prog) 98 101 .i64 Try.underlying98 hi040 Ao41 x11_4.length co41 (ji37) (of_decide_eq_true (by assumption)) q40 hroom40
         have hr40:=Kd.F_take (m:=((ji37) : Int).toNat) hC40 (by omega)
         have hy40 : y332.length = ((ji37) : Int).toNat:=(by rw [Ny332.out,List.length_take];omega)
         rw [← Ny332.out] at hr40
         rw [← hy40] at hcut40
         have HO336:=Aside0.mk (show Kd.V k101 101 _ w.heap.size _ (.slice Ao41 y332.length co41) y332 from Kd.V_mk (by omega) hr40)
         have HC336:=Aside0.mk (show y332.length ≤ co41 from by omega)
         clear hr40 hC40 hroom40 hi040 hsz40
         have KY40:=Aside0.mk hy40
         clear hy40
         replace q40:=eq_true q40
         go_wp2
         go_loopg [73] k4 (fun kq v73 w' => ∃ (x10_5 : List Int) (x73_5 : Int),v73 = .int .i64 x73_5∧Aside0 (impl_LimitedLengths.l2 kq x10_5 y332 (y332.length : Int) x73_5 = some (r1,r2))∧Aside0 (kq ≤ k4)∧Aside0 (Kd.R (Kd.int .i64) 3 w' w.heap.size (fun _ => True) v324 x10_5)∧Aside0 (Kd.V k101 101 w' w.heap.size (fun k_ => some k_ ≠ (v324 : Value).ownBlock) (.slice Ao41 y332.length co41) y332)∧Aside0 (Below w.heap.size w w'))
         case atStart => exact ⟨(x10_18),(0),(by first|rfl|(simp;done)|(simp [*];done)),H',⟨Nat.le_refl _⟩,⟨by (with_reducible repeat (first|apply Kd.R_alloc|apply Kd.R_drewN|apply Kd.R_drew));exact HO_10.out⟩,⟨by (with_reducible repeat (first|apply Kd.V_alloc|apply Kd.V_drewN|apply Kd.V_drew));exact HO336.out⟩,⟨by repeat (first|(with_reducible first|exact HB.out|apply below_alloc|apply pw_below_drewN|apply below_drew1)|exact HB.out)⟩⟩
         case round =>
          clear H'
          obtain ⟨x10_5,x73_5,rfl,HA,HK5,HO_10,HO_71,HB⟩:=hrel
          cases gk with
          | zero => exact absurd HA.out (by simp [impl_LimitedLengths.l2])
          | succ k5 =>
           have H:=HA.out
           clear HA
           simp only [impl_LimitedLengths.l2] at H
           by_cases c42 : x73_5 < (y332.length : Int)
           rotate_left
           ·rw [if_neg c42] at H
            have c42b0 : decide (x73_5 < (y332.length : Int)) = false:=decide_eq_false c42
            clear c42
            simp only [Option.some.injEq,Prod.mk.injEq] at H
            obtain ⟨rfl,rfl⟩:=H
            go_wp2
            go_ret2
            exact ⟨_,by first|rfl|(simp [errW_none,errW_some] <;> rfl)|(simp only [← hji37];first|rfl|(simp [errW_none,errW_some] <;> rfl))|(simp [*,errW_none,errW_some] <;> rfl),by (with_reducible repeat (first|apply Kd.R_alloc|apply Kd.R_drewN|apply Kd.R_drew));exact HO_10.out,by repeat (first|(with_reducible first|exact HB.out|apply below_alloc|apply pw_below_drewN|apply below_drew1)|exact HB.out)⟩
           rw [if_pos c42] at H
           have c42b0 : decide (x73_5 < (y332.length : Int)) = true:=decide_eq_true c42
           clear c42
           by_cases c43 : 0 ≤ x73_5
           rotate_left
           ·rw [if_neg c43] at H
            exact absurd H (by simp)
           rw [if_pos c43] at H
           have c43b0 : decide (0 ≤ x73_5) = true:=decide_eq_true c43
           clear c43
           by_cases c44 : x73_5 < (y332.length : Int)
           rotate_left
           ·rw [if_neg c44] at H
            exact absurd H (by simp)
           rw [if_pos c44] at H
           have c44b0 : decide (x73_5 < (y332.length : Int)) = true:=decide_eq_true c44
           clear c44
           have H':=Aside0.mk H
           clear H
           have p337 : 0 ≤ (x73_5 : Int):=of_decide_eq_true (by assumption)
           have q337 : x73_5 < (y332.length : Int):=of_decide_eq_true (by assumption)
           obtain ⟨ad337,A337_1,c337_1,e337,hx337_0,hx337_1,hl337_1,hi337_1⟩:=at_T101 (Kd.V_reads' HO_71.out).2.2 x73_5 p337 q337
           cases e337
           obtain ⟨ce337,hce337,hMe337,hcc337⟩:=Kd.V_get HO_71.out z101 x73_5 p337 (by first|exact q337|exact of_decide_eq_true (by assumption)|(have e_:=(Kd.V_reads' HO_71.out).1;omega))
           obtain ⟨ua337_1,uc337_1,rfl,ul337_1,ge337_1⟩:=k101_openF hMe337
           have hv337_1:=hcc337 1 _ rfl
           rw [add_field _ _ 1 (by omega)] at hv337_1
           replace hv337_1:=Option.some.inj (hv337_1.symm.trans hx337_1)
           injection hv337_1 with hva_ hvn_ hvc_
           rw [hva_] at ge337_1
           rw [hvc_] at ul337_1
           have HL337_1:=Aside0.mk (show Kd.V (Kd.int .i64) 3 _ w.heap.size _ _ ((rd_T101 y332 x73_5).f1) from Kd.V_mk ul337_1 ge337_1)
           clear hva_ hvn_ hvc_ ge337_1 ul337_1
           clear hcc337 hce337
           have HR337_1:=Aside0.mk hi337_1
           have HC337_1:=Aside0.mk hl337_1
           clear hi337_1 hl337_1
           replace p337:=eq_true p337
           replace q337:=eq_true q337
           go_wp2_with (first|((with_reducible refine gate_dst (N:=13) rfl ?_);refine box_event ?hg (N:=13) ?hd (cs:=#[.int .i64 0,.slice none 0 0]) (t:=101) ?hr ?_;(case hd => rfl);(case hg => rfl);(case hr => first|(go_simp;done)|(go_simp;rfl));intro gb338 hg w45 hbox hb;have n0_:=Aside0.mk (Kd.R_below (by (with_reducible repeat (first|apply Kd.R_alloc|apply Kd.R_drewN|apply Kd.R_drew));exact HO_10.out) hb);have n1_:=Aside0.mk (Kd.V_below (Kd.V_elderB (by (with_reducible repeat (first|apply Kd.V_alloc|apply Kd.V_drewN|apply Kd.V_drew));exact HO_71.out) gb338 (Nat.le_of_eq hg.symm)) hb);have n2_:=Aside0.mk (Kd.V_below (Kd.V_elderB (by (with_reducible repeat (first|apply Kd.V_alloc|apply Kd.V_drewN|apply Kd.V_drew));exact HL337_1.out) gb338 (Nat.le_of_eq hg.symm)) hb);have n3_:=Aside0.mk (Kd.C_below (by repeat (first|(with_reducible exact HR337_1.out)|(with_reducible refine Kd.C_alloc ?_ _)|(with_reducible refine Kd.C_drewN ?_ _)|(with_reducible refine Kd.C_drew ?_)|exact HR337_1.out)) hb);have n4_:=Aside0.mk (below_step (by repeat (first|(with_reducible first|exact HB.out|apply below_alloc|apply pw_below_drewN|apply below_drew1)|exact HB.out)) hb);have n5_:=Aside0.mk (hbox);have n6_:=Aside0.mk ((by rw [hg];exact (below_size (by repeat (first|(with_reducible first|exact HB.out|apply below_alloc|apply pw_below_drewN|apply below_drew1)|exact HB.out))) : w.heap.size ≤ gb338));have n7_:=Aside0.mk ((by rw [hg];exact (below_size (by repeat (first|(with_reducible first|exact HB.out|apply below_alloc|apply pw_below_drewN|apply below_drew1)|exact HB.out))) : w.heap.size ≤ gb338));clear HO_10;clear HO_71;clear HL337_1;clear HR337_1;clear HB;have HO_10:=n0_;have HO_71:=n1_;have HL337_1:=n2_;have HR337_1:=n3_;have HB:=n4_;have BK338:=n5_;have GW338:=n6_;have GE338:=n7_;clear n0_ n1_ n2_ n3_ n4_ n5_ n6_ n7_;clear hb hbox hg;have hcz46_0 : w45.cell? ⟨gb338,0,none⟩ = some (.int .i64 0):=(blk_cell BK338.out 0).trans rfl;have hcz46_1 : w45.cell? ⟨gb338,1,none⟩ = some (.slice none 0 0):=(blk_cell BK338.out 1).trans rfl;have hfz46_0:=blk_frozen BK338.out 0;have hfz46_1:=blk_frozen BK338.out 1))
           go_loopg [80] k5 (fun kq v80 w' => ∃ (x10_6 : List Int) (x80_6 : Int),v80 = .int .i64 x80_6∧Aside0 (impl_LimitedLengths.l3 kq x10_6 y332 (y332.length : Int) x73_5 ((rd_T101 y332 x73_5).f1) (((rd_T101 y332 x73_5).f1).length : Int) x80_6 = some (r1,r2))∧Aside0 (kq ≤ k5)∧Aside0 (Kd.R (Kd.int .i64) 3 w' w.heap.size (fun _ => True) v324 x10_6)∧Aside0 (Kd.V k101 101 w' w.heap.size (fun k_ => some k_ ≠ (v324 : Value).ownBlock∧k_ ≠ gb338) (.slice (some ad337) y332.length co41) y332)∧Aside0 (Kd.V (Kd.int .i64) 3 w' w.heap.size (fun k_ => some k_ ≠ (v324 : Value).ownBlock∧k_ ≠ gb338) (.slice A337_1 ((rd_T101 y332 x73_5).f1).length c337_1) ((rd_T101 y332 x73_5).f1))∧Aside0 (w'.heap[gb338]? = some (.cells #[.int .i64 ((rd_T101 y332 x73_5).f0),(.slice A337_1 ((rd_T101 y332 x73_5).f1).length c337_1)] 101 (0,0)))∧Aside0 (Below w.heap.size w w'))
           case atStart => exact ⟨(x10_5),(0),(by first|rfl|(simp;done)|(simp [*];done)),H',⟨Nat.le_refl _⟩,⟨by (with_reducible repeat (first|apply Kd.R_alloc|apply Kd.R_drewN|apply Kd.R_drew));exact Kd.R_mono (Kd.R_far (p:=⟨gb338,1,none⟩) (Kd.R_far (p:=⟨gb338,0,none⟩) (Kd.R_types HO_10.out BK338.out (by decide)) (fun _ hk => hk.2) (.int .i64 ((rd_T101 y332 x73_5).f0))) (fun _ hk => hk.2) (.slice A337_1 ((rd_T101 y332 x73_5).f1).length c337_1)) (fun _ hk => trivial)⟩,⟨by (with_reducible repeat (first|apply Kd.V_alloc|apply Kd.V_drewN|apply Kd.V_drew));exact Kd.V_mono (Kd.V_far (p:=⟨gb338,1,none⟩) (Kd.V_far (p:=⟨gb338,0,none⟩) (Kd.V_mono HO_71.out (fun k_ hk => (⟨hk,hk.2⟩ : _∧k_ ≠ gb338))) (fun _ hk => hk.2) (.int .i64 ((rd_T101 y332 x73_5).f0))) (fun _ hk => hk.2) (.slice A337_1 ((rd_T101 y332 x73_5).f1).length c337_1)) (fun _ hk => ⟨hk.1.1,hk.1.2⟩)⟩,⟨by (with_reducible repeat (first|apply Kd.V_alloc|apply Kd.V_drewN|apply Kd.V_drew));exact Kd.V_mono (Kd.V_far (p:=⟨gb338,1,none⟩) (Kd.V_far (p:=⟨gb338,0,none⟩) (Kd.V_mono HL337_1.out (fun k_ hk => (⟨hk,hk.2⟩ : _∧k_ ≠ gb338))) (fun _ hk => hk.2) (.int .i64 ((rd_T101 y332 x73_5).f0))) (fun _ hk => hk.2) (.slice A337_1 ((rd_T101 y332 x73_5).f1).length c337_1)) (fun _ hk => ⟨hk.1.1,hk.1.2⟩)⟩,⟨by (with_reducible repeat (first|refine blk_drewN ?_ _|refine blk_drew ?_|refine blk_alloc ?_ _));refine blk_put (cs:=#[.int .i64 ((rd_T101 y332 x73_5).f0),.slice none 0 0]) ?_ 1 _ rfl;(with_reducible repeat (first|refine blk_drewN ?_ _|refine blk_drew ?_|refine blk_alloc ?_ _));refine blk_put (cs:=#[.int .i64 0,.slice none 0 0]) ?_ 0 _ rfl;(with_reducible repeat (first|refine blk_drewN ?_ _|refine blk_drew ?_|refine blk_alloc ?_ _));exact BK338.out⟩,⟨by repeat (first|(with_reducible first|exact HB.out|apply below_alloc|apply pw_below_drewN|apply below_drew1|refine below_set ?_ GE338.out)|exact HB.out)⟩⟩
           case round =>
            clear H'
            obtain ⟨x10_6,x80_6,rfl,HA,HK6,HO_10,HO_71,HLX,BK338,HB⟩:=hrel
            cases gk with
            | zero => exact absurd HA.out (by simp [impl_LimitedLengths.l3])
            | succ k6 =>
             have H:=HA.out
             clear HA
             simp only [impl_LimitedLengths.l3] at H
             by_cases c47 : x80_6 < (((rd_T101 y332 x73_5).f1).length : Int)
             rotate_left
             ·rw [if_neg c47] at H
              have c47b0 : decide (x80_6 < (((rd_T101 y332 x73_5).f1).length : Int)) = false:=decide_eq_false c47
              clear c47
              have H':=Aside0.mk H
              clear H
              go_wp2
              go_roundg k6
              case measure => have:=HK1.out;have:=HJ7.out;have:=HJ18.out;have:=HK4.out;have:=HK5.out;have:=HK6.out;omega
              case rel => exact ⟨(x10_6),(wrap64 (x73_5 + 1)),(by first|rfl|(simp;done)|(simp [*];done)),H',⟨by have:=HK1.out;have:=HJ7.out;have:=HJ18.out;have:=HK4.out;have:=HK5.out;have:=HK6.out;omega⟩,⟨by (with_reducible repeat (first|apply Kd.R_alloc|apply Kd.R_drewN|apply Kd.R_drew));exact HO_10.out⟩,⟨by (with_reducible repeat (first|apply Kd.V_alloc|apply Kd.V_drewN|apply Kd.V_drew));exact Kd.V_mono HO_71.out (fun _ hk => hk.1)⟩,⟨by repeat (first|(with_reducible first|exact HB.out|apply below_alloc|apply pw_below_drewN|apply below_drew1|refine below_set ?_ GE338.out)|exact HB.out)⟩⟩
             rw [if_pos c47] at H
             have c47b0 : decide (x80_6 < (((rd_T101 y332 x73_5).f1).length : Int)) = true:=decide_eq_true c47
             clear c47
             by_cases c48 : 0 ≤ x80_6
             rotate_left
             ·rw [if_neg c48] at H
              exact absurd H (by simp)
             rw [if_pos c48] at H
             have c48b0 : decide (0 ≤ x80_6) = true:=decide_eq_true c48
             clear c48
             by_cases c49 : x80_6 < (((rd_T101 y332 x73_5).f1).length : Int)
             rotate_left
             ·rw [if_neg c49] at H
              exact absurd H (by simp)
             rw [if_pos c49] at H
             have c49b0 : decide (x80_6 < (((rd_T101 y332 x73_5).f1).length : Int)) = true:=decide_eq_true c49
             clear c49
             by_cases c50 : 0 ≤ (rd ((rd_T101 y332 x73_5).f1) x80_6)
             rotate_left
             ·rw [if_neg c50] at H
              exact absurd H (by simp)
             rw [if_pos c50] at H
             have c50b0 : decide (0 ≤ (rd ((rd_T101 y332 x73_5).f1) x80_6)) = true:=decide_eq_true c50
             clear c50
             by_cases c51 : (rd ((rd_T101 y332 x73_5).f1) x80_6) < (x10_6.length : Int)
             rotate_left
             ·rw [if_neg c51] at H
              exact absurd H (by simp)
             rw [if_pos c51] at H
             have c51b0 : decide ((rd ((rd_T101 y332 x73_5).f1) x80_6) < (x10_6.length : Int)) = true:=decide_eq_true c51
             clear c51
             obtain ⟨y341,hy341⟩ : ∃ y_ : List Int,y_ = (x10_6.set ((rd ((rd_T101 y332 x73_5).f1) x80_6) : Int).toNat (wrap64 ((rd x10_6 (rd ((rd_T101 y332 x73_5).f1) x80_6)) + 1))):=⟨_,rfl⟩
             replace H : (impl_LimitedLengths.l3 k6 y341 y332 (y332.length : Int) x73_5 ((rd_T101 y332 x73_5).f1) (((rd_T101 y332 x73_5).f1).length : Int) (wrap64 (x80_6 + 1))) = some (r1,r2):=by first|(rw [hy341];with_reducible exact H)|(have H2_:=(Option.bind_some _ _).symm.trans H;rw [hy341];with_reducible exact H2_)|(have H2_:=(Option.bind_some _ _).symm.trans H;with_reducible exact H2_)|with_reducible exact H|(rw [hy341];exact H)|exact H
             have Ny341:=Aside0.mk hy341
             clear hy341
             have H':=Aside0.mk H
             clear H
             have p339 : 0 ≤ (x80_6 : Int):=of_decide_eq_true (by assumption)
             have q339 : x80_6 < (((rd_T101 y332 x73_5).f1).length : Int):=of_decide_eq_true (by assumption)
             obtain ⟨ad339,e339,hx339_0⟩:=Kd.at_int (Kd.V_reads' HLX.out).2.2 x80_6 p339 q339
             cases e339
             skip
             replace p339:=eq_true p339
             replace q339:=eq_true q339
             obtain ⟨Ao53,co53,eo53⟩:=Kd.R_slice HO_10.out
             subst eo53
             have p340 : 0 ≤ ((rd ((rd_T101 y332 x73_5).f1) x80_6) : Int):=of_decide_eq_true (by assumption)
             have q340 : (rd ((rd_T101 y332 x73_5).f1) x80_6) < (x10_6.length : Int):=of_decide_eq_true (by assumption)
             obtain ⟨ad340,e340,hx340_0⟩:=Kd.at_int (Kd.R_reads' HO_10.out).2.2 (rd ((rd_T101 y332 x73_5).f1) x80_6) p340 q340
             cases e340
             replace p340:=eq_true p340
             replace q340:=eq_true q340
             have p52 : 0 ≤ ((rd ((rd_T101 y332 x73_5).f1) x80_6) : Int):=of_decide_eq_true (by assumption)
             have q52 : ((rd ((rd_T101 y332 x73_5).f1) x80_6) : Int) < ((x10_6.length : Int) : Int):=of_decide_eq_true (by assumption)
             obtain ⟨go52,co52,eo52,gb52,gl52,cl52,HG52⟩:=Kd.R_form HO_10.out (by omega)
             (first|cases eo52|(injection eo52 with ea_ en_ ec_;(first|subst ea_|(injection ea_ with ea_;subst ea_));subst ec_;clear en_))
             have GB52:=Aside0.mk gb52
             have GG52:=Aside0.mk HG52
             clear gb52 gl52 HG52
             (first|simp only [add_plain] at hx340_0|skip)
             obtain ⟨hx52_0,hf52_0⟩:=Kd.R_celln 0 HO_10.out ((rd ((rd_T101 y332 x73_5).f1) x80_6) : Int) p52 q52
             replace p52:=eq_true p52
             replace q52:=eq_true q52
             have HP54:=Kd.R_putg HO_10.out ((rd ((rd_T101 y332 x73_5).f1) x80_6) : Int) (wrap64 ((rd x10_6 (rd ((rd_T101 y332 x73_5).f1) x80_6)) + 1))
             go_wp2_with (first|((with_reducible refine gate_store (t:=3) (p:=89) rfl ?_);refine store_event (t:=3) (p:=89) (v:=?vo_w55) (w1:=(wr.setCell ⟨go52,((rd ((rd_T101 y332 x73_5).f1) x80_6) : Int).toNat,none⟩ (.int .i64 (wrap64 ((rd x10_6 (rd ((rd_T101 y332 x73_5).f1) x80_6)) + 1))))) ?hg ?ho ?hn ?hr ?_;(case ho => rfl);(case hg => rfl);(case hn => rfl);(case hr => first|(go_simp;done)|(go_simp;rfl));intro w55 hw;have hg : wr.grownBy w55 (some go52):=(by rw [hw];exact HP54.2);have hp_ : Kd.R (Kd.int .i64) 3 w55 w.heap.size (fun _ => True) (.slice (some ⟨go52,0,none⟩) x10_6.length co53) y341:=(by rw [hw,Ny341.out];exact HP54.1);clear HP54;have HLX2:=Aside0.mk (Kd.V_afterv (v:=(.slice (some ⟨go52,0,none⟩) x10_6.length co53)) (v1:=(.slice (some ⟨go52,0,none⟩) x10_6.length co53)) (ok:=(fun k_ => k_ ≠ gb338)) (by (with_reducible repeat (first|apply Kd.V_alloc|apply Kd.V_drewN|apply Kd.V_drew));exact Kd.V_mono HLX.out (fun _ hk => ⟨hk.2,hk.1⟩)) hg (.inl rfl));have n0_:=Aside0.mk (hp_);have n1_:=Aside0.mk (Kd.V_afterv (v:=(.slice (some ⟨go52,0,none⟩) x10_6.length co53)) (v1:=(.slice (some ⟨go52,0,none⟩) x10_6.length co53)) (ok:=(fun k_ => k_ ≠ gb338)) (by (with_reducible repeat (first|apply Kd.V_alloc|apply Kd.V_drewN|apply Kd.V_drew));exact Kd.V_mono HO_71.out (fun _ hk => ⟨hk.2,hk.1⟩)) hg (.inl rfl));have n2_:=Aside0.mk (blk_grown (g:=gb338) (o:=.cells #[.int .i64 ((rd_T101 y332 x73_5).f0),.slice (some ad339) ((rd_T101 y332 x73_5).f1).length c337_1] 101 (0,0)) (by (with_reducible repeat (first|refine blk_drewN ?_ _|refine blk_drew ?_|refine blk_alloc ?_ _));exact BK338.out) hg (Kd.R_ne HO_10.out BK338.out (by decide)));have n3_:=Aside0.mk ((by rw [hw];exact below_set (HB.out) GB52.out : Below w.heap.size w w55));clear HO_10;clear HO_71;clear BK338;clear HB;have HO_10:=n0_;have HO_71:=n1_;have BK338:=n2_;have HB:=n3_;clear n0_ n1_ n2_ n3_;clear hg hw hp_))
             go_roundg k6
             case measure => have:=HK1.out;have:=HJ7.out;have:=HJ18.out;have:=HK4.out;have:=HK5.out;have:=HK6.out;omega
             case rel => exact ⟨(y341),(wrap64 (x80_6 + 1)),(by first|rfl|(simp;done)|(simp [*];done)),H',⟨by have:=HK1.out;have:=HJ7.out;have:=HJ18.out;have:=HK4.out;have:=HK5.out;have:=HK6.out;omega⟩,⟨by (with_reducible repeat (first|apply Kd.R_alloc|apply Kd.R_drewN|apply Kd.R_drew));exact HO_10.out⟩,⟨by (with_reducible repeat (first|apply Kd.V_alloc|apply Kd.V_drewN|apply Kd.V_drew));exact Kd.V_mono HO_71.out (fun _ hk => ⟨hk.2,hk.1⟩)⟩,⟨by (with_reducible repeat (first|apply Kd.V_alloc|apply Kd.V_drewN|apply Kd.V_drew));exact Kd.V_mono HLX2.out (fun _ hk => ⟨hk.2,hk.1⟩)⟩,⟨by (with_reducible repeat (first|refine blk_drewN ?_ _|refine blk_drew ?_|refine blk_alloc ?_ _));exact BK338.out⟩,⟨by repeat (first|(with_reducible first|exact HB.out|apply below_alloc|apply pw_below_drewN|apply below_drew1|refine below_set ?_ GE338.out)|exact HB.out)⟩⟩
end Go.Proofs.Ytimomemkbcidnaa.PFnPackage
