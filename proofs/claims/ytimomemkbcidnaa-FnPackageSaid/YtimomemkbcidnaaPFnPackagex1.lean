-- Written by a program of this session (a changed print); Lean checks it.
import Derived.Test.YtimomemkbcidnaaPFnPackagex0
namespace Go.Proofs.Ytimomemkbcidnaa.PFnPackage
open Go.RowKit Go.Proofs.YtimomemkbcidnaaW.PrintWords Go.Proofs.YtimomemkbcidnaaW.PrintLast Go.Proofs.YtimomemkbcidnaaW.PrintMore
attribute [local go_sem] max2_int min2_int max_two min_two max_three min_three max_four min_four   -- for this text's walks alone
set_option linter.unusedVariables false
set_option linter.unusedSimpArgs false
open Act renaming put → sPu
open List renaming setIfInBounds_toArray → sIa, set_cons_zero → sCz, set_cons_succ → sCs
open Bool renaming true → Y, false → Z

/-! ### spec_l01In: function 52 -/
def spec_l01In.f (a0 : Int) (a1 : Int) (a2 : Int) : Option (Bool) := if a0 ≥ a1 then (some (decide (a0 ≤ a2))) else (some false)
set_option maxHeartbeats 8000000 in
set_option maxRecDepth 100000 in
theorem spec_l01In.calls (a0 : Int) (a1 : Int) (a2 : Int) (r : Bool) (w : World) (h : spec_l01In.f a0 a1 a2 = some r) :
    Calls Try.prog 52 #[.int .i64 a0, .int .i64 a1, .int .i64 a2] w fun e w' => e = .returned (.bool r) ∧ Drawn0 w w' := by
 have H : (if a0 ≥ a1 then (some (decide (a0 ≤ a2))) else (some false)) = some r:=h
 clear h
 by_cases c4 : a0 ≥ a1
 ·rw [if_pos c4] at H
  have c4b0 : decide (a1 ≤ a0) = true:=decide_eq_true c4
  clear c4
  obtain rfl:=Option.some.inj H
  go_enter Try.func52,Try.ntmps52
  go_wp2
  go_ret
  exact ⟨by first|rfl|(simp;done)|(simp [*];done),by repeat (first|exact Drawn0.refl _|apply Drawn0.step)⟩
 rw [if_neg c4] at H
 have c4b0 : decide (a1 ≤ a0) = false:=decide_eq_false c4
 clear c4
 obtain rfl:=Option.some.inj H
 go_enter Try.func52,Try.ntmps52
 go_wp2
 go_ret
 exact ⟨by first|rfl|(simp;done)|(simp [*];done),by repeat (first|exact Drawn0.refl _|apply Drawn0.step)⟩
/-! ### spec_l01Pow: function 67 -/
def spec_l01Pow.l0 : Nat → Int → Int → Int → Option (Int)
  | 0, _, _, _ => none
  | k + 1, x0, x3, x4 => if x4 < x0 then (spec_l01Pow.l0 k x0 (wrap64 (2 * x3)) (wrap64 (x4 + 1))) else (some x3)
def spec_l01Pow.f (k : Nat) (a0 : Int) : Option (Int) := spec_l01Pow.l0 k a0 1 0
theorem spec_l01Pow.mono_l : ∀ k, (∀ y0 y1 y2, LeO (spec_l01Pow.l0 k y0 y1 y2) (spec_l01Pow.l0 (k + 1) y0 y1 y2))
  | 0 => fun _ _ _ r h => by simp [spec_l01Pow.l0] at h
  | k + 1 => by
    have ih0 := spec_l01Pow.mono_l k
    · intro y0 y1 y2
      unfold spec_l01Pow.l0
      repeat' first
      | (with_reducible exact ih0 _ _ _)
      | (with_reducible exact LeO.refl _)
      | (with_reducible exact LeO.none _)
      | (with_reducible refine LeO.ite ?_ ?_)
      | (with_reducible refine LeO.bind ?_ (fun _ => ?_))
      | exact ih0 _ _ _
      | exact LeO.none _
      | refine LeO.ite ?_ ?_
      | refine LeO.bind ?_ (fun _ => ?_)
theorem spec_l01Pow.mono : ∀ a0 k, LeO (spec_l01Pow.f k a0) (spec_l01Pow.f (k + 1) a0) := by
  intro a0 k
  have ih0 := spec_l01Pow.mono_l k
  unfold spec_l01Pow.f
  repeat' first
      | (with_reducible exact ih0 _ _ _)
      | (with_reducible exact LeO.refl _)
      | (with_reducible exact LeO.none _)
      | (with_reducible refine LeO.ite ?_ ?_)
      | (with_reducible refine LeO.bind ?_ (fun _ => ?_))
      | exact ih0 _ _ _
      | exact LeO.none _
      | refine LeO.ite ?_ ?_
      | refine LeO.bind ?_ (fun _ => ?_)
set_option maxHeartbeats 8000000 in
set_option maxRecDepth 100000 in
theorem spec_l01Pow.calls (k : Nat) (a0 : Int) (r : Int) (w : World) (h : spec_l01Pow.f k a0 = some r) :
    Calls Try.prog 67 #[.int .i64 a0] w fun e w' => e = .returned (.int .i64 r) ∧ Drawn0 w w' := by
 have H : (spec_l01Pow.l0 k a0 1 0) = some r:=h
 clear h
 have H':=Aside0.mk H
 clear H
 go_enter Try.func67,Try.ntmps67
 go_wp2
 go_loopg [3,4] k (fun kq v3 v4 w' => ∃ (x3_1 : Int) (x4_1 : Int),v3 = .int .i64 x3_1∧v4 = .int .i64 x4_1∧Aside0 (spec_l01Pow.l0 kq a0 x3_1 x4_1 = some r)∧Aside0 (kq ≤ k)∧Drawn0 w w')
 case atStart => exact ⟨(1),(0),(by first|rfl|(simp;done)|(simp [*];done)),(by first|rfl|(simp;done)|(simp [*];done)),H',⟨Nat.le_refl _⟩,by repeat (first|exact Drawn0.refl _|apply Drawn0.step)⟩
 case round =>
  clear H'
  obtain ⟨x3_1,x4_1,rfl,rfl,HA,HK1,⟨m1,rfl⟩⟩:=hrel
  cases gk with
  | zero => exact absurd HA.out (by simp [spec_l01Pow.l0])
  | succ k1 =>
   have H:=HA.out
   clear HA
   simp only [spec_l01Pow.l0] at H
   by_cases c2 : x4_1 < a0
   rotate_left
   ·rw [if_neg c2] at H
    have c2b0 : decide (x4_1 < a0) = false:=decide_eq_false c2
    clear c2
    obtain rfl:=Option.some.inj H
    go_wp2
    go_ret
    exact ⟨by first|rfl|(simp;done)|(simp [*];done),by repeat (first|exact Drawn0.refl _|apply Drawn0.step)⟩
   rw [if_pos c2] at H
   have c2b0 : decide (x4_1 < a0) = true:=decide_eq_true c2
   clear c2
   have H':=Aside0.mk H
   clear H
   go_wp2
   go_roundg k1
   case measure => have:=HK1.out;omega
   case rel => exact ⟨(wrap64 (2 * x3_1)),(wrap64 (x4_1 + 1)),(by first|rfl|(simp;done)|(simp [*];done)),(by first|rfl|(simp;done)|(simp [*];done)),H',⟨by have:=HK1.out;omega⟩,by repeat (first|exact Drawn0.refl _|apply Drawn0.step)⟩
/-! ### spec_l03Room: function 49 -/
def spec_l03Room.l0 : Nat → List Int → Int → Int → Option (Int × Bool)
  | 0, _, _, _ => none
  | k + 1, x0, x6, x7 => if x7 < (x0.length : Int) then (if 0 ≤ x7 then ((spec_l01In.f (rd x0 x7) 0 15).bind fun t102 => (if t102 = true then (if (rd x0 x7) > 0 then ((spec_l01Pow.f k (wrap64 (15 - (rd x0 x7)))).bind fun t105 => (spec_l03Room.l0 k x0 (wrap64 (x6 + t105)) (wrap64 (x7 + 1)))) else (spec_l03Room.l0 k x0 x6 (wrap64 (x7 + 1)))) else (some (0, false)))) else (none)) else (some (x6, true))
def spec_l03Room.f (k : Nat) (l0 : List Int) (a1 : Int) : Option (Int × Bool) := if (l0.length : Int) > a1 then (some (0, false)) else (spec_l03Room.l0 k l0 0 0)
theorem spec_l03Room.mono_l : ∀ k, (∀ y0 y1 y2, LeO (spec_l03Room.l0 k y0 y1 y2) (spec_l03Room.l0 (k + 1) y0 y1 y2))
  | 0 => fun _ _ _ r h => by simp [spec_l03Room.l0] at h
  | k + 1 => by
    have ih0 := spec_l03Room.mono_l k
    · intro y0 y1 y2
      unfold spec_l03Room.l0
      repeat' first
      | (with_reducible exact ih0 _ _ _)
      | (with_reducible exact spec_l01Pow.mono _ _)
      | (with_reducible exact LeO.refl _)
      | (with_reducible exact LeO.none _)
      | (with_reducible refine LeO.ite ?_ ?_)
      | (with_reducible refine LeO.bind ?_ (fun _ => ?_))
      | exact ih0 _ _ _
      | exact spec_l01Pow.mono _ _
      | exact LeO.none _
      | refine LeO.ite ?_ ?_
      | refine LeO.bind ?_ (fun _ => ?_)
theorem spec_l03Room.mono : ∀ a0 a1 k, LeO (spec_l03Room.f k a0 a1) (spec_l03Room.f (k + 1) a0 a1) := by
  intro a0 a1 k
  have ih0 := spec_l03Room.mono_l k
  unfold spec_l03Room.f
  repeat' first
      | (with_reducible exact ih0 _ _ _)
      | (with_reducible exact spec_l01Pow.mono _ _)
      | (with_reducible exact LeO.refl _)
      | (with_reducible exact LeO.none _)
      | (with_reducible refine LeO.ite ?_ ?_)
      | (with_reducible refine LeO.bind ?_ (fun _ => ?_))
      | exact ih0 _ _ _
      | exact spec_l01Pow.mono _ _
      | exact LeO.none _
      | refine LeO.ite ?_ ?_
      | refine LeO.bind ?_ (fun _ => ?_)
set_option maxHeartbeats 8000000 in
set_option maxRecDepth 100000 in
theorem spec_l03Room.calls (k : Nat) (A0 : Option Addr) (c0 : Nat) (l0 : List Int) (a1 : Int) (r1 : Int) (r2 : Bool) (w : World) (hr0 : Kd.C (Kd.int .i64) w A0 l0.length l0) (hc0 : l0.length ≤ c0) (h : spec_l03Room.f k l0 a1 = some (r1, r2)) :
    Calls Try.prog 49 #[.slice A0 l0.length c0, .int .i64 a1] w fun e w' => e = .returned (.tuple #[.int .i64 r1, .bool r2]) ∧ Drawn0 w w' := by
 have HR0:=Aside0.mk hr0
 have HC0:=Aside0.mk hc0
 clear hr0 hc0
 have H : (if (l0.length : Int) > a1 then (some (0,false)) else (spec_l03Room.l0 k l0 0 0)) = some (r1,r2):=h
 clear h
 by_cases c3 : (l0.length : Int) > a1
 ·rw [if_pos c3] at H
  have c3b0 : decide (a1 < (l0.length : Int)) = true:=decide_eq_true c3
  clear c3
  simp only [Option.some.injEq,Prod.mk.injEq] at H
  obtain ⟨rfl,rfl⟩:=H
  go_enter Try.func49,Try.ntmps49
  go_wp2
  go_ret2
  exact ⟨by first|rfl|(simp;done)|(simp [*];done),by repeat (first|exact Drawn0.refl _|apply Drawn0.step)⟩
 rw [if_neg c3] at H
 have c3b0 : decide (a1 < (l0.length : Int)) = false:=decide_eq_false c3
 clear c3
 have H':=Aside0.mk H
 clear H
 go_enter Try.func49,Try.ntmps49
 go_wp2
 go_loopg [6,7] k (fun kq v6 v7 w' => ∃ (x6_1 : Int) (x7_1 : Int),v6 = .int .i64 x6_1∧v7 = .int .i64 x7_1∧Aside0 (spec_l03Room.l0 kq l0 x6_1 x7_1 = some (r1,r2))∧Aside0 (kq ≤ k)∧Drawn0 w w')
 case atStart => exact ⟨(0),(0),(by first|rfl|(simp;done)|(simp [*];done)),(by first|rfl|(simp;done)|(simp [*];done)),H',⟨Nat.le_refl _⟩,by repeat (first|exact Drawn0.refl _|apply Drawn0.step)⟩
 case round =>
  clear H'
  obtain ⟨x6_1,x7_1,rfl,rfl,HA,HK1,⟨m1,rfl⟩⟩:=hrel
  cases gk with
  | zero => exact absurd HA.out (by simp [spec_l03Room.l0])
  | succ k1 =>
   have H:=HA.out
   clear HA
   simp only [spec_l03Room.l0] at H
   by_cases c4 : x7_1 < (l0.length : Int)
   rotate_left
   ·rw [if_neg c4] at H
    have c4b0 : decide (x7_1 < (l0.length : Int)) = false:=decide_eq_false c4
    clear c4
    simp only [Option.some.injEq,Prod.mk.injEq] at H
    obtain ⟨rfl,rfl⟩:=H
    go_wp2
    go_ret2
    exact ⟨by first|rfl|(simp;done)|(simp [*];done),by repeat (first|exact Drawn0.refl _|apply Drawn0.step)⟩
   rw [if_pos c4] at H
   have c4b0 : decide (x7_1 < (l0.length : Int)) = true:=decide_eq_true c4
   clear c4
   by_cases c5 : 0 ≤ x7_1
   rotate_left
   ·rw [if_neg c5] at H
    exact absurd H (by simp)
   rw [if_pos c5] at H
   have c5b0 : decide (0 ≤ x7_1) = true:=decide_eq_true c5
   clear c5
   replace H:=Option.bind_eq_some_iff.mp H
   obtain ⟨t102,A60,H⟩:=H
   replace H : (if t102 = true then (if (rd l0 x7_1) > 0 then ((spec_l01Pow.f k1 (wrap64 (15 - (rd l0 x7_1)))).bind fun t105 => (spec_l03Room.l0 k1 l0 (wrap64 (x6_1 + t105)) (wrap64 (x7_1 + 1)))) else (spec_l03Room.l0 k1 l0 x6_1 (wrap64 (x7_1 + 1)))) else (some (0,false))) = some (r1,r2):=H
   have A6:=Aside0.mk A60
   clear A60
   by_cases c7 : t102 = true
   rotate_left
   ·replace c7:=Bool.eq_false_iff.mpr c7
    subst c7
    have H1 : (some (0,false)) = some (r1,r2):=by rw [if_neg (show ¬ (false = true) by decide)] at H;exact H
    clear H
    have H:=H1
    clear H1
    simp only [Option.some.injEq,Prod.mk.injEq] at H
    obtain ⟨rfl,rfl⟩:=H
    have p101 : 0 ≤ (x7_1 : Int):=of_decide_eq_true (by assumption)
    have q101 : x7_1 < (l0.length : Int):=of_decide_eq_true (by assumption)
    obtain ⟨ad101,e101,hx101_0⟩:=Kd.at_int HR0.out x7_1 p101 q101
    cases e101
    replace p101:=eq_true p101
    replace q101:=eq_true q101
    go_wp2_with (first|((with_reducible refine gate_callee (f:=52) rfl ?_);refine goesL_ (some 22) rfl rfl Try.func52 (by kernel_rfl) rfl #[.int .i64 (rd l0 x7_1),.int .i64 0,.int .i64 15] rfl (by (try simp only [List.map_toArray,List.map_cons,List.map_nil]);first|done|rfl|(simp only [List.length_drop,List.length_take];rfl)) ?_;(with_reducible refine (spec_l01In.calls (rd l0 x7_1) 0 15 false _ A6.out).mono ?_);rintro e w' ⟨rfl,⟨nd,rfl⟩⟩;refine ⟨_,rfl,?_⟩))
    go_ret2
    exact ⟨by first|rfl|(simp;done)|(simp [*];done),by repeat (first|exact Drawn0.refl _|apply Drawn0.step)⟩
   subst c7
   have H1 : (if (rd l0 x7_1) > 0 then ((spec_l01Pow.f k1 (wrap64 (15 - (rd l0 x7_1)))).bind fun t105 => (spec_l03Room.l0 k1 l0 (wrap64 (x6_1 + t105)) (wrap64 (x7_1 + 1)))) else (spec_l03Room.l0 k1 l0 x6_1 (wrap64 (x7_1 + 1)))) = some (r1,r2):=by rw [if_pos rfl] at H;exact H
   clear H
   have H:=H1
   clear H1
   by_cases c8 : (rd l0 x7_1) > 0
   rotate_left
   ·rw [if_neg c8] at H
    have c8b0 : decide (0 < (rd l0 x7_1)) = false:=decide_eq_false c8
    clear c8
    have H':=Aside0.mk H
    clear H
    have p101 : 0 ≤ (x7_1 : Int):=of_decide_eq_true (by assumption)
    have q101 : x7_1 < (l0.length : Int):=of_decide_eq_true (by assumption)
    obtain ⟨ad101,e101,hx101_0⟩:=Kd.at_int HR0.out x7_1 p101 q101
    cases e101
    replace p101:=eq_true p101
    replace q101:=eq_true q101
    go_wp2_with (first|((with_reducible refine gate_callee (f:=52) rfl ?_);refine goesL_ (some 22) rfl rfl Try.func52 (by kernel_rfl) rfl #[.int .i64 (rd l0 x7_1),.int .i64 0,.int .i64 15] rfl (by (try simp only [List.map_toArray,List.map_cons,List.map_nil]);first|done|rfl|(simp only [List.length_drop,List.length_take];rfl)) ?_;(with_reducible refine (spec_l01In.calls (rd l0 x7_1) 0 15 true _ A6.out).mono ?_);rintro e w' ⟨rfl,⟨nd,rfl⟩⟩;refine ⟨_,rfl,?_⟩;have p103 : 0 ≤ (x7_1 : Int):=of_decide_eq_true (by assumption);have q103 : x7_1 < (l0.length : Int):=of_decide_eq_true (by assumption);obtain ⟨ad103,e103,hx103_0⟩:=Kd.at_int HR0.out x7_1 p103 q103;obtain rfl : ad101 = ad103:=(by injection e103);replace p103:=eq_true p103;replace q103:=eq_true q103))
    go_roundg k1
    case measure => have:=HK1.out;omega
    case rel => exact ⟨(x6_1),(wrap64 (x7_1 + 1)),(by first|rfl|(simp;done)|(simp [*];done)),(by first|rfl|(simp;done)|(simp [*];done)),H',⟨by have:=HK1.out;omega⟩,by repeat (first|exact Drawn0.refl _|apply Drawn0.step)⟩
   rw [if_pos c8] at H
   have c8b0 : decide (0 < (rd l0 x7_1)) = true:=decide_eq_true c8
   clear c8
   replace H:=Option.bind_eq_some_iff.mp H
   obtain ⟨t105,A90,H⟩:=H
   replace H : (spec_l03Room.l0 k1 l0 (wrap64 (x6_1 + t105)) (wrap64 (x7_1 + 1))) = some (r1,r2):=H
   have A9:=Aside0.mk A90
   clear A90
   have H':=Aside0.mk H
   clear H
   have p101 : 0 ≤ (x7_1 : Int):=of_decide_eq_true (by assumption)
   have q101 : x7_1 < (l0.length : Int):=of_decide_eq_true (by assumption)
   obtain ⟨ad101,e101,hx101_0⟩:=Kd.at_int HR0.out x7_1 p101 q101
   cases e101
   replace p101:=eq_true p101
   replace q101:=eq_true q101
   go_wp2_with (first|((with_reducible refine gate_callee (f:=52) rfl ?_);refine goesL_ (some 22) rfl rfl Try.func52 (by kernel_rfl) rfl #[.int .i64 (rd l0 x7_1),.int .i64 0,.int .i64 15] rfl (by (try simp only [List.map_toArray,List.map_cons,List.map_nil]);first|done|rfl|(simp only [List.length_drop,List.length_take];rfl)) ?_;(with_reducible refine (spec_l01In.calls (rd l0 x7_1) 0 15 true _ A6.out).mono ?_);rintro e w' ⟨rfl,⟨nd,rfl⟩⟩;refine ⟨_,rfl,?_⟩;have p103 : 0 ≤ (x7_1 : Int):=of_decide_eq_true (by assumption);have q103 : x7_1 < (l0.length : Int):=of_decide_eq_true (by assumption);obtain ⟨ad103,e103,hx103_0⟩:=Kd.at_int HR0.out x7_1 p103 q103;obtain rfl : ad101 = ad103:=(by injection e103);replace p103:=eq_true p103;replace q103:=eq_true q103;have p104 : 0 ≤ (x7_1 : Int):=of_decide_eq_true (by assumption);have q104 : x7_1 < (l0.length : Int):=of_decide_eq_true (by assumption);obtain ⟨ad104,e104,hx104_0⟩:=Kd.at_int HR0.out x7_1 p104 q104;obtain rfl : ad101 = ad104:=(by injection e104);replace p104:=eq_true p104;replace q104:=eq_true q104)|((with_reducible refine gate_callee (f:=67) rfl ?_);refine goesL_ (some 35) rfl rfl Try.func67 (by kernel_rfl) rfl #[.int .i64 (wrap64 (15 - (rd l0 x7_1)))] rfl (by (try simp only [List.map_toArray,List.map_cons,List.map_nil]);first|done|rfl|(simp only [List.length_drop,List.length_take];rfl)) ?_;(with_reducible refine (spec_l01Pow.calls k1 (wrap64 (15 - (rd l0 x7_1))) t105 _ A9.out).mono ?_);rintro e w' ⟨rfl,⟨nd,rfl⟩⟩;refine ⟨_,rfl,?_⟩))
   go_roundg k1
   case measure => have:=HK1.out;omega
   case rel => exact ⟨(wrap64 (x6_1 + t105)),(wrap64 (x7_1 + 1)),(by first|rfl|(simp;done)|(simp [*];done)),(by first|rfl|(simp;done)|(simp [*];done)),H',⟨by have:=HK1.out;omega⟩,by repeat (first|exact Drawn0.refl _|apply Drawn0.step)⟩
/-! ### spec_CodeKind: function 14 -/
def spec_CodeKind.l0 : Nat → List Int → Int → Int → Int → Option (Int)
  | 0, _, _, _, _ => none
  | k + 1, x0, x3, x5, x6 => if x6 < (x0.length : Int) then (if 0 ≤ x6 then (if (rd x0 x6) > 0 then (spec_CodeKind.l0 k x0 x3 (wrap64 (x5 + 1)) (wrap64 (x6 + 1))) else (spec_CodeKind.l0 k x0 x3 x5 (wrap64 (x6 + 1)))) else (none)) else (if x5 = 0 then (some 1) else (if x3 = 32768 then (some 2) else (if x3 > 32768 then (some 5) else (if x5 = 1 then (if x3 = 16384 then (some 3) else (some 4)) else (some 4)))))
def spec_CodeKind.f (k : Nat) (l0 : List Int) : Option (Int) := (spec_l03Room.f k l0 288).bind fun bt106 => (if bt106.2 = true then (spec_CodeKind.l0 k l0 bt106.1 0 0) else (some 0))
theorem spec_CodeKind.mono_l : ∀ k, (∀ y0 y1 y2 y3, LeO (spec_CodeKind.l0 k y0 y1 y2 y3) (spec_CodeKind.l0 (k + 1) y0 y1 y2 y3))
  | 0 => fun _ _ _ _ r h => by simp [spec_CodeKind.l0] at h
  | k + 1 => by
    have ih0 := spec_CodeKind.mono_l k
    · intro y0 y1 y2 y3
      unfold spec_CodeKind.l0
      repeat' first
      | (with_reducible exact ih0 _ _ _ _)
      | (with_reducible exact spec_l03Room.mono _ _ _)
      | (with_reducible exact LeO.refl _)
      | (with_reducible exact LeO.none _)
      | (with_reducible refine LeO.ite ?_ ?_)
      | (with_reducible refine LeO.bind ?_ (fun _ => ?_))
      | exact ih0 _ _ _ _
      | exact spec_l03Room.mono _ _ _
      | exact LeO.none _
      | refine LeO.ite ?_ ?_
      | refine LeO.bind ?_ (fun _ => ?_)
theorem spec_CodeKind.mono : ∀ a0 k, LeO (spec_CodeKind.f k a0) (spec_CodeKind.f (k + 1) a0) := by
  intro a0 k
  have ih0 := spec_CodeKind.mono_l k
  unfold spec_CodeKind.f
  repeat' first
      | (with_reducible exact ih0 _ _ _ _)
      | (with_reducible exact spec_l03Room.mono _ _ _)
      | (with_reducible exact LeO.refl _)
      | (with_reducible exact LeO.none _)
      | (with_reducible refine LeO.ite ?_ ?_)
      | (with_reducible refine LeO.bind ?_ (fun _ => ?_))
      | exact ih0 _ _ _ _
      | exact spec_l03Room.mono _ _ _
      | exact LeO.none _
      | refine LeO.ite ?_ ?_
      | refine LeO.bind ?_ (fun _ => ?_)
set_option maxHeartbeats 8000000 in
set_option maxRecDepth 100000 in
theorem spec_CodeKind.calls (k : Nat) (A0 : Option Addr) (c0 : Nat) (l0 : List Int) (r : Int) (w : World) (hr0 : Kd.C (Kd.int .i64) w A0 l0.length l0) (hc0 : l0.length ≤ c0) (h : spec_CodeKind.f k l0 = some r) :
    Calls Try.prog 14 #[.slice A0 l0.length c0] w fun e w' => e = .returned (.int .i64 r) ∧ Drawn0 w w' := by
 have HR0:=Aside0.mk hr0
 have HC0:=Aside0.mk hc0
 clear hr0 hc0
 have H : ((spec_l03Room.f k l0 288).bind fun bt106 => (if bt106.2 = true then (spec_CodeKind.l0 k l0 bt106.1 0 0) else (some 0))) = some r:=h
 clear h
 replace H:=Option.bind_eq_some_iff.mp H
 obtain ⟨⟨t106,t107⟩,A20,H⟩:=H
 replace H : (if t107 = true then (spec_CodeKind.l0 k l0 t106 0 0) else (some 0)) = some r:=H
 have A2:=Aside0.mk A20
 clear A20
 by_cases c3 : t107 = true
 rotate_left
 ·replace c3:=Bool.eq_false_iff.mpr c3
  subst c3
  have H1 : (some 0) = some r:=by rw [if_neg (show ¬ (false = true) by decide)] at H;exact H
  clear H
  have H:=H1
  clear H1
  obtain rfl:=Option.some.inj H
  go_enter Try.func14,Try.ntmps14
  go_wp2_with (first|((with_reducible refine gate_callee (f:=49) rfl ?_);refine goesL_ (some 9) rfl rfl Try.func49 (by kernel_rfl) rfl #[.slice A0 l0.length c0,.int .i64 288] rfl (by (try simp only [List.map_toArray,List.map_cons,List.map_nil]);first|done|rfl|(simp only [List.length_drop,List.length_take];rfl)) ?_;(with_reducible refine (spec_l03Room.calls k _ _ l0 288 t106 false _ ?side1 ?side2 A2.out).mono ?_);(case side1 => repeat (first|exact HR0.out|(with_reducible refine Kd.C_alloc ?_ _)|(with_reducible refine Kd.C_drewN ?_ _)|(with_reducible refine Kd.C_drew ?_)));(case side2 => exact HC0.out);rintro e w' ⟨rfl,⟨nd,rfl⟩⟩;refine ⟨_,rfl,?_⟩))
  go_ret
  exact ⟨by first|rfl|(simp;done)|(simp [*];done),by repeat (first|exact Drawn0.refl _|apply Drawn0.step)⟩
 subst c3
 have H1 : (spec_CodeKind.l0 k l0 t106 0 0) = some r:=by rw [if_pos rfl] at H;exact H
 clear H
 have H:=H1
 clear H1
 have H':=Aside0.mk H
 clear H
 go_enter Try.func14,Try.ntmps14
 go_wp2_with (first|((with_reducible refine gate_callee (f:=49) rfl ?_);refine goesL_ (some 9) rfl rfl Try.func49 (by kernel_rfl) rfl #[.slice A0 l0.length c0,.int .i64 288] rfl (by (try simp only [List.map_toArray,List.map_cons,List.map_nil]);first|done|rfl|(simp only [List.length_drop,List.length_take];rfl)) ?_;(with_reducible refine (spec_l03Room.calls k _ _ l0 288 t106 true _ ?side1 ?side2 A2.out).mono ?_);(case side1 => repeat (first|exact HR0.out|(with_reducible refine Kd.C_alloc ?_ _)|(with_reducible refine Kd.C_drewN ?_ _)|(with_reducible refine Kd.C_drew ?_)));(case side2 => exact HC0.out);rintro e w' ⟨rfl,⟨nd,rfl⟩⟩;refine ⟨_,rfl,?_⟩))
 go_loopg [5,6] k (fun kq v5 v6 w' => ∃ (x5_1 : Int) (x6_1 : Int),v5 = .int .i64 x5_1∧v6 = .int .i64 x6_1∧Aside0 (spec_CodeKind.l0 kq l0 t106 x5_1 x6_1 = some r)∧Aside0 (kq ≤ k)∧Drawn0 w w')
 case atStart => exact ⟨(0),(0),(by first|rfl|(simp;done)|(simp [*];done)),(by first|rfl|(simp;done)|(simp [*];done)),H',⟨Nat.le_refl _⟩,by repeat (first|exact Drawn0.refl _|apply Drawn0.step)⟩
 case round =>
  clear H'
  obtain ⟨x5_1,x6_1,rfl,rfl,HA,HK1,⟨m1,rfl⟩⟩:=hrel
  cases gk with
  | zero => exact absurd HA.out (by simp [spec_CodeKind.l0])
  | succ k1 =>
   have H:=HA.out
   clear HA
   simp only [spec_CodeKind.l0] at H
   by_cases c4 : x6_1 < (l0.length : Int)
   ·rw [if_pos c4] at H
    have c4b0 : decide (x6_1 < (l0.length : Int)) = true:=decide_eq_true c4
    clear c4
    by_cases c5 : 0 ≤ x6_1
    rotate_left
    ·rw [if_neg c5] at H
     exact absurd H (by simp)
    rw [if_pos c5] at H
    have c5b0 : decide (0 ≤ x6_1) = true:=decide_eq_true c5
    clear c5
    by_cases c6 : (rd l0 x6_1) > 0
    rotate_left
    ·rw [if_neg c6] at H
     have c6b0 : decide (0 < (rd l0 x6_1)) = false:=decide_eq_false c6
     clear c6
     have H':=Aside0.mk H
     clear H
     have p108 : 0 ≤ (x6_1 : Int):=of_decide_eq_true (by assumption)
     have q108 : x6_1 < (l0.length : Int):=of_decide_eq_true (by assumption)
     obtain ⟨ad108,e108,hx108_0⟩:=Kd.at_int HR0.out x6_1 p108 q108
     cases e108
     replace p108:=eq_true p108
     replace q108:=eq_true q108
     go_wp2
     go_roundg k1
     case measure => have:=HK1.out;omega
     case rel => exact ⟨(x5_1),(wrap64 (x6_1 + 1)),(by first|rfl|(simp;done)|(simp [*];done)),(by first|rfl|(simp;done)|(simp [*];done)),H',⟨by have:=HK1.out;omega⟩,by repeat (first|exact Drawn0.refl _|apply Drawn0.step)⟩
    rw [if_pos c6] at H
    have c6b0 : decide (0 < (rd l0 x6_1)) = true:=decide_eq_true c6
    clear c6
    have H':=Aside0.mk H
    clear H
    have p108 : 0 ≤ (x6_1 : Int):=of_decide_eq_true (by assumption)
    have q108 : x6_1 < (l0.length : Int):=of_decide_eq_true (by assumption)
    obtain ⟨ad108,e108,hx108_0⟩:=Kd.at_int HR0.out x6_1 p108 q108
    cases e108
    replace p108:=eq_true p108
    replace q108:=eq_true q108
    go_wp2
    go_roundg k1
    case measure => have:=HK1.out;omega
    case rel => exact ⟨(wrap64 (x5_1 + 1)),(wrap64 (x6_1 + 1)),(by first|rfl|(simp;done)|(simp [*];done)),(by first|rfl|(simp;done)|(simp [*];done)),H',⟨by have:=HK1.out;omega⟩,by repeat (first|exact Drawn0.refl _|apply Drawn0.step)⟩
   rw [if_neg c4] at H
   have c4b0 : decide (x6_1 < (l0.length : Int)) = false:=decide_eq_false c4
   clear c4
   by_cases c7 : x5_1 = 0
   ·rw [if_pos c7] at H
    have c7b0 : (x5_1 == 0) = true:=beq_iff_eq.mpr c7
    have c7b1 : (x5_1 != 0) = false:=bne_eq_false_iff_eq.mpr c7
    clear c7
    obtain rfl:=Option.some.inj H
    go_wp2
    go_ret
    exact ⟨by first|rfl|(simp;done)|(simp [*];done),by repeat (first|exact Drawn0.refl _|apply Drawn0.step)⟩
   rw [if_neg c7] at H
   have c7b0 : (x5_1 == 0) = false:=beq_eq_false_iff_ne.mpr c7
   have c7b1 : (x5_1 != 0) = true:=bne_iff_ne.mpr c7
   by_cases c8 : t106 = 32768
   ·rw [if_pos c8] at H
    have c8b0 : (t106 == 32768) = true:=beq_iff_eq.mpr c8
    have c8b1 : (t106 != 32768) = false:=bne_eq_false_iff_eq.mpr c8
    clear c8
    obtain rfl:=Option.some.inj H
    go_wp2
    go_ret
    exact ⟨by first|rfl|(simp;done)|(simp [*];done),by repeat (first|exact Drawn0.refl _|apply Drawn0.step)⟩
   rw [if_neg c8] at H
   have c8b0 : (t106 == 32768) = false:=beq_eq_false_iff_ne.mpr c8
   have c8b1 : (t106 != 32768) = true:=bne_iff_ne.mpr c8
   by_cases c9 : t106 > 32768
   ·rw [if_pos c9] at H
    have c9b0 : decide (32768 < t106) = true:=decide_eq_true c9
    clear c9
    obtain rfl:=Option.some.inj H
    go_wp2
    go_ret
    exact ⟨by first|rfl|(simp;done)|(simp [*];done),by repeat (first|exact Drawn0.refl _|apply Drawn0.step)⟩
   rw [if_neg c9] at H
   have c9b0 : decide (32768 < t106) = false:=decide_eq_false c9
   clear c9
   by_cases c10 : x5_1 = 1
   rotate_left
   ·rw [if_neg c10] at H
    have c10b0 : (x5_1 == 1) = false:=beq_eq_false_iff_ne.mpr c10
    have c10b1 : (x5_1 != 1) = true:=bne_iff_ne.mpr c10
    obtain rfl:=Option.some.inj H
    go_wp2
    go_ret
    exact ⟨by first|rfl|(simp;done)|(simp [*];done),by repeat (first|exact Drawn0.refl _|apply Drawn0.step)⟩
   rw [if_pos c10] at H
   have c10b0 : (x5_1 == 1) = true:=beq_iff_eq.mpr c10
   have c10b1 : (x5_1 != 1) = false:=bne_eq_false_iff_eq.mpr c10
   clear c10
   by_cases c11 : t106 = 16384
   rotate_left
   ·rw [if_neg c11] at H
    have c11b0 : (t106 == 16384) = false:=beq_eq_false_iff_ne.mpr c11
    have c11b1 : (t106 != 16384) = true:=bne_iff_ne.mpr c11
    obtain rfl:=Option.some.inj H
    go_wp2
    go_ret
    exact ⟨by first|rfl|(simp;done)|(simp [*];done),by repeat (first|exact Drawn0.refl _|apply Drawn0.step)⟩
   rw [if_pos c11] at H
   have c11b0 : (t106 == 16384) = true:=beq_iff_eq.mpr c11
   have c11b1 : (t106 != 16384) = false:=bne_eq_false_iff_eq.mpr c11
   clear c11
   obtain rfl:=Option.some.inj H
   go_wp2
   go_ret
   exact ⟨by first|rfl|(simp;done)|(simp [*];done),by repeat (first|exact Drawn0.refl _|apply Drawn0.step)⟩
/-! ### spec_CostOf: function 18 -/
mutual
def spec_CostOf.j0 : Nat → List Int → List Int → Bool → Option (Int × Bool)
  | 0, _, _, _ => none
  | k + 1, x0, x1, x17 => if x17 = true then (some (0, false)) else (spec_CostOf.l0 k x0 x1 0 0)
def spec_CostOf.l0 : Nat → List Int → List Int → Int → Int → Option (Int × Bool)
  | 0, _, _, _, _ => none
  | k + 1, x0, x1, x6, x7 => if x7 < (x1.length : Int) then (if 0 ≤ x7 then ((spec_l01In.f (rd x1 x7) 0 12000).bind fun t111 => (if t111 = true then (if (rd x1 x7) > 0 then (if x7 < (x0.length : Int) then (if (rd x0 x7) = 0 then (some (0, false)) else (spec_CostOf.l0 k x0 x1 (wrap64 (x6 + (wrap64 ((rd x1 x7) * (rd x0 x7))))) (wrap64 (x7 + 1)))) else (none)) else (if x7 < (x0.length : Int) then (spec_CostOf.l0 k x0 x1 (wrap64 (x6 + (wrap64 ((rd x1 x7) * (rd x0 x7))))) (wrap64 (x7 + 1))) else (none))) else (some (0, false)))) else (none)) else (some (x6, true))
end
def spec_CostOf.f (k : Nat) (l0 : List Int) (l1 : List Int) : Option (Int × Bool) := (spec_CodeKind.f k l0).bind fun t109 => (if t109 = 0 then (spec_CostOf.j0 k l0 l1 true) else (spec_CostOf.j0 k l0 l1 ((l1.length : Int) != (l0.length : Int))))
theorem spec_CostOf.mono_l : ∀ k, (∀ y0 y1 y2, LeO (spec_CostOf.j0 k y0 y1 y2) (spec_CostOf.j0 (k + 1) y0 y1 y2)) ∧ (∀ y0 y1 y2 y3, LeO (spec_CostOf.l0 k y0 y1 y2 y3) (spec_CostOf.l0 (k + 1) y0 y1 y2 y3))
  | 0 => ⟨fun _ _ _ r h => by simp [spec_CostOf.j0] at h, fun _ _ _ _ r h => by simp [spec_CostOf.l0] at h⟩
  | k + 1 => by
    obtain ⟨ih0, ih1⟩ := spec_CostOf.mono_l k
    refine ⟨?_, ?_⟩
    · intro y0 y1 y2
      unfold spec_CostOf.j0
      repeat' first
      | (with_reducible exact ih0 _ _ _)
      | (with_reducible exact ih1 _ _ _ _)
      | (with_reducible exact spec_CodeKind.mono _ _)
      | (with_reducible exact LeO.refl _)
      | (with_reducible exact LeO.none _)
      | (with_reducible refine LeO.ite ?_ ?_)
      | (with_reducible refine LeO.bind ?_ (fun _ => ?_))
      | exact ih0 _ _ _
      | exact ih1 _ _ _ _
      | exact spec_CodeKind.mono _ _
      | exact LeO.none _
      | refine LeO.ite ?_ ?_
      | refine LeO.bind ?_ (fun _ => ?_)
    · intro y0 y1 y2 y3
      unfold spec_CostOf.l0
      repeat' first
      | (with_reducible exact ih0 _ _ _)
      | (with_reducible exact ih1 _ _ _ _)
      | (with_reducible exact spec_CodeKind.mono _ _)
      | (with_reducible exact LeO.refl _)
      | (with_reducible exact LeO.none _)
      | (with_reducible refine LeO.ite ?_ ?_)
      | (with_reducible refine LeO.bind ?_ (fun _ => ?_))
      | exact ih0 _ _ _
      | exact ih1 _ _ _ _
      | exact spec_CodeKind.mono _ _
      | exact LeO.none _
      | refine LeO.ite ?_ ?_
      | refine LeO.bind ?_ (fun _ => ?_)
theorem spec_CostOf.mono : ∀ a0 a1 k, LeO (spec_CostOf.f k a0 a1) (spec_CostOf.f (k + 1) a0 a1) := by
  intro a0 a1 k
  obtain ⟨ih0, ih1⟩ := spec_CostOf.mono_l k
  unfold spec_CostOf.f
  repeat' first
      | (with_reducible exact ih0 _ _ _)
      | (with_reducible exact ih1 _ _ _ _)
      | (with_reducible exact spec_CodeKind.mono _ _)
      | (with_reducible exact LeO.refl _)
      | (with_reducible exact LeO.none _)
      | (with_reducible refine LeO.ite ?_ ?_)
      | (with_reducible refine LeO.bind ?_ (fun _ => ?_))
      | exact ih0 _ _ _
      | exact ih1 _ _ _ _
      | exact spec_CodeKind.mono _ _
      | exact LeO.none _
      | refine LeO.ite ?_ ?_
      | refine LeO.bind ?_ (fun _ => ?_)
set_option maxHeartbeats 8000000 in
set_option maxRecDepth 100000 in
theorem spec_CostOf.calls (k : Nat) (A0 : Option Addr) (c0 : Nat) (l0 : List Int) (A1 : Option Addr) (c1 : Nat) (l1 : List Int) (r1 : Int) (r2 : Bool) (w : World) (hr0 : Kd.C (Kd.int .i64) w A0 l0.length l0) (hc0 : l0.length ≤ c0) (hr1 : Kd.C (Kd.int .i64) w A1 l1.length l1) (hc1 : l1.length ≤ c1) (h : spec_CostOf.f k l0 l1 = some (r1, r2)) :
    Calls Try.prog 18 #[.slice A0 l0.length c0, .slice A1 l1.length c1] w fun e w' => e = .returned (.tuple #[.int .i64 r1, .bool r2]) ∧ Drawn0 w w' := by
 have HR0:=Aside0.mk hr0
 have HC0:=Aside0.mk hc0
 clear hr0 hc0
 have HR1:=Aside0.mk hr1
 have HC1:=Aside0.mk hc1
 clear hr1 hc1
 have H : ((spec_CodeKind.f k l0).bind fun t109 => (if t109 = 0 then (spec_CostOf.j0 k l0 l1 true) else (spec_CostOf.j0 k l0 l1 ((l1.length : Int) != (l0.length : Int))))) = some (r1,r2):=h
 clear h
 have HC3:=Aside0.mk H
 clear H
 go_enter Try.func18,Try.ntmps18
 go_upto_region 1 with (fail)
 repeat (go_quiet (fail);go_upto_region 1 with (fail))
 go_cut [17] (fun v17 wc => ∃ (kq : Nat) (x17_2 : Bool),v17 = .bool x17_2∧Aside0 (spec_CostOf.j0 kq l0 l1 x17_2 = some (r1,r2))∧Aside0 (kq ≤ k)∧Drawn0 w wc)
 case first =>
  have H:=HC3.out
  clear HC3
  replace H:=Option.bind_eq_some_iff.mp H
  obtain ⟨t109,A40,H⟩:=H
  replace H : (if t109 = 0 then (spec_CostOf.j0 k l0 l1 true) else (spec_CostOf.j0 k l0 l1 ((l1.length : Int) != (l0.length : Int)))) = some (r1,r2):=H
  have A4:=Aside0.mk A40
  clear A40
  by_cases c5 : t109 = 0
  ·rw [if_pos c5] at H
   have c5b0 : (t109 == 0) = true:=beq_iff_eq.mpr c5
   have c5b1 : (t109 != 0) = false:=bne_eq_false_iff_eq.mpr c5
   clear c5
   (first|rw [c5b0]|(simp only [i64_w,i32_w];rw [c5b0])|skip)
   have H':=Aside0.mk H
   clear H
   go_wp2_with (first|(go_at_call 14;(with_reducible refine (spec_CodeKind.calls k _ _ l0 t109 _ ?side1 ?side2 A4.out).mono ?_);(case side1 => repeat (first|exact HR0.out|(with_reducible refine Kd.C_alloc ?_ _)|(with_reducible refine Kd.C_drewN ?_ _)|(with_reducible refine Kd.C_drew ?_)));(case side2 => exact HC0.out);rintro e w' ⟨rfl,⟨nd,rfl⟩⟩;(try first|exact ⟨rfl,_,World.drewN_drewN _ _ _⟩|exact ⟨rfl,_,Eq.trans (World.drewN_drewN _ _ _) (congrArg (World.drewN _) (Nat.add_assoc _ _ _))⟩)))
   repeat (go_quiet (first|(go_at_call 14;(with_reducible refine (spec_CodeKind.calls k _ _ l0 t109 _ ?side1 ?side2 A4.out).mono ?_);(case side1 => repeat (first|exact HR0.out|(with_reducible refine Kd.C_alloc ?_ _)|(with_reducible refine Kd.C_drewN ?_ _)|(with_reducible refine Kd.C_drew ?_)));(case side2 => exact HC0.out);rintro e w' ⟨rfl,⟨nd,rfl⟩⟩;(try first|exact ⟨rfl,_,World.drewN_drewN _ _ _⟩|exact ⟨rfl,_,Eq.trans (World.drewN_drewN _ _ _) (congrArg (World.drewN _) (Nat.add_assoc _ _ _))⟩)));try go_wp2_with (first|(go_at_call 14;(with_reducible refine (spec_CodeKind.calls k _ _ l0 t109 _ ?side1 ?side2 A4.out).mono ?_);(case side1 => repeat (first|exact HR0.out|(with_reducible refine Kd.C_alloc ?_ _)|(with_reducible refine Kd.C_drewN ?_ _)|(with_reducible refine Kd.C_drew ?_)));(case side2 => exact HC0.out);rintro e w' ⟨rfl,⟨nd,rfl⟩⟩;(try first|exact ⟨rfl,_,World.drewN_drewN _ _ _⟩|exact ⟨rfl,_,Eq.trans (World.drewN_drewN _ _ _) (congrArg (World.drewN _) (Nat.add_assoc _ _ _))⟩))))
   go_meet
   case rel => exact ⟨_,(true),(by first|rfl|(simp;done)|(simp [*];done)),H',⟨by first|omega|exact Nat.le_refl _⟩,by repeat (first|exact Drawn0.refl _|apply Drawn0.step)⟩
  rw [if_neg c5] at H
  have c5b0 : (t109 == 0) = false:=beq_eq_false_iff_ne.mpr c5
  have c5b1 : (t109 != 0) = true:=bne_iff_ne.mpr c5
  (first|rw [c5b0]|(simp only [i64_w,i32_w];rw [c5b0])|skip)
  have H':=Aside0.mk H
  clear H
  go_wp2_with (first|(go_at_call 14;(with_reducible refine (spec_CodeKind.calls k _ _ l0 t109 _ ?side1 ?side2 A4.out).mono ?_);(case side1 => repeat (first|exact HR0.out|(with_reducible refine Kd.C_alloc ?_ _)|(with_reducible refine Kd.C_drewN ?_ _)|(with_reducible refine Kd.C_drew ?_)));(case side2 => exact HC0.out);rintro e w' ⟨rfl,⟨nd,rfl⟩⟩;(try first|exact ⟨rfl,_,World.drewN_drewN _ _ _⟩|exact ⟨rfl,_,Eq.trans (World.drewN_drewN _ _ _) (congrArg (World.drewN _) (Nat.add_assoc _ _ _))⟩)))
  repeat (go_quiet (first|(go_at_call 14;(with_reducible refine (spec_CodeKind.calls k _ _ l0 t109 _ ?side1 ?side2 A4.out).mono ?_);(case side1 => repeat (first|exact HR0.out|(with_reducible refine Kd.C_alloc ?_ _)|(with_reducible refine Kd.C_drewN ?_ _)|(with_reducible refine Kd.C_drew ?_)));(case side2 => exact HC0.out);rintro e w' ⟨rfl,⟨nd,rfl⟩⟩;(try first|exact ⟨rfl,_,World.drewN_drewN _ _ _⟩|exact ⟨rfl,_,Eq.trans (World.drewN_drewN _ _ _) (congrArg (World.drewN _) (Nat.add_assoc _ _ _))⟩)));try go_wp2_with (first|(go_at_call 14;(with_reducible refine (spec_CodeKind.calls k _ _ l0 t109 _ ?side1 ?side2 A4.out).mono ?_);(case side1 => repeat (first|exact HR0.out|(with_reducible refine Kd.C_alloc ?_ _)|(with_reducible refine Kd.C_drewN ?_ _)|(with_reducible refine Kd.C_drew ?_)));(case side2 => exact HC0.out);rintro e w' ⟨rfl,⟨nd,rfl⟩⟩;(try first|exact ⟨rfl,_,World.drewN_drewN _ _ _⟩|exact ⟨rfl,_,Eq.trans (World.drewN_drewN _ _ _) (congrArg (World.drewN _) (Nat.add_assoc _ _ _))⟩))))
  go_meet
  case rel => exact ⟨_,(((l1.length : Int) != (l0.length : Int))),(by first|rfl|(simp;done)|(simp [*];done)),H',⟨by first|omega|exact Nat.le_refl _⟩,by repeat (first|exact Drawn0.refl _|apply Drawn0.step)⟩
 case rest =>
  clear HC3
  obtain ⟨kq,x17_2,rfl,HA,HJ2,⟨mc2,rfl⟩⟩:=hcut
  cases kq with
  | zero => exact absurd HA.out (by simp [spec_CostOf.j0])
  | succ kj2 =>
   have H:=HA.out
   clear HA
   simp only [spec_CostOf.j0] at H
   by_cases c6 : x17_2 = true
   ·subst c6
    have H1 : (some (0,false)) = some (r1,r2):=by rw [if_pos rfl] at H;exact H
    clear H
    have H:=H1
    clear H1
    simp only [Option.some.injEq,Prod.mk.injEq] at H
    obtain ⟨rfl,rfl⟩:=H
    go_wp2
    repeat (go_quiet (fail);try go_wp2)
    go_ret2
    exact ⟨by first|rfl|(simp;done)|(simp [*];done),by repeat (first|exact Drawn0.refl _|apply Drawn0.step)⟩
   replace c6:=Bool.eq_false_iff.mpr c6
   subst c6
   have H1 : (spec_CostOf.l0 kj2 l0 l1 0 0) = some (r1,r2):=by rw [if_neg (show ¬ (false = true) by decide)] at H;exact H
   clear H
   have H:=H1
   clear H1
   have H':=Aside0.mk H
   clear H
   go_wp2
   repeat (go_quiet (fail);try go_wp2)
   go_loopg [6,7] kj2 (fun kq v6 v7 w' => ∃ (x6_2 : Int) (x7_2 : Int),v6 = .int .i64 x6_2∧v7 = .int .i64 x7_2∧Aside0 (spec_CostOf.l0 kq l0 l1 x6_2 x7_2 = some (r1,r2))∧Aside0 (kq ≤ kj2)∧Drawn0 w w')
   case atStart => exact ⟨(0),(0),(by first|rfl|(simp;done)|(simp [*];done)),(by first|rfl|(simp;done)|(simp [*];done)),H',⟨Nat.le_refl _⟩,by repeat (first|exact Drawn0.refl _|apply Drawn0.step)⟩
   case round =>
    clear H'
    obtain ⟨x6_2,x7_2,rfl,rfl,HA,HK2,⟨m2,rfl⟩⟩:=hrel
    cases gk with
    | zero => exact absurd HA.out (by simp [spec_CostOf.l0])
    | succ k2 =>
     have H:=HA.out
     clear HA
     simp only [spec_CostOf.l0] at H
     by_cases c7 : x7_2 < (l1.length : Int)
     rotate_left
     ·rw [if_neg c7] at H
      have c7b0 : decide (x7_2 < (l1.length : Int)) = false:=decide_eq_false c7
      clear c7
      simp only [Option.some.injEq,Prod.mk.injEq] at H
      obtain ⟨rfl,rfl⟩:=H
      go_wp2
      repeat (go_quiet (fail);try go_wp2)
      go_ret2
      exact ⟨by first|rfl|(simp;done)|(simp [*];done),by repeat (first|exact Drawn0.refl _|apply Drawn0.step)⟩
     rw [if_pos c7] at H
     have c7b0 : decide (x7_2 < (l1.length : Int)) = true:=decide_eq_true c7
     clear c7
     by_cases c8 : 0 ≤ x7_2
     rotate_left
     ·rw [if_neg c8] at H
      exact absurd H (by simp)
     rw [if_pos c8] at H
     have c8b0 : decide (0 ≤ x7_2) = true:=decide_eq_true c8
     clear c8
     replace H:=Option.bind_eq_some_iff.mp H
     obtain ⟨t111,A90,H⟩:=H
     replace H : (if t111 = true then (if (rd l1 x7_2) > 0 then (if x7_2 < (l0.length : Int) then (if (rd l0 x7_2) = 0 then (some (0,false)) else (spec_CostOf.l0 k2 l0 l1 (wrap64 (x6_2 + (wrap64 ((rd l1 x7_2) * (rd l0 x7_2))))) (wrap64 (x7_2 + 1)))) else (none)) else (if x7_2 < (l0.length : Int) then (spec_CostOf.l0 k2 l0 l1 (wrap64 (x6_2 + (wrap64 ((rd l1 x7_2) * (rd l0 x7_2))))) (wrap64 (x7_2 + 1))) else (none))) else (some (0,false))) = some (r1,r2):=H
     have A9:=Aside0.mk A90
     clear A90
     by_cases c10 : t111 = true
     rotate_left
     ·replace c10:=Bool.eq_false_iff.mpr c10
      subst c10
      have H1 : (some (0,false)) = some (r1,r2):=by rw [if_neg (show ¬ (false = true) by decide)] at H;exact H
      clear H
      have H:=H1
      clear H1
      simp only [Option.some.injEq,Prod.mk.injEq] at H
      obtain ⟨rfl,rfl⟩:=H
      have p110 : 0 ≤ (x7_2 : Int):=of_decide_eq_true (by assumption)
      have q110 : x7_2 < (l1.length : Int):=of_decide_eq_true (by assumption)
      obtain ⟨ad110,e110,hx110_0⟩:=Kd.at_int HR1.out x7_2 p110 q110
      cases e110
      replace p110:=eq_true p110
      replace q110:=eq_true q110
      go_wp2_with (first|(go_at_call 52;(with_reducible refine (spec_l01In.calls (rd l1 x7_2) 0 12000 false _ A9.out).mono ?_);rintro e w' ⟨rfl,⟨nd,rfl⟩⟩;(try first|exact ⟨rfl,_,World.drewN_drewN _ _ _⟩|exact ⟨rfl,_,Eq.trans (World.drewN_drewN _ _ _) (congrArg (World.drewN _) (Nat.add_assoc _ _ _))⟩)))
      repeat (go_quiet (first|(go_at_call 52;(with_reducible refine (spec_l01In.calls (rd l1 x7_2) 0 12000 false _ A9.out).mono ?_);rintro e w' ⟨rfl,⟨nd,rfl⟩⟩;(try first|exact ⟨rfl,_,World.drewN_drewN _ _ _⟩|exact ⟨rfl,_,Eq.trans (World.drewN_drewN _ _ _) (congrArg (World.drewN _) (Nat.add_assoc _ _ _))⟩)));try go_wp2_with (first|(go_at_call 52;(with_reducible refine (spec_l01In.calls (rd l1 x7_2) 0 12000 false _ A9.out).mono ?_);rintro e w' ⟨rfl,⟨nd,rfl⟩⟩;(try first|exact ⟨rfl,_,World.drewN_drewN _ _ _⟩|exact ⟨rfl,_,Eq.trans (World.drewN_drewN _ _ _) (congrArg (World.drewN _) (Nat.add_assoc _ _ _))⟩))))
      go_ret2
      exact ⟨by first|rfl|(simp;done)|(simp [*];done),by repeat (first|exact Drawn0.refl _|apply Drawn0.step)⟩
     subst c10
     have H1 : (if (rd l1 x7_2) > 0 then (if x7_2 < (l0.length : Int) then (if (rd l0 x7_2) = 0 then (some (0,false)) else (spec_CostOf.l0 k2 l0 l1 (wrap64 (x6_2 + (wrap64 ((rd l1 x7_2) * (rd l0 x7_2))))) (wrap64 (x7_2 + 1)))) else (none)) else (if x7_2 < (l0.length : Int) then (spec_CostOf.l0 k2 l0 l1 (wrap64 (x6_2 + (wrap64 ((rd l1 x7_2) * (rd l0 x7_2))))) (wrap64 (x7_2 + 1))) else (none))) = some (r1,r2):=by rw [if_pos rfl] at H;exact H
     clear H
     have H:=H1
     clear H1
     by_cases c11 : (rd l1 x7_2) > 0
     rotate_left
     ·rw [if_neg c11] at H
      have c11b0 : decide (0 < (rd l1 x7_2)) = false:=decide_eq_false c11
      clear c11
      by_cases c14 : x7_2 < (l0.length : Int)
      rotate_left
      ·rw [if_neg c14] at H
       exact absurd H (by simp)
      rw [if_pos c14] at H
      have c14b0 : decide (x7_2 < (l0.length : Int)) = true:=decide_eq_true c14
      clear c14
      have H':=Aside0.mk H
      clear H
      have p110 : 0 ≤ (x7_2 : Int):=of_decide_eq_true (by assumption)
      have q110 : x7_2 < (l1.length : Int):=of_decide_eq_true (by assumption)
      obtain ⟨ad110,e110,hx110_0⟩:=Kd.at_int HR1.out x7_2 p110 q110
      cases e110
      replace p110:=eq_true p110
      replace q110:=eq_true q110
      go_wp2_with (first|(go_at_call 52;(with_reducible refine (spec_l01In.calls (rd l1 x7_2) 0 12000 true _ A9.out).mono ?_);rintro e w' ⟨rfl,⟨nd,rfl⟩⟩;(try first|exact ⟨rfl,_,World.drewN_drewN _ _ _⟩|exact ⟨rfl,_,Eq.trans (World.drewN_drewN _ _ _) (congrArg (World.drewN _) (Nat.add_assoc _ _ _))⟩);have p112 : 0 ≤ (x7_2 : Int):=of_decide_eq_true (by assumption);have q112 : x7_2 < (l1.length : Int):=of_decide_eq_true (by assumption);obtain ⟨ad112,e112,hx112_0⟩:=Kd.at_int HR1.out x7_2 p112 q112;obtain rfl : ad110 = ad112:=(by injection e112);replace p112:=eq_true p112;replace q112:=eq_true q112;have p116 : 0 ≤ (x7_2 : Int):=of_decide_eq_true (by assumption);have q116 : x7_2 < (l1.length : Int):=of_decide_eq_true (by assumption);obtain ⟨ad116,e116,hx116_0⟩:=Kd.at_int HR1.out x7_2 p116 q116;obtain rfl : ad110 = ad116:=(by injection e116);replace p116:=eq_true p116;replace q116:=eq_true q116;have p117 : 0 ≤ (x7_2 : Int):=of_decide_eq_true (by assumption);have q117 : x7_2 < (l0.length : Int):=of_decide_eq_true (by assumption);obtain ⟨ad117,e117,hx117_0⟩:=Kd.at_int HR0.out x7_2 p117 q117;cases e117;replace p117:=eq_true p117;replace q117:=eq_true q117))
      repeat (go_quiet (first|(go_at_call 52;(with_reducible refine (spec_l01In.calls (rd l1 x7_2) 0 12000 true _ A9.out).mono ?_);rintro e w' ⟨rfl,⟨nd,rfl⟩⟩;(try first|exact ⟨rfl,_,World.drewN_drewN _ _ _⟩|exact ⟨rfl,_,Eq.trans (World.drewN_drewN _ _ _) (congrArg (World.drewN _) (Nat.add_assoc _ _ _))⟩);have p112 : 0 ≤ (x7_2 : Int):=of_decide_eq_true (by assumption);have q112 : x7_2 < (l1.length : Int):=of_decide_eq_true (by assumption);obtain ⟨ad112,e112,hx112_0⟩:=Kd.at_int HR1.out x7_2 p112 q112;obtain rfl : ad110 = ad112:=(by injection e112);replace p112:=eq_true p112;replace q112:=eq_true q112;have p116 : 0 ≤ (x7_2 : Int):=of_decide_eq_true (by assumption);have q116 : x7_2 < (l1.length : Int):=of_decide_eq_true (by assumption);obtain ⟨ad116,e116,hx116_0⟩:=Kd.at_int HR1.out x7_2 p116 q116;obtain rfl : ad110 = ad116:=(by injection e116);replace p116:=eq_true p116;replace q116:=eq_true q116;have p117 : 0 ≤ (x7_2 : Int):=of_decide_eq_true (by assumption);have q117 : x7_2 < (l0.length : Int):=of_decide_eq_true (by assumption);obtain ⟨ad117,e117,hx117_0⟩:=Kd.at_int HR0.out x7_2 p117 q117;cases e117;replace p117:=eq_true p117;replace q117:=eq_true q117));try go_wp2_with (first|(go_at_call 52;(with_reducible refine (spec_l01In.calls (rd l1 x7_2) 0 12000 true _ A9.out).mono ?_);rintro e w' ⟨rfl,⟨nd,rfl⟩⟩;(try first|exact ⟨rfl,_,World.drewN_drewN _ _ _⟩|exact ⟨rfl,_,Eq.trans (World.drewN_drewN _ _ _) (congrArg (World.drewN _) (Nat.add_assoc _ _ _))⟩);have p112 : 0 ≤ (x7_2 : Int):=of_decide_eq_true (by assumption);have q112 : x7_2 < (l1.length : Int):=of_decide_eq_true (by assumption);obtain ⟨ad112,e112,hx112_0⟩:=Kd.at_int HR1.out x7_2 p112 q112;obtain rfl : ad110 = ad112:=(by injection e112);replace p112:=eq_true p112;replace q112:=eq_true q112;have p116 : 0 ≤ (x7_2 : Int):=of_decide_eq_true (by assumption);have q116 : x7_2 < (l1.length : Int):=of_decide_eq_true (by assumption);obtain ⟨ad116,e116,hx116_0⟩:=Kd.at_int HR1.out x7_2 p116 q116;obtain rfl : ad110 = ad116:=(by injection e116);replace p116:=eq_true p116;replace q116:=eq_true q116;have p117 : 0 ≤ (x7_2 : Int):=of_decide_eq_true (by assumption);have q117 : x7_2 < (l0.length : Int):=of_decide_eq_true (by assumption);obtain ⟨ad117,e117,hx117_0⟩:=Kd.at_int HR0.out x7_2 p117 q117;cases e117;replace p117:=eq_true p117;replace q117:=eq_true q117)))
      go_roundg k2
      case measure => have:=HJ2.out;have:=HK2.out;omega
      case rel => exact ⟨(wrap64 (x6_2 + (wrap64 ((rd l1 x7_2) * (rd l0 x7_2))))),(wrap64 (x7_2 + 1)),(by first|rfl|(simp;done)|(simp [*];done)),(by first|rfl|(simp;done)|(simp [*];done)),H',⟨by have:=HJ2.out;have:=HK2.out;omega⟩,by repeat (first|exact Drawn0.refl _|apply Drawn0.step)⟩
     rw [if_pos c11] at H
     have c11b0 : decide (0 < (rd l1 x7_2)) = true:=decide_eq_true c11
     clear c11
     by_cases c12 : x7_2 < (l0.length : Int)
     rotate_left
     ·rw [if_neg c12] at H
      exact absurd H (by simp)
     rw [if_pos c12] at H
     have c12b0 : decide (x7_2 < (l0.length : Int)) = true:=decide_eq_true c12
     clear c12
     by_cases c13 : (rd l0 x7_2) = 0
     ·rw [if_pos c13] at H
      have c13b0 : ((rd l0 x7_2) == 0) = true:=beq_iff_eq.mpr c13
      have c13b1 : ((rd l0 x7_2) != 0) = false:=bne_eq_false_iff_eq.mpr c13
      clear c13
      simp only [Option.some.injEq,Prod.mk.injEq] at H
      obtain ⟨rfl,rfl⟩:=H
      have p110 : 0 ≤ (x7_2 : Int):=of_decide_eq_true (by assumption)
      have q110 : x7_2 < (l1.length : Int):=of_decide_eq_true (by assumption)
      obtain ⟨ad110,e110,hx110_0⟩:=Kd.at_int HR1.out x7_2 p110 q110
      cases e110
      replace p110:=eq_true p110
      replace q110:=eq_true q110
      go_wp2_with (first|(go_at_call 52;(with_reducible refine (spec_l01In.calls (rd l1 x7_2) 0 12000 true _ A9.out).mono ?_);rintro e w' ⟨rfl,⟨nd,rfl⟩⟩;(try first|exact ⟨rfl,_,World.drewN_drewN _ _ _⟩|exact ⟨rfl,_,Eq.trans (World.drewN_drewN _ _ _) (congrArg (World.drewN _) (Nat.add_assoc _ _ _))⟩);have p112 : 0 ≤ (x7_2 : Int):=of_decide_eq_true (by assumption);have q112 : x7_2 < (l1.length : Int):=of_decide_eq_true (by assumption);obtain ⟨ad112,e112,hx112_0⟩:=Kd.at_int HR1.out x7_2 p112 q112;obtain rfl : ad110 = ad112:=(by injection e112);replace p112:=eq_true p112;replace q112:=eq_true q112;have p113 : 0 ≤ (x7_2 : Int):=of_decide_eq_true (by assumption);have q113 : x7_2 < (l0.length : Int):=of_decide_eq_true (by assumption);obtain ⟨ad113,e113,hx113_0⟩:=Kd.at_int HR0.out x7_2 p113 q113;cases e113;replace p113:=eq_true p113;replace q113:=eq_true q113))
      repeat (go_quiet (first|(go_at_call 52;(with_reducible refine (spec_l01In.calls (rd l1 x7_2) 0 12000 true _ A9.out).mono ?_);rintro e w' ⟨rfl,⟨nd,rfl⟩⟩;(try first|exact ⟨rfl,_,World.drewN_drewN _ _ _⟩|exact ⟨rfl,_,Eq.trans (World.drewN_drewN _ _ _) (congrArg (World.drewN _) (Nat.add_assoc _ _ _))⟩);have p112 : 0 ≤ (x7_2 : Int):=of_decide_eq_true (by assumption);have q112 : x7_2 < (l1.length : Int):=of_decide_eq_true (by assumption);obtain ⟨ad112,e112,hx112_0⟩:=Kd.at_int HR1.out x7_2 p112 q112;obtain rfl : ad110 = ad112:=(by injection e112);replace p112:=eq_true p112;replace q112:=eq_true q112;have p113 : 0 ≤ (x7_2 : Int):=of_decide_eq_true (by assumption);have q113 : x7_2 < (l0.length : Int):=of_decide_eq_true (by assumption);obtain ⟨ad113,e113,hx113_0⟩:=Kd.at_int HR0.out x7_2 p113 q113;cases e113;replace p113:=eq_true p113;replace q113:=eq_true q113));try go_wp2_with (first|(go_at_call 52;(with_reducible refine (spec_l01In.calls (rd l1 x7_2) 0 12000 true _ A9.out).mono ?_);rintro e w' ⟨rfl,⟨nd,rfl⟩⟩;(try first|exact ⟨rfl,_,World.drewN_drewN _ _ _⟩|exact ⟨rfl,_,Eq.trans (World.drewN_drewN _ _ _) (congrArg (World.drewN _) (Nat.add_assoc _ _ _))⟩);have p112 : 0 ≤ (x7_2 : Int):=of_decide_eq_true (by assumption);have q112 : x7_2 < (l1.length : Int):=of_decide_eq_true (by assumption);obtain ⟨ad112,e112,hx112_0⟩:=Kd.at_int HR1.out x7_2 p112 q112;obtain rfl : ad110 = ad112:=(by injection e112);replace p112:=eq_true p112;replace q112:=eq_true q112;have p113 : 0 ≤ (x7_2 : Int):=of_decide_eq_true (by assumption);have q113 : x7_2 < (l0.length : Int):=of_decide_eq_true (by assumption);obtain ⟨ad113,e113,hx113_0⟩:=Kd.at_int HR0.out x7_2 p113 q113;cases e113;replace p113:=eq_true p113;replace q113:=eq_true q113)))
      go_ret2
      exact ⟨by first|rfl|(simp;done)|(simp [*];done),by repeat (first|exact Drawn0.refl _|apply Drawn0.step)⟩
     rw [if_neg c13] at H
     have c13b0 : ((rd l0 x7_2) == 0) = false:=beq_eq_false_iff_ne.mpr c13
     have c13b1 : ((rd l0 x7_2) != 0) = true:=bne_iff_ne.mpr c13
     have H':=Aside0.mk H
     clear H
     have p110 : 0 ≤ (x7_2 : Int):=of_decide_eq_true (by assumption)
     have q110 : x7_2 < (l1.length : Int):=of_decide_eq_true (by assumption)
     obtain ⟨ad110,e110,hx110_0⟩:=Kd.at_int HR1.out x7_2 p110 q110
     cases e110
     replace p110:=eq_true p110
     replace q110:=eq_true q110
     go_wp2_with (first|(go_at_call 52;(with_reducible refine (spec_l01In.calls (rd l1 x7_2) 0 12000 true _ A9.out).mono ?_);rintro e w' ⟨rfl,⟨nd,rfl⟩⟩;(try first|exact ⟨rfl,_,World.drewN_drewN _ _ _⟩|exact ⟨rfl,_,Eq.trans (World.drewN_drewN _ _ _) (congrArg (World.drewN _) (Nat.add_assoc _ _ _))⟩);have p112 : 0 ≤ (x7_2 : Int):=of_decide_eq_true (by assumption);have q112 : x7_2 < (l1.length : Int):=of_decide_eq_true (by assumption);obtain ⟨ad112,e112,hx112_0⟩:=Kd.at_int HR1.out x7_2 p112 q112;obtain rfl : ad110 = ad112:=(by injection e112);replace p112:=eq_true p112;replace q112:=eq_true q112;have p113 : 0 ≤ (x7_2 : Int):=of_decide_eq_true (by assumption);have q113 : x7_2 < (l0.length : Int):=of_decide_eq_true (by assumption);obtain ⟨ad113,e113,hx113_0⟩:=Kd.at_int HR0.out x7_2 p113 q113;cases e113;replace p113:=eq_true p113;replace q113:=eq_true q113;have p114 : 0 ≤ (x7_2 : Int):=of_decide_eq_true (by assumption);have q114 : x7_2 < (l1.length : Int):=of_decide_eq_true (by assumption);obtain ⟨ad114,e114,hx114_0⟩:=Kd.at_int HR1.out x7_2 p114 q114;obtain rfl : ad110 = ad114:=(by injection e114);replace p114:=eq_true p114;replace q114:=eq_true q114;have p115 : 0 ≤ (x7_2 : Int):=of_decide_eq_true (by assumption);have q115 : x7_2 < (l0.length : Int):=of_decide_eq_true (by assumption);obtain ⟨ad115,e115,hx115_0⟩:=Kd.at_int HR0.out x7_2 p115 q115;obtain rfl : ad113 = ad115:=(by injection e115);replace p115:=eq_true p115;replace q115:=eq_true q115))
     repeat (go_quiet (first|(go_at_call 52;(with_reducible refine (spec_l01In.calls (rd l1 x7_2) 0 12000 true _ A9.out).mono ?_);rintro e w' ⟨rfl,⟨nd,rfl⟩⟩;(try first|exact ⟨rfl,_,World.drewN_drewN _ _ _⟩|exact ⟨rfl,_,Eq.trans (World.drewN_drewN _ _ _) (congrArg (World.drewN _) (Nat.add_assoc _ _ _))⟩);have p112 : 0 ≤ (x7_2 : Int):=of_decide_eq_true (by assumption);have q112 : x7_2 < (l1.length : Int):=of_decide_eq_true (by assumption);obtain ⟨ad112,e112,hx112_0⟩:=Kd.at_int HR1.out x7_2 p112 q112;obtain rfl : ad110 = ad112:=(by injection e112);replace p112:=eq_true p112;replace q112:=eq_true q112;have p113 : 0 ≤ (x7_2 : Int):=of_decide_eq_true (by assumption);have q113 : x7_2 < (l0.length : Int):=of_decide_eq_true (by assumption);obtain ⟨ad113,e113,hx113_0⟩:=Kd.at_int HR0.out x7_2 p113 q113;cases e113;replace p113:=eq_true p113;replace q113:=eq_true q113;have p114 : 0 ≤ (x7_2 : Int):=of_decide_eq_true (by assumption);have q114 : x7_2 < (l1.length : Int):=of_decide_eq_true (by assumption);obtain ⟨ad114,e114,hx114_0⟩:=Kd.at_int HR1.out x7_2 p114 q114;obtain rfl : ad110 = ad114:=(by injection e114);replace p114:=eq_true p114;replace q114:=eq_true q114;have p115 : 0 ≤ (x7_2 : Int):=of_decide_eq_true (by assumption);have q115 : x7_2 < (l0.length : Int):=of_decide_eq_true (by assumption);obtain ⟨ad115,e115,hx115_0⟩:=Kd.at_int HR0.out x7_2 p115 q115;obtain rfl : ad113 = ad115:=(by injection e115);replace p115:=eq_true p115;replace q115:=eq_true q115));try go_wp2_with (first|(go_at_call 52;(with_reducible refine (spec_l01In.calls (rd l1 x7_2) 0 12000 true _ A9.out).mono ?_);rintro e w' ⟨rfl,⟨nd,rfl⟩⟩;(try first|exact ⟨rfl,_,World.drewN_drewN _ _ _⟩|exact ⟨rfl,_,Eq.trans (World.drewN_drewN _ _ _) (congrArg (World.drewN _) (Nat.add_assoc _ _ _))⟩);have p112 : 0 ≤ (x7_2 : Int):=of_decide_eq_true (by assumption);have q112 : x7_2 < (l1.length : Int):=of_decide_eq_true (by assumption);obtain ⟨ad112,e112,hx112_0⟩:=Kd.at_int HR1.out x7_2 p112 q112;obtain rfl : ad110 = ad112:=(by injection e112);replace p112:=eq_true p112;replace q112:=eq_true q112;have p113 : 0 ≤ (x7_2 : Int):=of_decide_eq_true (by assumption);have q113 : x7_2 < (l0.length : Int):=of_decide_eq_true (by assumption);obtain ⟨ad113,e113,hx113_0⟩:=Kd.at_int HR0.out x7_2 p113 q113;cases e113;replace p113:=eq_true p113;replace q113:=eq_true q113;have p114 : 0 ≤ (x7_2 : Int):=of_decide_eq_true (by assumption);have q114 : x7_2 < (l1.length : Int):=of_decide_eq_true (by assumption);obtain ⟨ad114,e114,hx114_0⟩:=Kd.at_int HR1.out x7_2 p114 q114;obtain rfl : ad110 = ad114:=(by injection e114);replace p114:=eq_true p114;replace q114:=eq_true q114;have p115 : 0 ≤ (x7_2 : Int):=of_decide_eq_true (by assumption);have q115 : x7_2 < (l0.length : Int):=of_decide_eq_true (by assumption);obtain ⟨ad115,e115,hx115_0⟩:=Kd.at_int HR0.out x7_2 p115 q115;obtain rfl : ad113 = ad115:=(by injection e115);replace p115:=eq_true p115;replace q115:=eq_true q115)))
     go_roundg k2
     case measure => have:=HJ2.out;have:=HK2.out;omega
     case rel => exact ⟨(wrap64 (x6_2 + (wrap64 ((rd l1 x7_2) * (rd l0 x7_2))))),(wrap64 (x7_2 + 1)),(by first|rfl|(simp;done)|(simp [*];done)),(by first|rfl|(simp;done)|(simp [*];done)),H',⟨by have:=HJ2.out;have:=HK2.out;omega⟩,by repeat (first|exact Drawn0.refl _|apply Drawn0.step)⟩
/-! ### impl_within: function 53 -/
def impl_within.f (a0 : Int) (a1 : Int) (a2 : Int) : Option (Bool) := if a0 ≥ a1 then (some (decide (a0 ≤ a2))) else (some false)
set_option maxHeartbeats 8000000 in
set_option maxRecDepth 100000 in
theorem impl_within.calls (a0 : Int) (a1 : Int) (a2 : Int) (r : Bool) (w : World) (h : impl_within.f a0 a1 a2 = some r) :
    Calls Try.prog 53 #[.int .i64 a0, .int .i64 a1, .int .i64 a2] w fun e w' => e = .returned (.bool r) ∧ Drawn0 w w' := by
 have H : (if a0 ≥ a1 then (some (decide (a0 ≤ a2))) else (some false)) = some r:=h
 clear h
 by_cases c4 : a0 ≥ a1
 ·rw [if_pos c4] at H
  have c4b0 : decide (a1 ≤ a0) = true:=decide_eq_true c4
  clear c4
  obtain rfl:=Option.some.inj H
  go_enter Try.func53,Try.ntmps53
  go_wp2
  go_ret
  exact ⟨by first|rfl|(simp;done)|(simp [*];done),by repeat (first|exact Drawn0.refl _|apply Drawn0.step)⟩
 rw [if_neg c4] at H
 have c4b0 : decide (a1 ≤ a0) = false:=decide_eq_false c4
 clear c4
 obtain rfl:=Option.some.inj H
 go_enter Try.func53,Try.ntmps53
 go_wp2
 go_ret
 exact ⟨by first|rfl|(simp;done)|(simp [*];done),by repeat (first|exact Drawn0.refl _|apply Drawn0.step)⟩
/-! ### impl_lengthsOk: function 50 -/
def impl_lengthsOk.l0 : Nat → List Int → Int → List Int → Int → Int → Option (Bool)
  | 0, _, _, _, _, _ => none
  | k + 1, x0, x1, x7, x8, x9 => if x9 < x8 then (if 0 ≤ x9 then (if x9 < (x7.length : Int) then ((impl_within.f (rd x7 x9) 0 15).bind fun t119 => (if t119 = true then (impl_lengthsOk.l0 k x0 x1 x7 x8 (wrap64 (x9 + 1))) else (some false))) else (none)) else (none)) else (some (decide ((x0.length : Int) ≤ x1)))
def impl_lengthsOk.f (k : Nat) (l0 : List Int) (a1 : Int) : Option (Bool) := impl_lengthsOk.l0 k l0 a1 l0 (l0.length : Int) 0
theorem impl_lengthsOk.mono_l : ∀ k, (∀ y0 y1 y2 y3 y4, LeO (impl_lengthsOk.l0 k y0 y1 y2 y3 y4) (impl_lengthsOk.l0 (k + 1) y0 y1 y2 y3 y4))
  | 0 => fun _ _ _ _ _ r h => by simp [impl_lengthsOk.l0] at h
  | k + 1 => by
    have ih0 := impl_lengthsOk.mono_l k
    · intro y0 y1 y2 y3 y4
      unfold impl_lengthsOk.l0
      repeat' first
      | (with_reducible exact ih0 _ _ _ _ _)
      | (with_reducible exact LeO.refl _)
      | (with_reducible exact LeO.none _)
      | (with_reducible refine LeO.ite ?_ ?_)
      | (with_reducible refine LeO.bind ?_ (fun _ => ?_))
      | exact ih0 _ _ _ _ _
      | exact LeO.none _
      | refine LeO.ite ?_ ?_
      | refine LeO.bind ?_ (fun _ => ?_)
theorem impl_lengthsOk.mono : ∀ a0 a1 k, LeO (impl_lengthsOk.f k a0 a1) (impl_lengthsOk.f (k + 1) a0 a1) := by
  intro a0 a1 k
  have ih0 := impl_lengthsOk.mono_l k
  unfold impl_lengthsOk.f
  repeat' first
      | (with_reducible exact ih0 _ _ _ _ _)
      | (with_reducible exact LeO.refl _)
      | (with_reducible exact LeO.none _)
      | (with_reducible refine LeO.ite ?_ ?_)
      | (with_reducible refine LeO.bind ?_ (fun _ => ?_))
      | exact ih0 _ _ _ _ _
      | exact LeO.none _
      | refine LeO.ite ?_ ?_
      | refine LeO.bind ?_ (fun _ => ?_)
set_option maxHeartbeats 8000000 in
set_option maxRecDepth 100000 in
theorem impl_lengthsOk.calls (k : Nat) (A0 : Option Addr) (c0 : Nat) (l0 : List Int) (a1 : Int) (r : Bool) (w : World) (hr0 : Kd.C (Kd.int .i64) w A0 l0.length l0) (hc0 : l0.length ≤ c0) (h : impl_lengthsOk.f k l0 a1 = some r) :
    Calls Try.prog 50 #[.slice A0 l0.length c0, .int .i64 a1] w fun e w' => e = .returned (.bool r) ∧ Drawn0 w w' := by
 have HR0:=Aside0.mk hr0
 have HC0:=Aside0.mk hc0
 clear hr0 hc0
 have H : (impl_lengthsOk.l0 k l0 a1 l0 (l0.length : Int) 0) = some r:=h
 clear h
 have H':=Aside0.mk H
 clear H
 go_enter Try.func50,Try.ntmps50
 go_wp2
 go_loopg [9] k (fun kq v9 w' => ∃ (x9_1 : Int),v9 = .int .i64 x9_1∧Aside0 (impl_lengthsOk.l0 kq l0 a1 l0 (l0.length : Int) x9_1 = some r)∧Aside0 (kq ≤ k)∧Drawn0 w w')
 case atStart => exact ⟨(0),(by first|rfl|(simp;done)|(simp [*];done)),H',⟨Nat.le_refl _⟩,by repeat (first|exact Drawn0.refl _|apply Drawn0.step)⟩
 case round =>
  clear H'
  obtain ⟨x9_1,rfl,HA,HK1,⟨m1,rfl⟩⟩:=hrel
  cases gk with
  | zero => exact absurd HA.out (by simp [impl_lengthsOk.l0])
  | succ k1 =>
   have H:=HA.out
   clear HA
   simp only [impl_lengthsOk.l0] at H
   by_cases c3 : x9_1 < (l0.length : Int)
   rotate_left
   ·rw [if_neg c3] at H
    have c3b0 : decide (x9_1 < (l0.length : Int)) = false:=decide_eq_false c3
    clear c3
    obtain rfl:=Option.some.inj H
    go_wp2
    go_ret
    exact ⟨by first|rfl|(simp;done)|(simp [*];done),by repeat (first|exact Drawn0.refl _|apply Drawn0.step)⟩
   rw [if_pos c3] at H
   have c3b0 : decide (x9_1 < (l0.length : Int)) = true:=decide_eq_true c3
   clear c3
   by_cases c4 : 0 ≤ x9_1
   rotate_left
   ·rw [if_neg c4] at H
    exact absurd H (by simp)
   rw [if_pos c4] at H
   have c4b0 : decide (0 ≤ x9_1) = true:=decide_eq_true c4
   clear c4
   by_cases c5 : x9_1 < (l0.length : Int)
   rotate_left
   ·rw [if_neg c5] at H
    exact absurd H (by simp)
   rw [if_pos c5] at H
   have c5b0 : decide (x9_1 < (l0.length : Int)) = true:=decide_eq_true c5
   clear c5
   replace H:=Option.bind_eq_some_iff.mp H
   obtain ⟨t119,A60,H⟩:=H
   replace H : (if t119 = true then (impl_lengthsOk.l0 k1 l0 a1 l0 (l0.length : Int) (wrap64 (x9_1 + 1))) else (some false)) = some r:=H
   have A6:=Aside0.mk A60
   clear A60
   by_cases c7 : t119 = true
   rotate_left
   ·replace c7:=Bool.eq_false_iff.mpr c7
    subst c7
    have H1 : (some false) = some r:=by rw [if_neg (show ¬ (false = true) by decide)] at H;exact H
    clear H
    have H:=H1
    clear H1
    obtain rfl:=Option.some.inj H
    have p118 : 0 ≤ (x9_1 : Int):=of_decide_eq_true (by assumption)
    have q118 : x9_1 < (l0.length : Int):=of_decide_eq_true (by assumption)
    obtain ⟨ad118,e118,hx118_0⟩:=Kd.at_int HR0.out x9_1 p118 q118
    cases e118
    replace p118:=eq_true p118
    replace q118:=eq_true q118
    go_wp2_with (first|((with_reducible refine gate_callee (f:=53) rfl ?_);refine goesL_ (some 14) rfl rfl Try.func53 (by kernel_rfl) rfl #[.int .i64 (rd l0 x9_1),.int .i64 0,.int .i64 15] rfl (by (try simp only [List.map_toArray,List.map_cons,List.map_nil]);first|done|rfl|(simp only [List.length_drop,List.length_take];rfl)) ?_;(with_reducible refine (impl_within.calls (rd l0 x9_1) 0 15 false _ A6.out).mono ?_);rintro e w' ⟨rfl,⟨nd,rfl⟩⟩;refine ⟨_,rfl,?_⟩))
    go_ret
    exact ⟨by first|rfl|(simp;done)|(simp [*];done),by repeat (first|exact Drawn0.refl _|apply Drawn0.step)⟩
   subst c7
   have H1 : (impl_lengthsOk.l0 k1 l0 a1 l0 (l0.length : Int) (wrap64 (x9_1 + 1))) = some r:=by rw [if_pos rfl] at H;exact H
   clear H
   have H:=H1
   clear H1
   have H':=Aside0.mk H
   clear H
   have p118 : 0 ≤ (x9_1 : Int):=of_decide_eq_true (by assumption)
   have q118 : x9_1 < (l0.length : Int):=of_decide_eq_true (by assumption)
   obtain ⟨ad118,e118,hx118_0⟩:=Kd.at_int HR0.out x9_1 p118 q118
   cases e118
   replace p118:=eq_true p118
   replace q118:=eq_true q118
   go_wp2_with (first|((with_reducible refine gate_callee (f:=53) rfl ?_);refine goesL_ (some 14) rfl rfl Try.func53 (by kernel_rfl) rfl #[.int .i64 (rd l0 x9_1),.int .i64 0,.int .i64 15] rfl (by (try simp only [List.map_toArray,List.map_cons,List.map_nil]);first|done|rfl|(simp only [List.length_drop,List.length_take];rfl)) ?_;(with_reducible refine (impl_within.calls (rd l0 x9_1) 0 15 true _ A6.out).mono ?_);rintro e w' ⟨rfl,⟨nd,rfl⟩⟩;refine ⟨_,rfl,?_⟩))
   go_roundg k1
   case measure => have:=HK1.out;omega
   case rel => exact ⟨(wrap64 (x9_1 + 1)),(by first|rfl|(simp;done)|(simp [*];done)),H',⟨by have:=HK1.out;omega⟩,by repeat (first|exact Drawn0.refl _|apply Drawn0.step)⟩
-- NOT PRINTED: function 51 (impl_bookOf)

/-! ### impl_CodeKind: function 16 -/
def impl_CodeKind.f (l0 : List Int) : Option (Int) := (impl_lengthsOk.f (l0.length + 10) l0 288).bind fun b_ => Go.Proofs.Ytimomemkbcidnaa.MCode.kindF l0 b_
set_option maxHeartbeats 8000000 in
set_option maxRecDepth 100000 in
theorem impl_CodeKind.calls (A0 : Option Addr) (c0 : Nat) (l0 : List Int) (r : Int) (w : World) (hr0 : Kd.C (Kd.int .i64) w A0 l0.length l0) (hc0 : l0.length ≤ c0) (h : impl_CodeKind.f l0 = some r) :
    Calls Try.prog 16 #[.slice A0 l0.length c0] w fun e w' => e = .returned (.int .i64 r) ∧ Below w.heap.size w w' := by
 unfold impl_CodeKind.f at h
 obtain ⟨b_,hb_,h_⟩:=Option.bind_eq_some_iff.mp h
 exact Go.Proofs.Ytimomemkbcidnaa.MCode.CodeKind_f A0 c0 l0 b_ w hr0 hc0 (fun w hr => (impl_lengthsOk.calls _ A0 c0 l0 288 b_ w hr hc0 hb_).mono fun e w' h_ => ⟨h_.1,h_.2.below⟩) r h_
end Go.Proofs.Ytimomemkbcidnaa.PFnPackage
