-- Written by a program of this session (a changed print); Lean checks it.
import Derived.Test.YtimomemkbcidnaaPFnExactFixedBlockx0
import Derived.Test.YtimomemkbcidnaaPFnExactFixedBlockx1
import Derived.Test.YtimomemkbcidnaaPFnExactFixedBlockx6
namespace Go.Proofs.Ytimomemkbcidnaa.PFnExactFixedBlock
open Go.RowKit Go.Proofs.YtimomemkbcidnaaW.PrintWords Go.Proofs.YtimomemkbcidnaaW.PrintLast Go.Proofs.YtimomemkbcidnaaW.PrintMore
attribute [local go_sem] max2_int min2_int max_two min_two max_three min_three max_four min_four   -- for this text's walks alone
set_option linter.unusedVariables false
set_option linter.unusedSimpArgs false

/-! ### impl_LengthCode: function 82 -/
def impl_LengthCode.l0 : Nat → Int → Int → Int → Int → Option (Int × Int × Int)
  | 0, _, _, _, _ => none
  | k + 1, x0, x5, x6, x7 => if x6 > x0 then ((impl_lengthSpan.f (wrap64 (x5 - 1))).bind fun bt278 => (impl_LengthCode.l0 k x0 (wrap64 (x5 - 1)) bt278.1 bt278.2)) else (some (x5, x7, wrap64 (x0 - x6)))
def impl_LengthCode.f (k : Nat) (a0 : Int) : Option (Int × Int × Int) := (impl_within.f a0 3 258).bind fun t275 => (if t275 = true then ((impl_lengthSpan.f 285).bind fun bt276 => (impl_LengthCode.l0 k a0 285 bt276.1 bt276.2)) else (some (0, 0, 0)))
theorem impl_LengthCode.mono_l : ∀ k, (∀ y0 y1 y2 y3, LeO (impl_LengthCode.l0 k y0 y1 y2 y3) (impl_LengthCode.l0 (k + 1) y0 y1 y2 y3))
  | 0 => fun _ _ _ _ r h => by simp [impl_LengthCode.l0] at h
  | k + 1 => by
    have ih0 := impl_LengthCode.mono_l k
    · intro y0 y1 y2 y3
      unfold impl_LengthCode.l0
      repeat' first
      | (with_reducible exact ih0 _ _ _ _)
      | (with_reducible exact LeO.refl _)
      | (with_reducible exact LeO.none _)
      | (with_reducible refine LeO.ite ?_ ?_)
      | (with_reducible refine LeO.bind ?_ (fun _ => ?_))
      | exact ih0 _ _ _ _
      | exact LeO.none _
      | refine LeO.ite ?_ ?_
      | refine LeO.bind ?_ (fun _ => ?_)
theorem impl_LengthCode.mono : ∀ a0 k, LeO (impl_LengthCode.f k a0) (impl_LengthCode.f (k + 1) a0) := by
  intro a0 k
  have ih0 := impl_LengthCode.mono_l k
  unfold impl_LengthCode.f
  repeat' first
      | (with_reducible exact ih0 _ _ _ _)
      | (with_reducible exact LeO.refl _)
      | (with_reducible exact LeO.none _)
      | (with_reducible refine LeO.ite ?_ ?_)
      | (with_reducible refine LeO.bind ?_ (fun _ => ?_))
      | exact ih0 _ _ _ _
      | exact LeO.none _
      | refine LeO.ite ?_ ?_
      | refine LeO.bind ?_ (fun _ => ?_)
set_option maxHeartbeats 8000000 in
set_option maxRecDepth 100000 in
theorem impl_LengthCode.calls (k : Nat) (a0 : Int) (r1 : Int) (r2 : Int) (r3 : Int) (w : World) (h : impl_LengthCode.f k a0 = some (r1, r2, r3)) :
    Calls Try.prog 82 #[.int .i64 a0] w fun e w' => e = .returned (.tuple #[.int .i64 r1, .int .i64 r2, .int .i64 r3]) ∧ Drawn0 w w' := by
  have H : ((impl_within.f a0 3 258).bind fun t275 => (if t275 = true then ((impl_lengthSpan.f 285).bind fun bt276 => (impl_LengthCode.l0 k a0 285 bt276.1 bt276.2)) else (some (0, 0, 0)))) = some (r1, r2, r3) := h
  clear h
  replace H := Option.bind_eq_some_iff.mp H
  obtain ⟨t275, A20, H⟩ := H
  replace H : (if t275 = true then ((impl_lengthSpan.f 285).bind fun bt276 => (impl_LengthCode.l0 k a0 285 bt276.1 bt276.2)) else (some (0, 0, 0))) = some (r1, r2, r3) := H
  have A2 := Aside0.mk A20
  clear A20
  by_cases c3 : t275 = true
  · subst c3
    have H1 : ((impl_lengthSpan.f 285).bind fun bt276 => (impl_LengthCode.l0 k a0 285 bt276.1 bt276.2)) = some (r1, r2, r3) := by rw [if_pos rfl] at H; exact H
    clear H
    have H := H1
    clear H1
    replace H := Option.bind_eq_some_iff.mp H
    obtain ⟨⟨t276, t277⟩, A40, H⟩ := H
    replace H : (impl_LengthCode.l0 k a0 285 t276 t277) = some (r1, r2, r3) := H
    have A4 := Aside0.mk A40
    clear A40
    have H' := Aside0.mk H
    clear H
    go_enter Try.func82, Try.ntmps82
    go_wp2_with (first | ((with_reducible refine gate_callee (f := 53) rfl ?_); refine goesL_ (some 9) rfl rfl Try.func53 (by kernel_rfl) rfl #[.int .i64 a0, .int .i64 3, .int .i64 258] rfl (by (try simp only [List.map_toArray, List.map_cons, List.map_nil]); first | done | rfl | (simp only [List.length_drop, List.length_take]; rfl)) ?_; (with_reducible refine (impl_within.calls a0 3 258 true _ A2.out).mono ?_); rintro e w' ⟨rfl, ⟨nd, rfl⟩⟩; refine ⟨_, rfl, ?_⟩) | ((with_reducible refine gate_callee (f := 107) rfl ?_); refine goesL_ (some 13) rfl rfl Try.func107 (by kernel_rfl) rfl #[.int .i64 285] rfl (by (try simp only [List.map_toArray, List.map_cons, List.map_nil]); first | done | rfl | (simp only [List.length_drop, List.length_take]; rfl)) ?_; (with_reducible refine (impl_lengthSpan.calls 285 t276 t277 _ A4.out).mono ?_); rintro e w' ⟨rfl, ⟨nd, rfl⟩⟩; refine ⟨_, rfl, ?_⟩))
    go_loopg [5, 6, 7] k (fun kq v5 v6 v7 w' => ∃ (x5_1 : Int) (x6_1 : Int) (x7_1 : Int), v5 = .int .i64 x5_1 ∧ v6 = .int .i64 x6_1 ∧ v7 = .int .i64 x7_1 ∧ Aside0 (impl_LengthCode.l0 kq a0 x5_1 x6_1 x7_1 = some (r1, r2, r3)) ∧ Aside0 (kq ≤ k) ∧ Drawn0 w w')
    case atStart => exact ⟨(285), (t276), (t277), (by first | rfl | (simp; done) | (simp [*]; done)), (by first | rfl | (simp; done) | (simp [*]; done)), (by first | rfl | (simp; done) | (simp [*]; done)), H', ⟨Nat.le_refl _⟩, by repeat (first | exact Drawn0.refl _ | apply Drawn0.step)⟩
    case round =>
      clear H'
      try clear c1
      try clear p2
      try clear c3
      obtain ⟨x5_1, x6_1, x7_1, rfl, rfl, rfl, HA, HK1, ⟨m1, rfl⟩⟩ := hrel
      cases gk with
      | zero => exact absurd HA.out (by simp [impl_LengthCode.l0])
      | succ k1 =>
        have H := HA.out
        clear HA
        simp only [impl_LengthCode.l0] at H
        by_cases c5 : x6_1 > a0
        · rw [if_pos c5] at H
          have c5b0 : decide (a0 < x6_1) = true := decide_eq_true c5
          clear c5
          replace H := Option.bind_eq_some_iff.mp H
          obtain ⟨⟨t278, t279⟩, A60, H⟩ := H
          replace H : (impl_LengthCode.l0 k1 a0 (wrap64 (x5_1 - 1)) t278 t279) = some (r1, r2, r3) := H
          have A6 := Aside0.mk A60
          clear A60
          have H' := Aside0.mk H
          clear H
          go_wp2_with (first | ((with_reducible refine gate_callee (f := 107) rfl ?_); refine goesL_ (some 23) rfl rfl Try.func107 (by kernel_rfl) rfl #[.int .i64 (wrap64 (x5_1 - 1))] rfl (by (try simp only [List.map_toArray, List.map_cons, List.map_nil]); first | done | rfl | (simp only [List.length_drop, List.length_take]; rfl)) ?_; (with_reducible refine (impl_lengthSpan.calls (wrap64 (x5_1 - 1)) t278 t279 _ A6.out).mono ?_); rintro e w' ⟨rfl, ⟨nd, rfl⟩⟩; refine ⟨_, rfl, ?_⟩))
          go_roundg k1
          case measure => have := HK1.out; omega
          case rel => exact ⟨(wrap64 (x5_1 - 1)), (t278), (t279), (by first | rfl | (simp; done) | (simp [*]; done)), (by first | rfl | (simp; done) | (simp [*]; done)), (by first | rfl | (simp; done) | (simp [*]; done)), H', ⟨by have := HK1.out; omega⟩, by repeat (first | exact Drawn0.refl _ | apply Drawn0.step)⟩
        · rw [if_neg c5] at H
          have c5b0 : decide (a0 < x6_1) = false := decide_eq_false c5
          clear c5
          simp only [Option.some.injEq, Prod.mk.injEq] at H
          obtain ⟨rfl, rfl, rfl⟩ := H
          go_wp2
          go_ret3
          exact ⟨by first | rfl | (simp; done) | (simp [*]; done), by repeat (first | exact Drawn0.refl _ | apply Drawn0.step)⟩
  · replace c3 := Bool.eq_false_iff.mpr c3
    subst c3
    have H1 : (some (0, 0, 0)) = some (r1, r2, r3) := by rw [if_neg (show ¬ (false = true) by decide)] at H; exact H
    clear H
    have H := H1
    clear H1
    simp only [Option.some.injEq, Prod.mk.injEq] at H
    obtain ⟨rfl, rfl, rfl⟩ := H
    go_enter Try.func82, Try.ntmps82
    go_wp2_with (first | ((with_reducible refine gate_callee (f := 53) rfl ?_); refine goesL_ (some 9) rfl rfl Try.func53 (by kernel_rfl) rfl #[.int .i64 a0, .int .i64 3, .int .i64 258] rfl (by (try simp only [List.map_toArray, List.map_cons, List.map_nil]); first | done | rfl | (simp only [List.length_drop, List.length_take]; rfl)) ?_; (with_reducible refine (impl_within.calls a0 3 258 false _ A2.out).mono ?_); rintro e w' ⟨rfl, ⟨nd, rfl⟩⟩; refine ⟨_, rfl, ?_⟩))
    go_ret3
    exact ⟨by first | rfl | (simp; done) | (simp [*]; done), by repeat (first | exact Drawn0.refl _ | apply Drawn0.step)⟩

/-! ### impl_distSpan: function 108 -/
def impl_distSpan.f (a0 : Int) : Option (Int × Int) := if a0 < 4 then (some (wrap64 (1 + a0), 0)) else (if 0 ≤ (wrap64 ((wrap64 (Int.tdiv a0 2)) - 1)) then (some (wrap64 (1 + (shl .i64 (wrap64 (2 + (Int.tmod a0 2))) (wrap64 ((wrap64 (Int.tdiv a0 2)) - 1)))), wrap64 ((wrap64 (Int.tdiv a0 2)) - 1))) else (none))
set_option maxHeartbeats 8000000 in
set_option maxRecDepth 100000 in
theorem impl_distSpan.calls (a0 : Int) (r1 : Int) (r2 : Int) (w : World) (h : impl_distSpan.f a0 = some (r1, r2)) :
    Calls Try.prog 108 #[.int .i64 a0] w fun e w' => e = .returned (.tuple #[.int .i64 r1, .int .i64 r2]) ∧ Drawn0 w w' := by
  have H : (if a0 < 4 then (some (wrap64 (1 + a0), 0)) else (if 0 ≤ (wrap64 ((wrap64 (Int.tdiv a0 2)) - 1)) then (some (wrap64 (1 + (shl .i64 (wrap64 (2 + (Int.tmod a0 2))) (wrap64 ((wrap64 (Int.tdiv a0 2)) - 1)))), wrap64 ((wrap64 (Int.tdiv a0 2)) - 1))) else (none))) = some (r1, r2) := h
  clear h
  by_cases c2 : a0 < 4
  · rw [if_pos c2] at H
    have c2b0 : decide (a0 < 4) = true := decide_eq_true c2
    clear c2
    simp only [Option.some.injEq, Prod.mk.injEq] at H
    obtain ⟨rfl, rfl⟩ := H
    go_enter Try.func108, Try.ntmps108
    go_wp2
    go_ret2
    exact ⟨by first | rfl | (simp; done) | (simp [*]; done), by repeat (first | exact Drawn0.refl _ | apply Drawn0.step)⟩
  · rw [if_neg c2] at H
    have c2b0 : decide (a0 < 4) = false := decide_eq_false c2
    clear c2
    obtain ⟨ji3, hji3⟩ : ∃ j_ : Int, (wrap64 ((wrap64 (Int.tdiv a0 2)) - 1)) = j_ := ⟨_, rfl⟩
    replace H : (if 0 ≤ (ji3) then (some (wrap64 (1 + (shl .i64 (wrap64 (2 + (Int.tmod a0 2))) (ji3))), ji3)) else (none)) = some (r1, r2) := by first | (rw [hji3] at H; exact H) | (simp only [hji3] at H ⊢; exact H)
    have hji3w : (IntKind.i64.wrap ((wrap64 (Int.tdiv a0 2)) - 1)) = ji3 := (i64_w _).trans hji3
    by_cases c4 : 0 ≤ (ji3)
    · rw [if_pos c4] at H
      have c4b0 := eq_true c4
      have c4b1 : decide (0 ≤ (ji3)) = true := decide_eq_true c4
      clear c4
      obtain ⟨ji5, hji5⟩ : ∃ j_ : Int, (shl .i64 (wrap64 (2 + (Int.tmod a0 2))) (ji3)) = j_ := ⟨_, rfl⟩
      replace H : (some (wrap64 (1 + (ji5)), ji3)) = some (r1, r2) := by first | (rw [hji5] at H; exact H) | (simp only [hji5] at H ⊢; exact H)
      have hji5_ : (IntKind.i64.wrap ((wrap64 (2 + (Int.tmod a0 2))) * 2 ^ min (ji3).toNat 64)) = ji5 := hji5
      have hji5z : (ji3) ≤ 64 → (IntKind.i64.wrap ((wrap64 (2 + (Int.tmod a0 2))) * 2 ^ (ji3).toNat)) = ji5 := shl_small hji5
      have hji5y : (wrap64 ((wrap64 (2 + (Int.tmod a0 2))) * 2 ^ min (ji3).toNat 64)) = ji5 := (i64_w _).symm.trans hji5_
      have hji5x : (ji3) ≤ 64 → (wrap64 ((wrap64 (2 + (Int.tmod a0 2))) * 2 ^ (ji3).toNat)) = ji5 := fun h_ => (i64_w _).symm.trans (hji5z h_)
      simp only [Option.some.injEq, Prod.mk.injEq] at H
      obtain ⟨rfl, rfl⟩ := H
      go_enter Try.func108, Try.ntmps108
      go_wp2
      go_ret2
      exact ⟨by first | rfl | (simp; done) | (simp only [← hji3, ← hji5] <;> (first | rfl | simp)) | (simp [*]; done), by repeat (first | exact Drawn0.refl _ | apply Drawn0.step)⟩
    · rw [if_neg c4] at H
      exact absurd H (by simp)

/-! ### impl_DistCode: function 83 -/
def impl_DistCode.l0 : Nat → Int → Int → Int → Int → Option (Int × Int × Int)
  | 0, _, _, _, _ => none
  | k + 1, x0, x5, x6, x7 => if x6 > x0 then ((impl_distSpan.f (wrap64 (x5 - 1))).bind fun bt283 => (impl_DistCode.l0 k x0 (wrap64 (x5 - 1)) bt283.1 bt283.2)) else (some (x5, x7, wrap64 (x0 - x6)))
def impl_DistCode.f (k : Nat) (a0 : Int) : Option (Int × Int × Int) := (impl_within.f a0 1 32768).bind fun t280 => (if t280 = true then ((impl_distSpan.f 29).bind fun bt281 => (impl_DistCode.l0 k a0 29 bt281.1 bt281.2)) else (some (0, 0, 0)))
theorem impl_DistCode.mono_l : ∀ k, (∀ y0 y1 y2 y3, LeO (impl_DistCode.l0 k y0 y1 y2 y3) (impl_DistCode.l0 (k + 1) y0 y1 y2 y3))
  | 0 => fun _ _ _ _ r h => by simp [impl_DistCode.l0] at h
  | k + 1 => by
    have ih0 := impl_DistCode.mono_l k
    · intro y0 y1 y2 y3
      unfold impl_DistCode.l0
      repeat' first
      | (with_reducible exact ih0 _ _ _ _)
      | (with_reducible exact LeO.refl _)
      | (with_reducible exact LeO.none _)
      | (with_reducible refine LeO.ite ?_ ?_)
      | (with_reducible refine LeO.bind ?_ (fun _ => ?_))
      | exact ih0 _ _ _ _
      | exact LeO.none _
      | refine LeO.ite ?_ ?_
      | refine LeO.bind ?_ (fun _ => ?_)
theorem impl_DistCode.mono : ∀ a0 k, LeO (impl_DistCode.f k a0) (impl_DistCode.f (k + 1) a0) := by
  intro a0 k
  have ih0 := impl_DistCode.mono_l k
  unfold impl_DistCode.f
  repeat' first
      | (with_reducible exact ih0 _ _ _ _)
      | (with_reducible exact LeO.refl _)
      | (with_reducible exact LeO.none _)
      | (with_reducible refine LeO.ite ?_ ?_)
      | (with_reducible refine LeO.bind ?_ (fun _ => ?_))
      | exact ih0 _ _ _ _
      | exact LeO.none _
      | refine LeO.ite ?_ ?_
      | refine LeO.bind ?_ (fun _ => ?_)
set_option maxHeartbeats 8000000 in
set_option maxRecDepth 100000 in
theorem impl_DistCode.calls (k : Nat) (a0 : Int) (r1 : Int) (r2 : Int) (r3 : Int) (w : World) (h : impl_DistCode.f k a0 = some (r1, r2, r3)) :
    Calls Try.prog 83 #[.int .i64 a0] w fun e w' => e = .returned (.tuple #[.int .i64 r1, .int .i64 r2, .int .i64 r3]) ∧ Drawn0 w w' := by
  have H : ((impl_within.f a0 1 32768).bind fun t280 => (if t280 = true then ((impl_distSpan.f 29).bind fun bt281 => (impl_DistCode.l0 k a0 29 bt281.1 bt281.2)) else (some (0, 0, 0)))) = some (r1, r2, r3) := h
  clear h
  replace H := Option.bind_eq_some_iff.mp H
  obtain ⟨t280, A20, H⟩ := H
  replace H : (if t280 = true then ((impl_distSpan.f 29).bind fun bt281 => (impl_DistCode.l0 k a0 29 bt281.1 bt281.2)) else (some (0, 0, 0))) = some (r1, r2, r3) := H
  have A2 := Aside0.mk A20
  clear A20
  by_cases c3 : t280 = true
  · subst c3
    have H1 : ((impl_distSpan.f 29).bind fun bt281 => (impl_DistCode.l0 k a0 29 bt281.1 bt281.2)) = some (r1, r2, r3) := by rw [if_pos rfl] at H; exact H
    clear H
    have H := H1
    clear H1
    replace H := Option.bind_eq_some_iff.mp H
    obtain ⟨⟨t281, t282⟩, A40, H⟩ := H
    replace H : (impl_DistCode.l0 k a0 29 t281 t282) = some (r1, r2, r3) := H
    have A4 := Aside0.mk A40
    clear A40
    have H' := Aside0.mk H
    clear H
    go_enter Try.func83, Try.ntmps83
    go_wp2_with (first | ((with_reducible refine gate_callee (f := 53) rfl ?_); refine goesL_ (some 9) rfl rfl Try.func53 (by kernel_rfl) rfl #[.int .i64 a0, .int .i64 1, .int .i64 32768] rfl (by (try simp only [List.map_toArray, List.map_cons, List.map_nil]); first | done | rfl | (simp only [List.length_drop, List.length_take]; rfl)) ?_; (with_reducible refine (impl_within.calls a0 1 32768 true _ A2.out).mono ?_); rintro e w' ⟨rfl, ⟨nd, rfl⟩⟩; refine ⟨_, rfl, ?_⟩) | ((with_reducible refine gate_callee (f := 108) rfl ?_); refine goesL_ (some 13) rfl rfl Try.func108 (by kernel_rfl) rfl #[.int .i64 29] rfl (by (try simp only [List.map_toArray, List.map_cons, List.map_nil]); first | done | rfl | (simp only [List.length_drop, List.length_take]; rfl)) ?_; (with_reducible refine (impl_distSpan.calls 29 t281 t282 _ A4.out).mono ?_); rintro e w' ⟨rfl, ⟨nd, rfl⟩⟩; refine ⟨_, rfl, ?_⟩))
    go_loopg [5, 6, 7] k (fun kq v5 v6 v7 w' => ∃ (x5_1 : Int) (x6_1 : Int) (x7_1 : Int), v5 = .int .i64 x5_1 ∧ v6 = .int .i64 x6_1 ∧ v7 = .int .i64 x7_1 ∧ Aside0 (impl_DistCode.l0 kq a0 x5_1 x6_1 x7_1 = some (r1, r2, r3)) ∧ Aside0 (kq ≤ k) ∧ Drawn0 w w')
    case atStart => exact ⟨(29), (t281), (t282), (by first | rfl | (simp; done) | (simp [*]; done)), (by first | rfl | (simp; done) | (simp [*]; done)), (by first | rfl | (simp; done) | (simp [*]; done)), H', ⟨Nat.le_refl _⟩, by repeat (first | exact Drawn0.refl _ | apply Drawn0.step)⟩
    case round =>
      clear H'
      try clear c1
      try clear p2
      try clear c3
      obtain ⟨x5_1, x6_1, x7_1, rfl, rfl, rfl, HA, HK1, ⟨m1, rfl⟩⟩ := hrel
      cases gk with
      | zero => exact absurd HA.out (by simp [impl_DistCode.l0])
      | succ k1 =>
        have H := HA.out
        clear HA
        simp only [impl_DistCode.l0] at H
        by_cases c5 : x6_1 > a0
        · rw [if_pos c5] at H
          have c5b0 : decide (a0 < x6_1) = true := decide_eq_true c5
          clear c5
          replace H := Option.bind_eq_some_iff.mp H
          obtain ⟨⟨t283, t284⟩, A60, H⟩ := H
          replace H : (impl_DistCode.l0 k1 a0 (wrap64 (x5_1 - 1)) t283 t284) = some (r1, r2, r3) := H
          have A6 := Aside0.mk A60
          clear A60
          have H' := Aside0.mk H
          clear H
          go_wp2_with (first | ((with_reducible refine gate_callee (f := 108) rfl ?_); refine goesL_ (some 23) rfl rfl Try.func108 (by kernel_rfl) rfl #[.int .i64 (wrap64 (x5_1 - 1))] rfl (by (try simp only [List.map_toArray, List.map_cons, List.map_nil]); first | done | rfl | (simp only [List.length_drop, List.length_take]; rfl)) ?_; (with_reducible refine (impl_distSpan.calls (wrap64 (x5_1 - 1)) t283 t284 _ A6.out).mono ?_); rintro e w' ⟨rfl, ⟨nd, rfl⟩⟩; refine ⟨_, rfl, ?_⟩))
          go_roundg k1
          case measure => have := HK1.out; omega
          case rel => exact ⟨(wrap64 (x5_1 - 1)), (t283), (t284), (by first | rfl | (simp; done) | (simp [*]; done)), (by first | rfl | (simp; done) | (simp [*]; done)), (by first | rfl | (simp; done) | (simp [*]; done)), H', ⟨by have := HK1.out; omega⟩, by repeat (first | exact Drawn0.refl _ | apply Drawn0.step)⟩
        · rw [if_neg c5] at H
          have c5b0 : decide (a0 < x6_1) = false := decide_eq_false c5
          clear c5
          simp only [Option.some.injEq, Prod.mk.injEq] at H
          obtain ⟨rfl, rfl, rfl⟩ := H
          go_wp2
          go_ret3
          exact ⟨by first | rfl | (simp; done) | (simp [*]; done), by repeat (first | exact Drawn0.refl _ | apply Drawn0.step)⟩
  · replace c3 := Bool.eq_false_iff.mpr c3
    subst c3
    have H1 : (some (0, 0, 0)) = some (r1, r2, r3) := by rw [if_neg (show ¬ (false = true) by decide)] at H; exact H
    clear H
    have H := H1
    clear H1
    simp only [Option.some.injEq, Prod.mk.injEq] at H
    obtain ⟨rfl, rfl, rfl⟩ := H
    go_enter Try.func83, Try.ntmps83
    go_wp2_with (first | ((with_reducible refine gate_callee (f := 53) rfl ?_); refine goesL_ (some 9) rfl rfl Try.func53 (by kernel_rfl) rfl #[.int .i64 a0, .int .i64 1, .int .i64 32768] rfl (by (try simp only [List.map_toArray, List.map_cons, List.map_nil]); first | done | rfl | (simp only [List.length_drop, List.length_take]; rfl)) ?_; (with_reducible refine (impl_within.calls a0 1 32768 false _ A2.out).mono ?_); rintro e w' ⟨rfl, ⟨nd, rfl⟩⟩; refine ⟨_, rfl, ?_⟩))
    go_ret3
    exact ⟨by first | rfl | (simp; done) | (simp [*]; done), by repeat (first | exact Drawn0.refl _ | apply Drawn0.step)⟩

-- NOT PRINTED: function 92 (impl_writer_tokens)

/-! ### impl_FixedBlock: function 48 -/
def impl_FixedBlock.f (k : Nat) (a0_0 : ByteArray) (a0_1 : Int) (l1 : List (S107)) (a2 : Bool) : Option (ByteArray × Int × Bool) := (impl_OutOk.f a0_0 a0_1).bind fun b_ => if b_ = true then (impl_tokensOk.f k l1).bind fun tb_ => if tb_ = true then (impl_CodesOf.f Go.Proofs.Ytimomemkbcidnaa.MSlices.fixed1).bind fun x1_ => (impl_CodesOf.f Go.Proofs.Ytimomemkbcidnaa.MSlices.fixed2).bind fun x2_ => if l1.length ≤ 1000000 ∧ bits_Mul.f 1 144 = some (0, 144) ∧ bits_Mul.f 1 112 = some (0, 112) ∧ bits_Mul.f 1 24 = some (0, 24) ∧ bits_Mul.f 1 8 = some (0, 8) ∧ bits_Mul.f 1 32 = some (0, 32) then Go.Proofs.Ytimomemkbcidnaa.MTokens.fixedF (fun x_ => impl_LengthCode.f k x_) (fun x_ => impl_DistCode.f k x_) x1_.1 x2_.1 a0_0 a0_1 a2 true true l1.length (fun i_ => ((rd_T107 l1 (i_ : Int)).f0, (rd_T107 l1 (i_ : Int)).f1, (rd_T107 l1 (i_ : Int)).f2)) else none else some ((⟨#[]⟩ : ByteArray), 0, false) else some ((⟨#[]⟩ : ByteArray), 0, false)
theorem impl_FixedBlock.mono : ∀ a0 a1 a2 a3 k, LeO (impl_FixedBlock.f k a0 a1 a2 a3) (impl_FixedBlock.f (k + 1) a0 a1 a2 a3) := by
  intro a0 a1 a2 a3 k
  unfold impl_FixedBlock.f
  repeat' first
      | (with_reducible exact impl_tokensOk.mono _ _)
      | (with_reducible exact fun r_ h_ => Go.Proofs.Ytimomemkbcidnaa.MTokens.fixedF_mono (fun x_ => impl_LengthCode.mono x_ _) (fun x_ => impl_DistCode.mono x_ _) h_)
      | (with_reducible exact LeO.refl _)
      | (with_reducible exact LeO.none _)
      | (with_reducible refine LeO.ite ?_ ?_)
      | (with_reducible refine LeO.bind ?_ (fun _ => ?_))
      | exact impl_tokensOk.mono _ _
      | exact fun r_ h_ => Go.Proofs.Ytimomemkbcidnaa.MTokens.fixedF_mono (fun x_ => impl_LengthCode.mono x_ _) (fun x_ => impl_DistCode.mono x_ _) h_
      | exact LeO.none _
      | refine LeO.ite ?_ ?_
      | refine LeO.bind ?_ (fun _ => ?_)
set_option maxHeartbeats 8000000 in
set_option maxRecDepth 100000 in
theorem impl_FixedBlock.calls (k : Nat) (a0_0 : ByteArray) (a0_1 : Int) (A1 : Option Addr) (c1 : Nat) (l1 : List (S107)) (a2 : Bool) (r1 : ByteArray) (r2 : Int) (r3 : Bool) (w : World) (hr1 : Kd.C k107 w A1 l1.length l1) (hc1 : l1.length ≤ c1) (h : impl_FixedBlock.f k a0_0 a0_1 l1 a2 = some (r1, r2, r3)) :
    Calls Try.prog 48 #[.agg #[.string a0_0, .int .i64 a0_1], .slice A1 l1.length c1, .bool a2] w fun e w' => e = .returned (.tuple #[.agg #[.string r1, .int .i64 r2], .bool r3]) ∧ Below w.heap.size w w' := by
  unfold impl_FixedBlock.f at h
  obtain ⟨b_, hb_, h⟩ := Option.bind_eq_some_iff.mp h
  have hok_ : ∀ w, Calls Try.prog 61 #[.agg #[.string a0_0, .int .i64 a0_1]] w fun e w' => e = .returned (.bool b_) ∧ Below w.heap.size w w' := fun w => (impl_OutOk.calls a0_0 a0_1 b_ w hb_).mono fun e w' h_ => ⟨h_.1, by first | exact h_.2 | exact h_.2.below⟩
  cases b_ with
  | false =>
    rw [if_neg (by decide)] at h
    exact Go.Proofs.Ytimomemkbcidnaa.MTokens.FixedBlock_calls a0_0 a0_1 A1 l1.length c1 a2 false false (fun hf_ => by cases hf_) w (fun w => Kd.C k107 w A1 l1.length l1) hr1 (fun w w' h_ hb_ => Kd.C_below h_ hb_) (fun i_ => ((rd_T107 l1 (i_ : Int)).f0, (rd_T107 l1 (i_ : Int)).f1, (rd_T107 l1 (i_ : Int)).f2)) (fun w hw_ i_ hi_ => at_T107 hw_ (i_ : Int) (by omega) (by omega)) hok_ (fun hf_ => by cases hf_) (fun _ => none) (fun _ => none) [] [] false false (fun hf_ => by cases hf_) (r1, r2, r3) h
  | true =>
    rw [if_pos rfl] at h
    obtain ⟨tb_, htb_, h⟩ := Option.bind_eq_some_iff.mp h
    have hto_ : ∀ w, Kd.C k107 w A1 l1.length l1 → Calls Try.prog 81 #[.slice A1 l1.length c1] w fun e w' => e = .returned (.bool tb_) ∧ Below w.heap.size w w' := fun w hw_ => (impl_tokensOk.calls k A1 c1 l1 tb_ w hw_ hc1 htb_).mono fun e w' h_ => ⟨h_.1, by first | exact h_.2 | exact h_.2.below⟩
    cases tb_ with
    | false =>
      rw [if_neg (by decide)] at h
      exact Go.Proofs.Ytimomemkbcidnaa.MTokens.FixedBlock_calls a0_0 a0_1 A1 l1.length c1 a2 true false (fun hf_ => by cases hf_) w (fun w => Kd.C k107 w A1 l1.length l1) hr1 (fun w w' h_ hb_ => Kd.C_below h_ hb_) (fun i_ => ((rd_T107 l1 (i_ : Int)).f0, (rd_T107 l1 (i_ : Int)).f1, (rd_T107 l1 (i_ : Int)).f2)) (fun w hw_ i_ hi_ => at_T107 hw_ (i_ : Int) (by omega) (by omega)) hok_ (fun _ => hto_) (fun _ => none) (fun _ => none) [] [] false false (fun hf_ => by cases hf_) (r1, r2, r3) h
    | true =>
      rw [if_pos rfl] at h
      obtain ⟨x1_, hx1_, h⟩ := Option.bind_eq_some_iff.mp h
      obtain ⟨x2_, hx2_, h⟩ := Option.bind_eq_some_iff.mp h
      by_cases hm_ : l1.length ≤ 1000000 ∧ bits_Mul.f 1 144 = some (0, 144) ∧ bits_Mul.f 1 112 = some (0, 112) ∧ bits_Mul.f 1 24 = some (0, 24) ∧ bits_Mul.f 1 8 = some (0, 8) ∧ bits_Mul.f 1 32 = some (0, 32)
      · rw [if_pos hm_] at h
        exact Go.Proofs.Ytimomemkbcidnaa.MTokens.FixedBlock_calls a0_0 a0_1 A1 l1.length c1 a2 true true (fun _ => hm_.1) w (fun w => Kd.C k107 w A1 l1.length l1) hr1 (fun w w' h_ hb_ => Kd.C_below h_ hb_) (fun i_ => ((rd_T107 l1 (i_ : Int)).f0, (rd_T107 l1 (i_ : Int)).f1, (rd_T107 l1 (i_ : Int)).f2)) (fun w hw_ i_ hi_ => at_T107 hw_ (i_ : Int) (by omega) (by omega)) hok_ (fun _ => hto_) (fun x_ => impl_LengthCode.f k x_) (fun x_ => impl_DistCode.f k x_) x1_.1 x2_.1 x1_.2 x2_.2
          (fun _ => ⟨fun x_ q_ hq_ w_ => (impl_LengthCode.calls k x_ q_.1 q_.2.1 q_.2.2 w_ hq_).mono (fun e w' h_ => ⟨h_.1, by first | exact h_.2 | exact h_.2.below⟩), fun x_ q_ hq_ w_ => (impl_DistCode.calls k x_ q_.1 q_.2.1 q_.2.2 w_ hq_).mono (fun e w' h_ => ⟨h_.1, by first | exact h_.2 | exact h_.2.below⟩), fun w_ A_ c_ hc_ hl_ => impl_CodesOf.calls A_ c_ Go.Proofs.Ytimomemkbcidnaa.MSlices.fixed1 x1_.1 x1_.2 w_ hc_ hl_ hx1_, fun w_ A_ c_ hc_ hl_ => impl_CodesOf.calls A_ c_ Go.Proofs.Ytimomemkbcidnaa.MSlices.fixed2 x2_.1 x2_.2 w_ hc_ hl_ hx2_, fun w => bits_Mul.calls 1 144 0 144 w hm_.2.1, fun w => bits_Mul.calls 1 112 0 112 w hm_.2.2.1, fun w => bits_Mul.calls 1 24 0 24 w hm_.2.2.2.1, fun w => bits_Mul.calls 1 8 0 8 w hm_.2.2.2.2.1, fun w => bits_Mul.calls 1 32 0 32 w hm_.2.2.2.2.2⟩) (r1, r2, r3) h
      · rw [if_neg hm_] at h
        cases h

/-! ### laws_FnExactFixedBlock: function 13 -/
def laws_FnExactFixedBlock.j0 : Nat → List (S112) → List (S107) → Bool → Option (Bool)
  | 0, _, _, _ => none
  | k + 1, x1, x10, x50 => if x50 = true then (some false) else ((laws_toTokenS.f k x1).bind fun t315 => ((laws_eqTokenS.f k x10 t315).bind fun t318 => (if t318 = true then (some true) else (some false))))
def laws_FnExactFixedBlock.f (k : Nat) (a0_0 : ByteArray) (a0_1 : Int) (l1 : List (S112)) (a2 : Bool) : Option (Bool) := (laws_szOut.f a0_0 a0_1 1048576).bind fun t294 => (if t294 < 0 then (some true) else ((laws_szTokenS.f l1 t294).bind fun t295 => (if t295 < 0 then (some true) else ((laws_toOut.f a0_0 a0_1).bind fun bt296 => ((laws_toTokenS.f k l1).bind fun t298 => ((spec_FixedBlock.f k bt296.1 bt296.2 t298 a2).bind fun bt301 => ((laws_toTokenS.f k l1).bind fun t305 => ((laws_toOut.f a0_0 a0_1).bind fun bt308 => ((impl_FixedBlock.f k bt308.1 bt308.2 t305 a2).bind fun bt310 => ((laws_eqOut.f bt310.1 bt310.2.1 bt301.1 bt301.2.1).bind fun t314 => (if t314 = true then (laws_FnExactFixedBlock.j0 k l1 t305 (bt310.2.2 != bt301.2.2)) else (laws_FnExactFixedBlock.j0 k l1 t305 true))))))))))))
theorem laws_FnExactFixedBlock.mono_l : ∀ k, (∀ y0 y1 y2, LeO (laws_FnExactFixedBlock.j0 k y0 y1 y2) (laws_FnExactFixedBlock.j0 (k + 1) y0 y1 y2))
  | 0 => fun _ _ _ r h => by simp [laws_FnExactFixedBlock.j0] at h
  | k + 1 => by
    have ih0 := laws_FnExactFixedBlock.mono_l k
    · intro y0 y1 y2
      unfold laws_FnExactFixedBlock.j0
      repeat' first
      | (with_reducible exact ih0 _ _ _)
      | (with_reducible exact impl_FixedBlock.mono _ _ _ _ _)
      | (with_reducible exact laws_eqTokenS.mono _ _ _)
      | (with_reducible exact laws_toTokenS.mono _ _)
      | (with_reducible exact spec_FixedBlock.mono _ _ _ _ _)
      | (with_reducible exact LeO.refl _)
      | (with_reducible exact LeO.none _)
      | (with_reducible refine LeO.ite ?_ ?_)
      | (with_reducible refine LeO.bind ?_ (fun _ => ?_))
      | exact ih0 _ _ _
      | exact impl_FixedBlock.mono _ _ _ _ _
      | exact laws_eqTokenS.mono _ _ _
      | exact laws_toTokenS.mono _ _
      | exact spec_FixedBlock.mono _ _ _ _ _
      | exact LeO.none _
      | refine LeO.ite ?_ ?_
      | refine LeO.bind ?_ (fun _ => ?_)
theorem laws_FnExactFixedBlock.mono : ∀ a0 a1 a2 a3 k, LeO (laws_FnExactFixedBlock.f k a0 a1 a2 a3) (laws_FnExactFixedBlock.f (k + 1) a0 a1 a2 a3) := by
  intro a0 a1 a2 a3 k
  have ih0 := laws_FnExactFixedBlock.mono_l k
  unfold laws_FnExactFixedBlock.f
  repeat' first
      | (with_reducible exact ih0 _ _ _)
      | (with_reducible exact impl_FixedBlock.mono _ _ _ _ _)
      | (with_reducible exact laws_eqTokenS.mono _ _ _)
      | (with_reducible exact laws_toTokenS.mono _ _)
      | (with_reducible exact spec_FixedBlock.mono _ _ _ _ _)
      | (with_reducible exact LeO.refl _)
      | (with_reducible exact LeO.none _)
      | (with_reducible refine LeO.ite ?_ ?_)
      | (with_reducible refine LeO.bind ?_ (fun _ => ?_))
      | exact ih0 _ _ _
      | exact impl_FixedBlock.mono _ _ _ _ _
      | exact laws_eqTokenS.mono _ _ _
      | exact laws_toTokenS.mono _ _
      | exact spec_FixedBlock.mono _ _ _ _ _
      | exact LeO.none _
      | refine LeO.ite ?_ ?_
      | refine LeO.bind ?_ (fun _ => ?_)
set_option maxHeartbeats 8000000 in
set_option maxRecDepth 100000 in
theorem laws_FnExactFixedBlock.calls (k : Nat) (a0_0 : ByteArray) (a0_1 : Int) (A1 : Option Addr) (c1 : Nat) (l1 : List (S112)) (a2 : Bool) (r : Bool) (w : World) (hr1 : Kd.C k112 w A1 l1.length l1) (hc1 : l1.length ≤ c1) (h : laws_FnExactFixedBlock.f k a0_0 a0_1 l1 a2 = some r) :
    Calls Try.prog 13 #[.agg #[.string a0_0, .int .i64 a0_1], .slice A1 l1.length c1, .bool a2] w fun e w' => e = .returned (.bool r) ∧ Below w.heap.size w w' := by
  have hu45 := Try.underlying45
  have hu47 := Try.underlying47
  have HR1 := Aside0.mk hr1
  have HC1 := Aside0.mk hc1
  clear hr1 hc1
  have HB := Aside0.mk (Below.refl w.heap.size w)
  have H : ((laws_szOut.f a0_0 a0_1 1048576).bind fun t294 => (if t294 < 0 then (some true) else ((laws_szTokenS.f l1 t294).bind fun t295 => (if t295 < 0 then (some true) else ((laws_toOut.f a0_0 a0_1).bind fun bt296 => ((laws_toTokenS.f k l1).bind fun t298 => ((spec_FixedBlock.f k bt296.1 bt296.2 t298 a2).bind fun bt301 => ((laws_toTokenS.f k l1).bind fun t305 => ((laws_toOut.f a0_0 a0_1).bind fun bt308 => ((impl_FixedBlock.f k bt308.1 bt308.2 t305 a2).bind fun bt310 => ((laws_eqOut.f bt310.1 bt310.2.1 bt301.1 bt301.2.1).bind fun t314 => (if t314 = true then (laws_FnExactFixedBlock.j0 k l1 t305 (bt310.2.2 != bt301.2.2)) else (laws_FnExactFixedBlock.j0 k l1 t305 true))))))))))))) = some r := h
  clear h
  replace H := Option.bind_eq_some_iff.mp H
  obtain ⟨t294, A40, H⟩ := H
  replace H : (if t294 < 0 then (some true) else ((laws_szTokenS.f l1 t294).bind fun t295 => (if t295 < 0 then (some true) else ((laws_toOut.f a0_0 a0_1).bind fun bt296 => ((laws_toTokenS.f k l1).bind fun t298 => ((spec_FixedBlock.f k bt296.1 bt296.2 t298 a2).bind fun bt301 => ((laws_toTokenS.f k l1).bind fun t305 => ((laws_toOut.f a0_0 a0_1).bind fun bt308 => ((impl_FixedBlock.f k bt308.1 bt308.2 t305 a2).bind fun bt310 => ((laws_eqOut.f bt310.1 bt310.2.1 bt301.1 bt301.2.1).bind fun t314 => (if t314 = true then (laws_FnExactFixedBlock.j0 k l1 t305 (bt310.2.2 != bt301.2.2)) else (laws_FnExactFixedBlock.j0 k l1 t305 true)))))))))))) = some r := H
  have A4 := Aside0.mk A40
  clear A40
  by_cases c5 : t294 < 0
  · rw [if_pos c5] at H
    have c5b0 : decide (t294 < 0) = true := decide_eq_true c5
    clear c5
    obtain rfl := Option.some.inj H
    go_enter Try.func13, Try.ntmps13
    go_wp2_with (first | ((with_reducible refine gate_dst (N := 3) rfl ?_); refine box_event ?hg (N := 3) ?hd (cs := #[.string a0_0, .int .i64 a0_1]) (t := 45) ?hr ?_; (case hd => rfl); (case hg => rfl); (case hr => first | (go_simp; done) | (go_simp; rfl)); intro gb293 hg w6 hbox hb; have n0_ := Aside0.mk (below_step (by repeat (first | (with_reducible first | exact HB.out | apply below_alloc | apply pw_below_drewN | apply below_drew1) | exact HB.out)) hb); have n1_ := Aside0.mk (hbox); have n2_ := Aside0.mk ((by rw [hg]; exact (below_size (by repeat (first | (with_reducible first | exact HB.out | apply below_alloc | apply pw_below_drewN | apply below_drew1) | exact HB.out))) : w.heap.size ≤ gb293)); have n3_ := Aside0.mk ((by rw [hg]; exact (below_size (by repeat (first | (with_reducible first | exact HB.out | apply below_alloc | apply pw_below_drewN | apply below_drew1) | exact HB.out))) : w.heap.size ≤ gb293)); clear HB; have HB := n0_; have BK293 := n1_; have GW293 := n2_; have GE293 := n3_; clear n0_ n1_ n2_ n3_; clear hb hbox hg; have hcz7_0 : w6.cell? ⟨gb293, 0, none⟩ = some (.string a0_0) := (blk_cell BK293.out 0).trans rfl; have hcz7_1 : w6.cell? ⟨gb293, 1, none⟩ = some (.int .i64 a0_1) := (blk_cell BK293.out 1).trans rfl; have hfz7_0 := blk_frozen BK293.out 0; have hfz7_1 := blk_frozen BK293.out 1) | ((with_reducible refine gate_callee (f := 31) rfl ?_); refine goesL_ (some 15) rfl rfl Try.func31 (by kernel_rfl) rfl #[.agg #[.string a0_0, .int .i64 a0_1], .int .i64 1048576] rfl (by (try simp only [List.map_toArray, List.map_cons, List.map_nil]); first | done | rfl | (simp only [List.length_drop, List.length_take]; rfl)) ?_; (with_reducible refine (laws_szOut.calls a0_0 a0_1 1048576 t294 _ A4.out).mono ?_); rintro e w8 ⟨rfl, hb⟩; refine ⟨_, rfl, ?_⟩; have n0_ := Aside0.mk (blk_below (g := gb293) (o := .cells #[.string a0_0, .int .i64 a0_1] 45 (0, 0)) (by (with_reducible repeat (first | refine blk_drewN ?_ _ | refine blk_drew ?_ | refine blk_alloc ?_ _)); exact BK293.out) hb); have n1_ := Aside0.mk (below_step (by repeat (first | (with_reducible first | exact HB.out | apply below_alloc | apply pw_below_drewN | apply below_drew1 | refine below_set ?_ GE293.out) | exact HB.out)) hb); clear BK293; clear HB; have BK293 := n0_; have HB := n1_; clear n0_ n1_; (try clear hb); (try clear hb2); (try clear hk); (try clear hi)))
    go_ret
    exact ⟨by first | rfl | (simp [errW_none, errW_some] <;> rfl) | (simp [*, errW_none, errW_some] <;> rfl), by repeat (first | (with_reducible first | exact HB.out | apply below_alloc | apply pw_below_drewN | apply below_drew1 | refine below_set ?_ GE293.out) | exact HB.out)⟩
  · rw [if_neg c5] at H
    have c5b0 : decide (t294 < 0) = false := decide_eq_false c5
    clear c5
    replace H := Option.bind_eq_some_iff.mp H
    obtain ⟨t295, A90, H⟩ := H
    replace H : (if t295 < 0 then (some true) else ((laws_toOut.f a0_0 a0_1).bind fun bt296 => ((laws_toTokenS.f k l1).bind fun t298 => ((spec_FixedBlock.f k bt296.1 bt296.2 t298 a2).bind fun bt301 => ((laws_toTokenS.f k l1).bind fun t305 => ((laws_toOut.f a0_0 a0_1).bind fun bt308 => ((impl_FixedBlock.f k bt308.1 bt308.2 t305 a2).bind fun bt310 => ((laws_eqOut.f bt310.1 bt310.2.1 bt301.1 bt301.2.1).bind fun t314 => (if t314 = true then (laws_FnExactFixedBlock.j0 k l1 t305 (bt310.2.2 != bt301.2.2)) else (laws_FnExactFixedBlock.j0 k l1 t305 true)))))))))) = some r := H
    have A9 := Aside0.mk A90
    clear A90
    by_cases c10 : t295 < 0
    · rw [if_pos c10] at H
      have c10b0 : decide (t295 < 0) = true := decide_eq_true c10
      clear c10
      obtain rfl := Option.some.inj H
      go_enter Try.func13, Try.ntmps13
      go_wp2_with (first | ((with_reducible refine gate_dst (N := 3) rfl ?_); refine box_event ?hg (N := 3) ?hd (cs := #[.string a0_0, .int .i64 a0_1]) (t := 45) ?hr ?_; (case hd => rfl); (case hg => rfl); (case hr => first | (go_simp; done) | (go_simp; rfl)); intro gb293 hg w11 hbox hb; have n0_ := Aside0.mk (below_step (by repeat (first | (with_reducible first | exact HB.out | apply below_alloc | apply pw_below_drewN | apply below_drew1) | exact HB.out)) hb); have n1_ := Aside0.mk (hbox); have n2_ := Aside0.mk ((by rw [hg]; exact (below_size (by repeat (first | (with_reducible first | exact HB.out | apply below_alloc | apply pw_below_drewN | apply below_drew1) | exact HB.out))) : w.heap.size ≤ gb293)); have n3_ := Aside0.mk ((by rw [hg]; exact (below_size (by repeat (first | (with_reducible first | exact HB.out | apply below_alloc | apply pw_below_drewN | apply below_drew1) | exact HB.out))) : w.heap.size ≤ gb293)); clear HB; have HB := n0_; have BK293 := n1_; have GW293 := n2_; have GE293 := n3_; clear n0_ n1_ n2_ n3_; clear hb hbox hg; have hcz12_0 : w11.cell? ⟨gb293, 0, none⟩ = some (.string a0_0) := (blk_cell BK293.out 0).trans rfl; have hcz12_1 : w11.cell? ⟨gb293, 1, none⟩ = some (.int .i64 a0_1) := (blk_cell BK293.out 1).trans rfl; have hfz12_0 := blk_frozen BK293.out 0; have hfz12_1 := blk_frozen BK293.out 1) | ((with_reducible refine gate_callee (f := 31) rfl ?_); refine goesL_ (some 15) rfl rfl Try.func31 (by kernel_rfl) rfl #[.agg #[.string a0_0, .int .i64 a0_1], .int .i64 1048576] rfl (by (try simp only [List.map_toArray, List.map_cons, List.map_nil]); first | done | rfl | (simp only [List.length_drop, List.length_take]; rfl)) ?_; (with_reducible refine (laws_szOut.calls a0_0 a0_1 1048576 t294 _ A4.out).mono ?_); rintro e w13 ⟨rfl, hb⟩; refine ⟨_, rfl, ?_⟩; have n0_ := Aside0.mk (blk_below (g := gb293) (o := .cells #[.string a0_0, .int .i64 a0_1] 45 (0, 0)) (by (with_reducible repeat (first | refine blk_drewN ?_ _ | refine blk_drew ?_ | refine blk_alloc ?_ _)); exact BK293.out) hb); have n1_ := Aside0.mk (below_step (by repeat (first | (with_reducible first | exact HB.out | apply below_alloc | apply pw_below_drewN | apply below_drew1 | refine below_set ?_ GE293.out) | exact HB.out)) hb); clear BK293; clear HB; have BK293 := n0_; have HB := n1_; clear n0_ n1_; (try clear hb); (try clear hb2); (try clear hk); (try clear hi)) | ((with_reducible refine gate_callee (f := 41) rfl ?_); refine goesL_ (some 20) rfl rfl Try.func41 (by kernel_rfl) rfl #[.slice A1 l1.length c1, .int .i64 t294] rfl (by (try simp only [List.map_toArray, List.map_cons, List.map_nil]); first | done | rfl | (simp only [List.length_drop, List.length_take]; rfl)) ?_; (with_reducible refine (laws_szTokenS.calls _ _ l1 t294 t295 _ ?side1 ?side2 A9.out).mono ?_); (case side1 => repeat (first | exact (Kd.C_below HR1.out HB.out) | (with_reducible refine Kd.C_alloc ?_ _) | (with_reducible refine Kd.C_drewN ?_ _) | (with_reducible refine Kd.C_drew ?_))); (case side2 => exact HC1.out); rintro e w' ⟨rfl, ⟨nd, rfl⟩⟩; refine ⟨_, rfl, ?_⟩))
      go_ret
      exact ⟨by first | rfl | (simp [errW_none, errW_some] <;> rfl) | (simp [*, errW_none, errW_some] <;> rfl), by repeat (first | (with_reducible first | exact HB.out | apply below_alloc | apply pw_below_drewN | apply below_drew1 | refine below_set ?_ GE293.out) | exact HB.out)⟩
    · rw [if_neg c10] at H
      have c10b0 : decide (t295 < 0) = false := decide_eq_false c10
      clear c10
      replace H := Option.bind_eq_some_iff.mp H
      obtain ⟨⟨t296, t297⟩, A140, H⟩ := H
      replace H : ((laws_toTokenS.f k l1).bind fun t298 => ((spec_FixedBlock.f k t296 t297 t298 a2).bind fun bt301 => ((laws_toTokenS.f k l1).bind fun t305 => ((laws_toOut.f a0_0 a0_1).bind fun bt308 => ((impl_FixedBlock.f k bt308.1 bt308.2 t305 a2).bind fun bt310 => ((laws_eqOut.f bt310.1 bt310.2.1 bt301.1 bt301.2.1).bind fun t314 => (if t314 = true then (laws_FnExactFixedBlock.j0 k l1 t305 (bt310.2.2 != bt301.2.2)) else (laws_FnExactFixedBlock.j0 k l1 t305 true)))))))) = some r := H
      have A14 := Aside0.mk A140
      clear A140
      replace H := Option.bind_eq_some_iff.mp H
      obtain ⟨t298, A150, H⟩ := H
      replace H : ((spec_FixedBlock.f k t296 t297 t298 a2).bind fun bt301 => ((laws_toTokenS.f k l1).bind fun t305 => ((laws_toOut.f a0_0 a0_1).bind fun bt308 => ((impl_FixedBlock.f k bt308.1 bt308.2 t305 a2).bind fun bt310 => ((laws_eqOut.f bt310.1 bt310.2.1 bt301.1 bt301.2.1).bind fun t314 => (if t314 = true then (laws_FnExactFixedBlock.j0 k l1 t305 (bt310.2.2 != bt301.2.2)) else (laws_FnExactFixedBlock.j0 k l1 t305 true))))))) = some r := H
      have A15 := Aside0.mk A150
      clear A150
      replace H := Option.bind_eq_some_iff.mp H
      obtain ⟨⟨t301, t302, t303⟩, A160, H⟩ := H
      replace H : ((laws_toTokenS.f k l1).bind fun t305 => ((laws_toOut.f a0_0 a0_1).bind fun bt308 => ((impl_FixedBlock.f k bt308.1 bt308.2 t305 a2).bind fun bt310 => ((laws_eqOut.f bt310.1 bt310.2.1 t301 t302).bind fun t314 => (if t314 = true then (laws_FnExactFixedBlock.j0 k l1 t305 (bt310.2.2 != t303)) else (laws_FnExactFixedBlock.j0 k l1 t305 true)))))) = some r := H
      have A16 := Aside0.mk A160
      clear A160
      replace H := Option.bind_eq_some_iff.mp H
      obtain ⟨t305, A170, H⟩ := H
      replace H : ((laws_toOut.f a0_0 a0_1).bind fun bt308 => ((impl_FixedBlock.f k bt308.1 bt308.2 t305 a2).bind fun bt310 => ((laws_eqOut.f bt310.1 bt310.2.1 t301 t302).bind fun t314 => (if t314 = true then (laws_FnExactFixedBlock.j0 k l1 t305 (bt310.2.2 != t303)) else (laws_FnExactFixedBlock.j0 k l1 t305 true))))) = some r := H
      have A17 := Aside0.mk A170
      clear A170
      replace H := Option.bind_eq_some_iff.mp H
      obtain ⟨⟨t308, t309⟩, A180, H⟩ := H
      replace H : ((impl_FixedBlock.f k t308 t309 t305 a2).bind fun bt310 => ((laws_eqOut.f bt310.1 bt310.2.1 t301 t302).bind fun t314 => (if t314 = true then (laws_FnExactFixedBlock.j0 k l1 t305 (bt310.2.2 != t303)) else (laws_FnExactFixedBlock.j0 k l1 t305 true)))) = some r := H
      have A18 := Aside0.mk A180
      clear A180
      replace H := Option.bind_eq_some_iff.mp H
      obtain ⟨⟨t310, t311, t312⟩, A190, H⟩ := H
      replace H : ((laws_eqOut.f t310 t311 t301 t302).bind fun t314 => (if t314 = true then (laws_FnExactFixedBlock.j0 k l1 t305 (t312 != t303)) else (laws_FnExactFixedBlock.j0 k l1 t305 true))) = some r := H
      have A19 := Aside0.mk A190
      clear A190
      have HC20 := Aside0.mk H
      clear H
      go_enter Try.func13, Try.ntmps13
      go_upto_region 11 with (first | ((with_reducible refine gate_dst (N := 3) rfl ?_); refine box_event ?hg (N := 3) ?hd (cs := #[.string a0_0, .int .i64 a0_1]) (t := 45) ?hr ?_; (case hd => rfl); (case hg => rfl); (case hr => first | (go_simp; done) | (go_simp; rfl)); intro gb293 hg w21 hbox hb; have n0_ := Aside0.mk (below_step (by repeat (first | (with_reducible first | exact HB.out | apply below_alloc | apply pw_below_drewN | apply below_drew1) | exact HB.out)) hb); have n1_ := Aside0.mk (hbox); have n2_ := Aside0.mk ((by rw [hg]; exact (below_size (by repeat (first | (with_reducible first | exact HB.out | apply below_alloc | apply pw_below_drewN | apply below_drew1) | exact HB.out))) : w.heap.size ≤ gb293)); have n3_ := Aside0.mk ((by rw [hg]; exact (below_size (by repeat (first | (with_reducible first | exact HB.out | apply below_alloc | apply pw_below_drewN | apply below_drew1) | exact HB.out))) : w.heap.size ≤ gb293)); clear HB; have HB := n0_; have BK293 := n1_; have GW293 := n2_; have GE293 := n3_; clear n0_ n1_ n2_ n3_; clear hb hbox hg; have hcz22_0 : w21.cell? ⟨gb293, 0, none⟩ = some (.string a0_0) := (blk_cell BK293.out 0).trans rfl; have hcz22_1 : w21.cell? ⟨gb293, 1, none⟩ = some (.int .i64 a0_1) := (blk_cell BK293.out 1).trans rfl; have hfz22_0 := blk_frozen BK293.out 0; have hfz22_1 := blk_frozen BK293.out 1) | ((with_reducible refine gate_callee (f := 31) rfl ?_); refine goesL_ (some 15) rfl rfl Try.func31 (by kernel_rfl) rfl #[.agg #[.string a0_0, .int .i64 a0_1], .int .i64 1048576] rfl (by (try simp only [List.map_toArray, List.map_cons, List.map_nil]); first | done | rfl | (simp only [List.length_drop, List.length_take]; rfl)) ?_; (with_reducible refine (laws_szOut.calls a0_0 a0_1 1048576 t294 _ A4.out).mono ?_); rintro e w23 ⟨rfl, hb⟩; refine ⟨_, rfl, ?_⟩; have n0_ := Aside0.mk (blk_below (g := gb293) (o := .cells #[.string a0_0, .int .i64 a0_1] 45 (0, 0)) (by (with_reducible repeat (first | refine blk_drewN ?_ _ | refine blk_drew ?_ | refine blk_alloc ?_ _)); exact BK293.out) hb); have n1_ := Aside0.mk (below_step (by repeat (first | (with_reducible first | exact HB.out | apply below_alloc | apply pw_below_drewN | apply below_drew1 | refine below_set ?_ GE293.out) | exact HB.out)) hb); clear BK293; clear HB; have BK293 := n0_; have HB := n1_; clear n0_ n1_; (try clear hb); (try clear hb2); (try clear hk); (try clear hi)) | ((with_reducible refine gate_callee (f := 41) rfl ?_); refine goesL_ (some 20) rfl rfl Try.func41 (by kernel_rfl) rfl #[.slice A1 l1.length c1, .int .i64 t294] rfl (by (try simp only [List.map_toArray, List.map_cons, List.map_nil]); first | done | rfl | (simp only [List.length_drop, List.length_take]; rfl)) ?_; (with_reducible refine (laws_szTokenS.calls _ _ l1 t294 t295 _ ?side1 ?side2 A9.out).mono ?_); (case side1 => repeat (first | exact (Kd.C_below HR1.out HB.out) | (with_reducible refine Kd.C_alloc ?_ _) | (with_reducible refine Kd.C_drewN ?_ _) | (with_reducible refine Kd.C_drew ?_))); (case side2 => exact HC1.out); rintro e w' ⟨rfl, ⟨nd, rfl⟩⟩; refine ⟨_, rfl, ?_⟩; (try (rw [drewN_self w23]; generalize hq_ : World.drewN w23 _ = w23; have n0_ : Aside0 (w23.heap[gb293]? = some (.cells #[.string a0_0, .int .i64 a0_1] 45 (0, 0))) := ⟨by rw [← hq_]; exact (by (with_reducible repeat (first | refine blk_drewN ?_ _ | refine blk_drew ?_ | refine blk_alloc ?_ _)); exact BK293.out)⟩; have n1_ : Aside0 (Below w.heap.size w w23) := ⟨by rw [← hq_]; exact (by repeat (first | (with_reducible first | exact HB.out | apply below_alloc | apply pw_below_drewN | apply below_drew1 | refine below_set ?_ GE293.out) | exact HB.out))⟩; clear BK293 HB hq_; have BK293 := n0_; have HB := n1_; clear n0_ n1_)); have hcz24_0 : w23.cell? ⟨gb293, 0, none⟩ = some (.string a0_0) := (blk_cell BK293.out 0).trans rfl; have hcz24_1 : w23.cell? ⟨gb293, 1, none⟩ = some (.int .i64 a0_1) := (blk_cell BK293.out 1).trans rfl; have hfz24_0 := blk_frozen BK293.out 0; have hfz24_1 := blk_frozen BK293.out 1) | ((with_reducible refine gate_callee (f := 33) rfl ?_); refine goesL_ (some 25) rfl rfl Try.func33 (by kernel_rfl) rfl #[.agg #[.string a0_0, .int .i64 a0_1]] rfl (by (try simp only [List.map_toArray, List.map_cons, List.map_nil]); first | done | rfl | (simp only [List.length_drop, List.length_take]; rfl)) ?_; (with_reducible refine (laws_toOut.calls a0_0 a0_1 t296 t297 _ A14.out).mono ?_); rintro e w25 ⟨rfl, hb⟩; refine ⟨_, rfl, ?_⟩; have n0_ := Aside0.mk (blk_below (g := gb293) (o := .cells #[.string a0_0, .int .i64 a0_1] 45 (0, 0)) (by (with_reducible repeat (first | refine blk_drewN ?_ _ | refine blk_drew ?_ | refine blk_alloc ?_ _)); exact BK293.out) hb); have n1_ := Aside0.mk (below_step (by repeat (first | (with_reducible first | exact HB.out | apply below_alloc | apply pw_below_drewN | apply below_drew1 | refine below_set ?_ GE293.out) | exact HB.out)) hb); clear BK293; clear HB; have BK293 := n0_; have HB := n1_; clear n0_ n1_; (try clear hb); (try clear hb2); (try clear hk); (try clear hi)) | ((with_reducible refine gate_callee (f := 43) rfl ?_); refine goesL_ (some 27) rfl rfl Try.func43 (by kernel_rfl) rfl #[.slice A1 l1.length c1] rfl (by (try simp only [List.map_toArray, List.map_cons, List.map_nil]); first | done | rfl | (simp only [List.length_drop, List.length_take]; rfl)) ?_; (with_reducible refine (laws_toTokenS.calls k _ _ l1 t298 _ ?side1 ?side2 A15.out).mono ?_); (case side1 => repeat (first | exact (Kd.C_below HR1.out HB.out) | (with_reducible refine Kd.C_alloc ?_ _) | (with_reducible refine Kd.C_drewN ?_ _) | (with_reducible refine Kd.C_drew ?_))); (case side2 => exact HC1.out); rintro e w26 ⟨v299, rfl, ho0, hb⟩; refine ⟨_, rfl, ?_⟩; have n0_ := Aside0.mk (Kd.R_lower ho0 (below_size (by repeat (first | (with_reducible first | exact HB.out | apply below_alloc | apply pw_below_drewN | apply below_drew1 | refine below_set ?_ GE293.out) | exact HB.out)))); have n1_ := Aside0.mk (blk_below (g := gb293) (o := .cells #[.string a0_0, .int .i64 a0_1] 45 (0, 0)) (by (with_reducible repeat (first | refine blk_drewN ?_ _ | refine blk_drew ?_ | refine blk_alloc ?_ _)); exact BK293.out) hb); have n2_ := Aside0.mk (below_step (by repeat (first | (with_reducible first | exact HB.out | apply below_alloc | apply pw_below_drewN | apply below_drew1 | refine below_set ?_ GE293.out) | exact HB.out)) hb); clear BK293; clear HB; have HO300 := n0_; have BK293 := n1_; have HB := n2_; clear n0_ n1_ n2_; (try clear hb); (try clear hb2); (try clear hk); (try clear hi); (try clear ho0); obtain ⟨Ao27, co27, eo27⟩ := Kd.R_slice HO300.out; subst eo27) | ((with_reducible refine gate_callee (f := 47) rfl ?_); refine goesL_ (some 29) rfl rfl Try.func47 (by kernel_rfl) rfl #[.agg #[.string t296, .int .i64 t297], .slice Ao27 t298.length co27, .bool a2] rfl (by (try simp only [List.map_toArray, List.map_cons, List.map_nil]); first | done | rfl | (simp only [List.length_drop, List.length_take]; rfl)) ?_; (with_reducible refine (spec_FixedBlock.calls k t296 t297 _ _ t298 a2 t301 t302 t303 _ ?side1 ?side2 A16.out).mono ?_); (case side1 => repeat (first | exact (Kd.R_reads' HO300.out).2.2 | (with_reducible refine Kd.C_alloc ?_ _) | (with_reducible refine Kd.C_drewN ?_ _) | (with_reducible refine Kd.C_drew ?_))); (case side2 => exact (Kd.R_reads' HO300.out).2.1); rintro e w28 ⟨rfl, hb⟩; refine ⟨_, rfl, ?_⟩; have n0_ := Aside0.mk (Kd.R_below (by (with_reducible repeat (first | apply Kd.R_alloc | apply Kd.R_drewN | apply Kd.R_drew)); exact HO300.out) hb); have n1_ := Aside0.mk (blk_below (g := gb293) (o := .cells #[.string a0_0, .int .i64 a0_1] 45 (0, 0)) (by (with_reducible repeat (first | refine blk_drewN ?_ _ | refine blk_drew ?_ | refine blk_alloc ?_ _)); exact BK293.out) hb); have n2_ := Aside0.mk (below_step (by repeat (first | (with_reducible first | exact HB.out | apply below_alloc | apply pw_below_drewN | apply below_drew1 | refine below_set ?_ GE293.out) | exact HB.out)) hb); clear HO300; clear BK293; clear HB; have HO300 := n0_; have BK293 := n1_; have HB := n2_; clear n0_ n1_ n2_; (try clear hb); (try clear hb2); (try clear hk); (try clear hi)) | ((with_reducible refine gate_dst (N := 8) rfl ?_); refine box_event ?hg (N := 8) ?hd (cs := #[.string (⟨#[]⟩ : ByteArray), .int .i64 0]) (t := 47) ?hr ?_; (case hd => rfl); (case hg => rfl); (case hr => first | (go_simp; done) | (go_simp; rfl)); intro gb304 hg w29 hbox hb; have n0_ := Aside0.mk (Kd.R_below (by (with_reducible repeat (first | apply Kd.R_alloc | apply Kd.R_drewN | apply Kd.R_drew)); exact HO300.out) hb); have n1_ := Aside0.mk (blk_below (g := gb293) (o := .cells #[.string a0_0, .int .i64 a0_1] 45 (0, 0)) (by (with_reducible repeat (first | refine blk_drewN ?_ _ | refine blk_drew ?_ | refine blk_alloc ?_ _)); exact BK293.out) hb); have n2_ := Aside0.mk (below_step (by repeat (first | (with_reducible first | exact HB.out | apply below_alloc | apply pw_below_drewN | apply below_drew1 | refine below_set ?_ GE293.out) | exact HB.out)) hb); have n3_ := Aside0.mk (hbox); have n4_ := Aside0.mk ((by rw [hg]; exact (below_size (by repeat (first | (with_reducible first | exact HB.out | apply below_alloc | apply pw_below_drewN | apply below_drew1 | refine below_set ?_ GE293.out) | exact HB.out))) : w.heap.size ≤ gb304)); have n5_ := Aside0.mk ((by rw [hg]; exact (below_size (by repeat (first | (with_reducible first | exact HB.out | apply below_alloc | apply pw_below_drewN | apply below_drew1 | refine below_set ?_ GE293.out) | exact HB.out))) : w.heap.size ≤ gb304)); have n6_ := Aside0.mk ((by rw [hg]; exact Nat.ne_of_lt (blk_lt (g := gb293) (o := .cells #[.string a0_0, .int .i64 a0_1] 45 (0, 0)) (by (with_reducible repeat (first | refine blk_drewN ?_ _ | refine blk_drew ?_ | refine blk_alloc ?_ _)); exact BK293.out)) : gb293 ≠ gb304)); have n7_ := Aside0.mk ((by rw [hg]; exact Nat.ne_of_gt (blk_lt (g := gb293) (o := .cells #[.string a0_0, .int .i64 a0_1] 45 (0, 0)) (by (with_reducible repeat (first | refine blk_drewN ?_ _ | refine blk_drew ?_ | refine blk_alloc ?_ _)); exact BK293.out)) : gb304 ≠ gb293)); clear HO300; clear BK293; clear HB; have HO300 := n0_; have BK293 := n1_; have HB := n2_; have BK304 := n3_; have GW304 := n4_; have GE304 := n5_; have NB293_304 := n6_; have NB304_293 := n7_; clear n0_ n1_ n2_ n3_ n4_ n5_ n6_ n7_; clear hb hbox hg; have hnb30 := NB304_293.out; have hnc30 := NB293_304.out; have hcz31_0 : w29.cell? ⟨gb304, 0, none⟩ = some (.string (⟨#[]⟩ : ByteArray)) := (blk_cell BK304.out 0).trans rfl; have hcz31_1 : w29.cell? ⟨gb304, 1, none⟩ = some (.int .i64 0) := (blk_cell BK304.out 1).trans rfl; have hfz31_0 := blk_frozen BK304.out 0; have hfz31_1 := blk_frozen BK304.out 1) | ((with_reducible refine gate_callee (f := 43) rfl ?_); refine goesL_ (some 33) rfl rfl Try.func43 (by kernel_rfl) rfl #[.slice A1 l1.length c1] rfl (by (try simp only [List.map_toArray, List.map_cons, List.map_nil]); first | done | rfl | (simp only [List.length_drop, List.length_take]; rfl)) ?_; (with_reducible refine (laws_toTokenS.calls k _ _ l1 t305 _ ?side1 ?side2 A17.out).mono ?_); (case side1 => exact Kd.C_below HR1.out (by repeat (first | (with_reducible first | exact HB.out | apply below_alloc | apply pw_below_drewN | apply below_drew1 | refine below_set ?_ GE293.out | refine below_set ?_ GE304.out) | exact HB.out))); (case side2 => exact HC1.out); rintro e w32 ⟨v306, rfl, ho0, hb⟩; refine ⟨_, rfl, ?_⟩; have n0_ := Aside0.mk (Kd.R_elder' (by (with_reducible repeat (first | apply Kd.R_alloc | apply Kd.R_drewN | apply Kd.R_drew)); exact (Kd.R_mono (Kd.R_far (p := ⟨gb304, 1, none⟩) (Kd.R_far (p := ⟨gb304, 0, none⟩) (Kd.R_types HO300.out BK304.out (by decide)) (fun _ hk => hk.2) (.string t301)) (fun _ hk => hk.2) (.int .i64 t302)) (fun _ h_ => h_.1))) (Kd.R_base ho0) hb); have n1_ := Aside0.mk (Kd.R_lower (Kd.R_new' ho0 (Kd.R_lt (by (with_reducible repeat (first | apply Kd.R_alloc | apply Kd.R_drewN | apply Kd.R_drew)); exact (Kd.R_mono (Kd.R_far (p := ⟨gb304, 1, none⟩) (Kd.R_far (p := ⟨gb304, 0, none⟩) (Kd.R_types HO300.out BK304.out (by decide)) (fun _ hk => hk.2) (.string t301)) (fun _ hk => hk.2) (.int .i64 t302)) (fun _ h_ => h_.1))))) (below_size (by repeat (first | (with_reducible first | exact HB.out | apply below_alloc | apply pw_below_drewN | apply below_drew1 | refine below_set ?_ GE293.out | refine below_set ?_ GE304.out) | exact HB.out)))); have n2_ := Aside0.mk (blk_below (g := gb293) (o := .cells #[.string a0_0, .int .i64 a0_1] 45 (0, 0)) (by (with_reducible repeat (first | refine blk_drewN ?_ _ | refine blk_drew ?_ | refine blk_alloc ?_ _)); refine blk_far ?_ NB293_304.out _; (with_reducible repeat (first | refine blk_drewN ?_ _ | refine blk_drew ?_ | refine blk_alloc ?_ _)); refine blk_far ?_ NB293_304.out _; (with_reducible repeat (first | refine blk_drewN ?_ _ | refine blk_drew ?_ | refine blk_alloc ?_ _)); exact BK293.out) hb); have n3_ := Aside0.mk (blk_below (g := gb304) (o := .cells #[.string t301, .int .i64 t302] 47 (0, 0)) (by (with_reducible repeat (first | refine blk_drewN ?_ _ | refine blk_drew ?_ | refine blk_alloc ?_ _)); refine blk_put (cs := #[.string t301, .int .i64 0]) ?_ 1 _ rfl; (with_reducible repeat (first | refine blk_drewN ?_ _ | refine blk_drew ?_ | refine blk_alloc ?_ _)); refine blk_put (cs := #[.string (⟨#[]⟩ : ByteArray), .int .i64 0]) ?_ 0 _ rfl; (with_reducible repeat (first | refine blk_drewN ?_ _ | refine blk_drew ?_ | refine blk_alloc ?_ _)); exact BK304.out) hb); have n4_ := Aside0.mk (below_step (by repeat (first | (with_reducible first | exact HB.out | apply below_alloc | apply pw_below_drewN | apply below_drew1 | refine below_set ?_ GE293.out | refine below_set ?_ GE304.out) | exact HB.out)) hb); clear HO300; clear BK293; clear BK304; clear HB; have HO300 := n0_; have HO307 := n1_; have BK293 := n2_; have BK304 := n3_; have HB := n4_; clear n0_ n1_ n2_ n3_ n4_; (try clear hb); (try clear hb2); (try clear hk); (try clear hi); (try clear ho0); have hcz33_0 : w32.cell? ⟨gb293, 0, none⟩ = some (.string a0_0) := (blk_cell BK293.out 0).trans rfl; have hcz33_1 : w32.cell? ⟨gb293, 1, none⟩ = some (.int .i64 a0_1) := (blk_cell BK293.out 1).trans rfl; have hfz33_0 := blk_frozen BK293.out 0; have hfz33_1 := blk_frozen BK293.out 1) | ((with_reducible refine gate_callee (f := 33) rfl ?_); refine goesL_ (some 36) rfl rfl Try.func33 (by kernel_rfl) rfl #[.agg #[.string a0_0, .int .i64 a0_1]] rfl (by (try simp only [List.map_toArray, List.map_cons, List.map_nil]); first | done | rfl | (simp only [List.length_drop, List.length_take]; rfl)) ?_; (with_reducible refine (laws_toOut.calls a0_0 a0_1 t308 t309 _ A18.out).mono ?_); rintro e w34 ⟨rfl, hb⟩; refine ⟨_, rfl, ?_⟩; have n0_ := Aside0.mk (Kd.R_below (by (with_reducible repeat (first | apply Kd.R_alloc | apply Kd.R_drewN | apply Kd.R_drew)); exact HO300.out) hb); have n1_ := Aside0.mk (Kd.R_below (by (with_reducible repeat (first | apply Kd.R_alloc | apply Kd.R_drewN | apply Kd.R_drew)); exact HO307.out) hb); have n2_ := Aside0.mk (blk_below (g := gb293) (o := .cells #[.string a0_0, .int .i64 a0_1] 45 (0, 0)) (by (with_reducible repeat (first | refine blk_drewN ?_ _ | refine blk_drew ?_ | refine blk_alloc ?_ _)); exact BK293.out) hb); have n3_ := Aside0.mk (blk_below (g := gb304) (o := .cells #[.string t301, .int .i64 t302] 47 (0, 0)) (by (with_reducible repeat (first | refine blk_drewN ?_ _ | refine blk_drew ?_ | refine blk_alloc ?_ _)); exact BK304.out) hb); have n4_ := Aside0.mk (below_step (by repeat (first | (with_reducible first | exact HB.out | apply below_alloc | apply pw_below_drewN | apply below_drew1 | refine below_set ?_ GE293.out | refine below_set ?_ GE304.out) | exact HB.out)) hb); clear HO300; clear HO307; clear BK293; clear BK304; clear HB; have HO300 := n0_; have HO307 := n1_; have BK293 := n2_; have BK304 := n3_; have HB := n4_; clear n0_ n1_ n2_ n3_ n4_; (try clear hb); (try clear hb2); (try clear hk); (try clear hi); obtain ⟨Ao35, co35, eo35⟩ := Kd.R_slice HO307.out; subst eo35) | ((with_reducible refine gate_callee (f := 48) rfl ?_); refine goesL_ (some 39) rfl rfl Try.func48 (by kernel_rfl) rfl #[.agg #[.string t308, .int .i64 t309], .slice Ao35 t305.length co35, .bool a2] rfl (by (try simp only [List.map_toArray, List.map_cons, List.map_nil]); first | done | rfl | (simp only [List.length_drop, List.length_take]; rfl)) ?_; (with_reducible refine (impl_FixedBlock.calls k t308 t309 _ _ t305 a2 t310 t311 t312 _ ?side1 ?side2 A19.out).mono ?_); (case side1 => repeat (first | exact (Kd.R_reads' HO307.out).2.2 | (with_reducible refine Kd.C_alloc ?_ _) | (with_reducible refine Kd.C_drewN ?_ _) | (with_reducible refine Kd.C_drew ?_))); (case side2 => exact (Kd.R_reads' HO307.out).2.1); rintro e w36 ⟨rfl, hb⟩; refine ⟨_, rfl, ?_⟩; have n0_ := Aside0.mk (Kd.R_below (by (with_reducible repeat (first | apply Kd.R_alloc | apply Kd.R_drewN | apply Kd.R_drew)); exact HO300.out) hb); have n1_ := Aside0.mk (Kd.R_below (by (with_reducible repeat (first | apply Kd.R_alloc | apply Kd.R_drewN | apply Kd.R_drew)); exact HO307.out) hb); have n2_ := Aside0.mk (blk_below (g := gb293) (o := .cells #[.string a0_0, .int .i64 a0_1] 45 (0, 0)) (by (with_reducible repeat (first | refine blk_drewN ?_ _ | refine blk_drew ?_ | refine blk_alloc ?_ _)); exact BK293.out) hb); have n3_ := Aside0.mk (blk_below (g := gb304) (o := .cells #[.string t301, .int .i64 t302] 47 (0, 0)) (by (with_reducible repeat (first | refine blk_drewN ?_ _ | refine blk_drew ?_ | refine blk_alloc ?_ _)); exact BK304.out) hb); have n4_ := Aside0.mk (below_step (by repeat (first | (with_reducible first | exact HB.out | apply below_alloc | apply pw_below_drewN | apply below_drew1 | refine below_set ?_ GE293.out | refine below_set ?_ GE304.out) | exact HB.out)) hb); clear HO300; clear HO307; clear BK293; clear BK304; clear HB; have HO300 := n0_; have HO307 := n1_; have BK293 := n2_; have BK304 := n3_; have HB := n4_; clear n0_ n1_ n2_ n3_ n4_; (try clear hb); (try clear hb2); (try clear hk); (try clear hi)) | ((with_reducible refine gate_dst (N := 11) rfl ?_); refine box_event ?hg (N := 11) ?hd (cs := #[.string (⟨#[]⟩ : ByteArray), .int .i64 0]) (t := 47) ?hr ?_; (case hd => rfl); (case hg => rfl); (case hr => first | (go_simp; done) | (go_simp; rfl)); intro gb313 hg w37 hbox hb; have n0_ := Aside0.mk (Kd.R_below (by (with_reducible repeat (first | apply Kd.R_alloc | apply Kd.R_drewN | apply Kd.R_drew)); exact HO300.out) hb); have n1_ := Aside0.mk (Kd.R_below (by (with_reducible repeat (first | apply Kd.R_alloc | apply Kd.R_drewN | apply Kd.R_drew)); exact HO307.out) hb); have n2_ := Aside0.mk (blk_below (g := gb293) (o := .cells #[.string a0_0, .int .i64 a0_1] 45 (0, 0)) (by (with_reducible repeat (first | refine blk_drewN ?_ _ | refine blk_drew ?_ | refine blk_alloc ?_ _)); exact BK293.out) hb); have n3_ := Aside0.mk (blk_below (g := gb304) (o := .cells #[.string t301, .int .i64 t302] 47 (0, 0)) (by (with_reducible repeat (first | refine blk_drewN ?_ _ | refine blk_drew ?_ | refine blk_alloc ?_ _)); exact BK304.out) hb); have n4_ := Aside0.mk (below_step (by repeat (first | (with_reducible first | exact HB.out | apply below_alloc | apply pw_below_drewN | apply below_drew1 | refine below_set ?_ GE293.out | refine below_set ?_ GE304.out) | exact HB.out)) hb); have n5_ := Aside0.mk (hbox); have n6_ := Aside0.mk ((by rw [hg]; exact (below_size (by repeat (first | (with_reducible first | exact HB.out | apply below_alloc | apply pw_below_drewN | apply below_drew1 | refine below_set ?_ GE293.out | refine below_set ?_ GE304.out) | exact HB.out))) : w.heap.size ≤ gb313)); have n7_ := Aside0.mk ((by rw [hg]; exact (below_size (by repeat (first | (with_reducible first | exact HB.out | apply below_alloc | apply pw_below_drewN | apply below_drew1 | refine below_set ?_ GE293.out | refine below_set ?_ GE304.out) | exact HB.out))) : w.heap.size ≤ gb313)); have n8_ := Aside0.mk ((by rw [hg]; exact Nat.ne_of_lt (blk_lt (g := gb293) (o := .cells #[.string a0_0, .int .i64 a0_1] 45 (0, 0)) (by (with_reducible repeat (first | refine blk_drewN ?_ _ | refine blk_drew ?_ | refine blk_alloc ?_ _)); exact BK293.out)) : gb293 ≠ gb313)); have n9_ := Aside0.mk ((by rw [hg]; exact Nat.ne_of_gt (blk_lt (g := gb293) (o := .cells #[.string a0_0, .int .i64 a0_1] 45 (0, 0)) (by (with_reducible repeat (first | refine blk_drewN ?_ _ | refine blk_drew ?_ | refine blk_alloc ?_ _)); exact BK293.out)) : gb313 ≠ gb293)); have n10_ := Aside0.mk ((by rw [hg]; exact Nat.ne_of_lt (blk_lt (g := gb304) (o := .cells #[.string t301, .int .i64 t302] 47 (0, 0)) (by (with_reducible repeat (first | refine blk_drewN ?_ _ | refine blk_drew ?_ | refine blk_alloc ?_ _)); exact BK304.out)) : gb304 ≠ gb313)); have n11_ := Aside0.mk ((by rw [hg]; exact Nat.ne_of_gt (blk_lt (g := gb304) (o := .cells #[.string t301, .int .i64 t302] 47 (0, 0)) (by (with_reducible repeat (first | refine blk_drewN ?_ _ | refine blk_drew ?_ | refine blk_alloc ?_ _)); exact BK304.out)) : gb313 ≠ gb304)); clear HO300; clear HO307; clear BK293; clear BK304; clear HB; have HO300 := n0_; have HO307 := n1_; have BK293 := n2_; have BK304 := n3_; have HB := n4_; have BK313 := n5_; have GW313 := n6_; have GE313 := n7_; have NB293_313 := n8_; have NB313_293 := n9_; have NB304_313 := n10_; have NB313_304 := n11_; clear n0_ n1_ n2_ n3_ n4_ n5_ n6_ n7_ n8_ n9_ n10_ n11_; clear hb hbox hg; have hnb38 := NB313_293.out; have hnc38 := NB293_313.out; have hnb39 := NB313_304.out; have hnc39 := NB304_313.out; have hcz40_0 : w37.cell? ⟨gb313, 0, none⟩ = some (.string (⟨#[]⟩ : ByteArray)) := (blk_cell BK313.out 0).trans rfl; have hcz40_1 : w37.cell? ⟨gb313, 1, none⟩ = some (.int .i64 0) := (blk_cell BK313.out 1).trans rfl; have hfz40_0 := blk_frozen BK313.out 0; have hfz40_1 := blk_frozen BK313.out 1))
      (try simp only [Act.put, List.setIfInBounds_toArray, List.set_cons_zero, List.set_cons_succ])
      go_cut [50] (fun v50 wc => ∃ (kq : Nat) (x50_19 : Bool), v50 = .bool x50_19 ∧ Aside0 (laws_FnExactFixedBlock.j0 kq l1 t305 x50_19 = some r) ∧ Aside0 (kq ≤ k) ∧ Aside0 (Kd.R k107 107 wc w.heap.size (fun _ => True) (.slice Ao35 t305.length co35) t305) ∧ Aside0 (wc.heap[gb293]? = some (.cells #[.string a0_0, .int .i64 a0_1] 45 (0, 0))) ∧ Aside0 (wc.heap[gb304]? = some (.cells #[.string t301, .int .i64 t302] 47 (0, 0))) ∧ Aside0 (wc.heap[gb313]? = some (.cells #[.string t310, .int .i64 t311] 47 (0, 0))) ∧ Aside0 (Below w.heap.size w wc))
      case first =>
        have H := HC20.out
        clear HC20
        replace H := Option.bind_eq_some_iff.mp H
        obtain ⟨t314, A410, H⟩ := H
        replace H : (if t314 = true then (laws_FnExactFixedBlock.j0 k l1 t305 (t312 != t303)) else (laws_FnExactFixedBlock.j0 k l1 t305 true)) = some r := H
        have A41 := Aside0.mk A410
        clear A410
        by_cases c42 : t314 = true
        · subst c42
          have H1 : (laws_FnExactFixedBlock.j0 k l1 t305 (t312 != t303)) = some r := by rw [if_pos rfl] at H; exact H
          clear H
          have H := H1
          clear H1
          have H' := Aside0.mk H
          clear H
          have hnb43 := NB313_293.out
          have hnc43 := NB293_313.out
          have hnb44 := NB313_304.out
          have hnc44 := NB304_313.out
          have hcz45_0 : w37.cell? ⟨gb313, 0, none⟩ = some (.string (⟨#[]⟩ : ByteArray)) := (blk_cell BK313.out 0).trans rfl
          have hcz45_1 : w37.cell? ⟨gb313, 1, none⟩ = some (.int .i64 0) := (blk_cell BK313.out 1).trans rfl
          have hfz45_0 := blk_frozen BK313.out 0
          have hfz45_1 := blk_frozen BK313.out 1
          have hnb46 := NB304_293.out
          have hnc46 := NB293_304.out
          have hcz47_0 : w37.cell? ⟨gb304, 0, none⟩ = some (.string t301) := (blk_cell BK304.out 0).trans rfl
          have hcz47_1 : w37.cell? ⟨gb304, 1, none⟩ = some (.int .i64 t302) := (blk_cell BK304.out 1).trans rfl
          have hfz47_0 := blk_frozen BK304.out 0
          have hfz47_1 := blk_frozen BK304.out 1
          go_wp2_with (first | ((with_reducible refine gate_callee (f := 35) rfl ?_); refine goesL_ (some 44) rfl rfl Try.func35 (by kernel_rfl) rfl #[.agg #[.string t310, .int .i64 t311], .agg #[.string t301, .int .i64 t302]] rfl (by (try simp only [List.map_toArray, List.map_cons, List.map_nil]); first | done | rfl | (simp only [List.length_drop, List.length_take]; rfl)) ?_; (with_reducible refine (laws_eqOut.calls t310 t311 t301 t302 true _ A41.out).mono ?_); rintro e w48 ⟨rfl, hb⟩; refine ⟨_, rfl, ?_⟩; have n0_ := Aside0.mk (Kd.R_below (by (with_reducible repeat (first | apply Kd.R_alloc | apply Kd.R_drewN | apply Kd.R_drew)); exact (Kd.R_mono (Kd.R_far (p := ⟨gb313, 1, none⟩) (Kd.R_far (p := ⟨gb313, 0, none⟩) (Kd.R_types HO300.out BK313.out (by decide)) (fun _ hk => hk.2) (.string t310)) (fun _ hk => hk.2) (.int .i64 t311)) (fun _ h_ => h_.1))) hb); have n1_ := Aside0.mk (Kd.R_below (by (with_reducible repeat (first | apply Kd.R_alloc | apply Kd.R_drewN | apply Kd.R_drew)); exact (Kd.R_mono (Kd.R_far (p := ⟨gb313, 1, none⟩) (Kd.R_far (p := ⟨gb313, 0, none⟩) (Kd.R_types HO307.out BK313.out (by decide)) (fun _ hk => hk.2) (.string t310)) (fun _ hk => hk.2) (.int .i64 t311)) (fun _ h_ => h_.1))) hb); have n2_ := Aside0.mk (blk_below (g := gb293) (o := .cells #[.string a0_0, .int .i64 a0_1] 45 (0, 0)) (by (with_reducible repeat (first | refine blk_drewN ?_ _ | refine blk_drew ?_ | refine blk_alloc ?_ _)); refine blk_far ?_ NB293_313.out _; (with_reducible repeat (first | refine blk_drewN ?_ _ | refine blk_drew ?_ | refine blk_alloc ?_ _)); refine blk_far ?_ NB293_313.out _; (with_reducible repeat (first | refine blk_drewN ?_ _ | refine blk_drew ?_ | refine blk_alloc ?_ _)); exact BK293.out) hb); have n3_ := Aside0.mk (blk_below (g := gb304) (o := .cells #[.string t301, .int .i64 t302] 47 (0, 0)) (by (with_reducible repeat (first | refine blk_drewN ?_ _ | refine blk_drew ?_ | refine blk_alloc ?_ _)); refine blk_far ?_ NB304_313.out _; (with_reducible repeat (first | refine blk_drewN ?_ _ | refine blk_drew ?_ | refine blk_alloc ?_ _)); refine blk_far ?_ NB304_313.out _; (with_reducible repeat (first | refine blk_drewN ?_ _ | refine blk_drew ?_ | refine blk_alloc ?_ _)); exact BK304.out) hb); have n4_ := Aside0.mk (blk_below (g := gb313) (o := .cells #[.string t310, .int .i64 t311] 47 (0, 0)) (by (with_reducible repeat (first | refine blk_drewN ?_ _ | refine blk_drew ?_ | refine blk_alloc ?_ _)); refine blk_put (cs := #[.string t310, .int .i64 0]) ?_ 1 _ rfl; (with_reducible repeat (first | refine blk_drewN ?_ _ | refine blk_drew ?_ | refine blk_alloc ?_ _)); refine blk_put (cs := #[.string (⟨#[]⟩ : ByteArray), .int .i64 0]) ?_ 0 _ rfl; (with_reducible repeat (first | refine blk_drewN ?_ _ | refine blk_drew ?_ | refine blk_alloc ?_ _)); exact BK313.out) hb); have n5_ := Aside0.mk (below_step (by repeat (first | (with_reducible first | exact HB.out | apply below_alloc | apply pw_below_drewN | apply below_drew1 | refine below_set ?_ GE293.out | refine below_set ?_ GE304.out | refine below_set ?_ GE313.out) | exact HB.out)) hb); clear HO300; clear HO307; clear BK293; clear BK304; clear BK313; clear HB; have HO300 := n0_; have HO307 := n1_; have BK293 := n2_; have BK304 := n3_; have BK313 := n4_; have HB := n5_; clear n0_ n1_ n2_ n3_ n4_ n5_; (try clear hb); (try clear hb2); (try clear hk); (try clear hi)))
          go_meet
          case rel => exact ⟨_, ((t312 != t303)), (by first | rfl | (simp; done) | (simp [*]; done)), H', ⟨by first | omega | exact Nat.le_refl _⟩, ⟨by (with_reducible repeat (first | apply Kd.R_alloc | apply Kd.R_drewN | apply Kd.R_drew)); exact Kd.R_mono HO307.out (fun _ hk => trivial)⟩, ⟨by (with_reducible repeat (first | refine blk_drewN ?_ _ | refine blk_drew ?_ | refine blk_alloc ?_ _)); exact BK293.out⟩, ⟨by (with_reducible repeat (first | refine blk_drewN ?_ _ | refine blk_drew ?_ | refine blk_alloc ?_ _)); exact BK304.out⟩, ⟨by (with_reducible repeat (first | refine blk_drewN ?_ _ | refine blk_drew ?_ | refine blk_alloc ?_ _)); exact BK313.out⟩, ⟨by repeat (first | (with_reducible first | exact HB.out | apply below_alloc | apply pw_below_drewN | apply below_drew1 | refine below_set ?_ GE293.out | refine below_set ?_ GE304.out | refine below_set ?_ GE313.out) | exact HB.out)⟩⟩
        · replace c42 := Bool.eq_false_iff.mpr c42
          subst c42
          have H1 : (laws_FnExactFixedBlock.j0 k l1 t305 true) = some r := by rw [if_neg (show ¬ (false = true) by decide)] at H; exact H
          clear H
          have H := H1
          clear H1
          have H' := Aside0.mk H
          clear H
          have hnb49 := NB313_293.out
          have hnc49 := NB293_313.out
          have hnb50 := NB313_304.out
          have hnc50 := NB304_313.out
          have hcz51_0 : w37.cell? ⟨gb313, 0, none⟩ = some (.string (⟨#[]⟩ : ByteArray)) := (blk_cell BK313.out 0).trans rfl
          have hcz51_1 : w37.cell? ⟨gb313, 1, none⟩ = some (.int .i64 0) := (blk_cell BK313.out 1).trans rfl
          have hfz51_0 := blk_frozen BK313.out 0
          have hfz51_1 := blk_frozen BK313.out 1
          have hnb52 := NB304_293.out
          have hnc52 := NB293_304.out
          have hcz53_0 : w37.cell? ⟨gb304, 0, none⟩ = some (.string t301) := (blk_cell BK304.out 0).trans rfl
          have hcz53_1 : w37.cell? ⟨gb304, 1, none⟩ = some (.int .i64 t302) := (blk_cell BK304.out 1).trans rfl
          have hfz53_0 := blk_frozen BK304.out 0
          have hfz53_1 := blk_frozen BK304.out 1
          go_wp2_with (first | ((with_reducible refine gate_callee (f := 35) rfl ?_); refine goesL_ (some 44) rfl rfl Try.func35 (by kernel_rfl) rfl #[.agg #[.string t310, .int .i64 t311], .agg #[.string t301, .int .i64 t302]] rfl (by (try simp only [List.map_toArray, List.map_cons, List.map_nil]); first | done | rfl | (simp only [List.length_drop, List.length_take]; rfl)) ?_; (with_reducible refine (laws_eqOut.calls t310 t311 t301 t302 false _ A41.out).mono ?_); rintro e w54 ⟨rfl, hb⟩; refine ⟨_, rfl, ?_⟩; have n0_ := Aside0.mk (Kd.R_below (by (with_reducible repeat (first | apply Kd.R_alloc | apply Kd.R_drewN | apply Kd.R_drew)); exact (Kd.R_mono (Kd.R_far (p := ⟨gb313, 1, none⟩) (Kd.R_far (p := ⟨gb313, 0, none⟩) (Kd.R_types HO300.out BK313.out (by decide)) (fun _ hk => hk.2) (.string t310)) (fun _ hk => hk.2) (.int .i64 t311)) (fun _ h_ => h_.1))) hb); have n1_ := Aside0.mk (Kd.R_below (by (with_reducible repeat (first | apply Kd.R_alloc | apply Kd.R_drewN | apply Kd.R_drew)); exact (Kd.R_mono (Kd.R_far (p := ⟨gb313, 1, none⟩) (Kd.R_far (p := ⟨gb313, 0, none⟩) (Kd.R_types HO307.out BK313.out (by decide)) (fun _ hk => hk.2) (.string t310)) (fun _ hk => hk.2) (.int .i64 t311)) (fun _ h_ => h_.1))) hb); have n2_ := Aside0.mk (blk_below (g := gb293) (o := .cells #[.string a0_0, .int .i64 a0_1] 45 (0, 0)) (by (with_reducible repeat (first | refine blk_drewN ?_ _ | refine blk_drew ?_ | refine blk_alloc ?_ _)); refine blk_far ?_ NB293_313.out _; (with_reducible repeat (first | refine blk_drewN ?_ _ | refine blk_drew ?_ | refine blk_alloc ?_ _)); refine blk_far ?_ NB293_313.out _; (with_reducible repeat (first | refine blk_drewN ?_ _ | refine blk_drew ?_ | refine blk_alloc ?_ _)); exact BK293.out) hb); have n3_ := Aside0.mk (blk_below (g := gb304) (o := .cells #[.string t301, .int .i64 t302] 47 (0, 0)) (by (with_reducible repeat (first | refine blk_drewN ?_ _ | refine blk_drew ?_ | refine blk_alloc ?_ _)); refine blk_far ?_ NB304_313.out _; (with_reducible repeat (first | refine blk_drewN ?_ _ | refine blk_drew ?_ | refine blk_alloc ?_ _)); refine blk_far ?_ NB304_313.out _; (with_reducible repeat (first | refine blk_drewN ?_ _ | refine blk_drew ?_ | refine blk_alloc ?_ _)); exact BK304.out) hb); have n4_ := Aside0.mk (blk_below (g := gb313) (o := .cells #[.string t310, .int .i64 t311] 47 (0, 0)) (by (with_reducible repeat (first | refine blk_drewN ?_ _ | refine blk_drew ?_ | refine blk_alloc ?_ _)); refine blk_put (cs := #[.string t310, .int .i64 0]) ?_ 1 _ rfl; (with_reducible repeat (first | refine blk_drewN ?_ _ | refine blk_drew ?_ | refine blk_alloc ?_ _)); refine blk_put (cs := #[.string (⟨#[]⟩ : ByteArray), .int .i64 0]) ?_ 0 _ rfl; (with_reducible repeat (first | refine blk_drewN ?_ _ | refine blk_drew ?_ | refine blk_alloc ?_ _)); exact BK313.out) hb); have n5_ := Aside0.mk (below_step (by repeat (first | (with_reducible first | exact HB.out | apply below_alloc | apply pw_below_drewN | apply below_drew1 | refine below_set ?_ GE293.out | refine below_set ?_ GE304.out | refine below_set ?_ GE313.out) | exact HB.out)) hb); clear HO300; clear HO307; clear BK293; clear BK304; clear BK313; clear HB; have HO300 := n0_; have HO307 := n1_; have BK293 := n2_; have BK304 := n3_; have BK313 := n4_; have HB := n5_; clear n0_ n1_ n2_ n3_ n4_ n5_; (try clear hb); (try clear hb2); (try clear hk); (try clear hi)))
          go_meet
          case rel => exact ⟨_, (true), (by first | rfl | (simp; done) | (simp [*]; done)), H', ⟨by first | omega | exact Nat.le_refl _⟩, ⟨by (with_reducible repeat (first | apply Kd.R_alloc | apply Kd.R_drewN | apply Kd.R_drew)); exact Kd.R_mono HO307.out (fun _ hk => trivial)⟩, ⟨by (with_reducible repeat (first | refine blk_drewN ?_ _ | refine blk_drew ?_ | refine blk_alloc ?_ _)); exact BK293.out⟩, ⟨by (with_reducible repeat (first | refine blk_drewN ?_ _ | refine blk_drew ?_ | refine blk_alloc ?_ _)); exact BK304.out⟩, ⟨by (with_reducible repeat (first | refine blk_drewN ?_ _ | refine blk_drew ?_ | refine blk_alloc ?_ _)); exact BK313.out⟩, ⟨by repeat (first | (with_reducible first | exact HB.out | apply below_alloc | apply pw_below_drewN | apply below_drew1 | refine below_set ?_ GE293.out | refine below_set ?_ GE304.out | refine below_set ?_ GE313.out) | exact HB.out)⟩⟩
      case rest =>
        clear HC20
        try clear c1
        try clear p2
        try clear c3
        try clear c4
        try clear c5
        try clear c5b0
        try clear c10
        try clear c10b0
        try clear c13
        try clear c30
        try clear c31
        try clear c33
        try clear c35
        try clear c38
        try clear c39
        try clear c41
        try clear c42
        try clear c43
        try clear c44
        try clear c46
        try clear c47
        try clear c48
        try clear c49
        try clear c50
        try clear c52
        try clear hcz12_0
        try clear hcz12_1
        try clear hcz22_0
        try clear hcz22_1
        try clear hcz24_0
        try clear hcz24_1
        try clear hcz31_0
        try clear hcz31_1
        try clear hcz33_0
        try clear hcz33_1
        try clear hcz40_0
        try clear hcz40_1
        try clear hcz45_0
        try clear hcz45_1
        try clear hcz47_0
        try clear hcz47_1
        try clear hcz51_0
        try clear hcz51_1
        try clear hcz53_0
        try clear hcz53_1
        try clear hcz7_0
        try clear hcz7_1
        try clear hfz12_0
        try clear hfz12_1
        try clear hfz22_0
        try clear hfz22_1
        try clear hfz24_0
        try clear hfz24_1
        try clear hfz31_0
        try clear hfz31_1
        try clear hfz33_0
        try clear hfz33_1
        try clear hfz40_0
        try clear hfz40_1
        try clear hfz45_0
        try clear hfz45_1
        try clear hfz47_0
        try clear hfz47_1
        try clear hfz51_0
        try clear hfz51_1
        try clear hfz53_0
        try clear hfz53_1
        try clear hfz7_0
        try clear hfz7_1
        obtain ⟨kq, x50_19, rfl, HA, HJ19, HO_10, BK293, BK304, BK313, HB⟩ := hcut
        cases kq with
        | zero => exact absurd HA.out (by simp [laws_FnExactFixedBlock.j0])
        | succ kj19 =>
          have H := HA.out
          clear HA
          simp only [laws_FnExactFixedBlock.j0] at H
          by_cases c55 : x50_19 = true
          · subst c55
            have H1 : (some false) = some r := by rw [if_pos rfl] at H; exact H
            clear H
            have H := H1
            clear H1
            obtain rfl := Option.some.inj H
            go_wp2
            go_ret
            exact ⟨by first | rfl | (simp [errW_none, errW_some] <;> rfl) | (simp [*, errW_none, errW_some] <;> rfl), by repeat (first | (with_reducible first | exact HB.out | apply below_alloc | apply pw_below_drewN | apply below_drew1 | refine below_set ?_ GE293.out | refine below_set ?_ GE304.out | refine below_set ?_ GE313.out) | exact HB.out)⟩
          · replace c55 := Bool.eq_false_iff.mpr c55
            subst c55
            have H1 : ((laws_toTokenS.f kj19 l1).bind fun t315 => ((laws_eqTokenS.f kj19 t305 t315).bind fun t318 => (if t318 = true then (some true) else (some false)))) = some r := by rw [if_neg (show ¬ (false = true) by decide)] at H; exact H
            clear H
            have H := H1
            clear H1
            replace H := Option.bind_eq_some_iff.mp H
            obtain ⟨t315, A560, H⟩ := H
            replace H : ((laws_eqTokenS.f kj19 t305 t315).bind fun t318 => (if t318 = true then (some true) else (some false))) = some r := H
            have A56 := Aside0.mk A560
            clear A560
            replace H := Option.bind_eq_some_iff.mp H
            obtain ⟨t318, A570, H⟩ := H
            replace H : (if t318 = true then (some true) else (some false)) = some r := H
            have A57 := Aside0.mk A570
            clear A570
            by_cases c58 : t318 = true
            · subst c58
              have H1 : (some true) = some r := by rw [if_pos rfl] at H; exact H
              clear H
              have H := H1
              clear H1
              obtain rfl := Option.some.inj H
              go_wp2_with (first | ((with_reducible refine gate_callee (f := 43) rfl ?_); refine goesL_ (some 53) rfl rfl Try.func43 (by kernel_rfl) rfl #[.slice A1 l1.length c1] rfl (by (try simp only [List.map_toArray, List.map_cons, List.map_nil]); first | done | rfl | (simp only [List.length_drop, List.length_take]; rfl)) ?_; (with_reducible refine (laws_toTokenS.calls kj19 _ _ l1 t315 _ ?side1 ?side2 A56.out).mono ?_); (case side1 => repeat (first | exact (Kd.C_below HR1.out HB.out) | (with_reducible refine Kd.C_alloc ?_ _) | (with_reducible refine Kd.C_drewN ?_ _) | (with_reducible refine Kd.C_drew ?_))); (case side2 => exact HC1.out); rintro e w59 ⟨v316, rfl, ho0, hb⟩; refine ⟨_, rfl, ?_⟩; have n0_ := Aside0.mk (Kd.R_elder' (by (with_reducible repeat (first | apply Kd.R_alloc | apply Kd.R_drewN | apply Kd.R_drew)); exact HO_10.out) (Kd.R_base ho0) hb); have n1_ := Aside0.mk (Kd.R_lower (Kd.R_new' ho0 (Kd.R_lt (by (with_reducible repeat (first | apply Kd.R_alloc | apply Kd.R_drewN | apply Kd.R_drew)); exact HO_10.out))) (below_size (by repeat (first | (with_reducible first | exact HB.out | apply below_alloc | apply pw_below_drewN | apply below_drew1 | refine below_set ?_ GE293.out | refine below_set ?_ GE304.out | refine below_set ?_ GE313.out) | exact HB.out)))); have n2_ := Aside0.mk (blk_below (g := gb293) (o := .cells #[.string a0_0, .int .i64 a0_1] 45 (0, 0)) (by (with_reducible repeat (first | refine blk_drewN ?_ _ | refine blk_drew ?_ | refine blk_alloc ?_ _)); exact BK293.out) hb); have n3_ := Aside0.mk (blk_below (g := gb304) (o := .cells #[.string t301, .int .i64 t302] 47 (0, 0)) (by (with_reducible repeat (first | refine blk_drewN ?_ _ | refine blk_drew ?_ | refine blk_alloc ?_ _)); exact BK304.out) hb); have n4_ := Aside0.mk (blk_below (g := gb313) (o := .cells #[.string t310, .int .i64 t311] 47 (0, 0)) (by (with_reducible repeat (first | refine blk_drewN ?_ _ | refine blk_drew ?_ | refine blk_alloc ?_ _)); exact BK313.out) hb); have n5_ := Aside0.mk (below_step (by repeat (first | (with_reducible first | exact HB.out | apply below_alloc | apply pw_below_drewN | apply below_drew1 | refine below_set ?_ GE293.out | refine below_set ?_ GE304.out | refine below_set ?_ GE313.out) | exact HB.out)) hb); clear HO_10; clear BK293; clear BK304; clear BK313; clear HB; have HO_10 := n0_; have HO317 := n1_; have BK293 := n2_; have BK304 := n3_; have BK313 := n4_; have HB := n5_; clear n0_ n1_ n2_ n3_ n4_ n5_; (try clear hb); (try clear hb2); (try clear hk); (try clear hi); (try clear ho0); obtain ⟨Ao60, co60, eo60⟩ := Kd.R_slice HO317.out; subst eo60) | ((with_reducible refine gate_callee (f := 45) rfl ?_); refine goesL_ (some 54) rfl rfl Try.func45 (by kernel_rfl) rfl #[.slice Ao35 t305.length co35, .slice Ao60 t315.length co60] rfl (by (try simp only [List.map_toArray, List.map_cons, List.map_nil]); first | done | rfl | (simp only [List.length_drop, List.length_take]; rfl)) ?_; (with_reducible refine (laws_eqTokenS.calls kj19 _ _ t305 _ _ t315 true _ ?side1 ?side2 ?side3 ?side4 A57.out).mono ?_); (case side1 => repeat (first | exact (Kd.R_reads' HO_10.out).2.2 | (with_reducible refine Kd.C_alloc ?_ _) | (with_reducible refine Kd.C_drewN ?_ _) | (with_reducible refine Kd.C_drew ?_))); (case side2 => exact (Kd.R_reads' HO_10.out).2.1); (case side3 => repeat (first | exact (Kd.R_reads' HO317.out).2.2 | (with_reducible refine Kd.C_alloc ?_ _) | (with_reducible refine Kd.C_drewN ?_ _) | (with_reducible refine Kd.C_drew ?_))); (case side4 => exact (Kd.R_reads' HO317.out).2.1); rintro e w61 ⟨rfl, hb⟩; refine ⟨_, rfl, ?_⟩; have n0_ := Aside0.mk (Kd.R_below (by (with_reducible repeat (first | apply Kd.R_alloc | apply Kd.R_drewN | apply Kd.R_drew)); exact HO_10.out) hb); have n1_ := Aside0.mk (Kd.R_below (by (with_reducible repeat (first | apply Kd.R_alloc | apply Kd.R_drewN | apply Kd.R_drew)); exact HO317.out) hb); have n2_ := Aside0.mk (blk_below (g := gb293) (o := .cells #[.string a0_0, .int .i64 a0_1] 45 (0, 0)) (by (with_reducible repeat (first | refine blk_drewN ?_ _ | refine blk_drew ?_ | refine blk_alloc ?_ _)); exact BK293.out) hb); have n3_ := Aside0.mk (blk_below (g := gb304) (o := .cells #[.string t301, .int .i64 t302] 47 (0, 0)) (by (with_reducible repeat (first | refine blk_drewN ?_ _ | refine blk_drew ?_ | refine blk_alloc ?_ _)); exact BK304.out) hb); have n4_ := Aside0.mk (blk_below (g := gb313) (o := .cells #[.string t310, .int .i64 t311] 47 (0, 0)) (by (with_reducible repeat (first | refine blk_drewN ?_ _ | refine blk_drew ?_ | refine blk_alloc ?_ _)); exact BK313.out) hb); have n5_ := Aside0.mk (below_step (by repeat (first | (with_reducible first | exact HB.out | apply below_alloc | apply pw_below_drewN | apply below_drew1 | refine below_set ?_ GE293.out | refine below_set ?_ GE304.out | refine below_set ?_ GE313.out) | exact HB.out)) hb); clear HO_10; clear HO317; clear BK293; clear BK304; clear BK313; clear HB; have HO_10 := n0_; have HO317 := n1_; have BK293 := n2_; have BK304 := n3_; have BK313 := n4_; have HB := n5_; clear n0_ n1_ n2_ n3_ n4_ n5_; (try clear hb); (try clear hb2); (try clear hk); (try clear hi)))
              go_ret
              exact ⟨by first | rfl | (simp [errW_none, errW_some] <;> rfl) | (simp [*, errW_none, errW_some] <;> rfl), by repeat (first | (with_reducible first | exact HB.out | apply below_alloc | apply pw_below_drewN | apply below_drew1 | refine below_set ?_ GE293.out | refine below_set ?_ GE304.out | refine below_set ?_ GE313.out) | exact HB.out)⟩
            · replace c58 := Bool.eq_false_iff.mpr c58
              subst c58
              have H1 : (some false) = some r := by rw [if_neg (show ¬ (false = true) by decide)] at H; exact H
              clear H
              have H := H1
              clear H1
              obtain rfl := Option.some.inj H
              go_wp2_with (first | ((with_reducible refine gate_callee (f := 43) rfl ?_); refine goesL_ (some 53) rfl rfl Try.func43 (by kernel_rfl) rfl #[.slice A1 l1.length c1] rfl (by (try simp only [List.map_toArray, List.map_cons, List.map_nil]); first | done | rfl | (simp only [List.length_drop, List.length_take]; rfl)) ?_; (with_reducible refine (laws_toTokenS.calls kj19 _ _ l1 t315 _ ?side1 ?side2 A56.out).mono ?_); (case side1 => repeat (first | exact (Kd.C_below HR1.out HB.out) | (with_reducible refine Kd.C_alloc ?_ _) | (with_reducible refine Kd.C_drewN ?_ _) | (with_reducible refine Kd.C_drew ?_))); (case side2 => exact HC1.out); rintro e w62 ⟨v316, rfl, ho0, hb⟩; refine ⟨_, rfl, ?_⟩; have n0_ := Aside0.mk (Kd.R_elder' (by (with_reducible repeat (first | apply Kd.R_alloc | apply Kd.R_drewN | apply Kd.R_drew)); exact HO_10.out) (Kd.R_base ho0) hb); have n1_ := Aside0.mk (Kd.R_lower (Kd.R_new' ho0 (Kd.R_lt (by (with_reducible repeat (first | apply Kd.R_alloc | apply Kd.R_drewN | apply Kd.R_drew)); exact HO_10.out))) (below_size (by repeat (first | (with_reducible first | exact HB.out | apply below_alloc | apply pw_below_drewN | apply below_drew1 | refine below_set ?_ GE293.out | refine below_set ?_ GE304.out | refine below_set ?_ GE313.out) | exact HB.out)))); have n2_ := Aside0.mk (blk_below (g := gb293) (o := .cells #[.string a0_0, .int .i64 a0_1] 45 (0, 0)) (by (with_reducible repeat (first | refine blk_drewN ?_ _ | refine blk_drew ?_ | refine blk_alloc ?_ _)); exact BK293.out) hb); have n3_ := Aside0.mk (blk_below (g := gb304) (o := .cells #[.string t301, .int .i64 t302] 47 (0, 0)) (by (with_reducible repeat (first | refine blk_drewN ?_ _ | refine blk_drew ?_ | refine blk_alloc ?_ _)); exact BK304.out) hb); have n4_ := Aside0.mk (blk_below (g := gb313) (o := .cells #[.string t310, .int .i64 t311] 47 (0, 0)) (by (with_reducible repeat (first | refine blk_drewN ?_ _ | refine blk_drew ?_ | refine blk_alloc ?_ _)); exact BK313.out) hb); have n5_ := Aside0.mk (below_step (by repeat (first | (with_reducible first | exact HB.out | apply below_alloc | apply pw_below_drewN | apply below_drew1 | refine below_set ?_ GE293.out | refine below_set ?_ GE304.out | refine below_set ?_ GE313.out) | exact HB.out)) hb); clear HO_10; clear BK293; clear BK304; clear BK313; clear HB; have HO_10 := n0_; have HO317 := n1_; have BK293 := n2_; have BK304 := n3_; have BK313 := n4_; have HB := n5_; clear n0_ n1_ n2_ n3_ n4_ n5_; (try clear hb); (try clear hb2); (try clear hk); (try clear hi); (try clear ho0); obtain ⟨Ao63, co63, eo63⟩ := Kd.R_slice HO317.out; subst eo63) | ((with_reducible refine gate_callee (f := 45) rfl ?_); refine goesL_ (some 54) rfl rfl Try.func45 (by kernel_rfl) rfl #[.slice Ao35 t305.length co35, .slice Ao63 t315.length co63] rfl (by (try simp only [List.map_toArray, List.map_cons, List.map_nil]); first | done | rfl | (simp only [List.length_drop, List.length_take]; rfl)) ?_; (with_reducible refine (laws_eqTokenS.calls kj19 _ _ t305 _ _ t315 false _ ?side1 ?side2 ?side3 ?side4 A57.out).mono ?_); (case side1 => repeat (first | exact (Kd.R_reads' HO_10.out).2.2 | (with_reducible refine Kd.C_alloc ?_ _) | (with_reducible refine Kd.C_drewN ?_ _) | (with_reducible refine Kd.C_drew ?_))); (case side2 => exact (Kd.R_reads' HO_10.out).2.1); (case side3 => repeat (first | exact (Kd.R_reads' HO317.out).2.2 | (with_reducible refine Kd.C_alloc ?_ _) | (with_reducible refine Kd.C_drewN ?_ _) | (with_reducible refine Kd.C_drew ?_))); (case side4 => exact (Kd.R_reads' HO317.out).2.1); rintro e w64 ⟨rfl, hb⟩; refine ⟨_, rfl, ?_⟩; have n0_ := Aside0.mk (Kd.R_below (by (with_reducible repeat (first | apply Kd.R_alloc | apply Kd.R_drewN | apply Kd.R_drew)); exact HO_10.out) hb); have n1_ := Aside0.mk (Kd.R_below (by (with_reducible repeat (first | apply Kd.R_alloc | apply Kd.R_drewN | apply Kd.R_drew)); exact HO317.out) hb); have n2_ := Aside0.mk (blk_below (g := gb293) (o := .cells #[.string a0_0, .int .i64 a0_1] 45 (0, 0)) (by (with_reducible repeat (first | refine blk_drewN ?_ _ | refine blk_drew ?_ | refine blk_alloc ?_ _)); exact BK293.out) hb); have n3_ := Aside0.mk (blk_below (g := gb304) (o := .cells #[.string t301, .int .i64 t302] 47 (0, 0)) (by (with_reducible repeat (first | refine blk_drewN ?_ _ | refine blk_drew ?_ | refine blk_alloc ?_ _)); exact BK304.out) hb); have n4_ := Aside0.mk (blk_below (g := gb313) (o := .cells #[.string t310, .int .i64 t311] 47 (0, 0)) (by (with_reducible repeat (first | refine blk_drewN ?_ _ | refine blk_drew ?_ | refine blk_alloc ?_ _)); exact BK313.out) hb); have n5_ := Aside0.mk (below_step (by repeat (first | (with_reducible first | exact HB.out | apply below_alloc | apply pw_below_drewN | apply below_drew1 | refine below_set ?_ GE293.out | refine below_set ?_ GE304.out | refine below_set ?_ GE313.out) | exact HB.out)) hb); clear HO_10; clear HO317; clear BK293; clear BK304; clear BK313; clear HB; have HO_10 := n0_; have HO317 := n1_; have BK293 := n2_; have BK304 := n3_; have BK313 := n4_; have HB := n5_; clear n0_ n1_ n2_ n3_ n4_ n5_; (try clear hb); (try clear hb2); (try clear hk); (try clear hi)))
              go_ret
              exact ⟨by first | rfl | (simp [errW_none, errW_some] <;> rfl) | (simp [*, errW_none, errW_some] <;> rfl), by repeat (first | (with_reducible first | exact HB.out | apply below_alloc | apply pw_below_drewN | apply below_drew1 | refine below_set ?_ GE293.out | refine below_set ?_ GE304.out | refine below_set ?_ GE313.out) | exact HB.out)⟩

/-- THE ONE PURE STATEMENT of laws_FnExactFixedBlock: yours. -/
def laws_FnExactFixedBlock.Pure : Prop := ∀ (a0_0 : ByteArray) (a0_1 : Int) (l1 : List (S112)) (a2 : Bool), a0_0.size ≤ maxLen → (Lit.int .i64 a0_1).wf = true → l1.length ≤ maxLen → (∀ x ∈ l1, (Lit.int .i64 x.f0).wf = true ∧ (Lit.int .i64 x.f1).wf = true ∧ (Lit.int .i64 x.f2).wf = true) → ∃ k, laws_FnExactFixedBlock.f k a0_0 a0_1 l1 a2 = some true
theorem laws_FnExactFixedBlock.walk (P : laws_FnExactFixedBlock.Pure) (w : World) (a0_0 : ByteArray) (a0_1 : Int) (A1 : Option Addr) (c1 : Nat) (l1 : List (S112)) (a2 : Bool) (w0_0 : a0_0.size ≤ maxLen) (w0_1 : (Lit.int .i64 a0_1).wf = true) (hr1 : Kd.C k112 w A1 l1.length l1) (hc1 : l1.length ≤ c1) (hm1 : l1.length ≤ maxLen) (hw1 : ∀ x ∈ l1, (Lit.int .i64 x.f0).wf = true ∧ (Lit.int .i64 x.f1).wf = true ∧ (Lit.int .i64 x.f2).wf = true) :
    Calls Try.prog 13 #[.agg #[.string a0_0, .int .i64 a0_1], .slice A1 l1.length c1, .bool a2] w fun e w' => e = .returned (.bool true) ∧ Below w.heap.size w w' := by
  obtain ⟨k, h⟩ := P a0_0 a0_1 l1 a2 w0_0 w0_1 hm1 hw1
  refine (laws_FnExactFixedBlock.calls k a0_0 a0_1 A1 c1 l1 a2 true w hr1 hc1 h).mono ?_
  rintro e w' ⟨rfl, hd⟩
  exact ⟨rfl, hd⟩

end Go.Proofs.Ytimomemkbcidnaa.PFnExactFixedBlock
