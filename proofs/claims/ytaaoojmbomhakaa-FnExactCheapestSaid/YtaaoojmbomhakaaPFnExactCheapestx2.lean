-- Written by a program of this session (a changed print); Lean checks it.
import Derived.Test.YtaaoojmbomhakaaPFnExactCheapestx0
import Derived.Test.YtaaoojmbomhakaaPFnExactCheapestx1
namespace Go.Proofs.Ytaaoojmbomhakaa.PFnExactCheapest
open Go.RowKit Go.Proofs.YtaaoojmbomhakaaW.PrintWords Go.Proofs.YtaaoojmbomhakaaW.PrintLast Go.Proofs.YtaaoojmbomhakaaW.PrintMore
attribute [local go_sem] max2_int min2_int max_two min_two max_three min_three max_four min_four   -- for this text's walks alone
set_option linter.unusedVariables false
set_option linter.unusedSimpArgs false

/-! ### spec_l07Three: function 26 -/
def spec_l07Three.l0 : Nat → ByteArray → Int → Int → Int → Option (Bool)
  | 0, _, _, _, _ => none
  | k + 1, x0, x1, x2, x7 => if x7 < 3 then (if (wrap64 (x2 + x7)) ≥ (x0.size : Int) then (some false) else (if 0 ≤ (wrap64 (x1 + x7)) then (if (wrap64 (x1 + x7)) < (x0.size : Int) then (if 0 ≤ (wrap64 (x2 + x7)) then (if (wrap64 (x2 + x7)) < (x0.size : Int) then (if (bt x0 (wrap64 (x1 + x7))) = (bt x0 (wrap64 (x2 + x7))) then (spec_l07Three.l0 k x0 x1 x2 (wrap64 (x7 + 1))) else (some false)) else (none)) else (none)) else (none)) else (none))) else (some true)
def spec_l07Three.f (k : Nat) (a0 : ByteArray) (a1 : Int) (a2 : Int) : Option (Bool) := spec_l07Three.l0 k a0 a1 a2 0
theorem spec_l07Three.mono_l : ∀ k, (∀ y0 y1 y2 y3, LeO (spec_l07Three.l0 k y0 y1 y2 y3) (spec_l07Three.l0 (k + 1) y0 y1 y2 y3))
  | 0 => fun _ _ _ _ r h => by simp [spec_l07Three.l0] at h
  | k + 1 => by
    have ih0 := spec_l07Three.mono_l k
    · intro y0 y1 y2 y3
      unfold spec_l07Three.l0
      repeat' first
      | (with_reducible exact ih0 _ _ _ _)
      | (with_reducible exact LeO.refl _)
      | (with_reducible exact LeO.none _)
      | (with_reducible refine LeO.ite ?_ ?_)
      | (with_reducible refine LeO.bind ?_ (fun _ => ?_))
      | exact ih0 _ _ _ _
      | exact LeO.none _
      | refine LeO.ite ?_ ?_
      | refine LeO.bind ?_ (fun _ => ?_)
theorem spec_l07Three.mono : ∀ a0 a1 a2 k, LeO (spec_l07Three.f k a0 a1 a2) (spec_l07Three.f (k + 1) a0 a1 a2) := by
  intro a0 a1 a2 k
  have ih0 := spec_l07Three.mono_l k
  unfold spec_l07Three.f
  repeat' first
      | (with_reducible exact ih0 _ _ _ _)
      | (with_reducible exact LeO.refl _)
      | (with_reducible exact LeO.none _)
      | (with_reducible refine LeO.ite ?_ ?_)
      | (with_reducible refine LeO.bind ?_ (fun _ => ?_))
      | exact ih0 _ _ _ _
      | exact LeO.none _
      | refine LeO.ite ?_ ?_
      | refine LeO.bind ?_ (fun _ => ?_)
set_option maxHeartbeats 8000000 in
set_option maxRecDepth 100000 in
theorem spec_l07Three.calls (k : Nat) (a0 : ByteArray) (a1 : Int) (a2 : Int) (r : Bool) (w : World) (h : spec_l07Three.f k a0 a1 a2 = some r) :
    Calls Try.prog 26 #[.string a0, .int .i64 a1, .int .i64 a2] w fun e w' => e = .returned (.bool r) ∧ Drawn0 w w' := by
  have H : (spec_l07Three.l0 k a0 a1 a2 0) = some r := h
  clear h
  have H' := Aside0.mk H
  clear H
  go_enter Try.func26, Try.ntmps26
  go_wp2
  repeat (go_quiet (fail); try go_wp2)
  go_loopg [7] k (fun kq v7 w' => ∃ (x7_1 : Int), v7 = .int .i64 x7_1 ∧ Aside0 (spec_l07Three.l0 kq a0 a1 a2 x7_1 = some r) ∧ Aside0 (kq ≤ k) ∧ Drawn0 w w')
  case atStart => exact ⟨(0), (by first | rfl | (simp; done) | (simp [*]; done)), H', ⟨Nat.le_refl _⟩, by repeat (first | exact Drawn0.refl _ | apply Drawn0.step)⟩
  case round =>
    clear H'
    try clear c2
    try clear p2
    obtain ⟨x7_1, rfl, HA, HK1, ⟨m1, rfl⟩⟩ := hrel
    cases gk with
    | zero => exact absurd HA.out (by simp [spec_l07Three.l0])
    | succ k1 =>
      have H := HA.out
      clear HA
      simp only [spec_l07Three.l0] at H
      by_cases c4 : x7_1 < 3
      · rw [if_pos c4] at H
        have c4b0 : decide (x7_1 < 3) = true := decide_eq_true c4
        clear c4
        by_cases c5 : (wrap64 (a2 + x7_1)) ≥ (a0.size : Int)
        · rw [if_pos c5] at H
          have c5b0 : decide ((a0.size : Int) ≤ (wrap64 (a2 + x7_1))) = true := decide_eq_true c5
          clear c5
          obtain rfl := Option.some.inj H
          go_wp2
          repeat (go_quiet (fail); try go_wp2)
          go_ret
          exact ⟨by first | rfl | (simp; done) | (simp [*]; done), by repeat (first | exact Drawn0.refl _ | apply Drawn0.step)⟩
        · rw [if_neg c5] at H
          have c5b0 : decide ((a0.size : Int) ≤ (wrap64 (a2 + x7_1))) = false := decide_eq_false c5
          clear c5
          obtain ⟨ji6, hji6⟩ : ∃ j_ : Int, (wrap64 (a1 + x7_1)) = j_ := ⟨_, rfl⟩
          replace H : (if 0 ≤ (ji6) then (if (ji6) < (a0.size : Int) then (if 0 ≤ (wrap64 (a2 + x7_1)) then (if (wrap64 (a2 + x7_1)) < (a0.size : Int) then (if (bt a0 (ji6)) = (bt a0 (wrap64 (a2 + x7_1))) then (spec_l07Three.l0 k1 a0 a1 a2 (wrap64 (x7_1 + 1))) else (some false)) else (none)) else (none)) else (none)) else (none)) = some r := by first | (rw [hji6] at H; exact H) | (simp only [hji6] at H ⊢; exact H)
          have hji6w : (IntKind.i64.wrap (a1 + x7_1)) = ji6 := (i64_w _).trans hji6
          by_cases c7 : 0 ≤ (ji6)
          · rw [if_pos c7] at H
            have c7b0 : decide (0 ≤ (ji6)) = true := decide_eq_true c7
            clear c7
            by_cases c8 : (ji6) < (a0.size : Int)
            · rw [if_pos c8] at H
              have c8b0 : decide ((ji6) < (a0.size : Int)) = true := decide_eq_true c8
              clear c8
              obtain ⟨ji10, hji10⟩ : ∃ j_ : Int, (wrap64 (a2 + x7_1)) = j_ := ⟨_, rfl⟩
              replace H : (if 0 ≤ (ji10) then (if (ji10) < (a0.size : Int) then (if (bt a0 (ji6)) = (bt a0 (ji10)) then (spec_l07Three.l0 k1 a0 a1 a2 (wrap64 (x7_1 + 1))) else (some false)) else (none)) else (none)) = some r := by first | (rw [hji10] at H; exact H) | (simp only [hji10] at H ⊢; exact H)
              (try rw [hji10] at c5b0)
              have hji10w : (IntKind.i64.wrap (a2 + x7_1)) = ji10 := (i64_w _).trans hji10
              by_cases c11 : 0 ≤ (ji10)
              · rw [if_pos c11] at H
                have c11b0 : decide (0 ≤ (ji10)) = true := decide_eq_true c11
                clear c11
                by_cases c12 : (ji10) < (a0.size : Int)
                · rw [if_pos c12] at H
                  have c12b0 : decide ((ji10) < (a0.size : Int)) = true := decide_eq_true c12
                  clear c12
                  by_cases c14 : (bt a0 (ji6)) = (bt a0 (ji10))
                  · rw [if_pos c14] at H
                    have c14b0 : ((bt a0 (ji6)) == (bt a0 (ji10))) = true := beq_iff_eq.mpr c14
                    have c14b1 : ((bt a0 (ji6)) != (bt a0 (ji10))) = false := bne_eq_false_iff_eq.mpr c14
                    clear c14
                    have H' := Aside0.mk H
                    clear H
                    have p9 : 0 ≤ ((ji6) : Int) := of_decide_eq_true (by first | (with_reducible assumption) | assumption)
                    have q9 : (ji6) < (a0.size : Int) := of_decide_eq_true (by first | (with_reducible assumption) | assumption)
                    have hx9 := bt_at a0 (ji6)
                    replace p9 := eq_true p9
                    replace q9 := eq_true q9
                    have p13 : 0 ≤ ((ji10) : Int) := of_decide_eq_true (by first | (with_reducible assumption) | assumption)
                    have q13 : (ji10) < (a0.size : Int) := of_decide_eq_true (by first | (with_reducible assumption) | assumption)
                    have hx13 := bt_at a0 (ji10)
                    replace p13 := eq_true p13
                    replace q13 := eq_true q13
                    go_wp2
                    repeat (go_quiet (fail); try go_wp2)
                    go_roundg k1
                    case measure => have := HK1.out; omega
                    case rel => exact ⟨(wrap64 (x7_1 + 1)), (by first | rfl | (simp; done) | (simp [*]; done)), H', ⟨by have := HK1.out; omega⟩, by repeat (first | exact Drawn0.refl _ | apply Drawn0.step)⟩
                  · rw [if_neg c14] at H
                    have c14b0 : ((bt a0 (ji6)) == (bt a0 (ji10))) = false := beq_eq_false_iff_ne.mpr c14
                    have c14b1 : ((bt a0 (ji6)) != (bt a0 (ji10))) = true := bne_iff_ne.mpr c14
                    obtain rfl := Option.some.inj H
                    have p9 : 0 ≤ ((ji6) : Int) := of_decide_eq_true (by first | (with_reducible assumption) | assumption)
                    have q9 : (ji6) < (a0.size : Int) := of_decide_eq_true (by first | (with_reducible assumption) | assumption)
                    have hx9 := bt_at a0 (ji6)
                    replace p9 := eq_true p9
                    replace q9 := eq_true q9
                    have p13 : 0 ≤ ((ji10) : Int) := of_decide_eq_true (by first | (with_reducible assumption) | assumption)
                    have q13 : (ji10) < (a0.size : Int) := of_decide_eq_true (by first | (with_reducible assumption) | assumption)
                    have hx13 := bt_at a0 (ji10)
                    replace p13 := eq_true p13
                    replace q13 := eq_true q13
                    go_wp2
                    repeat (go_quiet (fail); try go_wp2)
                    go_ret
                    exact ⟨by first | rfl | (simp; done) | (simp only [← hji6, ← hji10] <;> (first | rfl | simp)) | (simp [*]; done), by repeat (first | exact Drawn0.refl _ | apply Drawn0.step)⟩
                · rw [if_neg c12] at H
                  exact absurd H (by simp)
              · rw [if_neg c11] at H
                exact absurd H (by simp)
            · rw [if_neg c8] at H
              exact absurd H (by simp)
          · rw [if_neg c7] at H
            exact absurd H (by simp)
      · rw [if_neg c4] at H
        have c4b0 : decide (x7_1 < 3) = false := decide_eq_false c4
        clear c4
        obtain rfl := Option.some.inj H
        go_wp2
        repeat (go_quiet (fail); try go_wp2)
        go_ret
        exact ⟨by first | rfl | (simp; done) | (simp [*]; done), by repeat (first | exact Drawn0.refl _ | apply Drawn0.step)⟩

/-! ### spec_BestMatch: function 9 -/
mutual
def spec_BestMatch.j0 : Nat → ByteArray → Int → Int → Int → Int → Bool → Option (Int × Int)
  | 0, _, _, _, _, _, _ => none
  | k + 1, x0, x1, x2, x8, x9, x28 => if x28 = true then (some (0, 0)) else (spec_BestMatch.l0 k x0 x1 x2 x8 x9 0 (wrap64 (x1 - 1)))
def spec_BestMatch.l0 : Nat → ByteArray → Int → Int → Int → Int → Int → Int → Option (Int × Int)
  | 0, _, _, _, _, _, _, _ => none
  | k + 1, x0, x1, x2, x8, x9, x10, x11 => if x11 ≥ 0 then (spec_BestMatch.j2 k x0 x1 x2 x8 x9 x10 x11 (decide (x10 < x2))) else (spec_BestMatch.j2 k x0 x1 x2 x8 x9 x10 x11 false)
def spec_BestMatch.j2 : Nat → ByteArray → Int → Int → Int → Int → Int → Int → Bool → Option (Int × Int)
  | 0, _, _, _, _, _, _, _, _ => none
  | k + 1, x0, x1, x2, x8, x9, x10, x11, x37 => if x37 = true then ((spec_l07Three.f k x0 x11 x1).bind fun t114 => (if t114 = true then (spec_BestMatch.l1 k x0 x1 x2 x8 x9 (wrap64 (x10 + 1)) x11 0) else (spec_BestMatch.l0 k x0 x1 x2 x8 x9 x10 (wrap64 (x11 - 1))))) else (some (x8, x9))
def spec_BestMatch.l1 : Nat → ByteArray → Int → Int → Int → Int → Int → Int → Int → Option (Int × Int)
  | 0, _, _, _, _, _, _, _, _ => none
  | k + 1, x0, x1, x2, x8, x9, x10, x11, x12 => if x12 < 258 then (if (wrap64 (x1 + x12)) < (x0.size : Int) then (if 0 ≤ (wrap64 (x11 + x12)) then (if (wrap64 (x11 + x12)) < (x0.size : Int) then (if 0 ≤ (wrap64 (x1 + x12)) then (if (bt x0 (wrap64 (x11 + x12))) = (bt x0 (wrap64 (x1 + x12))) then (spec_BestMatch.l1 k x0 x1 x2 x8 x9 x10 x11 (wrap64 (x12 + 1))) else (if x12 > x8 then (spec_BestMatch.l0 k x0 x1 x2 x12 (wrap64 (x1 - x11)) x10 (wrap64 (x11 - 1))) else (spec_BestMatch.l0 k x0 x1 x2 x8 x9 x10 (wrap64 (x11 - 1))))) else (none)) else (none)) else (none)) else (if x12 > x8 then (spec_BestMatch.l0 k x0 x1 x2 x12 (wrap64 (x1 - x11)) x10 (wrap64 (x11 - 1))) else (spec_BestMatch.l0 k x0 x1 x2 x8 x9 x10 (wrap64 (x11 - 1))))) else (if x12 > x8 then (spec_BestMatch.l0 k x0 x1 x2 x12 (wrap64 (x1 - x11)) x10 (wrap64 (x11 - 1))) else (spec_BestMatch.l0 k x0 x1 x2 x8 x9 x10 (wrap64 (x11 - 1))))
end
def spec_BestMatch.f (k : Nat) (a0 : ByteArray) (a1 : Int) (a2 : Int) : Option (Int × Int) := if (a0.size : Int) > 2600 then (spec_BestMatch.j0 k a0 a1 a2 0 0 true) else ((spec_l01In.f a1 0 (wrap64 ((a0.size : Int) - 1))).bind fun t112 => (if t112 = true then ((spec_l01In.f a2 1 64).bind fun t113 => (spec_BestMatch.j0 k a0 a1 a2 0 0 (!t113))) else (spec_BestMatch.j0 k a0 a1 a2 0 0 true)))
theorem spec_BestMatch.mono_l : ∀ k, (∀ y0 y1 y2 y3 y4 y5, LeO (spec_BestMatch.j0 k y0 y1 y2 y3 y4 y5) (spec_BestMatch.j0 (k + 1) y0 y1 y2 y3 y4 y5)) ∧ (∀ y0 y1 y2 y3 y4 y5 y6, LeO (spec_BestMatch.l0 k y0 y1 y2 y3 y4 y5 y6) (spec_BestMatch.l0 (k + 1) y0 y1 y2 y3 y4 y5 y6)) ∧ (∀ y0 y1 y2 y3 y4 y5 y6 y7, LeO (spec_BestMatch.j2 k y0 y1 y2 y3 y4 y5 y6 y7) (spec_BestMatch.j2 (k + 1) y0 y1 y2 y3 y4 y5 y6 y7)) ∧ (∀ y0 y1 y2 y3 y4 y5 y6 y7, LeO (spec_BestMatch.l1 k y0 y1 y2 y3 y4 y5 y6 y7) (spec_BestMatch.l1 (k + 1) y0 y1 y2 y3 y4 y5 y6 y7))
  | 0 => ⟨fun _ _ _ _ _ _ r h => by simp [spec_BestMatch.j0] at h, fun _ _ _ _ _ _ _ r h => by simp [spec_BestMatch.l0] at h, fun _ _ _ _ _ _ _ _ r h => by simp [spec_BestMatch.j2] at h, fun _ _ _ _ _ _ _ _ r h => by simp [spec_BestMatch.l1] at h⟩
  | k + 1 => by
    obtain ⟨ih0, ih1, ih2, ih3⟩ := spec_BestMatch.mono_l k
    refine ⟨?_, ?_, ?_, ?_⟩
    · intro y0 y1 y2 y3 y4 y5
      unfold spec_BestMatch.j0
      repeat' first
      | (with_reducible exact ih0 _ _ _ _ _ _)
      | (with_reducible exact ih1 _ _ _ _ _ _ _)
      | (with_reducible exact ih2 _ _ _ _ _ _ _ _)
      | (with_reducible exact ih3 _ _ _ _ _ _ _ _)
      | (with_reducible exact spec_l07Three.mono _ _ _ _)
      | (with_reducible exact LeO.refl _)
      | (with_reducible exact LeO.none _)
      | (with_reducible refine LeO.ite ?_ ?_)
      | (with_reducible refine LeO.bind ?_ (fun _ => ?_))
      | exact ih0 _ _ _ _ _ _
      | exact ih1 _ _ _ _ _ _ _
      | exact ih2 _ _ _ _ _ _ _ _
      | exact ih3 _ _ _ _ _ _ _ _
      | exact spec_l07Three.mono _ _ _ _
      | exact LeO.none _
      | refine LeO.ite ?_ ?_
      | refine LeO.bind ?_ (fun _ => ?_)
    · intro y0 y1 y2 y3 y4 y5 y6
      unfold spec_BestMatch.l0
      repeat' first
      | (with_reducible exact ih0 _ _ _ _ _ _)
      | (with_reducible exact ih1 _ _ _ _ _ _ _)
      | (with_reducible exact ih2 _ _ _ _ _ _ _ _)
      | (with_reducible exact ih3 _ _ _ _ _ _ _ _)
      | (with_reducible exact spec_l07Three.mono _ _ _ _)
      | (with_reducible exact LeO.refl _)
      | (with_reducible exact LeO.none _)
      | (with_reducible refine LeO.ite ?_ ?_)
      | (with_reducible refine LeO.bind ?_ (fun _ => ?_))
      | exact ih0 _ _ _ _ _ _
      | exact ih1 _ _ _ _ _ _ _
      | exact ih2 _ _ _ _ _ _ _ _
      | exact ih3 _ _ _ _ _ _ _ _
      | exact spec_l07Three.mono _ _ _ _
      | exact LeO.none _
      | refine LeO.ite ?_ ?_
      | refine LeO.bind ?_ (fun _ => ?_)
    · intro y0 y1 y2 y3 y4 y5 y6 y7
      unfold spec_BestMatch.j2
      repeat' first
      | (with_reducible exact ih0 _ _ _ _ _ _)
      | (with_reducible exact ih1 _ _ _ _ _ _ _)
      | (with_reducible exact ih2 _ _ _ _ _ _ _ _)
      | (with_reducible exact ih3 _ _ _ _ _ _ _ _)
      | (with_reducible exact spec_l07Three.mono _ _ _ _)
      | (with_reducible exact LeO.refl _)
      | (with_reducible exact LeO.none _)
      | (with_reducible refine LeO.ite ?_ ?_)
      | (with_reducible refine LeO.bind ?_ (fun _ => ?_))
      | exact ih0 _ _ _ _ _ _
      | exact ih1 _ _ _ _ _ _ _
      | exact ih2 _ _ _ _ _ _ _ _
      | exact ih3 _ _ _ _ _ _ _ _
      | exact spec_l07Three.mono _ _ _ _
      | exact LeO.none _
      | refine LeO.ite ?_ ?_
      | refine LeO.bind ?_ (fun _ => ?_)
    · intro y0 y1 y2 y3 y4 y5 y6 y7
      unfold spec_BestMatch.l1
      repeat' first
      | (with_reducible exact ih0 _ _ _ _ _ _)
      | (with_reducible exact ih1 _ _ _ _ _ _ _)
      | (with_reducible exact ih2 _ _ _ _ _ _ _ _)
      | (with_reducible exact ih3 _ _ _ _ _ _ _ _)
      | (with_reducible exact spec_l07Three.mono _ _ _ _)
      | (with_reducible exact LeO.refl _)
      | (with_reducible exact LeO.none _)
      | (with_reducible refine LeO.ite ?_ ?_)
      | (with_reducible refine LeO.bind ?_ (fun _ => ?_))
      | exact ih0 _ _ _ _ _ _
      | exact ih1 _ _ _ _ _ _ _
      | exact ih2 _ _ _ _ _ _ _ _
      | exact ih3 _ _ _ _ _ _ _ _
      | exact spec_l07Three.mono _ _ _ _
      | exact LeO.none _
      | refine LeO.ite ?_ ?_
      | refine LeO.bind ?_ (fun _ => ?_)
theorem spec_BestMatch.mono : ∀ a0 a1 a2 k, LeO (spec_BestMatch.f k a0 a1 a2) (spec_BestMatch.f (k + 1) a0 a1 a2) := by
  intro a0 a1 a2 k
  obtain ⟨ih0, ih1, ih2, ih3⟩ := spec_BestMatch.mono_l k
  unfold spec_BestMatch.f
  repeat' first
      | (with_reducible exact ih0 _ _ _ _ _ _)
      | (with_reducible exact ih1 _ _ _ _ _ _ _)
      | (with_reducible exact ih2 _ _ _ _ _ _ _ _)
      | (with_reducible exact ih3 _ _ _ _ _ _ _ _)
      | (with_reducible exact spec_l07Three.mono _ _ _ _)
      | (with_reducible exact LeO.refl _)
      | (with_reducible exact LeO.none _)
      | (with_reducible refine LeO.ite ?_ ?_)
      | (with_reducible refine LeO.bind ?_ (fun _ => ?_))
      | exact ih0 _ _ _ _ _ _
      | exact ih1 _ _ _ _ _ _ _
      | exact ih2 _ _ _ _ _ _ _ _
      | exact ih3 _ _ _ _ _ _ _ _
      | exact spec_l07Three.mono _ _ _ _
      | exact LeO.none _
      | refine LeO.ite ?_ ?_
      | refine LeO.bind ?_ (fun _ => ?_)
set_option maxHeartbeats 8000000 in
set_option maxRecDepth 100000 in
theorem spec_BestMatch.calls (k : Nat) (a0 : ByteArray) (a1 : Int) (a2 : Int) (r1 : Int) (r2 : Int) (w : World) (h : spec_BestMatch.f k a0 a1 a2 = some (r1, r2)) :
    Calls Try.prog 9 #[.string a0, .int .i64 a1, .int .i64 a2] w fun e w' => e = .returned (.tuple #[.int .i64 r1, .int .i64 r2]) ∧ Drawn0 w w' := by
  have H : (if (a0.size : Int) > 2600 then (spec_BestMatch.j0 k a0 a1 a2 0 0 true) else ((spec_l01In.f a1 0 (wrap64 ((a0.size : Int) - 1))).bind fun t112 => (if t112 = true then ((spec_l01In.f a2 1 64).bind fun t113 => (spec_BestMatch.j0 k a0 a1 a2 0 0 (!t113))) else (spec_BestMatch.j0 k a0 a1 a2 0 0 true)))) = some (r1, r2) := h
  clear h
  have HC4 := Aside0.mk H
  clear H
  go_enter Try.func9, Try.ntmps9
  go_upto_region 3 with (fail)
  repeat (go_quiet (fail); go_upto_region 3 with (fail))
  go_cut [28] (fun v28 wc => ∃ (kq : Nat) (x28_3 : Bool), v28 = .bool x28_3 ∧ Aside0 (spec_BestMatch.j0 kq a0 a1 a2 0 0 x28_3 = some (r1, r2)) ∧ Aside0 (kq ≤ k) ∧ Drawn0 w wc)
  case first =>
    have H := HC4.out
    clear HC4
    by_cases c5 : (a0.size : Int) > 2600
    · rw [if_pos c5] at H
      have c5b0 : decide (2600 < (a0.size : Int)) = true := decide_eq_true c5
      have c5b1 : decide (2600 < a0.size) = true := decide_eq_true (by omega)
      clear c5
      (first | rw [c5b0] | (simp only [i64_w, i32_w]; rw [c5b0]) | skip)
      have H' := Aside0.mk H
      clear H
      go_wp2
      repeat (go_quiet (fail); try go_wp2)
      go_meet
      case rel => exact ⟨_, (true), (by first | rfl | (simp; done) | (simp [*]; done)), H', ⟨by first | omega | exact Nat.le_refl _⟩, by repeat (first | exact Drawn0.refl _ | apply Drawn0.step)⟩
    · rw [if_neg c5] at H
      have c5b0 : decide (2600 < (a0.size : Int)) = false := decide_eq_false c5
      have c5b1 : decide (2600 < a0.size) = false := decide_eq_false (by omega)
      clear c5
      (first | rw [c5b0] | (simp only [i64_w, i32_w]; rw [c5b0]) | skip)
      replace H := Option.bind_eq_some_iff.mp H
      obtain ⟨t112, A60, H⟩ := H
      replace H : (if t112 = true then ((spec_l01In.f a2 1 64).bind fun t113 => (spec_BestMatch.j0 k a0 a1 a2 0 0 (!t113))) else (spec_BestMatch.j0 k a0 a1 a2 0 0 true)) = some (r1, r2) := H
      have A6 := Aside0.mk A60
      clear A60
      by_cases c7 : t112 = true
      · subst c7
        have H1 : ((spec_l01In.f a2 1 64).bind fun t113 => (spec_BestMatch.j0 k a0 a1 a2 0 0 (!t113))) = some (r1, r2) := by rw [if_pos rfl] at H; exact H
        clear H
        have H := H1
        clear H1
        replace H := Option.bind_eq_some_iff.mp H
        obtain ⟨t113, A80, H⟩ := H
        replace H : (spec_BestMatch.j0 k a0 a1 a2 0 0 (!t113)) = some (r1, r2) := H
        have A8 := Aside0.mk A80
        clear A80
        have H' := Aside0.mk H
        clear H
        go_wp2_with (first | (go_at_call 25; (with_reducible refine (spec_l01In.calls a1 0 (wrap64 ((a0.size : Int) - 1)) true _ A6.out).mono ?_); rintro e w' ⟨rfl, ⟨nd, rfl⟩⟩; (try first | exact ⟨rfl, _, World.drewN_drewN _ _ _⟩ | exact ⟨rfl, _, Eq.trans (World.drewN_drewN _ _ _) (congrArg (World.drewN _) (Nat.add_assoc _ _ _))⟩)) | (go_at_call 25; (with_reducible refine (spec_l01In.calls a2 1 64 t113 _ A8.out).mono ?_); rintro e w' ⟨rfl, ⟨nd, rfl⟩⟩; (try first | exact ⟨rfl, _, World.drewN_drewN _ _ _⟩ | exact ⟨rfl, _, Eq.trans (World.drewN_drewN _ _ _) (congrArg (World.drewN _) (Nat.add_assoc _ _ _))⟩)))
        repeat (go_quiet (first | (go_at_call 25; (with_reducible refine (spec_l01In.calls a1 0 (wrap64 ((a0.size : Int) - 1)) true _ A6.out).mono ?_); rintro e w' ⟨rfl, ⟨nd, rfl⟩⟩; (try first | exact ⟨rfl, _, World.drewN_drewN _ _ _⟩ | exact ⟨rfl, _, Eq.trans (World.drewN_drewN _ _ _) (congrArg (World.drewN _) (Nat.add_assoc _ _ _))⟩)) | (go_at_call 25; (with_reducible refine (spec_l01In.calls a2 1 64 t113 _ A8.out).mono ?_); rintro e w' ⟨rfl, ⟨nd, rfl⟩⟩; (try first | exact ⟨rfl, _, World.drewN_drewN _ _ _⟩ | exact ⟨rfl, _, Eq.trans (World.drewN_drewN _ _ _) (congrArg (World.drewN _) (Nat.add_assoc _ _ _))⟩))); try go_wp2_with (first | (go_at_call 25; (with_reducible refine (spec_l01In.calls a1 0 (wrap64 ((a0.size : Int) - 1)) true _ A6.out).mono ?_); rintro e w' ⟨rfl, ⟨nd, rfl⟩⟩; (try first | exact ⟨rfl, _, World.drewN_drewN _ _ _⟩ | exact ⟨rfl, _, Eq.trans (World.drewN_drewN _ _ _) (congrArg (World.drewN _) (Nat.add_assoc _ _ _))⟩)) | (go_at_call 25; (with_reducible refine (spec_l01In.calls a2 1 64 t113 _ A8.out).mono ?_); rintro e w' ⟨rfl, ⟨nd, rfl⟩⟩; (try first | exact ⟨rfl, _, World.drewN_drewN _ _ _⟩ | exact ⟨rfl, _, Eq.trans (World.drewN_drewN _ _ _) (congrArg (World.drewN _) (Nat.add_assoc _ _ _))⟩))))
        go_meet
        case rel => exact ⟨_, (!t113), (by first | rfl | (simp; done) | (simp [*]; done)), H', ⟨by first | omega | exact Nat.le_refl _⟩, by repeat (first | exact Drawn0.refl _ | apply Drawn0.step)⟩
      · replace c7 := Bool.eq_false_iff.mpr c7
        subst c7
        have H1 : (spec_BestMatch.j0 k a0 a1 a2 0 0 true) = some (r1, r2) := by rw [if_neg (show ¬ (false = true) by decide)] at H; exact H
        clear H
        have H := H1
        clear H1
        have H' := Aside0.mk H
        clear H
        go_wp2_with (first | (go_at_call 25; (with_reducible refine (spec_l01In.calls a1 0 (wrap64 ((a0.size : Int) - 1)) false _ A6.out).mono ?_); rintro e w' ⟨rfl, ⟨nd, rfl⟩⟩; (try first | exact ⟨rfl, _, World.drewN_drewN _ _ _⟩ | exact ⟨rfl, _, Eq.trans (World.drewN_drewN _ _ _) (congrArg (World.drewN _) (Nat.add_assoc _ _ _))⟩)))
        repeat (go_quiet (first | (go_at_call 25; (with_reducible refine (spec_l01In.calls a1 0 (wrap64 ((a0.size : Int) - 1)) false _ A6.out).mono ?_); rintro e w' ⟨rfl, ⟨nd, rfl⟩⟩; (try first | exact ⟨rfl, _, World.drewN_drewN _ _ _⟩ | exact ⟨rfl, _, Eq.trans (World.drewN_drewN _ _ _) (congrArg (World.drewN _) (Nat.add_assoc _ _ _))⟩))); try go_wp2_with (first | (go_at_call 25; (with_reducible refine (spec_l01In.calls a1 0 (wrap64 ((a0.size : Int) - 1)) false _ A6.out).mono ?_); rintro e w' ⟨rfl, ⟨nd, rfl⟩⟩; (try first | exact ⟨rfl, _, World.drewN_drewN _ _ _⟩ | exact ⟨rfl, _, Eq.trans (World.drewN_drewN _ _ _) (congrArg (World.drewN _) (Nat.add_assoc _ _ _))⟩))))
        go_meet
        case rel => exact ⟨_, (true), (by first | rfl | (simp; done) | (simp [*]; done)), H', ⟨by first | omega | exact Nat.le_refl _⟩, by repeat (first | exact Drawn0.refl _ | apply Drawn0.step)⟩
  case rest =>
    clear HC4
    try clear p2
    try clear c5
    try clear c5b0
    try clear c5b1
    try clear p6
    try clear c7
    obtain ⟨kq, x28_3, rfl, HA, HJ3, ⟨mc3, rfl⟩⟩ := hcut
    cases kq with
    | zero => exact absurd HA.out (by simp [spec_BestMatch.j0])
    | succ kj3 =>
      have H := HA.out
      clear HA
      simp only [spec_BestMatch.j0] at H
      by_cases c9 : x28_3 = true
      · subst c9
        have H1 : (some (0, 0)) = some (r1, r2) := by rw [if_pos rfl] at H; exact H
        clear H
        have H := H1
        clear H1
        simp only [Option.some.injEq, Prod.mk.injEq] at H
        obtain ⟨rfl, rfl⟩ := H
        go_wp2
        repeat (go_quiet (fail); try go_wp2)
        go_ret2
        exact ⟨by first | rfl | (simp; done) | (simp [*]; done), by repeat (first | exact Drawn0.refl _ | apply Drawn0.step)⟩
      · replace c9 := Bool.eq_false_iff.mpr c9
        subst c9
        have H1 : (spec_BestMatch.l0 kj3 a0 a1 a2 0 0 0 (wrap64 (a1 - 1))) = some (r1, r2) := by rw [if_neg (show ¬ (false = true) by decide)] at H; exact H
        clear H
        have H := H1
        clear H1
        have H' := Aside0.mk H
        clear H
        go_wp2
        repeat (go_quiet (fail); try go_wp2)
        go_loopg [8, 9, 10, 11] kj3 (fun kq v8 v9 v10 v11 w' => ∃ (x8_2 : Int) (x9_2 : Int) (x10_2 : Int) (x11_2 : Int), v8 = .int .i64 x8_2 ∧ v9 = .int .i64 x9_2 ∧ v10 = .int .i64 x10_2 ∧ v11 = .int .i64 x11_2 ∧ Aside0 (spec_BestMatch.l0 kq a0 a1 a2 x8_2 x9_2 x10_2 x11_2 = some (r1, r2)) ∧ Aside0 (kq ≤ kj3) ∧ Drawn0 w w')
        case atStart => exact ⟨(0), (0), (0), (wrap64 (a1 - 1)), (by first | rfl | (simp; done) | (simp [*]; done)), (by first | rfl | (simp; done) | (simp [*]; done)), (by first | rfl | (simp; done) | (simp [*]; done)), (by first | rfl | (simp; done) | (simp [*]; done)), H', ⟨Nat.le_refl _⟩, by repeat (first | exact Drawn0.refl _ | apply Drawn0.step)⟩
        case round =>
          clear H'
          try clear p2
          try clear c3
          try clear c5
          try clear c5b0
          try clear c5b1
          try clear p6
          try clear c7
          try clear c9
          try clear p2
          try clear p6
          obtain ⟨x8_2, x9_2, x10_2, x11_2, rfl, rfl, rfl, rfl, HA, HK2, ⟨m2, rfl⟩⟩ := hrel
          cases gk with
          | zero => exact absurd HA.out (by simp [spec_BestMatch.l0])
          | succ k2 =>
            have H := HA.out
            clear HA
            simp only [spec_BestMatch.l0] at H
            have HC10 := Aside0.mk H
            clear H
            go_upto_region 7 with (fail)
            repeat (go_quiet (fail); go_upto_region 7 with (fail))
            go_cut [37] (fun v37 wc => ∃ (kq : Nat) (x37_9 : Bool), v37 = .bool x37_9 ∧ Aside0 (spec_BestMatch.j2 kq a0 a1 a2 x8_2 x9_2 x10_2 x11_2 x37_9 = some (r1, r2)) ∧ Aside0 (kq ≤ k2) ∧ Drawn0 w wc)
            case first =>
              have H := HC10.out
              clear HC10
              by_cases c11 : x11_2 ≥ 0
              · rw [if_pos c11] at H
                have c11b0 : decide (0 ≤ x11_2) = true := decide_eq_true c11
                clear c11
                (first | rw [c11b0] | (simp only [i64_w, i32_w]; rw [c11b0]) | skip)
                have H' := Aside0.mk H
                clear H
                go_wp2
                repeat (go_quiet (fail); try go_wp2)
                go_meet
                case rel => exact ⟨_, (decide (x10_2 < a2)), (by first | rfl | (simp; done) | (simp [*]; done)), H', ⟨by have := HJ3.out; have := HK2.out; first | omega | exact Nat.le_refl _⟩, by repeat (first | exact Drawn0.refl _ | apply Drawn0.step)⟩
              · rw [if_neg c11] at H
                have c11b0 : decide (0 ≤ x11_2) = false := decide_eq_false c11
                clear c11
                (first | rw [c11b0] | (simp only [i64_w, i32_w]; rw [c11b0]) | skip)
                have H' := Aside0.mk H
                clear H
                go_wp2
                repeat (go_quiet (fail); try go_wp2)
                go_meet
                case rel => exact ⟨_, (false), (by first | rfl | (simp; done) | (simp [*]; done)), H', ⟨by have := HJ3.out; have := HK2.out; first | omega | exact Nat.le_refl _⟩, by repeat (first | exact Drawn0.refl _ | apply Drawn0.step)⟩
            case rest =>
              clear HC10
              try clear c1
              try clear p2
              try clear c3
              try clear c5
              try clear c5b0
              try clear c5b1
              try clear p6
              try clear c7
              try clear c9
              try clear c11
              try clear c11b0
              try clear p2
              try clear p6
              obtain ⟨kq, x37_9, rfl, HA, HJ9, ⟨mc9, rfl⟩⟩ := hcut
              cases kq with
              | zero => exact absurd HA.out (by simp [spec_BestMatch.j2])
              | succ kj9 =>
                have H := HA.out
                clear HA
                simp only [spec_BestMatch.j2] at H
                by_cases c12 : x37_9 = true
                · subst c12
                  have H1 : ((spec_l07Three.f kj9 a0 x11_2 a1).bind fun t114 => (if t114 = true then (spec_BestMatch.l1 kj9 a0 a1 a2 x8_2 x9_2 (wrap64 (x10_2 + 1)) x11_2 0) else (spec_BestMatch.l0 kj9 a0 a1 a2 x8_2 x9_2 x10_2 (wrap64 (x11_2 - 1))))) = some (r1, r2) := by rw [if_pos rfl] at H; exact H
                  clear H
                  have H := H1
                  clear H1
                  replace H := Option.bind_eq_some_iff.mp H
                  obtain ⟨t114, A130, H⟩ := H
                  replace H : (if t114 = true then (spec_BestMatch.l1 kj9 a0 a1 a2 x8_2 x9_2 (wrap64 (x10_2 + 1)) x11_2 0) else (spec_BestMatch.l0 kj9 a0 a1 a2 x8_2 x9_2 x10_2 (wrap64 (x11_2 - 1)))) = some (r1, r2) := H
                  have A13 := Aside0.mk A130
                  clear A130
                  by_cases c14 : t114 = true
                  · subst c14
                    have H1 : (spec_BestMatch.l1 kj9 a0 a1 a2 x8_2 x9_2 (wrap64 (x10_2 + 1)) x11_2 0) = some (r1, r2) := by rw [if_pos rfl] at H; exact H
                    clear H
                    have H := H1
                    clear H1
                    have H' := Aside0.mk H
                    clear H
                    go_wp2_with (first | (go_at_call 26; (with_reducible refine (spec_l07Three.calls kj9 a0 x11_2 a1 true _ A13.out).mono ?_); rintro e w' ⟨rfl, ⟨nd, rfl⟩⟩; (try first | exact ⟨rfl, _, World.drewN_drewN _ _ _⟩ | exact ⟨rfl, _, Eq.trans (World.drewN_drewN _ _ _) (congrArg (World.drewN _) (Nat.add_assoc _ _ _))⟩)))
                    repeat (go_quiet (first | (go_at_call 26; (with_reducible refine (spec_l07Three.calls kj9 a0 x11_2 a1 true _ A13.out).mono ?_); rintro e w' ⟨rfl, ⟨nd, rfl⟩⟩; (try first | exact ⟨rfl, _, World.drewN_drewN _ _ _⟩ | exact ⟨rfl, _, Eq.trans (World.drewN_drewN _ _ _) (congrArg (World.drewN _) (Nat.add_assoc _ _ _))⟩))); try go_wp2_with (first | (go_at_call 26; (with_reducible refine (spec_l07Three.calls kj9 a0 x11_2 a1 true _ A13.out).mono ?_); rintro e w' ⟨rfl, ⟨nd, rfl⟩⟩; (try first | exact ⟨rfl, _, World.drewN_drewN _ _ _⟩ | exact ⟨rfl, _, Eq.trans (World.drewN_drewN _ _ _) (congrArg (World.drewN _) (Nat.add_assoc _ _ _))⟩))))
                    go_loopg [12] kj9 (fun kq v12 w' => ∃ (x12_4 : Int), v12 = .int .i64 x12_4 ∧ Aside0 (spec_BestMatch.l1 kq a0 a1 a2 x8_2 x9_2 (wrap64 (x10_2 + 1)) x11_2 x12_4 = some (r1, r2)) ∧ Aside0 (kq ≤ kj9) ∧ Drawn0 w w')
                    case atStart => exact ⟨(0), (by first | rfl | (simp; done) | (simp [*]; done)), H', ⟨Nat.le_refl _⟩, by repeat (first | exact Drawn0.refl _ | apply Drawn0.step)⟩
                    case round =>
                      clear H'
                      try clear c1
                      try clear p2
                      try clear c3
                      try clear c5
                      try clear c5b0
                      try clear c5b1
                      try clear p6
                      try clear c7
                      try clear c9
                      try clear c11
                      try clear c11b0
                      try clear c12
                      try clear c14
                      try clear p2
                      try clear p6
                      obtain ⟨x12_4, rfl, HA, HK4, ⟨m4, rfl⟩⟩ := hrel
                      cases gk with
                      | zero => exact absurd HA.out (by simp [spec_BestMatch.l1])
                      | succ k4 =>
                        have H := HA.out
                        clear HA
                        simp only [spec_BestMatch.l1] at H
                        by_cases c15 : x12_4 < 258
                        · rw [if_pos c15] at H
                          have c15b0 : decide (x12_4 < 258) = true := decide_eq_true c15
                          clear c15
                          by_cases c16 : (wrap64 (a1 + x12_4)) < (a0.size : Int)
                          · rw [if_pos c16] at H
                            have c16b0 : decide ((wrap64 (a1 + x12_4)) < (a0.size : Int)) = true := decide_eq_true c16
                            clear c16
                            obtain ⟨ji17, hji17⟩ : ∃ j_ : Int, (wrap64 (x11_2 + x12_4)) = j_ := ⟨_, rfl⟩
                            replace H : (if 0 ≤ (ji17) then (if (ji17) < (a0.size : Int) then (if 0 ≤ (wrap64 (a1 + x12_4)) then (if (bt a0 (ji17)) = (bt a0 (wrap64 (a1 + x12_4))) then (spec_BestMatch.l1 k4 a0 a1 a2 x8_2 x9_2 (wrap64 (x10_2 + 1)) x11_2 (wrap64 (x12_4 + 1))) else (if x12_4 > x8_2 then (spec_BestMatch.l0 k4 a0 a1 a2 x12_4 (wrap64 (a1 - x11_2)) (wrap64 (x10_2 + 1)) (wrap64 (x11_2 - 1))) else (spec_BestMatch.l0 k4 a0 a1 a2 x8_2 x9_2 (wrap64 (x10_2 + 1)) (wrap64 (x11_2 - 1))))) else (none)) else (none)) else (none)) = some (r1, r2) := by first | (rw [hji17] at H; exact H) | (simp only [hji17] at H ⊢; exact H)
                            have hji17w : (IntKind.i64.wrap (x11_2 + x12_4)) = ji17 := (i64_w _).trans hji17
                            by_cases c18 : 0 ≤ (ji17)
                            · rw [if_pos c18] at H
                              have c18b0 : decide (0 ≤ (ji17)) = true := decide_eq_true c18
                              clear c18
                              by_cases c19 : (ji17) < (a0.size : Int)
                              · rw [if_pos c19] at H
                                have c19b0 : decide ((ji17) < (a0.size : Int)) = true := decide_eq_true c19
                                clear c19
                                obtain ⟨ji21, hji21⟩ : ∃ j_ : Int, (wrap64 (a1 + x12_4)) = j_ := ⟨_, rfl⟩
                                replace H : (if 0 ≤ (ji21) then (if (bt a0 (ji17)) = (bt a0 (ji21)) then (spec_BestMatch.l1 k4 a0 a1 a2 x8_2 x9_2 (wrap64 (x10_2 + 1)) x11_2 (wrap64 (x12_4 + 1))) else (if x12_4 > x8_2 then (spec_BestMatch.l0 k4 a0 a1 a2 x12_4 (wrap64 (a1 - x11_2)) (wrap64 (x10_2 + 1)) (wrap64 (x11_2 - 1))) else (spec_BestMatch.l0 k4 a0 a1 a2 x8_2 x9_2 (wrap64 (x10_2 + 1)) (wrap64 (x11_2 - 1))))) else (none)) = some (r1, r2) := by first | (rw [hji21] at H; exact H) | (simp only [hji21] at H ⊢; exact H)
                                (try rw [hji21] at c16b0)
                                have hji21w : (IntKind.i64.wrap (a1 + x12_4)) = ji21 := (i64_w _).trans hji21
                                by_cases c22 : 0 ≤ (ji21)
                                · rw [if_pos c22] at H
                                  have c22b0 : decide (0 ≤ (ji21)) = true := decide_eq_true c22
                                  clear c22
                                  by_cases c24 : (bt a0 (ji17)) = (bt a0 (ji21))
                                  · rw [if_pos c24] at H
                                    have c24b0 : ((bt a0 (ji17)) == (bt a0 (ji21))) = true := beq_iff_eq.mpr c24
                                    have c24b1 : ((bt a0 (ji17)) != (bt a0 (ji21))) = false := bne_eq_false_iff_eq.mpr c24
                                    clear c24
                                    have H' := Aside0.mk H
                                    clear H
                                    have p20 : 0 ≤ ((ji17) : Int) := of_decide_eq_true (by first | (with_reducible assumption) | assumption)
                                    have q20 : (ji17) < (a0.size : Int) := of_decide_eq_true (by first | (with_reducible assumption) | assumption)
                                    have hx20 := bt_at a0 (ji17)
                                    replace p20 := eq_true p20
                                    replace q20 := eq_true q20
                                    have p23 : 0 ≤ ((ji21) : Int) := of_decide_eq_true (by first | (with_reducible assumption) | assumption)
                                    have q23 : (ji21) < (a0.size : Int) := of_decide_eq_true (by first | (with_reducible assumption) | assumption)
                                    have hx23 := bt_at a0 (ji21)
                                    replace p23 := eq_true p23
                                    replace q23 := eq_true q23
                                    go_wp2
                                    repeat (go_quiet (fail); try go_wp2)
                                    go_roundg k4
                                    case measure => have := HJ3.out; have := HK2.out; have := HJ9.out; have := HK4.out; omega
                                    case rel => exact ⟨(wrap64 (x12_4 + 1)), (by first | rfl | (simp; done) | (simp [*]; done)), H', ⟨by have := HJ3.out; have := HK2.out; have := HJ9.out; have := HK4.out; omega⟩, by repeat (first | exact Drawn0.refl _ | apply Drawn0.step)⟩
                                  · rw [if_neg c24] at H
                                    have c24b0 : ((bt a0 (ji17)) == (bt a0 (ji21))) = false := beq_eq_false_iff_ne.mpr c24
                                    have c24b1 : ((bt a0 (ji17)) != (bt a0 (ji21))) = true := bne_iff_ne.mpr c24
                                    by_cases c25 : x12_4 > x8_2
                                    · rw [if_pos c25] at H
                                      have c25b0 : decide (x8_2 < x12_4) = true := decide_eq_true c25
                                      clear c25
                                      have H' := Aside0.mk H
                                      clear H
                                      have p20 : 0 ≤ ((ji17) : Int) := of_decide_eq_true (by first | (with_reducible assumption) | assumption)
                                      have q20 : (ji17) < (a0.size : Int) := of_decide_eq_true (by first | (with_reducible assumption) | assumption)
                                      have hx20 := bt_at a0 (ji17)
                                      replace p20 := eq_true p20
                                      replace q20 := eq_true q20
                                      have p23 : 0 ≤ ((ji21) : Int) := of_decide_eq_true (by first | (with_reducible assumption) | assumption)
                                      have q23 : (ji21) < (a0.size : Int) := of_decide_eq_true (by first | (with_reducible assumption) | assumption)
                                      have hx23 := bt_at a0 (ji21)
                                      replace p23 := eq_true p23
                                      replace q23 := eq_true q23
                                      go_wp2
                                      repeat (go_quiet (fail); try go_wp2)
                                      go_roundg k4
                                      case measure => have := HJ3.out; have := HK2.out; have := HJ9.out; have := HK4.out; omega
                                      case rel => exact ⟨(x12_4), (wrap64 (a1 - x11_2)), ((wrap64 (x10_2 + 1))), (wrap64 (x11_2 - 1)), (by first | rfl | (simp; done) | (simp [*]; done)), (by first | rfl | (simp; done) | (simp [*]; done)), (by first | rfl | (simp; done) | (simp [*]; done)), (by first | rfl | (simp; done) | (simp [*]; done)), H', ⟨by have := HJ3.out; have := HK2.out; have := HJ9.out; have := HK4.out; omega⟩, by repeat (first | exact Drawn0.refl _ | apply Drawn0.step)⟩
                                    · rw [if_neg c25] at H
                                      have c25b0 : decide (x8_2 < x12_4) = false := decide_eq_false c25
                                      clear c25
                                      have H' := Aside0.mk H
                                      clear H
                                      have p20 : 0 ≤ ((ji17) : Int) := of_decide_eq_true (by first | (with_reducible assumption) | assumption)
                                      have q20 : (ji17) < (a0.size : Int) := of_decide_eq_true (by first | (with_reducible assumption) | assumption)
                                      have hx20 := bt_at a0 (ji17)
                                      replace p20 := eq_true p20
                                      replace q20 := eq_true q20
                                      have p23 : 0 ≤ ((ji21) : Int) := of_decide_eq_true (by first | (with_reducible assumption) | assumption)
                                      have q23 : (ji21) < (a0.size : Int) := of_decide_eq_true (by first | (with_reducible assumption) | assumption)
                                      have hx23 := bt_at a0 (ji21)
                                      replace p23 := eq_true p23
                                      replace q23 := eq_true q23
                                      go_wp2
                                      repeat (go_quiet (fail); try go_wp2)
                                      go_roundg k4
                                      case measure => have := HJ3.out; have := HK2.out; have := HJ9.out; have := HK4.out; omega
                                      case rel => exact ⟨(x8_2), (x9_2), ((wrap64 (x10_2 + 1))), (wrap64 (x11_2 - 1)), (by first | rfl | (simp; done) | (simp [*]; done)), (by first | rfl | (simp; done) | (simp [*]; done)), (by first | rfl | (simp; done) | (simp [*]; done)), (by first | rfl | (simp; done) | (simp [*]; done)), H', ⟨by have := HJ3.out; have := HK2.out; have := HJ9.out; have := HK4.out; omega⟩, by repeat (first | exact Drawn0.refl _ | apply Drawn0.step)⟩
                                · rw [if_neg c22] at H
                                  exact absurd H (by simp)
                              · rw [if_neg c19] at H
                                exact absurd H (by simp)
                            · rw [if_neg c18] at H
                              exact absurd H (by simp)
                          · rw [if_neg c16] at H
                            have c16b0 : decide ((wrap64 (a1 + x12_4)) < (a0.size : Int)) = false := decide_eq_false c16
                            clear c16
                            by_cases c26 : x12_4 > x8_2
                            · rw [if_pos c26] at H
                              have c26b0 : decide (x8_2 < x12_4) = true := decide_eq_true c26
                              clear c26
                              have H' := Aside0.mk H
                              clear H
                              go_wp2
                              repeat (go_quiet (fail); try go_wp2)
                              go_roundg k4
                              case measure => have := HJ3.out; have := HK2.out; have := HJ9.out; have := HK4.out; omega
                              case rel => exact ⟨(x12_4), (wrap64 (a1 - x11_2)), ((wrap64 (x10_2 + 1))), (wrap64 (x11_2 - 1)), (by first | rfl | (simp; done) | (simp [*]; done)), (by first | rfl | (simp; done) | (simp [*]; done)), (by first | rfl | (simp; done) | (simp [*]; done)), (by first | rfl | (simp; done) | (simp [*]; done)), H', ⟨by have := HJ3.out; have := HK2.out; have := HJ9.out; have := HK4.out; omega⟩, by repeat (first | exact Drawn0.refl _ | apply Drawn0.step)⟩
                            · rw [if_neg c26] at H
                              have c26b0 : decide (x8_2 < x12_4) = false := decide_eq_false c26
                              clear c26
                              have H' := Aside0.mk H
                              clear H
                              go_wp2
                              repeat (go_quiet (fail); try go_wp2)
                              go_roundg k4
                              case measure => have := HJ3.out; have := HK2.out; have := HJ9.out; have := HK4.out; omega
                              case rel => exact ⟨(x8_2), (x9_2), ((wrap64 (x10_2 + 1))), (wrap64 (x11_2 - 1)), (by first | rfl | (simp; done) | (simp [*]; done)), (by first | rfl | (simp; done) | (simp [*]; done)), (by first | rfl | (simp; done) | (simp [*]; done)), (by first | rfl | (simp; done) | (simp [*]; done)), H', ⟨by have := HJ3.out; have := HK2.out; have := HJ9.out; have := HK4.out; omega⟩, by repeat (first | exact Drawn0.refl _ | apply Drawn0.step)⟩
                        · rw [if_neg c15] at H
                          have c15b0 : decide (x12_4 < 258) = false := decide_eq_false c15
                          clear c15
                          by_cases c27 : x12_4 > x8_2
                          · rw [if_pos c27] at H
                            have c27b0 : decide (x8_2 < x12_4) = true := decide_eq_true c27
                            clear c27
                            have H' := Aside0.mk H
                            clear H
                            go_wp2
                            repeat (go_quiet (fail); try go_wp2)
                            go_roundg k4
                            case measure => have := HJ3.out; have := HK2.out; have := HJ9.out; have := HK4.out; omega
                            case rel => exact ⟨(x12_4), (wrap64 (a1 - x11_2)), ((wrap64 (x10_2 + 1))), (wrap64 (x11_2 - 1)), (by first | rfl | (simp; done) | (simp [*]; done)), (by first | rfl | (simp; done) | (simp [*]; done)), (by first | rfl | (simp; done) | (simp [*]; done)), (by first | rfl | (simp; done) | (simp [*]; done)), H', ⟨by have := HJ3.out; have := HK2.out; have := HJ9.out; have := HK4.out; omega⟩, by repeat (first | exact Drawn0.refl _ | apply Drawn0.step)⟩
                          · rw [if_neg c27] at H
                            have c27b0 : decide (x8_2 < x12_4) = false := decide_eq_false c27
                            clear c27
                            have H' := Aside0.mk H
                            clear H
                            go_wp2
                            repeat (go_quiet (fail); try go_wp2)
                            go_roundg k4
                            case measure => have := HJ3.out; have := HK2.out; have := HJ9.out; have := HK4.out; omega
                            case rel => exact ⟨(x8_2), (x9_2), ((wrap64 (x10_2 + 1))), (wrap64 (x11_2 - 1)), (by first | rfl | (simp; done) | (simp [*]; done)), (by first | rfl | (simp; done) | (simp [*]; done)), (by first | rfl | (simp; done) | (simp [*]; done)), (by first | rfl | (simp; done) | (simp [*]; done)), H', ⟨by have := HJ3.out; have := HK2.out; have := HJ9.out; have := HK4.out; omega⟩, by repeat (first | exact Drawn0.refl _ | apply Drawn0.step)⟩
                  · replace c14 := Bool.eq_false_iff.mpr c14
                    subst c14
                    have H1 : (spec_BestMatch.l0 kj9 a0 a1 a2 x8_2 x9_2 x10_2 (wrap64 (x11_2 - 1))) = some (r1, r2) := by rw [if_neg (show ¬ (false = true) by decide)] at H; exact H
                    clear H
                    have H := H1
                    clear H1
                    have H' := Aside0.mk H
                    clear H
                    go_wp2_with (first | (go_at_call 26; (with_reducible refine (spec_l07Three.calls kj9 a0 x11_2 a1 false _ A13.out).mono ?_); rintro e w' ⟨rfl, ⟨nd, rfl⟩⟩; (try first | exact ⟨rfl, _, World.drewN_drewN _ _ _⟩ | exact ⟨rfl, _, Eq.trans (World.drewN_drewN _ _ _) (congrArg (World.drewN _) (Nat.add_assoc _ _ _))⟩)))
                    repeat (go_quiet (first | (go_at_call 26; (with_reducible refine (spec_l07Three.calls kj9 a0 x11_2 a1 false _ A13.out).mono ?_); rintro e w' ⟨rfl, ⟨nd, rfl⟩⟩; (try first | exact ⟨rfl, _, World.drewN_drewN _ _ _⟩ | exact ⟨rfl, _, Eq.trans (World.drewN_drewN _ _ _) (congrArg (World.drewN _) (Nat.add_assoc _ _ _))⟩))); try go_wp2_with (first | (go_at_call 26; (with_reducible refine (spec_l07Three.calls kj9 a0 x11_2 a1 false _ A13.out).mono ?_); rintro e w' ⟨rfl, ⟨nd, rfl⟩⟩; (try first | exact ⟨rfl, _, World.drewN_drewN _ _ _⟩ | exact ⟨rfl, _, Eq.trans (World.drewN_drewN _ _ _) (congrArg (World.drewN _) (Nat.add_assoc _ _ _))⟩))))
                    go_roundg kj9
                    case measure => have := HJ3.out; have := HK2.out; have := HJ9.out; omega
                    case rel => exact ⟨(x8_2), (x9_2), (x10_2), (wrap64 (x11_2 - 1)), (by first | rfl | (simp; done) | (simp [*]; done)), (by first | rfl | (simp; done) | (simp [*]; done)), (by first | rfl | (simp; done) | (simp [*]; done)), (by first | rfl | (simp; done) | (simp [*]; done)), H', ⟨by have := HJ3.out; have := HK2.out; have := HJ9.out; omega⟩, by repeat (first | exact Drawn0.refl _ | apply Drawn0.step)⟩
                · replace c12 := Bool.eq_false_iff.mpr c12
                  subst c12
                  have H1 : (some (x8_2, x9_2)) = some (r1, r2) := by rw [if_neg (show ¬ (false = true) by decide)] at H; exact H
                  clear H
                  have H := H1
                  clear H1
                  simp only [Option.some.injEq, Prod.mk.injEq] at H
                  obtain ⟨rfl, rfl⟩ := H
                  go_wp2
                  repeat (go_quiet (fail); try go_wp2)
                  go_ret2
                  exact ⟨by first | rfl | (simp; done) | (simp [*]; done), by repeat (first | exact Drawn0.refl _ | apply Drawn0.step)⟩

/-! ### spec_l07Ok: function 31 -/
def spec_l07Ok.f (a0 : ByteArray) (a1 : Int) : Option (Bool) := if (a0.size : Int) ≤ 2600 then ((spec_l01In.f a1 1 64).bind fun t115 => (some t115)) else (some false)
set_option maxHeartbeats 8000000 in
set_option maxRecDepth 100000 in
theorem spec_l07Ok.calls (a0 : ByteArray) (a1 : Int) (r : Bool) (w : World) (h : spec_l07Ok.f a0 a1 = some r) :
    Calls Try.prog 31 #[.string a0, .int .i64 a1] w fun e w' => e = .returned (.bool r) ∧ Drawn0 w w' := by
  have H : (if (a0.size : Int) ≤ 2600 then ((spec_l01In.f a1 1 64).bind fun t115 => (some t115)) else (some false)) = some r := h
  clear h
  by_cases c3 : (a0.size : Int) ≤ 2600
  · rw [if_pos c3] at H
    have c3b0 : decide ((a0.size : Int) ≤ 2600) = true := decide_eq_true c3
    have c3b1 : decide (a0.size ≤ 2600) = true := decide_eq_true (by omega)
    clear c3
    replace H := Option.bind_eq_some_iff.mp H
    obtain ⟨t115, A40, H⟩ := H
    replace H : (some t115) = some r := H
    have A4 := Aside0.mk A40
    clear A40
    obtain rfl := Option.some.inj H
    go_enter Try.func31, Try.ntmps31
    go_wp2_with (first | (go_at_call 25; (with_reducible refine (spec_l01In.calls a1 1 64 t115 _ A4.out).mono ?_); rintro e w' ⟨rfl, ⟨nd, rfl⟩⟩))
    go_ret
    exact ⟨by first | rfl | (simp; done) | (simp [*]; done), by repeat (first | exact Drawn0.refl _ | apply Drawn0.step)⟩
  · rw [if_neg c3] at H
    have c3b0 : decide ((a0.size : Int) ≤ 2600) = false := decide_eq_false c3
    have c3b1 : decide (a0.size ≤ 2600) = false := decide_eq_false (by omega)
    clear c3
    obtain rfl := Option.some.inj H
    go_enter Try.func31, Try.ntmps31
    go_wp2
    go_ret
    exact ⟨by first | rfl | (simp; done) | (simp [*]; done), by repeat (first | exact Drawn0.refl _ | apply Drawn0.step)⟩

/-! ### spec_l01Pow: function 56 -/
def spec_l01Pow.l0 : Nat → Int → Int → Int → Option (Int)
  | 0, _, _, _ => none
  | k + 1, x0, x3, x4 => if x4 < x0 then (spec_l01Pow.l0 k x0 (wrap64 (2 * x3)) (wrap64 (x4 + 1))) else (some x3)
def spec_l01Pow.f (k : Nat) (a0 : Int) : Option (Int) := spec_l01Pow.l0 k a0 1 0
theorem spec_l01Pow.mono_l : ∀ k, (∀ y0 y1 y2, LeO (spec_l01Pow.l0 k y0 y1 y2) (spec_l01Pow.l0 (k + 1) y0 y1 y2))
  | 0 => fun _ _ _ r h => by simp [spec_l01Pow.l0] at h
  | k + 1 => by
    have ih0 := spec_l01Pow.mono_l k
    · intro y0 y1 y2
      unfold spec_l01Pow.l0
      repeat' first
      | (with_reducible exact ih0 _ _ _)
      | (with_reducible exact LeO.refl _)
      | (with_reducible exact LeO.none _)
      | (with_reducible refine LeO.ite ?_ ?_)
      | (with_reducible refine LeO.bind ?_ (fun _ => ?_))
      | exact ih0 _ _ _
      | exact LeO.none _
      | refine LeO.ite ?_ ?_
      | refine LeO.bind ?_ (fun _ => ?_)
theorem spec_l01Pow.mono : ∀ a0 k, LeO (spec_l01Pow.f k a0) (spec_l01Pow.f (k + 1) a0) := by
  intro a0 k
  have ih0 := spec_l01Pow.mono_l k
  unfold spec_l01Pow.f
  repeat' first
      | (with_reducible exact ih0 _ _ _)
      | (with_reducible exact LeO.refl _)
      | (with_reducible exact LeO.none _)
      | (with_reducible refine LeO.ite ?_ ?_)
      | (with_reducible refine LeO.bind ?_ (fun _ => ?_))
      | exact ih0 _ _ _
      | exact LeO.none _
      | refine LeO.ite ?_ ?_
      | refine LeO.bind ?_ (fun _ => ?_)
set_option maxHeartbeats 8000000 in
set_option maxRecDepth 100000 in
theorem spec_l01Pow.calls (k : Nat) (a0 : Int) (r : Int) (w : World) (h : spec_l01Pow.f k a0 = some r) :
    Calls Try.prog 56 #[.int .i64 a0] w fun e w' => e = .returned (.int .i64 r) ∧ Drawn0 w w' := by
  have H : (spec_l01Pow.l0 k a0 1 0) = some r := h
  clear h
  have H' := Aside0.mk H
  clear H
  go_enter Try.func56, Try.ntmps56
  go_wp2
  go_loopg [3, 4] k (fun kq v3 v4 w' => ∃ (x3_1 : Int) (x4_1 : Int), v3 = .int .i64 x3_1 ∧ v4 = .int .i64 x4_1 ∧ Aside0 (spec_l01Pow.l0 kq a0 x3_1 x4_1 = some r) ∧ Aside0 (kq ≤ k) ∧ Drawn0 w w')
  case atStart => exact ⟨(1), (0), (by first | rfl | (simp; done) | (simp [*]; done)), (by first | rfl | (simp; done) | (simp [*]; done)), H', ⟨Nat.le_refl _⟩, by repeat (first | exact Drawn0.refl _ | apply Drawn0.step)⟩
  case round =>
    clear H'
    obtain ⟨x3_1, x4_1, rfl, rfl, HA, HK1, ⟨m1, rfl⟩⟩ := hrel
    cases gk with
    | zero => exact absurd HA.out (by simp [spec_l01Pow.l0])
    | succ k1 =>
      have H := HA.out
      clear HA
      simp only [spec_l01Pow.l0] at H
      by_cases c2 : x4_1 < a0
      · rw [if_pos c2] at H
        have c2b0 : decide (x4_1 < a0) = true := decide_eq_true c2
        clear c2
        have H' := Aside0.mk H
        clear H
        go_wp2
        go_roundg k1
        case measure => have := HK1.out; omega
        case rel => exact ⟨(wrap64 (2 * x3_1)), (wrap64 (x4_1 + 1)), (by first | rfl | (simp; done) | (simp [*]; done)), (by first | rfl | (simp; done) | (simp [*]; done)), H', ⟨by have := HK1.out; omega⟩, by repeat (first | exact Drawn0.refl _ | apply Drawn0.step)⟩
      · rw [if_neg c2] at H
        have c2b0 : decide (x4_1 < a0) = false := decide_eq_false c2
        clear c2
        obtain rfl := Option.some.inj H
        go_wp2
        go_ret
        exact ⟨by first | rfl | (simp; done) | (simp [*]; done), by repeat (first | exact Drawn0.refl _ | apply Drawn0.step)⟩

/-! ### spec_l06LengthBits: function 52 -/
def spec_l06LengthBits.l0 : Nat → Int → Int → Int → Int → Option (Int × Int)
  | 0, _, _, _, _ => none
  | k + 1, x0, x4, x5, x6 => if x6 < x0 then ((spec_l01Pow.f k (wrap64 (Int.tdiv (wrap64 (x6 - 261)) 4))).bind fun t116 => (spec_l06LengthBits.l0 k x0 x4 (wrap64 (x5 + t116)) (wrap64 (x6 + 1)))) else (some (x4, x5))
def spec_l06LengthBits.f (k : Nat) (a0 : Int) : Option (Int × Int) := if a0 < 265 then (some (0, wrap64 (a0 - 254))) else (if a0 = 285 then (some (0, 258)) else (spec_l06LengthBits.l0 k a0 (wrap64 (Int.tdiv (wrap64 (a0 - 261)) 4)) 11 265))
theorem spec_l06LengthBits.mono_l : ∀ k, (∀ y0 y1 y2 y3, LeO (spec_l06LengthBits.l0 k y0 y1 y2 y3) (spec_l06LengthBits.l0 (k + 1) y0 y1 y2 y3))
  | 0 => fun _ _ _ _ r h => by simp [spec_l06LengthBits.l0] at h
  | k + 1 => by
    have ih0 := spec_l06LengthBits.mono_l k
    · intro y0 y1 y2 y3
      unfold spec_l06LengthBits.l0
      repeat' first
      | (with_reducible exact ih0 _ _ _ _)
      | (with_reducible exact spec_l01Pow.mono _ _)
      | (with_reducible exact LeO.refl _)
      | (with_reducible exact LeO.none _)
      | (with_reducible refine LeO.ite ?_ ?_)
      | (with_reducible refine LeO.bind ?_ (fun _ => ?_))
      | exact ih0 _ _ _ _
      | exact spec_l01Pow.mono _ _
      | exact LeO.none _
      | refine LeO.ite ?_ ?_
      | refine LeO.bind ?_ (fun _ => ?_)
theorem spec_l06LengthBits.mono : ∀ a0 k, LeO (spec_l06LengthBits.f k a0) (spec_l06LengthBits.f (k + 1) a0) := by
  intro a0 k
  have ih0 := spec_l06LengthBits.mono_l k
  unfold spec_l06LengthBits.f
  repeat' first
      | (with_reducible exact ih0 _ _ _ _)
      | (with_reducible exact spec_l01Pow.mono _ _)
      | (with_reducible exact LeO.refl _)
      | (with_reducible exact LeO.none _)
      | (with_reducible refine LeO.ite ?_ ?_)
      | (with_reducible refine LeO.bind ?_ (fun _ => ?_))
      | exact ih0 _ _ _ _
      | exact spec_l01Pow.mono _ _
      | exact LeO.none _
      | refine LeO.ite ?_ ?_
      | refine LeO.bind ?_ (fun _ => ?_)
set_option maxHeartbeats 8000000 in
set_option maxRecDepth 100000 in
theorem spec_l06LengthBits.calls (k : Nat) (a0 : Int) (r1 : Int) (r2 : Int) (w : World) (h : spec_l06LengthBits.f k a0 = some (r1, r2)) :
    Calls Try.prog 52 #[.int .i64 a0] w fun e w' => e = .returned (.tuple #[.int .i64 r1, .int .i64 r2]) ∧ Drawn0 w w' := by
  have H : (if a0 < 265 then (some (0, wrap64 (a0 - 254))) else (if a0 = 285 then (some (0, 258)) else (spec_l06LengthBits.l0 k a0 (wrap64 (Int.tdiv (wrap64 (a0 - 261)) 4)) 11 265))) = some (r1, r2) := h
  clear h
  by_cases c2 : a0 < 265
  · rw [if_pos c2] at H
    have c2b0 : decide (a0 < 265) = true := decide_eq_true c2
    clear c2
    simp only [Option.some.injEq, Prod.mk.injEq] at H
    obtain ⟨rfl, rfl⟩ := H
    go_enter Try.func52, Try.ntmps52
    go_wp2
    go_ret2
    exact ⟨by first | rfl | (simp; done) | (simp [*]; done), by repeat (first | exact Drawn0.refl _ | apply Drawn0.step)⟩
  · rw [if_neg c2] at H
    have c2b0 : decide (a0 < 265) = false := decide_eq_false c2
    clear c2
    by_cases c3 : a0 = 285
    · rw [if_pos c3] at H
      have c3b0 : (a0 == 285) = true := beq_iff_eq.mpr c3
      have c3b1 : (a0 != 285) = false := bne_eq_false_iff_eq.mpr c3
      clear c3
      simp only [Option.some.injEq, Prod.mk.injEq] at H
      obtain ⟨rfl, rfl⟩ := H
      go_enter Try.func52, Try.ntmps52
      go_wp2
      go_ret2
      exact ⟨by first | rfl | (simp; done) | (simp [*]; done), by repeat (first | exact Drawn0.refl _ | apply Drawn0.step)⟩
    · rw [if_neg c3] at H
      have c3b0 : (a0 == 285) = false := beq_eq_false_iff_ne.mpr c3
      have c3b1 : (a0 != 285) = true := bne_iff_ne.mpr c3
      have H' := Aside0.mk H
      clear H
      go_enter Try.func52, Try.ntmps52
      go_wp2
      go_loopg [5, 6] k (fun kq v5 v6 w' => ∃ (x5_1 : Int) (x6_1 : Int), v5 = .int .i64 x5_1 ∧ v6 = .int .i64 x6_1 ∧ Aside0 (spec_l06LengthBits.l0 kq a0 (wrap64 (Int.tdiv (wrap64 (a0 - 261)) 4)) x5_1 x6_1 = some (r1, r2)) ∧ Aside0 (kq ≤ k) ∧ Drawn0 w w')
      case atStart => exact ⟨(11), (265), (by first | rfl | (simp; done) | (simp [*]; done)), (by first | rfl | (simp; done) | (simp [*]; done)), H', ⟨Nat.le_refl _⟩, by repeat (first | exact Drawn0.refl _ | apply Drawn0.step)⟩
      case round =>
        clear H'
        try clear c2
        try clear c2b0
        try clear p2
        try clear c3
        try clear c3b0
        try clear c3b1
        obtain ⟨x5_1, x6_1, rfl, rfl, HA, HK1, ⟨m1, rfl⟩⟩ := hrel
        cases gk with
        | zero => exact absurd HA.out (by simp [spec_l06LengthBits.l0])
        | succ k1 =>
          have H := HA.out
          clear HA
          simp only [spec_l06LengthBits.l0] at H
          by_cases c4 : x6_1 < a0
          · rw [if_pos c4] at H
            have c4b0 : decide (x6_1 < a0) = true := decide_eq_true c4
            clear c4
            replace H := Option.bind_eq_some_iff.mp H
            obtain ⟨t116, A50, H⟩ := H
            replace H : (spec_l06LengthBits.l0 k1 a0 (wrap64 (Int.tdiv (wrap64 (a0 - 261)) 4)) (wrap64 (x5_1 + t116)) (wrap64 (x6_1 + 1))) = some (r1, r2) := H
            have A5 := Aside0.mk A50
            clear A50
            have H' := Aside0.mk H
            clear H
            go_wp2_with (first | ((with_reducible refine gate_callee (f := 56) rfl ?_); refine goesL_ (some 25) rfl rfl Try.func56 (by kernel_rfl) rfl #[.int .i64 (wrap64 (Int.tdiv (wrap64 (x6_1 - 261)) 4))] rfl (by (try simp only [List.map_toArray, List.map_cons, List.map_nil]); first | done | rfl | (simp only [List.length_drop, List.length_take]; rfl)) ?_; (with_reducible refine (spec_l01Pow.calls k1 (wrap64 (Int.tdiv (wrap64 (x6_1 - 261)) 4)) t116 _ A5.out).mono ?_); rintro e w' ⟨rfl, ⟨nd, rfl⟩⟩; refine ⟨_, rfl, ?_⟩))
            go_roundg k1
            case measure => have := HK1.out; omega
            case rel => exact ⟨(wrap64 (x5_1 + t116)), (wrap64 (x6_1 + 1)), (by first | rfl | (simp; done) | (simp [*]; done)), (by first | rfl | (simp; done) | (simp [*]; done)), H', ⟨by have := HK1.out; omega⟩, by repeat (first | exact Drawn0.refl _ | apply Drawn0.step)⟩
          · rw [if_neg c4] at H
            have c4b0 : decide (x6_1 < a0) = false := decide_eq_false c4
            clear c4
            simp only [Option.some.injEq, Prod.mk.injEq] at H
            obtain ⟨rfl, rfl⟩ := H
            go_wp2
            go_ret2
            exact ⟨by first | rfl | (simp; done) | (simp [*]; done), by repeat (first | exact Drawn0.refl _ | apply Drawn0.step)⟩

end Go.Proofs.Ytaaoojmbomhakaa.PFnExactCheapest
