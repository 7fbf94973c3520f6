-- Written by a program of this session (a changed print); Lean checks it.
import Derived.Test.YtaaoojmbomhakaaPFnMatchesx0
import Derived.Test.YtaaoojmbomhakaaPFnMatchesx1
import Derived.Test.YtaaoojmbomhakaaPFnMatchesx2
import Derived.Test.YtaaoojmbomhakaaPFnMatchesx3
namespace Go.Proofs.Ytaaoojmbomhakaa.PFnMatches
open Go.RowKit Go.Proofs.YtaaoojmbomhakaaW.PrintWords Go.Proofs.YtaaoojmbomhakaaW.PrintLast Go.Proofs.YtaaoojmbomhakaaW.PrintMore
attribute [local go_sem] max2_int min2_int max_two min_two max_three min_three max_four min_four   -- for this text's walks alone
set_option linter.unusedVariables false
set_option linter.unusedSimpArgs false

/-! ### laws_FnMatches: function 7 -/
mutual
def laws_FnMatches.j0 : Nat → ByteArray → Int → Int → Int → Bool → Option (Bool)
  | 0, _, _, _, _, _ => none
  | k + 1, x3, x5, x7, x8, x53 => if x53 = true then (some false) else (if x7 = 0 then (some (x8 == 0)) else (laws_FnMatches.l0 k x3 x5 x7 x8 0))
def laws_FnMatches.l0 : Nat → ByteArray → Int → Int → Int → Int → Option (Bool)
  | 0, _, _, _, _, _ => none
  | k + 1, x3, x5, x7, x8, x11 => if x11 < x7 then (if 0 ≤ (wrap64 (x5 + x11)) then (if (wrap64 (x5 + x11)) < (x3.size : Int) then (if 0 ≤ (wrap64 ((wrap64 (x5 + x11)) - x8)) then (if (wrap64 ((wrap64 (x5 + x11)) - x8)) < (x3.size : Int) then (if (bt x3 (wrap64 (x5 + x11))) = (bt x3 (wrap64 ((wrap64 (x5 + x11)) - x8))) then (laws_FnMatches.l0 k x3 x5 x7 x8 (wrap64 (x11 + 1))) else (some false)) else (none)) else (none)) else (none)) else (none)) else (if x7 ≥ 3 then (if x7 ≤ 258 then (if x7 = 258 then (some true) else (if (wrap64 (x5 + x7)) = (x3.size : Int) then (some true) else (if 0 ≤ (wrap64 (x5 + x7)) then (if (wrap64 (x5 + x7)) < (x3.size : Int) then (if 0 ≤ (wrap64 ((wrap64 (x5 + x7)) - x8)) then (if (wrap64 ((wrap64 (x5 + x7)) - x8)) < (x3.size : Int) then (some ((bt x3 (wrap64 (x5 + x7))) != (bt x3 (wrap64 ((wrap64 (x5 + x7)) - x8))))) else (none)) else (none)) else (none)) else (none)))) else (some false)) else (some false))
end
def laws_FnMatches.f (k : Nat) (l0 : List Int) : Option (Bool) := (laws_big.f l0).bind fun t198 => (if t198 = true then (some true) else ((spec_DrawData.f k l0).bind fun t199 => (if (t199.size : Int) = 0 then (some true) else ((spec_DrawPlaces.f k l0).bind fun t200 => (if 0 < (t200.length : Int) then (if 1 < (t200.length : Int) then ((impl_BestMatch.f k t199 (Int.tmod (rd t200 0) (t199.size : Int)) (wrap64 (1 + (Int.tmod (rd t200 1) 64)))).bind fun bt205 => ((spec_BestMatch.f k t199 (Int.tmod (rd t200 0) (t199.size : Int)) (wrap64 (1 + (Int.tmod (rd t200 1) 64)))).bind fun bt207 => (if bt205.1 = bt207.1 then (laws_FnMatches.j0 k t199 (Int.tmod (rd t200 0) (t199.size : Int)) bt205.1 bt205.2 (bt205.2 != bt207.2)) else (laws_FnMatches.j0 k t199 (Int.tmod (rd t200 0) (t199.size : Int)) bt205.1 bt205.2 true)))) else (none)) else (none))))))
theorem laws_FnMatches.mono_l : ∀ k, (∀ y0 y1 y2 y3 y4, LeO (laws_FnMatches.j0 k y0 y1 y2 y3 y4) (laws_FnMatches.j0 (k + 1) y0 y1 y2 y3 y4)) ∧ (∀ y0 y1 y2 y3 y4, LeO (laws_FnMatches.l0 k y0 y1 y2 y3 y4) (laws_FnMatches.l0 (k + 1) y0 y1 y2 y3 y4))
  | 0 => ⟨fun _ _ _ _ _ r h => by simp [laws_FnMatches.j0] at h, fun _ _ _ _ _ r h => by simp [laws_FnMatches.l0] at h⟩
  | k + 1 => by
    obtain ⟨ih0, ih1⟩ := laws_FnMatches.mono_l k
    refine ⟨?_, ?_⟩
    · intro y0 y1 y2 y3 y4
      unfold laws_FnMatches.j0
      repeat' first
      | (with_reducible exact ih0 _ _ _ _ _)
      | (with_reducible exact ih1 _ _ _ _ _)
      | (with_reducible exact impl_BestMatch.mono _ _ _ _)
      | (with_reducible exact spec_BestMatch.mono _ _ _ _)
      | (with_reducible exact spec_DrawData.mono _ _)
      | (with_reducible exact spec_DrawPlaces.mono _ _)
      | (with_reducible exact LeO.refl _)
      | (with_reducible exact LeO.none _)
      | (with_reducible refine LeO.ite ?_ ?_)
      | (with_reducible refine LeO.bind ?_ (fun _ => ?_))
      | exact ih0 _ _ _ _ _
      | exact ih1 _ _ _ _ _
      | exact impl_BestMatch.mono _ _ _ _
      | exact spec_BestMatch.mono _ _ _ _
      | exact spec_DrawData.mono _ _
      | exact spec_DrawPlaces.mono _ _
      | exact LeO.none _
      | refine LeO.ite ?_ ?_
      | refine LeO.bind ?_ (fun _ => ?_)
    · intro y0 y1 y2 y3 y4
      unfold laws_FnMatches.l0
      repeat' first
      | (with_reducible exact ih0 _ _ _ _ _)
      | (with_reducible exact ih1 _ _ _ _ _)
      | (with_reducible exact impl_BestMatch.mono _ _ _ _)
      | (with_reducible exact spec_BestMatch.mono _ _ _ _)
      | (with_reducible exact spec_DrawData.mono _ _)
      | (with_reducible exact spec_DrawPlaces.mono _ _)
      | (with_reducible exact LeO.refl _)
      | (with_reducible exact LeO.none _)
      | (with_reducible refine LeO.ite ?_ ?_)
      | (with_reducible refine LeO.bind ?_ (fun _ => ?_))
      | exact ih0 _ _ _ _ _
      | exact ih1 _ _ _ _ _
      | exact impl_BestMatch.mono _ _ _ _
      | exact spec_BestMatch.mono _ _ _ _
      | exact spec_DrawData.mono _ _
      | exact spec_DrawPlaces.mono _ _
      | exact LeO.none _
      | refine LeO.ite ?_ ?_
      | refine LeO.bind ?_ (fun _ => ?_)
theorem laws_FnMatches.mono : ∀ a0 k, LeO (laws_FnMatches.f k a0) (laws_FnMatches.f (k + 1) a0) := by
  intro a0 k
  obtain ⟨ih0, ih1⟩ := laws_FnMatches.mono_l k
  unfold laws_FnMatches.f
  repeat' first
      | (with_reducible exact ih0 _ _ _ _ _)
      | (with_reducible exact ih1 _ _ _ _ _)
      | (with_reducible exact impl_BestMatch.mono _ _ _ _)
      | (with_reducible exact spec_BestMatch.mono _ _ _ _)
      | (with_reducible exact spec_DrawData.mono _ _)
      | (with_reducible exact spec_DrawPlaces.mono _ _)
      | (with_reducible exact LeO.refl _)
      | (with_reducible exact LeO.none _)
      | (with_reducible refine LeO.ite ?_ ?_)
      | (with_reducible refine LeO.bind ?_ (fun _ => ?_))
      | exact ih0 _ _ _ _ _
      | exact ih1 _ _ _ _ _
      | exact impl_BestMatch.mono _ _ _ _
      | exact spec_BestMatch.mono _ _ _ _
      | exact spec_DrawData.mono _ _
      | exact spec_DrawPlaces.mono _ _
      | exact LeO.none _
      | refine LeO.ite ?_ ?_
      | refine LeO.bind ?_ (fun _ => ?_)
set_option maxHeartbeats 8000000 in
set_option maxRecDepth 100000 in
theorem laws_FnMatches.calls (k : Nat) (A0 : Option Addr) (c0 : Nat) (l0 : List Int) (r : Bool) (w : World) (hr0 : Kd.C (Kd.int .u8) w A0 l0.length l0) (hc0 : l0.length ≤ c0) (h : laws_FnMatches.f k l0 = some r) :
    Calls Try.prog 7 #[.slice A0 l0.length c0] w fun e w' => e = .returned (.bool r) ∧ Below w.heap.size w w' := by
  have HR0 := Aside0.mk hr0
  have HC0 := Aside0.mk hc0
  clear hr0 hc0
  have HB := Aside0.mk (Below.refl w.heap.size w)
  have H : ((laws_big.f l0).bind fun t198 => (if t198 = true then (some true) else ((spec_DrawData.f k l0).bind fun t199 => (if (t199.size : Int) = 0 then (some true) else ((spec_DrawPlaces.f k l0).bind fun t200 => (if 0 < (t200.length : Int) then (if 1 < (t200.length : Int) then ((impl_BestMatch.f k t199 (Int.tmod (rd t200 0) (t199.size : Int)) (wrap64 (1 + (Int.tmod (rd t200 1) 64)))).bind fun bt205 => ((spec_BestMatch.f k t199 (Int.tmod (rd t200 0) (t199.size : Int)) (wrap64 (1 + (Int.tmod (rd t200 1) 64)))).bind fun bt207 => (if bt205.1 = bt207.1 then (laws_FnMatches.j0 k t199 (Int.tmod (rd t200 0) (t199.size : Int)) bt205.1 bt205.2 (bt205.2 != bt207.2)) else (laws_FnMatches.j0 k t199 (Int.tmod (rd t200 0) (t199.size : Int)) bt205.1 bt205.2 true)))) else (none)) else (none))))))) = some r := h
  clear h
  replace H := Option.bind_eq_some_iff.mp H
  obtain ⟨t198, A20, H⟩ := H
  replace H : (if t198 = true then (some true) else ((spec_DrawData.f k l0).bind fun t199 => (if (t199.size : Int) = 0 then (some true) else ((spec_DrawPlaces.f k l0).bind fun t200 => (if 0 < (t200.length : Int) then (if 1 < (t200.length : Int) then ((impl_BestMatch.f k t199 (Int.tmod (rd t200 0) (t199.size : Int)) (wrap64 (1 + (Int.tmod (rd t200 1) 64)))).bind fun bt205 => ((spec_BestMatch.f k t199 (Int.tmod (rd t200 0) (t199.size : Int)) (wrap64 (1 + (Int.tmod (rd t200 1) 64)))).bind fun bt207 => (if bt205.1 = bt207.1 then (laws_FnMatches.j0 k t199 (Int.tmod (rd t200 0) (t199.size : Int)) bt205.1 bt205.2 (bt205.2 != bt207.2)) else (laws_FnMatches.j0 k t199 (Int.tmod (rd t200 0) (t199.size : Int)) bt205.1 bt205.2 true)))) else (none)) else (none)))))) = some r := H
  have A2 := Aside0.mk A20
  clear A20
  by_cases c3 : t198 = true
  · subst c3
    have H1 : (some true) = some r := by rw [if_pos rfl] at H; exact H
    clear H
    have H := H1
    clear H1
    obtain rfl := Option.some.inj H
    go_enter Try.func7, Try.ntmps7
    go_wp2_with (first | (go_at_call 20; (with_reducible refine (laws_big.calls _ _ l0 true _ ?side1 ?side2 A2.out).mono ?_); (case side1 => repeat (first | exact HR0.out | (with_reducible refine Kd.C_alloc ?_ _) | (with_reducible refine Kd.C_drewN ?_ _) | (with_reducible refine Kd.C_drew ?_))); (case side2 => exact HC0.out); rintro e w' ⟨rfl, ⟨nd, rfl⟩⟩; (try first | exact ⟨rfl, _, World.drewN_drewN _ _ _⟩ | exact ⟨rfl, _, Eq.trans (World.drewN_drewN _ _ _) (congrArg (World.drewN _) (Nat.add_assoc _ _ _))⟩)))
    repeat (go_quiet (first | (go_at_call 20; (with_reducible refine (laws_big.calls _ _ l0 true _ ?side1 ?side2 A2.out).mono ?_); (case side1 => repeat (first | exact HR0.out | (with_reducible refine Kd.C_alloc ?_ _) | (with_reducible refine Kd.C_drewN ?_ _) | (with_reducible refine Kd.C_drew ?_))); (case side2 => exact HC0.out); rintro e w' ⟨rfl, ⟨nd, rfl⟩⟩; (try first | exact ⟨rfl, _, World.drewN_drewN _ _ _⟩ | exact ⟨rfl, _, Eq.trans (World.drewN_drewN _ _ _) (congrArg (World.drewN _) (Nat.add_assoc _ _ _))⟩))); try go_wp2_with (first | (go_at_call 20; (with_reducible refine (laws_big.calls _ _ l0 true _ ?side1 ?side2 A2.out).mono ?_); (case side1 => repeat (first | exact HR0.out | (with_reducible refine Kd.C_alloc ?_ _) | (with_reducible refine Kd.C_drewN ?_ _) | (with_reducible refine Kd.C_drew ?_))); (case side2 => exact HC0.out); rintro e w' ⟨rfl, ⟨nd, rfl⟩⟩; (try first | exact ⟨rfl, _, World.drewN_drewN _ _ _⟩ | exact ⟨rfl, _, Eq.trans (World.drewN_drewN _ _ _) (congrArg (World.drewN _) (Nat.add_assoc _ _ _))⟩))))
    go_ret
    exact ⟨by first | rfl | (simp [errW_none, errW_some] <;> rfl) | (simp [*, errW_none, errW_some] <;> rfl), by repeat (first | (with_reducible first | exact HB.out | apply below_alloc | apply pw_below_drewN | apply below_drew1) | exact HB.out)⟩
  · replace c3 := Bool.eq_false_iff.mpr c3
    subst c3
    have H1 : ((spec_DrawData.f k l0).bind fun t199 => (if (t199.size : Int) = 0 then (some true) else ((spec_DrawPlaces.f k l0).bind fun t200 => (if 0 < (t200.length : Int) then (if 1 < (t200.length : Int) then ((impl_BestMatch.f k t199 (Int.tmod (rd t200 0) (t199.size : Int)) (wrap64 (1 + (Int.tmod (rd t200 1) 64)))).bind fun bt205 => ((spec_BestMatch.f k t199 (Int.tmod (rd t200 0) (t199.size : Int)) (wrap64 (1 + (Int.tmod (rd t200 1) 64)))).bind fun bt207 => (if bt205.1 = bt207.1 then (laws_FnMatches.j0 k t199 (Int.tmod (rd t200 0) (t199.size : Int)) bt205.1 bt205.2 (bt205.2 != bt207.2)) else (laws_FnMatches.j0 k t199 (Int.tmod (rd t200 0) (t199.size : Int)) bt205.1 bt205.2 true)))) else (none)) else (none))))) = some r := by rw [if_neg (show ¬ (false = true) by decide)] at H; exact H
    clear H
    have H := H1
    clear H1
    replace H := Option.bind_eq_some_iff.mp H
    obtain ⟨t199, A40, H⟩ := H
    replace H : (if (t199.size : Int) = 0 then (some true) else ((spec_DrawPlaces.f k l0).bind fun t200 => (if 0 < (t200.length : Int) then (if 1 < (t200.length : Int) then ((impl_BestMatch.f k t199 (Int.tmod (rd t200 0) (t199.size : Int)) (wrap64 (1 + (Int.tmod (rd t200 1) 64)))).bind fun bt205 => ((spec_BestMatch.f k t199 (Int.tmod (rd t200 0) (t199.size : Int)) (wrap64 (1 + (Int.tmod (rd t200 1) 64)))).bind fun bt207 => (if bt205.1 = bt207.1 then (laws_FnMatches.j0 k t199 (Int.tmod (rd t200 0) (t199.size : Int)) bt205.1 bt205.2 (bt205.2 != bt207.2)) else (laws_FnMatches.j0 k t199 (Int.tmod (rd t200 0) (t199.size : Int)) bt205.1 bt205.2 true)))) else (none)) else (none)))) = some r := H
    have A4 := Aside0.mk A40
    clear A40
    by_cases c5 : (t199.size : Int) = 0
    · rw [if_pos c5] at H
      have c5b0 : ((t199.size : Int) == 0) = true := beq_iff_eq.mpr c5
      have c5b1 : ((t199.size : Int) != 0) = false := bne_eq_false_iff_eq.mpr c5
      clear c5
      obtain rfl := Option.some.inj H
      go_enter Try.func7, Try.ntmps7
      go_wp2_with (first | (go_at_call 20; (with_reducible refine (laws_big.calls _ _ l0 false _ ?side1 ?side2 A2.out).mono ?_); (case side1 => repeat (first | exact HR0.out | (with_reducible refine Kd.C_alloc ?_ _) | (with_reducible refine Kd.C_drewN ?_ _) | (with_reducible refine Kd.C_drew ?_))); (case side2 => exact HC0.out); rintro e w' ⟨rfl, ⟨nd, rfl⟩⟩; (try first | exact ⟨rfl, _, World.drewN_drewN _ _ _⟩ | exact ⟨rfl, _, Eq.trans (World.drewN_drewN _ _ _) (congrArg (World.drewN _) (Nat.add_assoc _ _ _))⟩)) | (go_at_call 21; (with_reducible refine (spec_DrawData.calls k _ _ l0 t199 _ ?side1 ?side2 A4.out).mono ?_); (case side1 => repeat (first | exact HR0.out | (with_reducible refine Kd.C_alloc ?_ _) | (with_reducible refine Kd.C_drewN ?_ _) | (with_reducible refine Kd.C_drew ?_))); (case side2 => exact HC0.out); rintro e w6 ⟨rfl, hb⟩; have n0_ := Aside0.mk (below_step (by repeat (first | (with_reducible first | exact HB.out | apply below_alloc | apply pw_below_drewN | apply below_drew1) | exact HB.out)) hb); clear HB; have HB := n0_; clear n0_; (try clear hb); (try clear hb2); (try clear hk); (try clear hi)))
      repeat (go_quiet (first | (go_at_call 20; (with_reducible refine (laws_big.calls _ _ l0 false _ ?side1 ?side2 A2.out).mono ?_); (case side1 => repeat (first | exact HR0.out | (with_reducible refine Kd.C_alloc ?_ _) | (with_reducible refine Kd.C_drewN ?_ _) | (with_reducible refine Kd.C_drew ?_))); (case side2 => exact HC0.out); rintro e w' ⟨rfl, ⟨nd, rfl⟩⟩; (try first | exact ⟨rfl, _, World.drewN_drewN _ _ _⟩ | exact ⟨rfl, _, Eq.trans (World.drewN_drewN _ _ _) (congrArg (World.drewN _) (Nat.add_assoc _ _ _))⟩)) | (go_at_call 21; (with_reducible refine (spec_DrawData.calls k _ _ l0 t199 _ ?side1 ?side2 A4.out).mono ?_); (case side1 => repeat (first | exact HR0.out | (with_reducible refine Kd.C_alloc ?_ _) | (with_reducible refine Kd.C_drewN ?_ _) | (with_reducible refine Kd.C_drew ?_))); (case side2 => exact HC0.out); rintro e w6 ⟨rfl, hb⟩; have n0_ := Aside0.mk (below_step (by repeat (first | (with_reducible first | exact HB.out | apply below_alloc | apply pw_below_drewN | apply below_drew1) | exact HB.out)) hb); clear HB; have HB := n0_; clear n0_; (try clear hb); (try clear hb2); (try clear hk); (try clear hi))); try go_wp2_with (first | (go_at_call 20; (with_reducible refine (laws_big.calls _ _ l0 false _ ?side1 ?side2 A2.out).mono ?_); (case side1 => repeat (first | exact HR0.out | (with_reducible refine Kd.C_alloc ?_ _) | (with_reducible refine Kd.C_drewN ?_ _) | (with_reducible refine Kd.C_drew ?_))); (case side2 => exact HC0.out); rintro e w' ⟨rfl, ⟨nd, rfl⟩⟩; (try first | exact ⟨rfl, _, World.drewN_drewN _ _ _⟩ | exact ⟨rfl, _, Eq.trans (World.drewN_drewN _ _ _) (congrArg (World.drewN _) (Nat.add_assoc _ _ _))⟩)) | (go_at_call 21; (with_reducible refine (spec_DrawData.calls k _ _ l0 t199 _ ?side1 ?side2 A4.out).mono ?_); (case side1 => repeat (first | exact HR0.out | (with_reducible refine Kd.C_alloc ?_ _) | (with_reducible refine Kd.C_drewN ?_ _) | (with_reducible refine Kd.C_drew ?_))); (case side2 => exact HC0.out); rintro e w6 ⟨rfl, hb⟩; have n0_ := Aside0.mk (below_step (by repeat (first | (with_reducible first | exact HB.out | apply below_alloc | apply pw_below_drewN | apply below_drew1) | exact HB.out)) hb); clear HB; have HB := n0_; clear n0_; (try clear hb); (try clear hb2); (try clear hk); (try clear hi))))
      go_ret
      exact ⟨by first | rfl | (simp [errW_none, errW_some] <;> rfl) | (simp [*, errW_none, errW_some] <;> rfl), by repeat (first | (with_reducible first | exact HB.out | apply below_alloc | apply pw_below_drewN | apply below_drew1) | exact HB.out)⟩
    · rw [if_neg c5] at H
      have c5b0 : ((t199.size : Int) == 0) = false := beq_eq_false_iff_ne.mpr c5
      have c5b1 : ((t199.size : Int) != 0) = true := bne_iff_ne.mpr c5
      replace H := Option.bind_eq_some_iff.mp H
      obtain ⟨t200, A70, H⟩ := H
      replace H : (if 0 < (t200.length : Int) then (if 1 < (t200.length : Int) then ((impl_BestMatch.f k t199 (Int.tmod (rd t200 0) (t199.size : Int)) (wrap64 (1 + (Int.tmod (rd t200 1) 64)))).bind fun bt205 => ((spec_BestMatch.f k t199 (Int.tmod (rd t200 0) (t199.size : Int)) (wrap64 (1 + (Int.tmod (rd t200 1) 64)))).bind fun bt207 => (if bt205.1 = bt207.1 then (laws_FnMatches.j0 k t199 (Int.tmod (rd t200 0) (t199.size : Int)) bt205.1 bt205.2 (bt205.2 != bt207.2)) else (laws_FnMatches.j0 k t199 (Int.tmod (rd t200 0) (t199.size : Int)) bt205.1 bt205.2 true)))) else (none)) else (none)) = some r := H
      have A7 := Aside0.mk A70
      clear A70
      by_cases c8 : 0 < (t200.length : Int)
      · rw [if_pos c8] at H
        have c8b0 : decide (0 < (t200.length : Int)) = true := decide_eq_true c8
        have c8b1 : decide (0 < t200.length) = true := decide_eq_true (by omega)
        clear c8
        by_cases c9 : 1 < (t200.length : Int)
        · rw [if_pos c9] at H
          have c9b0 : decide (1 < (t200.length : Int)) = true := decide_eq_true c9
          have c9b1 : decide (1 < t200.length) = true := decide_eq_true (by omega)
          clear c9
          replace H := Option.bind_eq_some_iff.mp H
          obtain ⟨⟨t205, t206⟩, A100, H⟩ := H
          replace H : ((spec_BestMatch.f k t199 (Int.tmod (rd t200 0) (t199.size : Int)) (wrap64 (1 + (Int.tmod (rd t200 1) 64)))).bind fun bt207 => (if t205 = bt207.1 then (laws_FnMatches.j0 k t199 (Int.tmod (rd t200 0) (t199.size : Int)) t205 t206 (t206 != bt207.2)) else (laws_FnMatches.j0 k t199 (Int.tmod (rd t200 0) (t199.size : Int)) t205 t206 true))) = some r := H
          have A10 := Aside0.mk A100
          clear A100
          replace H := Option.bind_eq_some_iff.mp H
          obtain ⟨⟨t207, t208⟩, A110, H⟩ := H
          replace H : (if t205 = t207 then (laws_FnMatches.j0 k t199 (Int.tmod (rd t200 0) (t199.size : Int)) t205 t206 (t206 != t208)) else (laws_FnMatches.j0 k t199 (Int.tmod (rd t200 0) (t199.size : Int)) t205 t206 true)) = some r := H
          have A11 := Aside0.mk A110
          clear A110
          have HC12 := Aside0.mk H
          clear H
          go_enter Try.func7, Try.ntmps7
          go_upto_region 11 with (first | (go_at_call 20; (with_reducible refine (laws_big.calls _ _ l0 false _ ?side1 ?side2 A2.out).mono ?_); (case side1 => repeat (first | exact HR0.out | (with_reducible refine Kd.C_alloc ?_ _) | (with_reducible refine Kd.C_drewN ?_ _) | (with_reducible refine Kd.C_drew ?_))); (case side2 => exact HC0.out); rintro e w' ⟨rfl, ⟨nd, rfl⟩⟩; (try first | exact ⟨rfl, _, World.drewN_drewN _ _ _⟩ | exact ⟨rfl, _, Eq.trans (World.drewN_drewN _ _ _) (congrArg (World.drewN _) (Nat.add_assoc _ _ _))⟩)) | (go_at_call 21; (with_reducible refine (spec_DrawData.calls k _ _ l0 t199 _ ?side1 ?side2 A4.out).mono ?_); (case side1 => repeat (first | exact HR0.out | (with_reducible refine Kd.C_alloc ?_ _) | (with_reducible refine Kd.C_drewN ?_ _) | (with_reducible refine Kd.C_drew ?_))); (case side2 => exact HC0.out); rintro e w13 ⟨rfl, hb⟩; have n0_ := Aside0.mk (below_step (by repeat (first | (with_reducible first | exact HB.out | apply below_alloc | apply pw_below_drewN | apply below_drew1) | exact HB.out)) hb); clear HB; have HB := n0_; clear n0_; (try clear hb); (try clear hb2); (try clear hk); (try clear hi)) | (go_at_call 22; (with_reducible refine (spec_DrawPlaces.calls k _ _ l0 t200 _ ?side1 ?side2 A7.out).mono ?_); (case side1 => repeat (first | exact (Kd.C_below HR0.out HB.out) | (with_reducible refine Kd.C_alloc ?_ _) | (with_reducible refine Kd.C_drewN ?_ _) | (with_reducible refine Kd.C_drew ?_))); (case side2 => exact HC0.out); rintro e w14 ⟨v201, rfl, ho0, hb⟩; have n0_ := Aside0.mk (Kd.R_lower ho0 (below_size (by repeat (first | (with_reducible first | exact HB.out | apply below_alloc | apply pw_below_drewN | apply below_drew1) | exact HB.out)))); have n1_ := Aside0.mk (below_step (by repeat (first | (with_reducible first | exact HB.out | apply below_alloc | apply pw_below_drewN | apply below_drew1) | exact HB.out)) hb); clear HB; have HO202 := n0_; have HB := n1_; clear n0_ n1_; (try clear hb); (try clear hb2); (try clear hk); (try clear hi); (try clear ho0); obtain ⟨Ao15, co15, eo15⟩ := Kd.R_slice HO202.out; subst eo15; have p203 : 0 ≤ (0 : Int) := (by omega); have q203 : 0 < (t200.length : Int) := of_decide_eq_true (by first | (with_reducible assumption) | assumption); obtain ⟨ad203, e203, hx203_0⟩ := Kd.at_int (Kd.R_reads' HO202.out).2.2 0 p203 q203; cases e203; have qi203 : (0 < t200.length) = True := eq_true (by omega); (try rw [show ((0 : Int)).toNat = 0 from rfl] at hx203_0); (try rw [Addr.add_zero'] at hx203_0); replace p203 := eq_true p203; replace q203 := eq_true q203; have p204 : 0 ≤ (1 : Int) := (by omega); have q204 : 1 < (t200.length : Int) := of_decide_eq_true (by first | (with_reducible assumption) | assumption); obtain ⟨ad204, e204, hx204_0⟩ := Kd.at_int (Kd.R_reads' HO202.out).2.2 1 p204 q204; obtain rfl : ad203 = ad204 := (by injection e204); (try simp only [show (1 : Int).toNat = 1 from rfl, Nat.reduceMul, Nat.reduceEqDiff, Go.Addr.add, ↓reduceIte] at hx204_0); have qi204 : (1 < t200.length) = True := eq_true (by omega); (try rw [show ((1 : Int)).toNat = 1 from rfl] at hx204_0); replace p204 := eq_true p204; replace q204 := eq_true q204) | (go_at_call 10; (with_reducible refine (impl_BestMatch.calls k t199 (Int.tmod (rd t200 0) (t199.size : Int)) (wrap64 (1 + (Int.tmod (rd t200 1) 64))) t205 t206 _ A10.out).mono ?_); rintro e w16 ⟨rfl, hb⟩; have n0_ := Aside0.mk (Kd.R_below (by (with_reducible repeat (first | apply Kd.R_alloc | apply Kd.R_drewN | apply Kd.R_drew)); exact HO202.out) hb); have n1_ := Aside0.mk (below_step (by repeat (first | (with_reducible first | exact HB.out | apply below_alloc | apply pw_below_drewN | apply below_drew1) | exact HB.out)) hb); clear HO202; clear HB; have HO202 := n0_; have HB := n1_; clear n0_ n1_; (try clear hb); (try clear hb2); (try clear hk); (try clear hi)) | (go_at_call 9; (with_reducible refine (spec_BestMatch.calls k t199 (Int.tmod (rd t200 0) (t199.size : Int)) (wrap64 (1 + (Int.tmod (rd t200 1) 64))) t207 t208 _ A11.out).mono ?_); rintro e w' ⟨rfl, ⟨nd, rfl⟩⟩; (try first | exact ⟨rfl, _, World.drewN_drewN _ _ _⟩ | exact ⟨rfl, _, Eq.trans (World.drewN_drewN _ _ _) (congrArg (World.drewN _) (Nat.add_assoc _ _ _))⟩)))
          repeat (go_quiet (first | (go_at_call 20; (with_reducible refine (laws_big.calls _ _ l0 false _ ?side1 ?side2 A2.out).mono ?_); (case side1 => repeat (first | exact HR0.out | (with_reducible refine Kd.C_alloc ?_ _) | (with_reducible refine Kd.C_drewN ?_ _) | (with_reducible refine Kd.C_drew ?_))); (case side2 => exact HC0.out); rintro e w' ⟨rfl, ⟨nd, rfl⟩⟩; (try first | exact ⟨rfl, _, World.drewN_drewN _ _ _⟩ | exact ⟨rfl, _, Eq.trans (World.drewN_drewN _ _ _) (congrArg (World.drewN _) (Nat.add_assoc _ _ _))⟩)) | (go_at_call 21; (with_reducible refine (spec_DrawData.calls k _ _ l0 t199 _ ?side1 ?side2 A4.out).mono ?_); (case side1 => repeat (first | exact HR0.out | (with_reducible refine Kd.C_alloc ?_ _) | (with_reducible refine Kd.C_drewN ?_ _) | (with_reducible refine Kd.C_drew ?_))); (case side2 => exact HC0.out); rintro e w13 ⟨rfl, hb⟩; have n0_ := Aside0.mk (below_step (by repeat (first | (with_reducible first | exact HB.out | apply below_alloc | apply pw_below_drewN | apply below_drew1) | exact HB.out)) hb); clear HB; have HB := n0_; clear n0_; (try clear hb); (try clear hb2); (try clear hk); (try clear hi)) | (go_at_call 22; (with_reducible refine (spec_DrawPlaces.calls k _ _ l0 t200 _ ?side1 ?side2 A7.out).mono ?_); (case side1 => repeat (first | exact (Kd.C_below HR0.out HB.out) | (with_reducible refine Kd.C_alloc ?_ _) | (with_reducible refine Kd.C_drewN ?_ _) | (with_reducible refine Kd.C_drew ?_))); (case side2 => exact HC0.out); rintro e w14 ⟨v201, rfl, ho0, hb⟩; have n0_ := Aside0.mk (Kd.R_lower ho0 (below_size (by repeat (first | (with_reducible first | exact HB.out | apply below_alloc | apply pw_below_drewN | apply below_drew1) | exact HB.out)))); have n1_ := Aside0.mk (below_step (by repeat (first | (with_reducible first | exact HB.out | apply below_alloc | apply pw_below_drewN | apply below_drew1) | exact HB.out)) hb); clear HB; have HO202 := n0_; have HB := n1_; clear n0_ n1_; (try clear hb); (try clear hb2); (try clear hk); (try clear hi); (try clear ho0); obtain ⟨Ao15, co15, eo15⟩ := Kd.R_slice HO202.out; subst eo15; have p203 : 0 ≤ (0 : Int) := (by omega); have q203 : 0 < (t200.length : Int) := of_decide_eq_true (by first | (with_reducible assumption) | assumption); obtain ⟨ad203, e203, hx203_0⟩ := Kd.at_int (Kd.R_reads' HO202.out).2.2 0 p203 q203; cases e203; have qi203 : (0 < t200.length) = True := eq_true (by omega); (try rw [show ((0 : Int)).toNat = 0 from rfl] at hx203_0); (try rw [Addr.add_zero'] at hx203_0); replace p203 := eq_true p203; replace q203 := eq_true q203; have p204 : 0 ≤ (1 : Int) := (by omega); have q204 : 1 < (t200.length : Int) := of_decide_eq_true (by first | (with_reducible assumption) | assumption); obtain ⟨ad204, e204, hx204_0⟩ := Kd.at_int (Kd.R_reads' HO202.out).2.2 1 p204 q204; obtain rfl : ad203 = ad204 := (by injection e204); (try simp only [show (1 : Int).toNat = 1 from rfl, Nat.reduceMul, Nat.reduceEqDiff, Go.Addr.add, ↓reduceIte] at hx204_0); have qi204 : (1 < t200.length) = True := eq_true (by omega); (try rw [show ((1 : Int)).toNat = 1 from rfl] at hx204_0); replace p204 := eq_true p204; replace q204 := eq_true q204) | (go_at_call 10; (with_reducible refine (impl_BestMatch.calls k t199 (Int.tmod (rd t200 0) (t199.size : Int)) (wrap64 (1 + (Int.tmod (rd t200 1) 64))) t205 t206 _ A10.out).mono ?_); rintro e w16 ⟨rfl, hb⟩; have n0_ := Aside0.mk (Kd.R_below (by (with_reducible repeat (first | apply Kd.R_alloc | apply Kd.R_drewN | apply Kd.R_drew)); exact HO202.out) hb); have n1_ := Aside0.mk (below_step (by repeat (first | (with_reducible first | exact HB.out | apply below_alloc | apply pw_below_drewN | apply below_drew1) | exact HB.out)) hb); clear HO202; clear HB; have HO202 := n0_; have HB := n1_; clear n0_ n1_; (try clear hb); (try clear hb2); (try clear hk); (try clear hi)) | (go_at_call 9; (with_reducible refine (spec_BestMatch.calls k t199 (Int.tmod (rd t200 0) (t199.size : Int)) (wrap64 (1 + (Int.tmod (rd t200 1) 64))) t207 t208 _ A11.out).mono ?_); rintro e w' ⟨rfl, ⟨nd, rfl⟩⟩; (try first | exact ⟨rfl, _, World.drewN_drewN _ _ _⟩ | exact ⟨rfl, _, Eq.trans (World.drewN_drewN _ _ _) (congrArg (World.drewN _) (Nat.add_assoc _ _ _))⟩))); go_upto_region 11 with (first | (go_at_call 20; (with_reducible refine (laws_big.calls _ _ l0 false _ ?side1 ?side2 A2.out).mono ?_); (case side1 => repeat (first | exact HR0.out | (with_reducible refine Kd.C_alloc ?_ _) | (with_reducible refine Kd.C_drewN ?_ _) | (with_reducible refine Kd.C_drew ?_))); (case side2 => exact HC0.out); rintro e w' ⟨rfl, ⟨nd, rfl⟩⟩; (try first | exact ⟨rfl, _, World.drewN_drewN _ _ _⟩ | exact ⟨rfl, _, Eq.trans (World.drewN_drewN _ _ _) (congrArg (World.drewN _) (Nat.add_assoc _ _ _))⟩)) | (go_at_call 21; (with_reducible refine (spec_DrawData.calls k _ _ l0 t199 _ ?side1 ?side2 A4.out).mono ?_); (case side1 => repeat (first | exact HR0.out | (with_reducible refine Kd.C_alloc ?_ _) | (with_reducible refine Kd.C_drewN ?_ _) | (with_reducible refine Kd.C_drew ?_))); (case side2 => exact HC0.out); rintro e w13 ⟨rfl, hb⟩; have n0_ := Aside0.mk (below_step (by repeat (first | (with_reducible first | exact HB.out | apply below_alloc | apply pw_below_drewN | apply below_drew1) | exact HB.out)) hb); clear HB; have HB := n0_; clear n0_; (try clear hb); (try clear hb2); (try clear hk); (try clear hi)) | (go_at_call 22; (with_reducible refine (spec_DrawPlaces.calls k _ _ l0 t200 _ ?side1 ?side2 A7.out).mono ?_); (case side1 => repeat (first | exact (Kd.C_below HR0.out HB.out) | (with_reducible refine Kd.C_alloc ?_ _) | (with_reducible refine Kd.C_drewN ?_ _) | (with_reducible refine Kd.C_drew ?_))); (case side2 => exact HC0.out); rintro e w14 ⟨v201, rfl, ho0, hb⟩; have n0_ := Aside0.mk (Kd.R_lower ho0 (below_size (by repeat (first | (with_reducible first | exact HB.out | apply below_alloc | apply pw_below_drewN | apply below_drew1) | exact HB.out)))); have n1_ := Aside0.mk (below_step (by repeat (first | (with_reducible first | exact HB.out | apply below_alloc | apply pw_below_drewN | apply below_drew1) | exact HB.out)) hb); clear HB; have HO202 := n0_; have HB := n1_; clear n0_ n1_; (try clear hb); (try clear hb2); (try clear hk); (try clear hi); (try clear ho0); obtain ⟨Ao15, co15, eo15⟩ := Kd.R_slice HO202.out; subst eo15; have p203 : 0 ≤ (0 : Int) := (by omega); have q203 : 0 < (t200.length : Int) := of_decide_eq_true (by first | (with_reducible assumption) | assumption); obtain ⟨ad203, e203, hx203_0⟩ := Kd.at_int (Kd.R_reads' HO202.out).2.2 0 p203 q203; cases e203; have qi203 : (0 < t200.length) = True := eq_true (by omega); (try rw [show ((0 : Int)).toNat = 0 from rfl] at hx203_0); (try rw [Addr.add_zero'] at hx203_0); replace p203 := eq_true p203; replace q203 := eq_true q203; have p204 : 0 ≤ (1 : Int) := (by omega); have q204 : 1 < (t200.length : Int) := of_decide_eq_true (by first | (with_reducible assumption) | assumption); obtain ⟨ad204, e204, hx204_0⟩ := Kd.at_int (Kd.R_reads' HO202.out).2.2 1 p204 q204; obtain rfl : ad203 = ad204 := (by injection e204); (try simp only [show (1 : Int).toNat = 1 from rfl, Nat.reduceMul, Nat.reduceEqDiff, Go.Addr.add, ↓reduceIte] at hx204_0); have qi204 : (1 < t200.length) = True := eq_true (by omega); (try rw [show ((1 : Int)).toNat = 1 from rfl] at hx204_0); replace p204 := eq_true p204; replace q204 := eq_true q204) | (go_at_call 10; (with_reducible refine (impl_BestMatch.calls k t199 (Int.tmod (rd t200 0) (t199.size : Int)) (wrap64 (1 + (Int.tmod (rd t200 1) 64))) t205 t206 _ A10.out).mono ?_); rintro e w16 ⟨rfl, hb⟩; have n0_ := Aside0.mk (Kd.R_below (by (with_reducible repeat (first | apply Kd.R_alloc | apply Kd.R_drewN | apply Kd.R_drew)); exact HO202.out) hb); have n1_ := Aside0.mk (below_step (by repeat (first | (with_reducible first | exact HB.out | apply below_alloc | apply pw_below_drewN | apply below_drew1) | exact HB.out)) hb); clear HO202; clear HB; have HO202 := n0_; have HB := n1_; clear n0_ n1_; (try clear hb); (try clear hb2); (try clear hk); (try clear hi)) | (go_at_call 9; (with_reducible refine (spec_BestMatch.calls k t199 (Int.tmod (rd t200 0) (t199.size : Int)) (wrap64 (1 + (Int.tmod (rd t200 1) 64))) t207 t208 _ A11.out).mono ?_); rintro e w' ⟨rfl, ⟨nd, rfl⟩⟩; (try first | exact ⟨rfl, _, World.drewN_drewN _ _ _⟩ | exact ⟨rfl, _, Eq.trans (World.drewN_drewN _ _ _) (congrArg (World.drewN _) (Nat.add_assoc _ _ _))⟩))))
          (try simp only [Act.put, List.setIfInBounds_toArray, List.set_cons_zero, List.set_cons_succ])
          go_cut [53] (fun v53 wc => ∃ (kq : Nat) (x53_11 : Bool), v53 = .bool x53_11 ∧ Aside0 (laws_FnMatches.j0 kq t199 (Int.tmod (rd t200 0) (t199.size : Int)) t205 t206 x53_11 = some r) ∧ Aside0 (kq ≤ k) ∧ Aside0 (Below w.heap.size w wc))
          case first =>
            have H := HC12.out
            clear HC12
            by_cases c17 : t205 = t207
            · rw [if_pos c17] at H
              have c17b0 : (t205 == t207) = true := beq_iff_eq.mpr c17
              have c17b1 : (t205 != t207) = false := bne_eq_false_iff_eq.mpr c17
              clear c17
              (first | rw [c17b0] | (simp only [i64_w, i32_w]; rw [c17b0]) | skip)
              have H' := Aside0.mk H
              clear H
              go_wp2
              repeat (go_quiet (fail); try go_wp2)
              go_meet
              case rel => exact ⟨_, ((t206 != t208)), (by first | rfl | (simp; done) | (simp [*]; done)), H', ⟨by first | omega | exact Nat.le_refl _⟩, ⟨by repeat (first | (with_reducible first | exact HB.out | apply below_alloc | apply pw_below_drewN | apply below_drew1) | exact HB.out)⟩⟩
            · rw [if_neg c17] at H
              have c17b0 : (t205 == t207) = false := beq_eq_false_iff_ne.mpr c17
              have c17b1 : (t205 != t207) = true := bne_iff_ne.mpr c17
              (first | rw [c17b0] | (simp only [i64_w, i32_w]; rw [c17b0]) | skip)
              have H' := Aside0.mk H
              clear H
              go_wp2
              repeat (go_quiet (fail); try go_wp2)
              go_meet
              case rel => exact ⟨_, (true), (by first | rfl | (simp; done) | (simp [*]; done)), H', ⟨by first | omega | exact Nat.le_refl _⟩, ⟨by repeat (first | (with_reducible first | exact HB.out | apply below_alloc | apply pw_below_drewN | apply below_drew1) | exact HB.out)⟩⟩
          case rest =>
            clear HC12
            try clear c1
            try clear p2
            try clear q2
            try clear hx2
            try clear qi2
            try clear c3
            try clear c5
            try clear c5b0
            try clear c5b1
            try clear p6
            try clear c7
            try clear c8
            try clear c8b0
            try clear c8b1
            try clear c9
            try clear c9b0
            try clear c9b1
            try clear c17
            try clear c17b0
            try clear c17b1
            try clear hx203_0
            try clear hx204_0
            try clear p203
            try clear p204
            try clear q203
            try clear q204
            obtain ⟨kq, x53_11, rfl, HA, HJ11, HB⟩ := hcut
            cases kq with
            | zero => exact absurd HA.out (by simp [laws_FnMatches.j0])
            | succ kj11 =>
              have H := HA.out
              clear HA
              simp only [laws_FnMatches.j0] at H
              by_cases c18 : x53_11 = true
              · subst c18
                have H1 : (some false) = some r := by rw [if_pos rfl] at H; exact H
                clear H
                have H := H1
                clear H1
                obtain rfl := Option.some.inj H
                go_wp2
                repeat (go_quiet (fail); try go_wp2)
                go_ret
                exact ⟨by first | rfl | (simp [errW_none, errW_some] <;> rfl) | (simp [*, errW_none, errW_some] <;> rfl), by repeat (first | (with_reducible first | exact HB.out | apply below_alloc | apply pw_below_drewN | apply below_drew1) | exact HB.out)⟩
              · replace c18 := Bool.eq_false_iff.mpr c18
                subst c18
                have H1 : (if t205 = 0 then (some (t206 == 0)) else (laws_FnMatches.l0 kj11 t199 (Int.tmod (rd t200 0) (t199.size : Int)) t205 t206 0)) = some r := by rw [if_neg (show ¬ (false = true) by decide)] at H; exact H
                clear H
                have H := H1
                clear H1
                by_cases c19 : t205 = 0
                · rw [if_pos c19] at H
                  have c19b0 : (t205 == 0) = true := beq_iff_eq.mpr c19
                  have c19b1 : (t205 != 0) = false := bne_eq_false_iff_eq.mpr c19
                  clear c19
                  obtain rfl := Option.some.inj H
                  go_wp2
                  repeat (go_quiet (fail); try go_wp2)
                  go_ret
                  exact ⟨by first | rfl | (simp [errW_none, errW_some] <;> rfl) | (simp [*, errW_none, errW_some] <;> rfl), by repeat (first | (with_reducible first | exact HB.out | apply below_alloc | apply pw_below_drewN | apply below_drew1) | exact HB.out)⟩
                · rw [if_neg c19] at H
                  have c19b0 : (t205 == 0) = false := beq_eq_false_iff_ne.mpr c19
                  have c19b1 : (t205 != 0) = true := bne_iff_ne.mpr c19
                  have H' := Aside0.mk H
                  clear H
                  go_wp2
                  repeat (go_quiet (fail); try go_wp2)
                  go_loopg [11] kj11 (fun kq v11 w' => ∃ (x11_2 : Int), v11 = .int .i64 x11_2 ∧ Aside0 (laws_FnMatches.l0 kq t199 (Int.tmod (rd t200 0) (t199.size : Int)) t205 t206 x11_2 = some r) ∧ Aside0 (kq ≤ kj11) ∧ Aside0 (Below w.heap.size w w'))
                  case atStart => exact ⟨(0), (by first | rfl | (simp; done) | (simp [*]; done)), H', ⟨Nat.le_refl _⟩, ⟨by repeat (first | (with_reducible first | exact HB.out | apply below_alloc | apply pw_below_drewN | apply below_drew1) | exact HB.out)⟩⟩
                  case round =>
                    clear H'
                    try clear c1
                    try clear p2
                    try clear q2
                    try clear hx2
                    try clear qi2
                    try clear c3
                    try clear c5
                    try clear c5b0
                    try clear c5b1
                    try clear p6
                    try clear c7
                    try clear c8
                    try clear c8b0
                    try clear c8b1
                    try clear c9
                    try clear c9b0
                    try clear c9b1
                    try clear c17
                    try clear c17b0
                    try clear c17b1
                    try clear c18
                    try clear c19
                    try clear c19b0
                    try clear c19b1
                    try clear hx203_0
                    try clear hx204_0
                    try clear p2
                    try clear p203
                    try clear p204
                    try clear p6
                    try clear q2
                    try clear q203
                    try clear q204
                    obtain ⟨x11_2, rfl, HA, HK2, HB⟩ := hrel
                    cases gk with
                    | zero => exact absurd HA.out (by simp [laws_FnMatches.l0])
                    | succ k2 =>
                      have H := HA.out
                      clear HA
                      simp only [laws_FnMatches.l0] at H
                      by_cases c20 : x11_2 < t205
                      · rw [if_pos c20] at H
                        have c20b0 : decide (x11_2 < t205) = true := decide_eq_true c20
                        clear c20
                        obtain ⟨ji21, hji21⟩ : ∃ j_ : Int, (wrap64 ((Int.tmod (rd t200 0) (t199.size : Int)) + x11_2)) = j_ := ⟨_, rfl⟩
                        replace H : (if 0 ≤ (ji21) then (if (ji21) < (t199.size : Int) then (if 0 ≤ (wrap64 ((ji21) - t206)) then (if (wrap64 ((ji21) - t206)) < (t199.size : Int) then (if (bt t199 (ji21)) = (bt t199 (wrap64 ((ji21) - t206))) then (laws_FnMatches.l0 k2 t199 (Int.tmod (rd t200 0) (t199.size : Int)) t205 t206 (wrap64 (x11_2 + 1))) else (some false)) else (none)) else (none)) else (none)) else (none)) = some r := by first | (rw [hji21] at H; exact H) | (simp only [hji21] at H ⊢; exact H)
                        have hji21w : (IntKind.i64.wrap ((Int.tmod (rd t200 0) (t199.size : Int)) + x11_2)) = ji21 := (i64_w _).trans hji21
                        by_cases c22 : 0 ≤ (ji21)
                        · rw [if_pos c22] at H
                          have c22b0 : decide (0 ≤ (ji21)) = true := decide_eq_true c22
                          clear c22
                          by_cases c23 : (ji21) < (t199.size : Int)
                          · rw [if_pos c23] at H
                            have c23b0 : decide ((ji21) < (t199.size : Int)) = true := decide_eq_true c23
                            clear c23
                            obtain ⟨ji25, hji25⟩ : ∃ j_ : Int, (wrap64 ((ji21) - t206)) = j_ := ⟨_, rfl⟩
                            replace H : (if 0 ≤ (ji25) then (if (ji25) < (t199.size : Int) then (if (bt t199 (ji21)) = (bt t199 (ji25)) then (laws_FnMatches.l0 k2 t199 (Int.tmod (rd t200 0) (t199.size : Int)) t205 t206 (wrap64 (x11_2 + 1))) else (some false)) else (none)) else (none)) = some r := by first | (rw [hji25] at H; exact H) | (simp only [hji25] at H ⊢; exact H)
                            have hji25w : (IntKind.i64.wrap ((ji21) - t206)) = ji25 := (i64_w _).trans hji25
                            by_cases c26 : 0 ≤ (ji25)
                            · rw [if_pos c26] at H
                              have c26b0 : decide (0 ≤ (ji25)) = true := decide_eq_true c26
                              clear c26
                              by_cases c27 : (ji25) < (t199.size : Int)
                              · rw [if_pos c27] at H
                                have c27b0 : decide ((ji25) < (t199.size : Int)) = true := decide_eq_true c27
                                clear c27
                                by_cases c29 : (bt t199 (ji21)) = (bt t199 (ji25))
                                · rw [if_pos c29] at H
                                  have c29b0 : ((bt t199 (ji21)) == (bt t199 (ji25))) = true := beq_iff_eq.mpr c29
                                  have c29b1 : ((bt t199 (ji21)) != (bt t199 (ji25))) = false := bne_eq_false_iff_eq.mpr c29
                                  clear c29
                                  have H' := Aside0.mk H
                                  clear H
                                  have p24 : 0 ≤ ((ji21) : Int) := of_decide_eq_true (by first | (with_reducible assumption) | assumption)
                                  have q24 : (ji21) < (t199.size : Int) := of_decide_eq_true (by first | (with_reducible assumption) | assumption)
                                  have hx24 := bt_at t199 (ji21)
                                  replace p24 := eq_true p24
                                  replace q24 := eq_true q24
                                  have p28 : 0 ≤ ((ji25) : Int) := of_decide_eq_true (by first | (with_reducible assumption) | assumption)
                                  have q28 : (ji25) < (t199.size : Int) := of_decide_eq_true (by first | (with_reducible assumption) | assumption)
                                  have hx28 := bt_at t199 (ji25)
                                  replace p28 := eq_true p28
                                  replace q28 := eq_true q28
                                  go_wp2
                                  repeat (go_quiet (fail); try go_wp2)
                                  go_roundg k2
                                  case measure => have := HJ11.out; have := HK2.out; omega
                                  case rel => exact ⟨(wrap64 (x11_2 + 1)), (by first | rfl | (simp; done) | (simp [*]; done)), H', ⟨by have := HJ11.out; have := HK2.out; omega⟩, ⟨by repeat (first | (with_reducible first | exact HB.out | apply below_alloc | apply pw_below_drewN | apply below_drew1) | exact HB.out)⟩⟩
                                · rw [if_neg c29] at H
                                  have c29b0 : ((bt t199 (ji21)) == (bt t199 (ji25))) = false := beq_eq_false_iff_ne.mpr c29
                                  have c29b1 : ((bt t199 (ji21)) != (bt t199 (ji25))) = true := bne_iff_ne.mpr c29
                                  obtain rfl := Option.some.inj H
                                  have p24 : 0 ≤ ((ji21) : Int) := of_decide_eq_true (by first | (with_reducible assumption) | assumption)
                                  have q24 : (ji21) < (t199.size : Int) := of_decide_eq_true (by first | (with_reducible assumption) | assumption)
                                  have hx24 := bt_at t199 (ji21)
                                  replace p24 := eq_true p24
                                  replace q24 := eq_true q24
                                  have p28 : 0 ≤ ((ji25) : Int) := of_decide_eq_true (by first | (with_reducible assumption) | assumption)
                                  have q28 : (ji25) < (t199.size : Int) := of_decide_eq_true (by first | (with_reducible assumption) | assumption)
                                  have hx28 := bt_at t199 (ji25)
                                  replace p28 := eq_true p28
                                  replace q28 := eq_true q28
                                  go_wp2
                                  repeat (go_quiet (fail); try go_wp2)
                                  go_ret
                                  exact ⟨by first | rfl | (simp [errW_none, errW_some] <;> rfl) | (simp only [← hji21, ← hji25]; first | rfl | (simp [errW_none, errW_some] <;> rfl)) | (simp [*, errW_none, errW_some] <;> rfl), by repeat (first | (with_reducible first | exact HB.out | apply below_alloc | apply pw_below_drewN | apply below_drew1) | exact HB.out)⟩
                              · rw [if_neg c27] at H
                                exact absurd H (by simp)
                            · rw [if_neg c26] at H
                              exact absurd H (by simp)
                          · rw [if_neg c23] at H
                            exact absurd H (by simp)
                        · rw [if_neg c22] at H
                          exact absurd H (by simp)
                      · rw [if_neg c20] at H
                        have c20b0 : decide (x11_2 < t205) = false := decide_eq_false c20
                        clear c20
                        by_cases c30 : t205 ≥ 3
                        · rw [if_pos c30] at H
                          have c30b0 : decide (3 ≤ t205) = true := decide_eq_true c30
                          clear c30
                          by_cases c31 : t205 ≤ 258
                          · rw [if_pos c31] at H
                            have c31b0 : decide (t205 ≤ 258) = true := decide_eq_true c31
                            clear c31
                            by_cases c32 : t205 = 258
                            · rw [if_pos c32] at H
                              have c32b0 : (t205 == 258) = true := beq_iff_eq.mpr c32
                              have c32b1 : (t205 != 258) = false := bne_eq_false_iff_eq.mpr c32
                              clear c32
                              obtain rfl := Option.some.inj H
                              go_wp2
                              repeat (go_quiet (fail); try go_wp2)
                              go_ret
                              exact ⟨by first | rfl | (simp [errW_none, errW_some] <;> rfl) | (simp [*, errW_none, errW_some] <;> rfl), by repeat (first | (with_reducible first | exact HB.out | apply below_alloc | apply pw_below_drewN | apply below_drew1) | exact HB.out)⟩
                            · rw [if_neg c32] at H
                              have c32b0 : (t205 == 258) = false := beq_eq_false_iff_ne.mpr c32
                              have c32b1 : (t205 != 258) = true := bne_iff_ne.mpr c32
                              by_cases c33 : (wrap64 ((Int.tmod (rd t200 0) (t199.size : Int)) + t205)) = (t199.size : Int)
                              · rw [if_pos c33] at H
                                have c33b0 : ((wrap64 ((Int.tmod (rd t200 0) (t199.size : Int)) + t205)) == (t199.size : Int)) = true := beq_iff_eq.mpr c33
                                have c33b1 : ((wrap64 ((Int.tmod (rd t200 0) (t199.size : Int)) + t205)) != (t199.size : Int)) = false := bne_eq_false_iff_eq.mpr c33
                                clear c33
                                obtain rfl := Option.some.inj H
                                go_wp2
                                repeat (go_quiet (fail); try go_wp2)
                                go_ret
                                exact ⟨by first | rfl | (simp [errW_none, errW_some] <;> rfl) | (simp [*, errW_none, errW_some] <;> rfl), by repeat (first | (with_reducible first | exact HB.out | apply below_alloc | apply pw_below_drewN | apply below_drew1) | exact HB.out)⟩
                              · rw [if_neg c33] at H
                                have c33b0 : ((wrap64 ((Int.tmod (rd t200 0) (t199.size : Int)) + t205)) == (t199.size : Int)) = false := beq_eq_false_iff_ne.mpr c33
                                have c33b1 : ((wrap64 ((Int.tmod (rd t200 0) (t199.size : Int)) + t205)) != (t199.size : Int)) = true := bne_iff_ne.mpr c33
                                obtain ⟨ji34, hji34⟩ : ∃ j_ : Int, (wrap64 ((Int.tmod (rd t200 0) (t199.size : Int)) + t205)) = j_ := ⟨_, rfl⟩
                                replace H : (if 0 ≤ (ji34) then (if (ji34) < (t199.size : Int) then (if 0 ≤ (wrap64 ((ji34) - t206)) then (if (wrap64 ((ji34) - t206)) < (t199.size : Int) then (some ((bt t199 (ji34)) != (bt t199 (wrap64 ((ji34) - t206))))) else (none)) else (none)) else (none)) else (none)) = some r := by first | (rw [hji34] at H; exact H) | (simp only [hji34] at H ⊢; exact H)
                                (try rw [hji34] at c33b0)
                                (try rw [hji34] at c33b1)
                                have hji34w : (IntKind.i64.wrap ((Int.tmod (rd t200 0) (t199.size : Int)) + t205)) = ji34 := (i64_w _).trans hji34
                                by_cases c35 : 0 ≤ (ji34)
                                · rw [if_pos c35] at H
                                  have c35b0 : decide (0 ≤ (ji34)) = true := decide_eq_true c35
                                  clear c35
                                  by_cases c36 : (ji34) < (t199.size : Int)
                                  · rw [if_pos c36] at H
                                    have c36b0 : decide ((ji34) < (t199.size : Int)) = true := decide_eq_true c36
                                    clear c36
                                    obtain ⟨ji38, hji38⟩ : ∃ j_ : Int, (wrap64 ((ji34) - t206)) = j_ := ⟨_, rfl⟩
                                    replace H : (if 0 ≤ (ji38) then (if (ji38) < (t199.size : Int) then (some ((bt t199 (ji34)) != (bt t199 (ji38)))) else (none)) else (none)) = some r := by first | (rw [hji38] at H; exact H) | (simp only [hji38] at H ⊢; exact H)
                                    have hji38w : (IntKind.i64.wrap ((ji34) - t206)) = ji38 := (i64_w _).trans hji38
                                    by_cases c39 : 0 ≤ (ji38)
                                    · rw [if_pos c39] at H
                                      have c39b0 : decide (0 ≤ (ji38)) = true := decide_eq_true c39
                                      clear c39
                                      by_cases c40 : (ji38) < (t199.size : Int)
                                      · rw [if_pos c40] at H
                                        have c40b0 : decide ((ji38) < (t199.size : Int)) = true := decide_eq_true c40
                                        clear c40
                                        obtain rfl := Option.some.inj H
                                        have p37 : 0 ≤ ((ji34) : Int) := of_decide_eq_true (by first | (with_reducible assumption) | assumption)
                                        have q37 : (ji34) < (t199.size : Int) := of_decide_eq_true (by first | (with_reducible assumption) | assumption)
                                        have hx37 := bt_at t199 (ji34)
                                        replace p37 := eq_true p37
                                        replace q37 := eq_true q37
                                        have p41 : 0 ≤ ((ji38) : Int) := of_decide_eq_true (by first | (with_reducible assumption) | assumption)
                                        have q41 : (ji38) < (t199.size : Int) := of_decide_eq_true (by first | (with_reducible assumption) | assumption)
                                        have hx41 := bt_at t199 (ji38)
                                        replace p41 := eq_true p41
                                        replace q41 := eq_true q41
                                        go_wp2
                                        repeat (go_quiet (fail); try go_wp2)
                                        go_ret
                                        exact ⟨by first | rfl | (simp [errW_none, errW_some] <;> rfl) | (simp only [← hji34, ← hji38]; first | rfl | (simp [errW_none, errW_some] <;> rfl)) | (simp [*, errW_none, errW_some] <;> rfl), by repeat (first | (with_reducible first | exact HB.out | apply below_alloc | apply pw_below_drewN | apply below_drew1) | exact HB.out)⟩
                                      · rw [if_neg c40] at H
                                        exact absurd H (by simp)
                                    · rw [if_neg c39] at H
                                      exact absurd H (by simp)
                                  · rw [if_neg c36] at H
                                    exact absurd H (by simp)
                                · rw [if_neg c35] at H
                                  exact absurd H (by simp)
                          · rw [if_neg c31] at H
                            have c31b0 : decide (t205 ≤ 258) = false := decide_eq_false c31
                            clear c31
                            obtain rfl := Option.some.inj H
                            go_wp2
                            repeat (go_quiet (fail); try go_wp2)
                            go_ret
                            exact ⟨by first | rfl | (simp [errW_none, errW_some] <;> rfl) | (simp [*, errW_none, errW_some] <;> rfl), by repeat (first | (with_reducible first | exact HB.out | apply below_alloc | apply pw_below_drewN | apply below_drew1) | exact HB.out)⟩
                        · rw [if_neg c30] at H
                          have c30b0 : decide (3 ≤ t205) = false := decide_eq_false c30
                          clear c30
                          obtain rfl := Option.some.inj H
                          go_wp2
                          repeat (go_quiet (fail); try go_wp2)
                          go_ret
                          exact ⟨by first | rfl | (simp [errW_none, errW_some] <;> rfl) | (simp [*, errW_none, errW_some] <;> rfl), by repeat (first | (with_reducible first | exact HB.out | apply below_alloc | apply pw_below_drewN | apply below_drew1) | exact HB.out)⟩
        · rw [if_neg c9] at H
          exact absurd H (by simp)
      · rw [if_neg c8] at H
        exact absurd H (by simp)

/-- THE ONE PURE STATEMENT of laws_FnMatches: yours. -/
def laws_FnMatches.Pure : Prop := ∀ (l0 : List Int), l0.length ≤ maxLen → l0.length * 1 ≤ 140737488351232 → (∀ x ∈ l0, (Lit.int .u8 x).wf = true) → ∃ k, laws_FnMatches.f k l0 = some true
theorem laws_FnMatches.walk (P : laws_FnMatches.Pure) (w : World) (A0 : Option Addr) (c0 : Nat) (l0 : List Int) (hr0 : Kd.C (Kd.int .u8) w A0 l0.length l0) (hc0 : l0.length ≤ c0) (hm0 : l0.length ≤ maxLen) (y0 : l0.length * 1 ≤ 140737488351232) (hw0 : ∀ x ∈ l0, (Lit.int .u8 x).wf = true) :
    Calls Try.prog 7 #[.slice A0 l0.length c0] w fun e w' => e = .returned (.bool true) ∧ Below w.heap.size w w' := by
  obtain ⟨k, h⟩ := P l0 hm0 y0 hw0
  refine (laws_FnMatches.calls k A0 c0 l0 true w hr0 hc0 h).mono ?_
  rintro e w' ⟨rfl, hd⟩
  exact ⟨rfl, hd⟩

end Go.Proofs.Ytaaoojmbomhakaa.PFnMatches
