-- Written by a program of this session (a changed print); Lean checks it.
import Derived.Test.YtaaoojmbomhakaaPFnCheapestx0
import Derived.Test.YtaaoojmbomhakaaPFnCheapestx2
import Derived.Test.YtaaoojmbomhakaaPFnCheapestx3
import Derived.Test.YtaaoojmbomhakaaPFnCheapestx4
import Derived.Test.YtaaoojmbomhakaaPFnCheapestx5
namespace Go.Proofs.Ytaaoojmbomhakaa.PFnCheapest
open Go.RowKit Go.Proofs.YtaaoojmbomhakaaW.PrintWords Go.Proofs.YtaaoojmbomhakaaW.PrintLast Go.Proofs.YtaaoojmbomhakaaW.PrintMore
attribute [local go_sem] max2_int min2_int max_two min_two max_three min_three max_four min_four   -- for this text's walks alone
set_option linter.unusedVariables false
set_option linter.unusedSimpArgs false

/-! ### laws_FnCheapest: function 8 -/
def laws_FnCheapest.j0 : Nat → ByteArray → List (S44) → List (S44) → List (S44) → Bool → Option (Bool)
  | 0, _, _, _, _, _ => none
  | k + 1, x3, x5, x7, x9, x102 => if x102 = true then (some false) else ((impl_TokensCost.f k x5).bind fun bt312 => ((impl_TokensCost.f k x7).bind fun bt314 => ((impl_TokensCost.f k x9).bind fun bt316 => (if bt316.2 = true then (if bt316.1 ≤ bt312.1 then (if bt316.1 ≤ bt314.1 then (some (decide (bt316.1 ≤ (wrap64 (9 * (x3.size : Int)))))) else (some false)) else (some false)) else (some false)))))
def laws_FnCheapest.f (k : Nat) (l0 : List Int) : Option (Bool) := (laws_big.f l0).bind fun t288 => (if t288 = true then (some true) else ((spec_DrawData.f k l0).bind fun t289 => ((spec_DrawPlaces.f k l0).bind fun t290 => (if 0 < (t290.length : Int) then ((impl_Greedy.f k t289 (wrap64 (1 + (Int.tmod (rd t290 0) 64)))).bind fun bt294 => ((impl_Lazy.f k t289 (wrap64 (1 + (Int.tmod (rd t290 0) 64)))).bind fun bt298 => ((impl_Cheapest.f k t289 (wrap64 (1 + (Int.tmod (rd t290 0) 64)))).bind fun bt302 => ((spec_Expand.f (⟨#[]⟩ : ByteArray) bt294.1).bind fun bt306 => ((spec_Expand.f (⟨#[]⟩ : ByteArray) bt298.1).bind fun bt308 => ((spec_Expand.f (⟨#[]⟩ : ByteArray) bt302.1).bind fun bt310 => (if bt294.2 = true then (if bt298.2 = true then (if bt302.2 = true then (if bt306.2 = true then (if bt308.2 = true then (if bt310.2 = true then (if bt306.1.toList = t289.toList then (if bt308.1.toList = t289.toList then (laws_FnCheapest.j0 k t289 bt294.1 bt298.1 bt302.1 (bt310.1.toList != t289.toList)) else (laws_FnCheapest.j0 k t289 bt294.1 bt298.1 bt302.1 true)) else (laws_FnCheapest.j0 k t289 bt294.1 bt298.1 bt302.1 true)) else (laws_FnCheapest.j0 k t289 bt294.1 bt298.1 bt302.1 true)) else (laws_FnCheapest.j0 k t289 bt294.1 bt298.1 bt302.1 true)) else (laws_FnCheapest.j0 k t289 bt294.1 bt298.1 bt302.1 true)) else (laws_FnCheapest.j0 k t289 bt294.1 bt298.1 bt302.1 true)) else (laws_FnCheapest.j0 k t289 bt294.1 bt298.1 bt302.1 true)) else (laws_FnCheapest.j0 k t289 bt294.1 bt298.1 bt302.1 true)))))))) else (none)))))
theorem laws_FnCheapest.mono_l : ∀ k, (∀ y0 y1 y2 y3 y4, LeO (laws_FnCheapest.j0 k y0 y1 y2 y3 y4) (laws_FnCheapest.j0 (k + 1) y0 y1 y2 y3 y4))
  | 0 => fun _ _ _ _ _ r h => by simp [laws_FnCheapest.j0] at h
  | k + 1 => by
    have ih0 := laws_FnCheapest.mono_l k
    · intro y0 y1 y2 y3 y4
      unfold laws_FnCheapest.j0
      repeat' first
      | (with_reducible exact ih0 _ _ _ _ _)
      | (with_reducible exact impl_Cheapest.mono _ _ _)
      | (with_reducible exact impl_Greedy.mono _ _ _)
      | (with_reducible exact impl_Lazy.mono _ _ _)
      | (with_reducible exact impl_TokensCost.mono _ _)
      | (with_reducible exact spec_DrawData.mono _ _)
      | (with_reducible exact spec_DrawPlaces.mono _ _)
      | (with_reducible exact LeO.refl _)
      | (with_reducible exact LeO.none _)
      | (with_reducible refine LeO.ite ?_ ?_)
      | (with_reducible refine LeO.bind ?_ (fun _ => ?_))
      | exact ih0 _ _ _ _ _
      | exact impl_Cheapest.mono _ _ _
      | exact impl_Greedy.mono _ _ _
      | exact impl_Lazy.mono _ _ _
      | exact impl_TokensCost.mono _ _
      | exact spec_DrawData.mono _ _
      | exact spec_DrawPlaces.mono _ _
      | exact LeO.none _
      | refine LeO.ite ?_ ?_
      | refine LeO.bind ?_ (fun _ => ?_)
theorem laws_FnCheapest.mono : ∀ a0 k, LeO (laws_FnCheapest.f k a0) (laws_FnCheapest.f (k + 1) a0) := by
  intro a0 k
  have ih0 := laws_FnCheapest.mono_l k
  unfold laws_FnCheapest.f
  repeat' first
      | (with_reducible exact ih0 _ _ _ _ _)
      | (with_reducible exact impl_Cheapest.mono _ _ _)
      | (with_reducible exact impl_Greedy.mono _ _ _)
      | (with_reducible exact impl_Lazy.mono _ _ _)
      | (with_reducible exact impl_TokensCost.mono _ _)
      | (with_reducible exact spec_DrawData.mono _ _)
      | (with_reducible exact spec_DrawPlaces.mono _ _)
      | (with_reducible exact LeO.refl _)
      | (with_reducible exact LeO.none _)
      | (with_reducible refine LeO.ite ?_ ?_)
      | (with_reducible refine LeO.bind ?_ (fun _ => ?_))
      | exact ih0 _ _ _ _ _
      | exact impl_Cheapest.mono _ _ _
      | exact impl_Greedy.mono _ _ _
      | exact impl_Lazy.mono _ _ _
      | exact impl_TokensCost.mono _ _
      | exact spec_DrawData.mono _ _
      | exact spec_DrawPlaces.mono _ _
      | exact LeO.none _
      | refine LeO.ite ?_ ?_
      | refine LeO.bind ?_ (fun _ => ?_)
set_option maxHeartbeats 8000000 in
set_option maxRecDepth 100000 in
theorem laws_FnCheapest.calls (k : Nat) (A0 : Option Addr) (c0 : Nat) (l0 : List Int) (r : Bool) (w : World) (hr0 : Kd.C (Kd.int .u8) w A0 l0.length l0) (hc0 : l0.length ≤ c0) (h : laws_FnCheapest.f k l0 = some r) :
    Calls Try.prog 8 #[.slice A0 l0.length c0] w fun e w' => e = .returned (.bool r) ∧ Below w.heap.size w w' := by
  have HR0 := Aside0.mk hr0
  have HC0 := Aside0.mk hc0
  clear hr0 hc0
  have HB := Aside0.mk (Below.refl w.heap.size w)
  have H : ((laws_big.f l0).bind fun t288 => (if t288 = true then (some true) else ((spec_DrawData.f k l0).bind fun t289 => ((spec_DrawPlaces.f k l0).bind fun t290 => (if 0 < (t290.length : Int) then ((impl_Greedy.f k t289 (wrap64 (1 + (Int.tmod (rd t290 0) 64)))).bind fun bt294 => ((impl_Lazy.f k t289 (wrap64 (1 + (Int.tmod (rd t290 0) 64)))).bind fun bt298 => ((impl_Cheapest.f k t289 (wrap64 (1 + (Int.tmod (rd t290 0) 64)))).bind fun bt302 => ((spec_Expand.f (⟨#[]⟩ : ByteArray) bt294.1).bind fun bt306 => ((spec_Expand.f (⟨#[]⟩ : ByteArray) bt298.1).bind fun bt308 => ((spec_Expand.f (⟨#[]⟩ : ByteArray) bt302.1).bind fun bt310 => (if bt294.2 = true then (if bt298.2 = true then (if bt302.2 = true then (if bt306.2 = true then (if bt308.2 = true then (if bt310.2 = true then (if bt306.1.toList = t289.toList then (if bt308.1.toList = t289.toList then (laws_FnCheapest.j0 k t289 bt294.1 bt298.1 bt302.1 (bt310.1.toList != t289.toList)) else (laws_FnCheapest.j0 k t289 bt294.1 bt298.1 bt302.1 true)) else (laws_FnCheapest.j0 k t289 bt294.1 bt298.1 bt302.1 true)) else (laws_FnCheapest.j0 k t289 bt294.1 bt298.1 bt302.1 true)) else (laws_FnCheapest.j0 k t289 bt294.1 bt298.1 bt302.1 true)) else (laws_FnCheapest.j0 k t289 bt294.1 bt298.1 bt302.1 true)) else (laws_FnCheapest.j0 k t289 bt294.1 bt298.1 bt302.1 true)) else (laws_FnCheapest.j0 k t289 bt294.1 bt298.1 bt302.1 true)) else (laws_FnCheapest.j0 k t289 bt294.1 bt298.1 bt302.1 true)))))))) else (none)))))) = some r := h
  clear h
  replace H := Option.bind_eq_some_iff.mp H
  obtain ⟨t288, A20, H⟩ := H
  replace H : (if t288 = true then (some true) else ((spec_DrawData.f k l0).bind fun t289 => ((spec_DrawPlaces.f k l0).bind fun t290 => (if 0 < (t290.length : Int) then ((impl_Greedy.f k t289 (wrap64 (1 + (Int.tmod (rd t290 0) 64)))).bind fun bt294 => ((impl_Lazy.f k t289 (wrap64 (1 + (Int.tmod (rd t290 0) 64)))).bind fun bt298 => ((impl_Cheapest.f k t289 (wrap64 (1 + (Int.tmod (rd t290 0) 64)))).bind fun bt302 => ((spec_Expand.f (⟨#[]⟩ : ByteArray) bt294.1).bind fun bt306 => ((spec_Expand.f (⟨#[]⟩ : ByteArray) bt298.1).bind fun bt308 => ((spec_Expand.f (⟨#[]⟩ : ByteArray) bt302.1).bind fun bt310 => (if bt294.2 = true then (if bt298.2 = true then (if bt302.2 = true then (if bt306.2 = true then (if bt308.2 = true then (if bt310.2 = true then (if bt306.1.toList = t289.toList then (if bt308.1.toList = t289.toList then (laws_FnCheapest.j0 k t289 bt294.1 bt298.1 bt302.1 (bt310.1.toList != t289.toList)) else (laws_FnCheapest.j0 k t289 bt294.1 bt298.1 bt302.1 true)) else (laws_FnCheapest.j0 k t289 bt294.1 bt298.1 bt302.1 true)) else (laws_FnCheapest.j0 k t289 bt294.1 bt298.1 bt302.1 true)) else (laws_FnCheapest.j0 k t289 bt294.1 bt298.1 bt302.1 true)) else (laws_FnCheapest.j0 k t289 bt294.1 bt298.1 bt302.1 true)) else (laws_FnCheapest.j0 k t289 bt294.1 bt298.1 bt302.1 true)) else (laws_FnCheapest.j0 k t289 bt294.1 bt298.1 bt302.1 true)) else (laws_FnCheapest.j0 k t289 bt294.1 bt298.1 bt302.1 true)))))))) else (none))))) = some r := H
  have A2 := Aside0.mk A20
  clear A20
  by_cases c3 : t288 = true
  · subst c3
    have H1 : (some true) = some r := by rw [if_pos rfl] at H; exact H
    clear H
    have H := H1
    clear H1
    obtain rfl := Option.some.inj H
    go_enter Try.func8, Try.ntmps8
    go_wp2_with (first | ((with_reducible refine gate_callee (f := 20) rfl ?_); refine goesL_ (some 24) rfl rfl Try.func20 (by kernel_rfl) rfl #[.slice A0 l0.length c0] rfl (by (try simp only [List.map_toArray, List.map_cons, List.map_nil]); first | done | rfl | (simp only [List.length_drop, List.length_take]; rfl)) ?_; (with_reducible refine (laws_big.calls _ _ l0 true _ ?side1 ?side2 A2.out).mono ?_); (case side1 => repeat (first | exact HR0.out | (with_reducible refine Kd.C_alloc ?_ _) | (with_reducible refine Kd.C_drewN ?_ _) | (with_reducible refine Kd.C_drew ?_))); (case side2 => exact HC0.out); rintro e w' ⟨rfl, ⟨nd, rfl⟩⟩; refine ⟨_, rfl, ?_⟩))
    go_ret
    exact ⟨by first | rfl | (simp [errW_none, errW_some] <;> rfl) | (simp [*, errW_none, errW_some] <;> rfl), by repeat (first | (with_reducible first | exact HB.out | apply below_alloc | apply pw_below_drewN | apply below_drew1) | exact HB.out)⟩
  · replace c3 := Bool.eq_false_iff.mpr c3
    subst c3
    have H1 : ((spec_DrawData.f k l0).bind fun t289 => ((spec_DrawPlaces.f k l0).bind fun t290 => (if 0 < (t290.length : Int) then ((impl_Greedy.f k t289 (wrap64 (1 + (Int.tmod (rd t290 0) 64)))).bind fun bt294 => ((impl_Lazy.f k t289 (wrap64 (1 + (Int.tmod (rd t290 0) 64)))).bind fun bt298 => ((impl_Cheapest.f k t289 (wrap64 (1 + (Int.tmod (rd t290 0) 64)))).bind fun bt302 => ((spec_Expand.f (⟨#[]⟩ : ByteArray) bt294.1).bind fun bt306 => ((spec_Expand.f (⟨#[]⟩ : ByteArray) bt298.1).bind fun bt308 => ((spec_Expand.f (⟨#[]⟩ : ByteArray) bt302.1).bind fun bt310 => (if bt294.2 = true then (if bt298.2 = true then (if bt302.2 = true then (if bt306.2 = true then (if bt308.2 = true then (if bt310.2 = true then (if bt306.1.toList = t289.toList then (if bt308.1.toList = t289.toList then (laws_FnCheapest.j0 k t289 bt294.1 bt298.1 bt302.1 (bt310.1.toList != t289.toList)) else (laws_FnCheapest.j0 k t289 bt294.1 bt298.1 bt302.1 true)) else (laws_FnCheapest.j0 k t289 bt294.1 bt298.1 bt302.1 true)) else (laws_FnCheapest.j0 k t289 bt294.1 bt298.1 bt302.1 true)) else (laws_FnCheapest.j0 k t289 bt294.1 bt298.1 bt302.1 true)) else (laws_FnCheapest.j0 k t289 bt294.1 bt298.1 bt302.1 true)) else (laws_FnCheapest.j0 k t289 bt294.1 bt298.1 bt302.1 true)) else (laws_FnCheapest.j0 k t289 bt294.1 bt298.1 bt302.1 true)) else (laws_FnCheapest.j0 k t289 bt294.1 bt298.1 bt302.1 true)))))))) else (none)))) = some r := by rw [if_neg (show ¬ (false = true) by decide)] at H; exact H
    clear H
    have H := H1
    clear H1
    replace H := Option.bind_eq_some_iff.mp H
    obtain ⟨t289, A40, H⟩ := H
    replace H : ((spec_DrawPlaces.f k l0).bind fun t290 => (if 0 < (t290.length : Int) then ((impl_Greedy.f k t289 (wrap64 (1 + (Int.tmod (rd t290 0) 64)))).bind fun bt294 => ((impl_Lazy.f k t289 (wrap64 (1 + (Int.tmod (rd t290 0) 64)))).bind fun bt298 => ((impl_Cheapest.f k t289 (wrap64 (1 + (Int.tmod (rd t290 0) 64)))).bind fun bt302 => ((spec_Expand.f (⟨#[]⟩ : ByteArray) bt294.1).bind fun bt306 => ((spec_Expand.f (⟨#[]⟩ : ByteArray) bt298.1).bind fun bt308 => ((spec_Expand.f (⟨#[]⟩ : ByteArray) bt302.1).bind fun bt310 => (if bt294.2 = true then (if bt298.2 = true then (if bt302.2 = true then (if bt306.2 = true then (if bt308.2 = true then (if bt310.2 = true then (if bt306.1.toList = t289.toList then (if bt308.1.toList = t289.toList then (laws_FnCheapest.j0 k t289 bt294.1 bt298.1 bt302.1 (bt310.1.toList != t289.toList)) else (laws_FnCheapest.j0 k t289 bt294.1 bt298.1 bt302.1 true)) else (laws_FnCheapest.j0 k t289 bt294.1 bt298.1 bt302.1 true)) else (laws_FnCheapest.j0 k t289 bt294.1 bt298.1 bt302.1 true)) else (laws_FnCheapest.j0 k t289 bt294.1 bt298.1 bt302.1 true)) else (laws_FnCheapest.j0 k t289 bt294.1 bt298.1 bt302.1 true)) else (laws_FnCheapest.j0 k t289 bt294.1 bt298.1 bt302.1 true)) else (laws_FnCheapest.j0 k t289 bt294.1 bt298.1 bt302.1 true)) else (laws_FnCheapest.j0 k t289 bt294.1 bt298.1 bt302.1 true)))))))) else (none))) = some r := H
    have A4 := Aside0.mk A40
    clear A40
    replace H := Option.bind_eq_some_iff.mp H
    obtain ⟨t290, A50, H⟩ := H
    replace H : (if 0 < (t290.length : Int) then ((impl_Greedy.f k t289 (wrap64 (1 + (Int.tmod (rd t290 0) 64)))).bind fun bt294 => ((impl_Lazy.f k t289 (wrap64 (1 + (Int.tmod (rd t290 0) 64)))).bind fun bt298 => ((impl_Cheapest.f k t289 (wrap64 (1 + (Int.tmod (rd t290 0) 64)))).bind fun bt302 => ((spec_Expand.f (⟨#[]⟩ : ByteArray) bt294.1).bind fun bt306 => ((spec_Expand.f (⟨#[]⟩ : ByteArray) bt298.1).bind fun bt308 => ((spec_Expand.f (⟨#[]⟩ : ByteArray) bt302.1).bind fun bt310 => (if bt294.2 = true then (if bt298.2 = true then (if bt302.2 = true then (if bt306.2 = true then (if bt308.2 = true then (if bt310.2 = true then (if bt306.1.toList = t289.toList then (if bt308.1.toList = t289.toList then (laws_FnCheapest.j0 k t289 bt294.1 bt298.1 bt302.1 (bt310.1.toList != t289.toList)) else (laws_FnCheapest.j0 k t289 bt294.1 bt298.1 bt302.1 true)) else (laws_FnCheapest.j0 k t289 bt294.1 bt298.1 bt302.1 true)) else (laws_FnCheapest.j0 k t289 bt294.1 bt298.1 bt302.1 true)) else (laws_FnCheapest.j0 k t289 bt294.1 bt298.1 bt302.1 true)) else (laws_FnCheapest.j0 k t289 bt294.1 bt298.1 bt302.1 true)) else (laws_FnCheapest.j0 k t289 bt294.1 bt298.1 bt302.1 true)) else (laws_FnCheapest.j0 k t289 bt294.1 bt298.1 bt302.1 true)) else (laws_FnCheapest.j0 k t289 bt294.1 bt298.1 bt302.1 true)))))))) else (none)) = some r := H
    have A5 := Aside0.mk A50
    clear A50
    by_cases c6 : 0 < (t290.length : Int)
    · rw [if_pos c6] at H
      have c6b0 : decide (0 < (t290.length : Int)) = true := decide_eq_true c6
      have c6b1 : decide (0 < t290.length) = true := decide_eq_true (by omega)
      clear c6
      replace H := Option.bind_eq_some_iff.mp H
      obtain ⟨⟨t294, t295⟩, A70, H⟩ := H
      replace H : ((impl_Lazy.f k t289 (wrap64 (1 + (Int.tmod (rd t290 0) 64)))).bind fun bt298 => ((impl_Cheapest.f k t289 (wrap64 (1 + (Int.tmod (rd t290 0) 64)))).bind fun bt302 => ((spec_Expand.f (⟨#[]⟩ : ByteArray) t294).bind fun bt306 => ((spec_Expand.f (⟨#[]⟩ : ByteArray) bt298.1).bind fun bt308 => ((spec_Expand.f (⟨#[]⟩ : ByteArray) bt302.1).bind fun bt310 => (if t295 = true then (if bt298.2 = true then (if bt302.2 = true then (if bt306.2 = true then (if bt308.2 = true then (if bt310.2 = true then (if bt306.1.toList = t289.toList then (if bt308.1.toList = t289.toList then (laws_FnCheapest.j0 k t289 t294 bt298.1 bt302.1 (bt310.1.toList != t289.toList)) else (laws_FnCheapest.j0 k t289 t294 bt298.1 bt302.1 true)) else (laws_FnCheapest.j0 k t289 t294 bt298.1 bt302.1 true)) else (laws_FnCheapest.j0 k t289 t294 bt298.1 bt302.1 true)) else (laws_FnCheapest.j0 k t289 t294 bt298.1 bt302.1 true)) else (laws_FnCheapest.j0 k t289 t294 bt298.1 bt302.1 true)) else (laws_FnCheapest.j0 k t289 t294 bt298.1 bt302.1 true)) else (laws_FnCheapest.j0 k t289 t294 bt298.1 bt302.1 true)) else (laws_FnCheapest.j0 k t289 t294 bt298.1 bt302.1 true))))))) = some r := H
      have A7 := Aside0.mk A70
      clear A70
      replace H := Option.bind_eq_some_iff.mp H
      obtain ⟨⟨t298, t299⟩, A80, H⟩ := H
      replace H : ((impl_Cheapest.f k t289 (wrap64 (1 + (Int.tmod (rd t290 0) 64)))).bind fun bt302 => ((spec_Expand.f (⟨#[]⟩ : ByteArray) t294).bind fun bt306 => ((spec_Expand.f (⟨#[]⟩ : ByteArray) t298).bind fun bt308 => ((spec_Expand.f (⟨#[]⟩ : ByteArray) bt302.1).bind fun bt310 => (if t295 = true then (if t299 = true then (if bt302.2 = true then (if bt306.2 = true then (if bt308.2 = true then (if bt310.2 = true then (if bt306.1.toList = t289.toList then (if bt308.1.toList = t289.toList then (laws_FnCheapest.j0 k t289 t294 t298 bt302.1 (bt310.1.toList != t289.toList)) else (laws_FnCheapest.j0 k t289 t294 t298 bt302.1 true)) else (laws_FnCheapest.j0 k t289 t294 t298 bt302.1 true)) else (laws_FnCheapest.j0 k t289 t294 t298 bt302.1 true)) else (laws_FnCheapest.j0 k t289 t294 t298 bt302.1 true)) else (laws_FnCheapest.j0 k t289 t294 t298 bt302.1 true)) else (laws_FnCheapest.j0 k t289 t294 t298 bt302.1 true)) else (laws_FnCheapest.j0 k t289 t294 t298 bt302.1 true)) else (laws_FnCheapest.j0 k t289 t294 t298 bt302.1 true)))))) = some r := H
      have A8 := Aside0.mk A80
      clear A80
      replace H := Option.bind_eq_some_iff.mp H
      obtain ⟨⟨t302, t303⟩, A90, H⟩ := H
      replace H : ((spec_Expand.f (⟨#[]⟩ : ByteArray) t294).bind fun bt306 => ((spec_Expand.f (⟨#[]⟩ : ByteArray) t298).bind fun bt308 => ((spec_Expand.f (⟨#[]⟩ : ByteArray) t302).bind fun bt310 => (if t295 = true then (if t299 = true then (if t303 = true then (if bt306.2 = true then (if bt308.2 = true then (if bt310.2 = true then (if bt306.1.toList = t289.toList then (if bt308.1.toList = t289.toList then (laws_FnCheapest.j0 k t289 t294 t298 t302 (bt310.1.toList != t289.toList)) else (laws_FnCheapest.j0 k t289 t294 t298 t302 true)) else (laws_FnCheapest.j0 k t289 t294 t298 t302 true)) else (laws_FnCheapest.j0 k t289 t294 t298 t302 true)) else (laws_FnCheapest.j0 k t289 t294 t298 t302 true)) else (laws_FnCheapest.j0 k t289 t294 t298 t302 true)) else (laws_FnCheapest.j0 k t289 t294 t298 t302 true)) else (laws_FnCheapest.j0 k t289 t294 t298 t302 true)) else (laws_FnCheapest.j0 k t289 t294 t298 t302 true))))) = some r := H
      have A9 := Aside0.mk A90
      clear A90
      replace H := Option.bind_eq_some_iff.mp H
      obtain ⟨⟨t306, t307⟩, A100, H⟩ := H
      replace H : ((spec_Expand.f (⟨#[]⟩ : ByteArray) t298).bind fun bt308 => ((spec_Expand.f (⟨#[]⟩ : ByteArray) t302).bind fun bt310 => (if t295 = true then (if t299 = true then (if t303 = true then (if t307 = true then (if bt308.2 = true then (if bt310.2 = true then (if t306.toList = t289.toList then (if bt308.1.toList = t289.toList then (laws_FnCheapest.j0 k t289 t294 t298 t302 (bt310.1.toList != t289.toList)) else (laws_FnCheapest.j0 k t289 t294 t298 t302 true)) else (laws_FnCheapest.j0 k t289 t294 t298 t302 true)) else (laws_FnCheapest.j0 k t289 t294 t298 t302 true)) else (laws_FnCheapest.j0 k t289 t294 t298 t302 true)) else (laws_FnCheapest.j0 k t289 t294 t298 t302 true)) else (laws_FnCheapest.j0 k t289 t294 t298 t302 true)) else (laws_FnCheapest.j0 k t289 t294 t298 t302 true)) else (laws_FnCheapest.j0 k t289 t294 t298 t302 true)))) = some r := H
      have A10 := Aside0.mk A100
      clear A100
      replace H := Option.bind_eq_some_iff.mp H
      obtain ⟨⟨t308, t309⟩, A110, H⟩ := H
      replace H : ((spec_Expand.f (⟨#[]⟩ : ByteArray) t302).bind fun bt310 => (if t295 = true then (if t299 = true then (if t303 = true then (if t307 = true then (if t309 = true then (if bt310.2 = true then (if t306.toList = t289.toList then (if t308.toList = t289.toList then (laws_FnCheapest.j0 k t289 t294 t298 t302 (bt310.1.toList != t289.toList)) else (laws_FnCheapest.j0 k t289 t294 t298 t302 true)) else (laws_FnCheapest.j0 k t289 t294 t298 t302 true)) else (laws_FnCheapest.j0 k t289 t294 t298 t302 true)) else (laws_FnCheapest.j0 k t289 t294 t298 t302 true)) else (laws_FnCheapest.j0 k t289 t294 t298 t302 true)) else (laws_FnCheapest.j0 k t289 t294 t298 t302 true)) else (laws_FnCheapest.j0 k t289 t294 t298 t302 true)) else (laws_FnCheapest.j0 k t289 t294 t298 t302 true))) = some r := H
      have A11 := Aside0.mk A110
      clear A110
      replace H := Option.bind_eq_some_iff.mp H
      obtain ⟨⟨t310, t311⟩, A120, H⟩ := H
      replace H : (if t295 = true then (if t299 = true then (if t303 = true then (if t307 = true then (if t309 = true then (if t311 = true then (if t306.toList = t289.toList then (if t308.toList = t289.toList then (laws_FnCheapest.j0 k t289 t294 t298 t302 (t310.toList != t289.toList)) else (laws_FnCheapest.j0 k t289 t294 t298 t302 true)) else (laws_FnCheapest.j0 k t289 t294 t298 t302 true)) else (laws_FnCheapest.j0 k t289 t294 t298 t302 true)) else (laws_FnCheapest.j0 k t289 t294 t298 t302 true)) else (laws_FnCheapest.j0 k t289 t294 t298 t302 true)) else (laws_FnCheapest.j0 k t289 t294 t298 t302 true)) else (laws_FnCheapest.j0 k t289 t294 t298 t302 true)) else (laws_FnCheapest.j0 k t289 t294 t298 t302 true)) = some r := H
      have A12 := Aside0.mk A120
      clear A120
      have HC13 := Aside0.mk H
      clear H
      go_enter Try.func8, Try.ntmps8
      go_upto_region 11 with (first | ((with_reducible refine gate_callee (f := 20) rfl ?_); refine goesL_ (some 24) rfl rfl Try.func20 (by kernel_rfl) rfl #[.slice A0 l0.length c0] rfl (by (try simp only [List.map_toArray, List.map_cons, List.map_nil]); first | done | rfl | (simp only [List.length_drop, List.length_take]; rfl)) ?_; (with_reducible refine (laws_big.calls _ _ l0 false _ ?side1 ?side2 A2.out).mono ?_); (case side1 => repeat (first | exact HR0.out | (with_reducible refine Kd.C_alloc ?_ _) | (with_reducible refine Kd.C_drewN ?_ _) | (with_reducible refine Kd.C_drew ?_))); (case side2 => exact HC0.out); rintro e w' ⟨rfl, ⟨nd, rfl⟩⟩; refine ⟨_, rfl, ?_⟩) | ((with_reducible refine gate_callee (f := 21) rfl ?_); refine goesL_ (some 26) rfl rfl Try.func21 (by kernel_rfl) rfl #[.slice A0 l0.length c0] rfl (by (try simp only [List.map_toArray, List.map_cons, List.map_nil]); first | done | rfl | (simp only [List.length_drop, List.length_take]; rfl)) ?_; (with_reducible refine (spec_DrawData.calls k _ _ l0 t289 _ ?side1 ?side2 A4.out).mono ?_); (case side1 => repeat (first | exact HR0.out | (with_reducible refine Kd.C_alloc ?_ _) | (with_reducible refine Kd.C_drewN ?_ _) | (with_reducible refine Kd.C_drew ?_))); (case side2 => exact HC0.out); rintro e w14 ⟨rfl, hb⟩; refine ⟨_, rfl, ?_⟩; have n0_ := Aside0.mk (below_step (by repeat (first | (with_reducible first | exact HB.out | apply below_alloc | apply pw_below_drewN | apply below_drew1) | exact HB.out)) hb); clear HB; have HB := n0_; clear n0_; (try clear hb); (try clear hb2); (try clear hk); (try clear hi)) | ((with_reducible refine gate_callee (f := 22) rfl ?_); refine goesL_ (some 28) rfl rfl Try.func22 (by kernel_rfl) rfl #[.slice A0 l0.length c0] rfl (by (try simp only [List.map_toArray, List.map_cons, List.map_nil]); first | done | rfl | (simp only [List.length_drop, List.length_take]; rfl)) ?_; (with_reducible refine (spec_DrawPlaces.calls k _ _ l0 t290 _ ?side1 ?side2 A5.out).mono ?_); (case side1 => repeat (first | exact (Kd.C_below HR0.out HB.out) | (with_reducible refine Kd.C_alloc ?_ _) | (with_reducible refine Kd.C_drewN ?_ _) | (with_reducible refine Kd.C_drew ?_))); (case side2 => exact HC0.out); rintro e w15 ⟨v291, rfl, ho0, hb⟩; refine ⟨_, rfl, ?_⟩; have n0_ := Aside0.mk (Kd.R_lower ho0 (below_size (by repeat (first | (with_reducible first | exact HB.out | apply below_alloc | apply pw_below_drewN | apply below_drew1) | exact HB.out)))); have n1_ := Aside0.mk (below_step (by repeat (first | (with_reducible first | exact HB.out | apply below_alloc | apply pw_below_drewN | apply below_drew1) | exact HB.out)) hb); clear HB; have HO292 := n0_; have HB := n1_; clear n0_ n1_; (try clear hb); (try clear hb2); (try clear hk); (try clear hi); (try clear ho0); obtain ⟨Ao16, co16, eo16⟩ := Kd.R_slice HO292.out; subst eo16; have p293 : 0 ≤ (0 : Int) := (by omega); have q293 : 0 < (t290.length : Int) := of_decide_eq_true (by first | (with_reducible assumption) | assumption); obtain ⟨ad293, e293, hx293_0⟩ := Kd.at_int (Kd.R_reads' HO292.out).2.2 0 p293 q293; cases e293; have qi293 : (0 < t290.length) = True := eq_true (by omega); (try rw [show ((0 : Int)).toNat = 0 from rfl] at hx293_0); (try rw [Addr.add_zero'] at hx293_0); replace p293 := eq_true p293; replace q293 := eq_true q293) | ((with_reducible refine gate_callee (f := 12) rfl ?_); refine goesL_ (some 36) rfl rfl Try.func12 (by kernel_rfl) rfl #[.string t289, .int .i64 (wrap64 (1 + (Int.tmod (rd t290 0) 64)))] rfl (by (try simp only [List.map_toArray, List.map_cons, List.map_nil]); first | done | rfl | (simp only [List.length_drop, List.length_take]; rfl)) ?_; (with_reducible refine (impl_Greedy.calls k t289 (wrap64 (1 + (Int.tmod (rd t290 0) 64))) t294 t295 _ A7.out).mono ?_); rintro e w17 ⟨v296, rfl, ho0, hb⟩; refine ⟨_, rfl, ?_⟩; have n0_ := Aside0.mk (Kd.R_below (by (with_reducible repeat (first | apply Kd.R_alloc | apply Kd.R_drewN | apply Kd.R_drew)); exact HO292.out) hb); have n1_ := Aside0.mk (Kd.R_lower ho0 (below_size (by repeat (first | (with_reducible first | exact HB.out | apply below_alloc | apply pw_below_drewN | apply below_drew1) | exact HB.out)))); have n2_ := Aside0.mk (below_step (by repeat (first | (with_reducible first | exact HB.out | apply below_alloc | apply pw_below_drewN | apply below_drew1) | exact HB.out)) hb); clear HO292; clear HB; have HO292 := n0_; have HO297 := n1_; have HB := n2_; clear n0_ n1_ n2_; (try clear hb); (try clear hb2); (try clear hk); (try clear hi); (try clear ho0)) | ((with_reducible refine gate_callee (f := 17) rfl ?_); refine goesL_ (some 42) rfl rfl Try.func17 (by kernel_rfl) rfl #[.string t289, .int .i64 (wrap64 (1 + (Int.tmod (rd t290 0) 64)))] rfl (by (try simp only [List.map_toArray, List.map_cons, List.map_nil]); first | done | rfl | (simp only [List.length_drop, List.length_take]; rfl)) ?_; (with_reducible refine (impl_Lazy.calls k t289 (wrap64 (1 + (Int.tmod (rd t290 0) 64))) t298 t299 _ A8.out).mono ?_); rintro e w18 ⟨v300, rfl, ho0, hb⟩; refine ⟨_, rfl, ?_⟩; have n0_ := Aside0.mk (Kd.R_below (by (with_reducible repeat (first | apply Kd.R_alloc | apply Kd.R_drewN | apply Kd.R_drew)); exact HO292.out) hb); have n1_ := Aside0.mk (Kd.R_elder' (by (with_reducible repeat (first | apply Kd.R_alloc | apply Kd.R_drewN | apply Kd.R_drew)); exact HO297.out) (Kd.R_base ho0) hb); have n2_ := Aside0.mk (Kd.R_lower (Kd.R_new' ho0 (Kd.R_lt (by (with_reducible repeat (first | apply Kd.R_alloc | apply Kd.R_drewN | apply Kd.R_drew)); exact HO297.out))) (below_size (by repeat (first | (with_reducible first | exact HB.out | apply below_alloc | apply pw_below_drewN | apply below_drew1) | exact HB.out)))); have n3_ := Aside0.mk (below_step (by repeat (first | (with_reducible first | exact HB.out | apply below_alloc | apply pw_below_drewN | apply below_drew1) | exact HB.out)) hb); clear HO292; clear HO297; clear HB; have HO292 := n0_; have HO297 := n1_; have HO301 := n2_; have HB := n3_; clear n0_ n1_ n2_ n3_; (try clear hb); (try clear hb2); (try clear hk); (try clear hi); (try clear ho0)) | ((with_reducible refine gate_callee (f := 19) rfl ?_); refine goesL_ (some 48) rfl rfl Try.func19 (by kernel_rfl) rfl #[.string t289, .int .i64 (wrap64 (1 + (Int.tmod (rd t290 0) 64)))] rfl (by (try simp only [List.map_toArray, List.map_cons, List.map_nil]); first | done | rfl | (simp only [List.length_drop, List.length_take]; rfl)) ?_; (with_reducible refine (impl_Cheapest.calls k t289 (wrap64 (1 + (Int.tmod (rd t290 0) 64))) t302 t303 _ A9.out).mono ?_); rintro e w19 ⟨v304, rfl, ho0, hb⟩; refine ⟨_, rfl, ?_⟩; have n0_ := Aside0.mk (Kd.R_below (by (with_reducible repeat (first | apply Kd.R_alloc | apply Kd.R_drewN | apply Kd.R_drew)); exact HO292.out) hb); have n1_ := Aside0.mk (Kd.R_elder' (by (with_reducible repeat (first | apply Kd.R_alloc | apply Kd.R_drewN | apply Kd.R_drew)); exact HO297.out) (Kd.R_base ho0) hb); have n2_ := Aside0.mk (Kd.R_elder' (by (with_reducible repeat (first | apply Kd.R_alloc | apply Kd.R_drewN | apply Kd.R_drew)); exact HO301.out) (Kd.R_base ho0) hb); have n3_ := Aside0.mk (Kd.R_lower (Kd.R_new' (Kd.R_new' ho0 (Kd.R_lt (by (with_reducible repeat (first | apply Kd.R_alloc | apply Kd.R_drewN | apply Kd.R_drew)); exact HO297.out))) (Kd.R_lt (by (with_reducible repeat (first | apply Kd.R_alloc | apply Kd.R_drewN | apply Kd.R_drew)); exact HO301.out))) (below_size (by repeat (first | (with_reducible first | exact HB.out | apply below_alloc | apply pw_below_drewN | apply below_drew1) | exact HB.out)))); have n4_ := Aside0.mk (below_step (by repeat (first | (with_reducible first | exact HB.out | apply below_alloc | apply pw_below_drewN | apply below_drew1) | exact HB.out)) hb); clear HO292; clear HO297; clear HO301; clear HB; have HO292 := n0_; have HO297 := n1_; have HO301 := n2_; have HO305 := n3_; have HB := n4_; clear n0_ n1_ n2_ n3_ n4_; (try clear hb); (try clear hb2); (try clear hk); (try clear hi); (try clear ho0); obtain ⟨Ao20, co20, eo20⟩ := Kd.R_slice HO297.out; subst eo20) | ((with_reducible refine gate_callee (f := 23) rfl ?_); refine goesL_ (some 53) rfl rfl Try.func23 (by kernel_rfl) rfl #[.string (⟨#[]⟩ : ByteArray), .slice Ao20 t294.length co20] rfl (by (try simp only [List.map_toArray, List.map_cons, List.map_nil]); first | done | rfl | (simp only [List.length_drop, List.length_take]; rfl)) ?_; (with_reducible refine (spec_Expand.calls (⟨#[]⟩ : ByteArray) _ _ t294 t306 t307 _ ?side1 ?side2 A10.out).mono ?_); (case side1 => repeat (first | exact (Kd.R_reads' HO297.out).2.2 | (with_reducible refine Kd.C_alloc ?_ _) | (with_reducible refine Kd.C_drewN ?_ _) | (with_reducible refine Kd.C_drew ?_))); (case side2 => exact (Kd.R_reads' HO297.out).2.1); rintro e w21 ⟨rfl, hb⟩; refine ⟨_, rfl, ?_⟩; have n0_ := Aside0.mk (Kd.R_below (by (with_reducible repeat (first | apply Kd.R_alloc | apply Kd.R_drewN | apply Kd.R_drew)); exact HO292.out) hb); have n1_ := Aside0.mk (Kd.R_below (by (with_reducible repeat (first | apply Kd.R_alloc | apply Kd.R_drewN | apply Kd.R_drew)); exact HO297.out) hb); have n2_ := Aside0.mk (Kd.R_below (by (with_reducible repeat (first | apply Kd.R_alloc | apply Kd.R_drewN | apply Kd.R_drew)); exact HO301.out) hb); have n3_ := Aside0.mk (Kd.R_below (by (with_reducible repeat (first | apply Kd.R_alloc | apply Kd.R_drewN | apply Kd.R_drew)); exact HO305.out) hb); have n4_ := Aside0.mk (below_step (by repeat (first | (with_reducible first | exact HB.out | apply below_alloc | apply pw_below_drewN | apply below_drew1) | exact HB.out)) hb); clear HO292; clear HO297; clear HO301; clear HO305; clear HB; have HO292 := n0_; have HO297 := n1_; have HO301 := n2_; have HO305 := n3_; have HB := n4_; clear n0_ n1_ n2_ n3_ n4_; (try clear hb); (try clear hb2); (try clear hk); (try clear hi); obtain ⟨Ao22, co22, eo22⟩ := Kd.R_slice HO301.out; subst eo22) | ((with_reducible refine gate_callee (f := 23) rfl ?_); refine goesL_ (some 58) rfl rfl Try.func23 (by kernel_rfl) rfl #[.string (⟨#[]⟩ : ByteArray), .slice Ao22 t298.length co22] rfl (by (try simp only [List.map_toArray, List.map_cons, List.map_nil]); first | done | rfl | (simp only [List.length_drop, List.length_take]; rfl)) ?_; (with_reducible refine (spec_Expand.calls (⟨#[]⟩ : ByteArray) _ _ t298 t308 t309 _ ?side1 ?side2 A11.out).mono ?_); (case side1 => repeat (first | exact (Kd.R_reads' HO301.out).2.2 | (with_reducible refine Kd.C_alloc ?_ _) | (with_reducible refine Kd.C_drewN ?_ _) | (with_reducible refine Kd.C_drew ?_))); (case side2 => exact (Kd.R_reads' HO301.out).2.1); rintro e w23 ⟨rfl, hb⟩; refine ⟨_, rfl, ?_⟩; have n0_ := Aside0.mk (Kd.R_below (by (with_reducible repeat (first | apply Kd.R_alloc | apply Kd.R_drewN | apply Kd.R_drew)); exact HO292.out) hb); have n1_ := Aside0.mk (Kd.R_below (by (with_reducible repeat (first | apply Kd.R_alloc | apply Kd.R_drewN | apply Kd.R_drew)); exact HO297.out) hb); have n2_ := Aside0.mk (Kd.R_below (by (with_reducible repeat (first | apply Kd.R_alloc | apply Kd.R_drewN | apply Kd.R_drew)); exact HO301.out) hb); have n3_ := Aside0.mk (Kd.R_below (by (with_reducible repeat (first | apply Kd.R_alloc | apply Kd.R_drewN | apply Kd.R_drew)); exact HO305.out) hb); have n4_ := Aside0.mk (below_step (by repeat (first | (with_reducible first | exact HB.out | apply below_alloc | apply pw_below_drewN | apply below_drew1) | exact HB.out)) hb); clear HO292; clear HO297; clear HO301; clear HO305; clear HB; have HO292 := n0_; have HO297 := n1_; have HO301 := n2_; have HO305 := n3_; have HB := n4_; clear n0_ n1_ n2_ n3_ n4_; (try clear hb); (try clear hb2); (try clear hk); (try clear hi); obtain ⟨Ao24, co24, eo24⟩ := Kd.R_slice HO305.out; subst eo24) | ((with_reducible refine gate_callee (f := 23) rfl ?_); refine goesL_ (some 63) rfl rfl Try.func23 (by kernel_rfl) rfl #[.string (⟨#[]⟩ : ByteArray), .slice Ao24 t302.length co24] rfl (by (try simp only [List.map_toArray, List.map_cons, List.map_nil]); first | done | rfl | (simp only [List.length_drop, List.length_take]; rfl)) ?_; (with_reducible refine (spec_Expand.calls (⟨#[]⟩ : ByteArray) _ _ t302 t310 t311 _ ?side1 ?side2 A12.out).mono ?_); (case side1 => repeat (first | exact (Kd.R_reads' HO305.out).2.2 | (with_reducible refine Kd.C_alloc ?_ _) | (with_reducible refine Kd.C_drewN ?_ _) | (with_reducible refine Kd.C_drew ?_))); (case side2 => exact (Kd.R_reads' HO305.out).2.1); rintro e w25 ⟨rfl, hb⟩; refine ⟨_, rfl, ?_⟩; have n0_ := Aside0.mk (Kd.R_below (by (with_reducible repeat (first | apply Kd.R_alloc | apply Kd.R_drewN | apply Kd.R_drew)); exact HO292.out) hb); have n1_ := Aside0.mk (Kd.R_below (by (with_reducible repeat (first | apply Kd.R_alloc | apply Kd.R_drewN | apply Kd.R_drew)); exact HO297.out) hb); have n2_ := Aside0.mk (Kd.R_below (by (with_reducible repeat (first | apply Kd.R_alloc | apply Kd.R_drewN | apply Kd.R_drew)); exact HO301.out) hb); have n3_ := Aside0.mk (Kd.R_below (by (with_reducible repeat (first | apply Kd.R_alloc | apply Kd.R_drewN | apply Kd.R_drew)); exact HO305.out) hb); have n4_ := Aside0.mk (below_step (by repeat (first | (with_reducible first | exact HB.out | apply below_alloc | apply pw_below_drewN | apply below_drew1) | exact HB.out)) hb); clear HO292; clear HO297; clear HO301; clear HO305; clear HB; have HO292 := n0_; have HO297 := n1_; have HO301 := n2_; have HO305 := n3_; have HB := n4_; clear n0_ n1_ n2_ n3_ n4_; (try clear hb); (try clear hb2); (try clear hk); (try clear hi)))
      (try simp only [Act.put, List.setIfInBounds_toArray, List.set_cons_zero, List.set_cons_succ])
      go_cut [102] (fun v102 wc => ∃ (kq : Nat) (x102_12 : Bool), v102 = .bool x102_12 ∧ Aside0 (laws_FnCheapest.j0 kq t289 t294 t298 t302 x102_12 = some r) ∧ Aside0 (kq ≤ k) ∧ Aside0 (Kd.R k44 44 wc w.heap.size (fun k_ => some k_ ≠ ((.slice Ao22 t298.length co22) : Value).ownBlock ∧ some k_ ≠ ((.slice Ao24 t302.length co24) : Value).ownBlock) (.slice Ao20 t294.length co20) t294) ∧ Aside0 (Kd.R k44 44 wc w.heap.size (fun k_ => some k_ ≠ ((.slice Ao20 t294.length co20) : Value).ownBlock ∧ some k_ ≠ ((.slice Ao24 t302.length co24) : Value).ownBlock) (.slice Ao22 t298.length co22) t298) ∧ Aside0 (Kd.R k44 44 wc w.heap.size (fun k_ => some k_ ≠ ((.slice Ao20 t294.length co20) : Value).ownBlock ∧ some k_ ≠ ((.slice Ao22 t298.length co22) : Value).ownBlock) (.slice Ao24 t302.length co24) t302) ∧ Aside0 (Below w.heap.size w wc))
      case first =>
        have H := HC13.out
        clear HC13
        by_cases c26 : t295 = true
        · subst c26
          have H1 : (if t299 = true then (if t303 = true then (if t307 = true then (if t309 = true then (if t311 = true then (if t306.toList = t289.toList then (if t308.toList = t289.toList then (laws_FnCheapest.j0 k t289 t294 t298 t302 (t310.toList != t289.toList)) else (laws_FnCheapest.j0 k t289 t294 t298 t302 true)) else (laws_FnCheapest.j0 k t289 t294 t298 t302 true)) else (laws_FnCheapest.j0 k t289 t294 t298 t302 true)) else (laws_FnCheapest.j0 k t289 t294 t298 t302 true)) else (laws_FnCheapest.j0 k t289 t294 t298 t302 true)) else (laws_FnCheapest.j0 k t289 t294 t298 t302 true)) else (laws_FnCheapest.j0 k t289 t294 t298 t302 true)) = some r := by rw [if_pos rfl] at H; exact H
          clear H
          have H := H1
          clear H1
          by_cases c27 : t299 = true
          · subst c27
            have H1 : (if t303 = true then (if t307 = true then (if t309 = true then (if t311 = true then (if t306.toList = t289.toList then (if t308.toList = t289.toList then (laws_FnCheapest.j0 k t289 t294 t298 t302 (t310.toList != t289.toList)) else (laws_FnCheapest.j0 k t289 t294 t298 t302 true)) else (laws_FnCheapest.j0 k t289 t294 t298 t302 true)) else (laws_FnCheapest.j0 k t289 t294 t298 t302 true)) else (laws_FnCheapest.j0 k t289 t294 t298 t302 true)) else (laws_FnCheapest.j0 k t289 t294 t298 t302 true)) else (laws_FnCheapest.j0 k t289 t294 t298 t302 true)) = some r := by rw [if_pos rfl] at H; exact H
            clear H
            have H := H1
            clear H1
            by_cases c28 : t303 = true
            · subst c28
              have H1 : (if t307 = true then (if t309 = true then (if t311 = true then (if t306.toList = t289.toList then (if t308.toList = t289.toList then (laws_FnCheapest.j0 k t289 t294 t298 t302 (t310.toList != t289.toList)) else (laws_FnCheapest.j0 k t289 t294 t298 t302 true)) else (laws_FnCheapest.j0 k t289 t294 t298 t302 true)) else (laws_FnCheapest.j0 k t289 t294 t298 t302 true)) else (laws_FnCheapest.j0 k t289 t294 t298 t302 true)) else (laws_FnCheapest.j0 k t289 t294 t298 t302 true)) = some r := by rw [if_pos rfl] at H; exact H
              clear H
              have H := H1
              clear H1
              by_cases c29 : t307 = true
              · subst c29
                have H1 : (if t309 = true then (if t311 = true then (if t306.toList = t289.toList then (if t308.toList = t289.toList then (laws_FnCheapest.j0 k t289 t294 t298 t302 (t310.toList != t289.toList)) else (laws_FnCheapest.j0 k t289 t294 t298 t302 true)) else (laws_FnCheapest.j0 k t289 t294 t298 t302 true)) else (laws_FnCheapest.j0 k t289 t294 t298 t302 true)) else (laws_FnCheapest.j0 k t289 t294 t298 t302 true)) = some r := by rw [if_pos rfl] at H; exact H
                clear H
                have H := H1
                clear H1
                by_cases c30 : t309 = true
                · subst c30
                  have H1 : (if t311 = true then (if t306.toList = t289.toList then (if t308.toList = t289.toList then (laws_FnCheapest.j0 k t289 t294 t298 t302 (t310.toList != t289.toList)) else (laws_FnCheapest.j0 k t289 t294 t298 t302 true)) else (laws_FnCheapest.j0 k t289 t294 t298 t302 true)) else (laws_FnCheapest.j0 k t289 t294 t298 t302 true)) = some r := by rw [if_pos rfl] at H; exact H
                  clear H
                  have H := H1
                  clear H1
                  by_cases c31 : t311 = true
                  · subst c31
                    have H1 : (if t306.toList = t289.toList then (if t308.toList = t289.toList then (laws_FnCheapest.j0 k t289 t294 t298 t302 (t310.toList != t289.toList)) else (laws_FnCheapest.j0 k t289 t294 t298 t302 true)) else (laws_FnCheapest.j0 k t289 t294 t298 t302 true)) = some r := by rw [if_pos rfl] at H; exact H
                    clear H
                    have H := H1
                    clear H1
                    by_cases c32 : t306.toList = t289.toList
                    · rw [if_pos c32] at H
                      have c32b0 : (t306.toList == t289.toList) = true := beq_iff_eq.mpr c32
                      have c32b1 : (t306.toList != t289.toList) = false := bne_eq_false_iff_eq.mpr c32
                      clear c32
                      (first | rw [c32b0] | (simp only [i64_w, i32_w]; rw [c32b0]) | skip)
                      by_cases c33 : t308.toList = t289.toList
                      · rw [if_pos c33] at H
                        have c33b0 : (t308.toList == t289.toList) = true := beq_iff_eq.mpr c33
                        have c33b1 : (t308.toList != t289.toList) = false := bne_eq_false_iff_eq.mpr c33
                        clear c33
                        have H' := Aside0.mk H
                        clear H
                        go_wp2
                        go_meet
                        case rel => exact ⟨_, ((t310.toList != t289.toList)), (by first | rfl | (simp; done) | (simp [*]; done)), H', ⟨by first | omega | exact Nat.le_refl _⟩, ⟨by (with_reducible repeat (first | apply Kd.R_alloc | apply Kd.R_drewN | apply Kd.R_drew)); exact Kd.R_mono HO297.out (fun _ hk => ⟨hk.1.2, hk.2⟩)⟩, ⟨by (with_reducible repeat (first | apply Kd.R_alloc | apply Kd.R_drewN | apply Kd.R_drew)); exact Kd.R_mono HO301.out (fun _ hk => ⟨hk.1.2, hk.2⟩)⟩, ⟨by (with_reducible repeat (first | apply Kd.R_alloc | apply Kd.R_drewN | apply Kd.R_drew)); exact Kd.R_mono HO305.out (fun _ hk => ⟨hk.1.2, hk.2⟩)⟩, ⟨by repeat (first | (with_reducible first | exact HB.out | apply below_alloc | apply pw_below_drewN | apply below_drew1) | exact HB.out)⟩⟩
                      · rw [if_neg c33] at H
                        have c33b0 : (t308.toList == t289.toList) = false := beq_eq_false_iff_ne.mpr c33
                        have c33b1 : (t308.toList != t289.toList) = true := bne_iff_ne.mpr c33
                        have H' := Aside0.mk H
                        clear H
                        go_wp2
                        go_meet
                        case rel => exact ⟨_, (true), (by first | rfl | (simp; done) | (simp [*]; done)), H', ⟨by first | omega | exact Nat.le_refl _⟩, ⟨by (with_reducible repeat (first | apply Kd.R_alloc | apply Kd.R_drewN | apply Kd.R_drew)); exact Kd.R_mono HO297.out (fun _ hk => ⟨hk.1.2, hk.2⟩)⟩, ⟨by (with_reducible repeat (first | apply Kd.R_alloc | apply Kd.R_drewN | apply Kd.R_drew)); exact Kd.R_mono HO301.out (fun _ hk => ⟨hk.1.2, hk.2⟩)⟩, ⟨by (with_reducible repeat (first | apply Kd.R_alloc | apply Kd.R_drewN | apply Kd.R_drew)); exact Kd.R_mono HO305.out (fun _ hk => ⟨hk.1.2, hk.2⟩)⟩, ⟨by repeat (first | (with_reducible first | exact HB.out | apply below_alloc | apply pw_below_drewN | apply below_drew1) | exact HB.out)⟩⟩
                    · rw [if_neg c32] at H
                      have c32b0 : (t306.toList == t289.toList) = false := beq_eq_false_iff_ne.mpr c32
                      have c32b1 : (t306.toList != t289.toList) = true := bne_iff_ne.mpr c32
                      (first | rw [c32b0] | (simp only [i64_w, i32_w]; rw [c32b0]) | skip)
                      have H' := Aside0.mk H
                      clear H
                      go_wp2
                      go_meet
                      case rel => exact ⟨_, (true), (by first | rfl | (simp; done) | (simp [*]; done)), H', ⟨by first | omega | exact Nat.le_refl _⟩, ⟨by (with_reducible repeat (first | apply Kd.R_alloc | apply Kd.R_drewN | apply Kd.R_drew)); exact Kd.R_mono HO297.out (fun _ hk => ⟨hk.1.2, hk.2⟩)⟩, ⟨by (with_reducible repeat (first | apply Kd.R_alloc | apply Kd.R_drewN | apply Kd.R_drew)); exact Kd.R_mono HO301.out (fun _ hk => ⟨hk.1.2, hk.2⟩)⟩, ⟨by (with_reducible repeat (first | apply Kd.R_alloc | apply Kd.R_drewN | apply Kd.R_drew)); exact Kd.R_mono HO305.out (fun _ hk => ⟨hk.1.2, hk.2⟩)⟩, ⟨by repeat (first | (with_reducible first | exact HB.out | apply below_alloc | apply pw_below_drewN | apply below_drew1) | exact HB.out)⟩⟩
                  · replace c31 := Bool.eq_false_iff.mpr c31
                    subst c31
                    have H1 : (laws_FnCheapest.j0 k t289 t294 t298 t302 true) = some r := by rw [if_neg (show ¬ (false = true) by decide)] at H; exact H
                    clear H
                    have H := H1
                    clear H1
                    have H' := Aside0.mk H
                    clear H
                    go_wp2
                    go_meet
                    case rel => exact ⟨_, (true), (by first | rfl | (simp; done) | (simp [*]; done)), H', ⟨by first | omega | exact Nat.le_refl _⟩, ⟨by (with_reducible repeat (first | apply Kd.R_alloc | apply Kd.R_drewN | apply Kd.R_drew)); exact Kd.R_mono HO297.out (fun _ hk => ⟨hk.1.2, hk.2⟩)⟩, ⟨by (with_reducible repeat (first | apply Kd.R_alloc | apply Kd.R_drewN | apply Kd.R_drew)); exact Kd.R_mono HO301.out (fun _ hk => ⟨hk.1.2, hk.2⟩)⟩, ⟨by (with_reducible repeat (first | apply Kd.R_alloc | apply Kd.R_drewN | apply Kd.R_drew)); exact Kd.R_mono HO305.out (fun _ hk => ⟨hk.1.2, hk.2⟩)⟩, ⟨by repeat (first | (with_reducible first | exact HB.out | apply below_alloc | apply pw_below_drewN | apply below_drew1) | exact HB.out)⟩⟩
                · replace c30 := Bool.eq_false_iff.mpr c30
                  subst c30
                  have H1 : (laws_FnCheapest.j0 k t289 t294 t298 t302 true) = some r := by rw [if_neg (show ¬ (false = true) by decide)] at H; exact H
                  clear H
                  have H := H1
                  clear H1
                  have H' := Aside0.mk H
                  clear H
                  go_wp2
                  go_meet
                  case rel => exact ⟨_, (true), (by first | rfl | (simp; done) | (simp [*]; done)), H', ⟨by first | omega | exact Nat.le_refl _⟩, ⟨by (with_reducible repeat (first | apply Kd.R_alloc | apply Kd.R_drewN | apply Kd.R_drew)); exact Kd.R_mono HO297.out (fun _ hk => ⟨hk.1.2, hk.2⟩)⟩, ⟨by (with_reducible repeat (first | apply Kd.R_alloc | apply Kd.R_drewN | apply Kd.R_drew)); exact Kd.R_mono HO301.out (fun _ hk => ⟨hk.1.2, hk.2⟩)⟩, ⟨by (with_reducible repeat (first | apply Kd.R_alloc | apply Kd.R_drewN | apply Kd.R_drew)); exact Kd.R_mono HO305.out (fun _ hk => ⟨hk.1.2, hk.2⟩)⟩, ⟨by repeat (first | (with_reducible first | exact HB.out | apply below_alloc | apply pw_below_drewN | apply below_drew1) | exact HB.out)⟩⟩
              · replace c29 := Bool.eq_false_iff.mpr c29
                subst c29
                have H1 : (laws_FnCheapest.j0 k t289 t294 t298 t302 true) = some r := by rw [if_neg (show ¬ (false = true) by decide)] at H; exact H
                clear H
                have H := H1
                clear H1
                have H' := Aside0.mk H
                clear H
                go_wp2
                go_meet
                case rel => exact ⟨_, (true), (by first | rfl | (simp; done) | (simp [*]; done)), H', ⟨by first | omega | exact Nat.le_refl _⟩, ⟨by (with_reducible repeat (first | apply Kd.R_alloc | apply Kd.R_drewN | apply Kd.R_drew)); exact Kd.R_mono HO297.out (fun _ hk => ⟨hk.1.2, hk.2⟩)⟩, ⟨by (with_reducible repeat (first | apply Kd.R_alloc | apply Kd.R_drewN | apply Kd.R_drew)); exact Kd.R_mono HO301.out (fun _ hk => ⟨hk.1.2, hk.2⟩)⟩, ⟨by (with_reducible repeat (first | apply Kd.R_alloc | apply Kd.R_drewN | apply Kd.R_drew)); exact Kd.R_mono HO305.out (fun _ hk => ⟨hk.1.2, hk.2⟩)⟩, ⟨by repeat (first | (with_reducible first | exact HB.out | apply below_alloc | apply pw_below_drewN | apply below_drew1) | exact HB.out)⟩⟩
            · replace c28 := Bool.eq_false_iff.mpr c28
              subst c28
              have H1 : (laws_FnCheapest.j0 k t289 t294 t298 t302 true) = some r := by rw [if_neg (show ¬ (false = true) by decide)] at H; exact H
              clear H
              have H := H1
              clear H1
              have H' := Aside0.mk H
              clear H
              go_wp2
              go_meet
              case rel => exact ⟨_, (true), (by first | rfl | (simp; done) | (simp [*]; done)), H', ⟨by first | omega | exact Nat.le_refl _⟩, ⟨by (with_reducible repeat (first | apply Kd.R_alloc | apply Kd.R_drewN | apply Kd.R_drew)); exact Kd.R_mono HO297.out (fun _ hk => ⟨hk.1.2, hk.2⟩)⟩, ⟨by (with_reducible repeat (first | apply Kd.R_alloc | apply Kd.R_drewN | apply Kd.R_drew)); exact Kd.R_mono HO301.out (fun _ hk => ⟨hk.1.2, hk.2⟩)⟩, ⟨by (with_reducible repeat (first | apply Kd.R_alloc | apply Kd.R_drewN | apply Kd.R_drew)); exact Kd.R_mono HO305.out (fun _ hk => ⟨hk.1.2, hk.2⟩)⟩, ⟨by repeat (first | (with_reducible first | exact HB.out | apply below_alloc | apply pw_below_drewN | apply below_drew1) | exact HB.out)⟩⟩
          · replace c27 := Bool.eq_false_iff.mpr c27
            subst c27
            have H1 : (laws_FnCheapest.j0 k t289 t294 t298 t302 true) = some r := by rw [if_neg (show ¬ (false = true) by decide)] at H; exact H
            clear H
            have H := H1
            clear H1
            have H' := Aside0.mk H
            clear H
            go_wp2
            go_meet
            case rel => exact ⟨_, (true), (by first | rfl | (simp; done) | (simp [*]; done)), H', ⟨by first | omega | exact Nat.le_refl _⟩, ⟨by (with_reducible repeat (first | apply Kd.R_alloc | apply Kd.R_drewN | apply Kd.R_drew)); exact Kd.R_mono HO297.out (fun _ hk => ⟨hk.1.2, hk.2⟩)⟩, ⟨by (with_reducible repeat (first | apply Kd.R_alloc | apply Kd.R_drewN | apply Kd.R_drew)); exact Kd.R_mono HO301.out (fun _ hk => ⟨hk.1.2, hk.2⟩)⟩, ⟨by (with_reducible repeat (first | apply Kd.R_alloc | apply Kd.R_drewN | apply Kd.R_drew)); exact Kd.R_mono HO305.out (fun _ hk => ⟨hk.1.2, hk.2⟩)⟩, ⟨by repeat (first | (with_reducible first | exact HB.out | apply below_alloc | apply pw_below_drewN | apply below_drew1) | exact HB.out)⟩⟩
        · replace c26 := Bool.eq_false_iff.mpr c26
          subst c26
          have H1 : (laws_FnCheapest.j0 k t289 t294 t298 t302 true) = some r := by rw [if_neg (show ¬ (false = true) by decide)] at H; exact H
          clear H
          have H := H1
          clear H1
          have H' := Aside0.mk H
          clear H
          go_wp2
          go_meet
          case rel => exact ⟨_, (true), (by first | rfl | (simp; done) | (simp [*]; done)), H', ⟨by first | omega | exact Nat.le_refl _⟩, ⟨by (with_reducible repeat (first | apply Kd.R_alloc | apply Kd.R_drewN | apply Kd.R_drew)); exact Kd.R_mono HO297.out (fun _ hk => ⟨hk.1.2, hk.2⟩)⟩, ⟨by (with_reducible repeat (first | apply Kd.R_alloc | apply Kd.R_drewN | apply Kd.R_drew)); exact Kd.R_mono HO301.out (fun _ hk => ⟨hk.1.2, hk.2⟩)⟩, ⟨by (with_reducible repeat (first | apply Kd.R_alloc | apply Kd.R_drewN | apply Kd.R_drew)); exact Kd.R_mono HO305.out (fun _ hk => ⟨hk.1.2, hk.2⟩)⟩, ⟨by repeat (first | (with_reducible first | exact HB.out | apply below_alloc | apply pw_below_drewN | apply below_drew1) | exact HB.out)⟩⟩
      case rest =>
        clear HC13
        try clear c1
        try clear c2
        try clear p2
        try clear q2
        try clear hx2
        try clear qi2
        try clear c3
        try clear c6
        try clear c6b0
        try clear c6b1
        try clear p6
        try clear c8
        try clear c12
        try clear c17
        try clear c19
        try clear c20
        try clear c21
        try clear c22
        try clear c23
        try clear c26
        try clear c27
        try clear c28
        try clear c29
        try clear p29
        try clear q29
        try clear hx29
        try clear qi29
        try clear c30
        try clear c31
        try clear c32
        try clear c32b0
        try clear c32b1
        try clear c33
        try clear c33b0
        try clear c33b1
        try clear hx293_0
        try clear p293
        try clear q293
        obtain ⟨kq, x102_12, rfl, HA, HJ12, HO_5, HO_7, HO_9, HB⟩ := hcut
        cases kq with
        | zero => exact absurd HA.out (by simp [laws_FnCheapest.j0])
        | succ kj12 =>
          have H := HA.out
          clear HA
          simp only [laws_FnCheapest.j0] at H
          by_cases c34 : x102_12 = true
          · subst c34
            have H1 : (some false) = some r := by rw [if_pos rfl] at H; exact H
            clear H
            have H := H1
            clear H1
            obtain rfl := Option.some.inj H
            go_wp2
            go_ret
            exact ⟨by first | rfl | (simp [errW_none, errW_some] <;> rfl) | (simp [*, errW_none, errW_some] <;> rfl), by repeat (first | (with_reducible first | exact HB.out | apply below_alloc | apply pw_below_drewN | apply below_drew1) | exact HB.out)⟩
          · replace c34 := Bool.eq_false_iff.mpr c34
            subst c34
            have H1 : ((impl_TokensCost.f kj12 t294).bind fun bt312 => ((impl_TokensCost.f kj12 t298).bind fun bt314 => ((impl_TokensCost.f kj12 t302).bind fun bt316 => (if bt316.2 = true then (if bt316.1 ≤ bt312.1 then (if bt316.1 ≤ bt314.1 then (some (decide (bt316.1 ≤ (wrap64 (9 * (t289.size : Int)))))) else (some false)) else (some false)) else (some false))))) = some r := by rw [if_neg (show ¬ (false = true) by decide)] at H; exact H
            clear H
            have H := H1
            clear H1
            replace H := Option.bind_eq_some_iff.mp H
            obtain ⟨⟨t312, t313⟩, A350, H⟩ := H
            replace H : ((impl_TokensCost.f kj12 t298).bind fun bt314 => ((impl_TokensCost.f kj12 t302).bind fun bt316 => (if bt316.2 = true then (if bt316.1 ≤ t312 then (if bt316.1 ≤ bt314.1 then (some (decide (bt316.1 ≤ (wrap64 (9 * (t289.size : Int)))))) else (some false)) else (some false)) else (some false)))) = some r := H
            have A35 := Aside0.mk A350
            clear A350
            replace H := Option.bind_eq_some_iff.mp H
            obtain ⟨⟨t314, t315⟩, A360, H⟩ := H
            replace H : ((impl_TokensCost.f kj12 t302).bind fun bt316 => (if bt316.2 = true then (if bt316.1 ≤ t312 then (if bt316.1 ≤ t314 then (some (decide (bt316.1 ≤ (wrap64 (9 * (t289.size : Int)))))) else (some false)) else (some false)) else (some false))) = some r := H
            have A36 := Aside0.mk A360
            clear A360
            replace H := Option.bind_eq_some_iff.mp H
            obtain ⟨⟨t316, t317⟩, A370, H⟩ := H
            replace H : (if t317 = true then (if t316 ≤ t312 then (if t316 ≤ t314 then (some (decide (t316 ≤ (wrap64 (9 * (t289.size : Int)))))) else (some false)) else (some false)) else (some false)) = some r := H
            have A37 := Aside0.mk A370
            clear A370
            by_cases c38 : t317 = true
            · subst c38
              have H1 : (if t316 ≤ t312 then (if t316 ≤ t314 then (some (decide (t316 ≤ (wrap64 (9 * (t289.size : Int)))))) else (some false)) else (some false)) = some r := by rw [if_pos rfl] at H; exact H
              clear H
              have H := H1
              clear H1
              by_cases c39 : t316 ≤ t312
              · rw [if_pos c39] at H
                have c39b0 : decide (t316 ≤ t312) = true := decide_eq_true c39
                clear c39
                by_cases c40 : t316 ≤ t314
                · rw [if_pos c40] at H
                  have c40b0 : decide (t316 ≤ t314) = true := decide_eq_true c40
                  clear c40
                  obtain rfl := Option.some.inj H
                  go_wp2_with (first | ((with_reducible refine gate_callee (f := 24) rfl ?_); refine goesL_ (some 105) rfl rfl Try.func24 (by kernel_rfl) rfl #[.slice Ao20 t294.length co20] rfl (by (try simp only [List.map_toArray, List.map_cons, List.map_nil]); first | done | rfl | (simp only [List.length_drop, List.length_take]; rfl)) ?_; (with_reducible refine (impl_TokensCost.calls kj12 _ _ t294 t312 t313 _ ?side1 ?side2 A35.out).mono ?_); (case side1 => repeat (first | exact (Kd.R_reads' HO_5.out).2.2 | (with_reducible refine Kd.C_alloc ?_ _) | (with_reducible refine Kd.C_drewN ?_ _) | (with_reducible refine Kd.C_drew ?_))); (case side2 => exact (Kd.R_reads' HO_5.out).2.1); rintro e w41 ⟨rfl, hb⟩; refine ⟨_, rfl, ?_⟩; have n0_ := Aside0.mk (Kd.R_below (by (with_reducible repeat (first | apply Kd.R_alloc | apply Kd.R_drewN | apply Kd.R_drew)); exact HO_5.out) hb); have n1_ := Aside0.mk (Kd.R_below (by (with_reducible repeat (first | apply Kd.R_alloc | apply Kd.R_drewN | apply Kd.R_drew)); exact HO_7.out) hb); have n2_ := Aside0.mk (Kd.R_below (by (with_reducible repeat (first | apply Kd.R_alloc | apply Kd.R_drewN | apply Kd.R_drew)); exact HO_9.out) hb); have n3_ := Aside0.mk (below_step (by repeat (first | (with_reducible first | exact HB.out | apply below_alloc | apply pw_below_drewN | apply below_drew1) | exact HB.out)) hb); clear HO_5; clear HO_7; clear HO_9; clear HB; have HO_5 := n0_; have HO_7 := n1_; have HO_9 := n2_; have HB := n3_; clear n0_ n1_ n2_ n3_; (try clear hb); (try clear hb2); (try clear hk); (try clear hi)) | ((with_reducible refine gate_callee (f := 24) rfl ?_); refine goesL_ (some 110) rfl rfl Try.func24 (by kernel_rfl) rfl #[.slice Ao22 t298.length co22] rfl (by (try simp only [List.map_toArray, List.map_cons, List.map_nil]); first | done | rfl | (simp only [List.length_drop, List.length_take]; rfl)) ?_; (with_reducible refine (impl_TokensCost.calls kj12 _ _ t298 t314 t315 _ ?side1 ?side2 A36.out).mono ?_); (case side1 => repeat (first | exact (Kd.R_reads' HO_7.out).2.2 | (with_reducible refine Kd.C_alloc ?_ _) | (with_reducible refine Kd.C_drewN ?_ _) | (with_reducible refine Kd.C_drew ?_))); (case side2 => exact (Kd.R_reads' HO_7.out).2.1); rintro e w42 ⟨rfl, hb⟩; refine ⟨_, rfl, ?_⟩; have n0_ := Aside0.mk (Kd.R_below (by (with_reducible repeat (first | apply Kd.R_alloc | apply Kd.R_drewN | apply Kd.R_drew)); exact HO_5.out) hb); have n1_ := Aside0.mk (Kd.R_below (by (with_reducible repeat (first | apply Kd.R_alloc | apply Kd.R_drewN | apply Kd.R_drew)); exact HO_7.out) hb); have n2_ := Aside0.mk (Kd.R_below (by (with_reducible repeat (first | apply Kd.R_alloc | apply Kd.R_drewN | apply Kd.R_drew)); exact HO_9.out) hb); have n3_ := Aside0.mk (below_step (by repeat (first | (with_reducible first | exact HB.out | apply below_alloc | apply pw_below_drewN | apply below_drew1) | exact HB.out)) hb); clear HO_5; clear HO_7; clear HO_9; clear HB; have HO_5 := n0_; have HO_7 := n1_; have HO_9 := n2_; have HB := n3_; clear n0_ n1_ n2_ n3_; (try clear hb); (try clear hb2); (try clear hk); (try clear hi)) | ((with_reducible refine gate_callee (f := 24) rfl ?_); refine goesL_ (some 115) rfl rfl Try.func24 (by kernel_rfl) rfl #[.slice Ao24 t302.length co24] rfl (by (try simp only [List.map_toArray, List.map_cons, List.map_nil]); first | done | rfl | (simp only [List.length_drop, List.length_take]; rfl)) ?_; (with_reducible refine (impl_TokensCost.calls kj12 _ _ t302 t316 true _ ?side1 ?side2 A37.out).mono ?_); (case side1 => repeat (first | exact (Kd.R_reads' HO_9.out).2.2 | (with_reducible refine Kd.C_alloc ?_ _) | (with_reducible refine Kd.C_drewN ?_ _) | (with_reducible refine Kd.C_drew ?_))); (case side2 => exact (Kd.R_reads' HO_9.out).2.1); rintro e w43 ⟨rfl, hb⟩; refine ⟨_, rfl, ?_⟩; have n0_ := Aside0.mk (Kd.R_below (by (with_reducible repeat (first | apply Kd.R_alloc | apply Kd.R_drewN | apply Kd.R_drew)); exact HO_5.out) hb); have n1_ := Aside0.mk (Kd.R_below (by (with_reducible repeat (first | apply Kd.R_alloc | apply Kd.R_drewN | apply Kd.R_drew)); exact HO_7.out) hb); have n2_ := Aside0.mk (Kd.R_below (by (with_reducible repeat (first | apply Kd.R_alloc | apply Kd.R_drewN | apply Kd.R_drew)); exact HO_9.out) hb); have n3_ := Aside0.mk (below_step (by repeat (first | (with_reducible first | exact HB.out | apply below_alloc | apply pw_below_drewN | apply below_drew1) | exact HB.out)) hb); clear HO_5; clear HO_7; clear HO_9; clear HB; have HO_5 := n0_; have HO_7 := n1_; have HO_9 := n2_; have HB := n3_; clear n0_ n1_ n2_ n3_; (try clear hb); (try clear hb2); (try clear hk); (try clear hi)))
                  go_ret
                  exact ⟨by first | rfl | (simp [errW_none, errW_some] <;> rfl) | (simp [*, errW_none, errW_some] <;> rfl), by repeat (first | (with_reducible first | exact HB.out | apply below_alloc | apply pw_below_drewN | apply below_drew1) | exact HB.out)⟩
                · rw [if_neg c40] at H
                  have c40b0 : decide (t316 ≤ t314) = false := decide_eq_false c40
                  clear c40
                  obtain rfl := Option.some.inj H
                  go_wp2_with (first | ((with_reducible refine gate_callee (f := 24) rfl ?_); refine goesL_ (some 105) rfl rfl Try.func24 (by kernel_rfl) rfl #[.slice Ao20 t294.length co20] rfl (by (try simp only [List.map_toArray, List.map_cons, List.map_nil]); first | done | rfl | (simp only [List.length_drop, List.length_take]; rfl)) ?_; (with_reducible refine (impl_TokensCost.calls kj12 _ _ t294 t312 t313 _ ?side1 ?side2 A35.out).mono ?_); (case side1 => repeat (first | exact (Kd.R_reads' HO_5.out).2.2 | (with_reducible refine Kd.C_alloc ?_ _) | (with_reducible refine Kd.C_drewN ?_ _) | (with_reducible refine Kd.C_drew ?_))); (case side2 => exact (Kd.R_reads' HO_5.out).2.1); rintro e w44 ⟨rfl, hb⟩; refine ⟨_, rfl, ?_⟩; have n0_ := Aside0.mk (Kd.R_below (by (with_reducible repeat (first | apply Kd.R_alloc | apply Kd.R_drewN | apply Kd.R_drew)); exact HO_5.out) hb); have n1_ := Aside0.mk (Kd.R_below (by (with_reducible repeat (first | apply Kd.R_alloc | apply Kd.R_drewN | apply Kd.R_drew)); exact HO_7.out) hb); have n2_ := Aside0.mk (Kd.R_below (by (with_reducible repeat (first | apply Kd.R_alloc | apply Kd.R_drewN | apply Kd.R_drew)); exact HO_9.out) hb); have n3_ := Aside0.mk (below_step (by repeat (first | (with_reducible first | exact HB.out | apply below_alloc | apply pw_below_drewN | apply below_drew1) | exact HB.out)) hb); clear HO_5; clear HO_7; clear HO_9; clear HB; have HO_5 := n0_; have HO_7 := n1_; have HO_9 := n2_; have HB := n3_; clear n0_ n1_ n2_ n3_; (try clear hb); (try clear hb2); (try clear hk); (try clear hi)) | ((with_reducible refine gate_callee (f := 24) rfl ?_); refine goesL_ (some 110) rfl rfl Try.func24 (by kernel_rfl) rfl #[.slice Ao22 t298.length co22] rfl (by (try simp only [List.map_toArray, List.map_cons, List.map_nil]); first | done | rfl | (simp only [List.length_drop, List.length_take]; rfl)) ?_; (with_reducible refine (impl_TokensCost.calls kj12 _ _ t298 t314 t315 _ ?side1 ?side2 A36.out).mono ?_); (case side1 => repeat (first | exact (Kd.R_reads' HO_7.out).2.2 | (with_reducible refine Kd.C_alloc ?_ _) | (with_reducible refine Kd.C_drewN ?_ _) | (with_reducible refine Kd.C_drew ?_))); (case side2 => exact (Kd.R_reads' HO_7.out).2.1); rintro e w45 ⟨rfl, hb⟩; refine ⟨_, rfl, ?_⟩; have n0_ := Aside0.mk (Kd.R_below (by (with_reducible repeat (first | apply Kd.R_alloc | apply Kd.R_drewN | apply Kd.R_drew)); exact HO_5.out) hb); have n1_ := Aside0.mk (Kd.R_below (by (with_reducible repeat (first | apply Kd.R_alloc | apply Kd.R_drewN | apply Kd.R_drew)); exact HO_7.out) hb); have n2_ := Aside0.mk (Kd.R_below (by (with_reducible repeat (first | apply Kd.R_alloc | apply Kd.R_drewN | apply Kd.R_drew)); exact HO_9.out) hb); have n3_ := Aside0.mk (below_step (by repeat (first | (with_reducible first | exact HB.out | apply below_alloc | apply pw_below_drewN | apply below_drew1) | exact HB.out)) hb); clear HO_5; clear HO_7; clear HO_9; clear HB; have HO_5 := n0_; have HO_7 := n1_; have HO_9 := n2_; have HB := n3_; clear n0_ n1_ n2_ n3_; (try clear hb); (try clear hb2); (try clear hk); (try clear hi)) | ((with_reducible refine gate_callee (f := 24) rfl ?_); refine goesL_ (some 115) rfl rfl Try.func24 (by kernel_rfl) rfl #[.slice Ao24 t302.length co24] rfl (by (try simp only [List.map_toArray, List.map_cons, List.map_nil]); first | done | rfl | (simp only [List.length_drop, List.length_take]; rfl)) ?_; (with_reducible refine (impl_TokensCost.calls kj12 _ _ t302 t316 true _ ?side1 ?side2 A37.out).mono ?_); (case side1 => repeat (first | exact (Kd.R_reads' HO_9.out).2.2 | (with_reducible refine Kd.C_alloc ?_ _) | (with_reducible refine Kd.C_drewN ?_ _) | (with_reducible refine Kd.C_drew ?_))); (case side2 => exact (Kd.R_reads' HO_9.out).2.1); rintro e w46 ⟨rfl, hb⟩; refine ⟨_, rfl, ?_⟩; have n0_ := Aside0.mk (Kd.R_below (by (with_reducible repeat (first | apply Kd.R_alloc | apply Kd.R_drewN | apply Kd.R_drew)); exact HO_5.out) hb); have n1_ := Aside0.mk (Kd.R_below (by (with_reducible repeat (first | apply Kd.R_alloc | apply Kd.R_drewN | apply Kd.R_drew)); exact HO_7.out) hb); have n2_ := Aside0.mk (Kd.R_below (by (with_reducible repeat (first | apply Kd.R_alloc | apply Kd.R_drewN | apply Kd.R_drew)); exact HO_9.out) hb); have n3_ := Aside0.mk (below_step (by repeat (first | (with_reducible first | exact HB.out | apply below_alloc | apply pw_below_drewN | apply below_drew1) | exact HB.out)) hb); clear HO_5; clear HO_7; clear HO_9; clear HB; have HO_5 := n0_; have HO_7 := n1_; have HO_9 := n2_; have HB := n3_; clear n0_ n1_ n2_ n3_; (try clear hb); (try clear hb2); (try clear hk); (try clear hi)))
                  go_ret
                  exact ⟨by first | rfl | (simp [errW_none, errW_some] <;> rfl) | (simp [*, errW_none, errW_some] <;> rfl), by repeat (first | (with_reducible first | exact HB.out | apply below_alloc | apply pw_below_drewN | apply below_drew1) | exact HB.out)⟩
              · rw [if_neg c39] at H
                have c39b0 : decide (t316 ≤ t312) = false := decide_eq_false c39
                clear c39
                obtain rfl := Option.some.inj H
                go_wp2_with (first | ((with_reducible refine gate_callee (f := 24) rfl ?_); refine goesL_ (some 105) rfl rfl Try.func24 (by kernel_rfl) rfl #[.slice Ao20 t294.length co20] rfl (by (try simp only [List.map_toArray, List.map_cons, List.map_nil]); first | done | rfl | (simp only [List.length_drop, List.length_take]; rfl)) ?_; (with_reducible refine (impl_TokensCost.calls kj12 _ _ t294 t312 t313 _ ?side1 ?side2 A35.out).mono ?_); (case side1 => repeat (first | exact (Kd.R_reads' HO_5.out).2.2 | (with_reducible refine Kd.C_alloc ?_ _) | (with_reducible refine Kd.C_drewN ?_ _) | (with_reducible refine Kd.C_drew ?_))); (case side2 => exact (Kd.R_reads' HO_5.out).2.1); rintro e w47 ⟨rfl, hb⟩; refine ⟨_, rfl, ?_⟩; have n0_ := Aside0.mk (Kd.R_below (by (with_reducible repeat (first | apply Kd.R_alloc | apply Kd.R_drewN | apply Kd.R_drew)); exact HO_5.out) hb); have n1_ := Aside0.mk (Kd.R_below (by (with_reducible repeat (first | apply Kd.R_alloc | apply Kd.R_drewN | apply Kd.R_drew)); exact HO_7.out) hb); have n2_ := Aside0.mk (Kd.R_below (by (with_reducible repeat (first | apply Kd.R_alloc | apply Kd.R_drewN | apply Kd.R_drew)); exact HO_9.out) hb); have n3_ := Aside0.mk (below_step (by repeat (first | (with_reducible first | exact HB.out | apply below_alloc | apply pw_below_drewN | apply below_drew1) | exact HB.out)) hb); clear HO_5; clear HO_7; clear HO_9; clear HB; have HO_5 := n0_; have HO_7 := n1_; have HO_9 := n2_; have HB := n3_; clear n0_ n1_ n2_ n3_; (try clear hb); (try clear hb2); (try clear hk); (try clear hi)) | ((with_reducible refine gate_callee (f := 24) rfl ?_); refine goesL_ (some 110) rfl rfl Try.func24 (by kernel_rfl) rfl #[.slice Ao22 t298.length co22] rfl (by (try simp only [List.map_toArray, List.map_cons, List.map_nil]); first | done | rfl | (simp only [List.length_drop, List.length_take]; rfl)) ?_; (with_reducible refine (impl_TokensCost.calls kj12 _ _ t298 t314 t315 _ ?side1 ?side2 A36.out).mono ?_); (case side1 => repeat (first | exact (Kd.R_reads' HO_7.out).2.2 | (with_reducible refine Kd.C_alloc ?_ _) | (with_reducible refine Kd.C_drewN ?_ _) | (with_reducible refine Kd.C_drew ?_))); (case side2 => exact (Kd.R_reads' HO_7.out).2.1); rintro e w48 ⟨rfl, hb⟩; refine ⟨_, rfl, ?_⟩; have n0_ := Aside0.mk (Kd.R_below (by (with_reducible repeat (first | apply Kd.R_alloc | apply Kd.R_drewN | apply Kd.R_drew)); exact HO_5.out) hb); have n1_ := Aside0.mk (Kd.R_below (by (with_reducible repeat (first | apply Kd.R_alloc | apply Kd.R_drewN | apply Kd.R_drew)); exact HO_7.out) hb); have n2_ := Aside0.mk (Kd.R_below (by (with_reducible repeat (first | apply Kd.R_alloc | apply Kd.R_drewN | apply Kd.R_drew)); exact HO_9.out) hb); have n3_ := Aside0.mk (below_step (by repeat (first | (with_reducible first | exact HB.out | apply below_alloc | apply pw_below_drewN | apply below_drew1) | exact HB.out)) hb); clear HO_5; clear HO_7; clear HO_9; clear HB; have HO_5 := n0_; have HO_7 := n1_; have HO_9 := n2_; have HB := n3_; clear n0_ n1_ n2_ n3_; (try clear hb); (try clear hb2); (try clear hk); (try clear hi)) | ((with_reducible refine gate_callee (f := 24) rfl ?_); refine goesL_ (some 115) rfl rfl Try.func24 (by kernel_rfl) rfl #[.slice Ao24 t302.length co24] rfl (by (try simp only [List.map_toArray, List.map_cons, List.map_nil]); first | done | rfl | (simp only [List.length_drop, List.length_take]; rfl)) ?_; (with_reducible refine (impl_TokensCost.calls kj12 _ _ t302 t316 true _ ?side1 ?side2 A37.out).mono ?_); (case side1 => repeat (first | exact (Kd.R_reads' HO_9.out).2.2 | (with_reducible refine Kd.C_alloc ?_ _) | (with_reducible refine Kd.C_drewN ?_ _) | (with_reducible refine Kd.C_drew ?_))); (case side2 => exact (Kd.R_reads' HO_9.out).2.1); rintro e w49 ⟨rfl, hb⟩; refine ⟨_, rfl, ?_⟩; have n0_ := Aside0.mk (Kd.R_below (by (with_reducible repeat (first | apply Kd.R_alloc | apply Kd.R_drewN | apply Kd.R_drew)); exact HO_5.out) hb); have n1_ := Aside0.mk (Kd.R_below (by (with_reducible repeat (first | apply Kd.R_alloc | apply Kd.R_drewN | apply Kd.R_drew)); exact HO_7.out) hb); have n2_ := Aside0.mk (Kd.R_below (by (with_reducible repeat (first | apply Kd.R_alloc | apply Kd.R_drewN | apply Kd.R_drew)); exact HO_9.out) hb); have n3_ := Aside0.mk (below_step (by repeat (first | (with_reducible first | exact HB.out | apply below_alloc | apply pw_below_drewN | apply below_drew1) | exact HB.out)) hb); clear HO_5; clear HO_7; clear HO_9; clear HB; have HO_5 := n0_; have HO_7 := n1_; have HO_9 := n2_; have HB := n3_; clear n0_ n1_ n2_ n3_; (try clear hb); (try clear hb2); (try clear hk); (try clear hi)))
                go_ret
                exact ⟨by first | rfl | (simp [errW_none, errW_some] <;> rfl) | (simp [*, errW_none, errW_some] <;> rfl), by repeat (first | (with_reducible first | exact HB.out | apply below_alloc | apply pw_below_drewN | apply below_drew1) | exact HB.out)⟩
            · replace c38 := Bool.eq_false_iff.mpr c38
              subst c38
              have H1 : (some false) = some r := by rw [if_neg (show ¬ (false = true) by decide)] at H; exact H
              clear H
              have H := H1
              clear H1
              obtain rfl := Option.some.inj H
              go_wp2_with (first | ((with_reducible refine gate_callee (f := 24) rfl ?_); refine goesL_ (some 105) rfl rfl Try.func24 (by kernel_rfl) rfl #[.slice Ao20 t294.length co20] rfl (by (try simp only [List.map_toArray, List.map_cons, List.map_nil]); first | done | rfl | (simp only [List.length_drop, List.length_take]; rfl)) ?_; (with_reducible refine (impl_TokensCost.calls kj12 _ _ t294 t312 t313 _ ?side1 ?side2 A35.out).mono ?_); (case side1 => repeat (first | exact (Kd.R_reads' HO_5.out).2.2 | (with_reducible refine Kd.C_alloc ?_ _) | (with_reducible refine Kd.C_drewN ?_ _) | (with_reducible refine Kd.C_drew ?_))); (case side2 => exact (Kd.R_reads' HO_5.out).2.1); rintro e w50 ⟨rfl, hb⟩; refine ⟨_, rfl, ?_⟩; have n0_ := Aside0.mk (Kd.R_below (by (with_reducible repeat (first | apply Kd.R_alloc | apply Kd.R_drewN | apply Kd.R_drew)); exact HO_5.out) hb); have n1_ := Aside0.mk (Kd.R_below (by (with_reducible repeat (first | apply Kd.R_alloc | apply Kd.R_drewN | apply Kd.R_drew)); exact HO_7.out) hb); have n2_ := Aside0.mk (Kd.R_below (by (with_reducible repeat (first | apply Kd.R_alloc | apply Kd.R_drewN | apply Kd.R_drew)); exact HO_9.out) hb); have n3_ := Aside0.mk (below_step (by repeat (first | (with_reducible first | exact HB.out | apply below_alloc | apply pw_below_drewN | apply below_drew1) | exact HB.out)) hb); clear HO_5; clear HO_7; clear HO_9; clear HB; have HO_5 := n0_; have HO_7 := n1_; have HO_9 := n2_; have HB := n3_; clear n0_ n1_ n2_ n3_; (try clear hb); (try clear hb2); (try clear hk); (try clear hi)) | ((with_reducible refine gate_callee (f := 24) rfl ?_); refine goesL_ (some 110) rfl rfl Try.func24 (by kernel_rfl) rfl #[.slice Ao22 t298.length co22] rfl (by (try simp only [List.map_toArray, List.map_cons, List.map_nil]); first | done | rfl | (simp only [List.length_drop, List.length_take]; rfl)) ?_; (with_reducible refine (impl_TokensCost.calls kj12 _ _ t298 t314 t315 _ ?side1 ?side2 A36.out).mono ?_); (case side1 => repeat (first | exact (Kd.R_reads' HO_7.out).2.2 | (with_reducible refine Kd.C_alloc ?_ _) | (with_reducible refine Kd.C_drewN ?_ _) | (with_reducible refine Kd.C_drew ?_))); (case side2 => exact (Kd.R_reads' HO_7.out).2.1); rintro e w51 ⟨rfl, hb⟩; refine ⟨_, rfl, ?_⟩; have n0_ := Aside0.mk (Kd.R_below (by (with_reducible repeat (first | apply Kd.R_alloc | apply Kd.R_drewN | apply Kd.R_drew)); exact HO_5.out) hb); have n1_ := Aside0.mk (Kd.R_below (by (with_reducible repeat (first | apply Kd.R_alloc | apply Kd.R_drewN | apply Kd.R_drew)); exact HO_7.out) hb); have n2_ := Aside0.mk (Kd.R_below (by (with_reducible repeat (first | apply Kd.R_alloc | apply Kd.R_drewN | apply Kd.R_drew)); exact HO_9.out) hb); have n3_ := Aside0.mk (below_step (by repeat (first | (with_reducible first | exact HB.out | apply below_alloc | apply pw_below_drewN | apply below_drew1) | exact HB.out)) hb); clear HO_5; clear HO_7; clear HO_9; clear HB; have HO_5 := n0_; have HO_7 := n1_; have HO_9 := n2_; have HB := n3_; clear n0_ n1_ n2_ n3_; (try clear hb); (try clear hb2); (try clear hk); (try clear hi)) | ((with_reducible refine gate_callee (f := 24) rfl ?_); refine goesL_ (some 115) rfl rfl Try.func24 (by kernel_rfl) rfl #[.slice Ao24 t302.length co24] rfl (by (try simp only [List.map_toArray, List.map_cons, List.map_nil]); first | done | rfl | (simp only [List.length_drop, List.length_take]; rfl)) ?_; (with_reducible refine (impl_TokensCost.calls kj12 _ _ t302 t316 false _ ?side1 ?side2 A37.out).mono ?_); (case side1 => repeat (first | exact (Kd.R_reads' HO_9.out).2.2 | (with_reducible refine Kd.C_alloc ?_ _) | (with_reducible refine Kd.C_drewN ?_ _) | (with_reducible refine Kd.C_drew ?_))); (case side2 => exact (Kd.R_reads' HO_9.out).2.1); rintro e w52 ⟨rfl, hb⟩; refine ⟨_, rfl, ?_⟩; have n0_ := Aside0.mk (Kd.R_below (by (with_reducible repeat (first | apply Kd.R_alloc | apply Kd.R_drewN | apply Kd.R_drew)); exact HO_5.out) hb); have n1_ := Aside0.mk (Kd.R_below (by (with_reducible repeat (first | apply Kd.R_alloc | apply Kd.R_drewN | apply Kd.R_drew)); exact HO_7.out) hb); have n2_ := Aside0.mk (Kd.R_below (by (with_reducible repeat (first | apply Kd.R_alloc | apply Kd.R_drewN | apply Kd.R_drew)); exact HO_9.out) hb); have n3_ := Aside0.mk (below_step (by repeat (first | (with_reducible first | exact HB.out | apply below_alloc | apply pw_below_drewN | apply below_drew1) | exact HB.out)) hb); clear HO_5; clear HO_7; clear HO_9; clear HB; have HO_5 := n0_; have HO_7 := n1_; have HO_9 := n2_; have HB := n3_; clear n0_ n1_ n2_ n3_; (try clear hb); (try clear hb2); (try clear hk); (try clear hi)))
              go_ret
              exact ⟨by first | rfl | (simp [errW_none, errW_some] <;> rfl) | (simp [*, errW_none, errW_some] <;> rfl), by repeat (first | (with_reducible first | exact HB.out | apply below_alloc | apply pw_below_drewN | apply below_drew1) | exact HB.out)⟩
    · rw [if_neg c6] at H
      exact absurd H (by simp)

/-- THE ONE PURE STATEMENT of laws_FnCheapest: yours. -/
def laws_FnCheapest.Pure : Prop := ∀ (l0 : List Int), l0.length ≤ maxLen → l0.length * 1 ≤ 140737488351232 → (∀ x ∈ l0, (Lit.int .u8 x).wf = true) → ∃ k, laws_FnCheapest.f k l0 = some true
theorem laws_FnCheapest.walk (P : laws_FnCheapest.Pure) (w : World) (A0 : Option Addr) (c0 : Nat) (l0 : List Int) (hr0 : Kd.C (Kd.int .u8) w A0 l0.length l0) (hc0 : l0.length ≤ c0) (hm0 : l0.length ≤ maxLen) (y0 : l0.length * 1 ≤ 140737488351232) (hw0 : ∀ x ∈ l0, (Lit.int .u8 x).wf = true) :
    Calls Try.prog 8 #[.slice A0 l0.length c0] w fun e w' => e = .returned (.bool true) ∧ Below w.heap.size w w' := by
  obtain ⟨k, h⟩ := P l0 hm0 y0 hw0
  refine (laws_FnCheapest.calls k A0 c0 l0 true w hr0 hc0 h).mono ?_
  rintro e w' ⟨rfl, hd⟩
  exact ⟨rfl, hd⟩

end Go.Proofs.Ytaaoojmbomhakaa.PFnCheapest
