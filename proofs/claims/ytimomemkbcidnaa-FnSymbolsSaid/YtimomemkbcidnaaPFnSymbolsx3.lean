-- Written by a program of this session (a changed print); Lean checks it.
import Derived.Test.YtimomemkbcidnaaPFnSymbolsx0
import Derived.Test.YtimomemkbcidnaaPFnSymbolsx1
import Derived.Test.YtimomemkbcidnaaPFnSymbolsx2
namespace Go.Proofs.Ytimomemkbcidnaa.PFnSymbols
open Go.RowKit Go.Proofs.YtimomemkbcidnaaW.PrintWords Go.Proofs.YtimomemkbcidnaaW.PrintLast Go.Proofs.YtimomemkbcidnaaW.PrintMore
attribute [local go_sem] max2_int min2_int max_two min_two max_three min_three max_four min_four   -- for this text's walks alone
set_option linter.unusedVariables false
set_option linter.unusedSimpArgs false

/-! ### laws_FnSymbols: function 9 -/
mutual
def laws_FnSymbols.l0 : Nat → List Int → List Int → List Int → List Int → Int → Option (Bool)
  | 0, _, _, _, _, _ => none
  | k + 1, x3, x4, x5, x6, x7 => if x7 < (x4.length : Int) then (if 0 ≤ x7 then (if (x3.length : Int) = 0 then (none) else (if x5.length < 17592186044416 then (if 0 ≤ (Int.tmod (rd x4 x7) (x3.length : Int)) then (if (Int.tmod (rd x4 x7) (x3.length : Int)) < (x6.length : Int) then (laws_FnSymbols.l0 k x3 x4 (x5 ++ [Int.tmod (rd x4 x7) (x3.length : Int)]) (x6.set ((Int.tmod (rd x4 x7) (x3.length : Int)) : Int).toNat (wrap64 ((rd x6 (Int.tmod (rd x4 x7) (x3.length : Int))) + 1))) (wrap64 (x7 + 1))) else (none)) else (none)) else (none))) else (none)) else ((impl_PutSymbols.f (⟨#[]⟩ : ByteArray) 0 x3 x5).bind fun bt198 => ((impl_CostOf.f k x3 x6).bind fun bt202 => (if bt198.2.2 = true then (if bt202.2 = true then (if bt202.1 = bt198.2.1 then ((impl_CodeKind.f x3).bind fun t204 => (laws_FnSymbols.j1 k x3 x5 (t204 != 2) bt198.1 bt198.2.1)) else (laws_FnSymbols.j1 k x3 x5 true bt198.1 bt198.2.1)) else (laws_FnSymbols.j1 k x3 x5 true bt198.1 bt198.2.1)) else (laws_FnSymbols.j1 k x3 x5 true bt198.1 bt198.2.1))))
def laws_FnSymbols.j1 : Nat → List Int → List Int → Bool → ByteArray → Int → Option (Bool)
  | 0, _, _, _, _, _ => none
  | k + 1, x3, x5, x82, x202000, x202001 => if x82 = true then (some false) else (laws_FnSymbols.l1 k x3 x5 0 x202000 x202001 x202000 0)
def laws_FnSymbols.l1 : Nat → List Int → List Int → Int → ByteArray → Int → ByteArray → Int → Option (Bool)
  | 0, _, _, _, _, _, _, _ => none
  | k + 1, x3, x5, x14, x202000, x202001, x206000, x206001 => if x14 < (x5.length : Int) then ((impl_TakeSymbol.f x3 x206000 x206001).bind fun bt206 => (if bt206.2.2.2 = true then (if 0 ≤ x14 then (if bt206.1 = (rd x5 x14) then (laws_FnSymbols.l1 k x3 x5 (wrap64 (x14 + 1)) x202000 x202001 bt206.2.1 bt206.2.2.1) else (some false)) else (none)) else (some false))) else (some (x206001 == x202001))
end
def laws_FnSymbols.f (k : Nat) (l0 : List Int) : Option (Bool) := (laws_big.f l0).bind fun t179 => (if t179 = true then (some true) else ((spec_DrawWhole.f k l0).bind fun t180 => ((spec_DrawPlaces.f k l0).bind fun t183 => (if 0 ≤ (t180.length : Int) then (if ((t180.length : Int) : Int).toNat ≤ 35184372088832 then (laws_FnSymbols.l0 k t180 t183 (([] : List Int)) (List.replicate ((t180.length : Int) : Int).toNat 0) 0) else (none)) else (none)))))
theorem laws_FnSymbols.mono_l : ∀ k, (∀ y0 y1 y2 y3 y4, LeO (laws_FnSymbols.l0 k y0 y1 y2 y3 y4) (laws_FnSymbols.l0 (k + 1) y0 y1 y2 y3 y4)) ∧ (∀ y0 y1 y2 y3 y4, LeO (laws_FnSymbols.j1 k y0 y1 y2 y3 y4) (laws_FnSymbols.j1 (k + 1) y0 y1 y2 y3 y4)) ∧ (∀ y0 y1 y2 y3 y4 y5 y6, LeO (laws_FnSymbols.l1 k y0 y1 y2 y3 y4 y5 y6) (laws_FnSymbols.l1 (k + 1) y0 y1 y2 y3 y4 y5 y6))
  | 0 => ⟨fun _ _ _ _ _ r h => by simp [laws_FnSymbols.l0] at h, fun _ _ _ _ _ r h => by simp [laws_FnSymbols.j1] at h, fun _ _ _ _ _ _ _ r h => by simp [laws_FnSymbols.l1] at h⟩
  | k + 1 => by
    obtain ⟨ih0, ih1, ih2⟩ := laws_FnSymbols.mono_l k
    refine ⟨?_, ?_, ?_⟩
    · intro y0 y1 y2 y3 y4
      unfold laws_FnSymbols.l0
      repeat' first
      | (with_reducible exact ih0 _ _ _ _ _)
      | (with_reducible exact ih1 _ _ _ _ _)
      | (with_reducible exact ih2 _ _ _ _ _ _ _)
      | (with_reducible exact impl_CostOf.mono _ _ _)
      | (with_reducible exact spec_DrawPlaces.mono _ _)
      | (with_reducible exact spec_DrawWhole.mono _ _)
      | (with_reducible exact LeO.refl _)
      | (with_reducible exact LeO.none _)
      | (with_reducible refine LeO.ite ?_ ?_)
      | (with_reducible refine LeO.bind ?_ (fun _ => ?_))
      | exact ih0 _ _ _ _ _
      | exact ih1 _ _ _ _ _
      | exact ih2 _ _ _ _ _ _ _
      | exact impl_CostOf.mono _ _ _
      | exact spec_DrawPlaces.mono _ _
      | exact spec_DrawWhole.mono _ _
      | exact LeO.none _
      | refine LeO.ite ?_ ?_
      | refine LeO.bind ?_ (fun _ => ?_)
    · intro y0 y1 y2 y3 y4
      unfold laws_FnSymbols.j1
      repeat' first
      | (with_reducible exact ih0 _ _ _ _ _)
      | (with_reducible exact ih1 _ _ _ _ _)
      | (with_reducible exact ih2 _ _ _ _ _ _ _)
      | (with_reducible exact impl_CostOf.mono _ _ _)
      | (with_reducible exact spec_DrawPlaces.mono _ _)
      | (with_reducible exact spec_DrawWhole.mono _ _)
      | (with_reducible exact LeO.refl _)
      | (with_reducible exact LeO.none _)
      | (with_reducible refine LeO.ite ?_ ?_)
      | (with_reducible refine LeO.bind ?_ (fun _ => ?_))
      | exact ih0 _ _ _ _ _
      | exact ih1 _ _ _ _ _
      | exact ih2 _ _ _ _ _ _ _
      | exact impl_CostOf.mono _ _ _
      | exact spec_DrawPlaces.mono _ _
      | exact spec_DrawWhole.mono _ _
      | exact LeO.none _
      | refine LeO.ite ?_ ?_
      | refine LeO.bind ?_ (fun _ => ?_)
    · intro y0 y1 y2 y3 y4 y5 y6
      unfold laws_FnSymbols.l1
      repeat' first
      | (with_reducible exact ih0 _ _ _ _ _)
      | (with_reducible exact ih1 _ _ _ _ _)
      | (with_reducible exact ih2 _ _ _ _ _ _ _)
      | (with_reducible exact impl_CostOf.mono _ _ _)
      | (with_reducible exact spec_DrawPlaces.mono _ _)
      | (with_reducible exact spec_DrawWhole.mono _ _)
      | (with_reducible exact LeO.refl _)
      | (with_reducible exact LeO.none _)
      | (with_reducible refine LeO.ite ?_ ?_)
      | (with_reducible refine LeO.bind ?_ (fun _ => ?_))
      | exact ih0 _ _ _ _ _
      | exact ih1 _ _ _ _ _
      | exact ih2 _ _ _ _ _ _ _
      | exact impl_CostOf.mono _ _ _
      | exact spec_DrawPlaces.mono _ _
      | exact spec_DrawWhole.mono _ _
      | exact LeO.none _
      | refine LeO.ite ?_ ?_
      | refine LeO.bind ?_ (fun _ => ?_)
theorem laws_FnSymbols.mono : ∀ a0 k, LeO (laws_FnSymbols.f k a0) (laws_FnSymbols.f (k + 1) a0) := by
  intro a0 k
  obtain ⟨ih0, ih1, ih2⟩ := laws_FnSymbols.mono_l k
  unfold laws_FnSymbols.f
  repeat' first
      | (with_reducible exact ih0 _ _ _ _ _)
      | (with_reducible exact ih1 _ _ _ _ _)
      | (with_reducible exact ih2 _ _ _ _ _ _ _)
      | (with_reducible exact impl_CostOf.mono _ _ _)
      | (with_reducible exact spec_DrawPlaces.mono _ _)
      | (with_reducible exact spec_DrawWhole.mono _ _)
      | (with_reducible exact LeO.refl _)
      | (with_reducible exact LeO.none _)
      | (with_reducible refine LeO.ite ?_ ?_)
      | (with_reducible refine LeO.bind ?_ (fun _ => ?_))
      | exact ih0 _ _ _ _ _
      | exact ih1 _ _ _ _ _
      | exact ih2 _ _ _ _ _ _ _
      | exact impl_CostOf.mono _ _ _
      | exact spec_DrawPlaces.mono _ _
      | exact spec_DrawWhole.mono _ _
      | exact LeO.none _
      | refine LeO.ite ?_ ?_
      | refine LeO.bind ?_ (fun _ => ?_)
set_option maxHeartbeats 8000000 in
set_option maxRecDepth 100000 in
theorem laws_FnSymbols.calls (k : Nat) (A0 : Option Addr) (c0 : Nat) (l0 : List Int) (r : Bool) (w : World) (hr0 : Kd.C (Kd.int .u8) w A0 l0.length l0) (hc0 : l0.length ≤ c0) (h : laws_FnSymbols.f k l0 = some r) :
    Calls Try.prog 9 #[.slice A0 l0.length c0] w fun e w' => e = .returned (.bool r) ∧ Below w.heap.size w w' := by
  have hu47 := Try.underlying47
  have hu38 := Try.underlying38
  have HR0 := Aside0.mk hr0
  have HC0 := Aside0.mk hc0
  clear hr0 hc0
  have HB := Aside0.mk (Below.refl w.heap.size w)
  have H : ((laws_big.f l0).bind fun t179 => (if t179 = true then (some true) else ((spec_DrawWhole.f k l0).bind fun t180 => ((spec_DrawPlaces.f k l0).bind fun t183 => (if 0 ≤ (t180.length : Int) then (if ((t180.length : Int) : Int).toNat ≤ 35184372088832 then (laws_FnSymbols.l0 k t180 t183 (([] : List Int)) (List.replicate ((t180.length : Int) : Int).toNat 0) 0) else (none)) else (none)))))) = some r := h
  clear h
  replace H := Option.bind_eq_some_iff.mp H
  obtain ⟨t179, A20, H⟩ := H
  replace H : (if t179 = true then (some true) else ((spec_DrawWhole.f k l0).bind fun t180 => ((spec_DrawPlaces.f k l0).bind fun t183 => (if 0 ≤ (t180.length : Int) then (if ((t180.length : Int) : Int).toNat ≤ 35184372088832 then (laws_FnSymbols.l0 k t180 t183 (([] : List Int)) (List.replicate ((t180.length : Int) : Int).toNat 0) 0) else (none)) else (none))))) = some r := H
  have A2 := Aside0.mk A20
  clear A20
  by_cases c3 : t179 = true
  · subst c3
    have H1 : (some true) = some r := by rw [if_pos rfl] at H; exact H
    clear H
    have H := H1
    clear H1
    obtain rfl := Option.some.inj H
    go_enter Try.func9, Try.ntmps9
    go_wp2_with (first | ((with_reducible refine gate_callee (f := 24) rfl ?_); refine goesL_ (some 19) rfl rfl Try.func24 (by kernel_rfl) rfl #[.slice A0 l0.length c0] rfl (by (try simp only [List.map_toArray, List.map_cons, List.map_nil]); first | done | rfl | (simp only [List.length_drop, List.length_take]; rfl)) ?_; (with_reducible refine (laws_big.calls _ _ l0 true _ ?side1 ?side2 A2.out).mono ?_); (case side1 => repeat (first | exact HR0.out | (with_reducible refine Kd.C_alloc ?_ _) | (with_reducible refine Kd.C_drewN ?_ _) | (with_reducible refine Kd.C_drew ?_))); (case side2 => exact HC0.out); rintro e w' ⟨rfl, ⟨nd, rfl⟩⟩; refine ⟨_, rfl, ?_⟩))
    go_ret
    exact ⟨by first | rfl | (simp [errW_none, errW_some] <;> rfl) | (simp [*, errW_none, errW_some] <;> rfl), by repeat (first | (with_reducible first | exact HB.out | apply below_alloc | apply pw_below_drewN | apply below_drew1) | exact HB.out)⟩
  · replace c3 := Bool.eq_false_iff.mpr c3
    subst c3
    have H1 : ((spec_DrawWhole.f k l0).bind fun t180 => ((spec_DrawPlaces.f k l0).bind fun t183 => (if 0 ≤ (t180.length : Int) then (if ((t180.length : Int) : Int).toNat ≤ 35184372088832 then (laws_FnSymbols.l0 k t180 t183 (([] : List Int)) (List.replicate ((t180.length : Int) : Int).toNat 0) 0) else (none)) else (none)))) = some r := by rw [if_neg (show ¬ (false = true) by decide)] at H; exact H
    clear H
    have H := H1
    clear H1
    replace H := Option.bind_eq_some_iff.mp H
    obtain ⟨t180, A40, H⟩ := H
    replace H : ((spec_DrawPlaces.f k l0).bind fun t183 => (if 0 ≤ (t180.length : Int) then (if ((t180.length : Int) : Int).toNat ≤ 35184372088832 then (laws_FnSymbols.l0 k t180 t183 (([] : List Int)) (List.replicate ((t180.length : Int) : Int).toNat 0) 0) else (none)) else (none))) = some r := H
    have A4 := Aside0.mk A40
    clear A40
    replace H := Option.bind_eq_some_iff.mp H
    obtain ⟨t183, A50, H⟩ := H
    replace H : (if 0 ≤ (t180.length : Int) then (if ((t180.length : Int) : Int).toNat ≤ 35184372088832 then (laws_FnSymbols.l0 k t180 t183 (([] : List Int)) (List.replicate ((t180.length : Int) : Int).toNat 0) 0) else (none)) else (none)) = some r := H
    have A5 := Aside0.mk A50
    clear A50
    obtain ⟨y186, hy186⟩ : ∃ y_ : List Int, y_ = (([] : List Int)) := ⟨_, rfl⟩
    replace H : (if 0 ≤ (t180.length : Int) then (if ((t180.length : Int) : Int).toNat ≤ 35184372088832 then (laws_FnSymbols.l0 k t180 t183 y186 (List.replicate ((t180.length : Int) : Int).toNat 0) 0) else (none)) else (none)) = some r := by first | (rw [hy186]; with_reducible exact H) | (have H2_ := (Option.bind_some _ _).symm.trans H; rw [hy186]; with_reducible exact H2_) | (have H2_ := (Option.bind_some _ _).symm.trans H; with_reducible exact H2_) | with_reducible exact H | (rw [hy186]; exact H) | exact H
    have Ny186 := Aside0.mk hy186
    clear hy186
    by_cases c6 : 0 ≤ (t180.length : Int)
    · rw [if_pos c6] at H
      have c6b0 := eq_true c6
      have c6b1 : decide (0 ≤ (t180.length : Int)) = true := decide_eq_true c6
      clear c6
      by_cases c7 : ((t180.length : Int) : Int).toNat ≤ 35184372088832
      · rw [if_pos c7] at H
        have c7b0 := eq_true c7
        have c7b1 : decide (((t180.length : Int) : Int).toNat ≤ 35184372088832) = true := decide_eq_true c7
        clear c7
        obtain ⟨y189, hy189⟩ : ∃ y_ : List Int, y_ = (List.replicate ((t180.length : Int) : Int).toNat 0) := ⟨_, rfl⟩
        replace H : (laws_FnSymbols.l0 k t180 t183 y186 y189 0) = some r := by first | (rw [hy189]; with_reducible exact H) | (have H2_ := (Option.bind_some _ _).symm.trans H; rw [hy189]; with_reducible exact H2_) | (have H2_ := (Option.bind_some _ _).symm.trans H; with_reducible exact H2_) | with_reducible exact H | (rw [hy189]; exact H) | exact H
        have Ny189 := Aside0.mk hy189
        clear hy189
        have H' := Aside0.mk H
        clear H
        go_enter Try.func9, Try.ntmps9
        go_wp2_with (first | ((with_reducible refine gate_callee (f := 24) rfl ?_); refine goesL_ (some 19) rfl rfl Try.func24 (by kernel_rfl) rfl #[.slice A0 l0.length c0] rfl (by (try simp only [List.map_toArray, List.map_cons, List.map_nil]); first | done | rfl | (simp only [List.length_drop, List.length_take]; rfl)) ?_; (with_reducible refine (laws_big.calls _ _ l0 false _ ?side1 ?side2 A2.out).mono ?_); (case side1 => repeat (first | exact HR0.out | (with_reducible refine Kd.C_alloc ?_ _) | (with_reducible refine Kd.C_drewN ?_ _) | (with_reducible refine Kd.C_drew ?_))); (case side2 => exact HC0.out); rintro e w' ⟨rfl, ⟨nd, rfl⟩⟩; refine ⟨_, rfl, ?_⟩) | ((with_reducible refine gate_callee (f := 36) rfl ?_); refine goesL_ (some 21) rfl rfl Try.func36 (by kernel_rfl) rfl #[.slice A0 l0.length c0] rfl (by (try simp only [List.map_toArray, List.map_cons, List.map_nil]); first | done | rfl | (simp only [List.length_drop, List.length_take]; rfl)) ?_; (with_reducible refine (spec_DrawWhole.calls k _ _ l0 t180 _ ?side1 ?side2 A4.out).mono ?_); (case side1 => repeat (first | exact HR0.out | (with_reducible refine Kd.C_alloc ?_ _) | (with_reducible refine Kd.C_drewN ?_ _) | (with_reducible refine Kd.C_drew ?_))); (case side2 => exact HC0.out); rintro e w8 ⟨v181, rfl, ho0, hb⟩; refine ⟨_, rfl, ?_⟩; have n0_ := Aside0.mk (Kd.R_lower ho0 (below_size (by repeat (first | (with_reducible first | exact HB.out | apply below_alloc | apply pw_below_drewN | apply below_drew1) | exact HB.out)))); have n1_ := Aside0.mk (below_step (by repeat (first | (with_reducible first | exact HB.out | apply below_alloc | apply pw_below_drewN | apply below_drew1) | exact HB.out)) hb); clear HB; have HO182 := n0_; have HB := n1_; clear n0_ n1_; (try clear hb); (try clear hb2); (try clear hk); (try clear hi); (try clear ho0)) | ((with_reducible refine gate_callee (f := 37) rfl ?_); refine goesL_ (some 23) rfl rfl Try.func37 (by kernel_rfl) rfl #[.slice A0 l0.length c0] rfl (by (try simp only [List.map_toArray, List.map_cons, List.map_nil]); first | done | rfl | (simp only [List.length_drop, List.length_take]; rfl)) ?_; (with_reducible refine (spec_DrawPlaces.calls k _ _ l0 t183 _ ?side1 ?side2 A5.out).mono ?_); (case side1 => repeat (first | exact (Kd.C_below HR0.out HB.out) | (with_reducible refine Kd.C_alloc ?_ _) | (with_reducible refine Kd.C_drewN ?_ _) | (with_reducible refine Kd.C_drew ?_))); (case side2 => exact HC0.out); rintro e w9 ⟨v184, rfl, ho0, hb⟩; refine ⟨_, rfl, ?_⟩; have n0_ := Aside0.mk (Kd.R_elder' (by (with_reducible repeat (first | apply Kd.R_alloc | apply Kd.R_drewN | apply Kd.R_drew)); exact HO182.out) (Kd.R_base ho0) hb); have n1_ := Aside0.mk (Kd.R_lower (Kd.R_new' ho0 (Kd.R_lt (by (with_reducible repeat (first | apply Kd.R_alloc | apply Kd.R_drewN | apply Kd.R_drew)); exact HO182.out))) (below_size (by repeat (first | (with_reducible first | exact HB.out | apply below_alloc | apply pw_below_drewN | apply below_drew1) | exact HB.out)))); have n2_ := Aside0.mk (below_step (by repeat (first | (with_reducible first | exact HB.out | apply below_alloc | apply pw_below_drewN | apply below_drew1) | exact HB.out)) hb); clear HO182; clear HB; have HO182 := n0_; have HO185 := n1_; have HB := n2_; clear n0_ n1_ n2_; (try clear hb); (try clear hb2); (try clear hk); (try clear hi); (try clear ho0)) | ((with_reducible refine gate_dst (N := 24) rfl ?_); refine Kd.R_lit (Kd.int .i64) _ 3 ?hg (N := 24) ?hd (xs := ([] : List Int)) (inner := []) (ok := fun _ => True) (okp := fun _ => True) ?hr ?hp (fun _ hk => hk) trivial (Below.refl _ _) (Nat.le_refl _) (by simp) ?_; (case hd => rfl); (case hg => rfl); (case hr => first | (go_simp; done) | (go_simp; rfl)); (case hp => exact (Reps.none _ _)); intro v187 w10 ho11 hb hg_ hnew_; clear hg_ hnew_; (first | rw [← Ny186.out] at ho11 | (simp only [Int.reduceToNat] at ho11; rw [← Ny186.out] at ho11)); have n0_ := Aside0.mk (Kd.R_elder' (by (with_reducible repeat (first | apply Kd.R_alloc | apply Kd.R_drewN | apply Kd.R_drew)); exact HO182.out) (Kd.R_base ho11) hb); have n1_ := Aside0.mk (Kd.R_elder' (by (with_reducible repeat (first | apply Kd.R_alloc | apply Kd.R_drewN | apply Kd.R_drew)); exact HO185.out) (Kd.R_base ho11) hb); have n2_ := Aside0.mk (Kd.R_lower (Kd.R_new' (Kd.R_new' ho11 (Kd.R_lt (by (with_reducible repeat (first | apply Kd.R_alloc | apply Kd.R_drewN | apply Kd.R_drew)); exact HO182.out))) (Kd.R_lt (by (with_reducible repeat (first | apply Kd.R_alloc | apply Kd.R_drewN | apply Kd.R_drew)); exact HO185.out))) (below_size (by repeat (first | (with_reducible first | exact HB.out | apply below_alloc | apply pw_below_drewN | apply below_drew1) | exact HB.out)))); have n3_ := Aside0.mk (below_step (by repeat (first | (with_reducible first | exact HB.out | apply below_alloc | apply pw_below_drewN | apply below_drew1) | exact HB.out)) hb); clear HO182; clear HO185; clear HB; have HO182 := n0_; have HO185 := n1_; have HO188 := n2_; have HB := n3_; clear n0_ n1_ n2_ n3_; clear hb ho11; obtain ⟨Ao12, co12, eo12⟩ := Kd.R_slice HO182.out; subst eo12) | ((with_reducible refine gate_dst (N := 27) rfl ?_); refine Kd.R_make (Kd.int .i64) _ 3 rfl (N := 27) rfl 22 _ _ rfl (t180.length : Int) rfl rfl Try.underlying22 (.int .i64 0) 8 info3 rfl (by decide) (by omega) 0 (ok := fun _ => True) (okp := fun _ => True) rfl (fun _ hk => hk) trivial (of_decide_eq_true (by first | (with_reducible assumption) | assumption)) (Nat.le_trans (Nat.mul_le_mul_right _ (of_decide_eq_true (by first | (with_reducible assumption) | assumption) : (t180.length : Int).toNat ≤ 35184372088832)) (by omega)) (Below.refl _ _) (Nat.le_refl _) ?_; intro v190 w13 ho14 hb hg_ hnew_; clear hg_ hnew_; (first | rw [← Ny189.out] at ho14 | (simp only [Int.reduceToNat] at ho14; rw [← Ny189.out] at ho14)); have n0_ := Aside0.mk (Kd.R_elder' (by (with_reducible repeat (first | apply Kd.R_alloc | apply Kd.R_drewN | apply Kd.R_drew)); exact HO182.out) (Kd.R_base ho14) hb); have n1_ := Aside0.mk (Kd.R_elder' (by (with_reducible repeat (first | apply Kd.R_alloc | apply Kd.R_drewN | apply Kd.R_drew)); exact HO185.out) (Kd.R_base ho14) hb); have n2_ := Aside0.mk (Kd.R_elder' (by (with_reducible repeat (first | apply Kd.R_alloc | apply Kd.R_drewN | apply Kd.R_drew)); exact HO188.out) (Kd.R_base ho14) hb); have n3_ := Aside0.mk (Kd.R_lower (Kd.R_new' (Kd.R_new' (Kd.R_new' ho14 (Kd.R_lt (by (with_reducible repeat (first | apply Kd.R_alloc | apply Kd.R_drewN | apply Kd.R_drew)); exact HO182.out))) (Kd.R_lt (by (with_reducible repeat (first | apply Kd.R_alloc | apply Kd.R_drewN | apply Kd.R_drew)); exact HO185.out))) (Kd.R_lt (by (with_reducible repeat (first | apply Kd.R_alloc | apply Kd.R_drewN | apply Kd.R_drew)); exact HO188.out))) (below_size (by repeat (first | (with_reducible first | exact HB.out | apply below_alloc | apply pw_below_drewN | apply below_drew1) | exact HB.out)))); have n4_ := Aside0.mk (below_step (by repeat (first | (with_reducible first | exact HB.out | apply below_alloc | apply pw_below_drewN | apply below_drew1) | exact HB.out)) hb); clear HO182; clear HO185; clear HO188; clear HB; have HO182 := n0_; have HO185 := n1_; have HO188 := n2_; have HO191 := n3_; have HB := n4_; clear n0_ n1_ n2_ n3_ n4_; clear hb ho14))
        go_loopg [5, 7] k (fun kq v5 v7 w' => ∃ (x5_1 : List Int) (x6_1 : List Int) (x7_1 : Int), v7 = .int .i64 x7_1 ∧ Aside0 (laws_FnSymbols.l0 kq t180 t183 x5_1 x6_1 x7_1 = some r) ∧ Aside0 (kq ≤ k) ∧ Aside0 (Kd.R (Kd.int .i64) 3 w' w.heap.size (fun k_ => some k_ ≠ (v184 : Value).ownBlock ∧ some k_ ≠ (v5 : Value).ownBlock ∧ some k_ ≠ (v190 : Value).ownBlock) (.slice Ao12 t180.length co12) t180) ∧ Aside0 (Kd.R (Kd.int .i64) 3 w' w.heap.size (fun k_ => some k_ ≠ ((.slice Ao12 t180.length co12) : Value).ownBlock ∧ some k_ ≠ (v5 : Value).ownBlock ∧ some k_ ≠ (v190 : Value).ownBlock) v184 t183) ∧ Aside0 (Kd.R (Kd.int .i64) 3 w' w.heap.size (fun k_ => some k_ ≠ ((.slice Ao12 t180.length co12) : Value).ownBlock ∧ some k_ ≠ (v184 : Value).ownBlock ∧ some k_ ≠ (v190 : Value).ownBlock) v5 x5_1) ∧ Aside0 (Kd.R (Kd.int .i64) 3 w' w.heap.size (fun k_ => some k_ ≠ ((.slice Ao12 t180.length co12) : Value).ownBlock ∧ some k_ ≠ (v184 : Value).ownBlock ∧ some k_ ≠ (v5 : Value).ownBlock) v190 x6_1) ∧ Aside0 (Below w.heap.size w w'))
        case atStart => exact ⟨(y186), (y189), (0), (by first | rfl | (simp; done) | (simp [*]; done)), H', ⟨Nat.le_refl _⟩, ⟨by (with_reducible repeat (first | apply Kd.R_alloc | apply Kd.R_drewN | apply Kd.R_drew)); exact Kd.R_mono HO182.out (fun _ hk => ⟨hk.1.1.2, ⟨hk.1.2, hk.2⟩⟩)⟩, ⟨by (with_reducible repeat (first | apply Kd.R_alloc | apply Kd.R_drewN | apply Kd.R_drew)); exact Kd.R_mono HO185.out (fun _ hk => ⟨hk.1.1.2, ⟨hk.1.2, hk.2⟩⟩)⟩, ⟨by (with_reducible repeat (first | apply Kd.R_alloc | apply Kd.R_drewN | apply Kd.R_drew)); exact Kd.R_mono HO188.out (fun _ hk => ⟨hk.1.1.2, ⟨hk.1.2, hk.2⟩⟩)⟩, ⟨by (with_reducible repeat (first | apply Kd.R_alloc | apply Kd.R_drewN | apply Kd.R_drew)); exact Kd.R_mono HO191.out (fun _ hk => ⟨hk.1.1.2, ⟨hk.1.2, hk.2⟩⟩)⟩, ⟨by repeat (first | (with_reducible first | exact HB.out | apply below_alloc | apply pw_below_drewN | apply below_drew1) | exact HB.out)⟩⟩
        case round =>
          clear H'
          try clear c2
          try clear p2
          try clear c3
          try clear c6
          try clear c6b0
          try clear c6b1
          try clear c7
          try clear c7b0
          try clear c7b1
          try clear c9
          obtain ⟨x5_1, x6_1, x7_1, rfl, HA, HK1, HO_3, HO_4, HO_5, HO_6, HB⟩ := hrel
          cases gk with
          | zero => exact absurd HA.out (by simp [laws_FnSymbols.l0])
          | succ k1 =>
            have H := HA.out
            clear HA
            simp only [laws_FnSymbols.l0] at H
            by_cases c15 : x7_1 < (t183.length : Int)
            · rw [if_pos c15] at H
              have c15b0 : decide (x7_1 < (t183.length : Int)) = true := decide_eq_true c15
              clear c15
              by_cases c16 : 0 ≤ x7_1
              · rw [if_pos c16] at H
                have c16b0 : decide (0 ≤ x7_1) = true := decide_eq_true c16
                clear c16
                by_cases c17 : (t180.length : Int) = 0
                · rw [if_pos c17] at H
                  exact absurd H (by simp)
                · rw [if_neg c17] at H
                  have c17b0 : ((t180.length : Int) == 0) = false := beq_eq_false_iff_ne.mpr c17
                  have c17b1 : ((t180.length : Int) != 0) = true := bne_iff_ne.mpr c17
                  have c17b2 : ¬ (t180 = []) := fun h_ => c17 (by rw [h_]; rfl)
                  by_cases c18 : x5_1.length < 17592186044416
                  · rw [if_pos c18] at H
                    have LMc18 := Aside0.mk c18
                    clear c18
                    obtain ⟨y193, hy193⟩ : ∃ y_ : List Int, y_ = (x5_1 ++ [Int.tmod (rd t183 x7_1) (t180.length : Int)]) := ⟨_, rfl⟩
                    replace H : (if 0 ≤ (Int.tmod (rd t183 x7_1) (t180.length : Int)) then (if (Int.tmod (rd t183 x7_1) (t180.length : Int)) < (x6_1.length : Int) then (laws_FnSymbols.l0 k1 t180 t183 y193 (x6_1.set ((Int.tmod (rd t183 x7_1) (t180.length : Int)) : Int).toNat (wrap64 ((rd x6_1 (Int.tmod (rd t183 x7_1) (t180.length : Int))) + 1))) (wrap64 (x7_1 + 1))) else (none)) else (none)) = some r := by first | (rw [hy193]; with_reducible exact H) | (have H2_ := (Option.bind_some _ _).symm.trans H; rw [hy193]; with_reducible exact H2_) | (have H2_ := (Option.bind_some _ _).symm.trans H; with_reducible exact H2_) | with_reducible exact H | (rw [hy193]; exact H) | exact H
                    have Ny193 := Aside0.mk hy193
                    clear hy193
                    obtain ⟨ji19, hji19⟩ : ∃ j_ : Int, (Int.tmod (rd t183 x7_1) (t180.length : Int)) = j_ := ⟨_, rfl⟩
                    replace H : (if 0 ≤ (ji19) then (if (ji19) < (x6_1.length : Int) then (laws_FnSymbols.l0 k1 t180 t183 y193 (x6_1.set ((ji19) : Int).toNat (wrap64 ((rd x6_1 (ji19)) + 1))) (wrap64 (x7_1 + 1))) else (none)) else (none)) = some r := by first | (rw [hji19] at H; exact H) | (simp only [hji19] at H ⊢; exact H)
                    (try rw [hji19] at Ny193)
                    by_cases c20 : 0 ≤ (ji19)
                    · rw [if_pos c20] at H
                      have c20b0 : decide (0 ≤ (ji19)) = true := decide_eq_true c20
                      clear c20
                      by_cases c21 : (ji19) < (x6_1.length : Int)
                      · rw [if_pos c21] at H
                        have c21b0 : decide ((ji19) < (x6_1.length : Int)) = true := decide_eq_true c21
                        clear c21
                        obtain ⟨y197, hy197⟩ : ∃ y_ : List Int, y_ = (x6_1.set ((ji19) : Int).toNat (wrap64 ((rd x6_1 (ji19)) + 1))) := ⟨_, rfl⟩
                        replace H : (laws_FnSymbols.l0 k1 t180 t183 y193 y197 (wrap64 (x7_1 + 1))) = some r := by first | (rw [hy197]; with_reducible exact H) | (have H2_ := (Option.bind_some _ _).symm.trans H; rw [hy197]; with_reducible exact H2_) | (have H2_ := (Option.bind_some _ _).symm.trans H; with_reducible exact H2_) | with_reducible exact H | (rw [hy197]; exact H) | exact H
                        have Ny197 := Aside0.mk hy197
                        clear hy197
                        have H' := Aside0.mk H
                        clear H
                        obtain ⟨Ao23, co23, eo23⟩ := Kd.R_slice HO_4.out
                        subst eo23
                        have p192 : 0 ≤ (x7_1 : Int) := of_decide_eq_true (by first | (with_reducible assumption) | assumption)
                        have q192 : x7_1 < (t183.length : Int) := of_decide_eq_true (by first | (with_reducible assumption) | assumption)
                        obtain ⟨ad192, e192, hx192_0⟩ := Kd.at_int (Kd.R_reads' HO_4.out).2.2 x7_1 p192 q192
                        cases e192
                        replace p192 := eq_true p192
                        replace q192 := eq_true q192
                        go_wp2_with (first | ((with_reducible refine gate_builtin (b := .append) (xs := #[.tmp 41, .tmp 43]) rfl ?_); at_builtin; refine Kd.R_append (Kd.int .i64) (w0 := w) w.heap.size rfl (.tmp 41) (.tmp 43) 22 3 (.int .i64 0) 8 rfl Try.underlying22 info3 rfl (by decide) (by omega) u5 x5_1 ji19 [.int .i64 ji19] (fun k_ => some k_ ≠ (.slice Ao12 t180.length co12 : Value).ownBlock ∧ some k_ ≠ (.slice (some ad192) t183.length co23 : Value).ownBlock ∧ some k_ ≠ (v190 : Value).ownBlock) (fun _ => False) rfl rfl ?aP (fun _ hk => hk.elim) ?aF ?aO ?aB ?aS ?aL ?_; (case aP => exact rfl); (case aB => exact (by repeat (first | (with_reducible first | exact HB.out | apply below_alloc | apply pw_below_drewN | apply below_drew1) | exact HB.out))); (case aF => exact (fun k_ hk => ⟨Kd.fresh' (Kd.R_lt (by (with_reducible repeat (first | apply Kd.R_alloc | apply Kd.R_drewN | apply Kd.R_drew)); exact HO_3.out)) k_ hk, Kd.fresh' (Kd.R_lt (by (with_reducible repeat (first | apply Kd.R_alloc | apply Kd.R_drewN | apply Kd.R_drew)); exact HO_4.out)) k_ hk, Kd.fresh' (Kd.R_lt (by (with_reducible repeat (first | apply Kd.R_alloc | apply Kd.R_drewN | apply Kd.R_drew)); exact HO_6.out)) k_ hk⟩)); (case aO => exact (by (with_reducible repeat (first | apply Kd.R_alloc | apply Kd.R_drewN | apply Kd.R_drew)); exact HO_5.out)); (case aS => exact (below_size (by repeat (first | (with_reducible first | exact HB.out | apply below_alloc | apply pw_below_drewN | apply below_drew1) | exact HB.out)))); (case aL => have := LMc18.out; omega); intro v194 w24 ho hb hg hat; rw [← Ny193.out] at ho; have n0_ := Aside0.mk (Kd.R_after (ok := (fun k_ => some k_ ≠ (.slice (some ad192) t183.length co23 : Value).ownBlock ∧ some k_ ≠ (v190 : Value).ownBlock)) (by (with_reducible repeat (first | apply Kd.R_alloc | apply Kd.R_drewN | apply Kd.R_drew)); exact Kd.R_mono HO_3.out (fun _ hk => ⟨⟨hk.1, hk.2.2⟩, hk.2.1⟩)) hg hat); have n1_ := Aside0.mk (Kd.R_after (ok := (fun k_ => some k_ ≠ (.slice Ao12 t180.length co12 : Value).ownBlock ∧ some k_ ≠ (v190 : Value).ownBlock)) (by (with_reducible repeat (first | apply Kd.R_alloc | apply Kd.R_drewN | apply Kd.R_drew)); exact Kd.R_mono HO_4.out (fun _ hk => ⟨⟨hk.1, hk.2.2⟩, hk.2.1⟩)) hg hat); have n2_ := Aside0.mk (Kd.R_after (ok := (fun k_ => some k_ ≠ (.slice Ao12 t180.length co12 : Value).ownBlock ∧ some k_ ≠ (.slice (some ad192) t183.length co23 : Value).ownBlock)) (by (with_reducible repeat (first | apply Kd.R_alloc | apply Kd.R_drewN | apply Kd.R_drew)); exact Kd.R_mono HO_6.out (fun _ hk => ⟨⟨hk.1, hk.2.1⟩, hk.2.2⟩)) hg hat); have n3_ := Aside0.mk (hb); have n4_ := Aside0.mk (ho); clear HO_3; clear HO_4; clear HO_6; clear HB; clear HO_5; have HO_3 := n0_; have HO_4 := n1_; have HO_6 := n2_; have HB := n3_; have HO195 := n4_; clear n0_ n1_ n2_ n3_ n4_; clear ho hb hg hat; obtain ⟨Ao25, co25, eo25⟩ := Kd.R_slice HO_6.out; subst eo25; have p196 : 0 ≤ ((ji19) : Int) := of_decide_eq_true (by first | (with_reducible assumption) | assumption); have q196 : (ji19) < (x6_1.length : Int) := of_decide_eq_true (by first | (with_reducible assumption) | assumption); obtain ⟨ad196, e196, hx196_0⟩ := Kd.at_int (Kd.R_reads' HO_6.out).2.2 (ji19) p196 q196; cases e196; replace p196 := eq_true p196; replace q196 := eq_true q196; have p22 : 0 ≤ ((ji19) : Int) := of_decide_eq_true (by first | (with_reducible assumption) | assumption); have q22 : ((ji19) : Int) < ((x6_1.length : Int) : Int) := of_decide_eq_true (by first | (with_reducible assumption) | assumption); obtain ⟨go22, co22, eo22, gb22, gl22, cl22, HG22⟩ := Kd.R_form HO_6.out (by omega); (first | cases eo22 | (injection eo22 with ea_ en_ ec_; (first | subst ea_ | (injection ea_ with ea_; subst ea_)); subst ec_; clear en_)); have GB22 := Aside0.mk gb22; have GG22 := Aside0.mk HG22; clear gb22 gl22 HG22; (first | simp only [add_plain] at hx196_0 | skip); obtain ⟨hx22_0, hf22_0⟩ := Kd.R_celln 0 HO_6.out ((ji19) : Int) p22 q22; replace p22 := eq_true p22; replace q22 := eq_true q22; have n_ := Aside0.mk (Kd.R_mono (ok' := (fun k_ => some k_ ≠ (.slice Ao12 t180.length co12 : Value).ownBlock ∧ some k_ ≠ (.slice (some ad192) t183.length co23 : Value).ownBlock ∧ some k_ ≠ (v194 : Value).ownBlock)) HO_6.out (fun k_ hk => ⟨hk.1.1, ⟨hk.1.2, hk.2⟩⟩)); clear HO_6; have HO_6 := n_; clear n_; obtain ⟨hy26_, hz26_⟩ := Kd.R_celln 0 HO_6.out ((ji19) : Int) (of_decide_eq_true (by first | (with_reducible assumption) | assumption)) (of_decide_eq_true (by first | (with_reducible assumption) | assumption)); have HP26 := Kd.R_putg HO_6.out ((ji19) : Int) (wrap64 ((rd x6_1 (ji19)) + 1))) | ((with_reducible refine gate_store (t := 3) (p := 52) rfl ?_); refine store_event (t := 3) (p := 52) (v := ?vo_w27) (w1 := (w24.setCell ⟨go22, ((ji19) : Int).toNat, none⟩ (.int .i64 (wrap64 ((rd x6_1 (ji19)) + 1))))) ?hg ?ho ?hn ?hr ?_; (case ho => rfl); (case hg => rfl); (case hn => rfl); (case hr => first | (go_simp; done) | (go_simp; rfl)); intro w27 hw; have hg : w24.grownBy w27 (some go22) := (by rw [hw]; exact HP26.2); have hp_ : Kd.R (Kd.int .i64) 3 w27 w.heap.size (fun k_ => some k_ ≠ (.slice Ao12 t180.length co12 : Value).ownBlock ∧ some k_ ≠ (.slice (some ad192) t183.length co23 : Value).ownBlock ∧ some k_ ≠ (v194 : Value).ownBlock) (.slice (some ⟨go22, 0, none⟩) x6_1.length co25) y197 := (by rw [hw, Ny197.out]; exact HP26.1); clear HP26; have n0_ := Aside0.mk (Kd.R_after (v := (.slice (some ⟨go22, 0, none⟩) x6_1.length co25)) (v1 := (.slice (some ⟨go22, 0, none⟩) x6_1.length co25)) (ok := (fun k_ => some k_ ≠ (.slice (some ad192) t183.length co23 : Value).ownBlock ∧ some k_ ≠ (v194 : Value).ownBlock)) (by (with_reducible repeat (first | apply Kd.R_alloc | apply Kd.R_drewN | apply Kd.R_drew)); exact Kd.R_mono HO_3.out (fun _ hk => ⟨⟨hk.1.1, hk.2⟩, hk.1.2⟩)) hg (.inl rfl)); have n1_ := Aside0.mk (Kd.R_after (v := (.slice (some ⟨go22, 0, none⟩) x6_1.length co25)) (v1 := (.slice (some ⟨go22, 0, none⟩) x6_1.length co25)) (ok := (fun k_ => some k_ ≠ (.slice Ao12 t180.length co12 : Value).ownBlock ∧ some k_ ≠ (v194 : Value).ownBlock)) (by (with_reducible repeat (first | apply Kd.R_alloc | apply Kd.R_drewN | apply Kd.R_drew)); exact Kd.R_mono HO_4.out (fun _ hk => ⟨⟨hk.1.1, hk.2⟩, hk.1.2⟩)) hg (.inl rfl)); have n2_ := Aside0.mk (hp_); have n3_ := Aside0.mk (Kd.R_after (v := (.slice (some ⟨go22, 0, none⟩) x6_1.length co25)) (v1 := (.slice (some ⟨go22, 0, none⟩) x6_1.length co25)) (ok := (fun k_ => some k_ ≠ (.slice Ao12 t180.length co12 : Value).ownBlock ∧ some k_ ≠ (.slice (some ad192) t183.length co23 : Value).ownBlock)) (by (with_reducible repeat (first | apply Kd.R_alloc | apply Kd.R_drewN | apply Kd.R_drew)); exact Kd.R_mono HO195.out (fun _ hk => ⟨⟨hk.1, hk.2.1⟩, hk.2.2⟩)) hg (.inl rfl)); have n4_ := Aside0.mk ((by rw [hw]; exact below_set (HB.out) GB22.out : Below w.heap.size w w27)); clear HO_3; clear HO_4; clear HO_6; clear HO195; clear HB; have HO_3 := n0_; have HO_4 := n1_; have HO_6 := n2_; have HO195 := n3_; have HB := n4_; clear n0_ n1_ n2_ n3_ n4_; clear hg hw hp_))
                        go_roundg k1
                        case measure => have := HK1.out; omega
                        case rel => exact ⟨(y193), (y197), (wrap64 (x7_1 + 1)), (by first | rfl | (simp; done) | (simp [*]; done)), H', ⟨by have := HK1.out; omega⟩, ⟨by (with_reducible repeat (first | apply Kd.R_alloc | apply Kd.R_drewN | apply Kd.R_drew)); exact Kd.R_mono HO_3.out (fun _ hk => ⟨hk.1.1, ⟨hk.1.2, hk.2⟩⟩)⟩, ⟨by (with_reducible repeat (first | apply Kd.R_alloc | apply Kd.R_drewN | apply Kd.R_drew)); exact Kd.R_mono HO_4.out (fun _ hk => ⟨hk.1.1, ⟨hk.1.2, hk.2⟩⟩)⟩, ⟨by (with_reducible repeat (first | apply Kd.R_alloc | apply Kd.R_drewN | apply Kd.R_drew)); exact Kd.R_mono HO195.out (fun _ hk => ⟨hk.1.1, ⟨hk.1.2, hk.2⟩⟩)⟩, ⟨by (with_reducible repeat (first | apply Kd.R_alloc | apply Kd.R_drewN | apply Kd.R_drew)); exact HO_6.out⟩, ⟨by repeat (first | (with_reducible first | exact HB.out | apply below_alloc | apply pw_below_drewN | apply below_drew1) | exact HB.out)⟩⟩
                      · rw [if_neg c21] at H
                        exact absurd H (by simp)
                    · rw [if_neg c20] at H
                      exact absurd H (by simp)
                  · rw [if_neg c18] at H
                    exact absurd H (by simp)
              · rw [if_neg c16] at H
                exact absurd H (by simp)
            · rw [if_neg c15] at H
              have c15b0 : decide (x7_1 < (t183.length : Int)) = false := decide_eq_false c15
              clear c15
              replace H := Option.bind_eq_some_iff.mp H
              obtain ⟨⟨t198, t199, t200⟩, A280, H⟩ := H
              replace H : ((impl_CostOf.f k1 t180 x6_1).bind fun bt202 => (if t200 = true then (if bt202.2 = true then (if bt202.1 = t199 then ((impl_CodeKind.f t180).bind fun t204 => (laws_FnSymbols.j1 k1 t180 x5_1 (t204 != 2) t198 t199)) else (laws_FnSymbols.j1 k1 t180 x5_1 true t198 t199)) else (laws_FnSymbols.j1 k1 t180 x5_1 true t198 t199)) else (laws_FnSymbols.j1 k1 t180 x5_1 true t198 t199))) = some r := H
              have A28 := Aside0.mk A280
              clear A280
              replace H := Option.bind_eq_some_iff.mp H
              obtain ⟨⟨t202, t203⟩, A290, H⟩ := H
              replace H : (if t200 = true then (if t203 = true then (if t202 = t199 then ((impl_CodeKind.f t180).bind fun t204 => (laws_FnSymbols.j1 k1 t180 x5_1 (t204 != 2) t198 t199)) else (laws_FnSymbols.j1 k1 t180 x5_1 true t198 t199)) else (laws_FnSymbols.j1 k1 t180 x5_1 true t198 t199)) else (laws_FnSymbols.j1 k1 t180 x5_1 true t198 t199)) = some r := H
              have A29 := Aside0.mk A290
              clear A290
              have HC30 := Aside0.mk H
              clear H
              obtain ⟨Ao31, co31, eo31⟩ := Kd.R_slice HO_4.out
              subst eo31
              obtain ⟨Ao32, co32, eo32⟩ := Kd.R_slice HO_5.out
              subst eo32
              go_upto_region 15 with (first | ((with_reducible refine gate_callee (f := 34) rfl ?_); refine goesL_ (some 57) rfl rfl Try.func34 (by kernel_rfl) rfl #[.agg #[.string (⟨#[]⟩ : ByteArray), .int .i64 0], .slice Ao12 t180.length co12, .slice Ao32 x5_1.length co32] rfl (by (try simp only [List.map_toArray, List.map_cons, List.map_nil]); first | done | rfl | (simp only [List.length_drop, List.length_take]; rfl)) ?_; (with_reducible refine (impl_PutSymbols.calls (⟨#[]⟩ : ByteArray) 0 _ _ t180 _ _ x5_1 t198 t199 t200 _ ?side1 ?side2 ?side3 ?side4 A28.out).mono ?_); (case side1 => repeat (first | exact (Kd.R_reads' HO_3.out).2.2 | (with_reducible refine Kd.C_alloc ?_ _) | (with_reducible refine Kd.C_drewN ?_ _) | (with_reducible refine Kd.C_drew ?_))); (case side2 => exact (Kd.R_reads' HO_3.out).2.1); (case side3 => repeat (first | exact (Kd.R_reads' HO_5.out).2.2 | (with_reducible refine Kd.C_alloc ?_ _) | (with_reducible refine Kd.C_drewN ?_ _) | (with_reducible refine Kd.C_drew ?_))); (case side4 => exact (Kd.R_reads' HO_5.out).2.1); rintro e w33 ⟨rfl, hb⟩; refine ⟨_, rfl, ?_⟩; have n0_ := Aside0.mk (Kd.R_below (by (with_reducible repeat (first | apply Kd.R_alloc | apply Kd.R_drewN | apply Kd.R_drew)); exact HO_3.out) hb); have n1_ := Aside0.mk (Kd.R_below (by (with_reducible repeat (first | apply Kd.R_alloc | apply Kd.R_drewN | apply Kd.R_drew)); exact HO_4.out) hb); have n2_ := Aside0.mk (Kd.R_below (by (with_reducible repeat (first | apply Kd.R_alloc | apply Kd.R_drewN | apply Kd.R_drew)); exact HO_5.out) hb); have n3_ := Aside0.mk (Kd.R_below (by (with_reducible repeat (first | apply Kd.R_alloc | apply Kd.R_drewN | apply Kd.R_drew)); exact HO_6.out) hb); have n4_ := Aside0.mk (below_step (by repeat (first | (with_reducible first | exact HB.out | apply below_alloc | apply pw_below_drewN | apply below_drew1) | exact HB.out)) hb); clear HO_3; clear HO_4; clear HO_5; clear HO_6; clear HB; have HO_3 := n0_; have HO_4 := n1_; have HO_5 := n2_; have HO_6 := n3_; have HB := n4_; clear n0_ n1_ n2_ n3_ n4_; (try clear hb); (try clear hb2); (try clear hk); (try clear hi)) | ((with_reducible refine gate_dst (N := 9) rfl ?_); refine box_event ?hg (N := 9) ?hd (cs := #[.string (⟨#[]⟩ : ByteArray), .int .i64 0]) (t := 47) ?hr ?_; (case hd => rfl); (case hg => rfl); (case hr => first | (go_simp; done) | (go_simp; rfl)); intro gb201 hg w34 hbox hb; have n0_ := Aside0.mk (Kd.R_below (by (with_reducible repeat (first | apply Kd.R_alloc | apply Kd.R_drewN | apply Kd.R_drew)); exact HO_3.out) hb); have n1_ := Aside0.mk (Kd.R_below (by (with_reducible repeat (first | apply Kd.R_alloc | apply Kd.R_drewN | apply Kd.R_drew)); exact HO_4.out) hb); have n2_ := Aside0.mk (Kd.R_below (by (with_reducible repeat (first | apply Kd.R_alloc | apply Kd.R_drewN | apply Kd.R_drew)); exact HO_5.out) hb); have n3_ := Aside0.mk (Kd.R_below (by (with_reducible repeat (first | apply Kd.R_alloc | apply Kd.R_drewN | apply Kd.R_drew)); exact HO_6.out) hb); have n4_ := Aside0.mk (below_step (by repeat (first | (with_reducible first | exact HB.out | apply below_alloc | apply pw_below_drewN | apply below_drew1) | exact HB.out)) hb); have n5_ := Aside0.mk (hbox); have n6_ := Aside0.mk ((by rw [hg]; exact (below_size (by repeat (first | (with_reducible first | exact HB.out | apply below_alloc | apply pw_below_drewN | apply below_drew1) | exact HB.out))) : w.heap.size ≤ gb201)); have n7_ := Aside0.mk ((by rw [hg]; exact (below_size (by repeat (first | (with_reducible first | exact HB.out | apply below_alloc | apply pw_below_drewN | apply below_drew1) | exact HB.out))) : w.heap.size ≤ gb201)); clear HO_3; clear HO_4; clear HO_5; clear HO_6; clear HB; have HO_3 := n0_; have HO_4 := n1_; have HO_5 := n2_; have HO_6 := n3_; have HB := n4_; have BK201 := n5_; have GW201 := n6_; have GE201 := n7_; clear n0_ n1_ n2_ n3_ n4_ n5_ n6_ n7_; clear hb hbox hg; have hcz35_0 : w34.cell? ⟨gb201, 0, none⟩ = some (.string (⟨#[]⟩ : ByteArray)) := (blk_cell BK201.out 0).trans rfl; have hcz35_1 : w34.cell? ⟨gb201, 1, none⟩ = some (.int .i64 0) := (blk_cell BK201.out 1).trans rfl; have hfz35_0 := blk_frozen BK201.out 0; have hfz35_1 := blk_frozen BK201.out 1; obtain ⟨Ao36, co36, eo36⟩ := Kd.R_slice HO_6.out; subst eo36) | ((with_reducible refine gate_callee (f := 19) rfl ?_); refine goesL_ (some 63) rfl rfl Try.func19 (by kernel_rfl) rfl #[.slice Ao12 t180.length co12, .slice Ao36 x6_1.length co36] rfl (by (try simp only [List.map_toArray, List.map_cons, List.map_nil]); first | done | rfl | (simp only [List.length_drop, List.length_take]; rfl)) ?_; (with_reducible refine (impl_CostOf.calls k1 _ _ t180 _ _ x6_1 t202 t203 _ ?side1 ?side2 ?side3 ?side4 A29.out).mono ?_); (case side1 => refine (Kd.R_reads' (e := 3) (base := w.heap.size) (ok := fun k_ => (some k_ ≠ (.slice Ao31 t183.length co31 : Value).ownBlock ∧ (some k_ ≠ (.slice Ao32 x5_1.length co32 : Value).ownBlock ∧ some k_ ≠ (.slice Ao36 x6_1.length co36 : Value).ownBlock))) (n := t180.length) (c := co12) ?_).2.2; exact (by (with_reducible repeat (first | apply Kd.R_alloc | apply Kd.R_drewN | apply Kd.R_drew)); exact (Kd.R_mono (Kd.R_far (p := ⟨gb201, 1, none⟩) (Kd.R_far (p := ⟨gb201, 0, none⟩) (Kd.R_types HO_3.out BK201.out (by decide)) (fun _ hk => hk.2) (.string t198)) (fun _ hk => hk.2) (.int .i64 t199)) (fun _ h_ => h_.1)))); (case side2 => exact (Kd.R_reads' HO_3.out).2.1); (case side3 => refine (Kd.R_reads' (e := 3) (base := w.heap.size) (ok := fun k_ => (some k_ ≠ (.slice Ao12 t180.length co12 : Value).ownBlock ∧ (some k_ ≠ (.slice Ao31 t183.length co31 : Value).ownBlock ∧ some k_ ≠ (.slice Ao32 x5_1.length co32 : Value).ownBlock))) (n := x6_1.length) (c := co36) ?_).2.2; exact (by (with_reducible repeat (first | apply Kd.R_alloc | apply Kd.R_drewN | apply Kd.R_drew)); exact (Kd.R_mono (Kd.R_far (p := ⟨gb201, 1, none⟩) (Kd.R_far (p := ⟨gb201, 0, none⟩) (Kd.R_types HO_6.out BK201.out (by decide)) (fun _ hk => hk.2) (.string t198)) (fun _ hk => hk.2) (.int .i64 t199)) (fun _ h_ => h_.1)))); (case side4 => exact (Kd.R_reads' HO_6.out).2.1); rintro e w37 ⟨rfl, hb⟩; refine ⟨_, rfl, ?_⟩; have n0_ := Aside0.mk (Kd.R_below (by (with_reducible repeat (first | apply Kd.R_alloc | apply Kd.R_drewN | apply Kd.R_drew)); exact (Kd.R_mono (Kd.R_far (p := ⟨gb201, 1, none⟩) (Kd.R_far (p := ⟨gb201, 0, none⟩) (Kd.R_types HO_3.out BK201.out (by decide)) (fun _ hk => hk.2) (.string t198)) (fun _ hk => hk.2) (.int .i64 t199)) (fun _ h_ => h_.1))) hb); have n1_ := Aside0.mk (Kd.R_below (by (with_reducible repeat (first | apply Kd.R_alloc | apply Kd.R_drewN | apply Kd.R_drew)); exact (Kd.R_mono (Kd.R_far (p := ⟨gb201, 1, none⟩) (Kd.R_far (p := ⟨gb201, 0, none⟩) (Kd.R_types HO_4.out BK201.out (by decide)) (fun _ hk => hk.2) (.string t198)) (fun _ hk => hk.2) (.int .i64 t199)) (fun _ h_ => h_.1))) hb); have n2_ := Aside0.mk (Kd.R_below (by (with_reducible repeat (first | apply Kd.R_alloc | apply Kd.R_drewN | apply Kd.R_drew)); exact (Kd.R_mono (Kd.R_far (p := ⟨gb201, 1, none⟩) (Kd.R_far (p := ⟨gb201, 0, none⟩) (Kd.R_types HO_5.out BK201.out (by decide)) (fun _ hk => hk.2) (.string t198)) (fun _ hk => hk.2) (.int .i64 t199)) (fun _ h_ => h_.1))) hb); have n3_ := Aside0.mk (Kd.R_below (by (with_reducible repeat (first | apply Kd.R_alloc | apply Kd.R_drewN | apply Kd.R_drew)); exact (Kd.R_mono (Kd.R_far (p := ⟨gb201, 1, none⟩) (Kd.R_far (p := ⟨gb201, 0, none⟩) (Kd.R_types HO_6.out BK201.out (by decide)) (fun _ hk => hk.2) (.string t198)) (fun _ hk => hk.2) (.int .i64 t199)) (fun _ h_ => h_.1))) hb); have n4_ := Aside0.mk (blk_below (g := gb201) (o := .cells #[.string t198, .int .i64 t199] 47 (0, 0)) (by (with_reducible repeat (first | refine blk_drewN ?_ _ | refine blk_drew ?_ | refine blk_alloc ?_ _)); refine blk_put (cs := #[.string t198, .int .i64 0]) ?_ 1 _ rfl; (with_reducible repeat (first | refine blk_drewN ?_ _ | refine blk_drew ?_ | refine blk_alloc ?_ _)); refine blk_put (cs := #[.string (⟨#[]⟩ : ByteArray), .int .i64 0]) ?_ 0 _ rfl; (with_reducible repeat (first | refine blk_drewN ?_ _ | refine blk_drew ?_ | refine blk_alloc ?_ _)); exact BK201.out) hb); have n5_ := Aside0.mk (below_step (by repeat (first | (with_reducible first | exact HB.out | apply below_alloc | apply pw_below_drewN | apply below_drew1 | refine below_set ?_ GE201.out) | exact HB.out)) hb); clear HO_3; clear HO_4; clear HO_5; clear HO_6; clear BK201; clear HB; have HO_3 := n0_; have HO_4 := n1_; have HO_5 := n2_; have HO_6 := n3_; have BK201 := n4_; have HB := n5_; clear n0_ n1_ n2_ n3_ n4_ n5_; (try clear hb); (try clear hb2); (try clear hk); (try clear hi)))
              (try simp only [Act.put, List.setIfInBounds_toArray, List.set_cons_zero, List.set_cons_succ])
              go_cut [82] (fun v82 wc => ∃ (kq : Nat) (x82_29 : Bool), v82 = .bool x82_29 ∧ Aside0 (laws_FnSymbols.j1 kq t180 x5_1 x82_29 t198 t199 = some r) ∧ Aside0 (kq ≤ k1) ∧ Aside0 (Kd.R (Kd.int .i64) 3 wc w.heap.size (fun k_ => some k_ ≠ ((.slice Ao32 x5_1.length co32) : Value).ownBlock) (.slice Ao12 t180.length co12) t180) ∧ Aside0 (Kd.R (Kd.int .i64) 3 wc w.heap.size (fun k_ => some k_ ≠ ((.slice Ao12 t180.length co12) : Value).ownBlock) (.slice Ao32 x5_1.length co32) x5_1) ∧ Aside0 (wc.heap[gb201]? = some (.cells #[.string t198, .int .i64 t199] 47 (0, 0))) ∧ Aside0 (Below w.heap.size w wc))
              case first =>
                have H := HC30.out
                clear HC30
                by_cases c38 : t200 = true
                · subst c38
                  have H1 : (if t203 = true then (if t202 = t199 then ((impl_CodeKind.f t180).bind fun t204 => (laws_FnSymbols.j1 k1 t180 x5_1 (t204 != 2) t198 t199)) else (laws_FnSymbols.j1 k1 t180 x5_1 true t198 t199)) else (laws_FnSymbols.j1 k1 t180 x5_1 true t198 t199)) = some r := by rw [if_pos rfl] at H; exact H
                  clear H
                  have H := H1
                  clear H1
                  by_cases c39 : t203 = true
                  · subst c39
                    have H1 : (if t202 = t199 then ((impl_CodeKind.f t180).bind fun t204 => (laws_FnSymbols.j1 k1 t180 x5_1 (t204 != 2) t198 t199)) else (laws_FnSymbols.j1 k1 t180 x5_1 true t198 t199)) = some r := by rw [if_pos rfl] at H; exact H
                    clear H
                    have H := H1
                    clear H1
                    by_cases c40 : t202 = t199
                    · rw [if_pos c40] at H
                      have c40b0 : (t202 == t199) = true := beq_iff_eq.mpr c40
                      have c40b1 : (t202 != t199) = false := bne_eq_false_iff_eq.mpr c40
                      clear c40
                      (first | rw [c40b0] | (simp only [i64_w, i32_w]; rw [c40b0]) | skip)
                      replace H := Option.bind_eq_some_iff.mp H
                      obtain ⟨t204, A410, H⟩ := H
                      replace H : (laws_FnSymbols.j1 k1 t180 x5_1 (t204 != 2) t198 t199) = some r := H
                      have A41 := Aside0.mk A410
                      clear A410
                      have H' := Aside0.mk H
                      clear H
                      have hcz42_0 : w37.cell? ⟨gb201, 0, none⟩ = some (.string t198) := (blk_cell BK201.out 0).trans rfl
                      have hcz42_1 : w37.cell? ⟨gb201, 1, none⟩ = some (.int .i64 t199) := (blk_cell BK201.out 1).trans rfl
                      have hfz42_0 := blk_frozen BK201.out 0
                      have hfz42_1 := blk_frozen BK201.out 1
                      go_wp2_with (first | (go_at_call 16; (with_reducible refine (impl_CodeKind.calls _ _ t180 t204 _ ?side1 ?side2 A41.out).mono ?_); (case side1 => repeat (first | exact (Kd.R_reads' HO_3.out).2.2 | (with_reducible refine Kd.C_alloc ?_ _) | (with_reducible refine Kd.C_drewN ?_ _) | (with_reducible refine Kd.C_drew ?_))); (case side2 => exact (Kd.R_reads' HO_3.out).2.1); rintro e w43 ⟨rfl, hb⟩; have n0_ := Aside0.mk (Kd.R_below (by (with_reducible repeat (first | apply Kd.R_alloc | apply Kd.R_drewN | apply Kd.R_drew)); exact HO_3.out) hb); have n1_ := Aside0.mk (Kd.R_below (by (with_reducible repeat (first | apply Kd.R_alloc | apply Kd.R_drewN | apply Kd.R_drew)); exact HO_4.out) hb); have n2_ := Aside0.mk (Kd.R_below (by (with_reducible repeat (first | apply Kd.R_alloc | apply Kd.R_drewN | apply Kd.R_drew)); exact HO_5.out) hb); have n3_ := Aside0.mk (Kd.R_below (by (with_reducible repeat (first | apply Kd.R_alloc | apply Kd.R_drewN | apply Kd.R_drew)); exact HO_6.out) hb); have n4_ := Aside0.mk (blk_below (g := gb201) (o := .cells #[.string t198, .int .i64 t199] 47 (0, 0)) (by (with_reducible repeat (first | refine blk_drewN ?_ _ | refine blk_drew ?_ | refine blk_alloc ?_ _)); exact BK201.out) hb); have n5_ := Aside0.mk (below_step (by repeat (first | (with_reducible first | exact HB.out | apply below_alloc | apply pw_below_drewN | apply below_drew1 | refine below_set ?_ GE201.out) | exact HB.out)) hb); clear HO_3; clear HO_4; clear HO_5; clear HO_6; clear BK201; clear HB; have HO_3 := n0_; have HO_4 := n1_; have HO_5 := n2_; have HO_6 := n3_; have BK201 := n4_; have HB := n5_; clear n0_ n1_ n2_ n3_ n4_ n5_; (try clear hb); (try clear hb2); (try clear hk); (try clear hi)))
                      go_meet
                      case rel => exact ⟨_, ((t204 != 2)), (by first | rfl | (simp; done) | (simp [*]; done)), H', ⟨by have := HK1.out; first | omega | exact Nat.le_refl _⟩, ⟨by (with_reducible repeat (first | apply Kd.R_alloc | apply Kd.R_drewN | apply Kd.R_drew)); exact Kd.R_mono HO_3.out (fun _ hk => hk.2.1)⟩, ⟨by (with_reducible repeat (first | apply Kd.R_alloc | apply Kd.R_drewN | apply Kd.R_drew)); exact Kd.R_mono HO_5.out (fun _ hk => hk.1)⟩, ⟨by (with_reducible repeat (first | refine blk_drewN ?_ _ | refine blk_drew ?_ | refine blk_alloc ?_ _)); exact BK201.out⟩, ⟨by repeat (first | (with_reducible first | exact HB.out | apply below_alloc | apply pw_below_drewN | apply below_drew1 | refine below_set ?_ GE201.out) | exact HB.out)⟩⟩
                    · rw [if_neg c40] at H
                      have c40b0 : (t202 == t199) = false := beq_eq_false_iff_ne.mpr c40
                      have c40b1 : (t202 != t199) = true := bne_iff_ne.mpr c40
                      (first | rw [c40b0] | (simp only [i64_w, i32_w]; rw [c40b0]) | skip)
                      have H' := Aside0.mk H
                      clear H
                      have hcz44_0 : w37.cell? ⟨gb201, 0, none⟩ = some (.string t198) := (blk_cell BK201.out 0).trans rfl
                      have hcz44_1 : w37.cell? ⟨gb201, 1, none⟩ = some (.int .i64 t199) := (blk_cell BK201.out 1).trans rfl
                      have hfz44_0 := blk_frozen BK201.out 0
                      have hfz44_1 := blk_frozen BK201.out 1
                      go_wp2
                      go_meet
                      case rel => exact ⟨_, (true), (by first | rfl | (simp; done) | (simp [*]; done)), H', ⟨by have := HK1.out; first | omega | exact Nat.le_refl _⟩, ⟨by (with_reducible repeat (first | apply Kd.R_alloc | apply Kd.R_drewN | apply Kd.R_drew)); exact Kd.R_mono HO_3.out (fun _ hk => hk.2.1)⟩, ⟨by (with_reducible repeat (first | apply Kd.R_alloc | apply Kd.R_drewN | apply Kd.R_drew)); exact Kd.R_mono HO_5.out (fun _ hk => hk.1)⟩, ⟨by (with_reducible repeat (first | refine blk_drewN ?_ _ | refine blk_drew ?_ | refine blk_alloc ?_ _)); exact BK201.out⟩, ⟨by repeat (first | (with_reducible first | exact HB.out | apply below_alloc | apply pw_below_drewN | apply below_drew1 | refine below_set ?_ GE201.out) | exact HB.out)⟩⟩
                  · replace c39 := Bool.eq_false_iff.mpr c39
                    subst c39
                    have H1 : (laws_FnSymbols.j1 k1 t180 x5_1 true t198 t199) = some r := by rw [if_neg (show ¬ (false = true) by decide)] at H; exact H
                    clear H
                    have H := H1
                    clear H1
                    have H' := Aside0.mk H
                    clear H
                    go_wp2
                    go_meet
                    case rel => exact ⟨_, (true), (by first | rfl | (simp; done) | (simp [*]; done)), H', ⟨by have := HK1.out; first | omega | exact Nat.le_refl _⟩, ⟨by (with_reducible repeat (first | apply Kd.R_alloc | apply Kd.R_drewN | apply Kd.R_drew)); exact Kd.R_mono HO_3.out (fun _ hk => hk.2.1)⟩, ⟨by (with_reducible repeat (first | apply Kd.R_alloc | apply Kd.R_drewN | apply Kd.R_drew)); exact Kd.R_mono HO_5.out (fun _ hk => hk.1)⟩, ⟨by (with_reducible repeat (first | refine blk_drewN ?_ _ | refine blk_drew ?_ | refine blk_alloc ?_ _)); exact BK201.out⟩, ⟨by repeat (first | (with_reducible first | exact HB.out | apply below_alloc | apply pw_below_drewN | apply below_drew1 | refine below_set ?_ GE201.out) | exact HB.out)⟩⟩
                · replace c38 := Bool.eq_false_iff.mpr c38
                  subst c38
                  have H1 : (laws_FnSymbols.j1 k1 t180 x5_1 true t198 t199) = some r := by rw [if_neg (show ¬ (false = true) by decide)] at H; exact H
                  clear H
                  have H := H1
                  clear H1
                  have H' := Aside0.mk H
                  clear H
                  go_wp2
                  go_meet
                  case rel => exact ⟨_, (true), (by first | rfl | (simp; done) | (simp [*]; done)), H', ⟨by have := HK1.out; first | omega | exact Nat.le_refl _⟩, ⟨by (with_reducible repeat (first | apply Kd.R_alloc | apply Kd.R_drewN | apply Kd.R_drew)); exact Kd.R_mono HO_3.out (fun _ hk => hk.2.1)⟩, ⟨by (with_reducible repeat (first | apply Kd.R_alloc | apply Kd.R_drewN | apply Kd.R_drew)); exact Kd.R_mono HO_5.out (fun _ hk => hk.1)⟩, ⟨by (with_reducible repeat (first | refine blk_drewN ?_ _ | refine blk_drew ?_ | refine blk_alloc ?_ _)); exact BK201.out⟩, ⟨by repeat (first | (with_reducible first | exact HB.out | apply below_alloc | apply pw_below_drewN | apply below_drew1 | refine below_set ?_ GE201.out) | exact HB.out)⟩⟩
              case rest =>
                clear HC30
                try clear c1
                try clear p1
                try clear q1
                try clear hx1
                try clear c2
                try clear p2
                try clear q2
                try clear hx2
                try clear hf2
                try clear c3
                try clear c4
                try clear c6
                try clear c6b0
                try clear c6b1
                try clear p6
                try clear c7
                try clear c7b0
                try clear c7b1
                try clear c9
                try clear c15
                try clear c15b0
                try clear c16
                try clear c16b0
                try clear c17
                try clear c17b0
                try clear c17b1
                try clear c17b2
                try clear c18
                try clear c19
                try clear p19
                try clear q19
                try clear hx19
                try clear c20
                try clear c20b0
                try clear c21
                try clear c21b0
                try clear p22
                try clear q22
                try clear hx22
                try clear hf22
                try clear c24
                try clear c34
                try clear c36
                try clear c37
                try clear c38
                try clear c39
                try clear c40
                try clear c40b0
                try clear c40b1
                try clear hcz35_0
                try clear hcz35_1
                try clear hcz42_0
                try clear hcz42_1
                try clear hcz44_0
                try clear hcz44_1
                try clear hfz35_0
                try clear hfz35_1
                try clear hfz42_0
                try clear hfz42_1
                try clear hfz44_0
                try clear hfz44_1
                try clear hx192_0
                try clear hx196_0
                try clear hx22_0
                try clear p192
                try clear p196
                try clear p2
                try clear p22
                try clear q192
                try clear q196
                try clear q22
                obtain ⟨kq, x82_29, rfl, HA, HJ29, HO_3, HO_5, BK201, HB⟩ := hcut
                cases kq with
                | zero => exact absurd HA.out (by simp [laws_FnSymbols.j1])
                | succ kj29 =>
                  have H := HA.out
                  clear HA
                  simp only [laws_FnSymbols.j1] at H
                  by_cases c45 : x82_29 = true
                  · subst c45
                    have H1 : (some false) = some r := by rw [if_pos rfl] at H; exact H
                    clear H
                    have H := H1
                    clear H1
                    obtain rfl := Option.some.inj H
                    go_wp2
                    go_ret
                    exact ⟨by first | rfl | (simp [errW_none, errW_some] <;> rfl) | (simp [*, errW_none, errW_some] <;> rfl), by repeat (first | (with_reducible first | exact HB.out | apply below_alloc | apply pw_below_drewN | apply below_drew1 | refine below_set ?_ GE201.out) | exact HB.out)⟩
                  · replace c45 := Bool.eq_false_iff.mpr c45
                    subst c45
                    have H1 : (laws_FnSymbols.l1 kj29 t180 x5_1 0 t198 t199 t198 0) = some r := by rw [if_neg (show ¬ (false = true) by decide)] at H; exact H
                    clear H
                    have H := H1
                    clear H1
                    have H' := Aside0.mk H
                    clear H
                    have hcz46_0 : wc.cell? ⟨gb201, 0, none⟩ = some (.string t198) := (blk_cell BK201.out 0).trans rfl
                    have hcz46_1 : wc.cell? ⟨gb201, 1, none⟩ = some (.int .i64 t199) := (blk_cell BK201.out 1).trans rfl
                    have hfz46_0 := blk_frozen BK201.out 0
                    have hfz46_1 := blk_frozen BK201.out 1
                    go_wp2_with (first | ((with_reducible refine gate_dst (N := 13) rfl ?_); refine box_event ?hg (N := 13) ?hd (cs := #[.string (⟨#[]⟩ : ByteArray), .int .i64 0]) (t := 38) ?hr ?_; (case hd => rfl); (case hg => rfl); (case hr => first | (go_simp; done) | (go_simp; rfl)); intro gb205 hg w47 hbox hb; have n0_ := Aside0.mk (Kd.R_below (by (with_reducible repeat (first | apply Kd.R_alloc | apply Kd.R_drewN | apply Kd.R_drew)); exact HO_3.out) hb); have n1_ := Aside0.mk (Kd.R_below (by (with_reducible repeat (first | apply Kd.R_alloc | apply Kd.R_drewN | apply Kd.R_drew)); exact HO_5.out) hb); have n2_ := Aside0.mk (blk_below (g := gb201) (o := .cells #[.string t198, .int .i64 t199] 47 (0, 0)) (by (with_reducible repeat (first | refine blk_drewN ?_ _ | refine blk_drew ?_ | refine blk_alloc ?_ _)); exact BK201.out) hb); have n3_ := Aside0.mk (below_step (by repeat (first | (with_reducible first | exact HB.out | apply below_alloc | apply pw_below_drewN | apply below_drew1 | refine below_set ?_ GE201.out) | exact HB.out)) hb); have n4_ := Aside0.mk (hbox); have n5_ := Aside0.mk ((by rw [hg]; exact (below_size (by repeat (first | (with_reducible first | exact HB.out | apply below_alloc | apply pw_below_drewN | apply below_drew1 | refine below_set ?_ GE201.out) | exact HB.out))) : w.heap.size ≤ gb205)); have n6_ := Aside0.mk ((by rw [hg]; exact (below_size (by repeat (first | (with_reducible first | exact HB.out | apply below_alloc | apply pw_below_drewN | apply below_drew1 | refine below_set ?_ GE201.out) | exact HB.out))) : w.heap.size ≤ gb205)); have n7_ := Aside0.mk ((by rw [hg]; exact Nat.ne_of_lt (blk_lt (g := gb201) (o := .cells #[.string t198, .int .i64 t199] 47 (0, 0)) (by (with_reducible repeat (first | refine blk_drewN ?_ _ | refine blk_drew ?_ | refine blk_alloc ?_ _)); exact BK201.out)) : gb201 ≠ gb205)); have n8_ := Aside0.mk ((by rw [hg]; exact Nat.ne_of_gt (blk_lt (g := gb201) (o := .cells #[.string t198, .int .i64 t199] 47 (0, 0)) (by (with_reducible repeat (first | refine blk_drewN ?_ _ | refine blk_drew ?_ | refine blk_alloc ?_ _)); exact BK201.out)) : gb205 ≠ gb201)); clear HO_3; clear HO_5; clear BK201; clear HB; have HO_3 := n0_; have HO_5 := n1_; have BK201 := n2_; have HB := n3_; have BK205 := n4_; have GW205 := n5_; have GE205 := n6_; have NB201_205 := n7_; have NB205_201 := n8_; clear n0_ n1_ n2_ n3_ n4_ n5_ n6_ n7_ n8_; clear hb hbox hg; have hnb48 := NB205_201.out; have hnc48 := NB201_205.out; have hcz49_0 : w47.cell? ⟨gb205, 0, none⟩ = some (.string (⟨#[]⟩ : ByteArray)) := (blk_cell BK205.out 0).trans rfl; have hcz49_1 : w47.cell? ⟨gb205, 1, none⟩ = some (.int .i64 0) := (blk_cell BK205.out 1).trans rfl; have hfz49_0 := blk_frozen BK205.out 0; have hfz49_1 := blk_frozen BK205.out 1))
                    go_loopg [14] kj29 (fun kq v14 w' => ∃ (x14_3 : Int) (x206000_3 : ByteArray) (x206001_3 : Int), v14 = .int .i64 x14_3 ∧ Aside0 (laws_FnSymbols.l1 kq t180 x5_1 x14_3 t198 t199 x206000_3 x206001_3 = some r) ∧ Aside0 (kq ≤ kj29) ∧ Aside0 (Kd.R (Kd.int .i64) 3 w' w.heap.size (fun k_ => some k_ ≠ ((.slice Ao32 x5_1.length co32) : Value).ownBlock) (.slice Ao12 t180.length co12) t180) ∧ Aside0 (Kd.R (Kd.int .i64) 3 w' w.heap.size (fun k_ => some k_ ≠ ((.slice Ao12 t180.length co12) : Value).ownBlock) (.slice Ao32 x5_1.length co32) x5_1) ∧ Aside0 (w'.heap[gb201]? = some (.cells #[.string t198, .int .i64 t199] 47 (0, 0))) ∧ Aside0 (w'.heap[gb205]? = some (.cells #[.string x206000_3, .int .i64 x206001_3] 38 (0, 0))) ∧ Aside0 (Below w.heap.size w w'))
                    case atStart => exact ⟨(0), (t198), (0), (by first | rfl | (simp; done) | (simp [*]; done)), H', ⟨Nat.le_refl _⟩, ⟨by (with_reducible repeat (first | apply Kd.R_alloc | apply Kd.R_drewN | apply Kd.R_drew)); exact Kd.R_mono (Kd.R_far (p := ⟨gb205, 1, none⟩) (Kd.R_far (p := ⟨gb205, 0, none⟩) (Kd.R_types HO_3.out BK205.out (by decide)) (fun _ hk => hk.2) (.string t198)) (fun _ hk => hk.2) (.int .i64 0)) (fun _ hk => hk.1)⟩, ⟨by (with_reducible repeat (first | apply Kd.R_alloc | apply Kd.R_drewN | apply Kd.R_drew)); exact Kd.R_mono (Kd.R_far (p := ⟨gb205, 1, none⟩) (Kd.R_far (p := ⟨gb205, 0, none⟩) (Kd.R_types HO_5.out BK205.out (by decide)) (fun _ hk => hk.2) (.string t198)) (fun _ hk => hk.2) (.int .i64 0)) (fun _ hk => hk.1)⟩, ⟨by (with_reducible repeat (first | refine blk_drewN ?_ _ | refine blk_drew ?_ | refine blk_alloc ?_ _)); refine blk_far ?_ NB201_205.out _; (with_reducible repeat (first | refine blk_drewN ?_ _ | refine blk_drew ?_ | refine blk_alloc ?_ _)); refine blk_far ?_ NB201_205.out _; (with_reducible repeat (first | refine blk_drewN ?_ _ | refine blk_drew ?_ | refine blk_alloc ?_ _)); exact BK201.out⟩, ⟨by (with_reducible repeat (first | refine blk_drewN ?_ _ | refine blk_drew ?_ | refine blk_alloc ?_ _)); refine blk_put (cs := #[.string t198, .int .i64 0]) ?_ 1 _ rfl; (with_reducible repeat (first | refine blk_drewN ?_ _ | refine blk_drew ?_ | refine blk_alloc ?_ _)); refine blk_put (cs := #[.string (⟨#[]⟩ : ByteArray), .int .i64 0]) ?_ 0 _ rfl; (with_reducible repeat (first | refine blk_drewN ?_ _ | refine blk_drew ?_ | refine blk_alloc ?_ _)); exact BK205.out⟩, ⟨by repeat (first | (with_reducible first | exact HB.out | apply below_alloc | apply pw_below_drewN | apply below_drew1 | refine below_set ?_ GE201.out | refine below_set ?_ GE205.out) | exact HB.out)⟩⟩
                    case round =>
                      clear H'
                      try clear c1
                      try clear p1
                      try clear q1
                      try clear hx1
                      try clear c2
                      try clear p2
                      try clear q2
                      try clear hx2
                      try clear hf2
                      try clear c3
                      try clear c4
                      try clear c6
                      try clear c6b0
                      try clear c6b1
                      try clear p6
                      try clear c7
                      try clear c7b0
                      try clear c7b1
                      try clear c9
                      try clear c15
                      try clear c15b0
                      try clear c16
                      try clear c16b0
                      try clear c17
                      try clear c17b0
                      try clear c17b1
                      try clear c17b2
                      try clear c18
                      try clear c19
                      try clear p19
                      try clear q19
                      try clear hx19
                      try clear c20
                      try clear c20b0
                      try clear c21
                      try clear c21b0
                      try clear p22
                      try clear q22
                      try clear hx22
                      try clear hf22
                      try clear c24
                      try clear c34
                      try clear c36
                      try clear c37
                      try clear c38
                      try clear c39
                      try clear c40
                      try clear c40b0
                      try clear c40b1
                      try clear c45
                      try clear c48
                      try clear hcz35_0
                      try clear hcz35_1
                      try clear hcz42_0
                      try clear hcz42_1
                      try clear hcz44_0
                      try clear hcz44_1
                      try clear hcz46_0
                      try clear hcz46_1
                      try clear hcz49_0
                      try clear hcz49_1
                      try clear hfz35_0
                      try clear hfz35_1
                      try clear hfz42_0
                      try clear hfz42_1
                      try clear hfz44_0
                      try clear hfz44_1
                      try clear hfz46_0
                      try clear hfz46_1
                      try clear hfz49_0
                      try clear hfz49_1
                      try clear hx192_0
                      try clear hx196_0
                      try clear hx22_0
                      try clear p1
                      try clear p19
                      try clear p192
                      try clear p196
                      try clear p2
                      try clear p22
                      try clear p6
                      try clear q1
                      try clear q19
                      try clear q192
                      try clear q196
                      try clear q2
                      try clear q22
                      obtain ⟨x14_3, x206000_3, x206001_3, rfl, HA, HK3, HO_3, HO_5, BK201, BK205, HB⟩ := hrel
                      cases gk with
                      | zero => exact absurd HA.out (by simp [laws_FnSymbols.l1])
                      | succ k3 =>
                        have H := HA.out
                        clear HA
                        simp only [laws_FnSymbols.l1] at H
                        by_cases c50 : x14_3 < (x5_1.length : Int)
                        · rw [if_pos c50] at H
                          have c50b0 : decide (x14_3 < (x5_1.length : Int)) = true := decide_eq_true c50
                          clear c50
                          replace H := Option.bind_eq_some_iff.mp H
                          obtain ⟨⟨t206, t207, t208, t209⟩, A510, H⟩ := H
                          replace H : (if t209 = true then (if 0 ≤ x14_3 then (if t206 = (rd x5_1 x14_3) then (laws_FnSymbols.l1 k3 t180 x5_1 (wrap64 (x14_3 + 1)) t198 t199 t207 t208) else (some false)) else (none)) else (some false)) = some r := H
                          have A51 := Aside0.mk A510
                          clear A510
                          by_cases c52 : t209 = true
                          · subst c52
                            have H1 : (if 0 ≤ x14_3 then (if t206 = (rd x5_1 x14_3) then (laws_FnSymbols.l1 k3 t180 x5_1 (wrap64 (x14_3 + 1)) t198 t199 t207 t208) else (some false)) else (none)) = some r := by rw [if_pos rfl] at H; exact H
                            clear H
                            have H := H1
                            clear H1
                            by_cases c53 : 0 ≤ x14_3
                            · rw [if_pos c53] at H
                              have c53b0 : decide (0 ≤ x14_3) = true := decide_eq_true c53
                              clear c53
                              by_cases c54 : t206 = (rd x5_1 x14_3)
                              · rw [if_pos c54] at H
                                have c54b0 : (t206 == (rd x5_1 x14_3)) = true := beq_iff_eq.mpr c54
                                have c54b1 : (t206 != (rd x5_1 x14_3)) = false := bne_eq_false_iff_eq.mpr c54
                                clear c54
                                have H' := Aside0.mk H
                                clear H
                                have hnb55 := NB205_201.out
                                have hnc55 := NB201_205.out
                                have hcz56_0 : wr.cell? ⟨gb205, 0, none⟩ = some (.string x206000_3) := (blk_cell BK205.out 0).trans rfl
                                have hcz56_1 : wr.cell? ⟨gb205, 1, none⟩ = some (.int .i64 x206001_3) := (blk_cell BK205.out 1).trans rfl
                                have hfz56_0 := blk_frozen BK205.out 0
                                have hfz56_1 := blk_frozen BK205.out 1
                                go_wp2_with (first | ((with_reducible refine gate_callee (f := 29) rfl ?_); refine goesL_ (some 95) rfl rfl Try.func29 (by kernel_rfl) rfl #[.slice Ao12 t180.length co12, .agg #[.string x206000_3, .int .i64 x206001_3]] rfl (by (try simp only [List.map_toArray, List.map_cons, List.map_nil]); first | done | rfl | (simp only [List.length_drop, List.length_take]; rfl)) ?_; (with_reducible refine (impl_TakeSymbol.calls _ _ t180 x206000_3 x206001_3 t206 t207 t208 true _ ?side1 ?side2 A51.out).mono ?_); (case side1 => repeat (first | exact (Kd.R_reads' HO_3.out).2.2 | (with_reducible refine Kd.C_alloc ?_ _) | (with_reducible refine Kd.C_drewN ?_ _) | (with_reducible refine Kd.C_drew ?_))); (case side2 => exact (Kd.R_reads' HO_3.out).2.1); rintro e w57 ⟨rfl, hb⟩; refine ⟨_, rfl, ?_⟩; have n0_ := Aside0.mk (Kd.R_below (by (with_reducible repeat (first | apply Kd.R_alloc | apply Kd.R_drewN | apply Kd.R_drew)); exact HO_3.out) hb); have n1_ := Aside0.mk (Kd.R_below (by (with_reducible repeat (first | apply Kd.R_alloc | apply Kd.R_drewN | apply Kd.R_drew)); exact HO_5.out) hb); have n2_ := Aside0.mk (blk_below (g := gb201) (o := .cells #[.string t198, .int .i64 t199] 47 (0, 0)) (by (with_reducible repeat (first | refine blk_drewN ?_ _ | refine blk_drew ?_ | refine blk_alloc ?_ _)); exact BK201.out) hb); have n3_ := Aside0.mk (blk_below (g := gb205) (o := .cells #[.string x206000_3, .int .i64 x206001_3] 38 (0, 0)) (by (with_reducible repeat (first | refine blk_drewN ?_ _ | refine blk_drew ?_ | refine blk_alloc ?_ _)); exact BK205.out) hb); have n4_ := Aside0.mk (below_step (by repeat (first | (with_reducible first | exact HB.out | apply below_alloc | apply pw_below_drewN | apply below_drew1 | refine below_set ?_ GE201.out | refine below_set ?_ GE205.out) | exact HB.out)) hb); clear HO_3; clear HO_5; clear BK201; clear BK205; clear HB; have HO_3 := n0_; have HO_5 := n1_; have BK201 := n2_; have BK205 := n3_; have HB := n4_; clear n0_ n1_ n2_ n3_ n4_; (try clear hb); (try clear hb2); (try clear hk); (try clear hi)) | ((with_reducible refine gate_dst (N := 16) rfl ?_); refine box_event ?hg (N := 16) ?hd (cs := #[.string (⟨#[]⟩ : ByteArray), .int .i64 0]) (t := 38) ?hr ?_; (case hd => rfl); (case hg => rfl); (case hr => first | (go_simp; done) | (go_simp; rfl)); intro gb210 hg w58 hbox hb; have n0_ := Aside0.mk (Kd.R_below (by (with_reducible repeat (first | apply Kd.R_alloc | apply Kd.R_drewN | apply Kd.R_drew)); exact HO_3.out) hb); have n1_ := Aside0.mk (Kd.R_below (by (with_reducible repeat (first | apply Kd.R_alloc | apply Kd.R_drewN | apply Kd.R_drew)); exact HO_5.out) hb); have n2_ := Aside0.mk (blk_below (g := gb201) (o := .cells #[.string t198, .int .i64 t199] 47 (0, 0)) (by (with_reducible repeat (first | refine blk_drewN ?_ _ | refine blk_drew ?_ | refine blk_alloc ?_ _)); exact BK201.out) hb); have n3_ := Aside0.mk (blk_below (g := gb205) (o := .cells #[.string x206000_3, .int .i64 x206001_3] 38 (0, 0)) (by (with_reducible repeat (first | refine blk_drewN ?_ _ | refine blk_drew ?_ | refine blk_alloc ?_ _)); exact BK205.out) hb); have n4_ := Aside0.mk (below_step (by repeat (first | (with_reducible first | exact HB.out | apply below_alloc | apply pw_below_drewN | apply below_drew1 | refine below_set ?_ GE201.out | refine below_set ?_ GE205.out) | exact HB.out)) hb); have n5_ := Aside0.mk (hbox); have n6_ := Aside0.mk ((by rw [hg]; exact (below_size (by repeat (first | (with_reducible first | exact HB.out | apply below_alloc | apply pw_below_drewN | apply below_drew1 | refine below_set ?_ GE201.out | refine below_set ?_ GE205.out) | exact HB.out))) : w.heap.size ≤ gb210)); have n7_ := Aside0.mk ((by rw [hg]; exact (below_size (by repeat (first | (with_reducible first | exact HB.out | apply below_alloc | apply pw_below_drewN | apply below_drew1 | refine below_set ?_ GE201.out | refine below_set ?_ GE205.out) | exact HB.out))) : w.heap.size ≤ gb210)); have n8_ := Aside0.mk ((by rw [hg]; exact Nat.ne_of_lt (blk_lt (g := gb201) (o := .cells #[.string t198, .int .i64 t199] 47 (0, 0)) (by (with_reducible repeat (first | refine blk_drewN ?_ _ | refine blk_drew ?_ | refine blk_alloc ?_ _)); exact BK201.out)) : gb201 ≠ gb210)); have n9_ := Aside0.mk ((by rw [hg]; exact Nat.ne_of_gt (blk_lt (g := gb201) (o := .cells #[.string t198, .int .i64 t199] 47 (0, 0)) (by (with_reducible repeat (first | refine blk_drewN ?_ _ | refine blk_drew ?_ | refine blk_alloc ?_ _)); exact BK201.out)) : gb210 ≠ gb201)); have n10_ := Aside0.mk ((by rw [hg]; exact Nat.ne_of_lt (blk_lt (g := gb205) (o := .cells #[.string x206000_3, .int .i64 x206001_3] 38 (0, 0)) (by (with_reducible repeat (first | refine blk_drewN ?_ _ | refine blk_drew ?_ | refine blk_alloc ?_ _)); exact BK205.out)) : gb205 ≠ gb210)); have n11_ := Aside0.mk ((by rw [hg]; exact Nat.ne_of_gt (blk_lt (g := gb205) (o := .cells #[.string x206000_3, .int .i64 x206001_3] 38 (0, 0)) (by (with_reducible repeat (first | refine blk_drewN ?_ _ | refine blk_drew ?_ | refine blk_alloc ?_ _)); exact BK205.out)) : gb210 ≠ gb205)); clear HO_3; clear HO_5; clear BK201; clear BK205; clear HB; have HO_3 := n0_; have HO_5 := n1_; have BK201 := n2_; have BK205 := n3_; have HB := n4_; have BK210 := n5_; have GW210 := n6_; have GE210 := n7_; have NB201_210 := n8_; have NB210_201 := n9_; have NB205_210 := n10_; have NB210_205 := n11_; clear n0_ n1_ n2_ n3_ n4_ n5_ n6_ n7_ n8_ n9_ n10_ n11_; clear hb hbox hg; have hnb59 := NB210_201.out; have hnc59 := NB201_210.out; have hnb60 := NB210_205.out; have hnc60 := NB205_210.out; have hcz61_0 : w58.cell? ⟨gb210, 0, none⟩ = some (.string (⟨#[]⟩ : ByteArray)) := (blk_cell BK210.out 0).trans rfl; have hcz61_1 : w58.cell? ⟨gb210, 1, none⟩ = some (.int .i64 0) := (blk_cell BK210.out 1).trans rfl; have hfz61_0 := blk_frozen BK210.out 0; have hfz61_1 := blk_frozen BK210.out 1; have p211 : 0 ≤ (x14_3 : Int) := of_decide_eq_true (by first | (with_reducible assumption) | assumption); have q211 : x14_3 < (x5_1.length : Int) := of_decide_eq_true (by first | (with_reducible assumption) | assumption); obtain ⟨ad211, e211, hx211_0⟩ := Kd.at_int (Kd.R_reads' HO_5.out).2.2 x14_3 p211 q211; cases e211; have hn211_0 : ad211.block ≠ gb210 := Kd.own_blk (Kd.R_ne HO_5.out BK210.out (by decide)); have hn211_1 : ad211.block ≠ gb210 := Kd.own_blk (Kd.R_ne HO_5.out BK210.out (by decide)); replace hx211_0 := (cell_far (p := ⟨gb210, 0, none⟩) (by first | (rw [add_block]; exact hn211_0) | (show (Addr.add _ _).block ≠ _; rw [add_block]; exact hn211_0) | exact hn211_0) (.string t207)).trans hx211_0; replace hx211_0 := (cell_far (p := ⟨gb210, 1, none⟩) (by first | (rw [add_block]; exact hn211_1) | (show (Addr.add _ _).block ≠ _; rw [add_block]; exact hn211_1) | exact hn211_1) (.int .i64 t208)).trans hx211_0; clear hn211_0; clear hn211_1; replace p211 := eq_true p211; replace q211 := eq_true q211; have hcz62_0 : w58.cell? ⟨gb205, 0, none⟩ = some (.string x206000_3) := (blk_cell BK205.out 0).trans rfl; have hcz62_1 : w58.cell? ⟨gb205, 1, none⟩ = some (.int .i64 x206001_3) := (blk_cell BK205.out 1).trans rfl; have hfz62_0 := blk_frozen BK205.out 0; have hfz62_1 := blk_frozen BK205.out 1))
                                go_roundg k3
                                case measure => have := HK1.out; have := HJ29.out; have := HK3.out; omega
                                case rel => exact ⟨(wrap64 (x14_3 + 1)), (t207), (t208), (by first | rfl | (simp; done) | (simp [*]; done)), H', ⟨by have := HK1.out; have := HJ29.out; have := HK3.out; omega⟩, ⟨by (with_reducible repeat (first | apply Kd.R_alloc | apply Kd.R_drewN | apply Kd.R_drew)); exact Kd.R_mono (Kd.R_far (p := ⟨gb205, 1, none⟩) (Kd.R_far (p := ⟨gb205, 0, none⟩) (Kd.R_far (p := ⟨gb210, 1, none⟩) (Kd.R_far (p := ⟨gb210, 0, none⟩) (Kd.R_types (Kd.R_types HO_3.out BK210.out (by decide)) BK205.out (by decide)) (fun _ hk => hk.1.2) (.string t207)) (fun _ hk => hk.1.2) (.int .i64 t208)) (fun _ hk => hk.2) (.string t207)) (fun _ hk => hk.2) (.int .i64 t208)) (fun _ hk => hk.1.1)⟩, ⟨by (with_reducible repeat (first | apply Kd.R_alloc | apply Kd.R_drewN | apply Kd.R_drew)); exact Kd.R_mono (Kd.R_far (p := ⟨gb205, 1, none⟩) (Kd.R_far (p := ⟨gb205, 0, none⟩) (Kd.R_far (p := ⟨gb210, 1, none⟩) (Kd.R_far (p := ⟨gb210, 0, none⟩) (Kd.R_types (Kd.R_types HO_5.out BK210.out (by decide)) BK205.out (by decide)) (fun _ hk => hk.1.2) (.string t207)) (fun _ hk => hk.1.2) (.int .i64 t208)) (fun _ hk => hk.2) (.string t207)) (fun _ hk => hk.2) (.int .i64 t208)) (fun _ hk => hk.1.1)⟩, ⟨by (with_reducible repeat (first | refine blk_drewN ?_ _ | refine blk_drew ?_ | refine blk_alloc ?_ _)); refine blk_far ?_ NB201_205.out _; (with_reducible repeat (first | refine blk_drewN ?_ _ | refine blk_drew ?_ | refine blk_alloc ?_ _)); refine blk_far ?_ NB201_205.out _; (with_reducible repeat (first | refine blk_drewN ?_ _ | refine blk_drew ?_ | refine blk_alloc ?_ _)); refine blk_far ?_ NB201_210.out _; (with_reducible repeat (first | refine blk_drewN ?_ _ | refine blk_drew ?_ | refine blk_alloc ?_ _)); refine blk_far ?_ NB201_210.out _; (with_reducible repeat (first | refine blk_drewN ?_ _ | refine blk_drew ?_ | refine blk_alloc ?_ _)); exact BK201.out⟩, ⟨by (with_reducible repeat (first | refine blk_drewN ?_ _ | refine blk_drew ?_ | refine blk_alloc ?_ _)); refine blk_put (cs := #[.string t207, .int .i64 x206001_3]) ?_ 1 _ rfl; (with_reducible repeat (first | refine blk_drewN ?_ _ | refine blk_drew ?_ | refine blk_alloc ?_ _)); refine blk_put (cs := #[.string x206000_3, .int .i64 x206001_3]) ?_ 0 _ rfl; (with_reducible repeat (first | refine blk_drewN ?_ _ | refine blk_drew ?_ | refine blk_alloc ?_ _)); refine blk_far ?_ NB205_210.out _; (with_reducible repeat (first | refine blk_drewN ?_ _ | refine blk_drew ?_ | refine blk_alloc ?_ _)); refine blk_far ?_ NB205_210.out _; (with_reducible repeat (first | refine blk_drewN ?_ _ | refine blk_drew ?_ | refine blk_alloc ?_ _)); exact BK205.out⟩, ⟨by repeat (first | (with_reducible first | exact HB.out | apply below_alloc | apply pw_below_drewN | apply below_drew1 | refine below_set ?_ GE201.out | refine below_set ?_ GE205.out | refine below_set ?_ GE210.out) | exact HB.out)⟩⟩
                              · rw [if_neg c54] at H
                                have c54b0 : (t206 == (rd x5_1 x14_3)) = false := beq_eq_false_iff_ne.mpr c54
                                have c54b1 : (t206 != (rd x5_1 x14_3)) = true := bne_iff_ne.mpr c54
                                obtain rfl := Option.some.inj H
                                have hnb63 := NB205_201.out
                                have hnc63 := NB201_205.out
                                have hcz64_0 : wr.cell? ⟨gb205, 0, none⟩ = some (.string x206000_3) := (blk_cell BK205.out 0).trans rfl
                                have hcz64_1 : wr.cell? ⟨gb205, 1, none⟩ = some (.int .i64 x206001_3) := (blk_cell BK205.out 1).trans rfl
                                have hfz64_0 := blk_frozen BK205.out 0
                                have hfz64_1 := blk_frozen BK205.out 1
                                go_wp2_with (first | ((with_reducible refine gate_callee (f := 29) rfl ?_); refine goesL_ (some 95) rfl rfl Try.func29 (by kernel_rfl) rfl #[.slice Ao12 t180.length co12, .agg #[.string x206000_3, .int .i64 x206001_3]] rfl (by (try simp only [List.map_toArray, List.map_cons, List.map_nil]); first | done | rfl | (simp only [List.length_drop, List.length_take]; rfl)) ?_; (with_reducible refine (impl_TakeSymbol.calls _ _ t180 x206000_3 x206001_3 t206 t207 t208 true _ ?side1 ?side2 A51.out).mono ?_); (case side1 => repeat (first | exact (Kd.R_reads' HO_3.out).2.2 | (with_reducible refine Kd.C_alloc ?_ _) | (with_reducible refine Kd.C_drewN ?_ _) | (with_reducible refine Kd.C_drew ?_))); (case side2 => exact (Kd.R_reads' HO_3.out).2.1); rintro e w65 ⟨rfl, hb⟩; refine ⟨_, rfl, ?_⟩; have n0_ := Aside0.mk (Kd.R_below (by (with_reducible repeat (first | apply Kd.R_alloc | apply Kd.R_drewN | apply Kd.R_drew)); exact HO_3.out) hb); have n1_ := Aside0.mk (Kd.R_below (by (with_reducible repeat (first | apply Kd.R_alloc | apply Kd.R_drewN | apply Kd.R_drew)); exact HO_5.out) hb); have n2_ := Aside0.mk (blk_below (g := gb201) (o := .cells #[.string t198, .int .i64 t199] 47 (0, 0)) (by (with_reducible repeat (first | refine blk_drewN ?_ _ | refine blk_drew ?_ | refine blk_alloc ?_ _)); exact BK201.out) hb); have n3_ := Aside0.mk (blk_below (g := gb205) (o := .cells #[.string x206000_3, .int .i64 x206001_3] 38 (0, 0)) (by (with_reducible repeat (first | refine blk_drewN ?_ _ | refine blk_drew ?_ | refine blk_alloc ?_ _)); exact BK205.out) hb); have n4_ := Aside0.mk (below_step (by repeat (first | (with_reducible first | exact HB.out | apply below_alloc | apply pw_below_drewN | apply below_drew1 | refine below_set ?_ GE201.out | refine below_set ?_ GE205.out) | exact HB.out)) hb); clear HO_3; clear HO_5; clear BK201; clear BK205; clear HB; have HO_3 := n0_; have HO_5 := n1_; have BK201 := n2_; have BK205 := n3_; have HB := n4_; clear n0_ n1_ n2_ n3_ n4_; (try clear hb); (try clear hb2); (try clear hk); (try clear hi)) | ((with_reducible refine gate_dst (N := 16) rfl ?_); refine box_event ?hg (N := 16) ?hd (cs := #[.string (⟨#[]⟩ : ByteArray), .int .i64 0]) (t := 38) ?hr ?_; (case hd => rfl); (case hg => rfl); (case hr => first | (go_simp; done) | (go_simp; rfl)); intro gb210 hg w66 hbox hb; have n0_ := Aside0.mk (Kd.R_below (by (with_reducible repeat (first | apply Kd.R_alloc | apply Kd.R_drewN | apply Kd.R_drew)); exact HO_3.out) hb); have n1_ := Aside0.mk (Kd.R_below (by (with_reducible repeat (first | apply Kd.R_alloc | apply Kd.R_drewN | apply Kd.R_drew)); exact HO_5.out) hb); have n2_ := Aside0.mk (blk_below (g := gb201) (o := .cells #[.string t198, .int .i64 t199] 47 (0, 0)) (by (with_reducible repeat (first | refine blk_drewN ?_ _ | refine blk_drew ?_ | refine blk_alloc ?_ _)); exact BK201.out) hb); have n3_ := Aside0.mk (blk_below (g := gb205) (o := .cells #[.string x206000_3, .int .i64 x206001_3] 38 (0, 0)) (by (with_reducible repeat (first | refine blk_drewN ?_ _ | refine blk_drew ?_ | refine blk_alloc ?_ _)); exact BK205.out) hb); have n4_ := Aside0.mk (below_step (by repeat (first | (with_reducible first | exact HB.out | apply below_alloc | apply pw_below_drewN | apply below_drew1 | refine below_set ?_ GE201.out | refine below_set ?_ GE205.out) | exact HB.out)) hb); have n5_ := Aside0.mk (hbox); have n6_ := Aside0.mk ((by rw [hg]; exact (below_size (by repeat (first | (with_reducible first | exact HB.out | apply below_alloc | apply pw_below_drewN | apply below_drew1 | refine below_set ?_ GE201.out | refine below_set ?_ GE205.out) | exact HB.out))) : w.heap.size ≤ gb210)); have n7_ := Aside0.mk ((by rw [hg]; exact (below_size (by repeat (first | (with_reducible first | exact HB.out | apply below_alloc | apply pw_below_drewN | apply below_drew1 | refine below_set ?_ GE201.out | refine below_set ?_ GE205.out) | exact HB.out))) : w.heap.size ≤ gb210)); have n8_ := Aside0.mk ((by rw [hg]; exact Nat.ne_of_lt (blk_lt (g := gb201) (o := .cells #[.string t198, .int .i64 t199] 47 (0, 0)) (by (with_reducible repeat (first | refine blk_drewN ?_ _ | refine blk_drew ?_ | refine blk_alloc ?_ _)); exact BK201.out)) : gb201 ≠ gb210)); have n9_ := Aside0.mk ((by rw [hg]; exact Nat.ne_of_gt (blk_lt (g := gb201) (o := .cells #[.string t198, .int .i64 t199] 47 (0, 0)) (by (with_reducible repeat (first | refine blk_drewN ?_ _ | refine blk_drew ?_ | refine blk_alloc ?_ _)); exact BK201.out)) : gb210 ≠ gb201)); have n10_ := Aside0.mk ((by rw [hg]; exact Nat.ne_of_lt (blk_lt (g := gb205) (o := .cells #[.string x206000_3, .int .i64 x206001_3] 38 (0, 0)) (by (with_reducible repeat (first | refine blk_drewN ?_ _ | refine blk_drew ?_ | refine blk_alloc ?_ _)); exact BK205.out)) : gb205 ≠ gb210)); have n11_ := Aside0.mk ((by rw [hg]; exact Nat.ne_of_gt (blk_lt (g := gb205) (o := .cells #[.string x206000_3, .int .i64 x206001_3] 38 (0, 0)) (by (with_reducible repeat (first | refine blk_drewN ?_ _ | refine blk_drew ?_ | refine blk_alloc ?_ _)); exact BK205.out)) : gb210 ≠ gb205)); clear HO_3; clear HO_5; clear BK201; clear BK205; clear HB; have HO_3 := n0_; have HO_5 := n1_; have BK201 := n2_; have BK205 := n3_; have HB := n4_; have BK210 := n5_; have GW210 := n6_; have GE210 := n7_; have NB201_210 := n8_; have NB210_201 := n9_; have NB205_210 := n10_; have NB210_205 := n11_; clear n0_ n1_ n2_ n3_ n4_ n5_ n6_ n7_ n8_ n9_ n10_ n11_; clear hb hbox hg; have hnb67 := NB210_201.out; have hnc67 := NB201_210.out; have hnb68 := NB210_205.out; have hnc68 := NB205_210.out; have hcz69_0 : w66.cell? ⟨gb210, 0, none⟩ = some (.string (⟨#[]⟩ : ByteArray)) := (blk_cell BK210.out 0).trans rfl; have hcz69_1 : w66.cell? ⟨gb210, 1, none⟩ = some (.int .i64 0) := (blk_cell BK210.out 1).trans rfl; have hfz69_0 := blk_frozen BK210.out 0; have hfz69_1 := blk_frozen BK210.out 1; have p211 : 0 ≤ (x14_3 : Int) := of_decide_eq_true (by first | (with_reducible assumption) | assumption); have q211 : x14_3 < (x5_1.length : Int) := of_decide_eq_true (by first | (with_reducible assumption) | assumption); obtain ⟨ad211, e211, hx211_0⟩ := Kd.at_int (Kd.R_reads' HO_5.out).2.2 x14_3 p211 q211; cases e211; have hn211_0 : ad211.block ≠ gb210 := Kd.own_blk (Kd.R_ne HO_5.out BK210.out (by decide)); have hn211_1 : ad211.block ≠ gb210 := Kd.own_blk (Kd.R_ne HO_5.out BK210.out (by decide)); replace hx211_0 := (cell_far (p := ⟨gb210, 0, none⟩) (by first | (rw [add_block]; exact hn211_0) | (show (Addr.add _ _).block ≠ _; rw [add_block]; exact hn211_0) | exact hn211_0) (.string t207)).trans hx211_0; replace hx211_0 := (cell_far (p := ⟨gb210, 1, none⟩) (by first | (rw [add_block]; exact hn211_1) | (show (Addr.add _ _).block ≠ _; rw [add_block]; exact hn211_1) | exact hn211_1) (.int .i64 t208)).trans hx211_0; clear hn211_0; clear hn211_1; replace p211 := eq_true p211; replace q211 := eq_true q211))
                                go_ret
                                exact ⟨by first | rfl | (simp [errW_none, errW_some] <;> rfl) | (simp [*, errW_none, errW_some] <;> rfl), by repeat (first | (with_reducible first | exact HB.out | apply below_alloc | apply pw_below_drewN | apply below_drew1 | refine below_set ?_ GE201.out | refine below_set ?_ GE205.out | refine below_set ?_ GE210.out) | exact HB.out)⟩
                            · rw [if_neg c53] at H
                              exact absurd H (by simp)
                          · replace c52 := Bool.eq_false_iff.mpr c52
                            subst c52
                            have H1 : (some false) = some r := by rw [if_neg (show ¬ (false = true) by decide)] at H; exact H
                            clear H
                            have H := H1
                            clear H1
                            obtain rfl := Option.some.inj H
                            have hnb70 := NB205_201.out
                            have hnc70 := NB201_205.out
                            have hcz71_0 : wr.cell? ⟨gb205, 0, none⟩ = some (.string x206000_3) := (blk_cell BK205.out 0).trans rfl
                            have hcz71_1 : wr.cell? ⟨gb205, 1, none⟩ = some (.int .i64 x206001_3) := (blk_cell BK205.out 1).trans rfl
                            have hfz71_0 := blk_frozen BK205.out 0
                            have hfz71_1 := blk_frozen BK205.out 1
                            go_wp2_with (first | ((with_reducible refine gate_callee (f := 29) rfl ?_); refine goesL_ (some 95) rfl rfl Try.func29 (by kernel_rfl) rfl #[.slice Ao12 t180.length co12, .agg #[.string x206000_3, .int .i64 x206001_3]] rfl (by (try simp only [List.map_toArray, List.map_cons, List.map_nil]); first | done | rfl | (simp only [List.length_drop, List.length_take]; rfl)) ?_; (with_reducible refine (impl_TakeSymbol.calls _ _ t180 x206000_3 x206001_3 t206 t207 t208 false _ ?side1 ?side2 A51.out).mono ?_); (case side1 => repeat (first | exact (Kd.R_reads' HO_3.out).2.2 | (with_reducible refine Kd.C_alloc ?_ _) | (with_reducible refine Kd.C_drewN ?_ _) | (with_reducible refine Kd.C_drew ?_))); (case side2 => exact (Kd.R_reads' HO_3.out).2.1); rintro e w72 ⟨rfl, hb⟩; refine ⟨_, rfl, ?_⟩; have n0_ := Aside0.mk (Kd.R_below (by (with_reducible repeat (first | apply Kd.R_alloc | apply Kd.R_drewN | apply Kd.R_drew)); exact HO_3.out) hb); have n1_ := Aside0.mk (Kd.R_below (by (with_reducible repeat (first | apply Kd.R_alloc | apply Kd.R_drewN | apply Kd.R_drew)); exact HO_5.out) hb); have n2_ := Aside0.mk (blk_below (g := gb201) (o := .cells #[.string t198, .int .i64 t199] 47 (0, 0)) (by (with_reducible repeat (first | refine blk_drewN ?_ _ | refine blk_drew ?_ | refine blk_alloc ?_ _)); exact BK201.out) hb); have n3_ := Aside0.mk (blk_below (g := gb205) (o := .cells #[.string x206000_3, .int .i64 x206001_3] 38 (0, 0)) (by (with_reducible repeat (first | refine blk_drewN ?_ _ | refine blk_drew ?_ | refine blk_alloc ?_ _)); exact BK205.out) hb); have n4_ := Aside0.mk (below_step (by repeat (first | (with_reducible first | exact HB.out | apply below_alloc | apply pw_below_drewN | apply below_drew1 | refine below_set ?_ GE201.out | refine below_set ?_ GE205.out) | exact HB.out)) hb); clear HO_3; clear HO_5; clear BK201; clear BK205; clear HB; have HO_3 := n0_; have HO_5 := n1_; have BK201 := n2_; have BK205 := n3_; have HB := n4_; clear n0_ n1_ n2_ n3_ n4_; (try clear hb); (try clear hb2); (try clear hk); (try clear hi)) | ((with_reducible refine gate_dst (N := 16) rfl ?_); refine box_event ?hg (N := 16) ?hd (cs := #[.string (⟨#[]⟩ : ByteArray), .int .i64 0]) (t := 38) ?hr ?_; (case hd => rfl); (case hg => rfl); (case hr => first | (go_simp; done) | (go_simp; rfl)); intro gb210 hg w73 hbox hb; have n0_ := Aside0.mk (Kd.R_below (by (with_reducible repeat (first | apply Kd.R_alloc | apply Kd.R_drewN | apply Kd.R_drew)); exact HO_3.out) hb); have n1_ := Aside0.mk (Kd.R_below (by (with_reducible repeat (first | apply Kd.R_alloc | apply Kd.R_drewN | apply Kd.R_drew)); exact HO_5.out) hb); have n2_ := Aside0.mk (blk_below (g := gb201) (o := .cells #[.string t198, .int .i64 t199] 47 (0, 0)) (by (with_reducible repeat (first | refine blk_drewN ?_ _ | refine blk_drew ?_ | refine blk_alloc ?_ _)); exact BK201.out) hb); have n3_ := Aside0.mk (blk_below (g := gb205) (o := .cells #[.string x206000_3, .int .i64 x206001_3] 38 (0, 0)) (by (with_reducible repeat (first | refine blk_drewN ?_ _ | refine blk_drew ?_ | refine blk_alloc ?_ _)); exact BK205.out) hb); have n4_ := Aside0.mk (below_step (by repeat (first | (with_reducible first | exact HB.out | apply below_alloc | apply pw_below_drewN | apply below_drew1 | refine below_set ?_ GE201.out | refine below_set ?_ GE205.out) | exact HB.out)) hb); have n5_ := Aside0.mk (hbox); have n6_ := Aside0.mk ((by rw [hg]; exact (below_size (by repeat (first | (with_reducible first | exact HB.out | apply below_alloc | apply pw_below_drewN | apply below_drew1 | refine below_set ?_ GE201.out | refine below_set ?_ GE205.out) | exact HB.out))) : w.heap.size ≤ gb210)); have n7_ := Aside0.mk ((by rw [hg]; exact (below_size (by repeat (first | (with_reducible first | exact HB.out | apply below_alloc | apply pw_below_drewN | apply below_drew1 | refine below_set ?_ GE201.out | refine below_set ?_ GE205.out) | exact HB.out))) : w.heap.size ≤ gb210)); have n8_ := Aside0.mk ((by rw [hg]; exact Nat.ne_of_lt (blk_lt (g := gb201) (o := .cells #[.string t198, .int .i64 t199] 47 (0, 0)) (by (with_reducible repeat (first | refine blk_drewN ?_ _ | refine blk_drew ?_ | refine blk_alloc ?_ _)); exact BK201.out)) : gb201 ≠ gb210)); have n9_ := Aside0.mk ((by rw [hg]; exact Nat.ne_of_gt (blk_lt (g := gb201) (o := .cells #[.string t198, .int .i64 t199] 47 (0, 0)) (by (with_reducible repeat (first | refine blk_drewN ?_ _ | refine blk_drew ?_ | refine blk_alloc ?_ _)); exact BK201.out)) : gb210 ≠ gb201)); have n10_ := Aside0.mk ((by rw [hg]; exact Nat.ne_of_lt (blk_lt (g := gb205) (o := .cells #[.string x206000_3, .int .i64 x206001_3] 38 (0, 0)) (by (with_reducible repeat (first | refine blk_drewN ?_ _ | refine blk_drew ?_ | refine blk_alloc ?_ _)); exact BK205.out)) : gb205 ≠ gb210)); have n11_ := Aside0.mk ((by rw [hg]; exact Nat.ne_of_gt (blk_lt (g := gb205) (o := .cells #[.string x206000_3, .int .i64 x206001_3] 38 (0, 0)) (by (with_reducible repeat (first | refine blk_drewN ?_ _ | refine blk_drew ?_ | refine blk_alloc ?_ _)); exact BK205.out)) : gb210 ≠ gb205)); clear HO_3; clear HO_5; clear BK201; clear BK205; clear HB; have HO_3 := n0_; have HO_5 := n1_; have BK201 := n2_; have BK205 := n3_; have HB := n4_; have BK210 := n5_; have GW210 := n6_; have GE210 := n7_; have NB201_210 := n8_; have NB210_201 := n9_; have NB205_210 := n10_; have NB210_205 := n11_; clear n0_ n1_ n2_ n3_ n4_ n5_ n6_ n7_ n8_ n9_ n10_ n11_; clear hb hbox hg; have hnb74 := NB210_201.out; have hnc74 := NB201_210.out; have hnb75 := NB210_205.out; have hnc75 := NB205_210.out; have hcz76_0 : w73.cell? ⟨gb210, 0, none⟩ = some (.string (⟨#[]⟩ : ByteArray)) := (blk_cell BK210.out 0).trans rfl; have hcz76_1 : w73.cell? ⟨gb210, 1, none⟩ = some (.int .i64 0) := (blk_cell BK210.out 1).trans rfl; have hfz76_0 := blk_frozen BK210.out 0; have hfz76_1 := blk_frozen BK210.out 1))
                            go_ret
                            exact ⟨by first | rfl | (simp [errW_none, errW_some] <;> rfl) | (simp [*, errW_none, errW_some] <;> rfl), by repeat (first | (with_reducible first | exact HB.out | apply below_alloc | apply pw_below_drewN | apply below_drew1 | refine below_set ?_ GE201.out | refine below_set ?_ GE205.out | refine below_set ?_ GE210.out) | exact HB.out)⟩
                        · rw [if_neg c50] at H
                          have c50b0 : decide (x14_3 < (x5_1.length : Int)) = false := decide_eq_false c50
                          clear c50
                          obtain rfl := Option.some.inj H
                          have hnb77 := NB205_201.out
                          have hnc77 := NB201_205.out
                          have hcz78_0 : wr.cell? ⟨gb205, 0, none⟩ = some (.string x206000_3) := (blk_cell BK205.out 0).trans rfl
                          have hcz78_1 : wr.cell? ⟨gb205, 1, none⟩ = some (.int .i64 x206001_3) := (blk_cell BK205.out 1).trans rfl
                          have hfz78_0 := blk_frozen BK205.out 0
                          have hfz78_1 := blk_frozen BK205.out 1
                          have hcz79_0 : wr.cell? ⟨gb201, 0, none⟩ = some (.string t198) := (blk_cell BK201.out 0).trans rfl
                          have hcz79_1 : wr.cell? ⟨gb201, 1, none⟩ = some (.int .i64 t199) := (blk_cell BK201.out 1).trans rfl
                          have hfz79_0 := blk_frozen BK201.out 0
                          have hfz79_1 := blk_frozen BK201.out 1
                          go_wp2
                          go_ret
                          exact ⟨by first | rfl | (simp [errW_none, errW_some] <;> rfl) | (simp [*, errW_none, errW_some] <;> rfl), by repeat (first | (with_reducible first | exact HB.out | apply below_alloc | apply pw_below_drewN | apply below_drew1 | refine below_set ?_ GE201.out | refine below_set ?_ GE205.out) | exact HB.out)⟩
      · rw [if_neg c7] at H
        exact absurd H (by simp)
    · rw [if_neg c6] at H
      exact absurd H (by simp)

/-- THE ONE PURE STATEMENT of laws_FnSymbols: yours. -/
def laws_FnSymbols.Pure : Prop := ∀ (l0 : List Int), l0.length ≤ maxLen → l0.length * 1 ≤ 140737488351232 → (∀ x ∈ l0, (Lit.int .u8 x).wf = true) → ∃ k, laws_FnSymbols.f k l0 = some true
theorem laws_FnSymbols.walk (P : laws_FnSymbols.Pure) (w : World) (A0 : Option Addr) (c0 : Nat) (l0 : List Int) (hr0 : Kd.C (Kd.int .u8) w A0 l0.length l0) (hc0 : l0.length ≤ c0) (hm0 : l0.length ≤ maxLen) (y0 : l0.length * 1 ≤ 140737488351232) (hw0 : ∀ x ∈ l0, (Lit.int .u8 x).wf = true) :
    Calls Try.prog 9 #[.slice A0 l0.length c0] w fun e w' => e = .returned (.bool true) ∧ Below w.heap.size w w' := by
  obtain ⟨k, h⟩ := P l0 hm0 y0 hw0
  refine (laws_FnSymbols.calls k A0 c0 l0 true w hr0 hc0 h).mono ?_
  rintro e w' ⟨rfl, hd⟩
  exact ⟨rfl, hd⟩

end Go.Proofs.Ytimomemkbcidnaa.PFnSymbols
