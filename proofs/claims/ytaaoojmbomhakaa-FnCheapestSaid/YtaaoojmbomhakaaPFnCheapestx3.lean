-- Written by a program of this session (a changed print); Lean checks it.
import Derived.Test.YtaaoojmbomhakaaPFnCheapestx0
import Derived.Test.YtaaoojmbomhakaaPFnCheapestx1
import Derived.Test.YtaaoojmbomhakaaPFnCheapestx2
namespace Go.Proofs.Ytaaoojmbomhakaa.PFnCheapest
open Go.RowKit Go.Proofs.YtaaoojmbomhakaaW.PrintWords Go.Proofs.YtaaoojmbomhakaaW.PrintLast Go.Proofs.YtaaoojmbomhakaaW.PrintMore
attribute [local go_sem] max2_int min2_int max_two min_two max_three min_three max_four min_four   -- for this text's walks alone
set_option linter.unusedVariables false
set_option linter.unusedSimpArgs false

/-! ### impl_Cheapest: function 19 -/
mutual
def impl_Cheapest.l0 : Nat → ByteArray → Int → List Int → List Int → List (S44) → Int → Option ((List (S44)) × Bool)
  | 0, _, _, _, _, _, _ => none
  | k + 1, x0, x1, x6, x7, x8, x9 => if x9 ≥ 0 then (if 0 ≤ x9 then (if x9 < (x0.size : Int) then (if x9 < (x8.length : Int) then ((some (x8.set (x9 : Int).toNat (⟨wrap64 (bt x0 x9), 0, 0⟩ : S44) : List (S44))).bind fun y171 => ((impl_costOf.f k ((rd_T44 y171 x9).f0) ((rd_T44 y171 x9).f1) ((rd_T44 y171 x9).f2)).bind fun t173 => (if 0 ≤ (wrap64 (x9 + 1)) then (if (wrap64 (x9 + 1)) < (x7.length : Int) then (if x9 < (x7.length : Int) then ((impl_best.f k x0 x6 x9 x1).bind fun bt176 => (impl_Cheapest.l1 k x0 x1 x6 (x7.set (x9 : Int).toNat (wrap64 (t173 + (rd x7 (wrap64 (x9 + 1)))))) y171 x9 bt176.1 bt176.2 3)) else (none)) else (none)) else (none)))) else (none)) else (none)) else (none)) else (impl_Cheapest.l2 k x0 x8 (([] : List (S44))) 0)
def impl_Cheapest.l1 : Nat → ByteArray → Int → List Int → List Int → List (S44) → Int → Int → Int → Int → Option ((List (S44)) × Bool)
  | 0, _, _, _, _, _, _, _, _, _ => none
  | k + 1, x0, x1, x6, x7, x8, x9, x10, x11, x12 => if x12 ≤ x10 then ((impl_costOf.f k 0 x12 x11).bind fun t179 => (if 0 ≤ (wrap64 (x9 + x12)) then (if (wrap64 (x9 + x12)) < (x7.length : Int) then (if 0 ≤ x9 then (if x9 < (x7.length : Int) then (if (wrap64 (t179 + (rd x7 (wrap64 (x9 + x12))))) < (rd x7 x9) then (if x9 < (x8.length : Int) then (impl_Cheapest.l1 k x0 x1 x6 (x7.set (x9 : Int).toNat (wrap64 (t179 + (rd x7 (wrap64 (x9 + x12)))))) (x8.set (x9 : Int).toNat (⟨0, x12, x11⟩ : S44)) x9 x10 x11 (wrap64 (x12 + 1))) else (none)) else (impl_Cheapest.l1 k x0 x1 x6 x7 x8 x9 x10 x11 (wrap64 (x12 + 1)))) else (none)) else (none)) else (none)) else (none))) else (impl_Cheapest.l0 k x0 x1 x6 x7 x8 (wrap64 (x9 - 1)))
def impl_Cheapest.l2 : Nat → ByteArray → List (S44) → List (S44) → Int → Option ((List (S44)) × Bool)
  | 0, _, _, _, _ => none
  | k + 1, x0, x8, x15, x16 => if x16 < (x0.size : Int) then (if 0 ≤ x16 then (if x16 < (x8.length : Int) then (if x15.length < 5864062014805 then (impl_Cheapest.l2 k x0 x8 (x15 ++ [(⟨(rd_T44 x8 x16).f0, (rd_T44 x8 x16).f1, (rd_T44 x8 x16).f2⟩ : S44)]) (wrap64 (x16 + (mx 1 ((rd_T44 x8 x16).f1))))) else (none)) else (none)) else (none)) else (some (x15, true))
end
def impl_Cheapest.f (k : Nat) (a0 : ByteArray) (a1 : Int) : Option ((List (S44)) × Bool) := (impl_searchOk.f a0 a1).bind fun t161 => (if t161 = true then ((impl_chainsOf.f a0).bind fun t162 => (if 0 ≤ (wrap64 ((a0.size : Int) + 1)) then (if (wrap64 ((a0.size : Int) + 1) : Int).toNat ≤ 35184372088832 then (if 0 ≤ (a0.size : Int) then (if ((a0.size : Int) : Int).toNat ≤ 11728124029610 then (impl_Cheapest.l0 k a0 a1 t162 (List.replicate (wrap64 ((a0.size : Int) + 1) : Int).toNat 0) (List.replicate ((a0.size : Int) : Int).toNat z44) (wrap64 ((a0.size : Int) - 1))) else (none)) else (none)) else (none)) else (none))) else (some (([] : List (S44)), false)))
theorem impl_Cheapest.mono_l : ∀ k, (∀ y0 y1 y2 y3 y4 y5, LeO (impl_Cheapest.l0 k y0 y1 y2 y3 y4 y5) (impl_Cheapest.l0 (k + 1) y0 y1 y2 y3 y4 y5)) ∧ (∀ y0 y1 y2 y3 y4 y5 y6 y7 y8, LeO (impl_Cheapest.l1 k y0 y1 y2 y3 y4 y5 y6 y7 y8) (impl_Cheapest.l1 (k + 1) y0 y1 y2 y3 y4 y5 y6 y7 y8)) ∧ (∀ y0 y1 y2 y3, LeO (impl_Cheapest.l2 k y0 y1 y2 y3) (impl_Cheapest.l2 (k + 1) y0 y1 y2 y3))
  | 0 => ⟨fun _ _ _ _ _ _ r h => by simp [impl_Cheapest.l0] at h, fun _ _ _ _ _ _ _ _ _ r h => by simp [impl_Cheapest.l1] at h, fun _ _ _ _ r h => by simp [impl_Cheapest.l2] at h⟩
  | k + 1 => by
    obtain ⟨ih0, ih1, ih2⟩ := impl_Cheapest.mono_l k
    refine ⟨?_, ?_, ?_⟩
    · intro y0 y1 y2 y3 y4 y5
      unfold impl_Cheapest.l0
      repeat' first
      | (with_reducible exact ih0 _ _ _ _ _ _)
      | (with_reducible exact ih1 _ _ _ _ _ _ _ _ _)
      | (with_reducible exact ih2 _ _ _ _)
      | (with_reducible exact impl_best.mono _ _ _ _ _)
      | (with_reducible exact impl_costOf.mono _ _ _ _)
      | (with_reducible exact LeO.refl _)
      | (with_reducible exact LeO.none _)
      | (with_reducible refine LeO.ite ?_ ?_)
      | (with_reducible refine LeO.bind ?_ (fun _ => ?_))
      | exact ih0 _ _ _ _ _ _
      | exact ih1 _ _ _ _ _ _ _ _ _
      | exact ih2 _ _ _ _
      | exact impl_best.mono _ _ _ _ _
      | exact impl_costOf.mono _ _ _ _
      | exact LeO.none _
      | refine LeO.ite ?_ ?_
      | refine LeO.bind ?_ (fun _ => ?_)
    · intro y0 y1 y2 y3 y4 y5 y6 y7 y8
      unfold impl_Cheapest.l1
      repeat' first
      | (with_reducible exact ih0 _ _ _ _ _ _)
      | (with_reducible exact ih1 _ _ _ _ _ _ _ _ _)
      | (with_reducible exact ih2 _ _ _ _)
      | (with_reducible exact impl_best.mono _ _ _ _ _)
      | (with_reducible exact impl_costOf.mono _ _ _ _)
      | (with_reducible exact LeO.refl _)
      | (with_reducible exact LeO.none _)
      | (with_reducible refine LeO.ite ?_ ?_)
      | (with_reducible refine LeO.bind ?_ (fun _ => ?_))
      | exact ih0 _ _ _ _ _ _
      | exact ih1 _ _ _ _ _ _ _ _ _
      | exact ih2 _ _ _ _
      | exact impl_best.mono _ _ _ _ _
      | exact impl_costOf.mono _ _ _ _
      | exact LeO.none _
      | refine LeO.ite ?_ ?_
      | refine LeO.bind ?_ (fun _ => ?_)
    · intro y0 y1 y2 y3
      unfold impl_Cheapest.l2
      repeat' first
      | (with_reducible exact ih0 _ _ _ _ _ _)
      | (with_reducible exact ih1 _ _ _ _ _ _ _ _ _)
      | (with_reducible exact ih2 _ _ _ _)
      | (with_reducible exact impl_best.mono _ _ _ _ _)
      | (with_reducible exact impl_costOf.mono _ _ _ _)
      | (with_reducible exact LeO.refl _)
      | (with_reducible exact LeO.none _)
      | (with_reducible refine LeO.ite ?_ ?_)
      | (with_reducible refine LeO.bind ?_ (fun _ => ?_))
      | exact ih0 _ _ _ _ _ _
      | exact ih1 _ _ _ _ _ _ _ _ _
      | exact ih2 _ _ _ _
      | exact impl_best.mono _ _ _ _ _
      | exact impl_costOf.mono _ _ _ _
      | exact LeO.none _
      | refine LeO.ite ?_ ?_
      | refine LeO.bind ?_ (fun _ => ?_)
theorem impl_Cheapest.mono : ∀ a0 a1 k, LeO (impl_Cheapest.f k a0 a1) (impl_Cheapest.f (k + 1) a0 a1) := by
  intro a0 a1 k
  obtain ⟨ih0, ih1, ih2⟩ := impl_Cheapest.mono_l k
  unfold impl_Cheapest.f
  repeat' first
      | (with_reducible exact ih0 _ _ _ _ _ _)
      | (with_reducible exact ih1 _ _ _ _ _ _ _ _ _)
      | (with_reducible exact ih2 _ _ _ _)
      | (with_reducible exact impl_best.mono _ _ _ _ _)
      | (with_reducible exact impl_costOf.mono _ _ _ _)
      | (with_reducible exact LeO.refl _)
      | (with_reducible exact LeO.none _)
      | (with_reducible refine LeO.ite ?_ ?_)
      | (with_reducible refine LeO.bind ?_ (fun _ => ?_))
      | exact ih0 _ _ _ _ _ _
      | exact ih1 _ _ _ _ _ _ _ _ _
      | exact ih2 _ _ _ _
      | exact impl_best.mono _ _ _ _ _
      | exact impl_costOf.mono _ _ _ _
      | exact LeO.none _
      | refine LeO.ite ?_ ?_
      | refine LeO.bind ?_ (fun _ => ?_)
def impl_Cheapest.T10 : Bool × List (List Nat × List Nat) := (true, [([], []), ([], []), ([], []), ([], []), ([2, 3], [2, 3]), ([4], [4]), ([5], [5]), ([], []), ([], []), ([8], [8]), ([7, 9], [7, 9]), ([10], [10]), ([6, 11], [6, 11]), ([0, 1, 0, 1, 2, 3, 4, 5, 6, 7, 8, 9, 10, 11, 12], [0, 1]), ([13, 12, 6, 0, 1, 2, 3, 4, 5, 6, 7, 8, 9, 10, 11, 12], [12, 13])])
def impl_Cheapest.B10 : List Nat := [0, 0, 0, 0, 12, 28, 60, 0, 0, 256, 896, 1920, 4092, 8191, 16383]
theorem impl_Cheapest.tab10 : rtab .any (opsOf Try.f19 10) = impl_Cheapest.T10 := by kernel_rfl
theorem impl_Cheapest.bits10 : waitsOk impl_Cheapest.T10.2 impl_Cheapest.B10 = true := by kernel_rfl
def impl_Cheapest.T16 : Bool × List (List Nat × List Nat) := (true, [([], []), ([0], [0]), ([], []), ([], []), ([], []), ([3, 4], [3, 4]), ([2, 5], [2, 5]), ([6], [6]), ([1, 7], [1, 7]), ([8, 1, 0, 1, 2, 3, 4, 5, 6, 7, 8], [8])])
def impl_Cheapest.B16 : List Nat := [0, 1, 0, 0, 0, 24, 60, 124, 255, 511]
theorem impl_Cheapest.tab16 : rtab .any (opsOf Try.f19 16) = impl_Cheapest.T16 := by kernel_rfl
theorem impl_Cheapest.bits16 : waitsOk impl_Cheapest.T16.2 impl_Cheapest.B16 = true := by kernel_rfl
def impl_Cheapest.T18 : Bool × List (List Nat × List Nat) := (true, [([], []), ([], []), ([], []), ([], []), ([], []), ([], []), ([0, 1, 0, 1, 4], [0, 1]), ([6, 4, 0, 1, 4], [4, 6]), ([2, 3, 0, 1, 2, 3, 4, 5, 6, 7], [2, 3]), ([8, 5, 7, 0, 1, 2, 3, 4, 5, 6, 7], [5, 8])])
def impl_Cheapest.B18 : List Nat := [0, 0, 0, 0, 0, 0, 19, 83, 255, 511]
theorem impl_Cheapest.tab18 : rtab .any (opsOf Try.f19 18) = impl_Cheapest.T18 := by kernel_rfl
theorem impl_Cheapest.bits18 : waitsOk impl_Cheapest.T18.2 impl_Cheapest.B18 = true := by kernel_rfl
set_option maxHeartbeats 8000000 in
set_option maxRecDepth 100000 in
theorem impl_Cheapest.calls (k : Nat) (a0 : ByteArray) (a1 : Int) (r1 : List (S44)) (r2 : Bool) (w : World) (h : impl_Cheapest.f k a0 a1 = some (r1, r2)) :
    Calls Try.prog 19 #[.string a0, .int .i64 a1] w fun e w' => ∃ v0_ : Value, e = .returned (.tuple #[v0_, .bool r2]) ∧ Kd.R k44 44 w' w.heap.size (fun _ => True) v0_ r1 ∧ Below w.heap.size w w' := by
  have hu44 := Try.underlying44
  have HB := Aside0.mk (Below.refl w.heap.size w)
  have H : ((impl_searchOk.f a0 a1).bind fun t161 => (if t161 = true then ((impl_chainsOf.f a0).bind fun t162 => (if 0 ≤ (wrap64 ((a0.size : Int) + 1)) then (if (wrap64 ((a0.size : Int) + 1) : Int).toNat ≤ 35184372088832 then (if 0 ≤ (a0.size : Int) then (if ((a0.size : Int) : Int).toNat ≤ 11728124029610 then (impl_Cheapest.l0 k a0 a1 t162 (List.replicate (wrap64 ((a0.size : Int) + 1) : Int).toNat 0) (List.replicate ((a0.size : Int) : Int).toNat z44) (wrap64 ((a0.size : Int) - 1))) else (none)) else (none)) else (none)) else (none))) else (some (([] : List (S44)), false)))) = some (r1, r2) := h
  clear h
  replace H := Option.bind_eq_some_iff.mp H
  obtain ⟨t161, A30, H⟩ := H
  replace H : (if t161 = true then ((impl_chainsOf.f a0).bind fun t162 => (if 0 ≤ (wrap64 ((a0.size : Int) + 1)) then (if (wrap64 ((a0.size : Int) + 1) : Int).toNat ≤ 35184372088832 then (if 0 ≤ (a0.size : Int) then (if ((a0.size : Int) : Int).toNat ≤ 11728124029610 then (impl_Cheapest.l0 k a0 a1 t162 (List.replicate (wrap64 ((a0.size : Int) + 1) : Int).toNat 0) (List.replicate ((a0.size : Int) : Int).toNat z44) (wrap64 ((a0.size : Int) - 1))) else (none)) else (none)) else (none)) else (none))) else (some (([] : List (S44)), false))) = some (r1, r2) := H
  have A3 := Aside0.mk A30
  clear A30
  by_cases c4 : t161 = true
  · subst c4
    have H1 : ((impl_chainsOf.f a0).bind fun t162 => (if 0 ≤ (wrap64 ((a0.size : Int) + 1)) then (if (wrap64 ((a0.size : Int) + 1) : Int).toNat ≤ 35184372088832 then (if 0 ≤ (a0.size : Int) then (if ((a0.size : Int) : Int).toNat ≤ 11728124029610 then (impl_Cheapest.l0 k a0 a1 t162 (List.replicate (wrap64 ((a0.size : Int) + 1) : Int).toNat 0) (List.replicate ((a0.size : Int) : Int).toNat z44) (wrap64 ((a0.size : Int) - 1))) else (none)) else (none)) else (none)) else (none))) = some (r1, r2) := by rw [if_pos rfl] at H; exact H
    clear H
    have H := H1
    clear H1
    replace H := Option.bind_eq_some_iff.mp H
    obtain ⟨t162, A50, H⟩ := H
    replace H : (if 0 ≤ (wrap64 ((a0.size : Int) + 1)) then (if (wrap64 ((a0.size : Int) + 1) : Int).toNat ≤ 35184372088832 then (if 0 ≤ (a0.size : Int) then (if ((a0.size : Int) : Int).toNat ≤ 11728124029610 then (impl_Cheapest.l0 k a0 a1 t162 (List.replicate (wrap64 ((a0.size : Int) + 1) : Int).toNat 0) (List.replicate ((a0.size : Int) : Int).toNat z44) (wrap64 ((a0.size : Int) - 1))) else (none)) else (none)) else (none)) else (none)) = some (r1, r2) := H
    have A5 := Aside0.mk A50
    clear A50
    obtain ⟨ji6, hji6⟩ : ∃ j_ : Int, (wrap64 ((a0.size : Int) + 1)) = j_ := ⟨_, rfl⟩
    replace H : (if 0 ≤ (ji6) then (if (ji6 : Int).toNat ≤ 35184372088832 then (if 0 ≤ (a0.size : Int) then (if ((a0.size : Int) : Int).toNat ≤ 11728124029610 then (impl_Cheapest.l0 k a0 a1 t162 (List.replicate (ji6 : Int).toNat 0) (List.replicate ((a0.size : Int) : Int).toNat z44) (wrap64 ((a0.size : Int) - 1))) else (none)) else (none)) else (none)) else (none)) = some (r1, r2) := by first | (rw [hji6] at H; exact H) | (simp only [hji6] at H ⊢; exact H)
    (try rw [hji6] at A3)
    (try rw [hji6] at A5)
    have hji6w : (IntKind.i64.wrap ((a0.size : Int) + 1)) = ji6 := (i64_w _).trans hji6
    by_cases c7 : 0 ≤ (ji6)
    · rw [if_pos c7] at H
      have c7b0 := eq_true c7
      have c7b1 : decide (0 ≤ (ji6)) = true := decide_eq_true c7
      clear c7
      by_cases c8 : (ji6 : Int).toNat ≤ 35184372088832
      · rw [if_pos c8] at H
        have c8b0 := eq_true c8
        have c8b1 : decide ((ji6 : Int).toNat ≤ 35184372088832) = true := decide_eq_true c8
        clear c8
        obtain ⟨y165, hy165⟩ : ∃ y_ : List Int, y_ = (List.replicate (ji6 : Int).toNat 0) := ⟨_, rfl⟩
        replace H : (if 0 ≤ (a0.size : Int) then (if ((a0.size : Int) : Int).toNat ≤ 11728124029610 then (impl_Cheapest.l0 k a0 a1 t162 y165 (List.replicate ((a0.size : Int) : Int).toNat z44) (wrap64 ((a0.size : Int) - 1))) else (none)) else (none)) = some (r1, r2) := by first | (rw [hy165]; with_reducible exact H) | (have H2_ := (Option.bind_some _ _).symm.trans H; rw [hy165]; with_reducible exact H2_) | (have H2_ := (Option.bind_some _ _).symm.trans H; with_reducible exact H2_) | with_reducible exact H | (rw [hy165]; exact H) | exact H
        have Ny165 := Aside0.mk hy165
        clear hy165
        by_cases c9 : 0 ≤ (a0.size : Int)
        · rw [if_pos c9] at H
          have c9b0 := eq_true c9
          have c9b1 : decide (0 ≤ (a0.size : Int)) = true := decide_eq_true c9
          clear c9
          by_cases c10 : ((a0.size : Int) : Int).toNat ≤ 11728124029610
          · rw [if_pos c10] at H
            have c10b0 := eq_true c10
            have c10b1 : decide (((a0.size : Int) : Int).toNat ≤ 11728124029610) = true := decide_eq_true c10
            clear c10
            obtain ⟨y168, hy168⟩ : ∃ y_ : List (S44), y_ = (List.replicate ((a0.size : Int) : Int).toNat z44) := ⟨_, rfl⟩
            replace H : (impl_Cheapest.l0 k a0 a1 t162 y165 y168 (wrap64 ((a0.size : Int) - 1))) = some (r1, r2) := by first | (rw [hy168]; with_reducible exact H) | (have H2_ := (Option.bind_some _ _).symm.trans H; rw [hy168]; with_reducible exact H2_) | (have H2_ := (Option.bind_some _ _).symm.trans H; with_reducible exact H2_) | with_reducible exact H | (rw [hy168]; exact H) | exact H
            have Ny168 := Aside0.mk hy168
            clear hy168
            have H' := Aside0.mk H
            clear H
            go_enter Try.func19, Try.ntmps19
            go_wp2_with (first | ((with_reducible refine gate_callee (f := 27) rfl ?_); refine goesL_ (some 19) rfl rfl Try.func27 (by kernel_rfl) rfl #[.string a0, .int .i64 a1] rfl (by (try simp only [List.map_toArray, List.map_cons, List.map_nil]); first | done | rfl | (simp only [List.length_drop, List.length_take]; rfl)) ?_; (with_reducible refine (impl_searchOk.calls a0 a1 true _ A3.out).mono ?_); rintro e w' ⟨rfl, ⟨nd, rfl⟩⟩; refine ⟨_, rfl, ?_⟩) | ((with_reducible refine gate_callee (f := 30) rfl ?_); refine goesL_ (some 22) rfl rfl Try.func30 (by kernel_rfl) rfl #[.string a0] rfl (by (try simp only [List.map_toArray, List.map_cons, List.map_nil]); first | done | rfl | (simp only [List.length_drop, List.length_take]; rfl)) ?_; (with_reducible refine (impl_chainsOf.calls a0 t162 _ A5.out).mono ?_); rintro e w11 ⟨v163, rfl, ho0, hb⟩; refine ⟨_, rfl, ?_⟩; have n0_ := Aside0.mk (Kd.R_lower ho0 (below_size (by repeat (first | (with_reducible first | exact HB.out | apply below_alloc | apply pw_below_drewN | apply below_drew1) | exact HB.out)))); have n1_ := Aside0.mk (below_step (by repeat (first | (with_reducible first | exact HB.out | apply below_alloc | apply pw_below_drewN | apply below_drew1) | exact HB.out)) hb); clear HB; have HO164 := n0_; have HB := n1_; clear n0_ n1_; (try clear hb); (try clear hb2); (try clear hk); (try clear hi); (try clear ho0)) | ((with_reducible refine gate_dst (N := 26) rfl ?_); refine Kd.R_make (Kd.int .i64) _ 3 rfl (N := 26) rfl 34 _ _ rfl ji6 rfl rfl Try.underlying34 (.int .i64 0) 8 info3 rfl (by decide) (by omega) 0 (ok := fun _ => True) (okp := fun _ => True) rfl (fun _ hk => hk) trivial (of_decide_eq_true (by first | (with_reducible assumption) | assumption)) (Nat.le_trans (Nat.mul_le_mul_right _ (of_decide_eq_true (by first | (with_reducible assumption) | assumption) : ji6.toNat ≤ 35184372088832)) (by omega)) (Below.refl _ _) (Nat.le_refl _) ?_; intro v166 w12 ho13 hb hg_ hnew_; clear hg_ hnew_; (first | rw [← Ny165.out] at ho13 | (simp only [Int.reduceToNat] at ho13; rw [← Ny165.out] at ho13)); have n0_ := Aside0.mk (Kd.R_elder' (by (with_reducible repeat (first | apply Kd.R_alloc | apply Kd.R_drewN | apply Kd.R_drew)); exact HO164.out) (Kd.R_base ho13) hb); have n1_ := Aside0.mk (Kd.R_lower (Kd.R_new' ho13 (Kd.R_lt (by (with_reducible repeat (first | apply Kd.R_alloc | apply Kd.R_drewN | apply Kd.R_drew)); exact HO164.out))) (below_size (by repeat (first | (with_reducible first | exact HB.out | apply below_alloc | apply pw_below_drewN | apply below_drew1) | exact HB.out)))); have n2_ := Aside0.mk (below_step (by repeat (first | (with_reducible first | exact HB.out | apply below_alloc | apply pw_below_drewN | apply below_drew1) | exact HB.out)) hb); clear HO164; clear HB; have HO164 := n0_; have HO167 := n1_; have HB := n2_; clear n0_ n1_ n2_; clear hb ho13) | ((with_reducible refine gate_dst (N := 29) rfl ?_); refine Kd.R_make k44 _ 44 rfl (N := 29) rfl 25 _ _ rfl (a0.size : Int) rfl rfl Try.underlying25 (.agg #[(.int .i64 0), (.int .i64 0), (.int .i64 0)]) 24 info44 rfl (by decide) (by omega) z44 (ok := fun _ => True) (okp := fun _ => True) (k44_mkM _ _ _ z44 ) (fun _ hk => hk) trivial (of_decide_eq_true (by first | (with_reducible assumption) | assumption)) (Nat.le_trans (Nat.mul_le_mul_right _ (of_decide_eq_true (by first | (with_reducible assumption) | assumption) : (a0.size : Int).toNat ≤ 11728124029610)) (by omega)) (Below.refl _ _) (Nat.le_refl _) ?_; intro v169 w14 ho15 hb hg_ hnew_; clear hg_ hnew_; (first | rw [← Ny168.out] at ho15 | (simp only [Int.reduceToNat] at ho15; rw [← Ny168.out] at ho15)); have n0_ := Aside0.mk (Kd.R_below (by (with_reducible repeat (first | apply Kd.R_alloc | apply Kd.R_drewN | apply Kd.R_drew)); exact HO164.out) hb); have n1_ := Aside0.mk (Kd.R_below (by (with_reducible repeat (first | apply Kd.R_alloc | apply Kd.R_drewN | apply Kd.R_drew)); exact HO167.out) hb); have n2_ := Aside0.mk (Kd.R_lower ho15 (below_size (by repeat (first | (with_reducible first | exact HB.out | apply below_alloc | apply pw_below_drewN | apply below_drew1) | exact HB.out)))); have n3_ := Aside0.mk (below_step (by repeat (first | (with_reducible first | exact HB.out | apply below_alloc | apply pw_below_drewN | apply below_drew1) | exact HB.out)) hb); clear HO164; clear HO167; clear HB; have HO164 := n0_; have HO167 := n1_; have HO170 := n2_; have HB := n3_; clear n0_ n1_ n2_ n3_; clear hb ho15))
            go_loopg [9] k (fun kq v9 w' => ∃ (x7_1 : List Int) (x8_1 : List (S44)) (x9_1 : Int), v9 = .int .i64 x9_1 ∧ Aside0 (impl_Cheapest.l0 kq a0 a1 t162 x7_1 x8_1 x9_1 = some (r1, r2)) ∧ Aside0 (kq ≤ k) ∧ Aside0 (Kd.R (Kd.int .i64) 3 w' w.heap.size (fun k_ => some k_ ≠ (v166 : Value).ownBlock) v163 t162) ∧ Aside0 (Kd.R (Kd.int .i64) 3 w' w.heap.size (fun k_ => some k_ ≠ (v163 : Value).ownBlock) v166 x7_1) ∧ Aside0 (Kd.R k44 44 w' w.heap.size (fun _ => True) v169 x8_1) ∧ Aside0 (Below w.heap.size w w'))
            case atStart => exact ⟨(y165), (y168), (wrap64 ((a0.size : Int) - 1)), (by first | rfl | (simp; done) | (simp [*]; done)), H', ⟨Nat.le_refl _⟩, ⟨by (with_reducible repeat (first | apply Kd.R_alloc | apply Kd.R_drewN | apply Kd.R_drew)); exact Kd.R_mono HO164.out (fun _ hk => hk.2)⟩, ⟨by (with_reducible repeat (first | apply Kd.R_alloc | apply Kd.R_drewN | apply Kd.R_drew)); exact Kd.R_mono HO167.out (fun _ hk => hk.2)⟩, ⟨by (with_reducible repeat (first | apply Kd.R_alloc | apply Kd.R_drewN | apply Kd.R_drew)); exact HO170.out⟩, ⟨by repeat (first | (with_reducible first | exact HB.out | apply below_alloc | apply pw_below_drewN | apply below_drew1) | exact HB.out)⟩⟩
            case round =>
              clear H'
              try clear c1
              try clear c2
              try clear p2
              try clear c3
              try clear c4
              try clear p6
              try clear c7
              try clear c7b0
              try clear c7b1
              try clear c8
              try clear c8b0
              try clear c8b1
              try clear c9
              try clear c9b0
              try clear c9b1
              try clear c10
              try clear c10b0
              try clear c10b1
              obtain ⟨x7_1, x8_1, x9_1, rfl, HA, HK1, HO_6, HO_7, HO_8, HB⟩ := hrel
              cases gk with
              | zero => exact absurd HA.out (by simp [impl_Cheapest.l0])
              | succ k1 =>
                have H := HA.out
                clear HA
                simp only [impl_Cheapest.l0] at H
                by_cases c16 : x9_1 ≥ 0
                · rw [if_pos c16] at H
                  have c16b0 : decide (0 ≤ x9_1) = true := decide_eq_true c16
                  clear c16
                  by_cases c17 : 0 ≤ x9_1
                  · rw [if_pos c17] at H
                    have c17b0 : decide (0 ≤ x9_1) = true := decide_eq_true c17
                    clear c17
                    by_cases c18 : x9_1 < (a0.size : Int)
                    · rw [if_pos c18] at H
                      have c18b0 : decide (x9_1 < (a0.size : Int)) = true := decide_eq_true c18
                      clear c18
                      by_cases c20 : x9_1 < (x8_1.length : Int)
                      · rw [if_pos c20] at H
                        have c20b0 : decide (x9_1 < (x8_1.length : Int)) = true := decide_eq_true c20
                        clear c20
                        obtain ⟨y171, hy171⟩ : ∃ y_ : List (S44), y_ = (x8_1.set (x9_1 : Int).toNat (⟨wrap64 (bt a0 x9_1), 0, 0⟩ : S44)) := ⟨_, rfl⟩
                        replace H : ((impl_costOf.f k1 ((rd_T44 y171 x9_1).f0) ((rd_T44 y171 x9_1).f1) ((rd_T44 y171 x9_1).f2)).bind fun t173 => (if 0 ≤ (wrap64 (x9_1 + 1)) then (if (wrap64 (x9_1 + 1)) < (x7_1.length : Int) then (if x9_1 < (x7_1.length : Int) then ((impl_best.f k1 a0 t162 x9_1 a1).bind fun bt176 => (impl_Cheapest.l1 k1 a0 a1 t162 (x7_1.set (x9_1 : Int).toNat (wrap64 (t173 + (rd x7_1 (wrap64 (x9_1 + 1)))))) y171 x9_1 bt176.1 bt176.2 3)) else (none)) else (none)) else (none))) = some (r1, r2) := by first | (rw [hy171]; with_reducible exact H) | (have H2_ := (Option.bind_some _ _).symm.trans H; rw [hy171]; with_reducible exact H2_) | (have H2_ := (Option.bind_some _ _).symm.trans H; with_reducible exact H2_) | with_reducible exact H | (rw [hy171]; exact H) | exact H
                        have Ny171 := Aside0.mk hy171
                        clear hy171
                        replace H := Option.bind_eq_some_iff.mp H
                        obtain ⟨t173, A220, H⟩ := H
                        replace H : (if 0 ≤ (wrap64 (x9_1 + 1)) then (if (wrap64 (x9_1 + 1)) < (x7_1.length : Int) then (if x9_1 < (x7_1.length : Int) then ((impl_best.f k1 a0 t162 x9_1 a1).bind fun bt176 => (impl_Cheapest.l1 k1 a0 a1 t162 (x7_1.set (x9_1 : Int).toNat (wrap64 (t173 + (rd x7_1 (wrap64 (x9_1 + 1)))))) y171 x9_1 bt176.1 bt176.2 3)) else (none)) else (none)) else (none)) = some (r1, r2) := H
                        have A22 := Aside0.mk A220
                        clear A220
                        obtain ⟨ji23, hji23⟩ : ∃ j_ : Int, (wrap64 (x9_1 + 1)) = j_ := ⟨_, rfl⟩
                        replace H : (if 0 ≤ (ji23) then (if (ji23) < (x7_1.length : Int) then (if x9_1 < (x7_1.length : Int) then ((impl_best.f k1 a0 t162 x9_1 a1).bind fun bt176 => (impl_Cheapest.l1 k1 a0 a1 t162 (x7_1.set (x9_1 : Int).toNat (wrap64 (t173 + (rd x7_1 (ji23))))) y171 x9_1 bt176.1 bt176.2 3)) else (none)) else (none)) else (none)) = some (r1, r2) := by first | (rw [hji23] at H; exact H) | (simp only [hji23] at H ⊢; exact H)
                        (try rw [hji23] at A22)
                        have hji23w : (IntKind.i64.wrap (x9_1 + 1)) = ji23 := (i64_w _).trans hji23
                        by_cases c24 : 0 ≤ (ji23)
                        · rw [if_pos c24] at H
                          have c24b0 : decide (0 ≤ (ji23)) = true := decide_eq_true c24
                          clear c24
                          by_cases c25 : (ji23) < (x7_1.length : Int)
                          · rw [if_pos c25] at H
                            have c25b0 : decide ((ji23) < (x7_1.length : Int)) = true := decide_eq_true c25
                            clear c25
                            by_cases c26 : x9_1 < (x7_1.length : Int)
                            · rw [if_pos c26] at H
                              have c26b0 : decide (x9_1 < (x7_1.length : Int)) = true := decide_eq_true c26
                              clear c26
                              obtain ⟨y175, hy175⟩ : ∃ y_ : List Int, y_ = (x7_1.set (x9_1 : Int).toNat (wrap64 (t173 + (rd x7_1 (ji23))))) := ⟨_, rfl⟩
                              replace H : ((impl_best.f k1 a0 t162 x9_1 a1).bind fun bt176 => (impl_Cheapest.l1 k1 a0 a1 t162 y175 y171 x9_1 bt176.1 bt176.2 3)) = some (r1, r2) := by first | (rw [hy175]; with_reducible exact H) | (have H2_ := (Option.bind_some _ _).symm.trans H; rw [hy175]; with_reducible exact H2_) | (have H2_ := (Option.bind_some _ _).symm.trans H; with_reducible exact H2_) | with_reducible exact H | (rw [hy175]; exact H) | exact H
                              have Ny175 := Aside0.mk hy175
                              clear hy175
                              replace H := Option.bind_eq_some_iff.mp H
                              obtain ⟨⟨t176, t177⟩, A280, H⟩ := H
                              replace H : (impl_Cheapest.l1 k1 a0 a1 t162 y175 y171 x9_1 t176 t177 3) = some (r1, r2) := H
                              have A28 := Aside0.mk A280
                              clear A280
                              have H' := Aside0.mk H
                              clear H
                              have p19 : 0 ≤ (x9_1 : Int) := of_decide_eq_true (by first | (with_reducible assumption) | assumption)
                              have q19 : x9_1 < (a0.size : Int) := of_decide_eq_true (by first | (with_reducible assumption) | assumption)
                              have hx19 := bt_at a0 x9_1
                              replace p19 := eq_true p19
                              replace q19 := eq_true q19
                              have p21 : 0 ≤ (x9_1 : Int) := of_decide_eq_true (by first | (with_reducible assumption) | assumption)
                              have q21 : (x9_1 : Int) < ((x8_1.length : Int) : Int) := of_decide_eq_true (by first | (with_reducible assumption) | assumption)
                              obtain ⟨go21, co21, eo21, gb21, gl21, cl21, HG21⟩ := Kd.R_form HO_8.out (by omega)
                              (first | cases eo21 | (injection eo21 with ea_ en_ ec_; (first | subst ea_ | (injection ea_ with ea_; subst ea_)); subst ec_; clear en_))
                              have GB21 := Aside0.mk gb21
                              have GG21 := Aside0.mk HG21
                              clear gb21 gl21 HG21
                              obtain ⟨ce21, hcl21, hM21, hcc21, hfr21⟩ := Kd.R_elem HO_8.out z44 (x9_1 : Int) p21 q21
                              obtain rfl := k44_openM hM21
                              have hx21_0 : wr.cell? ⟨go21, (x9_1 : Int).toNat * 3, none⟩ = some (.int .i64 ((rd_T44 x8_1 x9_1).f0)) := hcc21 0 _ rfl
                              have hx21_1 : wr.cell? ⟨go21, (x9_1 : Int).toNat * 3 + 1, none⟩ = some (.int .i64 ((rd_T44 x8_1 x9_1).f1)) := hcc21 1 _ rfl
                              have hx21_2 : wr.cell? ⟨go21, (x9_1 : Int).toNat * 3 + 2, none⟩ = some (.int .i64 ((rd_T44 x8_1 x9_1).f2)) := hcc21 2 _ rfl
                              have hf21_0 : wr.frozen? ⟨go21, (x9_1 : Int).toNat * 3, none⟩ = false := hfr21 0
                              have hf21_1 : wr.frozen? ⟨go21, (x9_1 : Int).toNat * 3 + 1, none⟩ = false := hfr21 1
                              have hf21_2 : wr.frozen? ⟨go21, (x9_1 : Int).toNat * 3 + 2, none⟩ = false := hfr21 2
                              clear hcl21 hcc21 hfr21 hM21
                              replace p21 := eq_true p21
                              replace q21 := eq_true q21
                              have HX29 := Aside0.mk (show Kd.R k44 44 wr w.heap.size (fun _ => True) (.slice (some ⟨go21, 0, none⟩) x8_1.length co21) x8_1 from (by (with_reducible repeat (first | apply Kd.R_alloc | apply Kd.R_drewN | apply Kd.R_drew)); exact HO_8.out))
                              obtain ⟨ce29, hcl29, hM29, hcc29, hfr29⟩ := Kd.R_elem HX29.out z44 (x9_1 : Int) (of_decide_eq_true (by first | (with_reducible assumption) | assumption)) (by have h_ : (x9_1 : Int) < ((x8_1.length : Int) : Int) := of_decide_eq_true (by first | (with_reducible assumption) | assumption); first | exact h_ | (have e_ := (Kd.R_reads' HO_8.out).1; omega) | simpa using h_)
                              obtain rfl := k44_openM hM29
                              have HP29 := Kd.R_seg HX29.out (x9_1 : Int) (of_decide_eq_true (by first | (with_reducible assumption) | assumption)) (by have h_ : (x9_1 : Int) < ((x8_1.length : Int) : Int) := of_decide_eq_true (by first | (with_reducible assumption) | assumption); first | exact h_ | (have e_ := (Kd.R_reads' HO_8.out).1; omega) | simpa using h_) (seg := [.int .i64 (wrap64 (bt a0 x9_1)), .int .i64 0, .int .i64 0]) (j := 0) hcl29 hcc29 (show 3 ≤ 3 from by decide) (x' := (⟨wrap64 (bt a0 x9_1), 0, 0⟩ : S44)) (k44_mkM _ _ _ (⟨wrap64 (bt a0 x9_1), 0, 0⟩ : S44) ) (fun _ hk => hk)
                              have hx29_0 := hcc29 0 _ rfl
                              (try simp only [show (k44).sz = 3 from rfl, Nat.mul_one, Nat.add_zero] at hx29_0)
                              have hf29_0 := hfr29 0
                              (try simp only [show (k44).sz = 3 from rfl, Nat.mul_one, Nat.add_zero] at hf29_0)
                              have hx29_1 := hcc29 1 _ rfl
                              (try simp only [show (k44).sz = 3 from rfl, Nat.mul_one, Nat.add_zero] at hx29_1)
                              have hf29_1 := hfr29 1
                              (try simp only [show (k44).sz = 3 from rfl, Nat.mul_one, Nat.add_zero] at hf29_1)
                              have hx29_2 := hcc29 2 _ rfl
                              (try simp only [show (k44).sz = 3 from rfl, Nat.mul_one, Nat.add_zero] at hx29_2)
                              have hf29_2 := hfr29 2
                              (try simp only [show (k44).sz = 3 from rfl, Nat.mul_one, Nat.add_zero] at hf29_2)
                              clear hcl29 hcc29 hfr29 hM29
                              try go_wp2_with (first | ((with_reducible refine gate_store (t := 44) (p := 44) rfl ?_); refine store_event (t := 44) (p := 44) (v := ?vo_w30) (w1 := (((wr.setCell ⟨go21, (x9_1 : Int).toNat * 3, none⟩ (.int .i64 (wrap64 (bt a0 x9_1)))).setCell ⟨go21, (x9_1 : Int).toNat * 3 + 1, none⟩ (.int .i64 0)).setCell ⟨go21, (x9_1 : Int).toNat * 3 + 2, none⟩ (.int .i64 0))) ?hg ?ho ?hn ?hr ?_; (case ho => rfl); (case hg => rfl); (case hn => rfl); (case hr => first | (go_simp; done) | (go_simp; rfl)); intro w30 hw; have hg : wr.grownBy w30 (some go21) := (by rw [hw]; exact HP29.2); have hp_ : Kd.R k44 44 w30 w.heap.size (fun _ => True) (.slice (some ⟨go21, 0, none⟩) x8_1.length co21) y171 := (by rw [hw, Ny171.out]; exact HP29.1); clear HP29; have n0_ := Aside0.mk (Kd.R_over' (v := (.slice (some ⟨go21, 0, none⟩) x8_1.length co21)) (by (with_reducible repeat (first | apply Kd.R_alloc | apply Kd.R_drewN | apply Kd.R_drew)); exact HO_6.out) (Kd.R_typed HO_8.out) (by decide) hg); have n1_ := Aside0.mk (Kd.R_over' (v := (.slice (some ⟨go21, 0, none⟩) x8_1.length co21)) (by (with_reducible repeat (first | apply Kd.R_alloc | apply Kd.R_drewN | apply Kd.R_drew)); exact HO_7.out) (Kd.R_typed HO_8.out) (by decide) hg); have n2_ := Aside0.mk (hp_); have n3_ := Aside0.mk ((by rw [hw]; exact below_set (below_set (below_set (HB.out) GB21.out) GB21.out) GB21.out : Below w.heap.size w w30)); clear HO_6; clear HO_7; clear HO_8; clear HB; have HO_6 := n0_; have HO_7 := n1_; have HO_8 := n2_; have HB := n3_; clear n0_ n1_ n2_ n3_; clear hg hw hp_))
                              have n0_ := Aside0.mk (Kd.R_drew HO_6.out)
                              have n1_ := Aside0.mk (Kd.R_drew HO_7.out)
                              have n2_ := Aside0.mk (Kd.R_drew HO_8.out)
                              have n3_ := Aside0.mk (below_drew1 HB.out)
                              clear HO_6
                              clear HO_7
                              clear HO_8
                              clear HB
                              have HO_6 := n0_
                              have HO_7 := n1_
                              have HO_8 := n2_
                              have HB := n3_
                              clear n0_ n1_ n2_ n3_
                              have p172 : 0 ≤ (x9_1 : Int) := of_decide_eq_true (by first | (with_reducible assumption) | assumption)
                              have q172 : x9_1 < (y171.length : Int) := (by have h_ : (x9_1 : Int) < ((x8_1.length : Int) : Int) := of_decide_eq_true (by first | (with_reducible assumption) | assumption); first | (have e_ := (Kd.R_reads' HO_8.out).1; omega) | simpa only [Ny171.out, List.length_set] using h_)
                              have ql172 : ((x9_1 : Int) < ((x8_1.length : Int) : Int)) = True := eq_true (of_decide_eq_true (by first | (with_reducible assumption) | assumption))
                              obtain ⟨ad172, e172, hx172_0, hx172_1, hx172_2⟩ := at_T44 (Kd.R_reads' HO_8.out).2.2 x9_1 p172 q172
                              obtain rfl : (⟨go21, 0, none⟩ : Addr) = ad172 := (by injection e172)
                              (first | simp only [add_plain] at hx172_0 | simp only [add_at] at hx172_0 | simp only [Addr.add, Nat.zero_add] at hx172_0 | skip)
                              (first | simp only [add_plain] at hx172_1 | simp only [add_at] at hx172_1 | simp only [Addr.add, Nat.zero_add] at hx172_1 | skip)
                              (first | simp only [add_plain] at hx172_2 | simp only [add_at] at hx172_2 | simp only [Addr.add, Nat.zero_add] at hx172_2 | skip)
                              replace p172 := eq_true p172
                              replace q172 := eq_true q172
                              obtain ⟨Ao32, co32, eo32⟩ := Kd.R_slice HO_7.out
                              (first | subst eo32 | (injection eo32 with f1_ f2_ f3_; have f4_ := f1_.symm; have f5_ := f3_.symm; clear f1_ f2_ f3_; subst f4_; subst f5_))
                              have p174 : 0 ≤ ((ji23) : Int) := of_decide_eq_true (by first | (with_reducible assumption) | assumption)
                              have q174 : (ji23) < (x7_1.length : Int) := of_decide_eq_true (by first | (with_reducible assumption) | assumption)
                              obtain ⟨ad174, e174, hx174_0⟩ := Kd.at_int (Kd.R_reads' HO_7.out).2.2 (ji23) p174 q174
                              cases e174
                              replace p174 := eq_true p174
                              replace q174 := eq_true q174
                              refine start_ (n := 15) (S := fun w' => w'.cell? ⟨go21, (x9_1).toNat * 3, none⟩ = some (.int .i64 ((rd_T44 y171 x9_1).f0)) ∧ w'.cell? ⟨go21, (x9_1).toNat * 3 + 1, none⟩ = some (.int .i64 ((rd_T44 y171 x9_1).f1)) ∧ w'.cell? ⟨go21, (x9_1).toNat * 3 + 2, none⟩ = some (.int .i64 ((rd_T44 y171 x9_1).f2)) ∧ w'.cell? (ad174.add ((ji23)).toNat) = some (.int .i64 (rd x7_1 (ji23)))) (ds := [14]) #[false, false, false, false, false, false, false, false, false, false, false, false, false, false, false] (by kernel_rfl) rfl rfl ⟨hx172_0, hx172_1, hx172_2, hx174_0⟩ (fun hHeld => ?_); refine with_tabW impl_Cheapest.tab10 impl_Cheapest.bits10 (fun HT_ HW_ => ?_)
                              generalize w30.drew = w31 at HO_6 HO_7 HO_8 HB hx172_0 hx172_1 hx172_2 hx174_0 hHeld ⊢
                              refine pure_ (i := 0) (N := some 45) (v := ?_) (a' := ?_) #[true, false, false, false, false, false, false, false, false, false, false, false, false, false, false] rfl rfl (any_of HT_.out (by kernel_rfl)) (fun _ _ _ h => h) (Or.inl ⟨by rfl, ?_⟩) ?_ ?_
                              rotate_left
                              · intro w'
                                go_simp
                                with_reducible rfl
                              rotate_left
                              · simp only [Act.put, List.setIfInBounds_toArray, List.set_cons_zero, List.set_cons_succ, i64_w, i32_w]
                                rfl
                              refine pure_ (i := 1) (N := some 46) (v := ?_) (a' := ?_) #[true, true, false, false, false, false, false, false, false, false, false, false, false, false, false] rfl rfl (any_of HT_.out (by kernel_rfl)) (fun _ _ _ h => h) (Or.inl ⟨by rfl, ?_⟩) ?_ ?_
                              rotate_left
                              · intro w'
                                go_simp
                                with_reducible rfl
                              rotate_left
                              · simp only [Act.put, List.setIfInBounds_toArray, List.set_cons_zero, List.set_cons_succ, i64_w, i32_w]
                                rfl
                              refine pure_ (i := 2) (N := some 47) (v := ?_) (a' := ?_) #[true, true, true, false, false, false, false, false, false, false, false, false, false, false, false] rfl rfl (any_of HT_.out (by kernel_rfl)) (fun _ _ _ h => h) (Or.inl ⟨by rfl, ?_⟩) ?_ ?_
                              rotate_left
                              · intro w'
                                go_simp
                                with_reducible rfl
                              rotate_left
                              · simp only [Act.put, List.setIfInBounds_toArray, List.set_cons_zero, List.set_cons_succ, i64_w, i32_w]
                                rfl
                              refine pure_ (i := 3) (N := some 48) (v := ?_) (a' := ?_) #[true, true, true, true, false, false, false, false, false, false, false, false, false, false, false] rfl rfl (any_of HT_.out (by kernel_rfl)) (fun _ _ _ h => h) (Or.inl ⟨by rfl, ?_⟩) ?_ ?_
                              rotate_left
                              · intro w'
                                go_simp
                                with_reducible rfl
                              rotate_left
                              · simp only [Act.put, List.setIfInBounds_toArray, List.set_cons_zero, List.set_cons_succ, i64_w, i32_w]
                                rfl
                              refine pure_ (i := 4) (N := some 49) (v := ?_) (a' := ?_) #[true, true, true, true, true, false, false, false, false, false, false, false, false, false, false] rfl rfl (any_of HT_.out (by kernel_rfl)) (fun _ _ _ h => h) (Or.inl ⟨by rfl, ?_⟩) ?_ ?_
                              rotate_left
                              · intro w'
                                go_simp
                                with_reducible rfl
                              rotate_left
                              · simp only [Act.put, List.setIfInBounds_toArray, List.set_cons_zero, List.set_cons_succ, i64_w, i32_w]
                                rfl
                              refine pure_ (i := 7) (N := some 52) (v := ?_) (a' := ?_) #[true, true, true, true, true, false, false, true, false, false, false, false, false, false, false] rfl rfl (any_of HT_.out (by kernel_rfl)) (fun _ _ _ h => h) (Or.inl ⟨by rfl, ?_⟩) ?_ ?_
                              rotate_left
                              · intro w'
                                go_simp
                                with_reducible rfl
                              rotate_left
                              · simp only [Act.put, List.setIfInBounds_toArray, List.set_cons_zero, List.set_cons_succ, i64_w, i32_w]
                                rfl
                              refine pure_ (i := 8) (N := some 53) (v := ?_) (a' := ?_) #[true, true, true, true, true, false, false, true, true, false, false, false, false, false, false] rfl rfl (any_of HT_.out (by kernel_rfl)) (fun _ _ _ h => h) (Or.inl ⟨by rfl, ?_⟩) ?_ ?_
                              rotate_left
                              · intro w'
                                go_simp
                                with_reducible rfl
                              rotate_left
                              · simp only [Act.put, List.setIfInBounds_toArray, List.set_cons_zero, List.set_cons_succ, i64_w, i32_w]
                                rfl
                              refine pure_ (i := 9) (N := some 54) (v := ?_) (a' := ?_) #[true, true, true, true, true, false, false, true, true, true, false, false, false, false, false] rfl rfl (any_of HT_.out (by kernel_rfl)) (fun _ _ _ h => h) (Or.inl ⟨by rfl, ?_⟩) ?_ ?_
                              rotate_left
                              · intro w'
                                go_simp
                                with_reducible rfl
                              rotate_left
                              · simp only [Act.put, List.setIfInBounds_toArray, List.set_cons_zero, List.set_cons_succ, i64_w, i32_w]
                                rfl
                              refine pure_ (i := 10) (N := some 55) (v := ?_) (a' := ?_) #[true, true, true, true, true, false, false, true, true, true, true, false, false, false, false] rfl rfl (any_of HT_.out (by kernel_rfl)) (fun _ _ _ h => h) (Or.inl ⟨by rfl, ?_⟩) ?_ ?_
                              rotate_left
                              · intro w'
                                go_simp
                                with_reducible rfl
                              rotate_left
                              · simp only [Act.put, List.setIfInBounds_toArray, List.set_cons_zero, List.set_cons_succ, i64_w, i32_w]
                                rfl
                              refine take_ (i := 5) (N := some 50) (v := ?_) (a' := ?_) #[true, true, true, true, true, true, false, true, true, true, true, false, false, false, false] rfl rfl (take_ofW HT_.out HW_.out (by kernel_rfl)) (fun _ _ _ h => h) (Or.inl ⟨by rfl, ?_⟩) hHeld ?_ ?_
                              rotate_left
                              · rintro w' ⟨s0, s1, s2, s3⟩
                                go_simp
                                with_reducible rfl
                              rotate_left
                              · simp only [Act.put, List.setIfInBounds_toArray, List.set_cons_zero, List.set_cons_succ, i64_w, i32_w]
                                rfl
                              refine take_ (i := 11) (N := some 56) (v := ?_) (a' := ?_) #[true, true, true, true, true, true, false, true, true, true, true, true, false, false, false] rfl rfl (take_ofW HT_.out HW_.out (by kernel_rfl)) (fun _ _ _ h => h) (Or.inl ⟨by rfl, ?_⟩) hHeld ?_ ?_
                              rotate_left
                              · rintro w' ⟨s0, s1, s2, s3⟩
                                go_simp
                                with_reducible rfl
                              rotate_left
                              · simp only [Act.put, List.setIfInBounds_toArray, List.set_cons_zero, List.set_cons_succ, i64_w, i32_w]
                                rfl
                              refine one_ (i := 6) (N := some 51) #[true, true, true, true, true, true, true, true, true, true, true, true, false, false, false] rfl rfl (one_of HT_.out (by kernel_rfl)) (by decide) (fun K hK => ?_)
                              refine goes_ Try.func35 (by kernel_rfl) rfl #[.agg #[.int .i64 ((rd_T44 y171 x9_1).f0), .int .i64 ((rd_T44 y171 x9_1).f1), .int .i64 ((rd_T44 y171 x9_1).f2)]] (by rfl) rfl rfl (by (try simp only [List.map_toArray, List.map_cons, List.map_nil]); first | done | rfl | (simp only [List.length_drop, List.length_take]; rfl)) ?_
                              with_reducible refine (impl_costOf.calls k1 ((rd_T44 y171 x9_1).f0) ((rd_T44 y171 x9_1).f1) ((rd_T44 y171 x9_1).f2) t173 _ A22.out).mono ?_
                              rintro e w33 ⟨rfl, hb⟩
                              have HS0_ := (hb.cell (World.block_lt_of_cell? _ _ (hHeld.1))).trans (hHeld.1)
                              have HS1_ := (hb.cell (World.block_lt_of_cell? _ _ (hHeld.2.1))).trans (hHeld.2.1)
                              have HS2_ := (hb.cell (World.block_lt_of_cell? _ _ (hHeld.2.2.1))).trans (hHeld.2.2.1)
                              have HS3_ := (hb.cell (World.block_lt_of_cell? _ _ (hHeld.2.2.2))).trans (hHeld.2.2.2)
                              refine ⟨_, rfl, ?_⟩
                              have n0_ := Aside0.mk (Kd.R_below (by (with_reducible repeat (first | apply Kd.R_alloc | apply Kd.R_drewN | apply Kd.R_drew)); exact HO_6.out) hb)
                              have n1_ := Aside0.mk (Kd.R_below (by (with_reducible repeat (first | apply Kd.R_alloc | apply Kd.R_drewN | apply Kd.R_drew)); exact HO_7.out) hb)
                              have n2_ := Aside0.mk (Kd.R_below (by (with_reducible repeat (first | apply Kd.R_alloc | apply Kd.R_drewN | apply Kd.R_drew)); exact HO_8.out) hb)
                              have n3_ := Aside0.mk (below_step (by repeat (first | (with_reducible first | exact HB.out | apply below_alloc | apply pw_below_drewN | apply below_drew1) | exact HB.out)) hb)
                              clear HO_6
                              clear HO_7
                              clear HO_8
                              clear HB
                              have HO_6 := n0_
                              have HO_7 := n1_
                              have HO_8 := n2_
                              have HB := n3_
                              clear n0_ n1_ n2_ n3_
                              (try clear hb)
                              (try clear hb2)
                              (try clear hk)
                              (try clear hi)
                              have p27 : 0 ≤ (x9_1 : Int) := of_decide_eq_true (by first | (with_reducible assumption) | assumption)
                              have q27 : (x9_1 : Int) < ((x7_1.length : Int) : Int) := of_decide_eq_true (by first | (with_reducible assumption) | assumption)
                              obtain ⟨go27, co27, eo27, gb27, gl27, cl27, HG27⟩ := Kd.R_form HO_7.out (by omega)
                              (first | cases eo27 | (injection eo27 with ea_ en_ ec_; (first | subst ea_ | (injection ea_ with ea_; subst ea_)); subst ec_; clear en_))
                              have GB27 := Aside0.mk gb27
                              have GG27 := Aside0.mk HG27
                              clear gb27 gl27 HG27
                              (first | simp only [add_plain] at hx174_0 | skip)
                              obtain ⟨hx27_0, hf27_0⟩ := Kd.R_celln 0 HO_7.out (x9_1 : Int) p27 q27
                              replace p27 := eq_true p27
                              replace q27 := eq_true q27
                              have HP34 := Kd.R_putn HO_7.out (x9_1 : Int) (wrap64 (t173 + (rd x7_1 (ji23))))
                              rw [← Ny175.out] at HP34
                              have HQ34 := Aside0.mk HP34
                              clear HP34
                              refine hK.out _ _ ⟨HS0_, HS1_, HS2_, HS3_⟩ (fun hHeld => ?_)
                              clear hK K
                              refine norm_ (a' := ?_) ?_ ?_
                              rotate_left
                              · show Act.put _ (some 51) _ = _
                                simp only [Act.put, List.setIfInBounds_toArray, List.set_cons_zero, List.set_cons_succ, i64_w, i32_w]
                                rfl
                              refine pure_ (i := 12) (N := some 57) (v := ?_) (a' := ?_) #[true, true, true, true, true, true, true, true, true, true, true, true, true, false, false] rfl rfl (any_of HT_.out (by kernel_rfl)) (fun _ _ _ h => h) (Or.inl ⟨by rfl, ?_⟩) ?_ ?_
                              rotate_left
                              · intro w'
                                go_simp
                                with_reducible rfl
                              rotate_left
                              · simp only [Act.put, List.setIfInBounds_toArray, List.set_cons_zero, List.set_cons_succ, i64_w, i32_w]
                                rfl
                              refine pure_ (i := 13) (N := some 58) (v := ?_) (a' := ?_) #[true, true, true, true, true, true, true, true, true, true, true, true, true, true, false] rfl rfl (any_of HT_.out (by kernel_rfl)) (fun _ _ _ h => h) (Or.inl ⟨by rfl, ?_⟩) ?_ ?_
                              rotate_left
                              · intro w'
                                go_simp
                                with_reducible rfl
                              rotate_left
                              · simp only [Act.put, List.setIfInBounds_toArray, List.set_cons_zero, List.set_cons_succ, i64_w, i32_w]
                                rfl
                              refine last_ (i := 14) (N := none) #[true, true, true, true, true, true, true, true, true, true, true, true, true, true, true] rfl rfl (one_of HT_.out (by kernel_rfl)) (by decide) (fun K hK => ?_)
                              refine skip_ (w1 := ?_) (by rfl) rfl ?_ ?_
                              rotate_left
                              · go_simp
                                rfl
                              refine hK.out _ _ ?_
                              clear hK K
                              refine done_ (done_of HT_.out (by kernel_rfl)) ?_
                              obtain ⟨Ao35, co35, eo35⟩ := Kd.R_slice HO_6.out
                              subst eo35
                              try go_wp2_with (first | ((with_reducible refine gate_callee (f := 29) rfl ?_); refine goesL_ (some 64) rfl rfl Try.func29 (by kernel_rfl) rfl #[.string a0, .slice Ao35 t162.length co35, .int .i64 x9_1, .int .i64 a1] rfl (by (try simp only [List.map_toArray, List.map_cons, List.map_nil]); first | done | rfl | (simp only [List.length_drop, List.length_take]; rfl)) ?_; (with_reducible refine (impl_best.calls k1 a0 _ _ t162 x9_1 a1 t176 t177 _ ?side1 ?side2 A28.out).mono ?_); (case side1 => refine (Kd.R_reads' (e := 3) (base := w.heap.size) (ok := fun k_ => some k_ ≠ (.slice (some ⟨go27, 0, none⟩) x7_1.length co32 : Value).ownBlock) (n := t162.length) (c := co35) ?_).2.2; exact (by (with_reducible repeat (first | apply Kd.R_alloc | apply Kd.R_drewN | apply Kd.R_drew)); exact (Kd.R_mono (Kd.R_far (p := ⟨go27, (x9_1 : Int).toNat, none⟩) (Kd.R_mono HO_6.out (fun k_ hk => (⟨hk, fun e_ => hk (by rw [e_]; rfl)⟩ : _ ∧ k_ ≠ go27))) (fun _ hk => hk.2) (.int .i64 (wrap64 (t173 + (rd x7_1 (ji23)))))) (fun _ h_ => h_.1)))); (case side2 => exact (Kd.R_reads' HO_6.out).2.1); rintro e w' ⟨rfl, ⟨nd, rfl⟩⟩; refine ⟨_, rfl, ?_⟩))
                              go_loopg [12] k1 (fun kq v12 w' => ∃ (x7_2 : List Int) (x8_2 : List (S44)) (x12_2 : Int), v12 = .int .i64 x12_2 ∧ Aside0 (impl_Cheapest.l1 kq a0 a1 t162 x7_2 x8_2 x9_1 t176 t177 x12_2 = some (r1, r2)) ∧ Aside0 (kq ≤ k1) ∧ Aside0 (Kd.R (Kd.int .i64) 3 w' w.heap.size (fun k_ => some k_ ≠ ((.slice (some ⟨go27, 0, none⟩) x7_1.length co32) : Value).ownBlock) (.slice Ao35 t162.length co35) t162) ∧ Aside0 (Kd.R (Kd.int .i64) 3 w' w.heap.size (fun k_ => some k_ ≠ ((.slice Ao35 t162.length co35) : Value).ownBlock) (.slice (some ⟨go27, 0, none⟩) x7_1.length co32) x7_2) ∧ Aside0 (Kd.R k44 44 w' w.heap.size (fun _ => True) (.slice (some ⟨go21, 0, none⟩) x8_1.length co21) x8_2) ∧ Aside0 (Below w.heap.size w w'))
                              case atStart => exact ⟨(y175), (y171), (3), (by first | rfl | (simp; done) | (simp [*]; done)), H', ⟨Nat.le_refl _⟩, ⟨by (with_reducible repeat (first | apply Kd.R_alloc | apply Kd.R_drewN | apply Kd.R_drew)); exact Kd.R_mono (Kd.R_far (p := ⟨go27, (x9_1 : Int).toNat, none⟩) (Kd.R_mono HO_6.out (fun k_ hk => (⟨hk, fun e_ => hk (by rw [e_]; rfl)⟩ : _ ∧ k_ ≠ go27))) (fun _ hk => hk.2) (.int .i64 (wrap64 (t173 + (rd x7_1 (ji23)))))) (fun _ hk => hk.1)⟩, ⟨by (with_reducible repeat (first | apply Kd.R_alloc | apply Kd.R_drewN | apply Kd.R_drew)); exact HQ34.out⟩, ⟨by (with_reducible repeat (first | apply Kd.R_alloc | apply Kd.R_drewN | apply Kd.R_drew)); exact Kd.R_mono (Kd.R_far (p := ⟨go27, (x9_1 : Int).toNat, none⟩) (Kd.R_mono (Kd.R_apart' HO_8.out (Kd.R_typed HO_7.out) (by decide)) (fun k_ hk => (⟨hk.1, fun e_ => hk.2 (by rw [e_]; rfl)⟩ : _ ∧ k_ ≠ go27))) (fun _ hk => hk.2) (.int .i64 (wrap64 (t173 + (rd x7_1 (ji23)))))) (fun _ hk => trivial)⟩, ⟨by repeat (first | (with_reducible first | exact HB.out | apply below_alloc | apply pw_below_drewN | apply below_drew1 | refine below_set ?_ GB27.out) | exact HB.out)⟩⟩
                              case round =>
                                clear H'
                                try clear c1
                                try clear p1
                                try clear q1
                                try clear hx1
                                try clear c2
                                try clear p2
                                try clear q2
                                try clear hx2
                                try clear hf2
                                try clear c3
                                try clear c4
                                try clear p6
                                try clear c7
                                try clear c7b0
                                try clear c7b1
                                try clear c8
                                try clear c8b0
                                try clear c8b1
                                try clear c9
                                try clear c9b0
                                try clear c9b1
                                try clear c10
                                try clear c10b0
                                try clear c10b1
                                try clear c16
                                try clear c16b0
                                try clear c17
                                try clear c17b0
                                try clear p17
                                try clear q17
                                try clear hx17
                                try clear c18
                                try clear c18b0
                                try clear c19
                                try clear p19
                                try clear q19
                                try clear hx19
                                try clear c20
                                try clear c20b0
                                try clear c21
                                try clear p21
                                try clear q21
                                try clear hx21
                                try clear hf21
                                try clear c24
                                try clear c24b0
                                try clear c25
                                try clear c25b0
                                try clear c26
                                try clear c26b0
                                try clear c27
                                try clear p27
                                try clear q27
                                try clear hx27
                                try clear hf27
                                try clear c29
                                try clear hx29
                                try clear hf29
                                try clear c30
                                try clear c35
                                try clear hx172_0
                                try clear hx172_1
                                try clear hx172_2
                                try clear hx174_0
                                try clear hx21_0
                                try clear hx21_1
                                try clear hx21_2
                                try clear hx27_0
                                try clear hx29_0
                                try clear hx29_1
                                try clear hx29_2
                                try clear p172
                                try clear p174
                                try clear p19
                                try clear p2
                                try clear p21
                                try clear p27
                                try clear p6
                                try clear q172
                                try clear q174
                                try clear q19
                                try clear q21
                                try clear q27
                                obtain ⟨x7_2, x8_2, x12_2, rfl, HA, HK2, HO_6, HO_7, HO_8, HB⟩ := hrel
                                have hl7_2 := (Kd.R_reads' HO_7.out).1
                                rw [hl7_2] at HO_7
                                (try simp only [hl7_2])
                                (try simp only [hl7_2] at HO_6)
                                (try simp only [hl7_2] at HO_8)
                                have hl8_2 := (Kd.R_reads' HO_8.out).1
                                rw [hl8_2] at HO_8
                                (try simp only [hl8_2])
                                (try simp only [hl8_2] at HO_6)
                                (try simp only [hl8_2] at HO_7)
                                cases gk with
                                | zero => exact absurd HA.out (by simp [impl_Cheapest.l1])
                                | succ k2 =>
                                  have H := HA.out
                                  clear HA
                                  simp only [impl_Cheapest.l1] at H
                                  by_cases c36 : x12_2 ≤ t176
                                  · rw [if_pos c36] at H
                                    have c36b0 : decide (x12_2 ≤ t176) = true := decide_eq_true c36
                                    clear c36
                                    replace H := Option.bind_eq_some_iff.mp H
                                    obtain ⟨t179, A370, H⟩ := H
                                    replace H : (if 0 ≤ (wrap64 (x9_1 + x12_2)) then (if (wrap64 (x9_1 + x12_2)) < (x7_2.length : Int) then (if 0 ≤ x9_1 then (if x9_1 < (x7_2.length : Int) then (if (wrap64 (t179 + (rd x7_2 (wrap64 (x9_1 + x12_2))))) < (rd x7_2 x9_1) then (if x9_1 < (x8_2.length : Int) then (impl_Cheapest.l1 k2 a0 a1 t162 (x7_2.set (x9_1 : Int).toNat (wrap64 (t179 + (rd x7_2 (wrap64 (x9_1 + x12_2)))))) (x8_2.set (x9_1 : Int).toNat (⟨0, x12_2, t177⟩ : S44)) x9_1 t176 t177 (wrap64 (x12_2 + 1))) else (none)) else (impl_Cheapest.l1 k2 a0 a1 t162 x7_2 x8_2 x9_1 t176 t177 (wrap64 (x12_2 + 1)))) else (none)) else (none)) else (none)) else (none)) = some (r1, r2) := H
                                    have A37 := Aside0.mk A370
                                    clear A370
                                    obtain ⟨ji38, hji38⟩ : ∃ j_ : Int, (wrap64 (x9_1 + x12_2)) = j_ := ⟨_, rfl⟩
                                    replace H : (if 0 ≤ (ji38) then (if (ji38) < (x7_2.length : Int) then (if 0 ≤ x9_1 then (if x9_1 < (x7_2.length : Int) then (if (wrap64 (t179 + (rd x7_2 (ji38)))) < (rd x7_2 x9_1) then (if x9_1 < (x8_2.length : Int) then (impl_Cheapest.l1 k2 a0 a1 t162 (x7_2.set (x9_1 : Int).toNat (wrap64 (t179 + (rd x7_2 (ji38))))) (x8_2.set (x9_1 : Int).toNat (⟨0, x12_2, t177⟩ : S44)) x9_1 t176 t177 (wrap64 (x12_2 + 1))) else (none)) else (impl_Cheapest.l1 k2 a0 a1 t162 x7_2 x8_2 x9_1 t176 t177 (wrap64 (x12_2 + 1)))) else (none)) else (none)) else (none)) else (none)) = some (r1, r2) := by first | (rw [hji38] at H; exact H) | (simp only [hji38] at H ⊢; exact H)
                                    (try rw [hji38] at A37)
                                    have hji38w : (IntKind.i64.wrap (x9_1 + x12_2)) = ji38 := (i64_w _).trans hji38
                                    by_cases c39 : 0 ≤ (ji38)
                                    · rw [if_pos c39] at H
                                      have c39b0 : decide (0 ≤ (ji38)) = true := decide_eq_true c39
                                      clear c39
                                      by_cases c40 : (ji38) < (x7_2.length : Int)
                                      · rw [if_pos c40] at H
                                        have c40b0 : decide ((ji38) < (x7_2.length : Int)) = true := decide_eq_true c40
                                        clear c40
                                        by_cases c41 : 0 ≤ x9_1
                                        · rw [if_pos c41] at H
                                          have c41b0 : decide (0 ≤ x9_1) = true := decide_eq_true c41
                                          clear c41
                                          by_cases c42 : x9_1 < (x7_2.length : Int)
                                          · rw [if_pos c42] at H
                                            have c42b0 : decide (x9_1 < (x7_2.length : Int)) = true := decide_eq_true c42
                                            clear c42
                                            by_cases c43 : (wrap64 (t179 + (rd x7_2 (ji38)))) < (rd x7_2 x9_1)
                                            · rw [if_pos c43] at H
                                              have c43b0 : decide ((wrap64 (t179 + (rd x7_2 (ji38)))) < (rd x7_2 x9_1)) = true := decide_eq_true c43
                                              clear c43
                                              obtain ⟨y182, hy182⟩ : ∃ y_ : List Int, y_ = (x7_2.set (x9_1 : Int).toNat (wrap64 (t179 + (rd x7_2 (ji38))))) := ⟨_, rfl⟩
                                              replace H : (if x9_1 < (x8_2.length : Int) then (impl_Cheapest.l1 k2 a0 a1 t162 y182 (x8_2.set (x9_1 : Int).toNat (⟨0, x12_2, t177⟩ : S44)) x9_1 t176 t177 (wrap64 (x12_2 + 1))) else (none)) = some (r1, r2) := by first | (rw [hy182]; with_reducible exact H) | (have H2_ := (Option.bind_some _ _).symm.trans H; rw [hy182]; with_reducible exact H2_) | (have H2_ := (Option.bind_some _ _).symm.trans H; with_reducible exact H2_) | with_reducible exact H | (rw [hy182]; exact H) | exact H
                                              have Ny182 := Aside0.mk hy182
                                              clear hy182
                                              by_cases c45 : x9_1 < (x8_2.length : Int)
                                              · rw [if_pos c45] at H
                                                have c45b0 : decide (x9_1 < (x8_2.length : Int)) = true := decide_eq_true c45
                                                clear c45
                                                obtain ⟨y183, hy183⟩ : ∃ y_ : List (S44), y_ = (x8_2.set (x9_1 : Int).toNat (⟨0, x12_2, t177⟩ : S44)) := ⟨_, rfl⟩
                                                replace H : (impl_Cheapest.l1 k2 a0 a1 t162 y182 y183 x9_1 t176 t177 (wrap64 (x12_2 + 1))) = some (r1, r2) := by first | (rw [hy183]; with_reducible exact H) | (have H2_ := (Option.bind_some _ _).symm.trans H; rw [hy183]; with_reducible exact H2_) | (have H2_ := (Option.bind_some _ _).symm.trans H; with_reducible exact H2_) | with_reducible exact H | (rw [hy183]; exact H) | exact H
                                                have Ny183 := Aside0.mk hy183
                                                clear hy183
                                                have H' := Aside0.mk H
                                                clear H
                                                try go_wp2_with (first | ((with_reducible refine gate_dst (N := 13) rfl ?_); refine box_event ?hg (N := 13) ?hd (cs := #[.int .i64 0, .int .i64 0, .int .i64 0]) (t := 44) ?hr ?_; (case hd => rfl); (case hg => rfl); (case hr => first | (go_simp; done) | (go_simp; rfl)); intro gb178 hg w47 hbox hb; have n0_ := Aside0.mk (Kd.R_below (by (with_reducible repeat (first | apply Kd.R_alloc | apply Kd.R_drewN | apply Kd.R_drew)); exact HO_6.out) hb); have n1_ := Aside0.mk (Kd.R_below (by (with_reducible repeat (first | apply Kd.R_alloc | apply Kd.R_drewN | apply Kd.R_drew)); exact HO_7.out) hb); have n2_ := Aside0.mk (Kd.R_below (Kd.R_elderB (by (with_reducible repeat (first | apply Kd.R_alloc | apply Kd.R_drewN | apply Kd.R_drew)); exact HO_8.out) gb178 (Nat.le_of_eq hg.symm)) hb); have n3_ := Aside0.mk (below_step (by repeat (first | (with_reducible first | exact HB.out | apply below_alloc | apply pw_below_drewN | apply below_drew1) | exact HB.out)) hb); have n4_ := Aside0.mk (hbox); have n5_ := Aside0.mk ((by rw [hg]; exact (below_size (by repeat (first | (with_reducible first | exact HB.out | apply below_alloc | apply pw_below_drewN | apply below_drew1) | exact HB.out))) : w.heap.size ≤ gb178)); have n6_ := Aside0.mk ((by rw [hg]; exact (below_size (by repeat (first | (with_reducible first | exact HB.out | apply below_alloc | apply pw_below_drewN | apply below_drew1) | exact HB.out))) : w.heap.size ≤ gb178)); clear HO_6; clear HO_7; clear HO_8; clear HB; have HO_6 := n0_; have HO_7 := n1_; have HO_8 := n2_; have HB := n3_; have BK178 := n4_; have GW178 := n5_; have GE178 := n6_; clear n0_ n1_ n2_ n3_ n4_ n5_ n6_; clear hb hbox hg; have hcz48_0 : w47.cell? ⟨gb178, 0, none⟩ = some (.int .i64 0) := (blk_cell BK178.out 0).trans rfl; have hcz48_1 : w47.cell? ⟨gb178, 1, none⟩ = some (.int .i64 0) := (blk_cell BK178.out 1).trans rfl; have hcz48_2 : w47.cell? ⟨gb178, 2, none⟩ = some (.int .i64 0) := (blk_cell BK178.out 2).trans rfl; have hfz48_0 := blk_frozen BK178.out 0; have hfz48_1 := blk_frozen BK178.out 1; have hfz48_2 := blk_frozen BK178.out 2))
                                                have n0_ : Aside0 (Kd.R (Kd.int .i64) 3 (((w47.setCell ⟨gb178, 0, none⟩ (.int .i64 0)).setCell ⟨gb178, 1, none⟩ (.int .i64 x12_2)).setCell ⟨gb178, 2, none⟩ (.int .i64 t177)) w.heap.size (fun k_ => some k_ ≠ (.slice (some ⟨go27, 0, none⟩) x7_2.length co32 : Value).ownBlock) (.slice Ao35 t162.length co35) t162) := ⟨by (with_reducible repeat (first | apply Kd.R_alloc | apply Kd.R_drewN | apply Kd.R_drew)); exact Kd.R_mono (Kd.R_far (p := ⟨gb178, 2, none⟩) (Kd.R_far (p := ⟨gb178, 1, none⟩) (Kd.R_far (p := ⟨gb178, 0, none⟩) (Kd.R_types HO_6.out BK178.out (by decide)) (fun _ hk => hk.2) (.int .i64 0)) (fun _ hk => hk.2) (.int .i64 x12_2)) (fun _ hk => hk.2) (.int .i64 t177)) (fun _ hk => hk.1)⟩
                                                have n1_ : Aside0 (Kd.R (Kd.int .i64) 3 (((w47.setCell ⟨gb178, 0, none⟩ (.int .i64 0)).setCell ⟨gb178, 1, none⟩ (.int .i64 x12_2)).setCell ⟨gb178, 2, none⟩ (.int .i64 t177)) w.heap.size (fun k_ => some k_ ≠ (.slice Ao35 t162.length co35 : Value).ownBlock) (.slice (some ⟨go27, 0, none⟩) x7_2.length co32) x7_2) := ⟨by (with_reducible repeat (first | apply Kd.R_alloc | apply Kd.R_drewN | apply Kd.R_drew)); exact Kd.R_mono (Kd.R_far (p := ⟨gb178, 2, none⟩) (Kd.R_far (p := ⟨gb178, 1, none⟩) (Kd.R_far (p := ⟨gb178, 0, none⟩) (Kd.R_types HO_7.out BK178.out (by decide)) (fun _ hk => hk.2) (.int .i64 0)) (fun _ hk => hk.2) (.int .i64 x12_2)) (fun _ hk => hk.2) (.int .i64 t177)) (fun _ hk => hk.1)⟩
                                                have n2_ : Aside0 (Kd.R k44 44 (((w47.setCell ⟨gb178, 0, none⟩ (.int .i64 0)).setCell ⟨gb178, 1, none⟩ (.int .i64 x12_2)).setCell ⟨gb178, 2, none⟩ (.int .i64 t177)) w.heap.size (fun k_ => k_ ≠ gb178) (.slice (some ⟨go21, 0, none⟩) x8_2.length co21) x8_2) := ⟨by (with_reducible repeat (first | apply Kd.R_alloc | apply Kd.R_drewN | apply Kd.R_drew)); exact Kd.R_mono (Kd.R_far (p := ⟨gb178, 2, none⟩) (Kd.R_far (p := ⟨gb178, 1, none⟩) (Kd.R_far (p := ⟨gb178, 0, none⟩) (Kd.R_mono HO_8.out (fun k_ hk => (⟨hk, hk.2⟩ : _ ∧ k_ ≠ gb178))) (fun _ hk => hk.2) (.int .i64 0)) (fun _ hk => hk.2) (.int .i64 x12_2)) (fun _ hk => hk.2) (.int .i64 t177)) (fun _ hk => hk.1.2)⟩
                                                have n3_ : Aside0 ((((w47.setCell ⟨gb178, 0, none⟩ (.int .i64 0)).setCell ⟨gb178, 1, none⟩ (.int .i64 x12_2)).setCell ⟨gb178, 2, none⟩ (.int .i64 t177)).heap[gb178]? = some (.cells #[.int .i64 0, .int .i64 x12_2, .int .i64 t177] 44 (0, 0))) := ⟨by (with_reducible repeat (first | refine blk_drewN ?_ _ | refine blk_drew ?_ | refine blk_alloc ?_ _)); refine blk_put (cs := #[.int .i64 0, .int .i64 x12_2, .int .i64 0]) ?_ 2 _ rfl; (with_reducible repeat (first | refine blk_drewN ?_ _ | refine blk_drew ?_ | refine blk_alloc ?_ _)); refine blk_put (cs := #[.int .i64 0, .int .i64 0, .int .i64 0]) ?_ 1 _ rfl; (with_reducible repeat (first | refine blk_drewN ?_ _ | refine blk_drew ?_ | refine blk_alloc ?_ _)); refine blk_put (cs := #[.int .i64 0, .int .i64 0, .int .i64 0]) ?_ 0 _ rfl; (with_reducible repeat (first | refine blk_drewN ?_ _ | refine blk_drew ?_ | refine blk_alloc ?_ _)); exact BK178.out⟩
                                                have n4_ : Aside0 (Below w.heap.size w (((w47.setCell ⟨gb178, 0, none⟩ (.int .i64 0)).setCell ⟨gb178, 1, none⟩ (.int .i64 x12_2)).setCell ⟨gb178, 2, none⟩ (.int .i64 t177))) := ⟨by repeat (first | (with_reducible first | exact HB.out | apply below_alloc | apply pw_below_drewN | apply below_drew1 | refine below_set ?_ GE178.out) | exact HB.out)⟩
                                                (try clear HO_6)
                                                (try clear HO_7)
                                                (try clear HO_8)
                                                (try clear BK178)
                                                (try clear HB)
                                                generalize (((w47.setCell ⟨gb178, 0, none⟩ (.int .i64 0)).setCell ⟨gb178, 1, none⟩ (.int .i64 x12_2)).setCell ⟨gb178, 2, none⟩ (.int .i64 t177)) = w49 at n0_ n1_ n2_ n3_ n4_ ⊢
                                                have HO_6 := n0_
                                                have HO_7 := n1_
                                                have HO_8 := n2_
                                                have BK178 := n3_
                                                have HB := n4_
                                                clear n0_ n1_ n2_ n3_ n4_
                                                have n0_ := Aside0.mk (Kd.R_drew HO_6.out)
                                                have n1_ := Aside0.mk (Kd.R_drew HO_7.out)
                                                have n2_ := Aside0.mk (Kd.R_drew HO_8.out)
                                                have n3_ := Aside0.mk (blk_drew BK178.out)
                                                have n4_ := Aside0.mk (below_drew1 HB.out)
                                                clear HO_6
                                                clear HO_7
                                                clear HO_8
                                                clear BK178
                                                clear HB
                                                have HO_6 := n0_
                                                have HO_7 := n1_
                                                have HO_8 := n2_
                                                have BK178 := n3_
                                                have HB := n4_
                                                clear n0_ n1_ n2_ n3_ n4_
                                                have p180 : 0 ≤ ((ji38) : Int) := of_decide_eq_true (by first | (with_reducible assumption) | assumption)
                                                have q180 : (ji38) < (x7_2.length : Int) := of_decide_eq_true (by first | (with_reducible assumption) | assumption)
                                                obtain ⟨ad180, e180, hx180_0⟩ := Kd.at_int (Kd.R_reads' HO_7.out).2.2 (ji38) p180 q180
                                                obtain rfl : (⟨go27, 0, none⟩ : Addr) = ad180 := (by injection e180)
                                                (first | simp only [add_plain] at hx180_0 | simp only [add_at] at hx180_0 | simp only [Addr.add, Nat.zero_add] at hx180_0 | skip)
                                                replace p180 := eq_true p180
                                                replace q180 := eq_true q180
                                                refine start_ (n := 10) (S := fun w' => w'.cell? ⟨gb178, 0, none⟩ = some (.int .i64 0) ∧ w'.cell? ⟨gb178, 1, none⟩ = some (.int .i64 x12_2) ∧ w'.cell? ⟨gb178, 2, none⟩ = some (.int .i64 t177) ∧ w'.cell? ⟨go27, ((ji38)).toNat, none⟩ = some (.int .i64 (rd x7_2 (ji38)))) (ds := []) #[false, false, false, false, false, false, false, false, false, false] (by kernel_rfl) rfl rfl ⟨(blk_cell BK178.out 0).trans rfl, (blk_cell BK178.out 1).trans rfl, (blk_cell BK178.out 2).trans rfl, hx180_0⟩ (fun hHeld => ?_); refine with_tabW impl_Cheapest.tab16 impl_Cheapest.bits16 (fun HT_ HW_ => ?_)
                                                generalize w49.drew = w50 at HO_6 HO_7 HO_8 BK178 HB hx180_0 hHeld ⊢
                                                refine pure_ (i := 2) (N := some 77) (v := ?_) (a' := ?_) #[false, false, true, false, false, false, false, false, false, false] rfl rfl (any_of HT_.out (by kernel_rfl)) (fun _ _ _ h => h) (Or.inl ⟨by rfl, ?_⟩) ?_ ?_
                                                rotate_left
                                                · intro w'
                                                  go_simp
                                                  with_reducible rfl
                                                rotate_left
                                                · simp only [Act.put, List.setIfInBounds_toArray, List.set_cons_zero, List.set_cons_succ, i64_w, i32_w]
                                                  rfl
                                                refine pure_ (i := 3) (N := some 78) (v := ?_) (a' := ?_) #[false, false, true, true, false, false, false, false, false, false] rfl rfl (any_of HT_.out (by kernel_rfl)) (fun _ _ _ h => h) (Or.inl ⟨by rfl, ?_⟩) ?_ ?_
                                                rotate_left
                                                · intro w'
                                                  go_simp
                                                  with_reducible rfl
                                                rotate_left
                                                · simp only [Act.put, List.setIfInBounds_toArray, List.set_cons_zero, List.set_cons_succ, i64_w, i32_w]
                                                  rfl
                                                refine pure_ (i := 4) (N := some 79) (v := ?_) (a' := ?_) #[false, false, true, true, true, false, false, false, false, false] rfl rfl (any_of HT_.out (by kernel_rfl)) (fun _ _ _ h => h) (Or.inl ⟨by rfl, ?_⟩) ?_ ?_
                                                rotate_left
                                                · intro w'
                                                  go_simp
                                                  with_reducible rfl
                                                rotate_left
                                                · simp only [Act.put, List.setIfInBounds_toArray, List.set_cons_zero, List.set_cons_succ, i64_w, i32_w]
                                                  rfl
                                                refine pure_ (i := 5) (N := some 80) (v := ?_) (a' := ?_) #[false, false, true, true, true, true, false, false, false, false] rfl rfl (any_of HT_.out (by kernel_rfl)) (fun _ _ _ h => h) (Or.inl ⟨by rfl, ?_⟩) ?_ ?_
                                                rotate_left
                                                · intro w'
                                                  go_simp
                                                  with_reducible rfl
                                                rotate_left
                                                · simp only [Act.put, List.setIfInBounds_toArray, List.set_cons_zero, List.set_cons_succ, i64_w, i32_w]
                                                  rfl
                                                refine pure_ (i := 6) (N := some 81) (v := ?_) (a' := ?_) #[false, false, true, true, true, true, true, false, false, false] rfl rfl (any_of HT_.out (by kernel_rfl)) (fun _ _ _ h => h) (Or.inl ⟨by rfl, ?_⟩) ?_ ?_
                                                rotate_left
                                                · intro w'
                                                  go_simp
                                                  with_reducible rfl
                                                rotate_left
                                                · simp only [Act.put, List.setIfInBounds_toArray, List.set_cons_zero, List.set_cons_succ, i64_w, i32_w]
                                                  rfl
                                                refine take_ (i := 0) (N := some 75) (v := ?_) (a' := ?_) #[true, false, true, true, true, true, true, false, false, false] rfl rfl (take_ofW HT_.out HW_.out (by kernel_rfl)) (fun _ _ _ h => h) (Or.inl ⟨by rfl, ?_⟩) hHeld ?_ ?_
                                                rotate_left
                                                · rintro w' ⟨s0, s1, s2, s3⟩
                                                  go_simp
                                                  with_reducible rfl
                                                rotate_left
                                                · simp only [Act.put, List.setIfInBounds_toArray, List.set_cons_zero, List.set_cons_succ, i64_w, i32_w]
                                                  rfl
                                                refine take_ (i := 7) (N := some 82) (v := ?_) (a' := ?_) #[true, false, true, true, true, true, true, true, false, false] rfl rfl (take_ofW HT_.out HW_.out (by kernel_rfl)) (fun _ _ _ h => h) (Or.inl ⟨by rfl, ?_⟩) hHeld ?_ ?_
                                                rotate_left
                                                · rintro w' ⟨s0, s1, s2, s3⟩
                                                  go_simp
                                                  with_reducible rfl
                                                rotate_left
                                                · simp only [Act.put, List.setIfInBounds_toArray, List.set_cons_zero, List.set_cons_succ, i64_w, i32_w]
                                                  rfl
                                                refine one_ (i := 1) (N := some 76) #[true, true, true, true, true, true, true, true, false, false] rfl rfl (one_of HT_.out (by kernel_rfl)) (by decide) (fun K hK => ?_)
                                                refine goes_ Try.func35 (by kernel_rfl) rfl #[.agg #[.int .i64 0, .int .i64 x12_2, .int .i64 t177]] (by rfl) rfl rfl (by (try simp only [List.map_toArray, List.map_cons, List.map_nil]); first | done | rfl | (simp only [List.length_drop, List.length_take]; rfl)) ?_
                                                with_reducible refine (impl_costOf.calls k2 0 x12_2 t177 t179 _ A37.out).mono ?_
                                                rintro e w51 ⟨rfl, hb⟩
                                                have HS3_ := (hb.cell (World.block_lt_of_cell? _ _ (hHeld.2.2.2))).trans (hHeld.2.2.2)
                                                refine ⟨_, rfl, ?_⟩
                                                have n0_ := Aside0.mk (Kd.R_below (by (with_reducible repeat (first | apply Kd.R_alloc | apply Kd.R_drewN | apply Kd.R_drew)); exact HO_6.out) hb)
                                                have n1_ := Aside0.mk (Kd.R_below (by (with_reducible repeat (first | apply Kd.R_alloc | apply Kd.R_drewN | apply Kd.R_drew)); exact HO_7.out) hb)
                                                have n2_ := Aside0.mk (Kd.R_below (by (with_reducible repeat (first | apply Kd.R_alloc | apply Kd.R_drewN | apply Kd.R_drew)); exact HO_8.out) hb)
                                                have n3_ := Aside0.mk (blk_below (g := gb178) (o := .cells #[.int .i64 0, .int .i64 x12_2, .int .i64 t177] 44 (0, 0)) (by (with_reducible repeat (first | refine blk_drewN ?_ _ | refine blk_drew ?_ | refine blk_alloc ?_ _)); exact BK178.out) hb)
                                                have n4_ := Aside0.mk (below_step (by repeat (first | (with_reducible first | exact HB.out | apply below_alloc | apply pw_below_drewN | apply below_drew1 | refine below_set ?_ GE178.out) | exact HB.out)) hb)
                                                clear HO_6
                                                clear HO_7
                                                clear HO_8
                                                clear BK178
                                                clear HB
                                                have HO_6 := n0_
                                                have HO_7 := n1_
                                                have HO_8 := n2_
                                                have BK178 := n3_
                                                have HB := n4_
                                                clear n0_ n1_ n2_ n3_ n4_
                                                (try clear hb)
                                                (try clear hb2)
                                                (try clear hk)
                                                (try clear hi)
                                                refine hK.out _ _ ⟨(blk_cell BK178.out 0).trans rfl, (blk_cell BK178.out 1).trans rfl, (blk_cell BK178.out 2).trans rfl, HS3_⟩ (fun hHeld => ?_)
                                                clear hK K
                                                refine norm_ (a' := ?_) ?_ ?_
                                                rotate_left
                                                · show Act.put _ (some 76) _ = _
                                                  simp only [Act.put, List.setIfInBounds_toArray, List.set_cons_zero, List.set_cons_succ, i64_w, i32_w]
                                                  rfl
                                                refine pure_ (i := 8) (N := some 83) (v := ?_) (a' := ?_) #[true, true, true, true, true, true, true, true, true, false] rfl rfl (any_of HT_.out (by kernel_rfl)) (fun _ _ _ h => h) (Or.inl ⟨by rfl, ?_⟩) ?_ ?_
                                                rotate_left
                                                · intro w'
                                                  go_simp
                                                  with_reducible rfl
                                                rotate_left
                                                · simp only [Act.put, List.setIfInBounds_toArray, List.set_cons_zero, List.set_cons_succ, i64_w, i32_w]
                                                  rfl
                                                refine pure_ (i := 9) (N := some 14) (v := ?_) (a' := ?_) #[true, true, true, true, true, true, true, true, true, true] rfl rfl (any_of HT_.out (by kernel_rfl)) (fun _ _ _ h => h) (Or.inl ⟨by rfl, ?_⟩) ?_ ?_
                                                rotate_left
                                                · intro w'
                                                  go_simp
                                                  with_reducible rfl
                                                rotate_left
                                                · simp only [Act.put, List.setIfInBounds_toArray, List.set_cons_zero, List.set_cons_succ, i64_w, i32_w]
                                                  rfl
                                                refine done_ (done_of HT_.out (by kernel_rfl)) ?_
                                                have p181 : 0 ≤ (x9_1 : Int) := of_decide_eq_true (by first | (with_reducible assumption) | assumption)
                                                have q181 : x9_1 < (x7_2.length : Int) := of_decide_eq_true (by first | (with_reducible assumption) | assumption)
                                                obtain ⟨ad181, e181, hx181_0⟩ := Kd.at_int (Kd.R_reads' HO_7.out).2.2 x9_1 p181 q181
                                                obtain rfl : (⟨go27, 0, none⟩ : Addr) = ad181 := (by injection e181)
                                                (first | simp only [add_plain] at hx181_0 | simp only [add_at] at hx181_0 | simp only [Addr.add, Nat.zero_add] at hx181_0 | skip)
                                                replace p181 := eq_true p181
                                                replace q181 := eq_true q181
                                                try go_wp2
                                                have n0_ := Aside0.mk (Kd.R_drew HO_6.out)
                                                have n1_ := Aside0.mk (Kd.R_drew HO_7.out)
                                                have n2_ := Aside0.mk (Kd.R_drew HO_8.out)
                                                have n3_ := Aside0.mk (blk_drew BK178.out)
                                                have n4_ := Aside0.mk (below_drew1 HB.out)
                                                clear HO_6
                                                clear HO_7
                                                clear HO_8
                                                clear BK178
                                                clear HB
                                                have HO_6 := n0_
                                                have HO_7 := n1_
                                                have HO_8 := n2_
                                                have BK178 := n3_
                                                have HB := n4_
                                                clear n0_ n1_ n2_ n3_ n4_
                                                have p44 : 0 ≤ (x9_1 : Int) := of_decide_eq_true (by first | (with_reducible assumption) | assumption)
                                                have q44 : (x9_1 : Int) < ((x7_2.length : Int) : Int) := of_decide_eq_true (by first | (with_reducible assumption) | assumption)
                                                obtain ⟨hx44_0, hf44_0⟩ := Kd.R_celln 0 HO_7.out (x9_1 : Int) p44 q44
                                                replace p44 := eq_true p44
                                                replace q44 := eq_true q44
                                                have HP53 := Kd.R_putn HO_7.out (x9_1 : Int) (wrap64 (t179 + (rd x7_2 (ji38))))
                                                rw [← Ny182.out] at HP53
                                                have HQ53 := Aside0.mk HP53
                                                clear HP53
                                                have p46 : 0 ≤ (x9_1 : Int) := of_decide_eq_true (by first | (with_reducible assumption) | assumption)
                                                have q46 : (x9_1 : Int) < ((x8_2.length : Int) : Int) := of_decide_eq_true (by first | (with_reducible assumption) | assumption)
                                                obtain ⟨ce46, hcl46, hM46, hcc46, hfr46⟩ := Kd.R_elem (Kd.R_far (p := ⟨go27, (x9_1 : Int).toNat, none⟩) (Kd.R_mono (Kd.R_apart' HO_8.out (Kd.R_typed HO_7.out) (by decide)) (fun k_ hk => (⟨hk.1, fun e_ => hk.2 (by rw [e_]; rfl)⟩ : _ ∧ k_ ≠ go27))) (fun _ hk => hk.2) (.int .i64 (wrap64 (t179 + (rd x7_2 (ji38)))))) z44 (x9_1 : Int) p46 q46
                                                obtain rfl := k44_openM hM46
                                                have hx46_0 : World.cell? _ ⟨go21, (x9_1 : Int).toNat * 3, none⟩ = some (.int .i64 ((rd_T44 x8_2 x9_1).f0)) := hcc46 0 _ rfl
                                                have hx46_1 : World.cell? _ ⟨go21, (x9_1 : Int).toNat * 3 + 1, none⟩ = some (.int .i64 ((rd_T44 x8_2 x9_1).f1)) := hcc46 1 _ rfl
                                                have hx46_2 : World.cell? _ ⟨go21, (x9_1 : Int).toNat * 3 + 2, none⟩ = some (.int .i64 ((rd_T44 x8_2 x9_1).f2)) := hcc46 2 _ rfl
                                                have hf46_0 : World.frozen? _ ⟨go21, (x9_1 : Int).toNat * 3, none⟩ = false := hfr46 0
                                                have hf46_1 : World.frozen? _ ⟨go21, (x9_1 : Int).toNat * 3 + 1, none⟩ = false := hfr46 1
                                                have hf46_2 : World.frozen? _ ⟨go21, (x9_1 : Int).toNat * 3 + 2, none⟩ = false := hfr46 2
                                                clear hcl46 hcc46 hfr46 hM46
                                                replace p46 := eq_true p46
                                                replace q46 := eq_true q46
                                                obtain ⟨ce54, hcl54, hM54, hcc54, hfr54⟩ := Kd.R_elem (Kd.R_far (p := ⟨go27, (x9_1 : Int).toNat, none⟩) (Kd.R_mono (Kd.R_apart' HO_8.out (Kd.R_typed HO_7.out) (by decide)) (fun k_ hk => (⟨hk.1, fun e_ => hk.2 (by rw [e_]; rfl)⟩ : _ ∧ k_ ≠ go27))) (fun _ hk => hk.2) (.int .i64 (wrap64 (t179 + (rd x7_2 (ji38)))))) z44 (x9_1 : Int) (of_decide_eq_true (by first | (with_reducible assumption) | assumption)) (by have h_ : (x9_1 : Int) < ((x8_2.length : Int) : Int) := of_decide_eq_true (by first | (with_reducible assumption) | assumption); first | exact h_ | (have e_ := (Kd.R_reads' HO_8.out).1; omega) | simpa using h_)
                                                obtain rfl := k44_openM hM54
                                                have HP54 := (Kd.R_seg (Kd.R_far (p := ⟨go27, (x9_1 : Int).toNat, none⟩) (Kd.R_mono (Kd.R_apart' HO_8.out (Kd.R_typed HO_7.out) (by decide)) (fun k_ hk => (⟨hk.1, fun e_ => hk.2 (by rw [e_]; rfl)⟩ : _ ∧ k_ ≠ go27))) (fun _ hk => hk.2) (.int .i64 (wrap64 (t179 + (rd x7_2 (ji38)))))) (x9_1 : Int) (of_decide_eq_true (by first | (with_reducible assumption) | assumption)) (by have h_ : (x9_1 : Int) < ((x8_2.length : Int) : Int) := of_decide_eq_true (by first | (with_reducible assumption) | assumption); first | exact h_ | (have e_ := (Kd.R_reads' HO_8.out).1; omega) | simpa using h_) (seg := [.int .i64 0, .int .i64 x12_2, .int .i64 t177]) (j := 0) hcl54 hcc54 (show 3 ≤ 3 from by decide) (x' := (⟨0, x12_2, t177⟩ : S44)) (k44_mkM _ _ _ (⟨0, x12_2, t177⟩ : S44) ) (fun _ hk => hk)).1
                                                rw [← Ny183.out] at HP54
                                                have HQ54 := Aside0.mk HP54
                                                clear hcl54 hcc54 hfr54 hM54 HP54
                                                refine start_ (n := 10) (S := fun w' => w'.cell? ⟨gb178, 0, none⟩ = some (.int .i64 0) ∧ w'.cell? ⟨gb178, 1, none⟩ = some (.int .i64 x12_2) ∧ w'.cell? ⟨gb178, 2, none⟩ = some (.int .i64 t177)) (ds := [9]) #[false, false, false, false, false, false, false, false, false, false] (by kernel_rfl) rfl rfl ⟨(blk_cell BK178.out 0).trans rfl, (blk_cell BK178.out 1).trans rfl, (blk_cell BK178.out 2).trans rfl⟩ (fun hHeld => ?_); refine with_tabW impl_Cheapest.tab18 impl_Cheapest.bits18 (fun HT_ HW_ => ?_)
                                                generalize w51.drew = w52 at HO_6 HO_7 HO_8 BK178 HB HQ53 HQ54 hf44_0 hf46_0 hf46_1 hf46_2 hx44_0 hx46_0 hx46_1 hx46_2 hHeld ⊢
                                                refine pure_ (i := 0) (N := some 90) (v := ?_) (a' := ?_) #[true, false, false, false, false, false, false, false, false, false] rfl rfl (any_of HT_.out (by kernel_rfl)) (fun _ _ _ h => h) (Or.inl ⟨by rfl, ?_⟩) ?_ ?_
                                                rotate_left
                                                · intro w'
                                                  go_simp
                                                  with_reducible rfl
                                                rotate_left
                                                · simp only [Act.put, List.setIfInBounds_toArray, List.set_cons_zero, List.set_cons_succ, i64_w, i32_w]
                                                  rfl
                                                refine pure_ (i := 1) (N := some 91) (v := ?_) (a' := ?_) #[true, true, false, false, false, false, false, false, false, false] rfl rfl (any_of HT_.out (by kernel_rfl)) (fun _ _ _ h => h) (Or.inl ⟨by rfl, ?_⟩) ?_ ?_
                                                rotate_left
                                                · intro w'
                                                  go_simp
                                                  with_reducible rfl
                                                rotate_left
                                                · simp only [Act.put, List.setIfInBounds_toArray, List.set_cons_zero, List.set_cons_succ, i64_w, i32_w]
                                                  rfl
                                                refine pure_ (i := 2) (N := some 92) (v := ?_) (a' := ?_) #[true, true, true, false, false, false, false, false, false, false] rfl rfl (any_of HT_.out (by kernel_rfl)) (fun _ _ _ h => h) (Or.inl ⟨by rfl, ?_⟩) ?_ ?_
                                                rotate_left
                                                · intro w'
                                                  go_simp
                                                  with_reducible rfl
                                                rotate_left
                                                · simp only [Act.put, List.setIfInBounds_toArray, List.set_cons_zero, List.set_cons_succ, i64_w, i32_w]
                                                  rfl
                                                refine pure_ (i := 3) (N := some 93) (v := ?_) (a' := ?_) #[true, true, true, true, false, false, false, false, false, false] rfl rfl (any_of HT_.out (by kernel_rfl)) (fun _ _ _ h => h) (Or.inl ⟨by rfl, ?_⟩) ?_ ?_
                                                rotate_left
                                                · intro w'
                                                  go_simp
                                                  with_reducible rfl
                                                rotate_left
                                                · simp only [Act.put, List.setIfInBounds_toArray, List.set_cons_zero, List.set_cons_succ, i64_w, i32_w]
                                                  rfl
                                                refine pure_ (i := 4) (N := some 94) (v := ?_) (a' := ?_) #[true, true, true, true, true, false, false, false, false, false] rfl rfl (any_of HT_.out (by kernel_rfl)) (fun _ _ _ h => h) (Or.inl ⟨by rfl, ?_⟩) ?_ ?_
                                                rotate_left
                                                · intro w'
                                                  go_simp
                                                  with_reducible rfl
                                                rotate_left
                                                · simp only [Act.put, List.setIfInBounds_toArray, List.set_cons_zero, List.set_cons_succ, i64_w, i32_w]
                                                  rfl
                                                refine pure_ (i := 6) (N := some 96) (v := ?_) (a' := ?_) #[true, true, true, true, true, false, true, false, false, false] rfl rfl (any_of HT_.out (by kernel_rfl)) (fun _ _ _ h => h) (Or.inl ⟨by rfl, ?_⟩) ?_ ?_
                                                rotate_left
                                                · intro w'
                                                  go_simp
                                                  with_reducible rfl
                                                rotate_left
                                                · simp only [Act.put, List.setIfInBounds_toArray, List.set_cons_zero, List.set_cons_succ, i64_w, i32_w]
                                                  rfl
                                                refine take_ (i := 5) (N := some 95) (v := ?_) (a' := ?_) #[true, true, true, true, true, true, true, false, false, false] rfl rfl (take_ofW HT_.out HW_.out (by kernel_rfl)) (fun _ _ _ h => h) (Or.inl ⟨by rfl, ?_⟩) hHeld ?_ ?_
                                                rotate_left
                                                · rintro w' ⟨s0, s1, s2⟩
                                                  go_simp
                                                  with_reducible rfl
                                                rotate_left
                                                · simp only [Act.put, List.setIfInBounds_toArray, List.set_cons_zero, List.set_cons_succ, i64_w, i32_w]
                                                  rfl
                                                refine one_ (i := 7) (N := none) #[true, true, true, true, true, true, true, true, false, false] rfl rfl (one_of HT_.out (by kernel_rfl)) (by decide) (fun K hK => ?_)
                                                refine skip_ (w1 := ?_) (by rfl) rfl ?_ ?_
                                                rotate_left
                                                · go_simp
                                                  rfl
                                                refine hK.out _ _ ⟨((cell_far (by first | (have h_ := Kd.own_blk (Kd.R_ne HO_7.out BK178.out (by decide)); exact Ne.symm h_) | exact Ne.symm (Kd.own_blk (Kd.R_ne HO_7.out BK178.out (by decide))) | (rw [add_block]; exact Ne.symm (Kd.own_blk (Kd.R_ne HO_7.out BK178.out (by decide)))) | (show _ ≠ (Addr.add _ _).block; rw [add_block]; exact Ne.symm (Kd.own_blk (Kd.R_ne HO_7.out BK178.out (by decide))))) _).trans (hHeld.1)), ((cell_far (by first | (have h_ := Kd.own_blk (Kd.R_ne HO_7.out BK178.out (by decide)); exact Ne.symm h_) | exact Ne.symm (Kd.own_blk (Kd.R_ne HO_7.out BK178.out (by decide))) | (rw [add_block]; exact Ne.symm (Kd.own_blk (Kd.R_ne HO_7.out BK178.out (by decide)))) | (show _ ≠ (Addr.add _ _).block; rw [add_block]; exact Ne.symm (Kd.own_blk (Kd.R_ne HO_7.out BK178.out (by decide))))) _).trans (hHeld.2.1)), ((cell_far (by first | (have h_ := Kd.own_blk (Kd.R_ne HO_7.out BK178.out (by decide)); exact Ne.symm h_) | exact Ne.symm (Kd.own_blk (Kd.R_ne HO_7.out BK178.out (by decide))) | (rw [add_block]; exact Ne.symm (Kd.own_blk (Kd.R_ne HO_7.out BK178.out (by decide)))) | (show _ ≠ (Addr.add _ _).block; rw [add_block]; exact Ne.symm (Kd.own_blk (Kd.R_ne HO_7.out BK178.out (by decide))))) _).trans (hHeld.2.2))⟩ (fun hHeld => ?_)
                                                clear hK K
                                                refine pure_ (i := 8) (N := some 97) (v := ?_) (a' := ?_) #[true, true, true, true, true, true, true, true, true, false] rfl rfl (any_of HT_.out (by kernel_rfl)) (fun _ _ _ h => h) (Or.inl ⟨by rfl, ?_⟩) ?_ ?_
                                                rotate_left
                                                · intro w'
                                                  go_simp
                                                  with_reducible rfl
                                                rotate_left
                                                · simp only [Act.put, List.setIfInBounds_toArray, List.set_cons_zero, List.set_cons_succ, i64_w, i32_w]
                                                  rfl
                                                refine last_ (i := 9) (N := none) #[true, true, true, true, true, true, true, true, true, true] rfl rfl (one_of HT_.out (by kernel_rfl)) (by decide) (fun K hK => ?_)
                                                refine skip_ (w1 := ?_) (by rfl) rfl ?_ ?_
                                                rotate_left
                                                · go_simp
                                                  rfl
                                                refine hK.out _ _ ?_
                                                clear hK K
                                                refine done_ (done_of HT_.out (by kernel_rfl)) ?_
                                                try go_wp2
                                                (try simp only [← hl7_2, ← hl8_2])
                                                go_roundg k2
                                                case measure => have := HK1.out; have := HK2.out; omega
                                                case rel => exact ⟨(y182), (y183), (wrap64 (x12_2 + 1)), (by first | rfl | (simp; done) | (simp [*]; done)), H', ⟨by have := HK1.out; have := HK2.out; omega⟩, ⟨by (try simp only [hl7_2]); (try simp only [hl8_2]); (with_reducible repeat (first | apply Kd.R_alloc | apply Kd.R_drewN | apply Kd.R_drew)); exact Kd.R_mono (Kd.R_far (p := ⟨go21, (x9_1 : Int).toNat * 3 + 2, none⟩) (Kd.R_far (p := ⟨go21, (x9_1 : Int).toNat * 3 + 1, none⟩) (Kd.R_far (p := ⟨go21, (x9_1 : Int).toNat * 3, none⟩) (Kd.R_far (p := ⟨go27, (x9_1 : Int).toNat, none⟩) (Kd.R_mono (Kd.R_apart' (Kd.R_mono HO_6.out (fun k_ hk => (⟨hk, fun e_ => hk (by rw [e_]; rfl)⟩ : _ ∧ k_ ≠ go27))) (Kd.R_typed HO_8.out) (by decide)) (fun k_ hk => (⟨hk.1, fun e_ => hk.2 (by rw [e_]; rfl)⟩ : _ ∧ k_ ≠ go21))) (fun _ hk => hk.1.2) (.int .i64 (wrap64 (t179 + (rd x7_2 (ji38)))))) (fun _ hk => hk.2) (.int .i64 0)) (fun _ hk => hk.2) (.int .i64 x12_2)) (fun _ hk => hk.2) (.int .i64 t177)) (fun _ hk => hk.1.1)⟩, ⟨by (try simp only [hl7_2]); (try simp only [hl8_2]); (with_reducible repeat (first | apply Kd.R_alloc | apply Kd.R_drewN | apply Kd.R_drew)); exact Kd.R_mono (Kd.R_far (p := ⟨go21, (x9_1 : Int).toNat * 3 + 2, none⟩) (Kd.R_far (p := ⟨go21, (x9_1 : Int).toNat * 3 + 1, none⟩) (Kd.R_far (p := ⟨go21, (x9_1 : Int).toNat * 3, none⟩) (Kd.R_mono (Kd.R_apart' HQ53.out (Kd.R_typed (Kd.R_far (p := ⟨go27, (x9_1 : Int).toNat, none⟩) (Kd.R_mono (Kd.R_apart' HO_8.out (Kd.R_typed HO_7.out) (by decide)) (fun k_ hk => (⟨hk.1, fun e_ => hk.2 (by rw [e_]; rfl)⟩ : _ ∧ k_ ≠ go27))) (fun _ hk => hk.2) (.int .i64 (wrap64 (t179 + (rd x7_2 (ji38))))))) (by decide)) (fun k_ hk => (⟨hk.1, fun e_ => hk.2 (by rw [e_]; rfl)⟩ : _ ∧ k_ ≠ go21))) (fun _ hk => hk.2) (.int .i64 0)) (fun _ hk => hk.2) (.int .i64 x12_2)) (fun _ hk => hk.2) (.int .i64 t177)) (fun _ hk => hk.1)⟩, ⟨by (try simp only [hl7_2]); (try simp only [hl8_2]); (with_reducible repeat (first | apply Kd.R_alloc | apply Kd.R_drewN | apply Kd.R_drew)); exact Kd.R_mono HQ54.out (fun _ hk => trivial)⟩, ⟨by repeat (first | (with_reducible first | exact HB.out | apply below_alloc | apply pw_below_drewN | apply below_drew1 | refine below_set ?_ GB27.out | refine below_set ?_ GB21.out | refine below_set ?_ GB21.out | refine below_set ?_ GB21.out | refine below_set ?_ GE178.out) | exact HB.out)⟩⟩
                                              · rw [if_neg c45] at H
                                                exact absurd H (by simp)
                                            · rw [if_neg c43] at H
                                              have c43b0 : decide ((wrap64 (t179 + (rd x7_2 (ji38)))) < (rd x7_2 x9_1)) = false := decide_eq_false c43
                                              clear c43
                                              have H' := Aside0.mk H
                                              clear H
                                              try go_wp2_with (first | ((with_reducible refine gate_dst (N := 13) rfl ?_); refine box_event ?hg (N := 13) ?hd (cs := #[.int .i64 0, .int .i64 0, .int .i64 0]) (t := 44) ?hr ?_; (case hd => rfl); (case hg => rfl); (case hr => first | (go_simp; done) | (go_simp; rfl)); intro gb178 hg w55 hbox hb; have n0_ := Aside0.mk (Kd.R_below (by (with_reducible repeat (first | apply Kd.R_alloc | apply Kd.R_drewN | apply Kd.R_drew)); exact HO_6.out) hb); have n1_ := Aside0.mk (Kd.R_below (by (with_reducible repeat (first | apply Kd.R_alloc | apply Kd.R_drewN | apply Kd.R_drew)); exact HO_7.out) hb); have n2_ := Aside0.mk (Kd.R_below (Kd.R_elderB (by (with_reducible repeat (first | apply Kd.R_alloc | apply Kd.R_drewN | apply Kd.R_drew)); exact HO_8.out) gb178 (Nat.le_of_eq hg.symm)) hb); have n3_ := Aside0.mk (below_step (by repeat (first | (with_reducible first | exact HB.out | apply below_alloc | apply pw_below_drewN | apply below_drew1) | exact HB.out)) hb); have n4_ := Aside0.mk (hbox); have n5_ := Aside0.mk ((by rw [hg]; exact (below_size (by repeat (first | (with_reducible first | exact HB.out | apply below_alloc | apply pw_below_drewN | apply below_drew1) | exact HB.out))) : w.heap.size ≤ gb178)); have n6_ := Aside0.mk ((by rw [hg]; exact (below_size (by repeat (first | (with_reducible first | exact HB.out | apply below_alloc | apply pw_below_drewN | apply below_drew1) | exact HB.out))) : w.heap.size ≤ gb178)); clear HO_6; clear HO_7; clear HO_8; clear HB; have HO_6 := n0_; have HO_7 := n1_; have HO_8 := n2_; have HB := n3_; have BK178 := n4_; have GW178 := n5_; have GE178 := n6_; clear n0_ n1_ n2_ n3_ n4_ n5_ n6_; clear hb hbox hg; have hcz56_0 : w55.cell? ⟨gb178, 0, none⟩ = some (.int .i64 0) := (blk_cell BK178.out 0).trans rfl; have hcz56_1 : w55.cell? ⟨gb178, 1, none⟩ = some (.int .i64 0) := (blk_cell BK178.out 1).trans rfl; have hcz56_2 : w55.cell? ⟨gb178, 2, none⟩ = some (.int .i64 0) := (blk_cell BK178.out 2).trans rfl; have hfz56_0 := blk_frozen BK178.out 0; have hfz56_1 := blk_frozen BK178.out 1; have hfz56_2 := blk_frozen BK178.out 2))
                                              have n0_ : Aside0 (Kd.R (Kd.int .i64) 3 (((w55.setCell ⟨gb178, 0, none⟩ (.int .i64 0)).setCell ⟨gb178, 1, none⟩ (.int .i64 x12_2)).setCell ⟨gb178, 2, none⟩ (.int .i64 t177)) w.heap.size (fun k_ => some k_ ≠ (.slice (some ⟨go27, 0, none⟩) x7_2.length co32 : Value).ownBlock) (.slice Ao35 t162.length co35) t162) := ⟨by (with_reducible repeat (first | apply Kd.R_alloc | apply Kd.R_drewN | apply Kd.R_drew)); exact Kd.R_mono (Kd.R_far (p := ⟨gb178, 2, none⟩) (Kd.R_far (p := ⟨gb178, 1, none⟩) (Kd.R_far (p := ⟨gb178, 0, none⟩) (Kd.R_types HO_6.out BK178.out (by decide)) (fun _ hk => hk.2) (.int .i64 0)) (fun _ hk => hk.2) (.int .i64 x12_2)) (fun _ hk => hk.2) (.int .i64 t177)) (fun _ hk => hk.1)⟩
                                              have n1_ : Aside0 (Kd.R (Kd.int .i64) 3 (((w55.setCell ⟨gb178, 0, none⟩ (.int .i64 0)).setCell ⟨gb178, 1, none⟩ (.int .i64 x12_2)).setCell ⟨gb178, 2, none⟩ (.int .i64 t177)) w.heap.size (fun k_ => some k_ ≠ (.slice Ao35 t162.length co35 : Value).ownBlock) (.slice (some ⟨go27, 0, none⟩) x7_2.length co32) x7_2) := ⟨by (with_reducible repeat (first | apply Kd.R_alloc | apply Kd.R_drewN | apply Kd.R_drew)); exact Kd.R_mono (Kd.R_far (p := ⟨gb178, 2, none⟩) (Kd.R_far (p := ⟨gb178, 1, none⟩) (Kd.R_far (p := ⟨gb178, 0, none⟩) (Kd.R_types HO_7.out BK178.out (by decide)) (fun _ hk => hk.2) (.int .i64 0)) (fun _ hk => hk.2) (.int .i64 x12_2)) (fun _ hk => hk.2) (.int .i64 t177)) (fun _ hk => hk.1)⟩
                                              have n2_ : Aside0 (Kd.R k44 44 (((w55.setCell ⟨gb178, 0, none⟩ (.int .i64 0)).setCell ⟨gb178, 1, none⟩ (.int .i64 x12_2)).setCell ⟨gb178, 2, none⟩ (.int .i64 t177)) w.heap.size (fun k_ => k_ ≠ gb178) (.slice (some ⟨go21, 0, none⟩) x8_2.length co21) x8_2) := ⟨by (with_reducible repeat (first | apply Kd.R_alloc | apply Kd.R_drewN | apply Kd.R_drew)); exact Kd.R_mono (Kd.R_far (p := ⟨gb178, 2, none⟩) (Kd.R_far (p := ⟨gb178, 1, none⟩) (Kd.R_far (p := ⟨gb178, 0, none⟩) (Kd.R_mono HO_8.out (fun k_ hk => (⟨hk, hk.2⟩ : _ ∧ k_ ≠ gb178))) (fun _ hk => hk.2) (.int .i64 0)) (fun _ hk => hk.2) (.int .i64 x12_2)) (fun _ hk => hk.2) (.int .i64 t177)) (fun _ hk => hk.1.2)⟩
                                              have n3_ : Aside0 ((((w55.setCell ⟨gb178, 0, none⟩ (.int .i64 0)).setCell ⟨gb178, 1, none⟩ (.int .i64 x12_2)).setCell ⟨gb178, 2, none⟩ (.int .i64 t177)).heap[gb178]? = some (.cells #[.int .i64 0, .int .i64 x12_2, .int .i64 t177] 44 (0, 0))) := ⟨by (with_reducible repeat (first | refine blk_drewN ?_ _ | refine blk_drew ?_ | refine blk_alloc ?_ _)); refine blk_put (cs := #[.int .i64 0, .int .i64 x12_2, .int .i64 0]) ?_ 2 _ rfl; (with_reducible repeat (first | refine blk_drewN ?_ _ | refine blk_drew ?_ | refine blk_alloc ?_ _)); refine blk_put (cs := #[.int .i64 0, .int .i64 0, .int .i64 0]) ?_ 1 _ rfl; (with_reducible repeat (first | refine blk_drewN ?_ _ | refine blk_drew ?_ | refine blk_alloc ?_ _)); refine blk_put (cs := #[.int .i64 0, .int .i64 0, .int .i64 0]) ?_ 0 _ rfl; (with_reducible repeat (first | refine blk_drewN ?_ _ | refine blk_drew ?_ | refine blk_alloc ?_ _)); exact BK178.out⟩
                                              have n4_ : Aside0 (Below w.heap.size w (((w55.setCell ⟨gb178, 0, none⟩ (.int .i64 0)).setCell ⟨gb178, 1, none⟩ (.int .i64 x12_2)).setCell ⟨gb178, 2, none⟩ (.int .i64 t177))) := ⟨by repeat (first | (with_reducible first | exact HB.out | apply below_alloc | apply pw_below_drewN | apply below_drew1 | refine below_set ?_ GE178.out) | exact HB.out)⟩
                                              (try clear HO_6)
                                              (try clear HO_7)
                                              (try clear HO_8)
                                              (try clear BK178)
                                              (try clear HB)
                                              generalize (((w55.setCell ⟨gb178, 0, none⟩ (.int .i64 0)).setCell ⟨gb178, 1, none⟩ (.int .i64 x12_2)).setCell ⟨gb178, 2, none⟩ (.int .i64 t177)) = w57 at n0_ n1_ n2_ n3_ n4_ ⊢
                                              have HO_6 := n0_
                                              have HO_7 := n1_
                                              have HO_8 := n2_
                                              have BK178 := n3_
                                              have HB := n4_
                                              clear n0_ n1_ n2_ n3_ n4_
                                              have n0_ := Aside0.mk (Kd.R_drew HO_6.out)
                                              have n1_ := Aside0.mk (Kd.R_drew HO_7.out)
                                              have n2_ := Aside0.mk (Kd.R_drew HO_8.out)
                                              have n3_ := Aside0.mk (blk_drew BK178.out)
                                              have n4_ := Aside0.mk (below_drew1 HB.out)
                                              clear HO_6
                                              clear HO_7
                                              clear HO_8
                                              clear BK178
                                              clear HB
                                              have HO_6 := n0_
                                              have HO_7 := n1_
                                              have HO_8 := n2_
                                              have BK178 := n3_
                                              have HB := n4_
                                              clear n0_ n1_ n2_ n3_ n4_
                                              have p180 : 0 ≤ ((ji38) : Int) := of_decide_eq_true (by first | (with_reducible assumption) | assumption)
                                              have q180 : (ji38) < (x7_2.length : Int) := of_decide_eq_true (by first | (with_reducible assumption) | assumption)
                                              obtain ⟨ad180, e180, hx180_0⟩ := Kd.at_int (Kd.R_reads' HO_7.out).2.2 (ji38) p180 q180
                                              obtain rfl : (⟨go27, 0, none⟩ : Addr) = ad180 := (by injection e180)
                                              (first | simp only [add_plain] at hx180_0 | simp only [add_at] at hx180_0 | simp only [Addr.add, Nat.zero_add] at hx180_0 | skip)
                                              replace p180 := eq_true p180
                                              replace q180 := eq_true q180
                                              refine start_ (n := 10) (S := fun w' => w'.cell? ⟨gb178, 0, none⟩ = some (.int .i64 0) ∧ w'.cell? ⟨gb178, 1, none⟩ = some (.int .i64 x12_2) ∧ w'.cell? ⟨gb178, 2, none⟩ = some (.int .i64 t177) ∧ w'.cell? ⟨go27, ((ji38)).toNat, none⟩ = some (.int .i64 (rd x7_2 (ji38)))) (ds := []) #[false, false, false, false, false, false, false, false, false, false] (by kernel_rfl) rfl rfl ⟨(blk_cell BK178.out 0).trans rfl, (blk_cell BK178.out 1).trans rfl, (blk_cell BK178.out 2).trans rfl, hx180_0⟩ (fun hHeld => ?_); refine with_tabW impl_Cheapest.tab16 impl_Cheapest.bits16 (fun HT_ HW_ => ?_)
                                              generalize w57.drew = w58 at HO_6 HO_7 HO_8 BK178 HB hx180_0 hHeld ⊢
                                              refine pure_ (i := 2) (N := some 77) (v := ?_) (a' := ?_) #[false, false, true, false, false, false, false, false, false, false] rfl rfl (any_of HT_.out (by kernel_rfl)) (fun _ _ _ h => h) (Or.inl ⟨by rfl, ?_⟩) ?_ ?_
                                              rotate_left
                                              · intro w'
                                                go_simp
                                                with_reducible rfl
                                              rotate_left
                                              · simp only [Act.put, List.setIfInBounds_toArray, List.set_cons_zero, List.set_cons_succ, i64_w, i32_w]
                                                rfl
                                              refine pure_ (i := 3) (N := some 78) (v := ?_) (a' := ?_) #[false, false, true, true, false, false, false, false, false, false] rfl rfl (any_of HT_.out (by kernel_rfl)) (fun _ _ _ h => h) (Or.inl ⟨by rfl, ?_⟩) ?_ ?_
                                              rotate_left
                                              · intro w'
                                                go_simp
                                                with_reducible rfl
                                              rotate_left
                                              · simp only [Act.put, List.setIfInBounds_toArray, List.set_cons_zero, List.set_cons_succ, i64_w, i32_w]
                                                rfl
                                              refine pure_ (i := 4) (N := some 79) (v := ?_) (a' := ?_) #[false, false, true, true, true, false, false, false, false, false] rfl rfl (any_of HT_.out (by kernel_rfl)) (fun _ _ _ h => h) (Or.inl ⟨by rfl, ?_⟩) ?_ ?_
                                              rotate_left
                                              · intro w'
                                                go_simp
                                                with_reducible rfl
                                              rotate_left
                                              · simp only [Act.put, List.setIfInBounds_toArray, List.set_cons_zero, List.set_cons_succ, i64_w, i32_w]
                                                rfl
                                              refine pure_ (i := 5) (N := some 80) (v := ?_) (a' := ?_) #[false, false, true, true, true, true, false, false, false, false] rfl rfl (any_of HT_.out (by kernel_rfl)) (fun _ _ _ h => h) (Or.inl ⟨by rfl, ?_⟩) ?_ ?_
                                              rotate_left
                                              · intro w'
                                                go_simp
                                                with_reducible rfl
                                              rotate_left
                                              · simp only [Act.put, List.setIfInBounds_toArray, List.set_cons_zero, List.set_cons_succ, i64_w, i32_w]
                                                rfl
                                              refine pure_ (i := 6) (N := some 81) (v := ?_) (a' := ?_) #[false, false, true, true, true, true, true, false, false, false] rfl rfl (any_of HT_.out (by kernel_rfl)) (fun _ _ _ h => h) (Or.inl ⟨by rfl, ?_⟩) ?_ ?_
                                              rotate_left
                                              · intro w'
                                                go_simp
                                                with_reducible rfl
                                              rotate_left
                                              · simp only [Act.put, List.setIfInBounds_toArray, List.set_cons_zero, List.set_cons_succ, i64_w, i32_w]
                                                rfl
                                              refine take_ (i := 0) (N := some 75) (v := ?_) (a' := ?_) #[true, false, true, true, true, true, true, false, false, false] rfl rfl (take_ofW HT_.out HW_.out (by kernel_rfl)) (fun _ _ _ h => h) (Or.inl ⟨by rfl, ?_⟩) hHeld ?_ ?_
                                              rotate_left
                                              · rintro w' ⟨s0, s1, s2, s3⟩
                                                go_simp
                                                with_reducible rfl
                                              rotate_left
                                              · simp only [Act.put, List.setIfInBounds_toArray, List.set_cons_zero, List.set_cons_succ, i64_w, i32_w]
                                                rfl
                                              refine take_ (i := 7) (N := some 82) (v := ?_) (a' := ?_) #[true, false, true, true, true, true, true, true, false, false] rfl rfl (take_ofW HT_.out HW_.out (by kernel_rfl)) (fun _ _ _ h => h) (Or.inl ⟨by rfl, ?_⟩) hHeld ?_ ?_
                                              rotate_left
                                              · rintro w' ⟨s0, s1, s2, s3⟩
                                                go_simp
                                                with_reducible rfl
                                              rotate_left
                                              · simp only [Act.put, List.setIfInBounds_toArray, List.set_cons_zero, List.set_cons_succ, i64_w, i32_w]
                                                rfl
                                              refine one_ (i := 1) (N := some 76) #[true, true, true, true, true, true, true, true, false, false] rfl rfl (one_of HT_.out (by kernel_rfl)) (by decide) (fun K hK => ?_)
                                              refine goes_ Try.func35 (by kernel_rfl) rfl #[.agg #[.int .i64 0, .int .i64 x12_2, .int .i64 t177]] (by rfl) rfl rfl (by (try simp only [List.map_toArray, List.map_cons, List.map_nil]); first | done | rfl | (simp only [List.length_drop, List.length_take]; rfl)) ?_
                                              with_reducible refine (impl_costOf.calls k2 0 x12_2 t177 t179 _ A37.out).mono ?_
                                              rintro e w59 ⟨rfl, hb⟩
                                              have HS3_ := (hb.cell (World.block_lt_of_cell? _ _ (hHeld.2.2.2))).trans (hHeld.2.2.2)
                                              refine ⟨_, rfl, ?_⟩
                                              have n0_ := Aside0.mk (Kd.R_below (by (with_reducible repeat (first | apply Kd.R_alloc | apply Kd.R_drewN | apply Kd.R_drew)); exact HO_6.out) hb)
                                              have n1_ := Aside0.mk (Kd.R_below (by (with_reducible repeat (first | apply Kd.R_alloc | apply Kd.R_drewN | apply Kd.R_drew)); exact HO_7.out) hb)
                                              have n2_ := Aside0.mk (Kd.R_below (by (with_reducible repeat (first | apply Kd.R_alloc | apply Kd.R_drewN | apply Kd.R_drew)); exact HO_8.out) hb)
                                              have n3_ := Aside0.mk (blk_below (g := gb178) (o := .cells #[.int .i64 0, .int .i64 x12_2, .int .i64 t177] 44 (0, 0)) (by (with_reducible repeat (first | refine blk_drewN ?_ _ | refine blk_drew ?_ | refine blk_alloc ?_ _)); exact BK178.out) hb)
                                              have n4_ := Aside0.mk (below_step (by repeat (first | (with_reducible first | exact HB.out | apply below_alloc | apply pw_below_drewN | apply below_drew1 | refine below_set ?_ GE178.out) | exact HB.out)) hb)
                                              clear HO_6
                                              clear HO_7
                                              clear HO_8
                                              clear BK178
                                              clear HB
                                              have HO_6 := n0_
                                              have HO_7 := n1_
                                              have HO_8 := n2_
                                              have BK178 := n3_
                                              have HB := n4_
                                              clear n0_ n1_ n2_ n3_ n4_
                                              (try clear hb)
                                              (try clear hb2)
                                              (try clear hk)
                                              (try clear hi)
                                              refine hK.out _ _ ⟨(blk_cell BK178.out 0).trans rfl, (blk_cell BK178.out 1).trans rfl, (blk_cell BK178.out 2).trans rfl, HS3_⟩ (fun hHeld => ?_)
                                              clear hK K
                                              refine norm_ (a' := ?_) ?_ ?_
                                              rotate_left
                                              · show Act.put _ (some 76) _ = _
                                                simp only [Act.put, List.setIfInBounds_toArray, List.set_cons_zero, List.set_cons_succ, i64_w, i32_w]
                                                rfl
                                              refine pure_ (i := 8) (N := some 83) (v := ?_) (a' := ?_) #[true, true, true, true, true, true, true, true, true, false] rfl rfl (any_of HT_.out (by kernel_rfl)) (fun _ _ _ h => h) (Or.inl ⟨by rfl, ?_⟩) ?_ ?_
                                              rotate_left
                                              · intro w'
                                                go_simp
                                                with_reducible rfl
                                              rotate_left
                                              · simp only [Act.put, List.setIfInBounds_toArray, List.set_cons_zero, List.set_cons_succ, i64_w, i32_w]
                                                rfl
                                              refine pure_ (i := 9) (N := some 14) (v := ?_) (a' := ?_) #[true, true, true, true, true, true, true, true, true, true] rfl rfl (any_of HT_.out (by kernel_rfl)) (fun _ _ _ h => h) (Or.inl ⟨by rfl, ?_⟩) ?_ ?_
                                              rotate_left
                                              · intro w'
                                                go_simp
                                                with_reducible rfl
                                              rotate_left
                                              · simp only [Act.put, List.setIfInBounds_toArray, List.set_cons_zero, List.set_cons_succ, i64_w, i32_w]
                                                rfl
                                              refine done_ (done_of HT_.out (by kernel_rfl)) ?_
                                              have p181 : 0 ≤ (x9_1 : Int) := of_decide_eq_true (by first | (with_reducible assumption) | assumption)
                                              have q181 : x9_1 < (x7_2.length : Int) := of_decide_eq_true (by first | (with_reducible assumption) | assumption)
                                              obtain ⟨ad181, e181, hx181_0⟩ := Kd.at_int (Kd.R_reads' HO_7.out).2.2 x9_1 p181 q181
                                              obtain rfl : (⟨go27, 0, none⟩ : Addr) = ad181 := (by injection e181)
                                              (first | simp only [add_plain] at hx181_0 | simp only [add_at] at hx181_0 | simp only [Addr.add, Nat.zero_add] at hx181_0 | skip)
                                              replace p181 := eq_true p181
                                              replace q181 := eq_true q181
                                              try go_wp2
                                              (try simp only [← hl7_2, ← hl8_2])
                                              go_roundg k2
                                              case measure => have := HK1.out; have := HK2.out; omega
                                              case rel => exact ⟨(x7_2), (x8_2), (wrap64 (x12_2 + 1)), (by first | rfl | (simp; done) | (simp [*]; done)), H', ⟨by have := HK1.out; have := HK2.out; omega⟩, ⟨by (try simp only [hl7_2]); (try simp only [hl8_2]); (with_reducible repeat (first | apply Kd.R_alloc | apply Kd.R_drewN | apply Kd.R_drew)); exact HO_6.out⟩, ⟨by (try simp only [hl7_2]); (try simp only [hl8_2]); (with_reducible repeat (first | apply Kd.R_alloc | apply Kd.R_drewN | apply Kd.R_drew)); exact HO_7.out⟩, ⟨by (try simp only [hl7_2]); (try simp only [hl8_2]); (with_reducible repeat (first | apply Kd.R_alloc | apply Kd.R_drewN | apply Kd.R_drew)); exact Kd.R_mono HO_8.out (fun _ hk => trivial)⟩, ⟨by repeat (first | (with_reducible first | exact HB.out | apply below_alloc | apply pw_below_drewN | apply below_drew1 | refine below_set ?_ GE178.out) | exact HB.out)⟩⟩
                                          · rw [if_neg c42] at H
                                            exact absurd H (by simp)
                                        · rw [if_neg c41] at H
                                          exact absurd H (by simp)
                                      · rw [if_neg c40] at H
                                        exact absurd H (by simp)
                                    · rw [if_neg c39] at H
                                      exact absurd H (by simp)
                                  · rw [if_neg c36] at H
                                    have c36b0 : decide (x12_2 ≤ t176) = false := decide_eq_false c36
                                    clear c36
                                    have H' := Aside0.mk H
                                    clear H
                                    go_wp2
                                    (try simp only [← hl7_2, ← hl8_2])
                                    go_roundg k2
                                    case measure => have := HK1.out; have := HK2.out; omega
                                    case rel => exact ⟨(x7_2), (x8_2), (wrap64 (x9_1 - 1)), (by first | rfl | (simp; done) | (simp [*]; done)), H', ⟨by have := HK1.out; have := HK2.out; omega⟩, ⟨by (try simp only [hl7_2]); (try simp only [hl8_2]); (with_reducible repeat (first | apply Kd.R_alloc | apply Kd.R_drewN | apply Kd.R_drew)); exact HO_6.out⟩, ⟨by (try simp only [hl7_2]); (try simp only [hl8_2]); (with_reducible repeat (first | apply Kd.R_alloc | apply Kd.R_drewN | apply Kd.R_drew)); exact HO_7.out⟩, ⟨by (try simp only [hl7_2]); (try simp only [hl8_2]); (with_reducible repeat (first | apply Kd.R_alloc | apply Kd.R_drewN | apply Kd.R_drew)); exact HO_8.out⟩, ⟨by repeat (first | (with_reducible first | exact HB.out | apply below_alloc | apply pw_below_drewN | apply below_drew1) | exact HB.out)⟩⟩
                            · rw [if_neg c26] at H
                              exact absurd H (by simp)
                          · rw [if_neg c25] at H
                            exact absurd H (by simp)
                        · rw [if_neg c24] at H
                          exact absurd H (by simp)
                      · rw [if_neg c20] at H
                        exact absurd H (by simp)
                    · rw [if_neg c18] at H
                      exact absurd H (by simp)
                  · rw [if_neg c17] at H
                    exact absurd H (by simp)
                · rw [if_neg c16] at H
                  have c16b0 : decide (0 ≤ x9_1) = false := decide_eq_false c16
                  clear c16
                  obtain ⟨y184, hy184⟩ : ∃ y_ : List (S44), y_ = (([] : List (S44))) := ⟨_, rfl⟩
                  replace H : (impl_Cheapest.l2 k1 a0 x8_1 y184 0) = some (r1, r2) := by first | (rw [hy184]; with_reducible exact H) | (have H2_ := (Option.bind_some _ _).symm.trans H; rw [hy184]; with_reducible exact H2_) | (have H2_ := (Option.bind_some _ _).symm.trans H; with_reducible exact H2_) | with_reducible exact H | (rw [hy184]; exact H) | exact H
                  have Ny184 := Aside0.mk hy184
                  clear hy184
                  have H' := Aside0.mk H
                  clear H
                  go_wp2_with (first | ((with_reducible refine gate_dst (N := 98) rfl ?_); refine Kd.R_lit k44 _ 44 ?hg (N := 98) ?hd (xs := ([] : List (S44))) (inner := []) (ok := fun _ => True) (okp := fun _ => True) ?hr ?hp (fun _ hk => hk) trivial (Below.refl _ _) (Nat.le_refl _) (by simp) ?_; (case hd => rfl); (case hg => rfl); (case hr => first | (go_simp; done) | (go_simp; rfl)); (case hp => exact (Reps.none _ _)); intro v185 w60 ho61 hb hg_ hnew_; clear hg_ hnew_; (first | rw [← Ny184.out] at ho61 | (simp only [Int.reduceToNat] at ho61; rw [← Ny184.out] at ho61)); have n0_ := Aside0.mk (Kd.R_below (by (with_reducible repeat (first | apply Kd.R_alloc | apply Kd.R_drewN | apply Kd.R_drew)); exact HO_6.out) hb); have n1_ := Aside0.mk (Kd.R_below (by (with_reducible repeat (first | apply Kd.R_alloc | apply Kd.R_drewN | apply Kd.R_drew)); exact HO_7.out) hb); have n2_ := Aside0.mk (Kd.R_elder' (by (with_reducible repeat (first | apply Kd.R_alloc | apply Kd.R_drewN | apply Kd.R_drew)); exact HO_8.out) (Kd.R_base ho61) hb); have n3_ := Aside0.mk (Kd.R_lower (Kd.R_new' ho61 (Kd.R_lt (by (with_reducible repeat (first | apply Kd.R_alloc | apply Kd.R_drewN | apply Kd.R_drew)); exact HO_8.out))) (below_size (by repeat (first | (with_reducible first | exact HB.out | apply below_alloc | apply pw_below_drewN | apply below_drew1) | exact HB.out)))); have n4_ := Aside0.mk (below_step (by repeat (first | (with_reducible first | exact HB.out | apply below_alloc | apply pw_below_drewN | apply below_drew1) | exact HB.out)) hb); clear HO_6; clear HO_7; clear HO_8; clear HB; have HO_6 := n0_; have HO_7 := n1_; have HO_8 := n2_; have HO186 := n3_; have HB := n4_; clear n0_ n1_ n2_ n3_ n4_; clear hb ho61))
                  go_loopg [15, 16] k1 (fun kq v15 v16 w' => ∃ (x15_2 : List (S44)) (x16_2 : Int), v16 = .int .i64 x16_2 ∧ Aside0 (impl_Cheapest.l2 kq a0 x8_1 x15_2 x16_2 = some (r1, r2)) ∧ Aside0 (kq ≤ k1) ∧ Aside0 (Kd.R k44 44 w' w.heap.size (fun k_ => some k_ ≠ (v15 : Value).ownBlock) v169 x8_1) ∧ Aside0 (Kd.R k44 44 w' w.heap.size (fun k_ => some k_ ≠ (v169 : Value).ownBlock) v15 x15_2) ∧ Aside0 (Below w.heap.size w w'))
                  case atStart => exact ⟨(y184), (0), (by first | rfl | (simp; done) | (simp [*]; done)), H', ⟨Nat.le_refl _⟩, ⟨by (with_reducible repeat (first | apply Kd.R_alloc | apply Kd.R_drewN | apply Kd.R_drew)); exact Kd.R_mono HO_8.out (fun _ hk => hk.2)⟩, ⟨by (with_reducible repeat (first | apply Kd.R_alloc | apply Kd.R_drewN | apply Kd.R_drew)); exact Kd.R_mono HO186.out (fun _ hk => hk.2)⟩, ⟨by repeat (first | (with_reducible first | exact HB.out | apply below_alloc | apply pw_below_drewN | apply below_drew1) | exact HB.out)⟩⟩
                  case round =>
                    clear H'
                    try clear c1
                    try clear p1
                    try clear q1
                    try clear hx1
                    try clear c2
                    try clear p2
                    try clear q2
                    try clear hx2
                    try clear hf2
                    try clear c3
                    try clear c4
                    try clear p4
                    try clear q4
                    try clear hx4
                    try clear hf4
                    try clear c5
                    try clear p6
                    try clear c16
                    try clear c16b0
                    try clear c17
                    try clear p17
                    try clear q17
                    try clear hx17
                    try clear c18
                    try clear p18
                    try clear q18
                    try clear hx18
                    try clear p19
                    try clear q19
                    try clear c20
                    try clear p21
                    try clear q21
                    try clear hx21
                    try clear c24
                    try clear c25
                    try clear c25b0
                    try clear c26
                    try clear c26b0
                    try clear c27
                    try clear p27
                    try clear q27
                    try clear hx27
                    try clear hf27
                    try clear c29
                    try clear hx29
                    try clear hf29
                    try clear c30
                    try clear c35
                    try clear c36
                    try clear c36b0
                    try clear c39
                    try clear c39b0
                    try clear c40
                    try clear c40b0
                    try clear c41
                    try clear c41b0
                    try clear c42
                    try clear c42b0
                    try clear c43
                    try clear c43b0
                    try clear p44
                    try clear q44
                    try clear hx44
                    try clear hf44
                    try clear c45
                    try clear c45b0
                    try clear c46
                    try clear p46
                    try clear q46
                    try clear hx46
                    try clear hf46
                    try clear c54
                    try clear hcz48_0
                    try clear hcz48_1
                    try clear hcz48_2
                    try clear hcz56_0
                    try clear hcz56_1
                    try clear hcz56_2
                    try clear hfz48_0
                    try clear hfz48_1
                    try clear hfz48_2
                    try clear hfz56_0
                    try clear hfz56_1
                    try clear hfz56_2
                    try clear hx172_0
                    try clear hx172_1
                    try clear hx172_2
                    try clear hx174_0
                    try clear hx180_0
                    try clear hx181_0
                    try clear hx21_0
                    try clear hx21_1
                    try clear hx21_2
                    try clear hx27_0
                    try clear hx29_0
                    try clear hx29_1
                    try clear hx29_2
                    try clear hx44_0
                    try clear hx46_0
                    try clear hx46_1
                    try clear hx46_2
                    try clear p172
                    try clear p174
                    try clear p180
                    try clear p181
                    try clear p19
                    try clear p2
                    try clear p21
                    try clear p27
                    try clear p44
                    try clear p46
                    try clear p6
                    try clear q172
                    try clear q174
                    try clear q180
                    try clear q181
                    try clear q19
                    try clear q21
                    try clear q27
                    try clear q44
                    try clear q46
                    obtain ⟨x15_2, x16_2, rfl, HA, HK2, HO_8, HO_15, HB⟩ := hrel
                    cases gk with
                    | zero => exact absurd HA.out (by simp [impl_Cheapest.l2])
                    | succ k2 =>
                      have H := HA.out
                      clear HA
                      simp only [impl_Cheapest.l2] at H
                      by_cases c62 : x16_2 < (a0.size : Int)
                      · rw [if_pos c62] at H
                        have c62b0 : decide (x16_2 < (a0.size : Int)) = true := decide_eq_true c62
                        clear c62
                        by_cases c63 : 0 ≤ x16_2
                        · rw [if_pos c63] at H
                          have c63b0 : decide (0 ≤ x16_2) = true := decide_eq_true c63
                          clear c63
                          by_cases c64 : x16_2 < (x8_1.length : Int)
                          · rw [if_pos c64] at H
                            have c64b0 : decide (x16_2 < (x8_1.length : Int)) = true := decide_eq_true c64
                            clear c64
                            by_cases c65 : x15_2.length < 5864062014805
                            · rw [if_pos c65] at H
                              have LMc65 := Aside0.mk c65
                              clear c65
                              obtain ⟨y188, hy188⟩ : ∃ y_ : List (S44), y_ = (x15_2 ++ [(⟨(rd_T44 x8_1 x16_2).f0, (rd_T44 x8_1 x16_2).f1, (rd_T44 x8_1 x16_2).f2⟩ : S44)]) := ⟨_, rfl⟩
                              replace H : (impl_Cheapest.l2 k2 a0 x8_1 y188 (wrap64 (x16_2 + (mx 1 ((rd_T44 x8_1 x16_2).f1))))) = some (r1, r2) := by first | (rw [hy188]; with_reducible exact H) | (have H2_ := (Option.bind_some _ _).symm.trans H; rw [hy188]; with_reducible exact H2_) | (have H2_ := (Option.bind_some _ _).symm.trans H; with_reducible exact H2_) | with_reducible exact H | (rw [hy188]; exact H) | exact H
                              have Ny188 := Aside0.mk hy188
                              clear hy188
                              obtain ⟨ji66, hji66⟩ : ∃ j_ : Int, (mx 1 ((rd_T44 x8_1 x16_2).f1)) = j_ := ⟨_, rfl⟩
                              replace H : (impl_Cheapest.l2 k2 a0 x8_1 y188 (wrap64 (x16_2 + (ji66)))) = some (r1, r2) := by first | (rw [hji66] at H; exact H) | (simp only [hji66] at H ⊢; exact H)
                              have hji66_ : (if 1 < ((rd_T44 x8_1 x16_2).f1) then ((rd_T44 x8_1 x16_2).f1) else 1) = ji66 := hji66
                              have H' := Aside0.mk H
                              clear H
                              obtain ⟨Ao67, co67, eo67⟩ := Kd.R_slice HO_8.out
                              subst eo67
                              have p187 : 0 ≤ (x16_2 : Int) := of_decide_eq_true (by first | (with_reducible assumption) | assumption)
                              have q187 : x16_2 < (x8_1.length : Int) := of_decide_eq_true (by first | (with_reducible assumption) | assumption)
                              obtain ⟨ad187, e187, hx187_0, hx187_1, hx187_2⟩ := at_T44 (Kd.R_reads' HO_8.out).2.2 x16_2 p187 q187
                              cases e187
                              replace p187 := eq_true p187
                              replace q187 := eq_true q187
                              go_wp2_with (first | ((with_reducible refine gate_builtin (b := .append) (xs := #[.tmp 103, .tmp 108]) rfl ?_); at_builtin; refine Kd.R_append k44 (w0 := w) w.heap.size rfl (.tmp 103) (.tmp 108) 25 44 (.agg #[(.int .i64 0), (.int .i64 0), (.int .i64 0)]) 24 rfl Try.underlying25 info44 rfl (by decide) (by omega) u15 x15_2 (⟨(rd_T44 x8_1 x16_2).f0, (rd_T44 x8_1 x16_2).f1, (rd_T44 x8_1 x16_2).f2⟩ : S44) [.int .i64 ((rd_T44 x8_1 x16_2).f0), .int .i64 ((rd_T44 x8_1 x16_2).f1), .int .i64 ((rd_T44 x8_1 x16_2).f2)] (fun k_ => some k_ ≠ (.slice (some ad187) x8_1.length co67 : Value).ownBlock) (fun _ => False) rfl rfl ?aP (fun _ hk => hk.elim) ?aF ?aO ?aB ?aS ?aL ?_; (case aP => exact k44_mkM _ _ _ (⟨(rd_T44 x8_1 x16_2).f0, (rd_T44 x8_1 x16_2).f1, (rd_T44 x8_1 x16_2).f2⟩ : S44)); (case aB => exact (by repeat (first | (with_reducible first | exact HB.out | apply below_alloc | apply pw_below_drewN | apply below_drew1) | exact HB.out))); (case aF => exact (fun k_ hk => Kd.fresh' (Kd.R_lt (by (with_reducible repeat (first | apply Kd.R_alloc | apply Kd.R_drewN | apply Kd.R_drew)); exact HO_8.out)) k_ hk)); (case aO => exact (by (with_reducible repeat (first | apply Kd.R_alloc | apply Kd.R_drewN | apply Kd.R_drew)); exact HO_15.out)); (case aS => exact (below_size (by repeat (first | (with_reducible first | exact HB.out | apply below_alloc | apply pw_below_drewN | apply below_drew1) | exact HB.out)))); (case aL => have := LMc65.out; omega); intro v189 w68 ho hb hg hat; rw [← Ny188.out] at ho; have n0_ := Aside0.mk (Kd.R_after (ok := (fun _ => True)) (by (with_reducible repeat (first | apply Kd.R_alloc | apply Kd.R_drewN | apply Kd.R_drew)); exact Kd.R_mono HO_8.out (fun _ hk => ⟨trivial, hk⟩)) hg hat); have n1_ := Aside0.mk (hb); have n2_ := Aside0.mk (ho); clear HO_8; clear HB; clear HO_15; have HO_8 := n0_; have HB := n1_; have HO190 := n2_; clear n0_ n1_ n2_; clear ho hb hg hat; have p191 : 0 ≤ (x16_2 : Int) := of_decide_eq_true (by first | (with_reducible assumption) | assumption); have q191 : x16_2 < (x8_1.length : Int) := of_decide_eq_true (by first | (with_reducible assumption) | assumption); obtain ⟨ad191, e191, hx191_0, hx191_1, hx191_2⟩ := at_T44 (Kd.R_reads' HO_8.out).2.2 x16_2 p191 q191; obtain rfl : ad187 = ad191 := (by injection e191); replace p191 := eq_true p191; replace q191 := eq_true q191))
                              go_roundg k2
                              case measure => have := HK1.out; have := HK2.out; omega
                              case rel => exact ⟨(y188), (wrap64 (x16_2 + (ji66))), (by first | rfl | (simp; done) | (simp only [← hji66] <;> (first | rfl | simp)) | (simp [*]; done)), H', ⟨by have := HK1.out; have := HK2.out; omega⟩, ⟨by (with_reducible repeat (first | apply Kd.R_alloc | apply Kd.R_drewN | apply Kd.R_drew)); exact Kd.R_mono HO_8.out (fun _ hk => hk.2)⟩, ⟨by (with_reducible repeat (first | apply Kd.R_alloc | apply Kd.R_drewN | apply Kd.R_drew)); exact HO190.out⟩, ⟨by repeat (first | (with_reducible first | exact HB.out | apply below_alloc | apply pw_below_drewN | apply below_drew1) | exact HB.out)⟩⟩
                            · rw [if_neg c65] at H
                              exact absurd H (by simp)
                          · rw [if_neg c64] at H
                            exact absurd H (by simp)
                        · rw [if_neg c63] at H
                          exact absurd H (by simp)
                      · rw [if_neg c62] at H
                        have c62b0 : decide (x16_2 < (a0.size : Int)) = false := decide_eq_false c62
                        clear c62
                        simp only [Option.some.injEq, Prod.mk.injEq] at H
                        obtain ⟨rfl, rfl⟩ := H
                        go_wp2
                        go_ret2
                        exact ⟨_, by first | rfl | (simp [errW_none, errW_some] <;> rfl) | (simp only [← hji6]; first | rfl | (simp [errW_none, errW_some] <;> rfl)) | (simp [*, errW_none, errW_some] <;> rfl), by (with_reducible repeat (first | apply Kd.R_alloc | apply Kd.R_drewN | apply Kd.R_drew)); exact Kd.R_mono HO_15.out (fun _ hk => trivial), by repeat (first | (with_reducible first | exact HB.out | apply below_alloc | apply pw_below_drewN | apply below_drew1) | exact HB.out)⟩
          · rw [if_neg c10] at H
            exact absurd H (by simp)
        · rw [if_neg c9] at H
          exact absurd H (by simp)
      · rw [if_neg c8] at H
        exact absurd H (by simp)
    · rw [if_neg c7] at H
      exact absurd H (by simp)
  · replace c4 := Bool.eq_false_iff.mpr c4
    subst c4
    have H1 : (some (([] : List (S44)), false)) = some (r1, r2) := by rw [if_neg (show ¬ (false = true) by decide)] at H; exact H
    clear H
    have H := H1
    clear H1
    simp only [Option.some.injEq, Prod.mk.injEq] at H
    obtain ⟨rfl, rfl⟩ := H
    go_enter Try.func19, Try.ntmps19
    go_wp2_with (first | ((with_reducible refine gate_callee (f := 27) rfl ?_); refine goesL_ (some 19) rfl rfl Try.func27 (by kernel_rfl) rfl #[.string a0, .int .i64 a1] rfl (by (try simp only [List.map_toArray, List.map_cons, List.map_nil]); first | done | rfl | (simp only [List.length_drop, List.length_take]; rfl)) ?_; (with_reducible refine (impl_searchOk.calls a0 a1 false _ A3.out).mono ?_); rintro e w' ⟨rfl, ⟨nd, rfl⟩⟩; refine ⟨_, rfl, ?_⟩))
    go_ret2
    exact ⟨_, by first | rfl | (simp [errW_none, errW_some] <;> rfl) | (simp [*, errW_none, errW_some] <;> rfl), by first | exact Kd.R_nil _ _ _ _ _ | exact Kd.N_nil _ _ _ _ _ | exact Kd.V_nil _ _ _ _ _ | exact Kd.Q_nil _ _ _ _ _ | exact Kd.S_nil _ _ _ _ _, by repeat (first | (with_reducible first | exact HB.out | apply below_alloc | apply pw_below_drewN | apply below_drew1) | exact HB.out)⟩

end Go.Proofs.Ytaaoojmbomhakaa.PFnCheapest
