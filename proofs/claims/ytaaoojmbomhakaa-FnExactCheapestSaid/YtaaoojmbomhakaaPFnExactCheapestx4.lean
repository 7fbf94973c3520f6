-- Written by a program of this session (a changed print); Lean checks it.
import Derived.Test.YtaaoojmbomhakaaPFnExactCheapestx0
import Derived.Test.YtaaoojmbomhakaaPFnExactCheapestx2
import Derived.Test.YtaaoojmbomhakaaPFnExactCheapestx3
namespace Go.Proofs.Ytaaoojmbomhakaa.PFnExactCheapest
open Go.RowKit Go.Proofs.YtaaoojmbomhakaaW.PrintWords Go.Proofs.YtaaoojmbomhakaaW.PrintLast Go.Proofs.YtaaoojmbomhakaaW.PrintMore
attribute [local go_sem] max2_int min2_int max_two min_two max_three min_three max_four min_four   -- for this text's walks alone
set_option linter.unusedVariables false
set_option linter.unusedSimpArgs false

/-! ### spec_Cheapest: function 18 -/
mutual
def spec_Cheapest.l0 : Nat → ByteArray → Int → List (S44) → Int → List Int → List (S44) → Int → Option ((List (S44)) × Bool)
  | 0, _, _, _, _, _, _, _ => none
  | k + 1, x0, x1, x6, x7, x8, x9, x10 => if x10 ≥ 0 then (if 0 ≤ x10 then (if x10 < (x0.size : Int) then (if x10 < (x9.length : Int) then ((some (x9.set (x10 : Int).toNat (⟨wrap64 (bt x0 x10), 0, 0⟩ : S44) : List (S44))).bind fun y141 => ((spec_l07Cost.f k ((rd_T44 y141 x10).f0) ((rd_T44 y141 x10).f1) ((rd_T44 y141 x10).f2)).bind fun t143 => (if 0 ≤ (wrap64 (x10 + 1)) then (if (wrap64 (x10 + 1)) < (x8.length : Int) then (if x10 < (x8.length : Int) then ((spec_BestMatch.f k x0 x10 x1).bind fun bt146 => (spec_Cheapest.l1 k x0 x1 x6 x7 (x8.set (x10 : Int).toNat (wrap64 (t143 + (rd x8 (wrap64 (x10 + 1)))))) y141 x10 bt146.1 bt146.2 3)) else (none)) else (none)) else (none)))) else (none)) else (none)) else (none)) else (spec_Cheapest.l2 k x6 x7 x9 0)
def spec_Cheapest.l1 : Nat → ByteArray → Int → List (S44) → Int → List Int → List (S44) → Int → Int → Int → Int → Option ((List (S44)) × Bool)
  | 0, _, _, _, _, _, _, _, _, _, _ => none
  | k + 1, x0, x1, x6, x7, x8, x9, x10, x11, x12, x13 => if x13 ≤ x11 then ((spec_l07Cost.f k 0 x13 x12).bind fun t149 => (if 0 ≤ (wrap64 (x10 + x13)) then (if (wrap64 (x10 + x13)) < (x8.length : Int) then (if 0 ≤ x10 then (if x10 < (x8.length : Int) then (if (wrap64 (t149 + (rd x8 (wrap64 (x10 + x13))))) < (rd x8 x10) then (if x10 < (x9.length : Int) then (spec_Cheapest.l1 k x0 x1 x6 x7 (x8.set (x10 : Int).toNat (wrap64 (t149 + (rd x8 (wrap64 (x10 + x13)))))) (x9.set (x10 : Int).toNat (⟨0, x13, x12⟩ : S44)) x10 x11 x12 (wrap64 (x13 + 1))) else (none)) else (spec_Cheapest.l1 k x0 x1 x6 x7 x8 x9 x10 x11 x12 (wrap64 (x13 + 1)))) else (none)) else (none)) else (none)) else (none))) else (spec_Cheapest.l0 k x0 x1 x6 x7 x8 x9 (wrap64 (x10 - 1)))
def spec_Cheapest.l2 : Nat → List (S44) → Int → List (S44) → Int → Option ((List (S44)) × Bool)
  | 0, _, _, _, _ => none
  | k + 1, x6, x7, x9, x16 => if x16 < x7 then (if 0 ≤ x16 then (if x16 < (x9.length : Int) then (if x6.length < 5864062014805 then ((some (x6 ++ [(⟨(rd_T44 x9 x16).f0, (rd_T44 x9 x16).f1, (rd_T44 x9 x16).f2⟩ : S44)] : List (S44))).bind fun y155 => (if ((rd_T44 x9 x16).f1) = 0 then (spec_Cheapest.l2 k y155 x7 x9 (wrap64 (x16 + 1))) else (spec_Cheapest.l2 k y155 x7 x9 (wrap64 (x16 + ((rd_T44 x9 x16).f1)))))) else (none)) else (none)) else (none)) else (some (x6, true))
end
def spec_Cheapest.f (k : Nat) (a0 : ByteArray) (a1 : Int) : Option ((List (S44)) × Bool) := (some (([] : List (S44)) : List (S44))).bind fun y131 => ((spec_l07Ok.f a0 a1).bind fun t134 => (if t134 = true then (if 0 ≤ (wrap64 ((a0.size : Int) + 1)) then (if (wrap64 ((a0.size : Int) + 1) : Int).toNat ≤ 35184372088832 then (if 0 ≤ (a0.size : Int) then (if ((a0.size : Int) : Int).toNat ≤ 11728124029610 then (spec_Cheapest.l0 k a0 a1 y131 (a0.size : Int) (List.replicate (wrap64 ((a0.size : Int) + 1) : Int).toNat 0) (List.replicate ((a0.size : Int) : Int).toNat z44) (wrap64 ((a0.size : Int) - 1))) else (none)) else (none)) else (none)) else (none)) else (some (y131, false))))
theorem spec_Cheapest.mono_l : ∀ k, (∀ y0 y1 y2 y3 y4 y5 y6, LeO (spec_Cheapest.l0 k y0 y1 y2 y3 y4 y5 y6) (spec_Cheapest.l0 (k + 1) y0 y1 y2 y3 y4 y5 y6)) ∧ (∀ y0 y1 y2 y3 y4 y5 y6 y7 y8 y9, LeO (spec_Cheapest.l1 k y0 y1 y2 y3 y4 y5 y6 y7 y8 y9) (spec_Cheapest.l1 (k + 1) y0 y1 y2 y3 y4 y5 y6 y7 y8 y9)) ∧ (∀ y0 y1 y2 y3, LeO (spec_Cheapest.l2 k y0 y1 y2 y3) (spec_Cheapest.l2 (k + 1) y0 y1 y2 y3))
  | 0 => ⟨fun _ _ _ _ _ _ _ r h => by simp [spec_Cheapest.l0] at h, fun _ _ _ _ _ _ _ _ _ _ r h => by simp [spec_Cheapest.l1] at h, fun _ _ _ _ r h => by simp [spec_Cheapest.l2] at h⟩
  | k + 1 => by
    obtain ⟨ih0, ih1, ih2⟩ := spec_Cheapest.mono_l k
    refine ⟨?_, ?_, ?_⟩
    · intro y0 y1 y2 y3 y4 y5 y6
      unfold spec_Cheapest.l0
      repeat' first
      | (with_reducible exact ih0 _ _ _ _ _ _ _)
      | (with_reducible exact ih1 _ _ _ _ _ _ _ _ _ _)
      | (with_reducible exact ih2 _ _ _ _)
      | (with_reducible exact spec_BestMatch.mono _ _ _ _)
      | (with_reducible exact spec_l07Cost.mono _ _ _ _)
      | (with_reducible exact LeO.refl _)
      | (with_reducible exact LeO.none _)
      | (with_reducible refine LeO.ite ?_ ?_)
      | (with_reducible refine LeO.bind ?_ (fun _ => ?_))
      | exact ih0 _ _ _ _ _ _ _
      | exact ih1 _ _ _ _ _ _ _ _ _ _
      | exact ih2 _ _ _ _
      | exact spec_BestMatch.mono _ _ _ _
      | exact spec_l07Cost.mono _ _ _ _
      | exact LeO.none _
      | refine LeO.ite ?_ ?_
      | refine LeO.bind ?_ (fun _ => ?_)
    · intro y0 y1 y2 y3 y4 y5 y6 y7 y8 y9
      unfold spec_Cheapest.l1
      repeat' first
      | (with_reducible exact ih0 _ _ _ _ _ _ _)
      | (with_reducible exact ih1 _ _ _ _ _ _ _ _ _ _)
      | (with_reducible exact ih2 _ _ _ _)
      | (with_reducible exact spec_BestMatch.mono _ _ _ _)
      | (with_reducible exact spec_l07Cost.mono _ _ _ _)
      | (with_reducible exact LeO.refl _)
      | (with_reducible exact LeO.none _)
      | (with_reducible refine LeO.ite ?_ ?_)
      | (with_reducible refine LeO.bind ?_ (fun _ => ?_))
      | exact ih0 _ _ _ _ _ _ _
      | exact ih1 _ _ _ _ _ _ _ _ _ _
      | exact ih2 _ _ _ _
      | exact spec_BestMatch.mono _ _ _ _
      | exact spec_l07Cost.mono _ _ _ _
      | exact LeO.none _
      | refine LeO.ite ?_ ?_
      | refine LeO.bind ?_ (fun _ => ?_)
    · intro y0 y1 y2 y3
      unfold spec_Cheapest.l2
      repeat' first
      | (with_reducible exact ih0 _ _ _ _ _ _ _)
      | (with_reducible exact ih1 _ _ _ _ _ _ _ _ _ _)
      | (with_reducible exact ih2 _ _ _ _)
      | (with_reducible exact spec_BestMatch.mono _ _ _ _)
      | (with_reducible exact spec_l07Cost.mono _ _ _ _)
      | (with_reducible exact LeO.refl _)
      | (with_reducible exact LeO.none _)
      | (with_reducible refine LeO.ite ?_ ?_)
      | (with_reducible refine LeO.bind ?_ (fun _ => ?_))
      | exact ih0 _ _ _ _ _ _ _
      | exact ih1 _ _ _ _ _ _ _ _ _ _
      | exact ih2 _ _ _ _
      | exact spec_BestMatch.mono _ _ _ _
      | exact spec_l07Cost.mono _ _ _ _
      | exact LeO.none _
      | refine LeO.ite ?_ ?_
      | refine LeO.bind ?_ (fun _ => ?_)
theorem spec_Cheapest.mono : ∀ a0 a1 k, LeO (spec_Cheapest.f k a0 a1) (spec_Cheapest.f (k + 1) a0 a1) := by
  intro a0 a1 k
  obtain ⟨ih0, ih1, ih2⟩ := spec_Cheapest.mono_l k
  unfold spec_Cheapest.f
  repeat' first
      | (with_reducible exact ih0 _ _ _ _ _ _ _)
      | (with_reducible exact ih1 _ _ _ _ _ _ _ _ _ _)
      | (with_reducible exact ih2 _ _ _ _)
      | (with_reducible exact spec_BestMatch.mono _ _ _ _)
      | (with_reducible exact spec_l07Cost.mono _ _ _ _)
      | (with_reducible exact LeO.refl _)
      | (with_reducible exact LeO.none _)
      | (with_reducible refine LeO.ite ?_ ?_)
      | (with_reducible refine LeO.bind ?_ (fun _ => ?_))
      | exact ih0 _ _ _ _ _ _ _
      | exact ih1 _ _ _ _ _ _ _ _ _ _
      | exact ih2 _ _ _ _
      | exact spec_BestMatch.mono _ _ _ _
      | exact spec_l07Cost.mono _ _ _ _
      | exact LeO.none _
      | refine LeO.ite ?_ ?_
      | refine LeO.bind ?_ (fun _ => ?_)
def spec_Cheapest.T11 : Bool × List (List Nat × List Nat) := (true, [([], []), ([], []), ([], []), ([], []), ([2, 3], [2, 3]), ([4], [4]), ([5], [5]), ([], []), ([], []), ([8], [8]), ([7, 9], [7, 9]), ([10], [10]), ([6, 11], [6, 11]), ([0, 1, 0, 1, 2, 3, 4, 5, 6, 7, 8, 9, 10, 11, 12], [0, 1]), ([13, 12, 6, 0, 1, 2, 3, 4, 5, 6, 7, 8, 9, 10, 11, 12], [12, 13])])
def spec_Cheapest.B11 : List Nat := [0, 0, 0, 0, 12, 28, 60, 0, 0, 256, 896, 1920, 4092, 8191, 16383]
theorem spec_Cheapest.tab11 : rtab .any (opsOf Try.f18 11) = spec_Cheapest.T11 := by kernel_rfl
theorem spec_Cheapest.bits11 : waitsOk spec_Cheapest.T11.2 spec_Cheapest.B11 = true := by kernel_rfl
def spec_Cheapest.T17 : Bool × List (List Nat × List Nat) := (true, [([], []), ([0], [0]), ([], []), ([], []), ([], []), ([3, 4], [3, 4]), ([2, 5], [2, 5]), ([6], [6]), ([1, 7], [1, 7]), ([8, 1, 0, 1, 2, 3, 4, 5, 6, 7, 8], [8])])
def spec_Cheapest.B17 : List Nat := [0, 1, 0, 0, 0, 24, 60, 124, 255, 511]
theorem spec_Cheapest.tab17 : rtab .any (opsOf Try.f18 17) = spec_Cheapest.T17 := by kernel_rfl
theorem spec_Cheapest.bits17 : waitsOk spec_Cheapest.T17.2 spec_Cheapest.B17 = true := by kernel_rfl
set_option maxHeartbeats 8000000 in
set_option maxRecDepth 100000 in
theorem spec_Cheapest.calls (k : Nat) (a0 : ByteArray) (a1 : Int) (r1 : List (S44)) (r2 : Bool) (w : World) (h : spec_Cheapest.f k a0 a1 = some (r1, r2)) :
    Calls Try.prog 18 #[.string a0, .int .i64 a1] w fun e w' => ∃ v0_ : Value, e = .returned (.tuple #[v0_, .bool r2]) ∧ Kd.R k44 44 w' w.heap.size (fun _ => True) v0_ r1 ∧ Below w.heap.size w w' := by
  have hu44 := Try.underlying44
  have HB := Aside0.mk (Below.refl w.heap.size w)
  have H : ((some (([] : List (S44)) : List (S44))).bind fun y131 => ((spec_l07Ok.f a0 a1).bind fun t134 => (if t134 = true then (if 0 ≤ (wrap64 ((a0.size : Int) + 1)) then (if (wrap64 ((a0.size : Int) + 1) : Int).toNat ≤ 35184372088832 then (if 0 ≤ (a0.size : Int) then (if ((a0.size : Int) : Int).toNat ≤ 11728124029610 then (spec_Cheapest.l0 k a0 a1 y131 (a0.size : Int) (List.replicate (wrap64 ((a0.size : Int) + 1) : Int).toNat 0) (List.replicate ((a0.size : Int) : Int).toNat z44) (wrap64 ((a0.size : Int) - 1))) else (none)) else (none)) else (none)) else (none)) else (some (y131, false))))) = some (r1, r2) := h
  clear h
  obtain ⟨y131, hy131⟩ : ∃ y_ : List (S44), y_ = (([] : List (S44))) := ⟨_, rfl⟩
  replace H : ((spec_l07Ok.f a0 a1).bind fun t134 => (if t134 = true then (if 0 ≤ (wrap64 ((a0.size : Int) + 1)) then (if (wrap64 ((a0.size : Int) + 1) : Int).toNat ≤ 35184372088832 then (if 0 ≤ (a0.size : Int) then (if ((a0.size : Int) : Int).toNat ≤ 11728124029610 then (spec_Cheapest.l0 k a0 a1 y131 (a0.size : Int) (List.replicate (wrap64 ((a0.size : Int) + 1) : Int).toNat 0) (List.replicate ((a0.size : Int) : Int).toNat z44) (wrap64 ((a0.size : Int) - 1))) else (none)) else (none)) else (none)) else (none)) else (some (y131, false)))) = some (r1, r2) := by first | (rw [hy131]; with_reducible exact H) | (have H2_ := (Option.bind_some _ _).symm.trans H; rw [hy131]; with_reducible exact H2_) | (have H2_ := (Option.bind_some _ _).symm.trans H; with_reducible exact H2_) | with_reducible exact H | (rw [hy131]; exact H) | exact H
  have Ny131 := Aside0.mk hy131
  clear hy131
  replace H := Option.bind_eq_some_iff.mp H
  obtain ⟨t134, A30, H⟩ := H
  replace H : (if t134 = true then (if 0 ≤ (wrap64 ((a0.size : Int) + 1)) then (if (wrap64 ((a0.size : Int) + 1) : Int).toNat ≤ 35184372088832 then (if 0 ≤ (a0.size : Int) then (if ((a0.size : Int) : Int).toNat ≤ 11728124029610 then (spec_Cheapest.l0 k a0 a1 y131 (a0.size : Int) (List.replicate (wrap64 ((a0.size : Int) + 1) : Int).toNat 0) (List.replicate ((a0.size : Int) : Int).toNat z44) (wrap64 ((a0.size : Int) - 1))) else (none)) else (none)) else (none)) else (none)) else (some (y131, false))) = some (r1, r2) := H
  have A3 := Aside0.mk A30
  clear A30
  by_cases c4 : t134 = true
  · subst c4
    have H1 : (if 0 ≤ (wrap64 ((a0.size : Int) + 1)) then (if (wrap64 ((a0.size : Int) + 1) : Int).toNat ≤ 35184372088832 then (if 0 ≤ (a0.size : Int) then (if ((a0.size : Int) : Int).toNat ≤ 11728124029610 then (spec_Cheapest.l0 k a0 a1 y131 (a0.size : Int) (List.replicate (wrap64 ((a0.size : Int) + 1) : Int).toNat 0) (List.replicate ((a0.size : Int) : Int).toNat z44) (wrap64 ((a0.size : Int) - 1))) else (none)) else (none)) else (none)) else (none)) = some (r1, r2) := by rw [if_pos rfl] at H; exact H
    clear H
    have H := H1
    clear H1
    obtain ⟨ji5, hji5⟩ : ∃ j_ : Int, (wrap64 ((a0.size : Int) + 1)) = j_ := ⟨_, rfl⟩
    replace H : (if 0 ≤ (ji5) then (if (ji5 : Int).toNat ≤ 35184372088832 then (if 0 ≤ (a0.size : Int) then (if ((a0.size : Int) : Int).toNat ≤ 11728124029610 then (spec_Cheapest.l0 k a0 a1 y131 (a0.size : Int) (List.replicate (ji5 : Int).toNat 0) (List.replicate ((a0.size : Int) : Int).toNat z44) (wrap64 ((a0.size : Int) - 1))) else (none)) else (none)) else (none)) else (none)) = some (r1, r2) := by first | (rw [hji5] at H; exact H) | (simp only [hji5] at H ⊢; exact H)
    (try rw [hji5] at A3)
    have hji5w : (IntKind.i64.wrap ((a0.size : Int) + 1)) = ji5 := (i64_w _).trans hji5
    by_cases c6 : 0 ≤ (ji5)
    · rw [if_pos c6] at H
      have c6b0 := eq_true c6
      have c6b1 : decide (0 ≤ (ji5)) = true := decide_eq_true c6
      clear c6
      by_cases c7 : (ji5 : Int).toNat ≤ 35184372088832
      · rw [if_pos c7] at H
        have c7b0 := eq_true c7
        have c7b1 : decide ((ji5 : Int).toNat ≤ 35184372088832) = true := decide_eq_true c7
        clear c7
        obtain ⟨y135, hy135⟩ : ∃ y_ : List Int, y_ = (List.replicate (ji5 : Int).toNat 0) := ⟨_, rfl⟩
        replace H : (if 0 ≤ (a0.size : Int) then (if ((a0.size : Int) : Int).toNat ≤ 11728124029610 then (spec_Cheapest.l0 k a0 a1 y131 (a0.size : Int) y135 (List.replicate ((a0.size : Int) : Int).toNat z44) (wrap64 ((a0.size : Int) - 1))) else (none)) else (none)) = some (r1, r2) := by first | (rw [hy135]; with_reducible exact H) | (have H2_ := (Option.bind_some _ _).symm.trans H; rw [hy135]; with_reducible exact H2_) | (have H2_ := (Option.bind_some _ _).symm.trans H; with_reducible exact H2_) | with_reducible exact H | (rw [hy135]; exact H) | exact H
        have Ny135 := Aside0.mk hy135
        clear hy135
        by_cases c8 : 0 ≤ (a0.size : Int)
        · rw [if_pos c8] at H
          have c8b0 := eq_true c8
          have c8b1 : decide (0 ≤ (a0.size : Int)) = true := decide_eq_true c8
          clear c8
          by_cases c9 : ((a0.size : Int) : Int).toNat ≤ 11728124029610
          · rw [if_pos c9] at H
            have c9b0 := eq_true c9
            have c9b1 : decide (((a0.size : Int) : Int).toNat ≤ 11728124029610) = true := decide_eq_true c9
            clear c9
            obtain ⟨y138, hy138⟩ : ∃ y_ : List (S44), y_ = (List.replicate ((a0.size : Int) : Int).toNat z44) := ⟨_, rfl⟩
            replace H : (spec_Cheapest.l0 k a0 a1 y131 (a0.size : Int) y135 y138 (wrap64 ((a0.size : Int) - 1))) = some (r1, r2) := by first | (rw [hy138]; with_reducible exact H) | (have H2_ := (Option.bind_some _ _).symm.trans H; rw [hy138]; with_reducible exact H2_) | (have H2_ := (Option.bind_some _ _).symm.trans H; with_reducible exact H2_) | with_reducible exact H | (rw [hy138]; exact H) | exact H
            have Ny138 := Aside0.mk hy138
            clear hy138
            have H' := Aside0.mk H
            clear H
            go_enter Try.func18, Try.ntmps18
            go_wp2_with (first | ((with_reducible refine gate_dst (N := 17) rfl ?_); refine Kd.R_lit k44 _ 44 ?hg (N := 17) ?hd (xs := ([] : List (S44))) (inner := []) (ok := fun _ => True) (okp := fun _ => True) ?hr ?hp (fun _ hk => hk) trivial (Below.refl _ _) (Nat.le_refl _) (by simp) ?_; (case hd => rfl); (case hg => rfl); (case hr => first | (go_simp; done) | (go_simp; rfl)); (case hp => exact (Reps.none _ _)); intro v132 w10 ho11 hb hg_ hnew_; clear hg_ hnew_; (first | rw [← Ny131.out] at ho11 | (simp only [Int.reduceToNat] at ho11; rw [← Ny131.out] at ho11)); have n0_ := Aside0.mk (Kd.R_lower ho11 (below_size (by repeat (first | (with_reducible first | exact HB.out | apply below_alloc | apply pw_below_drewN | apply below_drew1) | exact HB.out)))); have n1_ := Aside0.mk (below_step (by repeat (first | (with_reducible first | exact HB.out | apply below_alloc | apply pw_below_drewN | apply below_drew1) | exact HB.out)) hb); clear HB; have HO133 := n0_; have HB := n1_; clear n0_ n1_; clear hb ho11) | ((with_reducible refine gate_callee (f := 31) rfl ?_); refine goesL_ (some 20) rfl rfl Try.func31 (by kernel_rfl) rfl #[.string a0, .int .i64 a1] rfl (by (try simp only [List.map_toArray, List.map_cons, List.map_nil]); first | done | rfl | (simp only [List.length_drop, List.length_take]; rfl)) ?_; (with_reducible refine (spec_l07Ok.calls a0 a1 true _ A3.out).mono ?_); rintro e w' ⟨rfl, ⟨nd, rfl⟩⟩; refine ⟨_, rfl, ?_⟩) | ((with_reducible refine gate_dst (N := 27) rfl ?_); refine Kd.R_make (Kd.int .i64) _ 3 rfl (N := 27) rfl 34 _ _ rfl ji5 rfl rfl Try.underlying34 (.int .i64 0) 8 info3 rfl (by decide) (by omega) 0 (ok := fun _ => True) (okp := fun _ => True) rfl (fun _ hk => hk) trivial (of_decide_eq_true (by first | (with_reducible assumption) | assumption)) (Nat.le_trans (Nat.mul_le_mul_right _ (of_decide_eq_true (by first | (with_reducible assumption) | assumption) : ji5.toNat ≤ 35184372088832)) (by omega)) (Below.refl _ _) (Nat.le_refl _) ?_; intro v136 w12 ho13 hb hg_ hnew_; clear hg_ hnew_; (first | rw [← Ny135.out] at ho13 | (simp only [Int.reduceToNat] at ho13; rw [← Ny135.out] at ho13)); have n0_ := Aside0.mk (Kd.R_below (by (with_reducible repeat (first | apply Kd.R_alloc | apply Kd.R_drewN | apply Kd.R_drew)); exact HO133.out) hb); have n1_ := Aside0.mk (Kd.R_lower ho13 (below_size (by repeat (first | (with_reducible first | exact HB.out | apply below_alloc | apply pw_below_drewN | apply below_drew1) | exact HB.out)))); have n2_ := Aside0.mk (below_step (by repeat (first | (with_reducible first | exact HB.out | apply below_alloc | apply pw_below_drewN | apply below_drew1) | exact HB.out)) hb); clear HO133; clear HB; have HO133 := n0_; have HO137 := n1_; have HB := n2_; clear n0_ n1_ n2_; clear hb ho13) | ((with_reducible refine gate_dst (N := 29) rfl ?_); refine Kd.R_make k44 _ 44 rfl (N := 29) rfl 25 _ _ rfl (a0.size : Int) rfl rfl Try.underlying25 (.agg #[(.int .i64 0), (.int .i64 0), (.int .i64 0)]) 24 info44 rfl (by decide) (by omega) z44 (ok := fun _ => True) (okp := fun _ => True) (k44_mkM _ _ _ z44 ) (fun _ hk => hk) trivial (of_decide_eq_true (by first | (with_reducible assumption) | assumption)) (Nat.le_trans (Nat.mul_le_mul_right _ (of_decide_eq_true (by first | (with_reducible assumption) | assumption) : (a0.size : Int).toNat ≤ 11728124029610)) (by omega)) (Below.refl _ _) (Nat.le_refl _) ?_; intro v139 w14 ho15 hb hg_ hnew_; clear hg_ hnew_; (first | rw [← Ny138.out] at ho15 | (simp only [Int.reduceToNat] at ho15; rw [← Ny138.out] at ho15)); have n0_ := Aside0.mk (Kd.R_elder' (by (with_reducible repeat (first | apply Kd.R_alloc | apply Kd.R_drewN | apply Kd.R_drew)); exact HO133.out) (Kd.R_base ho15) hb); have n1_ := Aside0.mk (Kd.R_below (by (with_reducible repeat (first | apply Kd.R_alloc | apply Kd.R_drewN | apply Kd.R_drew)); exact HO137.out) hb); have n2_ := Aside0.mk (Kd.R_lower (Kd.R_new' ho15 (Kd.R_lt (by (with_reducible repeat (first | apply Kd.R_alloc | apply Kd.R_drewN | apply Kd.R_drew)); exact HO133.out))) (below_size (by repeat (first | (with_reducible first | exact HB.out | apply below_alloc | apply pw_below_drewN | apply below_drew1) | exact HB.out)))); have n3_ := Aside0.mk (below_step (by repeat (first | (with_reducible first | exact HB.out | apply below_alloc | apply pw_below_drewN | apply below_drew1) | exact HB.out)) hb); clear HO133; clear HO137; clear HB; have HO133 := n0_; have HO137 := n1_; have HO140 := n2_; have HB := n3_; clear n0_ n1_ n2_ n3_; clear hb ho15))
            go_loopg [10] k (fun kq v10 w' => ∃ (x8_1 : List Int) (x9_1 : List (S44)) (x10_1 : Int), v10 = .int .i64 x10_1 ∧ Aside0 (spec_Cheapest.l0 kq a0 a1 y131 (a0.size : Int) x8_1 x9_1 x10_1 = some (r1, r2)) ∧ Aside0 (kq ≤ k) ∧ Aside0 (Kd.R k44 44 w' w.heap.size (fun k_ => some k_ ≠ (v139 : Value).ownBlock) v132 y131) ∧ Aside0 (Kd.R (Kd.int .i64) 3 w' w.heap.size (fun _ => True) v136 x8_1) ∧ Aside0 (Kd.R k44 44 w' w.heap.size (fun k_ => some k_ ≠ (v132 : Value).ownBlock) v139 x9_1) ∧ Aside0 (Below w.heap.size w w'))
            case atStart => exact ⟨(y135), (y138), (wrap64 ((a0.size : Int) - 1)), (by first | rfl | (simp; done) | (simp [*]; done)), H', ⟨Nat.le_refl _⟩, ⟨by (with_reducible repeat (first | apply Kd.R_alloc | apply Kd.R_drewN | apply Kd.R_drew)); exact Kd.R_mono HO133.out (fun _ hk => hk.2)⟩, ⟨by (with_reducible repeat (first | apply Kd.R_alloc | apply Kd.R_drewN | apply Kd.R_drew)); exact HO137.out⟩, ⟨by (with_reducible repeat (first | apply Kd.R_alloc | apply Kd.R_drewN | apply Kd.R_drew)); exact Kd.R_mono HO140.out (fun _ hk => hk.2)⟩, ⟨by repeat (first | (with_reducible first | exact HB.out | apply below_alloc | apply pw_below_drewN | apply below_drew1) | exact HB.out)⟩⟩
            case round =>
              clear H'
              try clear c1
              try clear p2
              try clear c3
              try clear c4
              try clear c6
              try clear c6b0
              try clear c6b1
              try clear p6
              try clear c7
              try clear c7b0
              try clear c7b1
              try clear c8
              try clear c8b0
              try clear c8b1
              try clear c9
              try clear c9b0
              try clear c9b1
              obtain ⟨x8_1, x9_1, x10_1, rfl, HA, HK1, HO_6, HO_8, HO_9, HB⟩ := hrel
              cases gk with
              | zero => exact absurd HA.out (by simp [spec_Cheapest.l0])
              | succ k1 =>
                have H := HA.out
                clear HA
                simp only [spec_Cheapest.l0] at H
                by_cases c16 : x10_1 ≥ 0
                · rw [if_pos c16] at H
                  have c16b0 : decide (0 ≤ x10_1) = true := decide_eq_true c16
                  clear c16
                  by_cases c17 : 0 ≤ x10_1
                  · rw [if_pos c17] at H
                    have c17b0 : decide (0 ≤ x10_1) = true := decide_eq_true c17
                    clear c17
                    by_cases c18 : x10_1 < (a0.size : Int)
                    · rw [if_pos c18] at H
                      have c18b0 : decide (x10_1 < (a0.size : Int)) = true := decide_eq_true c18
                      clear c18
                      by_cases c20 : x10_1 < (x9_1.length : Int)
                      · rw [if_pos c20] at H
                        have c20b0 : decide (x10_1 < (x9_1.length : Int)) = true := decide_eq_true c20
                        clear c20
                        obtain ⟨y141, hy141⟩ : ∃ y_ : List (S44), y_ = (x9_1.set (x10_1 : Int).toNat (⟨wrap64 (bt a0 x10_1), 0, 0⟩ : S44)) := ⟨_, rfl⟩
                        replace H : ((spec_l07Cost.f k1 ((rd_T44 y141 x10_1).f0) ((rd_T44 y141 x10_1).f1) ((rd_T44 y141 x10_1).f2)).bind fun t143 => (if 0 ≤ (wrap64 (x10_1 + 1)) then (if (wrap64 (x10_1 + 1)) < (x8_1.length : Int) then (if x10_1 < (x8_1.length : Int) then ((spec_BestMatch.f k1 a0 x10_1 a1).bind fun bt146 => (spec_Cheapest.l1 k1 a0 a1 y131 (a0.size : Int) (x8_1.set (x10_1 : Int).toNat (wrap64 (t143 + (rd x8_1 (wrap64 (x10_1 + 1)))))) y141 x10_1 bt146.1 bt146.2 3)) else (none)) else (none)) else (none))) = some (r1, r2) := by first | (rw [hy141]; with_reducible exact H) | (have H2_ := (Option.bind_some _ _).symm.trans H; rw [hy141]; with_reducible exact H2_) | (have H2_ := (Option.bind_some _ _).symm.trans H; with_reducible exact H2_) | with_reducible exact H | (rw [hy141]; exact H) | exact H
                        have Ny141 := Aside0.mk hy141
                        clear hy141
                        replace H := Option.bind_eq_some_iff.mp H
                        obtain ⟨t143, A220, H⟩ := H
                        replace H : (if 0 ≤ (wrap64 (x10_1 + 1)) then (if (wrap64 (x10_1 + 1)) < (x8_1.length : Int) then (if x10_1 < (x8_1.length : Int) then ((spec_BestMatch.f k1 a0 x10_1 a1).bind fun bt146 => (spec_Cheapest.l1 k1 a0 a1 y131 (a0.size : Int) (x8_1.set (x10_1 : Int).toNat (wrap64 (t143 + (rd x8_1 (wrap64 (x10_1 + 1)))))) y141 x10_1 bt146.1 bt146.2 3)) else (none)) else (none)) else (none)) = some (r1, r2) := H
                        have A22 := Aside0.mk A220
                        clear A220
                        obtain ⟨ji23, hji23⟩ : ∃ j_ : Int, (wrap64 (x10_1 + 1)) = j_ := ⟨_, rfl⟩
                        replace H : (if 0 ≤ (ji23) then (if (ji23) < (x8_1.length : Int) then (if x10_1 < (x8_1.length : Int) then ((spec_BestMatch.f k1 a0 x10_1 a1).bind fun bt146 => (spec_Cheapest.l1 k1 a0 a1 y131 (a0.size : Int) (x8_1.set (x10_1 : Int).toNat (wrap64 (t143 + (rd x8_1 (ji23))))) y141 x10_1 bt146.1 bt146.2 3)) else (none)) else (none)) else (none)) = some (r1, r2) := by first | (rw [hji23] at H; exact H) | (simp only [hji23] at H ⊢; exact H)
                        (try rw [hji23] at A22)
                        have hji23w : (IntKind.i64.wrap (x10_1 + 1)) = ji23 := (i64_w _).trans hji23
                        by_cases c24 : 0 ≤ (ji23)
                        · rw [if_pos c24] at H
                          have c24b0 : decide (0 ≤ (ji23)) = true := decide_eq_true c24
                          clear c24
                          by_cases c25 : (ji23) < (x8_1.length : Int)
                          · rw [if_pos c25] at H
                            have c25b0 : decide ((ji23) < (x8_1.length : Int)) = true := decide_eq_true c25
                            clear c25
                            by_cases c26 : x10_1 < (x8_1.length : Int)
                            · rw [if_pos c26] at H
                              have c26b0 : decide (x10_1 < (x8_1.length : Int)) = true := decide_eq_true c26
                              clear c26
                              obtain ⟨y145, hy145⟩ : ∃ y_ : List Int, y_ = (x8_1.set (x10_1 : Int).toNat (wrap64 (t143 + (rd x8_1 (ji23))))) := ⟨_, rfl⟩
                              replace H : ((spec_BestMatch.f k1 a0 x10_1 a1).bind fun bt146 => (spec_Cheapest.l1 k1 a0 a1 y131 (a0.size : Int) y145 y141 x10_1 bt146.1 bt146.2 3)) = some (r1, r2) := by first | (rw [hy145]; with_reducible exact H) | (have H2_ := (Option.bind_some _ _).symm.trans H; rw [hy145]; with_reducible exact H2_) | (have H2_ := (Option.bind_some _ _).symm.trans H; with_reducible exact H2_) | with_reducible exact H | (rw [hy145]; exact H) | exact H
                              have Ny145 := Aside0.mk hy145
                              clear hy145
                              replace H := Option.bind_eq_some_iff.mp H
                              obtain ⟨⟨t146, t147⟩, A280, H⟩ := H
                              replace H : (spec_Cheapest.l1 k1 a0 a1 y131 (a0.size : Int) y145 y141 x10_1 t146 t147 3) = some (r1, r2) := H
                              have A28 := Aside0.mk A280
                              clear A280
                              have H' := Aside0.mk H
                              clear H
                              have p19 : 0 ≤ (x10_1 : Int) := of_decide_eq_true (by first | (with_reducible assumption) | assumption)
                              have q19 : x10_1 < (a0.size : Int) := of_decide_eq_true (by first | (with_reducible assumption) | assumption)
                              have hx19 := bt_at a0 x10_1
                              replace p19 := eq_true p19
                              replace q19 := eq_true q19
                              have p21 : 0 ≤ (x10_1 : Int) := of_decide_eq_true (by first | (with_reducible assumption) | assumption)
                              have q21 : (x10_1 : Int) < ((x9_1.length : Int) : Int) := of_decide_eq_true (by first | (with_reducible assumption) | assumption)
                              obtain ⟨go21, co21, eo21, gb21, gl21, cl21, HG21⟩ := Kd.R_form HO_9.out (by omega)
                              (first | cases eo21 | (injection eo21 with ea_ en_ ec_; (first | subst ea_ | (injection ea_ with ea_; subst ea_)); subst ec_; clear en_))
                              have GB21 := Aside0.mk gb21
                              have GG21 := Aside0.mk HG21
                              clear gb21 gl21 HG21
                              obtain ⟨ce21, hcl21, hM21, hcc21, hfr21⟩ := Kd.R_elem HO_9.out z44 (x10_1 : Int) p21 q21
                              obtain rfl := k44_openM hM21
                              have hx21_0 : wr.cell? ⟨go21, (x10_1 : Int).toNat * 3, none⟩ = some (.int .i64 ((rd_T44 x9_1 x10_1).f0)) := hcc21 0 _ rfl
                              have hx21_1 : wr.cell? ⟨go21, (x10_1 : Int).toNat * 3 + 1, none⟩ = some (.int .i64 ((rd_T44 x9_1 x10_1).f1)) := hcc21 1 _ rfl
                              have hx21_2 : wr.cell? ⟨go21, (x10_1 : Int).toNat * 3 + 2, none⟩ = some (.int .i64 ((rd_T44 x9_1 x10_1).f2)) := hcc21 2 _ rfl
                              have hf21_0 : wr.frozen? ⟨go21, (x10_1 : Int).toNat * 3, none⟩ = false := hfr21 0
                              have hf21_1 : wr.frozen? ⟨go21, (x10_1 : Int).toNat * 3 + 1, none⟩ = false := hfr21 1
                              have hf21_2 : wr.frozen? ⟨go21, (x10_1 : Int).toNat * 3 + 2, none⟩ = false := hfr21 2
                              clear hcl21 hcc21 hfr21 hM21
                              replace p21 := eq_true p21
                              replace q21 := eq_true q21
                              have HX29 := Aside0.mk (show Kd.R k44 44 wr w.heap.size (fun k_ => some k_ ≠ (v132 : Value).ownBlock) (.slice (some ⟨go21, 0, none⟩) x9_1.length co21) x9_1 from (by (with_reducible repeat (first | apply Kd.R_alloc | apply Kd.R_drewN | apply Kd.R_drew)); exact HO_9.out))
                              obtain ⟨ce29, hcl29, hM29, hcc29, hfr29⟩ := Kd.R_elem HX29.out z44 (x10_1 : Int) (of_decide_eq_true (by first | (with_reducible assumption) | assumption)) (by have h_ : (x10_1 : Int) < ((x9_1.length : Int) : Int) := of_decide_eq_true (by first | (with_reducible assumption) | assumption); first | exact h_ | (have e_ := (Kd.R_reads' HO_9.out).1; omega) | simpa using h_)
                              obtain rfl := k44_openM hM29
                              have HP29 := Kd.R_seg HX29.out (x10_1 : Int) (of_decide_eq_true (by first | (with_reducible assumption) | assumption)) (by have h_ : (x10_1 : Int) < ((x9_1.length : Int) : Int) := of_decide_eq_true (by first | (with_reducible assumption) | assumption); first | exact h_ | (have e_ := (Kd.R_reads' HO_9.out).1; omega) | simpa using h_) (seg := [.int .i64 (wrap64 (bt a0 x10_1)), .int .i64 0, .int .i64 0]) (j := 0) hcl29 hcc29 (show 3 ≤ 3 from by decide) (x' := (⟨wrap64 (bt a0 x10_1), 0, 0⟩ : S44)) (k44_mkM _ _ _ (⟨wrap64 (bt a0 x10_1), 0, 0⟩ : S44) ) (fun _ hk => hk)
                              have hx29_0 := hcc29 0 _ rfl
                              (try simp only [show (k44).sz = 3 from rfl, Nat.mul_one, Nat.add_zero] at hx29_0)
                              have hf29_0 := hfr29 0
                              (try simp only [show (k44).sz = 3 from rfl, Nat.mul_one, Nat.add_zero] at hf29_0)
                              have hx29_1 := hcc29 1 _ rfl
                              (try simp only [show (k44).sz = 3 from rfl, Nat.mul_one, Nat.add_zero] at hx29_1)
                              have hf29_1 := hfr29 1
                              (try simp only [show (k44).sz = 3 from rfl, Nat.mul_one, Nat.add_zero] at hf29_1)
                              have hx29_2 := hcc29 2 _ rfl
                              (try simp only [show (k44).sz = 3 from rfl, Nat.mul_one, Nat.add_zero] at hx29_2)
                              have hf29_2 := hfr29 2
                              (try simp only [show (k44).sz = 3 from rfl, Nat.mul_one, Nat.add_zero] at hf29_2)
                              clear hcl29 hcc29 hfr29 hM29
                              try go_wp2_with (first | ((with_reducible refine gate_store (t := 44) (p := 43) rfl ?_); refine store_event (t := 44) (p := 43) (v := ?vo_w30) (w1 := (((wr.setCell ⟨go21, (x10_1 : Int).toNat * 3, none⟩ (.int .i64 (wrap64 (bt a0 x10_1)))).setCell ⟨go21, (x10_1 : Int).toNat * 3 + 1, none⟩ (.int .i64 0)).setCell ⟨go21, (x10_1 : Int).toNat * 3 + 2, none⟩ (.int .i64 0))) ?hg ?ho ?hn ?hr ?_; (case ho => rfl); (case hg => rfl); (case hn => rfl); (case hr => first | (go_simp; done) | (go_simp; rfl)); intro w30 hw; have hg : wr.grownBy w30 (some go21) := (by rw [hw]; exact HP29.2); have hp_ : Kd.R k44 44 w30 w.heap.size (fun k_ => some k_ ≠ (v132 : Value).ownBlock) (.slice (some ⟨go21, 0, none⟩) x9_1.length co21) y141 := (by rw [hw, Ny141.out]; exact HP29.1); clear HP29; have n0_ := Aside0.mk (Kd.R_after (v := (.slice (some ⟨go21, 0, none⟩) x9_1.length co21)) (v1 := (.slice (some ⟨go21, 0, none⟩) x9_1.length co21)) (ok := (fun _ => True)) (by (with_reducible repeat (first | apply Kd.R_alloc | apply Kd.R_drewN | apply Kd.R_drew)); exact Kd.R_mono HO_6.out (fun _ hk => ⟨trivial, hk⟩)) hg (.inl rfl)); have n1_ := Aside0.mk (Kd.R_over' (v := (.slice (some ⟨go21, 0, none⟩) x9_1.length co21)) (by (with_reducible repeat (first | apply Kd.R_alloc | apply Kd.R_drewN | apply Kd.R_drew)); exact HO_8.out) (Kd.R_typed HO_9.out) (by decide) hg); have n2_ := Aside0.mk (hp_); have n3_ := Aside0.mk ((by rw [hw]; exact below_set (below_set (below_set (HB.out) GB21.out) GB21.out) GB21.out : Below w.heap.size w w30)); clear HO_6; clear HO_8; clear HO_9; clear HB; have HO_6 := n0_; have HO_8 := n1_; have HO_9 := n2_; have HB := n3_; clear n0_ n1_ n2_ n3_; clear hg hw hp_))
                              have n0_ := Aside0.mk (Kd.R_drew HO_6.out)
                              have n1_ := Aside0.mk (Kd.R_drew HO_8.out)
                              have n2_ := Aside0.mk (Kd.R_drew HO_9.out)
                              have n3_ := Aside0.mk (below_drew1 HB.out)
                              clear HO_6
                              clear HO_8
                              clear HO_9
                              clear HB
                              have HO_6 := n0_
                              have HO_8 := n1_
                              have HO_9 := n2_
                              have HB := n3_
                              clear n0_ n1_ n2_ n3_
                              have p142 : 0 ≤ (x10_1 : Int) := of_decide_eq_true (by first | (with_reducible assumption) | assumption)
                              have q142 : x10_1 < (y141.length : Int) := (by have h_ : (x10_1 : Int) < ((x9_1.length : Int) : Int) := of_decide_eq_true (by first | (with_reducible assumption) | assumption); first | (have e_ := (Kd.R_reads' HO_9.out).1; omega) | simpa only [Ny141.out, List.length_set] using h_)
                              have ql142 : ((x10_1 : Int) < ((x9_1.length : Int) : Int)) = True := eq_true (of_decide_eq_true (by first | (with_reducible assumption) | assumption))
                              obtain ⟨ad142, e142, hx142_0, hx142_1, hx142_2⟩ := at_T44 (Kd.R_reads' HO_9.out).2.2 x10_1 p142 q142
                              obtain rfl : (⟨go21, 0, none⟩ : Addr) = ad142 := (by injection e142)
                              (first | simp only [add_plain] at hx142_0 | simp only [add_at] at hx142_0 | simp only [Addr.add, Nat.zero_add] at hx142_0 | skip)
                              (first | simp only [add_plain] at hx142_1 | simp only [add_at] at hx142_1 | simp only [Addr.add, Nat.zero_add] at hx142_1 | skip)
                              (first | simp only [add_plain] at hx142_2 | simp only [add_at] at hx142_2 | simp only [Addr.add, Nat.zero_add] at hx142_2 | skip)
                              replace p142 := eq_true p142
                              replace q142 := eq_true q142
                              obtain ⟨Ao32, co32, eo32⟩ := Kd.R_slice HO_8.out
                              (first | subst eo32 | (injection eo32 with f1_ f2_ f3_; have f4_ := f1_.symm; have f5_ := f3_.symm; clear f1_ f2_ f3_; subst f4_; subst f5_))
                              have p144 : 0 ≤ ((ji23) : Int) := of_decide_eq_true (by first | (with_reducible assumption) | assumption)
                              have q144 : (ji23) < (x8_1.length : Int) := of_decide_eq_true (by first | (with_reducible assumption) | assumption)
                              obtain ⟨ad144, e144, hx144_0⟩ := Kd.at_int (Kd.R_reads' HO_8.out).2.2 (ji23) p144 q144
                              cases e144
                              replace p144 := eq_true p144
                              replace q144 := eq_true q144
                              refine start_ (n := 15) (S := fun w' => w'.cell? ⟨go21, (x10_1).toNat * 3, none⟩ = some (.int .i64 ((rd_T44 y141 x10_1).f0)) ∧ w'.cell? ⟨go21, (x10_1).toNat * 3 + 1, none⟩ = some (.int .i64 ((rd_T44 y141 x10_1).f1)) ∧ w'.cell? ⟨go21, (x10_1).toNat * 3 + 2, none⟩ = some (.int .i64 ((rd_T44 y141 x10_1).f2)) ∧ w'.cell? (ad144.add ((ji23)).toNat) = some (.int .i64 (rd x8_1 (ji23)))) (ds := [14]) #[false, false, false, false, false, false, false, false, false, false, false, false, false, false, false] (by kernel_rfl) rfl rfl ⟨hx142_0, hx142_1, hx142_2, hx144_0⟩ (fun hHeld => ?_); refine with_tabW spec_Cheapest.tab11 spec_Cheapest.bits11 (fun HT_ HW_ => ?_)
                              generalize w30.drew = w31 at HO_6 HO_8 HO_9 HB hx142_0 hx142_1 hx142_2 hx144_0 hHeld ⊢
                              refine pure_ (i := 0) (N := some 44) (v := ?_) (a' := ?_) #[true, false, false, false, false, false, false, false, false, false, false, false, false, false, false] rfl rfl (any_of HT_.out (by kernel_rfl)) (fun _ _ _ h => h) (Or.inl ⟨by rfl, ?_⟩) ?_ ?_
                              rotate_left
                              · intro w'
                                go_simp
                                with_reducible rfl
                              rotate_left
                              · simp only [Act.put, List.setIfInBounds_toArray, List.set_cons_zero, List.set_cons_succ, i64_w, i32_w]
                                rfl
                              refine pure_ (i := 1) (N := some 45) (v := ?_) (a' := ?_) #[true, true, false, false, false, false, false, false, false, false, false, false, false, false, false] rfl rfl (any_of HT_.out (by kernel_rfl)) (fun _ _ _ h => h) (Or.inl ⟨by rfl, ?_⟩) ?_ ?_
                              rotate_left
                              · intro w'
                                go_simp
                                with_reducible rfl
                              rotate_left
                              · simp only [Act.put, List.setIfInBounds_toArray, List.set_cons_zero, List.set_cons_succ, i64_w, i32_w]
                                rfl
                              refine pure_ (i := 2) (N := some 46) (v := ?_) (a' := ?_) #[true, true, true, false, false, false, false, false, false, false, false, false, false, false, false] rfl rfl (any_of HT_.out (by kernel_rfl)) (fun _ _ _ h => h) (Or.inl ⟨by rfl, ?_⟩) ?_ ?_
                              rotate_left
                              · intro w'
                                go_simp
                                with_reducible rfl
                              rotate_left
                              · simp only [Act.put, List.setIfInBounds_toArray, List.set_cons_zero, List.set_cons_succ, i64_w, i32_w]
                                rfl
                              refine pure_ (i := 3) (N := some 47) (v := ?_) (a' := ?_) #[true, true, true, true, false, false, false, false, false, false, false, false, false, false, false] rfl rfl (any_of HT_.out (by kernel_rfl)) (fun _ _ _ h => h) (Or.inl ⟨by rfl, ?_⟩) ?_ ?_
                              rotate_left
                              · intro w'
                                go_simp
                                with_reducible rfl
                              rotate_left
                              · simp only [Act.put, List.setIfInBounds_toArray, List.set_cons_zero, List.set_cons_succ, i64_w, i32_w]
                                rfl
                              refine pure_ (i := 4) (N := some 48) (v := ?_) (a' := ?_) #[true, true, true, true, true, false, false, false, false, false, false, false, false, false, false] rfl rfl (any_of HT_.out (by kernel_rfl)) (fun _ _ _ h => h) (Or.inl ⟨by rfl, ?_⟩) ?_ ?_
                              rotate_left
                              · intro w'
                                go_simp
                                with_reducible rfl
                              rotate_left
                              · simp only [Act.put, List.setIfInBounds_toArray, List.set_cons_zero, List.set_cons_succ, i64_w, i32_w]
                                rfl
                              refine pure_ (i := 7) (N := some 51) (v := ?_) (a' := ?_) #[true, true, true, true, true, false, false, true, false, false, false, false, false, false, false] rfl rfl (any_of HT_.out (by kernel_rfl)) (fun _ _ _ h => h) (Or.inl ⟨by rfl, ?_⟩) ?_ ?_
                              rotate_left
                              · intro w'
                                go_simp
                                with_reducible rfl
                              rotate_left
                              · simp only [Act.put, List.setIfInBounds_toArray, List.set_cons_zero, List.set_cons_succ, i64_w, i32_w]
                                rfl
                              refine pure_ (i := 8) (N := some 52) (v := ?_) (a' := ?_) #[true, true, true, true, true, false, false, true, true, false, false, false, false, false, false] rfl rfl (any_of HT_.out (by kernel_rfl)) (fun _ _ _ h => h) (Or.inl ⟨by rfl, ?_⟩) ?_ ?_
                              rotate_left
                              · intro w'
                                go_simp
                                with_reducible rfl
                              rotate_left
                              · simp only [Act.put, List.setIfInBounds_toArray, List.set_cons_zero, List.set_cons_succ, i64_w, i32_w]
                                rfl
                              refine pure_ (i := 9) (N := some 53) (v := ?_) (a' := ?_) #[true, true, true, true, true, false, false, true, true, true, false, false, false, false, false] rfl rfl (any_of HT_.out (by kernel_rfl)) (fun _ _ _ h => h) (Or.inl ⟨by rfl, ?_⟩) ?_ ?_
                              rotate_left
                              · intro w'
                                go_simp
                                with_reducible rfl
                              rotate_left
                              · simp only [Act.put, List.setIfInBounds_toArray, List.set_cons_zero, List.set_cons_succ, i64_w, i32_w]
                                rfl
                              refine pure_ (i := 10) (N := some 54) (v := ?_) (a' := ?_) #[true, true, true, true, true, false, false, true, true, true, true, false, false, false, false] rfl rfl (any_of HT_.out (by kernel_rfl)) (fun _ _ _ h => h) (Or.inl ⟨by rfl, ?_⟩) ?_ ?_
                              rotate_left
                              · intro w'
                                go_simp
                                with_reducible rfl
                              rotate_left
                              · simp only [Act.put, List.setIfInBounds_toArray, List.set_cons_zero, List.set_cons_succ, i64_w, i32_w]
                                rfl
                              refine take_ (i := 5) (N := some 49) (v := ?_) (a' := ?_) #[true, true, true, true, true, true, false, true, true, true, true, false, false, false, false] rfl rfl (take_ofW HT_.out HW_.out (by kernel_rfl)) (fun _ _ _ h => h) (Or.inl ⟨by rfl, ?_⟩) hHeld ?_ ?_
                              rotate_left
                              · rintro w' ⟨s0, s1, s2, s3⟩
                                go_simp
                                with_reducible rfl
                              rotate_left
                              · simp only [Act.put, List.setIfInBounds_toArray, List.set_cons_zero, List.set_cons_succ, i64_w, i32_w]
                                rfl
                              refine take_ (i := 11) (N := some 55) (v := ?_) (a' := ?_) #[true, true, true, true, true, true, false, true, true, true, true, true, false, false, false] rfl rfl (take_ofW HT_.out HW_.out (by kernel_rfl)) (fun _ _ _ h => h) (Or.inl ⟨by rfl, ?_⟩) hHeld ?_ ?_
                              rotate_left
                              · rintro w' ⟨s0, s1, s2, s3⟩
                                go_simp
                                with_reducible rfl
                              rotate_left
                              · simp only [Act.put, List.setIfInBounds_toArray, List.set_cons_zero, List.set_cons_succ, i64_w, i32_w]
                                rfl
                              refine one_ (i := 6) (N := some 50) #[true, true, true, true, true, true, true, true, true, true, true, true, false, false, false] rfl rfl (one_of HT_.out (by kernel_rfl)) (by decide) (fun K hK => ?_)
                              refine goes_ Try.func34 (by kernel_rfl) rfl #[.agg #[.int .i64 ((rd_T44 y141 x10_1).f0), .int .i64 ((rd_T44 y141 x10_1).f1), .int .i64 ((rd_T44 y141 x10_1).f2)]] (by rfl) rfl rfl (by (try simp only [List.map_toArray, List.map_cons, List.map_nil]); first | done | rfl | (simp only [List.length_drop, List.length_take]; rfl)) ?_
                              with_reducible refine (spec_l07Cost.calls k1 ((rd_T44 y141 x10_1).f0) ((rd_T44 y141 x10_1).f1) ((rd_T44 y141 x10_1).f2) t143 _ A22.out).mono ?_
                              rintro e w33 ⟨rfl, hb⟩
                              have HS0_ := (hb.cell (World.block_lt_of_cell? _ _ (hHeld.1))).trans (hHeld.1)
                              have HS1_ := (hb.cell (World.block_lt_of_cell? _ _ (hHeld.2.1))).trans (hHeld.2.1)
                              have HS2_ := (hb.cell (World.block_lt_of_cell? _ _ (hHeld.2.2.1))).trans (hHeld.2.2.1)
                              have HS3_ := (hb.cell (World.block_lt_of_cell? _ _ (hHeld.2.2.2))).trans (hHeld.2.2.2)
                              refine ⟨_, rfl, ?_⟩
                              have n0_ := Aside0.mk (Kd.R_below (by (with_reducible repeat (first | apply Kd.R_alloc | apply Kd.R_drewN | apply Kd.R_drew)); exact HO_6.out) hb)
                              have n1_ := Aside0.mk (Kd.R_below (by (with_reducible repeat (first | apply Kd.R_alloc | apply Kd.R_drewN | apply Kd.R_drew)); exact HO_8.out) hb)
                              have n2_ := Aside0.mk (Kd.R_below (by (with_reducible repeat (first | apply Kd.R_alloc | apply Kd.R_drewN | apply Kd.R_drew)); exact HO_9.out) hb)
                              have n3_ := Aside0.mk (below_step (by repeat (first | (with_reducible first | exact HB.out | apply below_alloc | apply pw_below_drewN | apply below_drew1) | exact HB.out)) hb)
                              clear HO_6
                              clear HO_8
                              clear HO_9
                              clear HB
                              have HO_6 := n0_
                              have HO_8 := n1_
                              have HO_9 := n2_
                              have HB := n3_
                              clear n0_ n1_ n2_ n3_
                              (try clear hb)
                              (try clear hb2)
                              (try clear hk)
                              (try clear hi)
                              have p27 : 0 ≤ (x10_1 : Int) := of_decide_eq_true (by first | (with_reducible assumption) | assumption)
                              have q27 : (x10_1 : Int) < ((x8_1.length : Int) : Int) := of_decide_eq_true (by first | (with_reducible assumption) | assumption)
                              obtain ⟨go27, co27, eo27, gb27, gl27, cl27, HG27⟩ := Kd.R_form HO_8.out (by omega)
                              (first | cases eo27 | (injection eo27 with ea_ en_ ec_; (first | subst ea_ | (injection ea_ with ea_; subst ea_)); subst ec_; clear en_))
                              have GB27 := Aside0.mk gb27
                              have GG27 := Aside0.mk HG27
                              clear gb27 gl27 HG27
                              (first | simp only [add_plain] at hx144_0 | skip)
                              obtain ⟨hx27_0, hf27_0⟩ := Kd.R_celln 0 HO_8.out (x10_1 : Int) p27 q27
                              replace p27 := eq_true p27
                              replace q27 := eq_true q27
                              have HP34 := Kd.R_putn HO_8.out (x10_1 : Int) (wrap64 (t143 + (rd x8_1 (ji23))))
                              rw [← Ny145.out] at HP34
                              have HQ34 := Aside0.mk HP34
                              clear HP34
                              refine hK.out _ _ ⟨HS0_, HS1_, HS2_, HS3_⟩ (fun hHeld => ?_)
                              clear hK K
                              refine norm_ (a' := ?_) ?_ ?_
                              rotate_left
                              · show Act.put _ (some 50) _ = _
                                simp only [Act.put, List.setIfInBounds_toArray, List.set_cons_zero, List.set_cons_succ, i64_w, i32_w]
                                rfl
                              refine pure_ (i := 12) (N := some 56) (v := ?_) (a' := ?_) #[true, true, true, true, true, true, true, true, true, true, true, true, true, false, false] rfl rfl (any_of HT_.out (by kernel_rfl)) (fun _ _ _ h => h) (Or.inl ⟨by rfl, ?_⟩) ?_ ?_
                              rotate_left
                              · intro w'
                                go_simp
                                with_reducible rfl
                              rotate_left
                              · simp only [Act.put, List.setIfInBounds_toArray, List.set_cons_zero, List.set_cons_succ, i64_w, i32_w]
                                rfl
                              refine pure_ (i := 13) (N := some 57) (v := ?_) (a' := ?_) #[true, true, true, true, true, true, true, true, true, true, true, true, true, true, false] rfl rfl (any_of HT_.out (by kernel_rfl)) (fun _ _ _ h => h) (Or.inl ⟨by rfl, ?_⟩) ?_ ?_
                              rotate_left
                              · intro w'
                                go_simp
                                with_reducible rfl
                              rotate_left
                              · simp only [Act.put, List.setIfInBounds_toArray, List.set_cons_zero, List.set_cons_succ, i64_w, i32_w]
                                rfl
                              refine last_ (i := 14) (N := none) #[true, true, true, true, true, true, true, true, true, true, true, true, true, true, true] rfl rfl (one_of HT_.out (by kernel_rfl)) (by decide) (fun K hK => ?_)
                              refine skip_ (w1 := ?_) (by rfl) rfl ?_ ?_
                              rotate_left
                              · go_simp
                                rfl
                              refine hK.out _ _ ?_
                              clear hK K
                              refine done_ (done_of HT_.out (by kernel_rfl)) ?_
                              try go_wp2_with (first | ((with_reducible refine gate_callee (f := 9) rfl ?_); refine goesL_ (some 62) rfl rfl Try.func9 (by kernel_rfl) rfl #[.string a0, .int .i64 x10_1, .int .i64 a1] rfl (by (try simp only [List.map_toArray, List.map_cons, List.map_nil]); first | done | rfl | (simp only [List.length_drop, List.length_take]; rfl)) ?_; (with_reducible refine (spec_BestMatch.calls k1 a0 x10_1 a1 t146 t147 _ A28.out).mono ?_); rintro e w' ⟨rfl, ⟨nd, rfl⟩⟩; refine ⟨_, rfl, ?_⟩))
                              go_loopg [13] k1 (fun kq v13 w' => ∃ (x8_2 : List Int) (x9_2 : List (S44)) (x13_2 : Int), v13 = .int .i64 x13_2 ∧ Aside0 (spec_Cheapest.l1 kq a0 a1 y131 (a0.size : Int) x8_2 x9_2 x10_1 t146 t147 x13_2 = some (r1, r2)) ∧ Aside0 (kq ≤ k1) ∧ Aside0 (Kd.R k44 44 w' w.heap.size (fun k_ => some k_ ≠ ((.slice (some ⟨go21, 0, none⟩) x9_1.length co21) : Value).ownBlock) v132 y131) ∧ Aside0 (Kd.R (Kd.int .i64) 3 w' w.heap.size (fun _ => True) (.slice (some ⟨go27, 0, none⟩) x8_1.length co32) x8_2) ∧ Aside0 (Kd.R k44 44 w' w.heap.size (fun k_ => some k_ ≠ (v132 : Value).ownBlock) (.slice (some ⟨go21, 0, none⟩) x9_1.length co21) x9_2) ∧ Aside0 (Below w.heap.size w w'))
                              case atStart => exact ⟨(y145), (y141), (3), (by first | rfl | (simp; done) | (simp [*]; done)), H', ⟨Nat.le_refl _⟩, ⟨by (with_reducible repeat (first | apply Kd.R_alloc | apply Kd.R_drewN | apply Kd.R_drew)); exact Kd.R_mono (Kd.R_far (p := ⟨go27, (x10_1 : Int).toNat, none⟩) (Kd.R_types HO_6.out GG27.out (by decide)) (fun _ hk => hk.2) (.int .i64 (wrap64 (t143 + (rd x8_1 (ji23)))))) (fun _ hk => hk.1.2)⟩, ⟨by (with_reducible repeat (first | apply Kd.R_alloc | apply Kd.R_drewN | apply Kd.R_drew)); exact HQ34.out⟩, ⟨by (with_reducible repeat (first | apply Kd.R_alloc | apply Kd.R_drewN | apply Kd.R_drew)); exact Kd.R_mono (Kd.R_far (p := ⟨go27, (x10_1 : Int).toNat, none⟩) (Kd.R_types HO_9.out GG27.out (by decide)) (fun _ hk => hk.2) (.int .i64 (wrap64 (t143 + (rd x8_1 (ji23)))))) (fun _ hk => hk.1)⟩, ⟨by repeat (first | (with_reducible first | exact HB.out | apply below_alloc | apply pw_below_drewN | apply below_drew1 | refine below_set ?_ GB27.out) | exact HB.out)⟩⟩
                              case round =>
                                clear H'
                                try clear c1
                                try clear p1
                                try clear q1
                                try clear hx1
                                try clear c2
                                try clear p2
                                try clear q2
                                try clear hx2
                                try clear hf2
                                try clear c3
                                try clear c4
                                try clear c6
                                try clear c6b0
                                try clear c6b1
                                try clear p6
                                try clear c7
                                try clear c7b0
                                try clear c7b1
                                try clear c8
                                try clear c8b0
                                try clear c8b1
                                try clear c9
                                try clear c9b0
                                try clear c9b1
                                try clear p14
                                try clear q14
                                try clear hx14
                                try clear c16
                                try clear c16b0
                                try clear c17
                                try clear c17b0
                                try clear c18
                                try clear c18b0
                                try clear p19
                                try clear q19
                                try clear hx19
                                try clear c20
                                try clear c20b0
                                try clear c21
                                try clear p21
                                try clear q21
                                try clear hx21
                                try clear hf21
                                try clear c24
                                try clear c24b0
                                try clear c25
                                try clear c25b0
                                try clear c26
                                try clear c26b0
                                try clear p27
                                try clear q27
                                try clear hx27
                                try clear hf27
                                try clear c29
                                try clear hx29
                                try clear hf29
                                try clear c31
                                try clear c34
                                try clear hx142_0
                                try clear hx142_1
                                try clear hx142_2
                                try clear hx144_0
                                try clear hx21_0
                                try clear hx21_1
                                try clear hx21_2
                                try clear hx27_0
                                try clear hx29_0
                                try clear hx29_1
                                try clear hx29_2
                                try clear p142
                                try clear p144
                                try clear p19
                                try clear p2
                                try clear p21
                                try clear p27
                                try clear p6
                                try clear q142
                                try clear q144
                                try clear q19
                                try clear q21
                                try clear q27
                                obtain ⟨x8_2, x9_2, x13_2, rfl, HA, HK2, HO_6, HO_8, HO_9, HB⟩ := hrel
                                have hl8_2 := (Kd.R_reads' HO_8.out).1
                                rw [hl8_2] at HO_8
                                (try simp only [hl8_2])
                                (try simp only [hl8_2] at HO_6)
                                (try simp only [hl8_2] at HO_9)
                                have hl9_2 := (Kd.R_reads' HO_9.out).1
                                rw [hl9_2] at HO_9
                                (try simp only [hl9_2])
                                (try simp only [hl9_2] at HO_6)
                                (try simp only [hl9_2] at HO_8)
                                cases gk with
                                | zero => exact absurd HA.out (by simp [spec_Cheapest.l1])
                                | succ k2 =>
                                  have H := HA.out
                                  clear HA
                                  simp only [spec_Cheapest.l1] at H
                                  by_cases c35 : x13_2 ≤ t146
                                  · rw [if_pos c35] at H
                                    have c35b0 : decide (x13_2 ≤ t146) = true := decide_eq_true c35
                                    clear c35
                                    replace H := Option.bind_eq_some_iff.mp H
                                    obtain ⟨t149, A360, H⟩ := H
                                    replace H : (if 0 ≤ (wrap64 (x10_1 + x13_2)) then (if (wrap64 (x10_1 + x13_2)) < (x8_2.length : Int) then (if 0 ≤ x10_1 then (if x10_1 < (x8_2.length : Int) then (if (wrap64 (t149 + (rd x8_2 (wrap64 (x10_1 + x13_2))))) < (rd x8_2 x10_1) then (if x10_1 < (x9_2.length : Int) then (spec_Cheapest.l1 k2 a0 a1 y131 (a0.size : Int) (x8_2.set (x10_1 : Int).toNat (wrap64 (t149 + (rd x8_2 (wrap64 (x10_1 + x13_2)))))) (x9_2.set (x10_1 : Int).toNat (⟨0, x13_2, t147⟩ : S44)) x10_1 t146 t147 (wrap64 (x13_2 + 1))) else (none)) else (spec_Cheapest.l1 k2 a0 a1 y131 (a0.size : Int) x8_2 x9_2 x10_1 t146 t147 (wrap64 (x13_2 + 1)))) else (none)) else (none)) else (none)) else (none)) = some (r1, r2) := H
                                    have A36 := Aside0.mk A360
                                    clear A360
                                    obtain ⟨ji37, hji37⟩ : ∃ j_ : Int, (wrap64 (x10_1 + x13_2)) = j_ := ⟨_, rfl⟩
                                    replace H : (if 0 ≤ (ji37) then (if (ji37) < (x8_2.length : Int) then (if 0 ≤ x10_1 then (if x10_1 < (x8_2.length : Int) then (if (wrap64 (t149 + (rd x8_2 (ji37)))) < (rd x8_2 x10_1) then (if x10_1 < (x9_2.length : Int) then (spec_Cheapest.l1 k2 a0 a1 y131 (a0.size : Int) (x8_2.set (x10_1 : Int).toNat (wrap64 (t149 + (rd x8_2 (ji37))))) (x9_2.set (x10_1 : Int).toNat (⟨0, x13_2, t147⟩ : S44)) x10_1 t146 t147 (wrap64 (x13_2 + 1))) else (none)) else (spec_Cheapest.l1 k2 a0 a1 y131 (a0.size : Int) x8_2 x9_2 x10_1 t146 t147 (wrap64 (x13_2 + 1)))) else (none)) else (none)) else (none)) else (none)) = some (r1, r2) := by first | (rw [hji37] at H; exact H) | (simp only [hji37] at H ⊢; exact H)
                                    (try rw [hji37] at A36)
                                    have hji37w : (IntKind.i64.wrap (x10_1 + x13_2)) = ji37 := (i64_w _).trans hji37
                                    by_cases c38 : 0 ≤ (ji37)
                                    · rw [if_pos c38] at H
                                      have c38b0 : decide (0 ≤ (ji37)) = true := decide_eq_true c38
                                      clear c38
                                      by_cases c39 : (ji37) < (x8_2.length : Int)
                                      · rw [if_pos c39] at H
                                        have c39b0 : decide ((ji37) < (x8_2.length : Int)) = true := decide_eq_true c39
                                        clear c39
                                        by_cases c40 : 0 ≤ x10_1
                                        · rw [if_pos c40] at H
                                          have c40b0 : decide (0 ≤ x10_1) = true := decide_eq_true c40
                                          clear c40
                                          by_cases c41 : x10_1 < (x8_2.length : Int)
                                          · rw [if_pos c41] at H
                                            have c41b0 : decide (x10_1 < (x8_2.length : Int)) = true := decide_eq_true c41
                                            clear c41
                                            by_cases c42 : (wrap64 (t149 + (rd x8_2 (ji37)))) < (rd x8_2 x10_1)
                                            · rw [if_pos c42] at H
                                              have c42b0 : decide ((wrap64 (t149 + (rd x8_2 (ji37)))) < (rd x8_2 x10_1)) = true := decide_eq_true c42
                                              clear c42
                                              obtain ⟨y152, hy152⟩ : ∃ y_ : List Int, y_ = (x8_2.set (x10_1 : Int).toNat (wrap64 (t149 + (rd x8_2 (ji37))))) := ⟨_, rfl⟩
                                              replace H : (if x10_1 < (x9_2.length : Int) then (spec_Cheapest.l1 k2 a0 a1 y131 (a0.size : Int) y152 (x9_2.set (x10_1 : Int).toNat (⟨0, x13_2, t147⟩ : S44)) x10_1 t146 t147 (wrap64 (x13_2 + 1))) else (none)) = some (r1, r2) := by first | (rw [hy152]; with_reducible exact H) | (have H2_ := (Option.bind_some _ _).symm.trans H; rw [hy152]; with_reducible exact H2_) | (have H2_ := (Option.bind_some _ _).symm.trans H; with_reducible exact H2_) | with_reducible exact H | (rw [hy152]; exact H) | exact H
                                              have Ny152 := Aside0.mk hy152
                                              clear hy152
                                              by_cases c44 : x10_1 < (x9_2.length : Int)
                                              · rw [if_pos c44] at H
                                                have c44b0 : decide (x10_1 < (x9_2.length : Int)) = true := decide_eq_true c44
                                                clear c44
                                                obtain ⟨y153, hy153⟩ : ∃ y_ : List (S44), y_ = (x9_2.set (x10_1 : Int).toNat (⟨0, x13_2, t147⟩ : S44)) := ⟨_, rfl⟩
                                                replace H : (spec_Cheapest.l1 k2 a0 a1 y131 (a0.size : Int) y152 y153 x10_1 t146 t147 (wrap64 (x13_2 + 1))) = some (r1, r2) := by first | (rw [hy153]; with_reducible exact H) | (have H2_ := (Option.bind_some _ _).symm.trans H; rw [hy153]; with_reducible exact H2_) | (have H2_ := (Option.bind_some _ _).symm.trans H; with_reducible exact H2_) | with_reducible exact H | (rw [hy153]; exact H) | exact H
                                                have Ny153 := Aside0.mk hy153
                                                clear hy153
                                                have H' := Aside0.mk H
                                                clear H
                                                try go_wp2_with (first | ((with_reducible refine gate_dst (N := 14) rfl ?_); refine box_event ?hg (N := 14) ?hd (cs := #[.int .i64 0, .int .i64 0, .int .i64 0]) (t := 44) ?hr ?_; (case hd => rfl); (case hg => rfl); (case hr => first | (go_simp; done) | (go_simp; rfl)); intro gb148 hg w46 hbox hb; have n0_ := Aside0.mk (Kd.R_below (Kd.R_elderB (by (with_reducible repeat (first | apply Kd.R_alloc | apply Kd.R_drewN | apply Kd.R_drew)); exact HO_6.out) gb148 (Nat.le_of_eq hg.symm)) hb); have n1_ := Aside0.mk (Kd.R_below (by (with_reducible repeat (first | apply Kd.R_alloc | apply Kd.R_drewN | apply Kd.R_drew)); exact HO_8.out) hb); have n2_ := Aside0.mk (Kd.R_below (Kd.R_elderB (by (with_reducible repeat (first | apply Kd.R_alloc | apply Kd.R_drewN | apply Kd.R_drew)); exact HO_9.out) gb148 (Nat.le_of_eq hg.symm)) hb); have n3_ := Aside0.mk (below_step (by repeat (first | (with_reducible first | exact HB.out | apply below_alloc | apply pw_below_drewN | apply below_drew1) | exact HB.out)) hb); have n4_ := Aside0.mk (hbox); have n5_ := Aside0.mk ((by rw [hg]; exact (below_size (by repeat (first | (with_reducible first | exact HB.out | apply below_alloc | apply pw_below_drewN | apply below_drew1) | exact HB.out))) : w.heap.size ≤ gb148)); have n6_ := Aside0.mk ((by rw [hg]; exact (below_size (by repeat (first | (with_reducible first | exact HB.out | apply below_alloc | apply pw_below_drewN | apply below_drew1) | exact HB.out))) : w.heap.size ≤ gb148)); clear HO_6; clear HO_8; clear HO_9; clear HB; have HO_6 := n0_; have HO_8 := n1_; have HO_9 := n2_; have HB := n3_; have BK148 := n4_; have GW148 := n5_; have GE148 := n6_; clear n0_ n1_ n2_ n3_ n4_ n5_ n6_; clear hb hbox hg; have hcz47_0 : w46.cell? ⟨gb148, 0, none⟩ = some (.int .i64 0) := (blk_cell BK148.out 0).trans rfl; have hcz47_1 : w46.cell? ⟨gb148, 1, none⟩ = some (.int .i64 0) := (blk_cell BK148.out 1).trans rfl; have hcz47_2 : w46.cell? ⟨gb148, 2, none⟩ = some (.int .i64 0) := (blk_cell BK148.out 2).trans rfl; have hfz47_0 := blk_frozen BK148.out 0; have hfz47_1 := blk_frozen BK148.out 1; have hfz47_2 := blk_frozen BK148.out 2))
                                                have n0_ : Aside0 (Kd.R k44 44 (((w46.setCell ⟨gb148, 0, none⟩ (.int .i64 0)).setCell ⟨gb148, 1, none⟩ (.int .i64 x13_2)).setCell ⟨gb148, 2, none⟩ (.int .i64 t147)) w.heap.size (fun k_ => some k_ ≠ (.slice (some ⟨go21, 0, none⟩) x9_2.length co21 : Value).ownBlock ∧ k_ ≠ gb148) v132 y131) := ⟨by (with_reducible repeat (first | apply Kd.R_alloc | apply Kd.R_drewN | apply Kd.R_drew)); exact Kd.R_mono (Kd.R_far (p := ⟨gb148, 2, none⟩) (Kd.R_far (p := ⟨gb148, 1, none⟩) (Kd.R_far (p := ⟨gb148, 0, none⟩) (Kd.R_mono HO_6.out (fun k_ hk => (⟨hk, hk.2⟩ : _ ∧ k_ ≠ gb148))) (fun _ hk => hk.2) (.int .i64 0)) (fun _ hk => hk.2) (.int .i64 x13_2)) (fun _ hk => hk.2) (.int .i64 t147)) (fun _ hk => ⟨hk.1.1, hk.1.2⟩)⟩
                                                have n1_ : Aside0 (Kd.R (Kd.int .i64) 3 (((w46.setCell ⟨gb148, 0, none⟩ (.int .i64 0)).setCell ⟨gb148, 1, none⟩ (.int .i64 x13_2)).setCell ⟨gb148, 2, none⟩ (.int .i64 t147)) w.heap.size (fun _ => True) (.slice (some ⟨go27, 0, none⟩) x8_2.length co32) x8_2) := ⟨by (with_reducible repeat (first | apply Kd.R_alloc | apply Kd.R_drewN | apply Kd.R_drew)); exact Kd.R_mono (Kd.R_far (p := ⟨gb148, 2, none⟩) (Kd.R_far (p := ⟨gb148, 1, none⟩) (Kd.R_far (p := ⟨gb148, 0, none⟩) (Kd.R_types HO_8.out BK148.out (by decide)) (fun _ hk => hk.2) (.int .i64 0)) (fun _ hk => hk.2) (.int .i64 x13_2)) (fun _ hk => hk.2) (.int .i64 t147)) (fun _ hk => trivial)⟩
                                                have n2_ : Aside0 (Kd.R k44 44 (((w46.setCell ⟨gb148, 0, none⟩ (.int .i64 0)).setCell ⟨gb148, 1, none⟩ (.int .i64 x13_2)).setCell ⟨gb148, 2, none⟩ (.int .i64 t147)) w.heap.size (fun k_ => some k_ ≠ (v132 : Value).ownBlock ∧ k_ ≠ gb148) (.slice (some ⟨go21, 0, none⟩) x9_2.length co21) x9_2) := ⟨by (with_reducible repeat (first | apply Kd.R_alloc | apply Kd.R_drewN | apply Kd.R_drew)); exact Kd.R_mono (Kd.R_far (p := ⟨gb148, 2, none⟩) (Kd.R_far (p := ⟨gb148, 1, none⟩) (Kd.R_far (p := ⟨gb148, 0, none⟩) (Kd.R_mono HO_9.out (fun k_ hk => (⟨hk, hk.2⟩ : _ ∧ k_ ≠ gb148))) (fun _ hk => hk.2) (.int .i64 0)) (fun _ hk => hk.2) (.int .i64 x13_2)) (fun _ hk => hk.2) (.int .i64 t147)) (fun _ hk => ⟨hk.1.1, hk.1.2⟩)⟩
                                                have n3_ : Aside0 ((((w46.setCell ⟨gb148, 0, none⟩ (.int .i64 0)).setCell ⟨gb148, 1, none⟩ (.int .i64 x13_2)).setCell ⟨gb148, 2, none⟩ (.int .i64 t147)).heap[gb148]? = some (.cells #[.int .i64 0, .int .i64 x13_2, .int .i64 t147] 44 (0, 0))) := ⟨by (with_reducible repeat (first | refine blk_drewN ?_ _ | refine blk_drew ?_ | refine blk_alloc ?_ _)); refine blk_put (cs := #[.int .i64 0, .int .i64 x13_2, .int .i64 0]) ?_ 2 _ rfl; (with_reducible repeat (first | refine blk_drewN ?_ _ | refine blk_drew ?_ | refine blk_alloc ?_ _)); refine blk_put (cs := #[.int .i64 0, .int .i64 0, .int .i64 0]) ?_ 1 _ rfl; (with_reducible repeat (first | refine blk_drewN ?_ _ | refine blk_drew ?_ | refine blk_alloc ?_ _)); refine blk_put (cs := #[.int .i64 0, .int .i64 0, .int .i64 0]) ?_ 0 _ rfl; (with_reducible repeat (first | refine blk_drewN ?_ _ | refine blk_drew ?_ | refine blk_alloc ?_ _)); exact BK148.out⟩
                                                have n4_ : Aside0 (Below w.heap.size w (((w46.setCell ⟨gb148, 0, none⟩ (.int .i64 0)).setCell ⟨gb148, 1, none⟩ (.int .i64 x13_2)).setCell ⟨gb148, 2, none⟩ (.int .i64 t147))) := ⟨by repeat (first | (with_reducible first | exact HB.out | apply below_alloc | apply pw_below_drewN | apply below_drew1 | refine below_set ?_ GE148.out) | exact HB.out)⟩
                                                (try clear HO_6)
                                                (try clear HO_8)
                                                (try clear HO_9)
                                                (try clear BK148)
                                                (try clear HB)
                                                generalize (((w46.setCell ⟨gb148, 0, none⟩ (.int .i64 0)).setCell ⟨gb148, 1, none⟩ (.int .i64 x13_2)).setCell ⟨gb148, 2, none⟩ (.int .i64 t147)) = w48 at n0_ n1_ n2_ n3_ n4_ ⊢
                                                have HO_6 := n0_
                                                have HO_8 := n1_
                                                have HO_9 := n2_
                                                have BK148 := n3_
                                                have HB := n4_
                                                clear n0_ n1_ n2_ n3_ n4_
                                                have n0_ := Aside0.mk (Kd.R_drew HO_6.out)
                                                have n1_ := Aside0.mk (Kd.R_drew HO_8.out)
                                                have n2_ := Aside0.mk (Kd.R_drew HO_9.out)
                                                have n3_ := Aside0.mk (blk_drew BK148.out)
                                                have n4_ := Aside0.mk (below_drew1 HB.out)
                                                clear HO_6
                                                clear HO_8
                                                clear HO_9
                                                clear BK148
                                                clear HB
                                                have HO_6 := n0_
                                                have HO_8 := n1_
                                                have HO_9 := n2_
                                                have BK148 := n3_
                                                have HB := n4_
                                                clear n0_ n1_ n2_ n3_ n4_
                                                have p150 : 0 ≤ ((ji37) : Int) := of_decide_eq_true (by first | (with_reducible assumption) | assumption)
                                                have q150 : (ji37) < (x8_2.length : Int) := of_decide_eq_true (by first | (with_reducible assumption) | assumption)
                                                obtain ⟨ad150, e150, hx150_0⟩ := Kd.at_int (Kd.R_reads' HO_8.out).2.2 (ji37) p150 q150
                                                obtain rfl : (⟨go27, 0, none⟩ : Addr) = ad150 := (by injection e150)
                                                (first | simp only [add_plain] at hx150_0 | simp only [add_at] at hx150_0 | simp only [Addr.add, Nat.zero_add] at hx150_0 | skip)
                                                replace p150 := eq_true p150
                                                replace q150 := eq_true q150
                                                refine start_ (n := 10) (S := fun w' => w'.cell? ⟨gb148, 0, none⟩ = some (.int .i64 0) ∧ w'.cell? ⟨gb148, 1, none⟩ = some (.int .i64 x13_2) ∧ w'.cell? ⟨gb148, 2, none⟩ = some (.int .i64 t147) ∧ w'.cell? ⟨go27, ((ji37)).toNat, none⟩ = some (.int .i64 (rd x8_2 (ji37)))) (ds := []) #[false, false, false, false, false, false, false, false, false, false] (by kernel_rfl) rfl rfl ⟨(blk_cell BK148.out 0).trans rfl, (blk_cell BK148.out 1).trans rfl, (blk_cell BK148.out 2).trans rfl, hx150_0⟩ (fun hHeld => ?_); refine with_tabW spec_Cheapest.tab17 spec_Cheapest.bits17 (fun HT_ HW_ => ?_)
                                                generalize w48.drew = w49 at HO_6 HO_8 HO_9 BK148 HB hx150_0 hHeld ⊢
                                                refine pure_ (i := 2) (N := some 75) (v := ?_) (a' := ?_) #[false, false, true, false, false, false, false, false, false, false] rfl rfl (any_of HT_.out (by kernel_rfl)) (fun _ _ _ h => h) (Or.inl ⟨by rfl, ?_⟩) ?_ ?_
                                                rotate_left
                                                · intro w'
                                                  go_simp
                                                  with_reducible rfl
                                                rotate_left
                                                · simp only [Act.put, List.setIfInBounds_toArray, List.set_cons_zero, List.set_cons_succ, i64_w, i32_w]
                                                  rfl
                                                refine pure_ (i := 3) (N := some 76) (v := ?_) (a' := ?_) #[false, false, true, true, false, false, false, false, false, false] rfl rfl (any_of HT_.out (by kernel_rfl)) (fun _ _ _ h => h) (Or.inl ⟨by rfl, ?_⟩) ?_ ?_
                                                rotate_left
                                                · intro w'
                                                  go_simp
                                                  with_reducible rfl
                                                rotate_left
                                                · simp only [Act.put, List.setIfInBounds_toArray, List.set_cons_zero, List.set_cons_succ, i64_w, i32_w]
                                                  rfl
                                                refine pure_ (i := 4) (N := some 77) (v := ?_) (a' := ?_) #[false, false, true, true, true, false, false, false, false, false] rfl rfl (any_of HT_.out (by kernel_rfl)) (fun _ _ _ h => h) (Or.inl ⟨by rfl, ?_⟩) ?_ ?_
                                                rotate_left
                                                · intro w'
                                                  go_simp
                                                  with_reducible rfl
                                                rotate_left
                                                · simp only [Act.put, List.setIfInBounds_toArray, List.set_cons_zero, List.set_cons_succ, i64_w, i32_w]
                                                  rfl
                                                refine pure_ (i := 5) (N := some 78) (v := ?_) (a' := ?_) #[false, false, true, true, true, true, false, false, false, false] rfl rfl (any_of HT_.out (by kernel_rfl)) (fun _ _ _ h => h) (Or.inl ⟨by rfl, ?_⟩) ?_ ?_
                                                rotate_left
                                                · intro w'
                                                  go_simp
                                                  with_reducible rfl
                                                rotate_left
                                                · simp only [Act.put, List.setIfInBounds_toArray, List.set_cons_zero, List.set_cons_succ, i64_w, i32_w]
                                                  rfl
                                                refine pure_ (i := 6) (N := some 79) (v := ?_) (a' := ?_) #[false, false, true, true, true, true, true, false, false, false] rfl rfl (any_of HT_.out (by kernel_rfl)) (fun _ _ _ h => h) (Or.inl ⟨by rfl, ?_⟩) ?_ ?_
                                                rotate_left
                                                · intro w'
                                                  go_simp
                                                  with_reducible rfl
                                                rotate_left
                                                · simp only [Act.put, List.setIfInBounds_toArray, List.set_cons_zero, List.set_cons_succ, i64_w, i32_w]
                                                  rfl
                                                refine take_ (i := 0) (N := some 73) (v := ?_) (a' := ?_) #[true, false, true, true, true, true, true, false, false, false] rfl rfl (take_ofW HT_.out HW_.out (by kernel_rfl)) (fun _ _ _ h => h) (Or.inl ⟨by rfl, ?_⟩) hHeld ?_ ?_
                                                rotate_left
                                                · rintro w' ⟨s0, s1, s2, s3⟩
                                                  go_simp
                                                  with_reducible rfl
                                                rotate_left
                                                · simp only [Act.put, List.setIfInBounds_toArray, List.set_cons_zero, List.set_cons_succ, i64_w, i32_w]
                                                  rfl
                                                refine take_ (i := 7) (N := some 80) (v := ?_) (a' := ?_) #[true, false, true, true, true, true, true, true, false, false] rfl rfl (take_ofW HT_.out HW_.out (by kernel_rfl)) (fun _ _ _ h => h) (Or.inl ⟨by rfl, ?_⟩) hHeld ?_ ?_
                                                rotate_left
                                                · rintro w' ⟨s0, s1, s2, s3⟩
                                                  go_simp
                                                  with_reducible rfl
                                                rotate_left
                                                · simp only [Act.put, List.setIfInBounds_toArray, List.set_cons_zero, List.set_cons_succ, i64_w, i32_w]
                                                  rfl
                                                refine one_ (i := 1) (N := some 74) #[true, true, true, true, true, true, true, true, false, false] rfl rfl (one_of HT_.out (by kernel_rfl)) (by decide) (fun K hK => ?_)
                                                refine goes_ Try.func34 (by kernel_rfl) rfl #[.agg #[.int .i64 0, .int .i64 x13_2, .int .i64 t147]] (by rfl) rfl rfl (by (try simp only [List.map_toArray, List.map_cons, List.map_nil]); first | done | rfl | (simp only [List.length_drop, List.length_take]; rfl)) ?_
                                                with_reducible refine (spec_l07Cost.calls k2 0 x13_2 t147 t149 _ A36.out).mono ?_
                                                rintro e w50 ⟨rfl, hb⟩
                                                have HS3_ := (hb.cell (World.block_lt_of_cell? _ _ (hHeld.2.2.2))).trans (hHeld.2.2.2)
                                                refine ⟨_, rfl, ?_⟩
                                                have n0_ := Aside0.mk (Kd.R_below (by (with_reducible repeat (first | apply Kd.R_alloc | apply Kd.R_drewN | apply Kd.R_drew)); exact HO_6.out) hb)
                                                have n1_ := Aside0.mk (Kd.R_below (by (with_reducible repeat (first | apply Kd.R_alloc | apply Kd.R_drewN | apply Kd.R_drew)); exact HO_8.out) hb)
                                                have n2_ := Aside0.mk (Kd.R_below (by (with_reducible repeat (first | apply Kd.R_alloc | apply Kd.R_drewN | apply Kd.R_drew)); exact HO_9.out) hb)
                                                have n3_ := Aside0.mk (blk_below (g := gb148) (o := .cells #[.int .i64 0, .int .i64 x13_2, .int .i64 t147] 44 (0, 0)) (by (with_reducible repeat (first | refine blk_drewN ?_ _ | refine blk_drew ?_ | refine blk_alloc ?_ _)); exact BK148.out) hb)
                                                have n4_ := Aside0.mk (below_step (by repeat (first | (with_reducible first | exact HB.out | apply below_alloc | apply pw_below_drewN | apply below_drew1 | refine below_set ?_ GE148.out) | exact HB.out)) hb)
                                                clear HO_6
                                                clear HO_8
                                                clear HO_9
                                                clear BK148
                                                clear HB
                                                have HO_6 := n0_
                                                have HO_8 := n1_
                                                have HO_9 := n2_
                                                have BK148 := n3_
                                                have HB := n4_
                                                clear n0_ n1_ n2_ n3_ n4_
                                                (try clear hb)
                                                (try clear hb2)
                                                (try clear hk)
                                                (try clear hi)
                                                refine hK.out _ _ ⟨(blk_cell BK148.out 0).trans rfl, (blk_cell BK148.out 1).trans rfl, (blk_cell BK148.out 2).trans rfl, HS3_⟩ (fun hHeld => ?_)
                                                clear hK K
                                                refine norm_ (a' := ?_) ?_ ?_
                                                rotate_left
                                                · show Act.put _ (some 74) _ = _
                                                  simp only [Act.put, List.setIfInBounds_toArray, List.set_cons_zero, List.set_cons_succ, i64_w, i32_w]
                                                  rfl
                                                refine pure_ (i := 8) (N := some 81) (v := ?_) (a' := ?_) #[true, true, true, true, true, true, true, true, true, false] rfl rfl (any_of HT_.out (by kernel_rfl)) (fun _ _ _ h => h) (Or.inl ⟨by rfl, ?_⟩) ?_ ?_
                                                rotate_left
                                                · intro w'
                                                  go_simp
                                                  with_reducible rfl
                                                rotate_left
                                                · simp only [Act.put, List.setIfInBounds_toArray, List.set_cons_zero, List.set_cons_succ, i64_w, i32_w]
                                                  rfl
                                                refine pure_ (i := 9) (N := some 15) (v := ?_) (a' := ?_) #[true, true, true, true, true, true, true, true, true, true] rfl rfl (any_of HT_.out (by kernel_rfl)) (fun _ _ _ h => h) (Or.inl ⟨by rfl, ?_⟩) ?_ ?_
                                                rotate_left
                                                · intro w'
                                                  go_simp
                                                  with_reducible rfl
                                                rotate_left
                                                · simp only [Act.put, List.setIfInBounds_toArray, List.set_cons_zero, List.set_cons_succ, i64_w, i32_w]
                                                  rfl
                                                refine done_ (done_of HT_.out (by kernel_rfl)) ?_
                                                have p151 : 0 ≤ (x10_1 : Int) := of_decide_eq_true (by first | (with_reducible assumption) | assumption)
                                                have q151 : x10_1 < (x8_2.length : Int) := of_decide_eq_true (by first | (with_reducible assumption) | assumption)
                                                obtain ⟨ad151, e151, hx151_0⟩ := Kd.at_int (Kd.R_reads' HO_8.out).2.2 x10_1 p151 q151
                                                obtain rfl : (⟨go27, 0, none⟩ : Addr) = ad151 := (by injection e151)
                                                (first | simp only [add_plain] at hx151_0 | simp only [add_at] at hx151_0 | simp only [Addr.add, Nat.zero_add] at hx151_0 | skip)
                                                replace p151 := eq_true p151
                                                replace q151 := eq_true q151
                                                have p43 : 0 ≤ (x10_1 : Int) := of_decide_eq_true (by first | (with_reducible assumption) | assumption)
                                                have q43 : (x10_1 : Int) < ((x8_2.length : Int) : Int) := of_decide_eq_true (by first | (with_reducible assumption) | assumption)
                                                obtain ⟨hx43_0, hf43_0⟩ := Kd.R_celln 0 HO_8.out (x10_1 : Int) p43 q43
                                                replace p43 := eq_true p43
                                                replace q43 := eq_true q43
                                                obtain ⟨hy51_, hz51_⟩ := Kd.R_celln 0 HO_8.out (x10_1 : Int) (of_decide_eq_true (by first | (with_reducible assumption) | assumption)) (of_decide_eq_true (by first | (with_reducible assumption) | assumption))
                                                have HP51 := Kd.R_putg HO_8.out (x10_1 : Int) (wrap64 (t149 + (rd x8_2 (ji37))))
                                                try go_wp2_with (first | ((with_reducible refine gate_store (t := 3) (p := 91) rfl ?_); refine store_event (t := 3) (p := 91) (v := ?vo_w52) (w1 := (w50.setCell ⟨go27, (x10_1 : Int).toNat, none⟩ (.int .i64 (wrap64 (t149 + (rd x8_2 (ji37))))))) ?hg ?ho ?hn ?hr ?_; (case ho => rfl); (case hg => rfl); (case hn => rfl); (case hr => first | (go_simp; done) | (go_simp; rfl)); intro w52 hw; have hg : w50.grownBy w52 (some go27) := (by rw [hw]; exact HP51.2); have hp_ : Kd.R (Kd.int .i64) 3 w52 w.heap.size (fun _ => True) (.slice (some ⟨go27, 0, none⟩) x8_2.length co32) y152 := (by rw [hw, Ny152.out]; exact HP51.1); clear HP51; have n0_ := Aside0.mk (Kd.R_over' (v := (.slice (some ⟨go27, 0, none⟩) x8_2.length co32)) (by (with_reducible repeat (first | apply Kd.R_alloc | apply Kd.R_drewN | apply Kd.R_drew)); exact HO_6.out) (Kd.R_typed HO_8.out) (by decide) hg); have n1_ := Aside0.mk (hp_); have n2_ := Aside0.mk (Kd.R_over' (v := (.slice (some ⟨go27, 0, none⟩) x8_2.length co32)) (by (with_reducible repeat (first | apply Kd.R_alloc | apply Kd.R_drewN | apply Kd.R_drew)); exact HO_9.out) (Kd.R_typed HO_8.out) (by decide) hg); have n3_ := Aside0.mk (blk_grown (g := gb148) (o := .cells #[.int .i64 0, .int .i64 x13_2, .int .i64 t147] 44 (0, 0)) (by (with_reducible repeat (first | refine blk_drewN ?_ _ | refine blk_drew ?_ | refine blk_alloc ?_ _)); exact BK148.out) hg (Kd.R_ne HO_8.out BK148.out (by decide))); have n4_ := Aside0.mk ((by rw [hw]; exact below_set (HB.out) GB27.out : Below w.heap.size w w52)); clear HO_6; clear HO_8; clear HO_9; clear BK148; clear HB; have HO_6 := n0_; have HO_8 := n1_; have HO_9 := n2_; have BK148 := n3_; have HB := n4_; clear n0_ n1_ n2_ n3_ n4_; clear hg hw hp_; have hcz53_0 : w52.cell? ⟨gb148, 0, none⟩ = some (.int .i64 0) := (blk_cell BK148.out 0).trans rfl; have hcz53_1 : w52.cell? ⟨gb148, 1, none⟩ = some (.int .i64 x13_2) := (blk_cell BK148.out 1).trans rfl; have hcz53_2 : w52.cell? ⟨gb148, 2, none⟩ = some (.int .i64 t147) := (blk_cell BK148.out 2).trans rfl; have hfz53_0 := blk_frozen BK148.out 0; have hfz53_1 := blk_frozen BK148.out 1; have hfz53_2 := blk_frozen BK148.out 2; have p45 : 0 ≤ (x10_1 : Int) := of_decide_eq_true (by first | (with_reducible assumption) | assumption); have q45 : (x10_1 : Int) < ((x9_2.length : Int) : Int) := of_decide_eq_true (by first | (with_reducible assumption) | assumption); obtain ⟨ce45, hcl45, hM45, hcc45, hfr45⟩ := Kd.R_elem HO_9.out z44 (x10_1 : Int) p45 q45; obtain rfl := k44_openM hM45; have hx45_0 : w52.cell? ⟨go21, (x10_1 : Int).toNat * 3, none⟩ = some (.int .i64 ((rd_T44 x9_2 x10_1).f0)) := hcc45 0 _ rfl; have hx45_1 : w52.cell? ⟨go21, (x10_1 : Int).toNat * 3 + 1, none⟩ = some (.int .i64 ((rd_T44 x9_2 x10_1).f1)) := hcc45 1 _ rfl; have hx45_2 : w52.cell? ⟨go21, (x10_1 : Int).toNat * 3 + 2, none⟩ = some (.int .i64 ((rd_T44 x9_2 x10_1).f2)) := hcc45 2 _ rfl; have hf45_0 : w52.frozen? ⟨go21, (x10_1 : Int).toNat * 3, none⟩ = false := hfr45 0; have hf45_1 : w52.frozen? ⟨go21, (x10_1 : Int).toNat * 3 + 1, none⟩ = false := hfr45 1; have hf45_2 : w52.frozen? ⟨go21, (x10_1 : Int).toNat * 3 + 2, none⟩ = false := hfr45 2; clear hcl45 hcc45 hfr45 hM45; replace p45 := eq_true p45; replace q45 := eq_true q45; have HX54 := Aside0.mk (show Kd.R k44 44 w52 w.heap.size (fun k_ => some k_ ≠ (v132 : Value).ownBlock ∧ k_ ≠ gb148) (.slice (some ⟨go21, 0, none⟩) x9_2.length co21) x9_2 from (by (with_reducible repeat (first | apply Kd.R_alloc | apply Kd.R_drewN | apply Kd.R_drew)); exact HO_9.out)); obtain ⟨ce54, hcl54, hM54, hcc54, hfr54⟩ := Kd.R_elem HX54.out z44 (x10_1 : Int) (of_decide_eq_true (by first | (with_reducible assumption) | assumption)) (by have h_ : (x10_1 : Int) < ((x9_2.length : Int) : Int) := of_decide_eq_true (by first | (with_reducible assumption) | assumption); first | exact h_ | (have e_ := (Kd.R_reads' HO_9.out).1; omega) | simpa using h_); obtain rfl := k44_openM hM54; have HP54 := Kd.R_seg HX54.out (x10_1 : Int) (of_decide_eq_true (by first | (with_reducible assumption) | assumption)) (by have h_ : (x10_1 : Int) < ((x9_2.length : Int) : Int) := of_decide_eq_true (by first | (with_reducible assumption) | assumption); first | exact h_ | (have e_ := (Kd.R_reads' HO_9.out).1; omega) | simpa using h_) (seg := [.int .i64 0, .int .i64 x13_2, .int .i64 t147]) (j := 0) hcl54 hcc54 (show 3 ≤ 3 from by decide) (x' := (⟨0, x13_2, t147⟩ : S44)) (k44_mkM _ _ _ (⟨0, x13_2, t147⟩ : S44) ) (fun _ hk => hk); have hx54_0 := hcc54 0 _ rfl; (try simp only [show (k44).sz = 3 from rfl, Nat.mul_one, Nat.add_zero] at hx54_0); have hf54_0 := hfr54 0; (try simp only [show (k44).sz = 3 from rfl, Nat.mul_one, Nat.add_zero] at hf54_0); have hx54_1 := hcc54 1 _ rfl; (try simp only [show (k44).sz = 3 from rfl, Nat.mul_one, Nat.add_zero] at hx54_1); have hf54_1 := hfr54 1; (try simp only [show (k44).sz = 3 from rfl, Nat.mul_one, Nat.add_zero] at hf54_1); have hx54_2 := hcc54 2 _ rfl; (try simp only [show (k44).sz = 3 from rfl, Nat.mul_one, Nat.add_zero] at hx54_2); have hf54_2 := hfr54 2; (try simp only [show (k44).sz = 3 from rfl, Nat.mul_one, Nat.add_zero] at hf54_2); clear hcl54 hcc54 hfr54 hM54) | ((with_reducible refine gate_store (t := 44) (p := 95) rfl ?_); refine store_event (t := 44) (p := 95) (v := ?vo_w55) (w1 := (((w52.setCell ⟨go21, (x10_1 : Int).toNat * 3, none⟩ (.int .i64 0)).setCell ⟨go21, (x10_1 : Int).toNat * 3 + 1, none⟩ (.int .i64 x13_2)).setCell ⟨go21, (x10_1 : Int).toNat * 3 + 2, none⟩ (.int .i64 t147))) ?hg ?ho ?hn ?hr ?_; (case ho => rfl); (case hg => rfl); (case hn => rfl); (case hr => first | (go_simp; done) | (go_simp; rfl)); intro w55 hw; have hg : w52.grownBy w55 (some go21) := (by rw [hw]; exact HP54.2); have hp_ : Kd.R k44 44 w55 w.heap.size (fun k_ => some k_ ≠ (v132 : Value).ownBlock ∧ k_ ≠ gb148) (.slice (some ⟨go21, 0, none⟩) x9_2.length co21) y153 := (by rw [hw, Ny153.out]; exact HP54.1); clear HP54; have n0_ := Aside0.mk (Kd.R_after (v := (.slice (some ⟨go21, 0, none⟩) x9_2.length co21)) (v1 := (.slice (some ⟨go21, 0, none⟩) x9_2.length co21)) (ok := (fun k_ => k_ ≠ gb148)) (by (with_reducible repeat (first | apply Kd.R_alloc | apply Kd.R_drewN | apply Kd.R_drew)); exact Kd.R_mono HO_6.out (fun _ hk => ⟨hk.2, hk.1⟩)) hg (.inl rfl)); have n1_ := Aside0.mk (Kd.R_over' (v := (.slice (some ⟨go21, 0, none⟩) x9_2.length co21)) (by (with_reducible repeat (first | apply Kd.R_alloc | apply Kd.R_drewN | apply Kd.R_drew)); exact HO_8.out) (Kd.R_typed HO_9.out) (by decide) hg); have n2_ := Aside0.mk (hp_); have n3_ := Aside0.mk (blk_grown (g := gb148) (o := .cells #[.int .i64 0, .int .i64 x13_2, .int .i64 t147] 44 (0, 0)) (by (with_reducible repeat (first | refine blk_drewN ?_ _ | refine blk_drew ?_ | refine blk_alloc ?_ _)); exact BK148.out) hg (Kd.R_away HO_9.out (fun _ hk => hk.2))); have n4_ := Aside0.mk ((by rw [hw]; exact below_set (below_set (below_set (HB.out) GB21.out) GB21.out) GB21.out : Below w.heap.size w w55)); clear HO_6; clear HO_8; clear HO_9; clear BK148; clear HB; have HO_6 := n0_; have HO_8 := n1_; have HO_9 := n2_; have BK148 := n3_; have HB := n4_; clear n0_ n1_ n2_ n3_ n4_; clear hg hw hp_))
                                                (try simp only [← hl8_2, ← hl9_2])
                                                go_roundg k2
                                                case measure => have := HK1.out; have := HK2.out; omega
                                                case rel => exact ⟨(y152), (y153), (wrap64 (x13_2 + 1)), (by first | rfl | (simp; done) | (simp [*]; done)), H', ⟨by have := HK1.out; have := HK2.out; omega⟩, ⟨by (try simp only [hl8_2]); (try simp only [hl9_2]); (with_reducible repeat (first | apply Kd.R_alloc | apply Kd.R_drewN | apply Kd.R_drew)); exact Kd.R_mono HO_6.out (fun _ hk => hk.2)⟩, ⟨by (try simp only [hl8_2]); (try simp only [hl9_2]); (with_reducible repeat (first | apply Kd.R_alloc | apply Kd.R_drewN | apply Kd.R_drew)); exact HO_8.out⟩, ⟨by (try simp only [hl8_2]); (try simp only [hl9_2]); (with_reducible repeat (first | apply Kd.R_alloc | apply Kd.R_drewN | apply Kd.R_drew)); exact Kd.R_mono HO_9.out (fun _ hk => hk.1)⟩, ⟨by repeat (first | (with_reducible first | exact HB.out | apply below_alloc | apply pw_below_drewN | apply below_drew1 | refine below_set ?_ GE148.out) | exact HB.out)⟩⟩
                                              · rw [if_neg c44] at H
                                                exact absurd H (by simp)
                                            · rw [if_neg c42] at H
                                              have c42b0 : decide ((wrap64 (t149 + (rd x8_2 (ji37)))) < (rd x8_2 x10_1)) = false := decide_eq_false c42
                                              clear c42
                                              have H' := Aside0.mk H
                                              clear H
                                              try go_wp2_with (first | ((with_reducible refine gate_dst (N := 14) rfl ?_); refine box_event ?hg (N := 14) ?hd (cs := #[.int .i64 0, .int .i64 0, .int .i64 0]) (t := 44) ?hr ?_; (case hd => rfl); (case hg => rfl); (case hr => first | (go_simp; done) | (go_simp; rfl)); intro gb148 hg w56 hbox hb; have n0_ := Aside0.mk (Kd.R_below (Kd.R_elderB (by (with_reducible repeat (first | apply Kd.R_alloc | apply Kd.R_drewN | apply Kd.R_drew)); exact HO_6.out) gb148 (Nat.le_of_eq hg.symm)) hb); have n1_ := Aside0.mk (Kd.R_below (by (with_reducible repeat (first | apply Kd.R_alloc | apply Kd.R_drewN | apply Kd.R_drew)); exact HO_8.out) hb); have n2_ := Aside0.mk (Kd.R_below (Kd.R_elderB (by (with_reducible repeat (first | apply Kd.R_alloc | apply Kd.R_drewN | apply Kd.R_drew)); exact HO_9.out) gb148 (Nat.le_of_eq hg.symm)) hb); have n3_ := Aside0.mk (below_step (by repeat (first | (with_reducible first | exact HB.out | apply below_alloc | apply pw_below_drewN | apply below_drew1) | exact HB.out)) hb); have n4_ := Aside0.mk (hbox); have n5_ := Aside0.mk ((by rw [hg]; exact (below_size (by repeat (first | (with_reducible first | exact HB.out | apply below_alloc | apply pw_below_drewN | apply below_drew1) | exact HB.out))) : w.heap.size ≤ gb148)); have n6_ := Aside0.mk ((by rw [hg]; exact (below_size (by repeat (first | (with_reducible first | exact HB.out | apply below_alloc | apply pw_below_drewN | apply below_drew1) | exact HB.out))) : w.heap.size ≤ gb148)); clear HO_6; clear HO_8; clear HO_9; clear HB; have HO_6 := n0_; have HO_8 := n1_; have HO_9 := n2_; have HB := n3_; have BK148 := n4_; have GW148 := n5_; have GE148 := n6_; clear n0_ n1_ n2_ n3_ n4_ n5_ n6_; clear hb hbox hg; have hcz57_0 : w56.cell? ⟨gb148, 0, none⟩ = some (.int .i64 0) := (blk_cell BK148.out 0).trans rfl; have hcz57_1 : w56.cell? ⟨gb148, 1, none⟩ = some (.int .i64 0) := (blk_cell BK148.out 1).trans rfl; have hcz57_2 : w56.cell? ⟨gb148, 2, none⟩ = some (.int .i64 0) := (blk_cell BK148.out 2).trans rfl; have hfz57_0 := blk_frozen BK148.out 0; have hfz57_1 := blk_frozen BK148.out 1; have hfz57_2 := blk_frozen BK148.out 2))
                                              have n0_ : Aside0 (Kd.R k44 44 (((w56.setCell ⟨gb148, 0, none⟩ (.int .i64 0)).setCell ⟨gb148, 1, none⟩ (.int .i64 x13_2)).setCell ⟨gb148, 2, none⟩ (.int .i64 t147)) w.heap.size (fun k_ => some k_ ≠ (.slice (some ⟨go21, 0, none⟩) x9_2.length co21 : Value).ownBlock ∧ k_ ≠ gb148) v132 y131) := ⟨by (with_reducible repeat (first | apply Kd.R_alloc | apply Kd.R_drewN | apply Kd.R_drew)); exact Kd.R_mono (Kd.R_far (p := ⟨gb148, 2, none⟩) (Kd.R_far (p := ⟨gb148, 1, none⟩) (Kd.R_far (p := ⟨gb148, 0, none⟩) (Kd.R_mono HO_6.out (fun k_ hk => (⟨hk, hk.2⟩ : _ ∧ k_ ≠ gb148))) (fun _ hk => hk.2) (.int .i64 0)) (fun _ hk => hk.2) (.int .i64 x13_2)) (fun _ hk => hk.2) (.int .i64 t147)) (fun _ hk => ⟨hk.1.1, hk.1.2⟩)⟩
                                              have n1_ : Aside0 (Kd.R (Kd.int .i64) 3 (((w56.setCell ⟨gb148, 0, none⟩ (.int .i64 0)).setCell ⟨gb148, 1, none⟩ (.int .i64 x13_2)).setCell ⟨gb148, 2, none⟩ (.int .i64 t147)) w.heap.size (fun _ => True) (.slice (some ⟨go27, 0, none⟩) x8_2.length co32) x8_2) := ⟨by (with_reducible repeat (first | apply Kd.R_alloc | apply Kd.R_drewN | apply Kd.R_drew)); exact Kd.R_mono (Kd.R_far (p := ⟨gb148, 2, none⟩) (Kd.R_far (p := ⟨gb148, 1, none⟩) (Kd.R_far (p := ⟨gb148, 0, none⟩) (Kd.R_types HO_8.out BK148.out (by decide)) (fun _ hk => hk.2) (.int .i64 0)) (fun _ hk => hk.2) (.int .i64 x13_2)) (fun _ hk => hk.2) (.int .i64 t147)) (fun _ hk => trivial)⟩
                                              have n2_ : Aside0 (Kd.R k44 44 (((w56.setCell ⟨gb148, 0, none⟩ (.int .i64 0)).setCell ⟨gb148, 1, none⟩ (.int .i64 x13_2)).setCell ⟨gb148, 2, none⟩ (.int .i64 t147)) w.heap.size (fun k_ => some k_ ≠ (v132 : Value).ownBlock ∧ k_ ≠ gb148) (.slice (some ⟨go21, 0, none⟩) x9_2.length co21) x9_2) := ⟨by (with_reducible repeat (first | apply Kd.R_alloc | apply Kd.R_drewN | apply Kd.R_drew)); exact Kd.R_mono (Kd.R_far (p := ⟨gb148, 2, none⟩) (Kd.R_far (p := ⟨gb148, 1, none⟩) (Kd.R_far (p := ⟨gb148, 0, none⟩) (Kd.R_mono HO_9.out (fun k_ hk => (⟨hk, hk.2⟩ : _ ∧ k_ ≠ gb148))) (fun _ hk => hk.2) (.int .i64 0)) (fun _ hk => hk.2) (.int .i64 x13_2)) (fun _ hk => hk.2) (.int .i64 t147)) (fun _ hk => ⟨hk.1.1, hk.1.2⟩)⟩
                                              have n3_ : Aside0 ((((w56.setCell ⟨gb148, 0, none⟩ (.int .i64 0)).setCell ⟨gb148, 1, none⟩ (.int .i64 x13_2)).setCell ⟨gb148, 2, none⟩ (.int .i64 t147)).heap[gb148]? = some (.cells #[.int .i64 0, .int .i64 x13_2, .int .i64 t147] 44 (0, 0))) := ⟨by (with_reducible repeat (first | refine blk_drewN ?_ _ | refine blk_drew ?_ | refine blk_alloc ?_ _)); refine blk_put (cs := #[.int .i64 0, .int .i64 x13_2, .int .i64 0]) ?_ 2 _ rfl; (with_reducible repeat (first | refine blk_drewN ?_ _ | refine blk_drew ?_ | refine blk_alloc ?_ _)); refine blk_put (cs := #[.int .i64 0, .int .i64 0, .int .i64 0]) ?_ 1 _ rfl; (with_reducible repeat (first | refine blk_drewN ?_ _ | refine blk_drew ?_ | refine blk_alloc ?_ _)); refine blk_put (cs := #[.int .i64 0, .int .i64 0, .int .i64 0]) ?_ 0 _ rfl; (with_reducible repeat (first | refine blk_drewN ?_ _ | refine blk_drew ?_ | refine blk_alloc ?_ _)); exact BK148.out⟩
                                              have n4_ : Aside0 (Below w.heap.size w (((w56.setCell ⟨gb148, 0, none⟩ (.int .i64 0)).setCell ⟨gb148, 1, none⟩ (.int .i64 x13_2)).setCell ⟨gb148, 2, none⟩ (.int .i64 t147))) := ⟨by repeat (first | (with_reducible first | exact HB.out | apply below_alloc | apply pw_below_drewN | apply below_drew1 | refine below_set ?_ GE148.out) | exact HB.out)⟩
                                              (try clear HO_6)
                                              (try clear HO_8)
                                              (try clear HO_9)
                                              (try clear BK148)
                                              (try clear HB)
                                              generalize (((w56.setCell ⟨gb148, 0, none⟩ (.int .i64 0)).setCell ⟨gb148, 1, none⟩ (.int .i64 x13_2)).setCell ⟨gb148, 2, none⟩ (.int .i64 t147)) = w58 at n0_ n1_ n2_ n3_ n4_ ⊢
                                              have HO_6 := n0_
                                              have HO_8 := n1_
                                              have HO_9 := n2_
                                              have BK148 := n3_
                                              have HB := n4_
                                              clear n0_ n1_ n2_ n3_ n4_
                                              have n0_ := Aside0.mk (Kd.R_drew HO_6.out)
                                              have n1_ := Aside0.mk (Kd.R_drew HO_8.out)
                                              have n2_ := Aside0.mk (Kd.R_drew HO_9.out)
                                              have n3_ := Aside0.mk (blk_drew BK148.out)
                                              have n4_ := Aside0.mk (below_drew1 HB.out)
                                              clear HO_6
                                              clear HO_8
                                              clear HO_9
                                              clear BK148
                                              clear HB
                                              have HO_6 := n0_
                                              have HO_8 := n1_
                                              have HO_9 := n2_
                                              have BK148 := n3_
                                              have HB := n4_
                                              clear n0_ n1_ n2_ n3_ n4_
                                              have p150 : 0 ≤ ((ji37) : Int) := of_decide_eq_true (by first | (with_reducible assumption) | assumption)
                                              have q150 : (ji37) < (x8_2.length : Int) := of_decide_eq_true (by first | (with_reducible assumption) | assumption)
                                              obtain ⟨ad150, e150, hx150_0⟩ := Kd.at_int (Kd.R_reads' HO_8.out).2.2 (ji37) p150 q150
                                              obtain rfl : (⟨go27, 0, none⟩ : Addr) = ad150 := (by injection e150)
                                              (first | simp only [add_plain] at hx150_0 | simp only [add_at] at hx150_0 | simp only [Addr.add, Nat.zero_add] at hx150_0 | skip)
                                              replace p150 := eq_true p150
                                              replace q150 := eq_true q150
                                              refine start_ (n := 10) (S := fun w' => w'.cell? ⟨gb148, 0, none⟩ = some (.int .i64 0) ∧ w'.cell? ⟨gb148, 1, none⟩ = some (.int .i64 x13_2) ∧ w'.cell? ⟨gb148, 2, none⟩ = some (.int .i64 t147) ∧ w'.cell? ⟨go27, ((ji37)).toNat, none⟩ = some (.int .i64 (rd x8_2 (ji37)))) (ds := []) #[false, false, false, false, false, false, false, false, false, false] (by kernel_rfl) rfl rfl ⟨(blk_cell BK148.out 0).trans rfl, (blk_cell BK148.out 1).trans rfl, (blk_cell BK148.out 2).trans rfl, hx150_0⟩ (fun hHeld => ?_); refine with_tabW spec_Cheapest.tab17 spec_Cheapest.bits17 (fun HT_ HW_ => ?_)
                                              generalize w58.drew = w59 at HO_6 HO_8 HO_9 BK148 HB hx150_0 hHeld ⊢
                                              refine pure_ (i := 2) (N := some 75) (v := ?_) (a' := ?_) #[false, false, true, false, false, false, false, false, false, false] rfl rfl (any_of HT_.out (by kernel_rfl)) (fun _ _ _ h => h) (Or.inl ⟨by rfl, ?_⟩) ?_ ?_
                                              rotate_left
                                              · intro w'
                                                go_simp
                                                with_reducible rfl
                                              rotate_left
                                              · simp only [Act.put, List.setIfInBounds_toArray, List.set_cons_zero, List.set_cons_succ, i64_w, i32_w]
                                                rfl
                                              refine pure_ (i := 3) (N := some 76) (v := ?_) (a' := ?_) #[false, false, true, true, false, false, false, false, false, false] rfl rfl (any_of HT_.out (by kernel_rfl)) (fun _ _ _ h => h) (Or.inl ⟨by rfl, ?_⟩) ?_ ?_
                                              rotate_left
                                              · intro w'
                                                go_simp
                                                with_reducible rfl
                                              rotate_left
                                              · simp only [Act.put, List.setIfInBounds_toArray, List.set_cons_zero, List.set_cons_succ, i64_w, i32_w]
                                                rfl
                                              refine pure_ (i := 4) (N := some 77) (v := ?_) (a' := ?_) #[false, false, true, true, true, false, false, false, false, false] rfl rfl (any_of HT_.out (by kernel_rfl)) (fun _ _ _ h => h) (Or.inl ⟨by rfl, ?_⟩) ?_ ?_
                                              rotate_left
                                              · intro w'
                                                go_simp
                                                with_reducible rfl
                                              rotate_left
                                              · simp only [Act.put, List.setIfInBounds_toArray, List.set_cons_zero, List.set_cons_succ, i64_w, i32_w]
                                                rfl
                                              refine pure_ (i := 5) (N := some 78) (v := ?_) (a' := ?_) #[false, false, true, true, true, true, false, false, false, false] rfl rfl (any_of HT_.out (by kernel_rfl)) (fun _ _ _ h => h) (Or.inl ⟨by rfl, ?_⟩) ?_ ?_
                                              rotate_left
                                              · intro w'
                                                go_simp
                                                with_reducible rfl
                                              rotate_left
                                              · simp only [Act.put, List.setIfInBounds_toArray, List.set_cons_zero, List.set_cons_succ, i64_w, i32_w]
                                                rfl
                                              refine pure_ (i := 6) (N := some 79) (v := ?_) (a' := ?_) #[false, false, true, true, true, true, true, false, false, false] rfl rfl (any_of HT_.out (by kernel_rfl)) (fun _ _ _ h => h) (Or.inl ⟨by rfl, ?_⟩) ?_ ?_
                                              rotate_left
                                              · intro w'
                                                go_simp
                                                with_reducible rfl
                                              rotate_left
                                              · simp only [Act.put, List.setIfInBounds_toArray, List.set_cons_zero, List.set_cons_succ, i64_w, i32_w]
                                                rfl
                                              refine take_ (i := 0) (N := some 73) (v := ?_) (a' := ?_) #[true, false, true, true, true, true, true, false, false, false] rfl rfl (take_ofW HT_.out HW_.out (by kernel_rfl)) (fun _ _ _ h => h) (Or.inl ⟨by rfl, ?_⟩) hHeld ?_ ?_
                                              rotate_left
                                              · rintro w' ⟨s0, s1, s2, s3⟩
                                                go_simp
                                                with_reducible rfl
                                              rotate_left
                                              · simp only [Act.put, List.setIfInBounds_toArray, List.set_cons_zero, List.set_cons_succ, i64_w, i32_w]
                                                rfl
                                              refine take_ (i := 7) (N := some 80) (v := ?_) (a' := ?_) #[true, false, true, true, true, true, true, true, false, false] rfl rfl (take_ofW HT_.out HW_.out (by kernel_rfl)) (fun _ _ _ h => h) (Or.inl ⟨by rfl, ?_⟩) hHeld ?_ ?_
                                              rotate_left
                                              · rintro w' ⟨s0, s1, s2, s3⟩
                                                go_simp
                                                with_reducible rfl
                                              rotate_left
                                              · simp only [Act.put, List.setIfInBounds_toArray, List.set_cons_zero, List.set_cons_succ, i64_w, i32_w]
                                                rfl
                                              refine one_ (i := 1) (N := some 74) #[true, true, true, true, true, true, true, true, false, false] rfl rfl (one_of HT_.out (by kernel_rfl)) (by decide) (fun K hK => ?_)
                                              refine goes_ Try.func34 (by kernel_rfl) rfl #[.agg #[.int .i64 0, .int .i64 x13_2, .int .i64 t147]] (by rfl) rfl rfl (by (try simp only [List.map_toArray, List.map_cons, List.map_nil]); first | done | rfl | (simp only [List.length_drop, List.length_take]; rfl)) ?_
                                              with_reducible refine (spec_l07Cost.calls k2 0 x13_2 t147 t149 _ A36.out).mono ?_
                                              rintro e w60 ⟨rfl, hb⟩
                                              have HS3_ := (hb.cell (World.block_lt_of_cell? _ _ (hHeld.2.2.2))).trans (hHeld.2.2.2)
                                              refine ⟨_, rfl, ?_⟩
                                              have n0_ := Aside0.mk (Kd.R_below (by (with_reducible repeat (first | apply Kd.R_alloc | apply Kd.R_drewN | apply Kd.R_drew)); exact HO_6.out) hb)
                                              have n1_ := Aside0.mk (Kd.R_below (by (with_reducible repeat (first | apply Kd.R_alloc | apply Kd.R_drewN | apply Kd.R_drew)); exact HO_8.out) hb)
                                              have n2_ := Aside0.mk (Kd.R_below (by (with_reducible repeat (first | apply Kd.R_alloc | apply Kd.R_drewN | apply Kd.R_drew)); exact HO_9.out) hb)
                                              have n3_ := Aside0.mk (blk_below (g := gb148) (o := .cells #[.int .i64 0, .int .i64 x13_2, .int .i64 t147] 44 (0, 0)) (by (with_reducible repeat (first | refine blk_drewN ?_ _ | refine blk_drew ?_ | refine blk_alloc ?_ _)); exact BK148.out) hb)
                                              have n4_ := Aside0.mk (below_step (by repeat (first | (with_reducible first | exact HB.out | apply below_alloc | apply pw_below_drewN | apply below_drew1 | refine below_set ?_ GE148.out) | exact HB.out)) hb)
                                              clear HO_6
                                              clear HO_8
                                              clear HO_9
                                              clear BK148
                                              clear HB
                                              have HO_6 := n0_
                                              have HO_8 := n1_
                                              have HO_9 := n2_
                                              have BK148 := n3_
                                              have HB := n4_
                                              clear n0_ n1_ n2_ n3_ n4_
                                              (try clear hb)
                                              (try clear hb2)
                                              (try clear hk)
                                              (try clear hi)
                                              refine hK.out _ _ ⟨(blk_cell BK148.out 0).trans rfl, (blk_cell BK148.out 1).trans rfl, (blk_cell BK148.out 2).trans rfl, HS3_⟩ (fun hHeld => ?_)
                                              clear hK K
                                              refine norm_ (a' := ?_) ?_ ?_
                                              rotate_left
                                              · show Act.put _ (some 74) _ = _
                                                simp only [Act.put, List.setIfInBounds_toArray, List.set_cons_zero, List.set_cons_succ, i64_w, i32_w]
                                                rfl
                                              refine pure_ (i := 8) (N := some 81) (v := ?_) (a' := ?_) #[true, true, true, true, true, true, true, true, true, false] rfl rfl (any_of HT_.out (by kernel_rfl)) (fun _ _ _ h => h) (Or.inl ⟨by rfl, ?_⟩) ?_ ?_
                                              rotate_left
                                              · intro w'
                                                go_simp
                                                with_reducible rfl
                                              rotate_left
                                              · simp only [Act.put, List.setIfInBounds_toArray, List.set_cons_zero, List.set_cons_succ, i64_w, i32_w]
                                                rfl
                                              refine pure_ (i := 9) (N := some 15) (v := ?_) (a' := ?_) #[true, true, true, true, true, true, true, true, true, true] rfl rfl (any_of HT_.out (by kernel_rfl)) (fun _ _ _ h => h) (Or.inl ⟨by rfl, ?_⟩) ?_ ?_
                                              rotate_left
                                              · intro w'
                                                go_simp
                                                with_reducible rfl
                                              rotate_left
                                              · simp only [Act.put, List.setIfInBounds_toArray, List.set_cons_zero, List.set_cons_succ, i64_w, i32_w]
                                                rfl
                                              refine done_ (done_of HT_.out (by kernel_rfl)) ?_
                                              have p151 : 0 ≤ (x10_1 : Int) := of_decide_eq_true (by first | (with_reducible assumption) | assumption)
                                              have q151 : x10_1 < (x8_2.length : Int) := of_decide_eq_true (by first | (with_reducible assumption) | assumption)
                                              obtain ⟨ad151, e151, hx151_0⟩ := Kd.at_int (Kd.R_reads' HO_8.out).2.2 x10_1 p151 q151
                                              obtain rfl : (⟨go27, 0, none⟩ : Addr) = ad151 := (by injection e151)
                                              (first | simp only [add_plain] at hx151_0 | simp only [add_at] at hx151_0 | simp only [Addr.add, Nat.zero_add] at hx151_0 | skip)
                                              replace p151 := eq_true p151
                                              replace q151 := eq_true q151
                                              try go_wp2
                                              (try simp only [← hl8_2, ← hl9_2])
                                              go_roundg k2
                                              case measure => have := HK1.out; have := HK2.out; omega
                                              case rel => exact ⟨(x8_2), (x9_2), (wrap64 (x13_2 + 1)), (by first | rfl | (simp; done) | (simp [*]; done)), H', ⟨by have := HK1.out; have := HK2.out; omega⟩, ⟨by (try simp only [hl8_2]); (try simp only [hl9_2]); (with_reducible repeat (first | apply Kd.R_alloc | apply Kd.R_drewN | apply Kd.R_drew)); exact Kd.R_mono HO_6.out (fun _ hk => hk.1)⟩, ⟨by (try simp only [hl8_2]); (try simp only [hl9_2]); (with_reducible repeat (first | apply Kd.R_alloc | apply Kd.R_drewN | apply Kd.R_drew)); exact HO_8.out⟩, ⟨by (try simp only [hl8_2]); (try simp only [hl9_2]); (with_reducible repeat (first | apply Kd.R_alloc | apply Kd.R_drewN | apply Kd.R_drew)); exact Kd.R_mono HO_9.out (fun _ hk => hk.1)⟩, ⟨by repeat (first | (with_reducible first | exact HB.out | apply below_alloc | apply pw_below_drewN | apply below_drew1 | refine below_set ?_ GE148.out) | exact HB.out)⟩⟩
                                          · rw [if_neg c41] at H
                                            exact absurd H (by simp)
                                        · rw [if_neg c40] at H
                                          exact absurd H (by simp)
                                      · rw [if_neg c39] at H
                                        exact absurd H (by simp)
                                    · rw [if_neg c38] at H
                                      exact absurd H (by simp)
                                  · rw [if_neg c35] at H
                                    have c35b0 : decide (x13_2 ≤ t146) = false := decide_eq_false c35
                                    clear c35
                                    have H' := Aside0.mk H
                                    clear H
                                    go_wp2
                                    (try simp only [← hl8_2, ← hl9_2])
                                    go_roundg k2
                                    case measure => have := HK1.out; have := HK2.out; omega
                                    case rel => exact ⟨(x8_2), (x9_2), (wrap64 (x10_1 - 1)), (by first | rfl | (simp; done) | (simp [*]; done)), H', ⟨by have := HK1.out; have := HK2.out; omega⟩, ⟨by (try simp only [hl8_2]); (try simp only [hl9_2]); (with_reducible repeat (first | apply Kd.R_alloc | apply Kd.R_drewN | apply Kd.R_drew)); exact HO_6.out⟩, ⟨by (try simp only [hl8_2]); (try simp only [hl9_2]); (with_reducible repeat (first | apply Kd.R_alloc | apply Kd.R_drewN | apply Kd.R_drew)); exact HO_8.out⟩, ⟨by (try simp only [hl8_2]); (try simp only [hl9_2]); (with_reducible repeat (first | apply Kd.R_alloc | apply Kd.R_drewN | apply Kd.R_drew)); exact HO_9.out⟩, ⟨by repeat (first | (with_reducible first | exact HB.out | apply below_alloc | apply pw_below_drewN | apply below_drew1) | exact HB.out)⟩⟩
                            · rw [if_neg c26] at H
                              exact absurd H (by simp)
                          · rw [if_neg c25] at H
                            exact absurd H (by simp)
                        · rw [if_neg c24] at H
                          exact absurd H (by simp)
                      · rw [if_neg c20] at H
                        exact absurd H (by simp)
                    · rw [if_neg c18] at H
                      exact absurd H (by simp)
                  · rw [if_neg c17] at H
                    exact absurd H (by simp)
                · rw [if_neg c16] at H
                  have c16b0 : decide (0 ≤ x10_1) = false := decide_eq_false c16
                  clear c16
                  have H' := Aside0.mk H
                  clear H
                  go_wp2
                  go_loopg [6, 16] k1 (fun kq v6 v16 w' => ∃ (x6_2 : List (S44)) (x16_2 : Int), v16 = .int .i64 x16_2 ∧ Aside0 (spec_Cheapest.l2 kq x6_2 (a0.size : Int) x9_1 x16_2 = some (r1, r2)) ∧ Aside0 (kq ≤ k1) ∧ Aside0 (Kd.R k44 44 w' w.heap.size (fun k_ => some k_ ≠ (v139 : Value).ownBlock) v6 x6_2) ∧ Aside0 (Kd.R k44 44 w' w.heap.size (fun k_ => some k_ ≠ (v6 : Value).ownBlock) v139 x9_1) ∧ Aside0 (Below w.heap.size w w'))
                  case atStart => exact ⟨(y131), (0), (by first | rfl | (simp; done) | (simp [*]; done)), H', ⟨Nat.le_refl _⟩, ⟨by (with_reducible repeat (first | apply Kd.R_alloc | apply Kd.R_drewN | apply Kd.R_drew)); exact HO_6.out⟩, ⟨by (with_reducible repeat (first | apply Kd.R_alloc | apply Kd.R_drewN | apply Kd.R_drew)); exact HO_9.out⟩, ⟨by repeat (first | (with_reducible first | exact HB.out | apply below_alloc | apply pw_below_drewN | apply below_drew1) | exact HB.out)⟩⟩
                  case round =>
                    clear H'
                    try clear c1
                    try clear p1
                    try clear q1
                    try clear hx1
                    try clear c2
                    try clear p2
                    try clear q2
                    try clear hx2
                    try clear hf2
                    try clear c3
                    try clear c4
                    try clear p4
                    try clear q4
                    try clear hx4
                    try clear hf4
                    try clear c5
                    try clear hx5
                    try clear hf5
                    try clear c6
                    try clear c6b0
                    try clear c6b1
                    try clear p6
                    try clear c7
                    try clear c7b0
                    try clear c7b1
                    try clear c8
                    try clear c8b0
                    try clear c8b1
                    try clear c9
                    try clear c9b0
                    try clear c9b1
                    try clear p14
                    try clear q14
                    try clear hx14
                    try clear p15
                    try clear q15
                    try clear hx15
                    try clear c16
                    try clear c16b0
                    try clear c17
                    try clear c17b0
                    try clear c18
                    try clear c18b0
                    try clear p19
                    try clear q19
                    try clear hx19
                    try clear c20
                    try clear c20b0
                    try clear c21
                    try clear p21
                    try clear q21
                    try clear hx21
                    try clear hf21
                    try clear c24
                    try clear c24b0
                    try clear c25
                    try clear c25b0
                    try clear c26
                    try clear c26b0
                    try clear p27
                    try clear q27
                    try clear hx27
                    try clear hf27
                    try clear c29
                    try clear hx29
                    try clear hf29
                    try clear c31
                    try clear c34
                    try clear c35
                    try clear c35b0
                    try clear c38
                    try clear c38b0
                    try clear c39
                    try clear c39b0
                    try clear c40
                    try clear c40b0
                    try clear c41
                    try clear c41b0
                    try clear c42
                    try clear c42b0
                    try clear p43
                    try clear q43
                    try clear hx43
                    try clear hf43
                    try clear c44
                    try clear c44b0
                    try clear c45
                    try clear p45
                    try clear q45
                    try clear hx45
                    try clear hf45
                    try clear c54
                    try clear hx54
                    try clear hf54
                    try clear hcz47_0
                    try clear hcz47_1
                    try clear hcz47_2
                    try clear hcz53_0
                    try clear hcz53_1
                    try clear hcz53_2
                    try clear hcz57_0
                    try clear hcz57_1
                    try clear hcz57_2
                    try clear hfz47_0
                    try clear hfz47_1
                    try clear hfz47_2
                    try clear hfz53_0
                    try clear hfz53_1
                    try clear hfz53_2
                    try clear hfz57_0
                    try clear hfz57_1
                    try clear hfz57_2
                    try clear hx142_0
                    try clear hx142_1
                    try clear hx142_2
                    try clear hx144_0
                    try clear hx150_0
                    try clear hx151_0
                    try clear hx21_0
                    try clear hx21_1
                    try clear hx21_2
                    try clear hx27_0
                    try clear hx29_0
                    try clear hx29_1
                    try clear hx29_2
                    try clear hx43_0
                    try clear hx45_0
                    try clear hx45_1
                    try clear hx45_2
                    try clear hx54_0
                    try clear hx54_1
                    try clear hx54_2
                    try clear p1
                    try clear p14
                    try clear p142
                    try clear p144
                    try clear p150
                    try clear p151
                    try clear p19
                    try clear p2
                    try clear p21
                    try clear p27
                    try clear p43
                    try clear p45
                    try clear p6
                    try clear q1
                    try clear q14
                    try clear q142
                    try clear q144
                    try clear q150
                    try clear q151
                    try clear q19
                    try clear q2
                    try clear q21
                    try clear q27
                    try clear q43
                    try clear q45
                    obtain ⟨x6_2, x16_2, rfl, HA, HK2, HO_6, HO_9, HB⟩ := hrel
                    cases gk with
                    | zero => exact absurd HA.out (by simp [spec_Cheapest.l2])
                    | succ k2 =>
                      have H := HA.out
                      clear HA
                      simp only [spec_Cheapest.l2] at H
                      by_cases c61 : x16_2 < (a0.size : Int)
                      · rw [if_pos c61] at H
                        have c61b0 : decide (x16_2 < (a0.size : Int)) = true := decide_eq_true c61
                        clear c61
                        by_cases c62 : 0 ≤ x16_2
                        · rw [if_pos c62] at H
                          have c62b0 : decide (0 ≤ x16_2) = true := decide_eq_true c62
                          clear c62
                          by_cases c63 : x16_2 < (x9_1.length : Int)
                          · rw [if_pos c63] at H
                            have c63b0 : decide (x16_2 < (x9_1.length : Int)) = true := decide_eq_true c63
                            clear c63
                            by_cases c64 : x6_2.length < 5864062014805
                            · rw [if_pos c64] at H
                              have LMc64 := Aside0.mk c64
                              clear c64
                              obtain ⟨y155, hy155⟩ : ∃ y_ : List (S44), y_ = (x6_2 ++ [(⟨(rd_T44 x9_1 x16_2).f0, (rd_T44 x9_1 x16_2).f1, (rd_T44 x9_1 x16_2).f2⟩ : S44)]) := ⟨_, rfl⟩
                              replace H : (if ((rd_T44 x9_1 x16_2).f1) = 0 then (spec_Cheapest.l2 k2 y155 (a0.size : Int) x9_1 (wrap64 (x16_2 + 1))) else (spec_Cheapest.l2 k2 y155 (a0.size : Int) x9_1 (wrap64 (x16_2 + ((rd_T44 x9_1 x16_2).f1))))) = some (r1, r2) := by first | (rw [hy155]; with_reducible exact H) | (have H2_ := (Option.bind_some _ _).symm.trans H; rw [hy155]; with_reducible exact H2_) | (have H2_ := (Option.bind_some _ _).symm.trans H; with_reducible exact H2_) | with_reducible exact H | (rw [hy155]; exact H) | exact H
                              have Ny155 := Aside0.mk hy155
                              clear hy155
                              by_cases c65 : ((rd_T44 x9_1 x16_2).f1) = 0
                              · rw [if_pos c65] at H
                                have c65b0 : (((rd_T44 x9_1 x16_2).f1) == 0) = true := beq_iff_eq.mpr c65
                                have c65b1 : (((rd_T44 x9_1 x16_2).f1) != 0) = false := bne_eq_false_iff_eq.mpr c65
                                clear c65
                                have H' := Aside0.mk H
                                clear H
                                obtain ⟨Ao66, co66, eo66⟩ := Kd.R_slice HO_9.out
                                subst eo66
                                have p154 : 0 ≤ (x16_2 : Int) := of_decide_eq_true (by first | (with_reducible assumption) | assumption)
                                have q154 : x16_2 < (x9_1.length : Int) := of_decide_eq_true (by first | (with_reducible assumption) | assumption)
                                obtain ⟨ad154, e154, hx154_0, hx154_1, hx154_2⟩ := at_T44 (Kd.R_reads' HO_9.out).2.2 x16_2 p154 q154
                                cases e154
                                replace p154 := eq_true p154
                                replace q154 := eq_true q154
                                go_wp2_with (first | ((with_reducible refine gate_builtin (b := .append) (xs := #[.tmp 99, .tmp 104]) rfl ?_); at_builtin; refine Kd.R_append k44 (w0 := w) w.heap.size rfl (.tmp 99) (.tmp 104) 25 44 (.agg #[(.int .i64 0), (.int .i64 0), (.int .i64 0)]) 24 rfl Try.underlying25 info44 rfl (by decide) (by omega) u6 x6_2 (⟨(rd_T44 x9_1 x16_2).f0, (rd_T44 x9_1 x16_2).f1, (rd_T44 x9_1 x16_2).f2⟩ : S44) [.int .i64 ((rd_T44 x9_1 x16_2).f0), .int .i64 ((rd_T44 x9_1 x16_2).f1), .int .i64 ((rd_T44 x9_1 x16_2).f2)] (fun k_ => some k_ ≠ (.slice (some ad154) x9_1.length co66 : Value).ownBlock) (fun _ => False) rfl rfl ?aP (fun _ hk => hk.elim) ?aF ?aO ?aB ?aS ?aL ?_; (case aP => exact k44_mkM _ _ _ (⟨(rd_T44 x9_1 x16_2).f0, (rd_T44 x9_1 x16_2).f1, (rd_T44 x9_1 x16_2).f2⟩ : S44)); (case aB => exact (by repeat (first | (with_reducible first | exact HB.out | apply below_alloc | apply pw_below_drewN | apply below_drew1) | exact HB.out))); (case aF => exact (fun k_ hk => Kd.fresh' (Kd.R_lt (by (with_reducible repeat (first | apply Kd.R_alloc | apply Kd.R_drewN | apply Kd.R_drew)); exact HO_9.out)) k_ hk)); (case aO => exact (by (with_reducible repeat (first | apply Kd.R_alloc | apply Kd.R_drewN | apply Kd.R_drew)); exact HO_6.out)); (case aS => exact (below_size (by repeat (first | (with_reducible first | exact HB.out | apply below_alloc | apply pw_below_drewN | apply below_drew1) | exact HB.out)))); (case aL => have := LMc64.out; omega); intro v156 w67 ho hb hg hat; rw [← Ny155.out] at ho; have n0_ := Aside0.mk (Kd.R_after (ok := (fun _ => True)) (by (with_reducible repeat (first | apply Kd.R_alloc | apply Kd.R_drewN | apply Kd.R_drew)); exact Kd.R_mono HO_9.out (fun _ hk => ⟨trivial, hk⟩)) hg hat); have n1_ := Aside0.mk (hb); have n2_ := Aside0.mk (ho); clear HO_9; clear HB; clear HO_6; have HO_9 := n0_; have HB := n1_; have HO157 := n2_; clear n0_ n1_ n2_; clear ho hb hg hat; have p158 : 0 ≤ (x16_2 : Int) := of_decide_eq_true (by first | (with_reducible assumption) | assumption); have q158 : x16_2 < (x9_1.length : Int) := of_decide_eq_true (by first | (with_reducible assumption) | assumption); obtain ⟨ad158, e158, hx158_0, hx158_1, hx158_2⟩ := at_T44 (Kd.R_reads' HO_9.out).2.2 x16_2 p158 q158; obtain rfl : ad154 = ad158 := (by injection e158); replace p158 := eq_true p158; replace q158 := eq_true q158))
                                go_roundg k2
                                case measure => have := HK1.out; have := HK2.out; omega
                                case rel => exact ⟨(y155), (wrap64 (x16_2 + 1)), (by first | rfl | (simp; done) | (simp [*]; done)), H', ⟨by have := HK1.out; have := HK2.out; omega⟩, ⟨by (with_reducible repeat (first | apply Kd.R_alloc | apply Kd.R_drewN | apply Kd.R_drew)); exact HO157.out⟩, ⟨by (with_reducible repeat (first | apply Kd.R_alloc | apply Kd.R_drewN | apply Kd.R_drew)); exact Kd.R_mono HO_9.out (fun _ hk => hk.2)⟩, ⟨by repeat (first | (with_reducible first | exact HB.out | apply below_alloc | apply pw_below_drewN | apply below_drew1) | exact HB.out)⟩⟩
                              · rw [if_neg c65] at H
                                have c65b0 : (((rd_T44 x9_1 x16_2).f1) == 0) = false := beq_eq_false_iff_ne.mpr c65
                                have c65b1 : (((rd_T44 x9_1 x16_2).f1) != 0) = true := bne_iff_ne.mpr c65
                                have H' := Aside0.mk H
                                clear H
                                obtain ⟨Ao68, co68, eo68⟩ := Kd.R_slice HO_9.out
                                subst eo68
                                have p154 : 0 ≤ (x16_2 : Int) := of_decide_eq_true (by first | (with_reducible assumption) | assumption)
                                have q154 : x16_2 < (x9_1.length : Int) := of_decide_eq_true (by first | (with_reducible assumption) | assumption)
                                obtain ⟨ad154, e154, hx154_0, hx154_1, hx154_2⟩ := at_T44 (Kd.R_reads' HO_9.out).2.2 x16_2 p154 q154
                                cases e154
                                replace p154 := eq_true p154
                                replace q154 := eq_true q154
                                go_wp2_with (first | ((with_reducible refine gate_builtin (b := .append) (xs := #[.tmp 99, .tmp 104]) rfl ?_); at_builtin; refine Kd.R_append k44 (w0 := w) w.heap.size rfl (.tmp 99) (.tmp 104) 25 44 (.agg #[(.int .i64 0), (.int .i64 0), (.int .i64 0)]) 24 rfl Try.underlying25 info44 rfl (by decide) (by omega) u6 x6_2 (⟨(rd_T44 x9_1 x16_2).f0, (rd_T44 x9_1 x16_2).f1, (rd_T44 x9_1 x16_2).f2⟩ : S44) [.int .i64 ((rd_T44 x9_1 x16_2).f0), .int .i64 ((rd_T44 x9_1 x16_2).f1), .int .i64 ((rd_T44 x9_1 x16_2).f2)] (fun k_ => some k_ ≠ (.slice (some ad154) x9_1.length co68 : Value).ownBlock) (fun _ => False) rfl rfl ?aP (fun _ hk => hk.elim) ?aF ?aO ?aB ?aS ?aL ?_; (case aP => exact k44_mkM _ _ _ (⟨(rd_T44 x9_1 x16_2).f0, (rd_T44 x9_1 x16_2).f1, (rd_T44 x9_1 x16_2).f2⟩ : S44)); (case aB => exact (by repeat (first | (with_reducible first | exact HB.out | apply below_alloc | apply pw_below_drewN | apply below_drew1) | exact HB.out))); (case aF => exact (fun k_ hk => Kd.fresh' (Kd.R_lt (by (with_reducible repeat (first | apply Kd.R_alloc | apply Kd.R_drewN | apply Kd.R_drew)); exact HO_9.out)) k_ hk)); (case aO => exact (by (with_reducible repeat (first | apply Kd.R_alloc | apply Kd.R_drewN | apply Kd.R_drew)); exact HO_6.out)); (case aS => exact (below_size (by repeat (first | (with_reducible first | exact HB.out | apply below_alloc | apply pw_below_drewN | apply below_drew1) | exact HB.out)))); (case aL => have := LMc64.out; omega); intro v156 w69 ho hb hg hat; rw [← Ny155.out] at ho; have n0_ := Aside0.mk (Kd.R_after (ok := (fun _ => True)) (by (with_reducible repeat (first | apply Kd.R_alloc | apply Kd.R_drewN | apply Kd.R_drew)); exact Kd.R_mono HO_9.out (fun _ hk => ⟨trivial, hk⟩)) hg hat); have n1_ := Aside0.mk (hb); have n2_ := Aside0.mk (ho); clear HO_9; clear HB; clear HO_6; have HO_9 := n0_; have HB := n1_; have HO157 := n2_; clear n0_ n1_ n2_; clear ho hb hg hat; have p158 : 0 ≤ (x16_2 : Int) := of_decide_eq_true (by first | (with_reducible assumption) | assumption); have q158 : x16_2 < (x9_1.length : Int) := of_decide_eq_true (by first | (with_reducible assumption) | assumption); obtain ⟨ad158, e158, hx158_0, hx158_1, hx158_2⟩ := at_T44 (Kd.R_reads' HO_9.out).2.2 x16_2 p158 q158; obtain rfl : ad154 = ad158 := (by injection e158); replace p158 := eq_true p158; replace q158 := eq_true q158; have p159 : 0 ≤ (x16_2 : Int) := of_decide_eq_true (by first | (with_reducible assumption) | assumption); have q159 : x16_2 < (x9_1.length : Int) := of_decide_eq_true (by first | (with_reducible assumption) | assumption); obtain ⟨ad159, e159, hx159_0, hx159_1, hx159_2⟩ := at_T44 (Kd.R_reads' HO_9.out).2.2 x16_2 p159 q159; obtain rfl : ad154 = ad159 := (by injection e159); replace p159 := eq_true p159; replace q159 := eq_true q159))
                                go_roundg k2
                                case measure => have := HK1.out; have := HK2.out; omega
                                case rel => exact ⟨(y155), (wrap64 (x16_2 + ((rd_T44 x9_1 x16_2).f1))), (by first | rfl | (simp; done) | (simp [*]; done)), H', ⟨by have := HK1.out; have := HK2.out; omega⟩, ⟨by (with_reducible repeat (first | apply Kd.R_alloc | apply Kd.R_drewN | apply Kd.R_drew)); exact HO157.out⟩, ⟨by (with_reducible repeat (first | apply Kd.R_alloc | apply Kd.R_drewN | apply Kd.R_drew)); exact Kd.R_mono HO_9.out (fun _ hk => hk.2)⟩, ⟨by repeat (first | (with_reducible first | exact HB.out | apply below_alloc | apply pw_below_drewN | apply below_drew1) | exact HB.out)⟩⟩
                            · rw [if_neg c64] at H
                              exact absurd H (by simp)
                          · rw [if_neg c63] at H
                            exact absurd H (by simp)
                        · rw [if_neg c62] at H
                          exact absurd H (by simp)
                      · rw [if_neg c61] at H
                        have c61b0 : decide (x16_2 < (a0.size : Int)) = false := decide_eq_false c61
                        clear c61
                        simp only [Option.some.injEq, Prod.mk.injEq] at H
                        obtain ⟨rfl, rfl⟩ := H
                        go_wp2
                        go_ret2
                        exact ⟨_, by first | rfl | (simp [errW_none, errW_some] <;> rfl) | (simp only [← hji5]; first | rfl | (simp [errW_none, errW_some] <;> rfl)) | (simp [*, errW_none, errW_some] <;> rfl), by (with_reducible repeat (first | apply Kd.R_alloc | apply Kd.R_drewN | apply Kd.R_drew)); exact Kd.R_mono HO_6.out (fun _ hk => trivial), by repeat (first | (with_reducible first | exact HB.out | apply below_alloc | apply pw_below_drewN | apply below_drew1) | exact HB.out)⟩
          · rw [if_neg c9] at H
            exact absurd H (by simp)
        · rw [if_neg c8] at H
          exact absurd H (by simp)
      · rw [if_neg c7] at H
        exact absurd H (by simp)
    · rw [if_neg c6] at H
      exact absurd H (by simp)
  · replace c4 := Bool.eq_false_iff.mpr c4
    subst c4
    have H1 : (some (y131, false)) = some (r1, r2) := by rw [if_neg (show ¬ (false = true) by decide)] at H; exact H
    clear H
    have H := H1
    clear H1
    simp only [Option.some.injEq, Prod.mk.injEq] at H
    obtain ⟨rfl, rfl⟩ := H
    go_enter Try.func18, Try.ntmps18
    go_wp2_with (first | ((with_reducible refine gate_dst (N := 17) rfl ?_); refine Kd.R_lit k44 _ 44 ?hg (N := 17) ?hd (xs := ([] : List (S44))) (inner := []) (ok := fun _ => True) (okp := fun _ => True) ?hr ?hp (fun _ hk => hk) trivial (Below.refl _ _) (Nat.le_refl _) (by simp) ?_; (case hd => rfl); (case hg => rfl); (case hr => first | (go_simp; done) | (go_simp; rfl)); (case hp => exact (Reps.none _ _)); intro v132 w70 ho71 hb hg_ hnew_; clear hg_ hnew_; (first | rw [← Ny131.out] at ho71 | (simp only [Int.reduceToNat] at ho71; rw [← Ny131.out] at ho71)); have n0_ := Aside0.mk (Kd.R_lower ho71 (below_size (by repeat (first | (with_reducible first | exact HB.out | apply below_alloc | apply pw_below_drewN | apply below_drew1) | exact HB.out)))); have n1_ := Aside0.mk (below_step (by repeat (first | (with_reducible first | exact HB.out | apply below_alloc | apply pw_below_drewN | apply below_drew1) | exact HB.out)) hb); clear HB; have HO133 := n0_; have HB := n1_; clear n0_ n1_; clear hb ho71) | ((with_reducible refine gate_callee (f := 31) rfl ?_); refine goesL_ (some 20) rfl rfl Try.func31 (by kernel_rfl) rfl #[.string a0, .int .i64 a1] rfl (by (try simp only [List.map_toArray, List.map_cons, List.map_nil]); first | done | rfl | (simp only [List.length_drop, List.length_take]; rfl)) ?_; (with_reducible refine (spec_l07Ok.calls a0 a1 false _ A3.out).mono ?_); rintro e w' ⟨rfl, ⟨nd, rfl⟩⟩; refine ⟨_, rfl, ?_⟩))
    go_ret2
    exact ⟨_, by first | rfl | (simp [errW_none, errW_some] <;> rfl) | (simp [*, errW_none, errW_some] <;> rfl), by (with_reducible repeat (first | apply Kd.R_alloc | apply Kd.R_drewN | apply Kd.R_drew)); exact HO133.out, by repeat (first | (with_reducible first | exact HB.out | apply below_alloc | apply pw_below_drewN | apply below_drew1) | exact HB.out)⟩

end Go.Proofs.Ytaaoojmbomhakaa.PFnExactCheapest
