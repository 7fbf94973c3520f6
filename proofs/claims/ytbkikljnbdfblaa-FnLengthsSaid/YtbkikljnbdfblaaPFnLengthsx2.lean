-- Written by a program of this session (a changed print); Lean checks it.
import Derived.Test.YtbkikljnbdfblaaPFnLengthsx0
import Derived.Test.YtbkikljnbdfblaaPFnLengthsx1
namespace Go.Proofs.Ytbkikljnbdfblaa.PFnLengths
open Go.RowKit Go.Proofs.YtbkikljnbdfblaaW.PrintWords Go.Proofs.YtbkikljnbdfblaaW.PrintLast Go.Proofs.YtbkikljnbdfblaaW.PrintMore
attribute [local go_sem] max2_int min2_int max_two min_two max_three min_three max_four min_four   -- for this text's walks alone
set_option linter.unusedVariables false
set_option linter.unusedSimpArgs false

/-! ### spec_DrawPlaces: function 44 -/
def spec_DrawPlaces.l0 : Nat → List Int → Int → List Int → Int → Int → Option (List Int)
  | 0, _, _, _, _, _ => none
  | k + 1, x4, x5, x145000, x145001, x145002 => if x5 < 12 then ((spec_l01Below.f x145000 x145001 x145002 10000).bind fun bt151 => (if x4.length < 17592186044416 then (spec_DrawPlaces.l0 k (x4 ++ [bt151.1]) (wrap64 (x5 + 1)) x145000 bt151.2.1 bt151.2.2) else (none))) else (some x4)
def spec_DrawPlaces.f (k : Nat) (l0 : List Int) : Option (List Int) := (spec_l01New.f k l0).bind fun bt141 => ((spec_l01Byte.f bt141.1 bt141.2.1 bt141.2.2).bind fun bt145 => (spec_DrawPlaces.l0 k (([] : List Int)) 0 bt141.1 bt145.2.1 bt145.2.2))
theorem spec_DrawPlaces.mono_l : ∀ k, (∀ y0 y1 y2 y3 y4, LeO (spec_DrawPlaces.l0 k y0 y1 y2 y3 y4) (spec_DrawPlaces.l0 (k + 1) y0 y1 y2 y3 y4))
  | 0 => fun _ _ _ _ _ r h => by simp [spec_DrawPlaces.l0] at h
  | k + 1 => by
    have ih0 := spec_DrawPlaces.mono_l k
    · intro y0 y1 y2 y3 y4
      unfold spec_DrawPlaces.l0
      repeat' first
      | (with_reducible exact ih0 _ _ _ _ _)
      | (with_reducible exact spec_l01New.mono _ _)
      | (with_reducible exact LeO.refl _)
      | (with_reducible exact LeO.none _)
      | (with_reducible refine LeO.ite ?_ ?_)
      | (with_reducible refine LeO.bind ?_ (fun _ => ?_))
      | exact ih0 _ _ _ _ _
      | exact spec_l01New.mono _ _
      | exact LeO.none _
      | refine LeO.ite ?_ ?_
      | refine LeO.bind ?_ (fun _ => ?_)
theorem spec_DrawPlaces.mono : ∀ a0 k, LeO (spec_DrawPlaces.f k a0) (spec_DrawPlaces.f (k + 1) a0) := by
  intro a0 k
  have ih0 := spec_DrawPlaces.mono_l k
  unfold spec_DrawPlaces.f
  repeat' first
      | (with_reducible exact ih0 _ _ _ _ _)
      | (with_reducible exact spec_l01New.mono _ _)
      | (with_reducible exact LeO.refl _)
      | (with_reducible exact LeO.none _)
      | (with_reducible refine LeO.ite ?_ ?_)
      | (with_reducible refine LeO.bind ?_ (fun _ => ?_))
      | exact ih0 _ _ _ _ _
      | exact spec_l01New.mono _ _
      | exact LeO.none _
      | refine LeO.ite ?_ ?_
      | refine LeO.bind ?_ (fun _ => ?_)
set_option maxHeartbeats 8000000 in
set_option maxRecDepth 100000 in
theorem spec_DrawPlaces.calls (k : Nat) (A0 : Option Addr) (c0 : Nat) (l0 : List Int) (r : List Int) (w : World) (hr0 : Kd.C (Kd.int .u8) w A0 l0.length l0) (hc0 : l0.length ≤ c0) (h : spec_DrawPlaces.f k l0 = some r) :
    Calls Try.prog 44 #[.slice A0 l0.length c0] w fun e w' => ∃ v0_ : Value, e = .returned (v0_) ∧ Kd.R (Kd.int .i64) 3 w' w.heap.size (fun _ => True) v0_ r ∧ Below w.heap.size w w' := by
  have HR0 := Aside0.mk hr0
  have HC0 := Aside0.mk hc0
  clear hr0 hc0
  have HB := Aside0.mk (Below.refl w.heap.size w)
  have H : ((spec_l01New.f k l0).bind fun bt141 => ((spec_l01Byte.f bt141.1 bt141.2.1 bt141.2.2).bind fun bt145 => (spec_DrawPlaces.l0 k (([] : List Int)) 0 bt141.1 bt145.2.1 bt145.2.2))) = some r := h
  clear h
  replace H := Option.bind_eq_some_iff.mp H
  obtain ⟨⟨t141, t142, t143⟩, A20, H⟩ := H
  replace H : ((spec_l01Byte.f t141 t142 t143).bind fun bt145 => (spec_DrawPlaces.l0 k (([] : List Int)) 0 t141 bt145.2.1 bt145.2.2)) = some r := H
  have A2 := Aside0.mk A20
  clear A20
  replace H := Option.bind_eq_some_iff.mp H
  obtain ⟨⟨t145, t146, t147⟩, A30, H⟩ := H
  replace H : (spec_DrawPlaces.l0 k (([] : List Int)) 0 t141 t146 t147) = some r := H
  have A3 := Aside0.mk A30
  clear A30
  obtain ⟨y148, hy148⟩ : ∃ y_ : List Int, y_ = (([] : List Int)) := ⟨_, rfl⟩
  replace H : (spec_DrawPlaces.l0 k y148 0 t141 t146 t147) = some r := by first | (rw [hy148]; with_reducible exact H) | (have H2_ := (Option.bind_some _ _).symm.trans H; rw [hy148]; with_reducible exact H2_) | (have H2_ := (Option.bind_some _ _).symm.trans H; with_reducible exact H2_) | with_reducible exact H | (rw [hy148]; exact H) | exact H
  have Ny148 := Aside0.mk hy148
  clear hy148
  have H' := Aside0.mk H
  clear H
  go_enter Try.func44, Try.ntmps44
  go_wp2_with (first | ((with_reducible refine gate_callee (f := 57) rfl ?_); refine goesL_ (some 7) rfl rfl Try.func57 (by kernel_rfl) rfl #[.slice A0 l0.length c0] rfl (by (try simp only [List.map_toArray, List.map_cons, List.map_nil]); first | done | rfl | (simp only [List.length_drop, List.length_take]; rfl)) ?_; (with_reducible refine (spec_l01New.calls k _ _ l0 t141 t142 t143 w _ ?side1 ?side2 ?side3 A2.out).mono ?_); (case side1 => repeat (first | (with_reducible first | exact HB.out | apply below_alloc | apply pw_below_drewN | apply below_drew1) | exact HB.out)); (case side2 => exact HR0.out); (case side3 => exact HC0.out); rintro e w4 ⟨g144, rfl, hi, hb, hb2⟩; refine ⟨_, rfl, ?_⟩; have n0_ := Aside0.mk (hb); have n1_ := Aside0.mk (hi); clear HB; have HB := n0_; have HI144 := n1_; clear n0_ n1_; (try clear hb); (try clear hb2); (try clear hk); (try clear hi)) | ((with_reducible refine gate_callee (f := 66) rfl ?_); refine goesL_ (some 9) rfl rfl Try.func66 (by kernel_rfl) rfl #[.pointer (some ⟨g144, 0, none⟩)] rfl (by (try simp only [List.map_toArray, List.map_cons, List.map_nil]); first | done | rfl | (simp only [List.length_drop, List.length_take]; rfl)) ?_; (with_reducible refine (spec_l01Byte.calls g144 t141 t142 t143 t145 t146 t147 w _ ?side1 ?side2 A3.out).mono ?_); (case side1 => repeat (first | (with_reducible first | exact HI144.out | apply IsS83.alloc | apply IsS83.drewN | apply IsS83.drew | apply IsS83.set_1 | apply IsS83.set_2) | exact HI144.out)); (case side2 => repeat (first | (with_reducible first | exact HB.out | apply below_alloc | apply pw_below_drewN | apply below_drew1 | refine below_set ?_ (IsS83.ge HI144.out)) | exact HB.out)); rintro e w5 ⟨rfl, hi, hb, hk⟩; refine ⟨_, rfl, ?_⟩; have n0_ := Aside0.mk (hb); have n1_ := Aside0.mk (hi); clear HB; clear HI144; have HB := n0_; have HI144 := n1_; clear n0_ n1_; (try clear hb); (try clear hb2); (try clear hk); (try clear hi)) | ((with_reducible refine gate_dst (N := 10) rfl ?_); refine Kd.R_lit (Kd.int .i64) _ 3 ?hg (N := 10) ?hd (xs := ([] : List Int)) (inner := []) (ok := fun _ => True) (okp := fun _ => True) ?hr ?hp (fun _ hk => hk) trivial (Below.refl _ _) (Nat.le_refl _) (by simp) ?_; (case hd => rfl); (case hg => rfl); (case hr => first | (go_simp; done) | (go_simp; rfl)); (case hp => exact (Reps.none _ _)); intro v149 w6 ho7 hb hg_ hnew_; clear hg_ hnew_; (first | rw [← Ny148.out] at ho7 | (simp only [Int.reduceToNat] at ho7; rw [← Ny148.out] at ho7)); have n0_ := Aside0.mk (Kd.R_lower ho7 (below_size (by repeat (first | (with_reducible first | exact HB.out | apply below_alloc | apply pw_below_drewN | apply below_drew1 | refine below_set ?_ (IsS83.ge HI144.out)) | exact HB.out)))); have n1_ := Aside0.mk (IsS83.below (by repeat (first | (with_reducible first | exact HI144.out | apply IsS83.alloc | apply IsS83.drewN | apply IsS83.drew | apply IsS83.set_1 | apply IsS83.set_2) | exact HI144.out)) hb); have n2_ := Aside0.mk (below_step (by repeat (first | (with_reducible first | exact HB.out | apply below_alloc | apply pw_below_drewN | apply below_drew1 | refine below_set ?_ (IsS83.ge HI144.out)) | exact HB.out)) hb); clear HI144; clear HB; have HO150 := n0_; have HI144 := n1_; have HB := n2_; clear n0_ n1_ n2_; clear hb ho7))
  go_loopg [4, 5] k (fun kq v4 v5 w' => ∃ (x4_1 : List Int) (x5_1 : Int) (x145001_1 : Int) (x145002_1 : Int), v5 = .int .i64 x5_1 ∧ Aside0 (spec_DrawPlaces.l0 kq x4_1 x5_1 t141 x145001_1 x145002_1 = some r) ∧ Aside0 (kq ≤ k) ∧ Aside0 (Kd.R (Kd.int .i64) 3 w' w.heap.size (fun _ => True) v4 x4_1) ∧ Aside0 (IsS83 w w' g144 t141 x145001_1 x145002_1) ∧ Aside0 (Below w.heap.size w w'))
  case atStart => exact ⟨(y148), (0), (t146), (t147), (by first | rfl | (simp; done) | (simp [*]; done)), H', ⟨Nat.le_refl _⟩, ⟨by (with_reducible repeat (first | apply Kd.R_alloc | apply Kd.R_drewN | apply Kd.R_drew)); exact HO150.out⟩, ⟨by repeat (first | (with_reducible first | exact HI144.out | apply IsS83.alloc | apply IsS83.drewN | apply IsS83.drew | apply IsS83.set_1 | apply IsS83.set_2) | exact HI144.out)⟩, ⟨by repeat (first | (with_reducible first | exact HB.out | apply below_alloc | apply pw_below_drewN | apply below_drew1 | refine below_set ?_ (IsS83.ge HI144.out)) | exact HB.out)⟩⟩
  case round =>
    clear H'
    try clear p2
    try clear c4
    try clear c5
    try clear c6
    obtain ⟨x4_1, x5_1, x145001_1, x145002_1, rfl, HA, HK1, HO_4, HI144, HB⟩ := hrel
    cases gk with
    | zero => exact absurd HA.out (by simp [spec_DrawPlaces.l0])
    | succ k1 =>
      have H := HA.out
      clear HA
      simp only [spec_DrawPlaces.l0] at H
      by_cases c8 : x5_1 < 12
      · rw [if_pos c8] at H
        have c8b0 : decide (x5_1 < 12) = true := decide_eq_true c8
        clear c8
        replace H := Option.bind_eq_some_iff.mp H
        obtain ⟨⟨t151, t152, t153⟩, A90, H⟩ := H
        replace H : (if x4_1.length < 17592186044416 then (spec_DrawPlaces.l0 k1 (x4_1 ++ [t151]) (wrap64 (x5_1 + 1)) t141 t152 t153) else (none)) = some r := H
        have A9 := Aside0.mk A90
        clear A90
        by_cases c10 : x4_1.length < 17592186044416
        · rw [if_pos c10] at H
          have LMc10 := Aside0.mk c10
          clear c10
          obtain ⟨y154, hy154⟩ : ∃ y_ : List Int, y_ = (x4_1 ++ [t151]) := ⟨_, rfl⟩
          replace H : (spec_DrawPlaces.l0 k1 y154 (wrap64 (x5_1 + 1)) t141 t152 t153) = some r := by first | (rw [hy154]; with_reducible exact H) | (have H2_ := (Option.bind_some _ _).symm.trans H; rw [hy154]; with_reducible exact H2_) | (have H2_ := (Option.bind_some _ _).symm.trans H; with_reducible exact H2_) | with_reducible exact H | (rw [hy154]; exact H) | exact H
          have Ny154 := Aside0.mk hy154
          clear hy154
          have H' := Aside0.mk H
          clear H
          go_wp2_with (first | ((with_reducible refine gate_callee (f := 58) rfl ?_); refine goesL_ (some 17) rfl rfl Try.func58 (by kernel_rfl) rfl #[.pointer (some ⟨g144, 0, none⟩), .int .i64 10000] rfl (by (try simp only [List.map_toArray, List.map_cons, List.map_nil]); first | done | rfl | (simp only [List.length_drop, List.length_take]; rfl)) ?_; (with_reducible refine (spec_l01Below.calls g144 t141 x145001_1 x145002_1 10000 t151 t152 t153 w _ ?side1 ?side2 A9.out).mono ?_); (case side1 => repeat (first | (with_reducible first | exact HI144.out | apply IsS83.alloc | apply IsS83.drewN | apply IsS83.drew | apply IsS83.set_1 | apply IsS83.set_2) | exact HI144.out)); (case side2 => repeat (first | (with_reducible first | exact HB.out | apply below_alloc | apply pw_below_drewN | apply below_drew1 | refine below_set ?_ (IsS83.ge HI144.out)) | exact HB.out)); rintro e w11 ⟨rfl, hi, hb, hk⟩; refine ⟨_, rfl, ?_⟩; have n0_ := Aside0.mk (Kd.R_mono (Kd.R_keep (IsS83.apart (show IsS83 w _ g144 t141 x145001_1 x145002_1 from by repeat (first | (with_reducible first | exact HI144.out | apply IsS83.alloc | apply IsS83.drewN | apply IsS83.drew | apply IsS83.set_1 | apply IsS83.set_2) | exact HI144.out)) (by (with_reducible repeat (first | apply Kd.R_alloc | apply Kd.R_drewN | apply Kd.R_drew)); exact HO_4.out) (by decide)) hk (fun _ h => h.2)) (fun _ h => h.1)); have n1_ := Aside0.mk (hb); have n2_ := Aside0.mk (hi); clear HO_4; clear HB; clear HI144; have HO_4 := n0_; have HB := n1_; have HI144 := n2_; clear n0_ n1_ n2_; (try clear hb); (try clear hb2); (try clear hk); (try clear hi)) | ((with_reducible refine gate_builtin (b := .append) (xs := #[.tmp 15, .tmp 18]) rfl ?_); at_builtin; refine Kd.R_append (Kd.int .i64) (w0 := w) w.heap.size rfl (.tmp 15) (.tmp 18) 39 3 (.int .i64 0) 8 rfl Try.underlying39 info3 rfl (by decide) (by omega) u4 x4_1 t151 [.int .i64 t151] (fun _ => True) (fun _ => False) rfl rfl ?aP (fun _ hk => hk.elim) ?aF ?aO ?aB ?aS ?aL ?_; (case aP => exact rfl); (case aB => exact (by repeat (first | (with_reducible first | exact HB.out | apply below_alloc | apply pw_below_drewN | apply below_drew1 | refine below_set ?_ (IsS83.ge HI144.out)) | exact HB.out))); (case aF => exact (fun _ _ => trivial)); (case aO => exact (by (with_reducible repeat (first | apply Kd.R_alloc | apply Kd.R_drewN | apply Kd.R_drew)); exact HO_4.out)); (case aS => exact (below_size (by repeat (first | (with_reducible first | exact HB.out | apply below_alloc | apply pw_below_drewN | apply below_drew1 | refine below_set ?_ (IsS83.ge HI144.out)) | exact HB.out)))); (case aL => have := LMc10.out; omega); intro v155 w12 ho hb hg hat; rw [← Ny154.out] at ho; have n0_ := Aside0.mk (IsS83.grown (by repeat (first | (with_reducible first | exact HI144.out | apply IsS83.alloc | apply IsS83.drewN | apply IsS83.drew | apply IsS83.set_1 | apply IsS83.set_2) | exact HI144.out)) hg (IsS83.own_ne HI144.out HO_4.out (by decide))); have n1_ := Aside0.mk (hb); have n2_ := Aside0.mk (ho); clear HI144; clear HB; clear HO_4; have HI144 := n0_; have HB := n1_; have HO156 := n2_; clear n0_ n1_ n2_; clear ho hb hg hat))
          go_roundg k1
          case measure => have := HK1.out; omega
          case rel => exact ⟨(y154), (wrap64 (x5_1 + 1)), (t152), (t153), (by first | rfl | (simp; done) | (simp [*]; done)), H', ⟨by have := HK1.out; omega⟩, ⟨by (with_reducible repeat (first | apply Kd.R_alloc | apply Kd.R_drewN | apply Kd.R_drew)); exact HO156.out⟩, ⟨by repeat (first | (with_reducible first | exact HI144.out | apply IsS83.alloc | apply IsS83.drewN | apply IsS83.drew | apply IsS83.set_1 | apply IsS83.set_2) | exact HI144.out)⟩, ⟨by repeat (first | (with_reducible first | exact HB.out | apply below_alloc | apply pw_below_drewN | apply below_drew1 | refine below_set ?_ (IsS83.ge HI144.out)) | exact HB.out)⟩⟩
        · rw [if_neg c10] at H
          exact absurd H (by simp)
      · rw [if_neg c8] at H
        have c8b0 : decide (x5_1 < 12) = false := decide_eq_false c8
        clear c8
        obtain rfl := Option.some.inj H
        go_wp2
        go_ret
        exact ⟨_, by first | rfl | (simp [errW_none, errW_some] <;> rfl) | (simp [*, errW_none, errW_some] <;> rfl), by (with_reducible repeat (first | apply Kd.R_alloc | apply Kd.R_drewN | apply Kd.R_drew)); exact HO_4.out, by repeat (first | (with_reducible first | exact HB.out | apply below_alloc | apply pw_below_drewN | apply below_drew1 | refine below_set ?_ (IsS83.ge HI144.out)) | exact HB.out)⟩

/-! ### laws_FnLengths: function 13 -/
def laws_FnLengths.j0 : Nat → Int → Int → Int → Int → Bool → Option (Bool)
  | 0, _, _, _, _, _ => none
  | k + 1, x4, x5, x6, x11, x100 => if x100 = true then (some false) else ((impl_LengthCode.f k (wrap64 (x4 + 1))).bind fun bt174 => ((impl_DistCode.f k (wrap64 (x5 + 1))).bind fun bt177 => (if x4 = 258 then (if x5 = 32768 then (some true) else (if bt177.1 = x11 then (some true) else (some (bt177.1 == (wrap64 (x11 + 1)))))) else (if bt174.1 = x6 then (if x5 = 32768 then (some true) else (if bt177.1 = x11 then (some true) else (some (bt177.1 == (wrap64 (x11 + 1)))))) else (if bt174.1 = (wrap64 (x6 + 1)) then (if x5 = 32768 then (some true) else (if bt177.1 = x11 then (some true) else (some (bt177.1 == (wrap64 (x11 + 1)))))) else (some false))))))
def laws_FnLengths.f (k : Nat) (l0 : List Int) : Option (Bool) := (laws_big.f l0).bind fun t157 => (if t157 = true then (some true) else ((spec_DrawPlaces.f k l0).bind fun t158 => (if 0 < (t158.length : Int) then (if 1 < (t158.length : Int) then (if 2 < (t158.length : Int) then ((impl_LengthCode.f k (wrap64 (3 + (Int.tmod (rd t158 0) 256)))).bind fun bt164 => ((impl_LengthOf.f bt164.1 bt164.2.2).bind fun bt167 => ((impl_DistCode.f k (wrap64 (1 + (Int.tmod (wrap64 ((wrap64 ((rd t158 1) * 10000)) + (rd t158 2))) 32768)))).bind fun bt169 => ((impl_DistOf.f bt169.1 bt169.2.2).bind fun bt172 => (if bt167.2 = true then (if bt172.2 = true then (if bt167.1 = (wrap64 (3 + (Int.tmod (rd t158 0) 256))) then (if bt172.1 = (wrap64 (1 + (Int.tmod (wrap64 ((wrap64 ((rd t158 1) * 10000)) + (rd t158 2))) 32768))) then (if bt164.2.2 < 0 then (laws_FnLengths.j0 k (wrap64 (3 + (Int.tmod (rd t158 0) 256))) (wrap64 (1 + (Int.tmod (wrap64 ((wrap64 ((rd t158 1) * 10000)) + (rd t158 2))) 32768))) bt164.1 bt169.1 true) else (if 0 ≤ bt164.2.1 then (if bt164.2.2 ≥ (shl .i64 1 bt164.2.1) then (laws_FnLengths.j0 k (wrap64 (3 + (Int.tmod (rd t158 0) 256))) (wrap64 (1 + (Int.tmod (wrap64 ((wrap64 ((rd t158 1) * 10000)) + (rd t158 2))) 32768))) bt164.1 bt169.1 true) else (if bt169.2.2 < 0 then (laws_FnLengths.j0 k (wrap64 (3 + (Int.tmod (rd t158 0) 256))) (wrap64 (1 + (Int.tmod (wrap64 ((wrap64 ((rd t158 1) * 10000)) + (rd t158 2))) 32768))) bt164.1 bt169.1 true) else (if 0 ≤ bt169.2.1 then (laws_FnLengths.j0 k (wrap64 (3 + (Int.tmod (rd t158 0) 256))) (wrap64 (1 + (Int.tmod (wrap64 ((wrap64 ((rd t158 1) * 10000)) + (rd t158 2))) 32768))) bt164.1 bt169.1 (decide (bt169.2.2 ≥ (shl .i64 1 bt169.2.1)))) else (none)))) else (none))) else (laws_FnLengths.j0 k (wrap64 (3 + (Int.tmod (rd t158 0) 256))) (wrap64 (1 + (Int.tmod (wrap64 ((wrap64 ((rd t158 1) * 10000)) + (rd t158 2))) 32768))) bt164.1 bt169.1 true)) else (laws_FnLengths.j0 k (wrap64 (3 + (Int.tmod (rd t158 0) 256))) (wrap64 (1 + (Int.tmod (wrap64 ((wrap64 ((rd t158 1) * 10000)) + (rd t158 2))) 32768))) bt164.1 bt169.1 true)) else (laws_FnLengths.j0 k (wrap64 (3 + (Int.tmod (rd t158 0) 256))) (wrap64 (1 + (Int.tmod (wrap64 ((wrap64 ((rd t158 1) * 10000)) + (rd t158 2))) 32768))) bt164.1 bt169.1 true)) else (laws_FnLengths.j0 k (wrap64 (3 + (Int.tmod (rd t158 0) 256))) (wrap64 (1 + (Int.tmod (wrap64 ((wrap64 ((rd t158 1) * 10000)) + (rd t158 2))) 32768))) bt164.1 bt169.1 true)))))) else (none)) else (none)) else (none))))
theorem laws_FnLengths.mono_l : ∀ k, (∀ y0 y1 y2 y3 y4, LeO (laws_FnLengths.j0 k y0 y1 y2 y3 y4) (laws_FnLengths.j0 (k + 1) y0 y1 y2 y3 y4))
  | 0 => fun _ _ _ _ _ r h => by simp [laws_FnLengths.j0] at h
  | k + 1 => by
    have ih0 := laws_FnLengths.mono_l k
    · intro y0 y1 y2 y3 y4
      unfold laws_FnLengths.j0
      repeat' first
      | (with_reducible exact ih0 _ _ _ _ _)
      | (with_reducible exact impl_DistCode.mono _ _)
      | (with_reducible exact impl_LengthCode.mono _ _)
      | (with_reducible exact spec_DrawPlaces.mono _ _)
      | (with_reducible exact LeO.refl _)
      | (with_reducible exact LeO.none _)
      | (with_reducible refine LeO.ite ?_ ?_)
      | (with_reducible refine LeO.bind ?_ (fun _ => ?_))
      | exact ih0 _ _ _ _ _
      | exact impl_DistCode.mono _ _
      | exact impl_LengthCode.mono _ _
      | exact spec_DrawPlaces.mono _ _
      | exact LeO.none _
      | refine LeO.ite ?_ ?_
      | refine LeO.bind ?_ (fun _ => ?_)
theorem laws_FnLengths.mono : ∀ a0 k, LeO (laws_FnLengths.f k a0) (laws_FnLengths.f (k + 1) a0) := by
  intro a0 k
  have ih0 := laws_FnLengths.mono_l k
  unfold laws_FnLengths.f
  repeat' first
      | (with_reducible exact ih0 _ _ _ _ _)
      | (with_reducible exact impl_DistCode.mono _ _)
      | (with_reducible exact impl_LengthCode.mono _ _)
      | (with_reducible exact spec_DrawPlaces.mono _ _)
      | (with_reducible exact LeO.refl _)
      | (with_reducible exact LeO.none _)
      | (with_reducible refine LeO.ite ?_ ?_)
      | (with_reducible refine LeO.bind ?_ (fun _ => ?_))
      | exact ih0 _ _ _ _ _
      | exact impl_DistCode.mono _ _
      | exact impl_LengthCode.mono _ _
      | exact spec_DrawPlaces.mono _ _
      | exact LeO.none _
      | refine LeO.ite ?_ ?_
      | refine LeO.bind ?_ (fun _ => ?_)
set_option maxHeartbeats 8000000 in
set_option maxRecDepth 100000 in
theorem laws_FnLengths.calls (k : Nat) (A0 : Option Addr) (c0 : Nat) (l0 : List Int) (r : Bool) (w : World) (hr0 : Kd.C (Kd.int .u8) w A0 l0.length l0) (hc0 : l0.length ≤ c0) (h : laws_FnLengths.f k l0 = some r) :
    Calls Try.prog 13 #[.slice A0 l0.length c0] w fun e w' => e = .returned (.bool r) ∧ Below w.heap.size w w' := by
  have HR0 := Aside0.mk hr0
  have HC0 := Aside0.mk hc0
  clear hr0 hc0
  have HB := Aside0.mk (Below.refl w.heap.size w)
  have H : ((laws_big.f l0).bind fun t157 => (if t157 = true then (some true) else ((spec_DrawPlaces.f k l0).bind fun t158 => (if 0 < (t158.length : Int) then (if 1 < (t158.length : Int) then (if 2 < (t158.length : Int) then ((impl_LengthCode.f k (wrap64 (3 + (Int.tmod (rd t158 0) 256)))).bind fun bt164 => ((impl_LengthOf.f bt164.1 bt164.2.2).bind fun bt167 => ((impl_DistCode.f k (wrap64 (1 + (Int.tmod (wrap64 ((wrap64 ((rd t158 1) * 10000)) + (rd t158 2))) 32768)))).bind fun bt169 => ((impl_DistOf.f bt169.1 bt169.2.2).bind fun bt172 => (if bt167.2 = true then (if bt172.2 = true then (if bt167.1 = (wrap64 (3 + (Int.tmod (rd t158 0) 256))) then (if bt172.1 = (wrap64 (1 + (Int.tmod (wrap64 ((wrap64 ((rd t158 1) * 10000)) + (rd t158 2))) 32768))) then (if bt164.2.2 < 0 then (laws_FnLengths.j0 k (wrap64 (3 + (Int.tmod (rd t158 0) 256))) (wrap64 (1 + (Int.tmod (wrap64 ((wrap64 ((rd t158 1) * 10000)) + (rd t158 2))) 32768))) bt164.1 bt169.1 true) else (if 0 ≤ bt164.2.1 then (if bt164.2.2 ≥ (shl .i64 1 bt164.2.1) then (laws_FnLengths.j0 k (wrap64 (3 + (Int.tmod (rd t158 0) 256))) (wrap64 (1 + (Int.tmod (wrap64 ((wrap64 ((rd t158 1) * 10000)) + (rd t158 2))) 32768))) bt164.1 bt169.1 true) else (if bt169.2.2 < 0 then (laws_FnLengths.j0 k (wrap64 (3 + (Int.tmod (rd t158 0) 256))) (wrap64 (1 + (Int.tmod (wrap64 ((wrap64 ((rd t158 1) * 10000)) + (rd t158 2))) 32768))) bt164.1 bt169.1 true) else (if 0 ≤ bt169.2.1 then (laws_FnLengths.j0 k (wrap64 (3 + (Int.tmod (rd t158 0) 256))) (wrap64 (1 + (Int.tmod (wrap64 ((wrap64 ((rd t158 1) * 10000)) + (rd t158 2))) 32768))) bt164.1 bt169.1 (decide (bt169.2.2 ≥ (shl .i64 1 bt169.2.1)))) else (none)))) else (none))) else (laws_FnLengths.j0 k (wrap64 (3 + (Int.tmod (rd t158 0) 256))) (wrap64 (1 + (Int.tmod (wrap64 ((wrap64 ((rd t158 1) * 10000)) + (rd t158 2))) 32768))) bt164.1 bt169.1 true)) else (laws_FnLengths.j0 k (wrap64 (3 + (Int.tmod (rd t158 0) 256))) (wrap64 (1 + (Int.tmod (wrap64 ((wrap64 ((rd t158 1) * 10000)) + (rd t158 2))) 32768))) bt164.1 bt169.1 true)) else (laws_FnLengths.j0 k (wrap64 (3 + (Int.tmod (rd t158 0) 256))) (wrap64 (1 + (Int.tmod (wrap64 ((wrap64 ((rd t158 1) * 10000)) + (rd t158 2))) 32768))) bt164.1 bt169.1 true)) else (laws_FnLengths.j0 k (wrap64 (3 + (Int.tmod (rd t158 0) 256))) (wrap64 (1 + (Int.tmod (wrap64 ((wrap64 ((rd t158 1) * 10000)) + (rd t158 2))) 32768))) bt164.1 bt169.1 true)))))) else (none)) else (none)) else (none))))) = some r := h
  clear h
  replace H := Option.bind_eq_some_iff.mp H
  obtain ⟨t157, A20, H⟩ := H
  replace H : (if t157 = true then (some true) else ((spec_DrawPlaces.f k l0).bind fun t158 => (if 0 < (t158.length : Int) then (if 1 < (t158.length : Int) then (if 2 < (t158.length : Int) then ((impl_LengthCode.f k (wrap64 (3 + (Int.tmod (rd t158 0) 256)))).bind fun bt164 => ((impl_LengthOf.f bt164.1 bt164.2.2).bind fun bt167 => ((impl_DistCode.f k (wrap64 (1 + (Int.tmod (wrap64 ((wrap64 ((rd t158 1) * 10000)) + (rd t158 2))) 32768)))).bind fun bt169 => ((impl_DistOf.f bt169.1 bt169.2.2).bind fun bt172 => (if bt167.2 = true then (if bt172.2 = true then (if bt167.1 = (wrap64 (3 + (Int.tmod (rd t158 0) 256))) then (if bt172.1 = (wrap64 (1 + (Int.tmod (wrap64 ((wrap64 ((rd t158 1) * 10000)) + (rd t158 2))) 32768))) then (if bt164.2.2 < 0 then (laws_FnLengths.j0 k (wrap64 (3 + (Int.tmod (rd t158 0) 256))) (wrap64 (1 + (Int.tmod (wrap64 ((wrap64 ((rd t158 1) * 10000)) + (rd t158 2))) 32768))) bt164.1 bt169.1 true) else (if 0 ≤ bt164.2.1 then (if bt164.2.2 ≥ (shl .i64 1 bt164.2.1) then (laws_FnLengths.j0 k (wrap64 (3 + (Int.tmod (rd t158 0) 256))) (wrap64 (1 + (Int.tmod (wrap64 ((wrap64 ((rd t158 1) * 10000)) + (rd t158 2))) 32768))) bt164.1 bt169.1 true) else (if bt169.2.2 < 0 then (laws_FnLengths.j0 k (wrap64 (3 + (Int.tmod (rd t158 0) 256))) (wrap64 (1 + (Int.tmod (wrap64 ((wrap64 ((rd t158 1) * 10000)) + (rd t158 2))) 32768))) bt164.1 bt169.1 true) else (if 0 ≤ bt169.2.1 then (laws_FnLengths.j0 k (wrap64 (3 + (Int.tmod (rd t158 0) 256))) (wrap64 (1 + (Int.tmod (wrap64 ((wrap64 ((rd t158 1) * 10000)) + (rd t158 2))) 32768))) bt164.1 bt169.1 (decide (bt169.2.2 ≥ (shl .i64 1 bt169.2.1)))) else (none)))) else (none))) else (laws_FnLengths.j0 k (wrap64 (3 + (Int.tmod (rd t158 0) 256))) (wrap64 (1 + (Int.tmod (wrap64 ((wrap64 ((rd t158 1) * 10000)) + (rd t158 2))) 32768))) bt164.1 bt169.1 true)) else (laws_FnLengths.j0 k (wrap64 (3 + (Int.tmod (rd t158 0) 256))) (wrap64 (1 + (Int.tmod (wrap64 ((wrap64 ((rd t158 1) * 10000)) + (rd t158 2))) 32768))) bt164.1 bt169.1 true)) else (laws_FnLengths.j0 k (wrap64 (3 + (Int.tmod (rd t158 0) 256))) (wrap64 (1 + (Int.tmod (wrap64 ((wrap64 ((rd t158 1) * 10000)) + (rd t158 2))) 32768))) bt164.1 bt169.1 true)) else (laws_FnLengths.j0 k (wrap64 (3 + (Int.tmod (rd t158 0) 256))) (wrap64 (1 + (Int.tmod (wrap64 ((wrap64 ((rd t158 1) * 10000)) + (rd t158 2))) 32768))) bt164.1 bt169.1 true)))))) else (none)) else (none)) else (none)))) = some r := H
  have A2 := Aside0.mk A20
  clear A20
  by_cases c3 : t157 = true
  · subst c3
    have H1 : (some true) = some r := by rw [if_pos rfl] at H; exact H
    clear H
    have H := H1
    clear H1
    obtain rfl := Option.some.inj H
    go_enter Try.func13, Try.ntmps13
    go_wp2_with (first | (go_at_call 36; (with_reducible refine (laws_big.calls _ _ l0 true _ ?side1 ?side2 A2.out).mono ?_); (case side1 => repeat (first | exact HR0.out | (with_reducible refine Kd.C_alloc ?_ _) | (with_reducible refine Kd.C_drewN ?_ _) | (with_reducible refine Kd.C_drew ?_))); (case side2 => exact HC0.out); rintro e w' ⟨rfl, ⟨nd, rfl⟩⟩; (try first | exact ⟨rfl, _, World.drewN_drewN _ _ _⟩ | exact ⟨rfl, _, Eq.trans (World.drewN_drewN _ _ _) (congrArg (World.drewN _) (Nat.add_assoc _ _ _))⟩)))
    repeat (go_quiet (first | (go_at_call 36; (with_reducible refine (laws_big.calls _ _ l0 true _ ?side1 ?side2 A2.out).mono ?_); (case side1 => repeat (first | exact HR0.out | (with_reducible refine Kd.C_alloc ?_ _) | (with_reducible refine Kd.C_drewN ?_ _) | (with_reducible refine Kd.C_drew ?_))); (case side2 => exact HC0.out); rintro e w' ⟨rfl, ⟨nd, rfl⟩⟩; (try first | exact ⟨rfl, _, World.drewN_drewN _ _ _⟩ | exact ⟨rfl, _, Eq.trans (World.drewN_drewN _ _ _) (congrArg (World.drewN _) (Nat.add_assoc _ _ _))⟩))); try go_wp2_with (first | (go_at_call 36; (with_reducible refine (laws_big.calls _ _ l0 true _ ?side1 ?side2 A2.out).mono ?_); (case side1 => repeat (first | exact HR0.out | (with_reducible refine Kd.C_alloc ?_ _) | (with_reducible refine Kd.C_drewN ?_ _) | (with_reducible refine Kd.C_drew ?_))); (case side2 => exact HC0.out); rintro e w' ⟨rfl, ⟨nd, rfl⟩⟩; (try first | exact ⟨rfl, _, World.drewN_drewN _ _ _⟩ | exact ⟨rfl, _, Eq.trans (World.drewN_drewN _ _ _) (congrArg (World.drewN _) (Nat.add_assoc _ _ _))⟩))))
    go_ret
    exact ⟨by first | rfl | (simp [errW_none, errW_some] <;> rfl) | (simp [*, errW_none, errW_some] <;> rfl), by repeat (first | (with_reducible first | exact HB.out | apply below_alloc | apply pw_below_drewN | apply below_drew1) | exact HB.out)⟩
  · replace c3 := Bool.eq_false_iff.mpr c3
    subst c3
    have H1 : ((spec_DrawPlaces.f k l0).bind fun t158 => (if 0 < (t158.length : Int) then (if 1 < (t158.length : Int) then (if 2 < (t158.length : Int) then ((impl_LengthCode.f k (wrap64 (3 + (Int.tmod (rd t158 0) 256)))).bind fun bt164 => ((impl_LengthOf.f bt164.1 bt164.2.2).bind fun bt167 => ((impl_DistCode.f k (wrap64 (1 + (Int.tmod (wrap64 ((wrap64 ((rd t158 1) * 10000)) + (rd t158 2))) 32768)))).bind fun bt169 => ((impl_DistOf.f bt169.1 bt169.2.2).bind fun bt172 => (if bt167.2 = true then (if bt172.2 = true then (if bt167.1 = (wrap64 (3 + (Int.tmod (rd t158 0) 256))) then (if bt172.1 = (wrap64 (1 + (Int.tmod (wrap64 ((wrap64 ((rd t158 1) * 10000)) + (rd t158 2))) 32768))) then (if bt164.2.2 < 0 then (laws_FnLengths.j0 k (wrap64 (3 + (Int.tmod (rd t158 0) 256))) (wrap64 (1 + (Int.tmod (wrap64 ((wrap64 ((rd t158 1) * 10000)) + (rd t158 2))) 32768))) bt164.1 bt169.1 true) else (if 0 ≤ bt164.2.1 then (if bt164.2.2 ≥ (shl .i64 1 bt164.2.1) then (laws_FnLengths.j0 k (wrap64 (3 + (Int.tmod (rd t158 0) 256))) (wrap64 (1 + (Int.tmod (wrap64 ((wrap64 ((rd t158 1) * 10000)) + (rd t158 2))) 32768))) bt164.1 bt169.1 true) else (if bt169.2.2 < 0 then (laws_FnLengths.j0 k (wrap64 (3 + (Int.tmod (rd t158 0) 256))) (wrap64 (1 + (Int.tmod (wrap64 ((wrap64 ((rd t158 1) * 10000)) + (rd t158 2))) 32768))) bt164.1 bt169.1 true) else (if 0 ≤ bt169.2.1 then (laws_FnLengths.j0 k (wrap64 (3 + (Int.tmod (rd t158 0) 256))) (wrap64 (1 + (Int.tmod (wrap64 ((wrap64 ((rd t158 1) * 10000)) + (rd t158 2))) 32768))) bt164.1 bt169.1 (decide (bt169.2.2 ≥ (shl .i64 1 bt169.2.1)))) else (none)))) else (none))) else (laws_FnLengths.j0 k (wrap64 (3 + (Int.tmod (rd t158 0) 256))) (wrap64 (1 + (Int.tmod (wrap64 ((wrap64 ((rd t158 1) * 10000)) + (rd t158 2))) 32768))) bt164.1 bt169.1 true)) else (laws_FnLengths.j0 k (wrap64 (3 + (Int.tmod (rd t158 0) 256))) (wrap64 (1 + (Int.tmod (wrap64 ((wrap64 ((rd t158 1) * 10000)) + (rd t158 2))) 32768))) bt164.1 bt169.1 true)) else (laws_FnLengths.j0 k (wrap64 (3 + (Int.tmod (rd t158 0) 256))) (wrap64 (1 + (Int.tmod (wrap64 ((wrap64 ((rd t158 1) * 10000)) + (rd t158 2))) 32768))) bt164.1 bt169.1 true)) else (laws_FnLengths.j0 k (wrap64 (3 + (Int.tmod (rd t158 0) 256))) (wrap64 (1 + (Int.tmod (wrap64 ((wrap64 ((rd t158 1) * 10000)) + (rd t158 2))) 32768))) bt164.1 bt169.1 true)))))) else (none)) else (none)) else (none))) = some r := by rw [if_neg (show ¬ (false = true) by decide)] at H; exact H
    clear H
    have H := H1
    clear H1
    replace H := Option.bind_eq_some_iff.mp H
    obtain ⟨t158, A40, H⟩ := H
    replace H : (if 0 < (t158.length : Int) then (if 1 < (t158.length : Int) then (if 2 < (t158.length : Int) then ((impl_LengthCode.f k (wrap64 (3 + (Int.tmod (rd t158 0) 256)))).bind fun bt164 => ((impl_LengthOf.f bt164.1 bt164.2.2).bind fun bt167 => ((impl_DistCode.f k (wrap64 (1 + (Int.tmod (wrap64 ((wrap64 ((rd t158 1) * 10000)) + (rd t158 2))) 32768)))).bind fun bt169 => ((impl_DistOf.f bt169.1 bt169.2.2).bind fun bt172 => (if bt167.2 = true then (if bt172.2 = true then (if bt167.1 = (wrap64 (3 + (Int.tmod (rd t158 0) 256))) then (if bt172.1 = (wrap64 (1 + (Int.tmod (wrap64 ((wrap64 ((rd t158 1) * 10000)) + (rd t158 2))) 32768))) then (if bt164.2.2 < 0 then (laws_FnLengths.j0 k (wrap64 (3 + (Int.tmod (rd t158 0) 256))) (wrap64 (1 + (Int.tmod (wrap64 ((wrap64 ((rd t158 1) * 10000)) + (rd t158 2))) 32768))) bt164.1 bt169.1 true) else (if 0 ≤ bt164.2.1 then (if bt164.2.2 ≥ (shl .i64 1 bt164.2.1) then (laws_FnLengths.j0 k (wrap64 (3 + (Int.tmod (rd t158 0) 256))) (wrap64 (1 + (Int.tmod (wrap64 ((wrap64 ((rd t158 1) * 10000)) + (rd t158 2))) 32768))) bt164.1 bt169.1 true) else (if bt169.2.2 < 0 then (laws_FnLengths.j0 k (wrap64 (3 + (Int.tmod (rd t158 0) 256))) (wrap64 (1 + (Int.tmod (wrap64 ((wrap64 ((rd t158 1) * 10000)) + (rd t158 2))) 32768))) bt164.1 bt169.1 true) else (if 0 ≤ bt169.2.1 then (laws_FnLengths.j0 k (wrap64 (3 + (Int.tmod (rd t158 0) 256))) (wrap64 (1 + (Int.tmod (wrap64 ((wrap64 ((rd t158 1) * 10000)) + (rd t158 2))) 32768))) bt164.1 bt169.1 (decide (bt169.2.2 ≥ (shl .i64 1 bt169.2.1)))) else (none)))) else (none))) else (laws_FnLengths.j0 k (wrap64 (3 + (Int.tmod (rd t158 0) 256))) (wrap64 (1 + (Int.tmod (wrap64 ((wrap64 ((rd t158 1) * 10000)) + (rd t158 2))) 32768))) bt164.1 bt169.1 true)) else (laws_FnLengths.j0 k (wrap64 (3 + (Int.tmod (rd t158 0) 256))) (wrap64 (1 + (Int.tmod (wrap64 ((wrap64 ((rd t158 1) * 10000)) + (rd t158 2))) 32768))) bt164.1 bt169.1 true)) else (laws_FnLengths.j0 k (wrap64 (3 + (Int.tmod (rd t158 0) 256))) (wrap64 (1 + (Int.tmod (wrap64 ((wrap64 ((rd t158 1) * 10000)) + (rd t158 2))) 32768))) bt164.1 bt169.1 true)) else (laws_FnLengths.j0 k (wrap64 (3 + (Int.tmod (rd t158 0) 256))) (wrap64 (1 + (Int.tmod (wrap64 ((wrap64 ((rd t158 1) * 10000)) + (rd t158 2))) 32768))) bt164.1 bt169.1 true)))))) else (none)) else (none)) else (none)) = some r := H
    have A4 := Aside0.mk A40
    clear A40
    by_cases c5 : 0 < (t158.length : Int)
    · rw [if_pos c5] at H
      have c5b0 : decide (0 < (t158.length : Int)) = true := decide_eq_true c5
      have c5b1 : decide (0 < t158.length) = true := decide_eq_true (by omega)
      clear c5
      by_cases c6 : 1 < (t158.length : Int)
      · rw [if_pos c6] at H
        have c6b0 : decide (1 < (t158.length : Int)) = true := decide_eq_true c6
        have c6b1 : decide (1 < t158.length) = true := decide_eq_true (by omega)
        clear c6
        by_cases c7 : 2 < (t158.length : Int)
        · rw [if_pos c7] at H
          have c7b0 : decide (2 < (t158.length : Int)) = true := decide_eq_true c7
          have c7b1 : decide (2 < t158.length) = true := decide_eq_true (by omega)
          clear c7
          replace H := Option.bind_eq_some_iff.mp H
          obtain ⟨⟨t164, t165, t166⟩, A80, H⟩ := H
          replace H : ((impl_LengthOf.f t164 t166).bind fun bt167 => ((impl_DistCode.f k (wrap64 (1 + (Int.tmod (wrap64 ((wrap64 ((rd t158 1) * 10000)) + (rd t158 2))) 32768)))).bind fun bt169 => ((impl_DistOf.f bt169.1 bt169.2.2).bind fun bt172 => (if bt167.2 = true then (if bt172.2 = true then (if bt167.1 = (wrap64 (3 + (Int.tmod (rd t158 0) 256))) then (if bt172.1 = (wrap64 (1 + (Int.tmod (wrap64 ((wrap64 ((rd t158 1) * 10000)) + (rd t158 2))) 32768))) then (if t166 < 0 then (laws_FnLengths.j0 k (wrap64 (3 + (Int.tmod (rd t158 0) 256))) (wrap64 (1 + (Int.tmod (wrap64 ((wrap64 ((rd t158 1) * 10000)) + (rd t158 2))) 32768))) t164 bt169.1 true) else (if 0 ≤ t165 then (if t166 ≥ (shl .i64 1 t165) then (laws_FnLengths.j0 k (wrap64 (3 + (Int.tmod (rd t158 0) 256))) (wrap64 (1 + (Int.tmod (wrap64 ((wrap64 ((rd t158 1) * 10000)) + (rd t158 2))) 32768))) t164 bt169.1 true) else (if bt169.2.2 < 0 then (laws_FnLengths.j0 k (wrap64 (3 + (Int.tmod (rd t158 0) 256))) (wrap64 (1 + (Int.tmod (wrap64 ((wrap64 ((rd t158 1) * 10000)) + (rd t158 2))) 32768))) t164 bt169.1 true) else (if 0 ≤ bt169.2.1 then (laws_FnLengths.j0 k (wrap64 (3 + (Int.tmod (rd t158 0) 256))) (wrap64 (1 + (Int.tmod (wrap64 ((wrap64 ((rd t158 1) * 10000)) + (rd t158 2))) 32768))) t164 bt169.1 (decide (bt169.2.2 ≥ (shl .i64 1 bt169.2.1)))) else (none)))) else (none))) else (laws_FnLengths.j0 k (wrap64 (3 + (Int.tmod (rd t158 0) 256))) (wrap64 (1 + (Int.tmod (wrap64 ((wrap64 ((rd t158 1) * 10000)) + (rd t158 2))) 32768))) t164 bt169.1 true)) else (laws_FnLengths.j0 k (wrap64 (3 + (Int.tmod (rd t158 0) 256))) (wrap64 (1 + (Int.tmod (wrap64 ((wrap64 ((rd t158 1) * 10000)) + (rd t158 2))) 32768))) t164 bt169.1 true)) else (laws_FnLengths.j0 k (wrap64 (3 + (Int.tmod (rd t158 0) 256))) (wrap64 (1 + (Int.tmod (wrap64 ((wrap64 ((rd t158 1) * 10000)) + (rd t158 2))) 32768))) t164 bt169.1 true)) else (laws_FnLengths.j0 k (wrap64 (3 + (Int.tmod (rd t158 0) 256))) (wrap64 (1 + (Int.tmod (wrap64 ((wrap64 ((rd t158 1) * 10000)) + (rd t158 2))) 32768))) t164 bt169.1 true))))) = some r := H
          have A8 := Aside0.mk A80
          clear A80
          replace H := Option.bind_eq_some_iff.mp H
          obtain ⟨⟨t167, t168⟩, A90, H⟩ := H
          replace H : ((impl_DistCode.f k (wrap64 (1 + (Int.tmod (wrap64 ((wrap64 ((rd t158 1) * 10000)) + (rd t158 2))) 32768)))).bind fun bt169 => ((impl_DistOf.f bt169.1 bt169.2.2).bind fun bt172 => (if t168 = true then (if bt172.2 = true then (if t167 = (wrap64 (3 + (Int.tmod (rd t158 0) 256))) then (if bt172.1 = (wrap64 (1 + (Int.tmod (wrap64 ((wrap64 ((rd t158 1) * 10000)) + (rd t158 2))) 32768))) then (if t166 < 0 then (laws_FnLengths.j0 k (wrap64 (3 + (Int.tmod (rd t158 0) 256))) (wrap64 (1 + (Int.tmod (wrap64 ((wrap64 ((rd t158 1) * 10000)) + (rd t158 2))) 32768))) t164 bt169.1 true) else (if 0 ≤ t165 then (if t166 ≥ (shl .i64 1 t165) then (laws_FnLengths.j0 k (wrap64 (3 + (Int.tmod (rd t158 0) 256))) (wrap64 (1 + (Int.tmod (wrap64 ((wrap64 ((rd t158 1) * 10000)) + (rd t158 2))) 32768))) t164 bt169.1 true) else (if bt169.2.2 < 0 then (laws_FnLengths.j0 k (wrap64 (3 + (Int.tmod (rd t158 0) 256))) (wrap64 (1 + (Int.tmod (wrap64 ((wrap64 ((rd t158 1) * 10000)) + (rd t158 2))) 32768))) t164 bt169.1 true) else (if 0 ≤ bt169.2.1 then (laws_FnLengths.j0 k (wrap64 (3 + (Int.tmod (rd t158 0) 256))) (wrap64 (1 + (Int.tmod (wrap64 ((wrap64 ((rd t158 1) * 10000)) + (rd t158 2))) 32768))) t164 bt169.1 (decide (bt169.2.2 ≥ (shl .i64 1 bt169.2.1)))) else (none)))) else (none))) else (laws_FnLengths.j0 k (wrap64 (3 + (Int.tmod (rd t158 0) 256))) (wrap64 (1 + (Int.tmod (wrap64 ((wrap64 ((rd t158 1) * 10000)) + (rd t158 2))) 32768))) t164 bt169.1 true)) else (laws_FnLengths.j0 k (wrap64 (3 + (Int.tmod (rd t158 0) 256))) (wrap64 (1 + (Int.tmod (wrap64 ((wrap64 ((rd t158 1) * 10000)) + (rd t158 2))) 32768))) t164 bt169.1 true)) else (laws_FnLengths.j0 k (wrap64 (3 + (Int.tmod (rd t158 0) 256))) (wrap64 (1 + (Int.tmod (wrap64 ((wrap64 ((rd t158 1) * 10000)) + (rd t158 2))) 32768))) t164 bt169.1 true)) else (laws_FnLengths.j0 k (wrap64 (3 + (Int.tmod (rd t158 0) 256))) (wrap64 (1 + (Int.tmod (wrap64 ((wrap64 ((rd t158 1) * 10000)) + (rd t158 2))) 32768))) t164 bt169.1 true)))) = some r := H
          have A9 := Aside0.mk A90
          clear A90
          replace H := Option.bind_eq_some_iff.mp H
          obtain ⟨⟨t169, t170, t171⟩, A100, H⟩ := H
          replace H : ((impl_DistOf.f t169 t171).bind fun bt172 => (if t168 = true then (if bt172.2 = true then (if t167 = (wrap64 (3 + (Int.tmod (rd t158 0) 256))) then (if bt172.1 = (wrap64 (1 + (Int.tmod (wrap64 ((wrap64 ((rd t158 1) * 10000)) + (rd t158 2))) 32768))) then (if t166 < 0 then (laws_FnLengths.j0 k (wrap64 (3 + (Int.tmod (rd t158 0) 256))) (wrap64 (1 + (Int.tmod (wrap64 ((wrap64 ((rd t158 1) * 10000)) + (rd t158 2))) 32768))) t164 t169 true) else (if 0 ≤ t165 then (if t166 ≥ (shl .i64 1 t165) then (laws_FnLengths.j0 k (wrap64 (3 + (Int.tmod (rd t158 0) 256))) (wrap64 (1 + (Int.tmod (wrap64 ((wrap64 ((rd t158 1) * 10000)) + (rd t158 2))) 32768))) t164 t169 true) else (if t171 < 0 then (laws_FnLengths.j0 k (wrap64 (3 + (Int.tmod (rd t158 0) 256))) (wrap64 (1 + (Int.tmod (wrap64 ((wrap64 ((rd t158 1) * 10000)) + (rd t158 2))) 32768))) t164 t169 true) else (if 0 ≤ t170 then (laws_FnLengths.j0 k (wrap64 (3 + (Int.tmod (rd t158 0) 256))) (wrap64 (1 + (Int.tmod (wrap64 ((wrap64 ((rd t158 1) * 10000)) + (rd t158 2))) 32768))) t164 t169 (decide (t171 ≥ (shl .i64 1 t170)))) else (none)))) else (none))) else (laws_FnLengths.j0 k (wrap64 (3 + (Int.tmod (rd t158 0) 256))) (wrap64 (1 + (Int.tmod (wrap64 ((wrap64 ((rd t158 1) * 10000)) + (rd t158 2))) 32768))) t164 t169 true)) else (laws_FnLengths.j0 k (wrap64 (3 + (Int.tmod (rd t158 0) 256))) (wrap64 (1 + (Int.tmod (wrap64 ((wrap64 ((rd t158 1) * 10000)) + (rd t158 2))) 32768))) t164 t169 true)) else (laws_FnLengths.j0 k (wrap64 (3 + (Int.tmod (rd t158 0) 256))) (wrap64 (1 + (Int.tmod (wrap64 ((wrap64 ((rd t158 1) * 10000)) + (rd t158 2))) 32768))) t164 t169 true)) else (laws_FnLengths.j0 k (wrap64 (3 + (Int.tmod (rd t158 0) 256))) (wrap64 (1 + (Int.tmod (wrap64 ((wrap64 ((rd t158 1) * 10000)) + (rd t158 2))) 32768))) t164 t169 true))) = some r := H
          have A10 := Aside0.mk A100
          clear A100
          replace H := Option.bind_eq_some_iff.mp H
          obtain ⟨⟨t172, t173⟩, A110, H⟩ := H
          replace H : (if t168 = true then (if t173 = true then (if t167 = (wrap64 (3 + (Int.tmod (rd t158 0) 256))) then (if t172 = (wrap64 (1 + (Int.tmod (wrap64 ((wrap64 ((rd t158 1) * 10000)) + (rd t158 2))) 32768))) then (if t166 < 0 then (laws_FnLengths.j0 k (wrap64 (3 + (Int.tmod (rd t158 0) 256))) (wrap64 (1 + (Int.tmod (wrap64 ((wrap64 ((rd t158 1) * 10000)) + (rd t158 2))) 32768))) t164 t169 true) else (if 0 ≤ t165 then (if t166 ≥ (shl .i64 1 t165) then (laws_FnLengths.j0 k (wrap64 (3 + (Int.tmod (rd t158 0) 256))) (wrap64 (1 + (Int.tmod (wrap64 ((wrap64 ((rd t158 1) * 10000)) + (rd t158 2))) 32768))) t164 t169 true) else (if t171 < 0 then (laws_FnLengths.j0 k (wrap64 (3 + (Int.tmod (rd t158 0) 256))) (wrap64 (1 + (Int.tmod (wrap64 ((wrap64 ((rd t158 1) * 10000)) + (rd t158 2))) 32768))) t164 t169 true) else (if 0 ≤ t170 then (laws_FnLengths.j0 k (wrap64 (3 + (Int.tmod (rd t158 0) 256))) (wrap64 (1 + (Int.tmod (wrap64 ((wrap64 ((rd t158 1) * 10000)) + (rd t158 2))) 32768))) t164 t169 (decide (t171 ≥ (shl .i64 1 t170)))) else (none)))) else (none))) else (laws_FnLengths.j0 k (wrap64 (3 + (Int.tmod (rd t158 0) 256))) (wrap64 (1 + (Int.tmod (wrap64 ((wrap64 ((rd t158 1) * 10000)) + (rd t158 2))) 32768))) t164 t169 true)) else (laws_FnLengths.j0 k (wrap64 (3 + (Int.tmod (rd t158 0) 256))) (wrap64 (1 + (Int.tmod (wrap64 ((wrap64 ((rd t158 1) * 10000)) + (rd t158 2))) 32768))) t164 t169 true)) else (laws_FnLengths.j0 k (wrap64 (3 + (Int.tmod (rd t158 0) 256))) (wrap64 (1 + (Int.tmod (wrap64 ((wrap64 ((rd t158 1) * 10000)) + (rd t158 2))) 32768))) t164 t169 true)) else (laws_FnLengths.j0 k (wrap64 (3 + (Int.tmod (rd t158 0) 256))) (wrap64 (1 + (Int.tmod (wrap64 ((wrap64 ((rd t158 1) * 10000)) + (rd t158 2))) 32768))) t164 t169 true)) = some r := H
          have A11 := Aside0.mk A110
          clear A110
          have HC12 := Aside0.mk H
          clear H
          go_enter Try.func13, Try.ntmps13
          go_upto_region 10 with (first | (go_at_call 36; (with_reducible refine (laws_big.calls _ _ l0 false _ ?side1 ?side2 A2.out).mono ?_); (case side1 => repeat (first | exact HR0.out | (with_reducible refine Kd.C_alloc ?_ _) | (with_reducible refine Kd.C_drewN ?_ _) | (with_reducible refine Kd.C_drew ?_))); (case side2 => exact HC0.out); rintro e w' ⟨rfl, ⟨nd, rfl⟩⟩; (try first | exact ⟨rfl, _, World.drewN_drewN _ _ _⟩ | exact ⟨rfl, _, Eq.trans (World.drewN_drewN _ _ _) (congrArg (World.drewN _) (Nat.add_assoc _ _ _))⟩)) | (go_at_call 44; (with_reducible refine (spec_DrawPlaces.calls k _ _ l0 t158 _ ?side1 ?side2 A4.out).mono ?_); (case side1 => repeat (first | exact HR0.out | (with_reducible refine Kd.C_alloc ?_ _) | (with_reducible refine Kd.C_drewN ?_ _) | (with_reducible refine Kd.C_drew ?_))); (case side2 => exact HC0.out); rintro e w13 ⟨v159, rfl, ho0, hb⟩; have n0_ := Aside0.mk (Kd.R_lower ho0 (below_size (by repeat (first | (with_reducible first | exact HB.out | apply below_alloc | apply pw_below_drewN | apply below_drew1) | exact HB.out)))); have n1_ := Aside0.mk (below_step (by repeat (first | (with_reducible first | exact HB.out | apply below_alloc | apply pw_below_drewN | apply below_drew1) | exact HB.out)) hb); clear HB; have HO160 := n0_; have HB := n1_; clear n0_ n1_; (try clear hb); (try clear hb2); (try clear hk); (try clear hi); (try clear ho0); obtain ⟨Ao14, co14, eo14⟩ := Kd.R_slice HO160.out; subst eo14; have p161 : 0 ≤ (0 : Int) := (by omega); have q161 : 0 < (t158.length : Int) := of_decide_eq_true (by first | (with_reducible assumption) | assumption); obtain ⟨ad161, e161, hx161_0⟩ := Kd.at_int (Kd.R_reads' HO160.out).2.2 0 p161 q161; cases e161; have qi161 : (0 < t158.length) = True := eq_true (by omega); (try rw [show ((0 : Int)).toNat = 0 from rfl] at hx161_0); (try rw [Addr.add_zero'] at hx161_0); replace p161 := eq_true p161; replace q161 := eq_true q161; have p162 : 0 ≤ (1 : Int) := (by omega); have q162 : 1 < (t158.length : Int) := of_decide_eq_true (by first | (with_reducible assumption) | assumption); obtain ⟨ad162, e162, hx162_0⟩ := Kd.at_int (Kd.R_reads' HO160.out).2.2 1 p162 q162; obtain rfl : ad161 = ad162 := (by injection e162); (try simp only [show (1 : Int).toNat = 1 from rfl, Nat.reduceMul, Nat.reduceEqDiff, Go.Addr.add, ↓reduceIte] at hx162_0); have qi162 : (1 < t158.length) = True := eq_true (by omega); (try rw [show ((1 : Int)).toNat = 1 from rfl] at hx162_0); replace p162 := eq_true p162; replace q162 := eq_true q162; have p163 : 0 ≤ (2 : Int) := (by omega); have q163 : 2 < (t158.length : Int) := of_decide_eq_true (by first | (with_reducible assumption) | assumption); obtain ⟨ad163, e163, hx163_0⟩ := Kd.at_int (Kd.R_reads' HO160.out).2.2 2 p163 q163; obtain rfl : ad161 = ad163 := (by injection e163); (try simp only [show (2 : Int).toNat = 2 from rfl, Nat.reduceMul, Nat.reduceEqDiff, Go.Addr.add, ↓reduceIte] at hx163_0); have qi163 : (2 < t158.length) = True := eq_true (by omega); (try rw [show ((2 : Int)).toNat = 2 from rfl] at hx163_0); replace p163 := eq_true p163; replace q163 := eq_true q163) | (go_at_call 29; (with_reducible refine (impl_LengthCode.calls k (wrap64 (3 + (Int.tmod (rd t158 0) 256))) t164 t165 t166 _ A8.out).mono ?_); rintro e w' ⟨rfl, ⟨nd, rfl⟩⟩; (try first | exact ⟨rfl, _, World.drewN_drewN _ _ _⟩ | exact ⟨rfl, _, Eq.trans (World.drewN_drewN _ _ _) (congrArg (World.drewN _) (Nat.add_assoc _ _ _))⟩)) | (go_at_call 27; (with_reducible refine (impl_LengthOf.calls t164 t166 t167 t168 _ A9.out).mono ?_); rintro e w' ⟨rfl, ⟨nd, rfl⟩⟩; (try first | exact ⟨rfl, _, World.drewN_drewN _ _ _⟩ | exact ⟨rfl, _, Eq.trans (World.drewN_drewN _ _ _) (congrArg (World.drewN _) (Nat.add_assoc _ _ _))⟩)) | (go_at_call 25; (with_reducible refine (impl_DistCode.calls k (wrap64 (1 + (Int.tmod (wrap64 ((wrap64 ((rd t158 1) * 10000)) + (rd t158 2))) 32768))) t169 t170 t171 _ A10.out).mono ?_); rintro e w' ⟨rfl, ⟨nd, rfl⟩⟩; (try first | exact ⟨rfl, _, World.drewN_drewN _ _ _⟩ | exact ⟨rfl, _, Eq.trans (World.drewN_drewN _ _ _) (congrArg (World.drewN _) (Nat.add_assoc _ _ _))⟩)) | (go_at_call 23; (with_reducible refine (impl_DistOf.calls t169 t171 t172 t173 _ A11.out).mono ?_); rintro e w' ⟨rfl, ⟨nd, rfl⟩⟩; (try first | exact ⟨rfl, _, World.drewN_drewN _ _ _⟩ | exact ⟨rfl, _, Eq.trans (World.drewN_drewN _ _ _) (congrArg (World.drewN _) (Nat.add_assoc _ _ _))⟩)))
          repeat (go_quiet (first | (go_at_call 36; (with_reducible refine (laws_big.calls _ _ l0 false _ ?side1 ?side2 A2.out).mono ?_); (case side1 => repeat (first | exact HR0.out | (with_reducible refine Kd.C_alloc ?_ _) | (with_reducible refine Kd.C_drewN ?_ _) | (with_reducible refine Kd.C_drew ?_))); (case side2 => exact HC0.out); rintro e w' ⟨rfl, ⟨nd, rfl⟩⟩; (try first | exact ⟨rfl, _, World.drewN_drewN _ _ _⟩ | exact ⟨rfl, _, Eq.trans (World.drewN_drewN _ _ _) (congrArg (World.drewN _) (Nat.add_assoc _ _ _))⟩)) | (go_at_call 44; (with_reducible refine (spec_DrawPlaces.calls k _ _ l0 t158 _ ?side1 ?side2 A4.out).mono ?_); (case side1 => repeat (first | exact HR0.out | (with_reducible refine Kd.C_alloc ?_ _) | (with_reducible refine Kd.C_drewN ?_ _) | (with_reducible refine Kd.C_drew ?_))); (case side2 => exact HC0.out); rintro e w13 ⟨v159, rfl, ho0, hb⟩; have n0_ := Aside0.mk (Kd.R_lower ho0 (below_size (by repeat (first | (with_reducible first | exact HB.out | apply below_alloc | apply pw_below_drewN | apply below_drew1) | exact HB.out)))); have n1_ := Aside0.mk (below_step (by repeat (first | (with_reducible first | exact HB.out | apply below_alloc | apply pw_below_drewN | apply below_drew1) | exact HB.out)) hb); clear HB; have HO160 := n0_; have HB := n1_; clear n0_ n1_; (try clear hb); (try clear hb2); (try clear hk); (try clear hi); (try clear ho0); obtain ⟨Ao14, co14, eo14⟩ := Kd.R_slice HO160.out; subst eo14; have p161 : 0 ≤ (0 : Int) := (by omega); have q161 : 0 < (t158.length : Int) := of_decide_eq_true (by first | (with_reducible assumption) | assumption); obtain ⟨ad161, e161, hx161_0⟩ := Kd.at_int (Kd.R_reads' HO160.out).2.2 0 p161 q161; cases e161; have qi161 : (0 < t158.length) = True := eq_true (by omega); (try rw [show ((0 : Int)).toNat = 0 from rfl] at hx161_0); (try rw [Addr.add_zero'] at hx161_0); replace p161 := eq_true p161; replace q161 := eq_true q161; have p162 : 0 ≤ (1 : Int) := (by omega); have q162 : 1 < (t158.length : Int) := of_decide_eq_true (by first | (with_reducible assumption) | assumption); obtain ⟨ad162, e162, hx162_0⟩ := Kd.at_int (Kd.R_reads' HO160.out).2.2 1 p162 q162; obtain rfl : ad161 = ad162 := (by injection e162); (try simp only [show (1 : Int).toNat = 1 from rfl, Nat.reduceMul, Nat.reduceEqDiff, Go.Addr.add, ↓reduceIte] at hx162_0); have qi162 : (1 < t158.length) = True := eq_true (by omega); (try rw [show ((1 : Int)).toNat = 1 from rfl] at hx162_0); replace p162 := eq_true p162; replace q162 := eq_true q162; have p163 : 0 ≤ (2 : Int) := (by omega); have q163 : 2 < (t158.length : Int) := of_decide_eq_true (by first | (with_reducible assumption) | assumption); obtain ⟨ad163, e163, hx163_0⟩ := Kd.at_int (Kd.R_reads' HO160.out).2.2 2 p163 q163; obtain rfl : ad161 = ad163 := (by injection e163); (try simp only [show (2 : Int).toNat = 2 from rfl, Nat.reduceMul, Nat.reduceEqDiff, Go.Addr.add, ↓reduceIte] at hx163_0); have qi163 : (2 < t158.length) = True := eq_true (by omega); (try rw [show ((2 : Int)).toNat = 2 from rfl] at hx163_0); replace p163 := eq_true p163; replace q163 := eq_true q163) | (go_at_call 29; (with_reducible refine (impl_LengthCode.calls k (wrap64 (3 + (Int.tmod (rd t158 0) 256))) t164 t165 t166 _ A8.out).mono ?_); rintro e w' ⟨rfl, ⟨nd, rfl⟩⟩; (try first | exact ⟨rfl, _, World.drewN_drewN _ _ _⟩ | exact ⟨rfl, _, Eq.trans (World.drewN_drewN _ _ _) (congrArg (World.drewN _) (Nat.add_assoc _ _ _))⟩)) | (go_at_call 27; (with_reducible refine (impl_LengthOf.calls t164 t166 t167 t168 _ A9.out).mono ?_); rintro e w' ⟨rfl, ⟨nd, rfl⟩⟩; (try first | exact ⟨rfl, _, World.drewN_drewN _ _ _⟩ | exact ⟨rfl, _, Eq.trans (World.drewN_drewN _ _ _) (congrArg (World.drewN _) (Nat.add_assoc _ _ _))⟩)) | (go_at_call 25; (with_reducible refine (impl_DistCode.calls k (wrap64 (1 + (Int.tmod (wrap64 ((wrap64 ((rd t158 1) * 10000)) + (rd t158 2))) 32768))) t169 t170 t171 _ A10.out).mono ?_); rintro e w' ⟨rfl, ⟨nd, rfl⟩⟩; (try first | exact ⟨rfl, _, World.drewN_drewN _ _ _⟩ | exact ⟨rfl, _, Eq.trans (World.drewN_drewN _ _ _) (congrArg (World.drewN _) (Nat.add_assoc _ _ _))⟩)) | (go_at_call 23; (with_reducible refine (impl_DistOf.calls t169 t171 t172 t173 _ A11.out).mono ?_); rintro e w' ⟨rfl, ⟨nd, rfl⟩⟩; (try first | exact ⟨rfl, _, World.drewN_drewN _ _ _⟩ | exact ⟨rfl, _, Eq.trans (World.drewN_drewN _ _ _) (congrArg (World.drewN _) (Nat.add_assoc _ _ _))⟩))); go_upto_region 10 with (first | (go_at_call 36; (with_reducible refine (laws_big.calls _ _ l0 false _ ?side1 ?side2 A2.out).mono ?_); (case side1 => repeat (first | exact HR0.out | (with_reducible refine Kd.C_alloc ?_ _) | (with_reducible refine Kd.C_drewN ?_ _) | (with_reducible refine Kd.C_drew ?_))); (case side2 => exact HC0.out); rintro e w' ⟨rfl, ⟨nd, rfl⟩⟩; (try first | exact ⟨rfl, _, World.drewN_drewN _ _ _⟩ | exact ⟨rfl, _, Eq.trans (World.drewN_drewN _ _ _) (congrArg (World.drewN _) (Nat.add_assoc _ _ _))⟩)) | (go_at_call 44; (with_reducible refine (spec_DrawPlaces.calls k _ _ l0 t158 _ ?side1 ?side2 A4.out).mono ?_); (case side1 => repeat (first | exact HR0.out | (with_reducible refine Kd.C_alloc ?_ _) | (with_reducible refine Kd.C_drewN ?_ _) | (with_reducible refine Kd.C_drew ?_))); (case side2 => exact HC0.out); rintro e w13 ⟨v159, rfl, ho0, hb⟩; have n0_ := Aside0.mk (Kd.R_lower ho0 (below_size (by repeat (first | (with_reducible first | exact HB.out | apply below_alloc | apply pw_below_drewN | apply below_drew1) | exact HB.out)))); have n1_ := Aside0.mk (below_step (by repeat (first | (with_reducible first | exact HB.out | apply below_alloc | apply pw_below_drewN | apply below_drew1) | exact HB.out)) hb); clear HB; have HO160 := n0_; have HB := n1_; clear n0_ n1_; (try clear hb); (try clear hb2); (try clear hk); (try clear hi); (try clear ho0); obtain ⟨Ao14, co14, eo14⟩ := Kd.R_slice HO160.out; subst eo14; have p161 : 0 ≤ (0 : Int) := (by omega); have q161 : 0 < (t158.length : Int) := of_decide_eq_true (by first | (with_reducible assumption) | assumption); obtain ⟨ad161, e161, hx161_0⟩ := Kd.at_int (Kd.R_reads' HO160.out).2.2 0 p161 q161; cases e161; have qi161 : (0 < t158.length) = True := eq_true (by omega); (try rw [show ((0 : Int)).toNat = 0 from rfl] at hx161_0); (try rw [Addr.add_zero'] at hx161_0); replace p161 := eq_true p161; replace q161 := eq_true q161; have p162 : 0 ≤ (1 : Int) := (by omega); have q162 : 1 < (t158.length : Int) := of_decide_eq_true (by first | (with_reducible assumption) | assumption); obtain ⟨ad162, e162, hx162_0⟩ := Kd.at_int (Kd.R_reads' HO160.out).2.2 1 p162 q162; obtain rfl : ad161 = ad162 := (by injection e162); (try simp only [show (1 : Int).toNat = 1 from rfl, Nat.reduceMul, Nat.reduceEqDiff, Go.Addr.add, ↓reduceIte] at hx162_0); have qi162 : (1 < t158.length) = True := eq_true (by omega); (try rw [show ((1 : Int)).toNat = 1 from rfl] at hx162_0); replace p162 := eq_true p162; replace q162 := eq_true q162; have p163 : 0 ≤ (2 : Int) := (by omega); have q163 : 2 < (t158.length : Int) := of_decide_eq_true (by first | (with_reducible assumption) | assumption); obtain ⟨ad163, e163, hx163_0⟩ := Kd.at_int (Kd.R_reads' HO160.out).2.2 2 p163 q163; obtain rfl : ad161 = ad163 := (by injection e163); (try simp only [show (2 : Int).toNat = 2 from rfl, Nat.reduceMul, Nat.reduceEqDiff, Go.Addr.add, ↓reduceIte] at hx163_0); have qi163 : (2 < t158.length) = True := eq_true (by omega); (try rw [show ((2 : Int)).toNat = 2 from rfl] at hx163_0); replace p163 := eq_true p163; replace q163 := eq_true q163) | (go_at_call 29; (with_reducible refine (impl_LengthCode.calls k (wrap64 (3 + (Int.tmod (rd t158 0) 256))) t164 t165 t166 _ A8.out).mono ?_); rintro e w' ⟨rfl, ⟨nd, rfl⟩⟩; (try first | exact ⟨rfl, _, World.drewN_drewN _ _ _⟩ | exact ⟨rfl, _, Eq.trans (World.drewN_drewN _ _ _) (congrArg (World.drewN _) (Nat.add_assoc _ _ _))⟩)) | (go_at_call 27; (with_reducible refine (impl_LengthOf.calls t164 t166 t167 t168 _ A9.out).mono ?_); rintro e w' ⟨rfl, ⟨nd, rfl⟩⟩; (try first | exact ⟨rfl, _, World.drewN_drewN _ _ _⟩ | exact ⟨rfl, _, Eq.trans (World.drewN_drewN _ _ _) (congrArg (World.drewN _) (Nat.add_assoc _ _ _))⟩)) | (go_at_call 25; (with_reducible refine (impl_DistCode.calls k (wrap64 (1 + (Int.tmod (wrap64 ((wrap64 ((rd t158 1) * 10000)) + (rd t158 2))) 32768))) t169 t170 t171 _ A10.out).mono ?_); rintro e w' ⟨rfl, ⟨nd, rfl⟩⟩; (try first | exact ⟨rfl, _, World.drewN_drewN _ _ _⟩ | exact ⟨rfl, _, Eq.trans (World.drewN_drewN _ _ _) (congrArg (World.drewN _) (Nat.add_assoc _ _ _))⟩)) | (go_at_call 23; (with_reducible refine (impl_DistOf.calls t169 t171 t172 t173 _ A11.out).mono ?_); rintro e w' ⟨rfl, ⟨nd, rfl⟩⟩; (try first | exact ⟨rfl, _, World.drewN_drewN _ _ _⟩ | exact ⟨rfl, _, Eq.trans (World.drewN_drewN _ _ _) (congrArg (World.drewN _) (Nat.add_assoc _ _ _))⟩))))
          (try simp only [Act.put, List.setIfInBounds_toArray, List.set_cons_zero, List.set_cons_succ])
          go_cut [100] (fun v100 wc => ∃ (kq : Nat) (x100_11 : Bool), v100 = .bool x100_11 ∧ Aside0 (laws_FnLengths.j0 kq (wrap64 (3 + (Int.tmod (rd t158 0) 256))) (wrap64 (1 + (Int.tmod (wrap64 ((wrap64 ((rd t158 1) * 10000)) + (rd t158 2))) 32768))) t164 t169 x100_11 = some r) ∧ Aside0 (kq ≤ k) ∧ Aside0 (Below w.heap.size w wc))
          case first =>
            have H := HC12.out
            clear HC12
            by_cases c15 : t168 = true
            · subst c15
              have H1 : (if t173 = true then (if t167 = (wrap64 (3 + (Int.tmod (rd t158 0) 256))) then (if t172 = (wrap64 (1 + (Int.tmod (wrap64 ((wrap64 ((rd t158 1) * 10000)) + (rd t158 2))) 32768))) then (if t166 < 0 then (laws_FnLengths.j0 k (wrap64 (3 + (Int.tmod (rd t158 0) 256))) (wrap64 (1 + (Int.tmod (wrap64 ((wrap64 ((rd t158 1) * 10000)) + (rd t158 2))) 32768))) t164 t169 true) else (if 0 ≤ t165 then (if t166 ≥ (shl .i64 1 t165) then (laws_FnLengths.j0 k (wrap64 (3 + (Int.tmod (rd t158 0) 256))) (wrap64 (1 + (Int.tmod (wrap64 ((wrap64 ((rd t158 1) * 10000)) + (rd t158 2))) 32768))) t164 t169 true) else (if t171 < 0 then (laws_FnLengths.j0 k (wrap64 (3 + (Int.tmod (rd t158 0) 256))) (wrap64 (1 + (Int.tmod (wrap64 ((wrap64 ((rd t158 1) * 10000)) + (rd t158 2))) 32768))) t164 t169 true) else (if 0 ≤ t170 then (laws_FnLengths.j0 k (wrap64 (3 + (Int.tmod (rd t158 0) 256))) (wrap64 (1 + (Int.tmod (wrap64 ((wrap64 ((rd t158 1) * 10000)) + (rd t158 2))) 32768))) t164 t169 (decide (t171 ≥ (shl .i64 1 t170)))) else (none)))) else (none))) else (laws_FnLengths.j0 k (wrap64 (3 + (Int.tmod (rd t158 0) 256))) (wrap64 (1 + (Int.tmod (wrap64 ((wrap64 ((rd t158 1) * 10000)) + (rd t158 2))) 32768))) t164 t169 true)) else (laws_FnLengths.j0 k (wrap64 (3 + (Int.tmod (rd t158 0) 256))) (wrap64 (1 + (Int.tmod (wrap64 ((wrap64 ((rd t158 1) * 10000)) + (rd t158 2))) 32768))) t164 t169 true)) else (laws_FnLengths.j0 k (wrap64 (3 + (Int.tmod (rd t158 0) 256))) (wrap64 (1 + (Int.tmod (wrap64 ((wrap64 ((rd t158 1) * 10000)) + (rd t158 2))) 32768))) t164 t169 true)) = some r := by rw [if_pos rfl] at H; exact H
              clear H
              have H := H1
              clear H1
              by_cases c16 : t173 = true
              · subst c16
                have H1 : (if t167 = (wrap64 (3 + (Int.tmod (rd t158 0) 256))) then (if t172 = (wrap64 (1 + (Int.tmod (wrap64 ((wrap64 ((rd t158 1) * 10000)) + (rd t158 2))) 32768))) then (if t166 < 0 then (laws_FnLengths.j0 k (wrap64 (3 + (Int.tmod (rd t158 0) 256))) (wrap64 (1 + (Int.tmod (wrap64 ((wrap64 ((rd t158 1) * 10000)) + (rd t158 2))) 32768))) t164 t169 true) else (if 0 ≤ t165 then (if t166 ≥ (shl .i64 1 t165) then (laws_FnLengths.j0 k (wrap64 (3 + (Int.tmod (rd t158 0) 256))) (wrap64 (1 + (Int.tmod (wrap64 ((wrap64 ((rd t158 1) * 10000)) + (rd t158 2))) 32768))) t164 t169 true) else (if t171 < 0 then (laws_FnLengths.j0 k (wrap64 (3 + (Int.tmod (rd t158 0) 256))) (wrap64 (1 + (Int.tmod (wrap64 ((wrap64 ((rd t158 1) * 10000)) + (rd t158 2))) 32768))) t164 t169 true) else (if 0 ≤ t170 then (laws_FnLengths.j0 k (wrap64 (3 + (Int.tmod (rd t158 0) 256))) (wrap64 (1 + (Int.tmod (wrap64 ((wrap64 ((rd t158 1) * 10000)) + (rd t158 2))) 32768))) t164 t169 (decide (t171 ≥ (shl .i64 1 t170)))) else (none)))) else (none))) else (laws_FnLengths.j0 k (wrap64 (3 + (Int.tmod (rd t158 0) 256))) (wrap64 (1 + (Int.tmod (wrap64 ((wrap64 ((rd t158 1) * 10000)) + (rd t158 2))) 32768))) t164 t169 true)) else (laws_FnLengths.j0 k (wrap64 (3 + (Int.tmod (rd t158 0) 256))) (wrap64 (1 + (Int.tmod (wrap64 ((wrap64 ((rd t158 1) * 10000)) + (rd t158 2))) 32768))) t164 t169 true)) = some r := by rw [if_pos rfl] at H; exact H
                clear H
                have H := H1
                clear H1
                by_cases c17 : t167 = (wrap64 (3 + (Int.tmod (rd t158 0) 256)))
                · rw [if_pos c17] at H
                  have c17b0 : (t167 == (wrap64 (3 + (Int.tmod (rd t158 0) 256)))) = true := beq_iff_eq.mpr c17
                  have c17b1 : (t167 != (wrap64 (3 + (Int.tmod (rd t158 0) 256)))) = false := bne_eq_false_iff_eq.mpr c17
                  clear c17
                  (first | rw [c17b0] | (simp only [i64_w, i32_w]; rw [c17b0]) | skip)
                  by_cases c18 : t172 = (wrap64 (1 + (Int.tmod (wrap64 ((wrap64 ((rd t158 1) * 10000)) + (rd t158 2))) 32768)))
                  · rw [if_pos c18] at H
                    have c18b0 : (t172 == (wrap64 (1 + (Int.tmod (wrap64 ((wrap64 ((rd t158 1) * 10000)) + (rd t158 2))) 32768)))) = true := beq_iff_eq.mpr c18
                    have c18b1 : (t172 != (wrap64 (1 + (Int.tmod (wrap64 ((wrap64 ((rd t158 1) * 10000)) + (rd t158 2))) 32768)))) = false := bne_eq_false_iff_eq.mpr c18
                    clear c18
                    by_cases c19 : t166 < 0
                    · rw [if_pos c19] at H
                      have c19b0 : decide (t166 < 0) = true := decide_eq_true c19
                      clear c19
                      have H' := Aside0.mk H
                      clear H
                      go_wp2
                      repeat (go_quiet (fail); try go_wp2)
                      go_meet
                      case rel => exact ⟨_, (true), (by first | rfl | (simp; done) | (simp [*]; done)), H', ⟨by first | omega | exact Nat.le_refl _⟩, ⟨by repeat (first | (with_reducible first | exact HB.out | apply below_alloc | apply pw_below_drewN | apply below_drew1) | exact HB.out)⟩⟩
                    · rw [if_neg c19] at H
                      have c19b0 : decide (t166 < 0) = false := decide_eq_false c19
                      clear c19
                      by_cases c20 : 0 ≤ t165
                      · rw [if_pos c20] at H
                        have c20b0 := eq_true c20
                        have c20b1 : decide (0 ≤ t165) = true := decide_eq_true c20
                        clear c20
                        obtain ⟨ji21, hji21⟩ : ∃ j_ : Int, (shl .i64 1 t165) = j_ := ⟨_, rfl⟩
                        replace H : (if t166 ≥ (ji21) then (laws_FnLengths.j0 k (wrap64 (3 + (Int.tmod (rd t158 0) 256))) (wrap64 (1 + (Int.tmod (wrap64 ((wrap64 ((rd t158 1) * 10000)) + (rd t158 2))) 32768))) t164 t169 true) else (if t171 < 0 then (laws_FnLengths.j0 k (wrap64 (3 + (Int.tmod (rd t158 0) 256))) (wrap64 (1 + (Int.tmod (wrap64 ((wrap64 ((rd t158 1) * 10000)) + (rd t158 2))) 32768))) t164 t169 true) else (if 0 ≤ t170 then (laws_FnLengths.j0 k (wrap64 (3 + (Int.tmod (rd t158 0) 256))) (wrap64 (1 + (Int.tmod (wrap64 ((wrap64 ((rd t158 1) * 10000)) + (rd t158 2))) 32768))) t164 t169 (decide (t171 ≥ (shl .i64 1 t170)))) else (none)))) = some r := by first | (rw [hji21] at H; exact H) | (simp only [hji21] at H ⊢; exact H)
                        have hji21_ : (IntKind.i64.wrap (1 * 2 ^ min t165.toNat 64)) = ji21 := hji21
                        have hji21z : t165 ≤ 64 → (IntKind.i64.wrap (1 * 2 ^ t165.toNat)) = ji21 := shl_small hji21
                        have hji21u : (IntKind.i64.wrap (2 ^ min t165.toNat 64)) = ji21 := by have h_ := hji21_; rw [Int.one_mul] at h_; exact h_
                        have hji21v : t165 ≤ 64 → (IntKind.i64.wrap (2 ^ t165.toNat)) = ji21 := fun hle_ => by have h_ := hji21z hle_; rw [Int.one_mul] at h_; exact h_
                        have hji21y : (wrap64 (1 * 2 ^ min t165.toNat 64)) = ji21 := (i64_w _).symm.trans hji21_
                        have hji21x : t165 ≤ 64 → (wrap64 (1 * 2 ^ t165.toNat)) = ji21 := fun h_ => (i64_w _).symm.trans (hji21z h_)
                        by_cases c22 : t166 ≥ (ji21)
                        · rw [if_pos c22] at H
                          have c22b0 : decide ((ji21) ≤ t166) = true := decide_eq_true c22
                          clear c22
                          have H' := Aside0.mk H
                          clear H
                          go_wp2
                          repeat (go_quiet (fail); try go_wp2)
                          go_meet
                          case rel => exact ⟨_, (true), (by first | rfl | (simp; done) | (simp [*]; done)), H', ⟨by first | omega | exact Nat.le_refl _⟩, ⟨by repeat (first | (with_reducible first | exact HB.out | apply below_alloc | apply pw_below_drewN | apply below_drew1) | exact HB.out)⟩⟩
                        · rw [if_neg c22] at H
                          have c22b0 : decide ((ji21) ≤ t166) = false := decide_eq_false c22
                          clear c22
                          by_cases c23 : t171 < 0
                          · rw [if_pos c23] at H
                            have c23b0 : decide (t171 < 0) = true := decide_eq_true c23
                            clear c23
                            have H' := Aside0.mk H
                            clear H
                            go_wp2
                            repeat (go_quiet (fail); try go_wp2)
                            go_meet
                            case rel => exact ⟨_, (true), (by first | rfl | (simp; done) | (simp [*]; done)), H', ⟨by first | omega | exact Nat.le_refl _⟩, ⟨by repeat (first | (with_reducible first | exact HB.out | apply below_alloc | apply pw_below_drewN | apply below_drew1) | exact HB.out)⟩⟩
                          · rw [if_neg c23] at H
                            have c23b0 : decide (t171 < 0) = false := decide_eq_false c23
                            clear c23
                            by_cases c24 : 0 ≤ t170
                            · rw [if_pos c24] at H
                              have c24b0 := eq_true c24
                              have c24b1 : decide (0 ≤ t170) = true := decide_eq_true c24
                              clear c24
                              obtain ⟨ji25, hji25⟩ : ∃ j_ : Int, (shl .i64 1 t170) = j_ := ⟨_, rfl⟩
                              replace H : (laws_FnLengths.j0 k (wrap64 (3 + (Int.tmod (rd t158 0) 256))) (wrap64 (1 + (Int.tmod (wrap64 ((wrap64 ((rd t158 1) * 10000)) + (rd t158 2))) 32768))) t164 t169 (decide (t171 ≥ (ji25)))) = some r := by first | (rw [hji25] at H; exact H) | (simp only [hji25] at H ⊢; exact H)
                              have hji25_ : (IntKind.i64.wrap (1 * 2 ^ min t170.toNat 64)) = ji25 := hji25
                              have hji25z : t170 ≤ 64 → (IntKind.i64.wrap (1 * 2 ^ t170.toNat)) = ji25 := shl_small hji25
                              have hji25u : (IntKind.i64.wrap (2 ^ min t170.toNat 64)) = ji25 := by have h_ := hji25_; rw [Int.one_mul] at h_; exact h_
                              have hji25v : t170 ≤ 64 → (IntKind.i64.wrap (2 ^ t170.toNat)) = ji25 := fun hle_ => by have h_ := hji25z hle_; rw [Int.one_mul] at h_; exact h_
                              have hji25y : (wrap64 (1 * 2 ^ min t170.toNat 64)) = ji25 := (i64_w _).symm.trans hji25_
                              have hji25x : t170 ≤ 64 → (wrap64 (1 * 2 ^ t170.toNat)) = ji25 := fun h_ => (i64_w _).symm.trans (hji25z h_)
                              have H' := Aside0.mk H
                              clear H
                              go_wp2
                              repeat (go_quiet (fail); try go_wp2)
                              go_meet
                              case rel => exact ⟨_, (decide (t171 ≥ (ji25))), (by first | rfl | (simp; done) | (simp only [← hji25] <;> (first | rfl | simp)) | (simp [*]; done)), H', ⟨by first | omega | exact Nat.le_refl _⟩, ⟨by repeat (first | (with_reducible first | exact HB.out | apply below_alloc | apply pw_below_drewN | apply below_drew1) | exact HB.out)⟩⟩
                            · rw [if_neg c24] at H
                              exact absurd H (by simp)
                      · rw [if_neg c20] at H
                        exact absurd H (by simp)
                  · rw [if_neg c18] at H
                    have c18b0 : (t172 == (wrap64 (1 + (Int.tmod (wrap64 ((wrap64 ((rd t158 1) * 10000)) + (rd t158 2))) 32768)))) = false := beq_eq_false_iff_ne.mpr c18
                    have c18b1 : (t172 != (wrap64 (1 + (Int.tmod (wrap64 ((wrap64 ((rd t158 1) * 10000)) + (rd t158 2))) 32768)))) = true := bne_iff_ne.mpr c18
                    have H' := Aside0.mk H
                    clear H
                    go_wp2
                    repeat (go_quiet (fail); try go_wp2)
                    go_meet
                    case rel => exact ⟨_, (true), (by first | rfl | (simp; done) | (simp [*]; done)), H', ⟨by first | omega | exact Nat.le_refl _⟩, ⟨by repeat (first | (with_reducible first | exact HB.out | apply below_alloc | apply pw_below_drewN | apply below_drew1) | exact HB.out)⟩⟩
                · rw [if_neg c17] at H
                  have c17b0 : (t167 == (wrap64 (3 + (Int.tmod (rd t158 0) 256)))) = false := beq_eq_false_iff_ne.mpr c17
                  have c17b1 : (t167 != (wrap64 (3 + (Int.tmod (rd t158 0) 256)))) = true := bne_iff_ne.mpr c17
                  (first | rw [c17b0] | (simp only [i64_w, i32_w]; rw [c17b0]) | skip)
                  have H' := Aside0.mk H
                  clear H
                  go_wp2
                  repeat (go_quiet (fail); try go_wp2)
                  go_meet
                  case rel => exact ⟨_, (true), (by first | rfl | (simp; done) | (simp [*]; done)), H', ⟨by first | omega | exact Nat.le_refl _⟩, ⟨by repeat (first | (with_reducible first | exact HB.out | apply below_alloc | apply pw_below_drewN | apply below_drew1) | exact HB.out)⟩⟩
              · replace c16 := Bool.eq_false_iff.mpr c16
                subst c16
                have H1 : (laws_FnLengths.j0 k (wrap64 (3 + (Int.tmod (rd t158 0) 256))) (wrap64 (1 + (Int.tmod (wrap64 ((wrap64 ((rd t158 1) * 10000)) + (rd t158 2))) 32768))) t164 t169 true) = some r := by rw [if_neg (show ¬ (false = true) by decide)] at H; exact H
                clear H
                have H := H1
                clear H1
                have H' := Aside0.mk H
                clear H
                go_wp2
                repeat (go_quiet (fail); try go_wp2)
                go_meet
                case rel => exact ⟨_, (true), (by first | rfl | (simp; done) | (simp [*]; done)), H', ⟨by first | omega | exact Nat.le_refl _⟩, ⟨by repeat (first | (with_reducible first | exact HB.out | apply below_alloc | apply pw_below_drewN | apply below_drew1) | exact HB.out)⟩⟩
            · replace c15 := Bool.eq_false_iff.mpr c15
              subst c15
              have H1 : (laws_FnLengths.j0 k (wrap64 (3 + (Int.tmod (rd t158 0) 256))) (wrap64 (1 + (Int.tmod (wrap64 ((wrap64 ((rd t158 1) * 10000)) + (rd t158 2))) 32768))) t164 t169 true) = some r := by rw [if_neg (show ¬ (false = true) by decide)] at H; exact H
              clear H
              have H := H1
              clear H1
              have H' := Aside0.mk H
              clear H
              go_wp2
              repeat (go_quiet (fail); try go_wp2)
              go_meet
              case rel => exact ⟨_, (true), (by first | rfl | (simp; done) | (simp [*]; done)), H', ⟨by first | omega | exact Nat.le_refl _⟩, ⟨by repeat (first | (with_reducible first | exact HB.out | apply below_alloc | apply pw_below_drewN | apply below_drew1) | exact HB.out)⟩⟩
          case rest =>
            clear HC12
            try clear c1
            try clear p1
            try clear q1
            try clear hx1
            try clear qi1
            try clear c2
            try clear p2
            try clear c3
            try clear c5
            try clear c5b0
            try clear c5b1
            try clear c6
            try clear c6b0
            try clear c6b1
            try clear p6
            try clear c7
            try clear c7b0
            try clear c7b1
            try clear c13
            try clear c15
            try clear c16
            try clear p16
            try clear q16
            try clear hx16
            try clear qi16
            try clear c17
            try clear c17b0
            try clear c17b1
            try clear c18
            try clear c18b0
            try clear c18b1
            try clear c19
            try clear c19b0
            try clear c20
            try clear c20b0
            try clear c20b1
            try clear c22
            try clear c22b0
            try clear c23
            try clear c23b0
            try clear c24
            try clear c24b0
            try clear c24b1
            try clear hx161_0
            try clear hx162_0
            try clear hx163_0
            try clear p161
            try clear p162
            try clear p163
            try clear q161
            try clear q162
            try clear q163
            obtain ⟨kq, x100_11, rfl, HA, HJ11, HB⟩ := hcut
            cases kq with
            | zero => exact absurd HA.out (by simp [laws_FnLengths.j0])
            | succ kj11 =>
              have H := HA.out
              clear HA
              simp only [laws_FnLengths.j0] at H
              by_cases c26 : x100_11 = true
              · subst c26
                have H1 : (some false) = some r := by rw [if_pos rfl] at H; exact H
                clear H
                have H := H1
                clear H1
                obtain rfl := Option.some.inj H
                go_wp2
                repeat (go_quiet (fail); try go_wp2)
                go_ret
                exact ⟨by first | rfl | (simp [errW_none, errW_some] <;> rfl) | (simp [*, errW_none, errW_some] <;> rfl), by repeat (first | (with_reducible first | exact HB.out | apply below_alloc | apply pw_below_drewN | apply below_drew1) | exact HB.out)⟩
              · replace c26 := Bool.eq_false_iff.mpr c26
                subst c26
                have H1 : ((impl_LengthCode.f kj11 (wrap64 ((wrap64 (3 + (Int.tmod (rd t158 0) 256))) + 1))).bind fun bt174 => ((impl_DistCode.f kj11 (wrap64 ((wrap64 (1 + (Int.tmod (wrap64 ((wrap64 ((rd t158 1) * 10000)) + (rd t158 2))) 32768))) + 1))).bind fun bt177 => (if (wrap64 (3 + (Int.tmod (rd t158 0) 256))) = 258 then (if (wrap64 (1 + (Int.tmod (wrap64 ((wrap64 ((rd t158 1) * 10000)) + (rd t158 2))) 32768))) = 32768 then (some true) else (if bt177.1 = t169 then (some true) else (some (bt177.1 == (wrap64 (t169 + 1)))))) else (if bt174.1 = t164 then (if (wrap64 (1 + (Int.tmod (wrap64 ((wrap64 ((rd t158 1) * 10000)) + (rd t158 2))) 32768))) = 32768 then (some true) else (if bt177.1 = t169 then (some true) else (some (bt177.1 == (wrap64 (t169 + 1)))))) else (if bt174.1 = (wrap64 (t164 + 1)) then (if (wrap64 (1 + (Int.tmod (wrap64 ((wrap64 ((rd t158 1) * 10000)) + (rd t158 2))) 32768))) = 32768 then (some true) else (if bt177.1 = t169 then (some true) else (some (bt177.1 == (wrap64 (t169 + 1)))))) else (some false)))))) = some r := by rw [if_neg (show ¬ (false = true) by decide)] at H; exact H
                clear H
                have H := H1
                clear H1
                replace H := Option.bind_eq_some_iff.mp H
                obtain ⟨⟨t174, t175, t176⟩, A270, H⟩ := H
                replace H : ((impl_DistCode.f kj11 (wrap64 ((wrap64 (1 + (Int.tmod (wrap64 ((wrap64 ((rd t158 1) * 10000)) + (rd t158 2))) 32768))) + 1))).bind fun bt177 => (if (wrap64 (3 + (Int.tmod (rd t158 0) 256))) = 258 then (if (wrap64 (1 + (Int.tmod (wrap64 ((wrap64 ((rd t158 1) * 10000)) + (rd t158 2))) 32768))) = 32768 then (some true) else (if bt177.1 = t169 then (some true) else (some (bt177.1 == (wrap64 (t169 + 1)))))) else (if t174 = t164 then (if (wrap64 (1 + (Int.tmod (wrap64 ((wrap64 ((rd t158 1) * 10000)) + (rd t158 2))) 32768))) = 32768 then (some true) else (if bt177.1 = t169 then (some true) else (some (bt177.1 == (wrap64 (t169 + 1)))))) else (if t174 = (wrap64 (t164 + 1)) then (if (wrap64 (1 + (Int.tmod (wrap64 ((wrap64 ((rd t158 1) * 10000)) + (rd t158 2))) 32768))) = 32768 then (some true) else (if bt177.1 = t169 then (some true) else (some (bt177.1 == (wrap64 (t169 + 1)))))) else (some false))))) = some r := H
                have A27 := Aside0.mk A270
                clear A270
                replace H := Option.bind_eq_some_iff.mp H
                obtain ⟨⟨t177, t178, t179⟩, A280, H⟩ := H
                replace H : (if (wrap64 (3 + (Int.tmod (rd t158 0) 256))) = 258 then (if (wrap64 (1 + (Int.tmod (wrap64 ((wrap64 ((rd t158 1) * 10000)) + (rd t158 2))) 32768))) = 32768 then (some true) else (if t177 = t169 then (some true) else (some (t177 == (wrap64 (t169 + 1)))))) else (if t174 = t164 then (if (wrap64 (1 + (Int.tmod (wrap64 ((wrap64 ((rd t158 1) * 10000)) + (rd t158 2))) 32768))) = 32768 then (some true) else (if t177 = t169 then (some true) else (some (t177 == (wrap64 (t169 + 1)))))) else (if t174 = (wrap64 (t164 + 1)) then (if (wrap64 (1 + (Int.tmod (wrap64 ((wrap64 ((rd t158 1) * 10000)) + (rd t158 2))) 32768))) = 32768 then (some true) else (if t177 = t169 then (some true) else (some (t177 == (wrap64 (t169 + 1)))))) else (some false)))) = some r := H
                have A28 := Aside0.mk A280
                clear A280
                by_cases c29 : (wrap64 (3 + (Int.tmod (rd t158 0) 256))) = 258
                · rw [if_pos c29] at H
                  have c29b0 : ((wrap64 (3 + (Int.tmod (rd t158 0) 256))) == 258) = true := beq_iff_eq.mpr c29
                  have c29b1 : ((wrap64 (3 + (Int.tmod (rd t158 0) 256))) != 258) = false := bne_eq_false_iff_eq.mpr c29
                  clear c29
                  by_cases c30 : (wrap64 (1 + (Int.tmod (wrap64 ((wrap64 ((rd t158 1) * 10000)) + (rd t158 2))) 32768))) = 32768
                  · rw [if_pos c30] at H
                    have c30b0 : ((wrap64 (1 + (Int.tmod (wrap64 ((wrap64 ((rd t158 1) * 10000)) + (rd t158 2))) 32768))) == 32768) = true := beq_iff_eq.mpr c30
                    have c30b1 : ((wrap64 (1 + (Int.tmod (wrap64 ((wrap64 ((rd t158 1) * 10000)) + (rd t158 2))) 32768))) != 32768) = false := bne_eq_false_iff_eq.mpr c30
                    clear c30
                    obtain rfl := Option.some.inj H
                    go_wp2_with (first | (go_at_call 29; (with_reducible refine (impl_LengthCode.calls kj11 (wrap64 ((wrap64 (3 + (Int.tmod (rd t158 0) 256))) + 1)) t174 t175 t176 _ A27.out).mono ?_); rintro e w' ⟨rfl, ⟨nd, rfl⟩⟩; (try first | exact ⟨rfl, _, World.drewN_drewN _ _ _⟩ | exact ⟨rfl, _, Eq.trans (World.drewN_drewN _ _ _) (congrArg (World.drewN _) (Nat.add_assoc _ _ _))⟩)) | (go_at_call 25; (with_reducible refine (impl_DistCode.calls kj11 (wrap64 ((wrap64 (1 + (Int.tmod (wrap64 ((wrap64 ((rd t158 1) * 10000)) + (rd t158 2))) 32768))) + 1)) t177 t178 t179 _ A28.out).mono ?_); rintro e w' ⟨rfl, ⟨nd, rfl⟩⟩; (try first | exact ⟨rfl, _, World.drewN_drewN _ _ _⟩ | exact ⟨rfl, _, Eq.trans (World.drewN_drewN _ _ _) (congrArg (World.drewN _) (Nat.add_assoc _ _ _))⟩)))
                    repeat (go_quiet (first | (go_at_call 29; (with_reducible refine (impl_LengthCode.calls kj11 (wrap64 ((wrap64 (3 + (Int.tmod (rd t158 0) 256))) + 1)) t174 t175 t176 _ A27.out).mono ?_); rintro e w' ⟨rfl, ⟨nd, rfl⟩⟩; (try first | exact ⟨rfl, _, World.drewN_drewN _ _ _⟩ | exact ⟨rfl, _, Eq.trans (World.drewN_drewN _ _ _) (congrArg (World.drewN _) (Nat.add_assoc _ _ _))⟩)) | (go_at_call 25; (with_reducible refine (impl_DistCode.calls kj11 (wrap64 ((wrap64 (1 + (Int.tmod (wrap64 ((wrap64 ((rd t158 1) * 10000)) + (rd t158 2))) 32768))) + 1)) t177 t178 t179 _ A28.out).mono ?_); rintro e w' ⟨rfl, ⟨nd, rfl⟩⟩; (try first | exact ⟨rfl, _, World.drewN_drewN _ _ _⟩ | exact ⟨rfl, _, Eq.trans (World.drewN_drewN _ _ _) (congrArg (World.drewN _) (Nat.add_assoc _ _ _))⟩))); try go_wp2_with (first | (go_at_call 29; (with_reducible refine (impl_LengthCode.calls kj11 (wrap64 ((wrap64 (3 + (Int.tmod (rd t158 0) 256))) + 1)) t174 t175 t176 _ A27.out).mono ?_); rintro e w' ⟨rfl, ⟨nd, rfl⟩⟩; (try first | exact ⟨rfl, _, World.drewN_drewN _ _ _⟩ | exact ⟨rfl, _, Eq.trans (World.drewN_drewN _ _ _) (congrArg (World.drewN _) (Nat.add_assoc _ _ _))⟩)) | (go_at_call 25; (with_reducible refine (impl_DistCode.calls kj11 (wrap64 ((wrap64 (1 + (Int.tmod (wrap64 ((wrap64 ((rd t158 1) * 10000)) + (rd t158 2))) 32768))) + 1)) t177 t178 t179 _ A28.out).mono ?_); rintro e w' ⟨rfl, ⟨nd, rfl⟩⟩; (try first | exact ⟨rfl, _, World.drewN_drewN _ _ _⟩ | exact ⟨rfl, _, Eq.trans (World.drewN_drewN _ _ _) (congrArg (World.drewN _) (Nat.add_assoc _ _ _))⟩))))
                    go_ret
                    exact ⟨by first | rfl | (simp [errW_none, errW_some] <;> rfl) | (simp [*, errW_none, errW_some] <;> rfl), by repeat (first | (with_reducible first | exact HB.out | apply below_alloc | apply pw_below_drewN | apply below_drew1) | exact HB.out)⟩
                  · rw [if_neg c30] at H
                    have c30b0 : ((wrap64 (1 + (Int.tmod (wrap64 ((wrap64 ((rd t158 1) * 10000)) + (rd t158 2))) 32768))) == 32768) = false := beq_eq_false_iff_ne.mpr c30
                    have c30b1 : ((wrap64 (1 + (Int.tmod (wrap64 ((wrap64 ((rd t158 1) * 10000)) + (rd t158 2))) 32768))) != 32768) = true := bne_iff_ne.mpr c30
                    by_cases c31 : t177 = t169
                    · rw [if_pos c31] at H
                      have c31b0 : (t177 == t169) = true := beq_iff_eq.mpr c31
                      have c31b1 : (t177 != t169) = false := bne_eq_false_iff_eq.mpr c31
                      clear c31
                      obtain rfl := Option.some.inj H
                      go_wp2_with (first | (go_at_call 29; (with_reducible refine (impl_LengthCode.calls kj11 (wrap64 ((wrap64 (3 + (Int.tmod (rd t158 0) 256))) + 1)) t174 t175 t176 _ A27.out).mono ?_); rintro e w' ⟨rfl, ⟨nd, rfl⟩⟩; (try first | exact ⟨rfl, _, World.drewN_drewN _ _ _⟩ | exact ⟨rfl, _, Eq.trans (World.drewN_drewN _ _ _) (congrArg (World.drewN _) (Nat.add_assoc _ _ _))⟩)) | (go_at_call 25; (with_reducible refine (impl_DistCode.calls kj11 (wrap64 ((wrap64 (1 + (Int.tmod (wrap64 ((wrap64 ((rd t158 1) * 10000)) + (rd t158 2))) 32768))) + 1)) t177 t178 t179 _ A28.out).mono ?_); rintro e w' ⟨rfl, ⟨nd, rfl⟩⟩; (try first | exact ⟨rfl, _, World.drewN_drewN _ _ _⟩ | exact ⟨rfl, _, Eq.trans (World.drewN_drewN _ _ _) (congrArg (World.drewN _) (Nat.add_assoc _ _ _))⟩)))
                      repeat (go_quiet (first | (go_at_call 29; (with_reducible refine (impl_LengthCode.calls kj11 (wrap64 ((wrap64 (3 + (Int.tmod (rd t158 0) 256))) + 1)) t174 t175 t176 _ A27.out).mono ?_); rintro e w' ⟨rfl, ⟨nd, rfl⟩⟩; (try first | exact ⟨rfl, _, World.drewN_drewN _ _ _⟩ | exact ⟨rfl, _, Eq.trans (World.drewN_drewN _ _ _) (congrArg (World.drewN _) (Nat.add_assoc _ _ _))⟩)) | (go_at_call 25; (with_reducible refine (impl_DistCode.calls kj11 (wrap64 ((wrap64 (1 + (Int.tmod (wrap64 ((wrap64 ((rd t158 1) * 10000)) + (rd t158 2))) 32768))) + 1)) t177 t178 t179 _ A28.out).mono ?_); rintro e w' ⟨rfl, ⟨nd, rfl⟩⟩; (try first | exact ⟨rfl, _, World.drewN_drewN _ _ _⟩ | exact ⟨rfl, _, Eq.trans (World.drewN_drewN _ _ _) (congrArg (World.drewN _) (Nat.add_assoc _ _ _))⟩))); try go_wp2_with (first | (go_at_call 29; (with_reducible refine (impl_LengthCode.calls kj11 (wrap64 ((wrap64 (3 + (Int.tmod (rd t158 0) 256))) + 1)) t174 t175 t176 _ A27.out).mono ?_); rintro e w' ⟨rfl, ⟨nd, rfl⟩⟩; (try first | exact ⟨rfl, _, World.drewN_drewN _ _ _⟩ | exact ⟨rfl, _, Eq.trans (World.drewN_drewN _ _ _) (congrArg (World.drewN _) (Nat.add_assoc _ _ _))⟩)) | (go_at_call 25; (with_reducible refine (impl_DistCode.calls kj11 (wrap64 ((wrap64 (1 + (Int.tmod (wrap64 ((wrap64 ((rd t158 1) * 10000)) + (rd t158 2))) 32768))) + 1)) t177 t178 t179 _ A28.out).mono ?_); rintro e w' ⟨rfl, ⟨nd, rfl⟩⟩; (try first | exact ⟨rfl, _, World.drewN_drewN _ _ _⟩ | exact ⟨rfl, _, Eq.trans (World.drewN_drewN _ _ _) (congrArg (World.drewN _) (Nat.add_assoc _ _ _))⟩))))
                      go_ret
                      exact ⟨by first | rfl | (simp [errW_none, errW_some] <;> rfl) | (simp [*, errW_none, errW_some] <;> rfl), by repeat (first | (with_reducible first | exact HB.out | apply below_alloc | apply pw_below_drewN | apply below_drew1) | exact HB.out)⟩
                    · rw [if_neg c31] at H
                      have c31b0 : (t177 == t169) = false := beq_eq_false_iff_ne.mpr c31
                      have c31b1 : (t177 != t169) = true := bne_iff_ne.mpr c31
                      obtain rfl := Option.some.inj H
                      go_wp2_with (first | (go_at_call 29; (with_reducible refine (impl_LengthCode.calls kj11 (wrap64 ((wrap64 (3 + (Int.tmod (rd t158 0) 256))) + 1)) t174 t175 t176 _ A27.out).mono ?_); rintro e w' ⟨rfl, ⟨nd, rfl⟩⟩; (try first | exact ⟨rfl, _, World.drewN_drewN _ _ _⟩ | exact ⟨rfl, _, Eq.trans (World.drewN_drewN _ _ _) (congrArg (World.drewN _) (Nat.add_assoc _ _ _))⟩)) | (go_at_call 25; (with_reducible refine (impl_DistCode.calls kj11 (wrap64 ((wrap64 (1 + (Int.tmod (wrap64 ((wrap64 ((rd t158 1) * 10000)) + (rd t158 2))) 32768))) + 1)) t177 t178 t179 _ A28.out).mono ?_); rintro e w' ⟨rfl, ⟨nd, rfl⟩⟩; (try first | exact ⟨rfl, _, World.drewN_drewN _ _ _⟩ | exact ⟨rfl, _, Eq.trans (World.drewN_drewN _ _ _) (congrArg (World.drewN _) (Nat.add_assoc _ _ _))⟩)))
                      repeat (go_quiet (first | (go_at_call 29; (with_reducible refine (impl_LengthCode.calls kj11 (wrap64 ((wrap64 (3 + (Int.tmod (rd t158 0) 256))) + 1)) t174 t175 t176 _ A27.out).mono ?_); rintro e w' ⟨rfl, ⟨nd, rfl⟩⟩; (try first | exact ⟨rfl, _, World.drewN_drewN _ _ _⟩ | exact ⟨rfl, _, Eq.trans (World.drewN_drewN _ _ _) (congrArg (World.drewN _) (Nat.add_assoc _ _ _))⟩)) | (go_at_call 25; (with_reducible refine (impl_DistCode.calls kj11 (wrap64 ((wrap64 (1 + (Int.tmod (wrap64 ((wrap64 ((rd t158 1) * 10000)) + (rd t158 2))) 32768))) + 1)) t177 t178 t179 _ A28.out).mono ?_); rintro e w' ⟨rfl, ⟨nd, rfl⟩⟩; (try first | exact ⟨rfl, _, World.drewN_drewN _ _ _⟩ | exact ⟨rfl, _, Eq.trans (World.drewN_drewN _ _ _) (congrArg (World.drewN _) (Nat.add_assoc _ _ _))⟩))); try go_wp2_with (first | (go_at_call 29; (with_reducible refine (impl_LengthCode.calls kj11 (wrap64 ((wrap64 (3 + (Int.tmod (rd t158 0) 256))) + 1)) t174 t175 t176 _ A27.out).mono ?_); rintro e w' ⟨rfl, ⟨nd, rfl⟩⟩; (try first | exact ⟨rfl, _, World.drewN_drewN _ _ _⟩ | exact ⟨rfl, _, Eq.trans (World.drewN_drewN _ _ _) (congrArg (World.drewN _) (Nat.add_assoc _ _ _))⟩)) | (go_at_call 25; (with_reducible refine (impl_DistCode.calls kj11 (wrap64 ((wrap64 (1 + (Int.tmod (wrap64 ((wrap64 ((rd t158 1) * 10000)) + (rd t158 2))) 32768))) + 1)) t177 t178 t179 _ A28.out).mono ?_); rintro e w' ⟨rfl, ⟨nd, rfl⟩⟩; (try first | exact ⟨rfl, _, World.drewN_drewN _ _ _⟩ | exact ⟨rfl, _, Eq.trans (World.drewN_drewN _ _ _) (congrArg (World.drewN _) (Nat.add_assoc _ _ _))⟩))))
                      go_ret
                      exact ⟨by first | rfl | (simp [errW_none, errW_some] <;> rfl) | (simp [*, errW_none, errW_some] <;> rfl), by repeat (first | (with_reducible first | exact HB.out | apply below_alloc | apply pw_below_drewN | apply below_drew1) | exact HB.out)⟩
                · rw [if_neg c29] at H
                  have c29b0 : ((wrap64 (3 + (Int.tmod (rd t158 0) 256))) == 258) = false := beq_eq_false_iff_ne.mpr c29
                  have c29b1 : ((wrap64 (3 + (Int.tmod (rd t158 0) 256))) != 258) = true := bne_iff_ne.mpr c29
                  by_cases c32 : t174 = t164
                  · rw [if_pos c32] at H
                    have c32b0 : (t174 == t164) = true := beq_iff_eq.mpr c32
                    have c32b1 : (t174 != t164) = false := bne_eq_false_iff_eq.mpr c32
                    clear c32
                    by_cases c33 : (wrap64 (1 + (Int.tmod (wrap64 ((wrap64 ((rd t158 1) * 10000)) + (rd t158 2))) 32768))) = 32768
                    · rw [if_pos c33] at H
                      have c33b0 : ((wrap64 (1 + (Int.tmod (wrap64 ((wrap64 ((rd t158 1) * 10000)) + (rd t158 2))) 32768))) == 32768) = true := beq_iff_eq.mpr c33
                      have c33b1 : ((wrap64 (1 + (Int.tmod (wrap64 ((wrap64 ((rd t158 1) * 10000)) + (rd t158 2))) 32768))) != 32768) = false := bne_eq_false_iff_eq.mpr c33
                      clear c33
                      obtain rfl := Option.some.inj H
                      go_wp2_with (first | (go_at_call 29; (with_reducible refine (impl_LengthCode.calls kj11 (wrap64 ((wrap64 (3 + (Int.tmod (rd t158 0) 256))) + 1)) t174 t175 t176 _ A27.out).mono ?_); rintro e w' ⟨rfl, ⟨nd, rfl⟩⟩; (try first | exact ⟨rfl, _, World.drewN_drewN _ _ _⟩ | exact ⟨rfl, _, Eq.trans (World.drewN_drewN _ _ _) (congrArg (World.drewN _) (Nat.add_assoc _ _ _))⟩)) | (go_at_call 25; (with_reducible refine (impl_DistCode.calls kj11 (wrap64 ((wrap64 (1 + (Int.tmod (wrap64 ((wrap64 ((rd t158 1) * 10000)) + (rd t158 2))) 32768))) + 1)) t177 t178 t179 _ A28.out).mono ?_); rintro e w' ⟨rfl, ⟨nd, rfl⟩⟩; (try first | exact ⟨rfl, _, World.drewN_drewN _ _ _⟩ | exact ⟨rfl, _, Eq.trans (World.drewN_drewN _ _ _) (congrArg (World.drewN _) (Nat.add_assoc _ _ _))⟩)))
                      repeat (go_quiet (first | (go_at_call 29; (with_reducible refine (impl_LengthCode.calls kj11 (wrap64 ((wrap64 (3 + (Int.tmod (rd t158 0) 256))) + 1)) t174 t175 t176 _ A27.out).mono ?_); rintro e w' ⟨rfl, ⟨nd, rfl⟩⟩; (try first | exact ⟨rfl, _, World.drewN_drewN _ _ _⟩ | exact ⟨rfl, _, Eq.trans (World.drewN_drewN _ _ _) (congrArg (World.drewN _) (Nat.add_assoc _ _ _))⟩)) | (go_at_call 25; (with_reducible refine (impl_DistCode.calls kj11 (wrap64 ((wrap64 (1 + (Int.tmod (wrap64 ((wrap64 ((rd t158 1) * 10000)) + (rd t158 2))) 32768))) + 1)) t177 t178 t179 _ A28.out).mono ?_); rintro e w' ⟨rfl, ⟨nd, rfl⟩⟩; (try first | exact ⟨rfl, _, World.drewN_drewN _ _ _⟩ | exact ⟨rfl, _, Eq.trans (World.drewN_drewN _ _ _) (congrArg (World.drewN _) (Nat.add_assoc _ _ _))⟩))); try go_wp2_with (first | (go_at_call 29; (with_reducible refine (impl_LengthCode.calls kj11 (wrap64 ((wrap64 (3 + (Int.tmod (rd t158 0) 256))) + 1)) t174 t175 t176 _ A27.out).mono ?_); rintro e w' ⟨rfl, ⟨nd, rfl⟩⟩; (try first | exact ⟨rfl, _, World.drewN_drewN _ _ _⟩ | exact ⟨rfl, _, Eq.trans (World.drewN_drewN _ _ _) (congrArg (World.drewN _) (Nat.add_assoc _ _ _))⟩)) | (go_at_call 25; (with_reducible refine (impl_DistCode.calls kj11 (wrap64 ((wrap64 (1 + (Int.tmod (wrap64 ((wrap64 ((rd t158 1) * 10000)) + (rd t158 2))) 32768))) + 1)) t177 t178 t179 _ A28.out).mono ?_); rintro e w' ⟨rfl, ⟨nd, rfl⟩⟩; (try first | exact ⟨rfl, _, World.drewN_drewN _ _ _⟩ | exact ⟨rfl, _, Eq.trans (World.drewN_drewN _ _ _) (congrArg (World.drewN _) (Nat.add_assoc _ _ _))⟩))))
                      go_ret
                      exact ⟨by first | rfl | (simp [errW_none, errW_some] <;> rfl) | (simp [*, errW_none, errW_some] <;> rfl), by repeat (first | (with_reducible first | exact HB.out | apply below_alloc | apply pw_below_drewN | apply below_drew1) | exact HB.out)⟩
                    · rw [if_neg c33] at H
                      have c33b0 : ((wrap64 (1 + (Int.tmod (wrap64 ((wrap64 ((rd t158 1) * 10000)) + (rd t158 2))) 32768))) == 32768) = false := beq_eq_false_iff_ne.mpr c33
                      have c33b1 : ((wrap64 (1 + (Int.tmod (wrap64 ((wrap64 ((rd t158 1) * 10000)) + (rd t158 2))) 32768))) != 32768) = true := bne_iff_ne.mpr c33
                      by_cases c34 : t177 = t169
                      · rw [if_pos c34] at H
                        have c34b0 : (t177 == t169) = true := beq_iff_eq.mpr c34
                        have c34b1 : (t177 != t169) = false := bne_eq_false_iff_eq.mpr c34
                        clear c34
                        obtain rfl := Option.some.inj H
                        go_wp2_with (first | (go_at_call 29; (with_reducible refine (impl_LengthCode.calls kj11 (wrap64 ((wrap64 (3 + (Int.tmod (rd t158 0) 256))) + 1)) t174 t175 t176 _ A27.out).mono ?_); rintro e w' ⟨rfl, ⟨nd, rfl⟩⟩; (try first | exact ⟨rfl, _, World.drewN_drewN _ _ _⟩ | exact ⟨rfl, _, Eq.trans (World.drewN_drewN _ _ _) (congrArg (World.drewN _) (Nat.add_assoc _ _ _))⟩)) | (go_at_call 25; (with_reducible refine (impl_DistCode.calls kj11 (wrap64 ((wrap64 (1 + (Int.tmod (wrap64 ((wrap64 ((rd t158 1) * 10000)) + (rd t158 2))) 32768))) + 1)) t177 t178 t179 _ A28.out).mono ?_); rintro e w' ⟨rfl, ⟨nd, rfl⟩⟩; (try first | exact ⟨rfl, _, World.drewN_drewN _ _ _⟩ | exact ⟨rfl, _, Eq.trans (World.drewN_drewN _ _ _) (congrArg (World.drewN _) (Nat.add_assoc _ _ _))⟩)))
                        repeat (go_quiet (first | (go_at_call 29; (with_reducible refine (impl_LengthCode.calls kj11 (wrap64 ((wrap64 (3 + (Int.tmod (rd t158 0) 256))) + 1)) t174 t175 t176 _ A27.out).mono ?_); rintro e w' ⟨rfl, ⟨nd, rfl⟩⟩; (try first | exact ⟨rfl, _, World.drewN_drewN _ _ _⟩ | exact ⟨rfl, _, Eq.trans (World.drewN_drewN _ _ _) (congrArg (World.drewN _) (Nat.add_assoc _ _ _))⟩)) | (go_at_call 25; (with_reducible refine (impl_DistCode.calls kj11 (wrap64 ((wrap64 (1 + (Int.tmod (wrap64 ((wrap64 ((rd t158 1) * 10000)) + (rd t158 2))) 32768))) + 1)) t177 t178 t179 _ A28.out).mono ?_); rintro e w' ⟨rfl, ⟨nd, rfl⟩⟩; (try first | exact ⟨rfl, _, World.drewN_drewN _ _ _⟩ | exact ⟨rfl, _, Eq.trans (World.drewN_drewN _ _ _) (congrArg (World.drewN _) (Nat.add_assoc _ _ _))⟩))); try go_wp2_with (first | (go_at_call 29; (with_reducible refine (impl_LengthCode.calls kj11 (wrap64 ((wrap64 (3 + (Int.tmod (rd t158 0) 256))) + 1)) t174 t175 t176 _ A27.out).mono ?_); rintro e w' ⟨rfl, ⟨nd, rfl⟩⟩; (try first | exact ⟨rfl, _, World.drewN_drewN _ _ _⟩ | exact ⟨rfl, _, Eq.trans (World.drewN_drewN _ _ _) (congrArg (World.drewN _) (Nat.add_assoc _ _ _))⟩)) | (go_at_call 25; (with_reducible refine (impl_DistCode.calls kj11 (wrap64 ((wrap64 (1 + (Int.tmod (wrap64 ((wrap64 ((rd t158 1) * 10000)) + (rd t158 2))) 32768))) + 1)) t177 t178 t179 _ A28.out).mono ?_); rintro e w' ⟨rfl, ⟨nd, rfl⟩⟩; (try first | exact ⟨rfl, _, World.drewN_drewN _ _ _⟩ | exact ⟨rfl, _, Eq.trans (World.drewN_drewN _ _ _) (congrArg (World.drewN _) (Nat.add_assoc _ _ _))⟩))))
                        go_ret
                        exact ⟨by first | rfl | (simp [errW_none, errW_some] <;> rfl) | (simp [*, errW_none, errW_some] <;> rfl), by repeat (first | (with_reducible first | exact HB.out | apply below_alloc | apply pw_below_drewN | apply below_drew1) | exact HB.out)⟩
                      · rw [if_neg c34] at H
                        have c34b0 : (t177 == t169) = false := beq_eq_false_iff_ne.mpr c34
                        have c34b1 : (t177 != t169) = true := bne_iff_ne.mpr c34
                        obtain rfl := Option.some.inj H
                        go_wp2_with (first | (go_at_call 29; (with_reducible refine (impl_LengthCode.calls kj11 (wrap64 ((wrap64 (3 + (Int.tmod (rd t158 0) 256))) + 1)) t174 t175 t176 _ A27.out).mono ?_); rintro e w' ⟨rfl, ⟨nd, rfl⟩⟩; (try first | exact ⟨rfl, _, World.drewN_drewN _ _ _⟩ | exact ⟨rfl, _, Eq.trans (World.drewN_drewN _ _ _) (congrArg (World.drewN _) (Nat.add_assoc _ _ _))⟩)) | (go_at_call 25; (with_reducible refine (impl_DistCode.calls kj11 (wrap64 ((wrap64 (1 + (Int.tmod (wrap64 ((wrap64 ((rd t158 1) * 10000)) + (rd t158 2))) 32768))) + 1)) t177 t178 t179 _ A28.out).mono ?_); rintro e w' ⟨rfl, ⟨nd, rfl⟩⟩; (try first | exact ⟨rfl, _, World.drewN_drewN _ _ _⟩ | exact ⟨rfl, _, Eq.trans (World.drewN_drewN _ _ _) (congrArg (World.drewN _) (Nat.add_assoc _ _ _))⟩)))
                        repeat (go_quiet (first | (go_at_call 29; (with_reducible refine (impl_LengthCode.calls kj11 (wrap64 ((wrap64 (3 + (Int.tmod (rd t158 0) 256))) + 1)) t174 t175 t176 _ A27.out).mono ?_); rintro e w' ⟨rfl, ⟨nd, rfl⟩⟩; (try first | exact ⟨rfl, _, World.drewN_drewN _ _ _⟩ | exact ⟨rfl, _, Eq.trans (World.drewN_drewN _ _ _) (congrArg (World.drewN _) (Nat.add_assoc _ _ _))⟩)) | (go_at_call 25; (with_reducible refine (impl_DistCode.calls kj11 (wrap64 ((wrap64 (1 + (Int.tmod (wrap64 ((wrap64 ((rd t158 1) * 10000)) + (rd t158 2))) 32768))) + 1)) t177 t178 t179 _ A28.out).mono ?_); rintro e w' ⟨rfl, ⟨nd, rfl⟩⟩; (try first | exact ⟨rfl, _, World.drewN_drewN _ _ _⟩ | exact ⟨rfl, _, Eq.trans (World.drewN_drewN _ _ _) (congrArg (World.drewN _) (Nat.add_assoc _ _ _))⟩))); try go_wp2_with (first | (go_at_call 29; (with_reducible refine (impl_LengthCode.calls kj11 (wrap64 ((wrap64 (3 + (Int.tmod (rd t158 0) 256))) + 1)) t174 t175 t176 _ A27.out).mono ?_); rintro e w' ⟨rfl, ⟨nd, rfl⟩⟩; (try first | exact ⟨rfl, _, World.drewN_drewN _ _ _⟩ | exact ⟨rfl, _, Eq.trans (World.drewN_drewN _ _ _) (congrArg (World.drewN _) (Nat.add_assoc _ _ _))⟩)) | (go_at_call 25; (with_reducible refine (impl_DistCode.calls kj11 (wrap64 ((wrap64 (1 + (Int.tmod (wrap64 ((wrap64 ((rd t158 1) * 10000)) + (rd t158 2))) 32768))) + 1)) t177 t178 t179 _ A28.out).mono ?_); rintro e w' ⟨rfl, ⟨nd, rfl⟩⟩; (try first | exact ⟨rfl, _, World.drewN_drewN _ _ _⟩ | exact ⟨rfl, _, Eq.trans (World.drewN_drewN _ _ _) (congrArg (World.drewN _) (Nat.add_assoc _ _ _))⟩))))
                        go_ret
                        exact ⟨by first | rfl | (simp [errW_none, errW_some] <;> rfl) | (simp [*, errW_none, errW_some] <;> rfl), by repeat (first | (with_reducible first | exact HB.out | apply below_alloc | apply pw_below_drewN | apply below_drew1) | exact HB.out)⟩
                  · rw [if_neg c32] at H
                    have c32b0 : (t174 == t164) = false := beq_eq_false_iff_ne.mpr c32
                    have c32b1 : (t174 != t164) = true := bne_iff_ne.mpr c32
                    by_cases c35 : t174 = (wrap64 (t164 + 1))
                    · rw [if_pos c35] at H
                      have c35b0 : (t174 == (wrap64 (t164 + 1))) = true := beq_iff_eq.mpr c35
                      have c35b1 : (t174 != (wrap64 (t164 + 1))) = false := bne_eq_false_iff_eq.mpr c35
                      clear c35
                      by_cases c36 : (wrap64 (1 + (Int.tmod (wrap64 ((wrap64 ((rd t158 1) * 10000)) + (rd t158 2))) 32768))) = 32768
                      · rw [if_pos c36] at H
                        have c36b0 : ((wrap64 (1 + (Int.tmod (wrap64 ((wrap64 ((rd t158 1) * 10000)) + (rd t158 2))) 32768))) == 32768) = true := beq_iff_eq.mpr c36
                        have c36b1 : ((wrap64 (1 + (Int.tmod (wrap64 ((wrap64 ((rd t158 1) * 10000)) + (rd t158 2))) 32768))) != 32768) = false := bne_eq_false_iff_eq.mpr c36
                        clear c36
                        obtain rfl := Option.some.inj H
                        go_wp2_with (first | (go_at_call 29; (with_reducible refine (impl_LengthCode.calls kj11 (wrap64 ((wrap64 (3 + (Int.tmod (rd t158 0) 256))) + 1)) t174 t175 t176 _ A27.out).mono ?_); rintro e w' ⟨rfl, ⟨nd, rfl⟩⟩; (try first | exact ⟨rfl, _, World.drewN_drewN _ _ _⟩ | exact ⟨rfl, _, Eq.trans (World.drewN_drewN _ _ _) (congrArg (World.drewN _) (Nat.add_assoc _ _ _))⟩)) | (go_at_call 25; (with_reducible refine (impl_DistCode.calls kj11 (wrap64 ((wrap64 (1 + (Int.tmod (wrap64 ((wrap64 ((rd t158 1) * 10000)) + (rd t158 2))) 32768))) + 1)) t177 t178 t179 _ A28.out).mono ?_); rintro e w' ⟨rfl, ⟨nd, rfl⟩⟩; (try first | exact ⟨rfl, _, World.drewN_drewN _ _ _⟩ | exact ⟨rfl, _, Eq.trans (World.drewN_drewN _ _ _) (congrArg (World.drewN _) (Nat.add_assoc _ _ _))⟩)))
                        repeat (go_quiet (first | (go_at_call 29; (with_reducible refine (impl_LengthCode.calls kj11 (wrap64 ((wrap64 (3 + (Int.tmod (rd t158 0) 256))) + 1)) t174 t175 t176 _ A27.out).mono ?_); rintro e w' ⟨rfl, ⟨nd, rfl⟩⟩; (try first | exact ⟨rfl, _, World.drewN_drewN _ _ _⟩ | exact ⟨rfl, _, Eq.trans (World.drewN_drewN _ _ _) (congrArg (World.drewN _) (Nat.add_assoc _ _ _))⟩)) | (go_at_call 25; (with_reducible refine (impl_DistCode.calls kj11 (wrap64 ((wrap64 (1 + (Int.tmod (wrap64 ((wrap64 ((rd t158 1) * 10000)) + (rd t158 2))) 32768))) + 1)) t177 t178 t179 _ A28.out).mono ?_); rintro e w' ⟨rfl, ⟨nd, rfl⟩⟩; (try first | exact ⟨rfl, _, World.drewN_drewN _ _ _⟩ | exact ⟨rfl, _, Eq.trans (World.drewN_drewN _ _ _) (congrArg (World.drewN _) (Nat.add_assoc _ _ _))⟩))); try go_wp2_with (first | (go_at_call 29; (with_reducible refine (impl_LengthCode.calls kj11 (wrap64 ((wrap64 (3 + (Int.tmod (rd t158 0) 256))) + 1)) t174 t175 t176 _ A27.out).mono ?_); rintro e w' ⟨rfl, ⟨nd, rfl⟩⟩; (try first | exact ⟨rfl, _, World.drewN_drewN _ _ _⟩ | exact ⟨rfl, _, Eq.trans (World.drewN_drewN _ _ _) (congrArg (World.drewN _) (Nat.add_assoc _ _ _))⟩)) | (go_at_call 25; (with_reducible refine (impl_DistCode.calls kj11 (wrap64 ((wrap64 (1 + (Int.tmod (wrap64 ((wrap64 ((rd t158 1) * 10000)) + (rd t158 2))) 32768))) + 1)) t177 t178 t179 _ A28.out).mono ?_); rintro e w' ⟨rfl, ⟨nd, rfl⟩⟩; (try first | exact ⟨rfl, _, World.drewN_drewN _ _ _⟩ | exact ⟨rfl, _, Eq.trans (World.drewN_drewN _ _ _) (congrArg (World.drewN _) (Nat.add_assoc _ _ _))⟩))))
                        go_ret
                        exact ⟨by first | rfl | (simp [errW_none, errW_some] <;> rfl) | (simp [*, errW_none, errW_some] <;> rfl), by repeat (first | (with_reducible first | exact HB.out | apply below_alloc | apply pw_below_drewN | apply below_drew1) | exact HB.out)⟩
                      · rw [if_neg c36] at H
                        have c36b0 : ((wrap64 (1 + (Int.tmod (wrap64 ((wrap64 ((rd t158 1) * 10000)) + (rd t158 2))) 32768))) == 32768) = false := beq_eq_false_iff_ne.mpr c36
                        have c36b1 : ((wrap64 (1 + (Int.tmod (wrap64 ((wrap64 ((rd t158 1) * 10000)) + (rd t158 2))) 32768))) != 32768) = true := bne_iff_ne.mpr c36
                        by_cases c37 : t177 = t169
                        · rw [if_pos c37] at H
                          have c37b0 : (t177 == t169) = true := beq_iff_eq.mpr c37
                          have c37b1 : (t177 != t169) = false := bne_eq_false_iff_eq.mpr c37
                          clear c37
                          obtain rfl := Option.some.inj H
                          go_wp2_with (first | (go_at_call 29; (with_reducible refine (impl_LengthCode.calls kj11 (wrap64 ((wrap64 (3 + (Int.tmod (rd t158 0) 256))) + 1)) t174 t175 t176 _ A27.out).mono ?_); rintro e w' ⟨rfl, ⟨nd, rfl⟩⟩; (try first | exact ⟨rfl, _, World.drewN_drewN _ _ _⟩ | exact ⟨rfl, _, Eq.trans (World.drewN_drewN _ _ _) (congrArg (World.drewN _) (Nat.add_assoc _ _ _))⟩)) | (go_at_call 25; (with_reducible refine (impl_DistCode.calls kj11 (wrap64 ((wrap64 (1 + (Int.tmod (wrap64 ((wrap64 ((rd t158 1) * 10000)) + (rd t158 2))) 32768))) + 1)) t177 t178 t179 _ A28.out).mono ?_); rintro e w' ⟨rfl, ⟨nd, rfl⟩⟩; (try first | exact ⟨rfl, _, World.drewN_drewN _ _ _⟩ | exact ⟨rfl, _, Eq.trans (World.drewN_drewN _ _ _) (congrArg (World.drewN _) (Nat.add_assoc _ _ _))⟩)))
                          repeat (go_quiet (first | (go_at_call 29; (with_reducible refine (impl_LengthCode.calls kj11 (wrap64 ((wrap64 (3 + (Int.tmod (rd t158 0) 256))) + 1)) t174 t175 t176 _ A27.out).mono ?_); rintro e w' ⟨rfl, ⟨nd, rfl⟩⟩; (try first | exact ⟨rfl, _, World.drewN_drewN _ _ _⟩ | exact ⟨rfl, _, Eq.trans (World.drewN_drewN _ _ _) (congrArg (World.drewN _) (Nat.add_assoc _ _ _))⟩)) | (go_at_call 25; (with_reducible refine (impl_DistCode.calls kj11 (wrap64 ((wrap64 (1 + (Int.tmod (wrap64 ((wrap64 ((rd t158 1) * 10000)) + (rd t158 2))) 32768))) + 1)) t177 t178 t179 _ A28.out).mono ?_); rintro e w' ⟨rfl, ⟨nd, rfl⟩⟩; (try first | exact ⟨rfl, _, World.drewN_drewN _ _ _⟩ | exact ⟨rfl, _, Eq.trans (World.drewN_drewN _ _ _) (congrArg (World.drewN _) (Nat.add_assoc _ _ _))⟩))); try go_wp2_with (first | (go_at_call 29; (with_reducible refine (impl_LengthCode.calls kj11 (wrap64 ((wrap64 (3 + (Int.tmod (rd t158 0) 256))) + 1)) t174 t175 t176 _ A27.out).mono ?_); rintro e w' ⟨rfl, ⟨nd, rfl⟩⟩; (try first | exact ⟨rfl, _, World.drewN_drewN _ _ _⟩ | exact ⟨rfl, _, Eq.trans (World.drewN_drewN _ _ _) (congrArg (World.drewN _) (Nat.add_assoc _ _ _))⟩)) | (go_at_call 25; (with_reducible refine (impl_DistCode.calls kj11 (wrap64 ((wrap64 (1 + (Int.tmod (wrap64 ((wrap64 ((rd t158 1) * 10000)) + (rd t158 2))) 32768))) + 1)) t177 t178 t179 _ A28.out).mono ?_); rintro e w' ⟨rfl, ⟨nd, rfl⟩⟩; (try first | exact ⟨rfl, _, World.drewN_drewN _ _ _⟩ | exact ⟨rfl, _, Eq.trans (World.drewN_drewN _ _ _) (congrArg (World.drewN _) (Nat.add_assoc _ _ _))⟩))))
                          go_ret
                          exact ⟨by first | rfl | (simp [errW_none, errW_some] <;> rfl) | (simp [*, errW_none, errW_some] <;> rfl), by repeat (first | (with_reducible first | exact HB.out | apply below_alloc | apply pw_below_drewN | apply below_drew1) | exact HB.out)⟩
                        · rw [if_neg c37] at H
                          have c37b0 : (t177 == t169) = false := beq_eq_false_iff_ne.mpr c37
                          have c37b1 : (t177 != t169) = true := bne_iff_ne.mpr c37
                          obtain rfl := Option.some.inj H
                          go_wp2_with (first | (go_at_call 29; (with_reducible refine (impl_LengthCode.calls kj11 (wrap64 ((wrap64 (3 + (Int.tmod (rd t158 0) 256))) + 1)) t174 t175 t176 _ A27.out).mono ?_); rintro e w' ⟨rfl, ⟨nd, rfl⟩⟩; (try first | exact ⟨rfl, _, World.drewN_drewN _ _ _⟩ | exact ⟨rfl, _, Eq.trans (World.drewN_drewN _ _ _) (congrArg (World.drewN _) (Nat.add_assoc _ _ _))⟩)) | (go_at_call 25; (with_reducible refine (impl_DistCode.calls kj11 (wrap64 ((wrap64 (1 + (Int.tmod (wrap64 ((wrap64 ((rd t158 1) * 10000)) + (rd t158 2))) 32768))) + 1)) t177 t178 t179 _ A28.out).mono ?_); rintro e w' ⟨rfl, ⟨nd, rfl⟩⟩; (try first | exact ⟨rfl, _, World.drewN_drewN _ _ _⟩ | exact ⟨rfl, _, Eq.trans (World.drewN_drewN _ _ _) (congrArg (World.drewN _) (Nat.add_assoc _ _ _))⟩)))
                          repeat (go_quiet (first | (go_at_call 29; (with_reducible refine (impl_LengthCode.calls kj11 (wrap64 ((wrap64 (3 + (Int.tmod (rd t158 0) 256))) + 1)) t174 t175 t176 _ A27.out).mono ?_); rintro e w' ⟨rfl, ⟨nd, rfl⟩⟩; (try first | exact ⟨rfl, _, World.drewN_drewN _ _ _⟩ | exact ⟨rfl, _, Eq.trans (World.drewN_drewN _ _ _) (congrArg (World.drewN _) (Nat.add_assoc _ _ _))⟩)) | (go_at_call 25; (with_reducible refine (impl_DistCode.calls kj11 (wrap64 ((wrap64 (1 + (Int.tmod (wrap64 ((wrap64 ((rd t158 1) * 10000)) + (rd t158 2))) 32768))) + 1)) t177 t178 t179 _ A28.out).mono ?_); rintro e w' ⟨rfl, ⟨nd, rfl⟩⟩; (try first | exact ⟨rfl, _, World.drewN_drewN _ _ _⟩ | exact ⟨rfl, _, Eq.trans (World.drewN_drewN _ _ _) (congrArg (World.drewN _) (Nat.add_assoc _ _ _))⟩))); try go_wp2_with (first | (go_at_call 29; (with_reducible refine (impl_LengthCode.calls kj11 (wrap64 ((wrap64 (3 + (Int.tmod (rd t158 0) 256))) + 1)) t174 t175 t176 _ A27.out).mono ?_); rintro e w' ⟨rfl, ⟨nd, rfl⟩⟩; (try first | exact ⟨rfl, _, World.drewN_drewN _ _ _⟩ | exact ⟨rfl, _, Eq.trans (World.drewN_drewN _ _ _) (congrArg (World.drewN _) (Nat.add_assoc _ _ _))⟩)) | (go_at_call 25; (with_reducible refine (impl_DistCode.calls kj11 (wrap64 ((wrap64 (1 + (Int.tmod (wrap64 ((wrap64 ((rd t158 1) * 10000)) + (rd t158 2))) 32768))) + 1)) t177 t178 t179 _ A28.out).mono ?_); rintro e w' ⟨rfl, ⟨nd, rfl⟩⟩; (try first | exact ⟨rfl, _, World.drewN_drewN _ _ _⟩ | exact ⟨rfl, _, Eq.trans (World.drewN_drewN _ _ _) (congrArg (World.drewN _) (Nat.add_assoc _ _ _))⟩))))
                          go_ret
                          exact ⟨by first | rfl | (simp [errW_none, errW_some] <;> rfl) | (simp [*, errW_none, errW_some] <;> rfl), by repeat (first | (with_reducible first | exact HB.out | apply below_alloc | apply pw_below_drewN | apply below_drew1) | exact HB.out)⟩
                    · rw [if_neg c35] at H
                      have c35b0 : (t174 == (wrap64 (t164 + 1))) = false := beq_eq_false_iff_ne.mpr c35
                      have c35b1 : (t174 != (wrap64 (t164 + 1))) = true := bne_iff_ne.mpr c35
                      obtain rfl := Option.some.inj H
                      go_wp2_with (first | (go_at_call 29; (with_reducible refine (impl_LengthCode.calls kj11 (wrap64 ((wrap64 (3 + (Int.tmod (rd t158 0) 256))) + 1)) t174 t175 t176 _ A27.out).mono ?_); rintro e w' ⟨rfl, ⟨nd, rfl⟩⟩; (try first | exact ⟨rfl, _, World.drewN_drewN _ _ _⟩ | exact ⟨rfl, _, Eq.trans (World.drewN_drewN _ _ _) (congrArg (World.drewN _) (Nat.add_assoc _ _ _))⟩)) | (go_at_call 25; (with_reducible refine (impl_DistCode.calls kj11 (wrap64 ((wrap64 (1 + (Int.tmod (wrap64 ((wrap64 ((rd t158 1) * 10000)) + (rd t158 2))) 32768))) + 1)) t177 t178 t179 _ A28.out).mono ?_); rintro e w' ⟨rfl, ⟨nd, rfl⟩⟩; (try first | exact ⟨rfl, _, World.drewN_drewN _ _ _⟩ | exact ⟨rfl, _, Eq.trans (World.drewN_drewN _ _ _) (congrArg (World.drewN _) (Nat.add_assoc _ _ _))⟩)))
                      repeat (go_quiet (first | (go_at_call 29; (with_reducible refine (impl_LengthCode.calls kj11 (wrap64 ((wrap64 (3 + (Int.tmod (rd t158 0) 256))) + 1)) t174 t175 t176 _ A27.out).mono ?_); rintro e w' ⟨rfl, ⟨nd, rfl⟩⟩; (try first | exact ⟨rfl, _, World.drewN_drewN _ _ _⟩ | exact ⟨rfl, _, Eq.trans (World.drewN_drewN _ _ _) (congrArg (World.drewN _) (Nat.add_assoc _ _ _))⟩)) | (go_at_call 25; (with_reducible refine (impl_DistCode.calls kj11 (wrap64 ((wrap64 (1 + (Int.tmod (wrap64 ((wrap64 ((rd t158 1) * 10000)) + (rd t158 2))) 32768))) + 1)) t177 t178 t179 _ A28.out).mono ?_); rintro e w' ⟨rfl, ⟨nd, rfl⟩⟩; (try first | exact ⟨rfl, _, World.drewN_drewN _ _ _⟩ | exact ⟨rfl, _, Eq.trans (World.drewN_drewN _ _ _) (congrArg (World.drewN _) (Nat.add_assoc _ _ _))⟩))); try go_wp2_with (first | (go_at_call 29; (with_reducible refine (impl_LengthCode.calls kj11 (wrap64 ((wrap64 (3 + (Int.tmod (rd t158 0) 256))) + 1)) t174 t175 t176 _ A27.out).mono ?_); rintro e w' ⟨rfl, ⟨nd, rfl⟩⟩; (try first | exact ⟨rfl, _, World.drewN_drewN _ _ _⟩ | exact ⟨rfl, _, Eq.trans (World.drewN_drewN _ _ _) (congrArg (World.drewN _) (Nat.add_assoc _ _ _))⟩)) | (go_at_call 25; (with_reducible refine (impl_DistCode.calls kj11 (wrap64 ((wrap64 (1 + (Int.tmod (wrap64 ((wrap64 ((rd t158 1) * 10000)) + (rd t158 2))) 32768))) + 1)) t177 t178 t179 _ A28.out).mono ?_); rintro e w' ⟨rfl, ⟨nd, rfl⟩⟩; (try first | exact ⟨rfl, _, World.drewN_drewN _ _ _⟩ | exact ⟨rfl, _, Eq.trans (World.drewN_drewN _ _ _) (congrArg (World.drewN _) (Nat.add_assoc _ _ _))⟩))))
                      go_ret
                      exact ⟨by first | rfl | (simp [errW_none, errW_some] <;> rfl) | (simp [*, errW_none, errW_some] <;> rfl), by repeat (first | (with_reducible first | exact HB.out | apply below_alloc | apply pw_below_drewN | apply below_drew1) | exact HB.out)⟩
        · rw [if_neg c7] at H
          exact absurd H (by simp)
      · rw [if_neg c6] at H
        exact absurd H (by simp)
    · rw [if_neg c5] at H
      exact absurd H (by simp)

/-- THE ONE PURE STATEMENT of laws_FnLengths: yours. -/
def laws_FnLengths.Pure : Prop := ∀ (l0 : List Int), l0.length ≤ maxLen → l0.length * 1 ≤ 140737488351232 → (∀ x ∈ l0, (Lit.int .u8 x).wf = true) → ∃ k, laws_FnLengths.f k l0 = some true
theorem laws_FnLengths.walk (P : laws_FnLengths.Pure) (w : World) (A0 : Option Addr) (c0 : Nat) (l0 : List Int) (hr0 : Kd.C (Kd.int .u8) w A0 l0.length l0) (hc0 : l0.length ≤ c0) (hm0 : l0.length ≤ maxLen) (y0 : l0.length * 1 ≤ 140737488351232) (hw0 : ∀ x ∈ l0, (Lit.int .u8 x).wf = true) :
    Calls Try.prog 13 #[.slice A0 l0.length c0] w fun e w' => e = .returned (.bool true) ∧ Below w.heap.size w w' := by
  obtain ⟨k, h⟩ := P l0 hm0 y0 hw0
  refine (laws_FnLengths.calls k A0 c0 l0 true w hr0 hc0 h).mono ?_
  rintro e w' ⟨rfl, hd⟩
  exact ⟨rfl, hd⟩

end Go.Proofs.Ytbkikljnbdfblaa.PFnLengths
