-- PRINTED BY print.sh 35421559b90ae4d0a3588c463048766b98c2df88dd9212a6774a882060cdf62d: not written by this session
import Derived.Test.YtaknchcnapdllaaPFnExactAdlerJoinx0
namespace Go.Proofs.Ytaknchcnapdllaa.PFnExactAdlerJoin
open Go.RowKit Go.Proofs.YtaknchcnapdllaaW.PrintWords Go.Proofs.YtaknchcnapdllaaW.PrintLast Go.Proofs.YtaknchcnapdllaaW.PrintMore
attribute [local go_sem] max2_int min2_int max_two min_two max_three min_three max_four min_four   -- for this text's walks alone
set_option linter.unusedVariables false
set_option linter.unusedSimpArgs false

/-! ### spec_l01In: function 44 -/
def spec_l01In.f (a0 : Int) (a1 : Int) (a2 : Int) : Option (Bool) := if a0 ≥ a1 then (some (decide (a0 ≤ a2))) else (some false)
set_option maxHeartbeats 8000000 in
set_option maxRecDepth 100000 in
theorem spec_l01In.calls (a0 : Int) (a1 : Int) (a2 : Int) (r : Bool) (w : World) (h : spec_l01In.f a0 a1 a2 = some r) :
    Calls Try.prog 44 #[.int .i64 a0, .int .i64 a1, .int .i64 a2] w fun e w' => e = .returned (.bool r) ∧ Drawn0 w w' := by
  have H : (if a0 ≥ a1 then (some (decide (a0 ≤ a2))) else (some false)) = some r := h
  clear h
  by_cases c4 : a0 ≥ a1
  · rw [if_pos c4] at H
    have c4b0 : decide (a1 ≤ a0) = true := decide_eq_true c4
    clear c4
    obtain rfl := Option.some.inj H
    go_enter Try.func44, Try.ntmps44
    go_wp2
    go_ret
    exact ⟨by first | rfl | (simp; done) | (simp [*]; done), by repeat (first | exact Drawn0.refl _ | apply Drawn0.step)⟩
  · rw [if_neg c4] at H
    have c4b0 : decide (a1 ≤ a0) = false := decide_eq_false c4
    clear c4
    obtain rfl := Option.some.inj H
    go_enter Try.func44, Try.ntmps44
    go_wp2
    go_ret
    exact ⟨by first | rfl | (simp; done) | (simp [*]; done), by repeat (first | exact Drawn0.refl _ | apply Drawn0.step)⟩

/-! ### spec_AdlerJoin: function 26 -/
def spec_AdlerJoin.f (a0 : Int) (a1 : Int) (a2 : Int) : Option (Int) := (spec_l01In.f a2 0 12000).bind fun t101 => (if t101 = true then (some ((wrap64 ((wrap64 ((Int.tmod (wrap64 ((wrap64 ((Int.tmod (wrap64 (Int.tdiv (wrap64 (a0)) 65536)) 65521) + (Int.tmod (wrap64 (Int.tdiv (wrap64 (a1)) 65536)) 65521))) + (wrap64 (a2 * (wrap64 ((Int.tmod (Int.tmod (wrap64 (a0)) 65536) 65521) + 65520)))))) 65521) * 65536)) + (Int.tmod (wrap64 ((wrap64 ((Int.tmod (Int.tmod (wrap64 (a0)) 65536) 65521) + (Int.tmod (Int.tmod (wrap64 (a1)) 65536) 65521))) + 65520)) 65521))) % 4294967296)) else (some 0))
set_option maxHeartbeats 8000000 in
set_option maxRecDepth 100000 in
theorem spec_AdlerJoin.calls (a0 : Int) (a1 : Int) (a2 : Int) (r : Int) (w : World) (h : spec_AdlerJoin.f a0 a1 a2 = some r) :
    Calls Try.prog 26 #[.int .u32 a0, .int .u32 a1, .int .i64 a2] w fun e w' => e = .returned (.int .u32 r) ∧ Drawn0 w w' := by
  have H : ((spec_l01In.f a2 0 12000).bind fun t101 => (if t101 = true then (some ((wrap64 ((wrap64 ((Int.tmod (wrap64 ((wrap64 ((Int.tmod (wrap64 (Int.tdiv (wrap64 (a0)) 65536)) 65521) + (Int.tmod (wrap64 (Int.tdiv (wrap64 (a1)) 65536)) 65521))) + (wrap64 (a2 * (wrap64 ((Int.tmod (Int.tmod (wrap64 (a0)) 65536) 65521) + 65520)))))) 65521) * 65536)) + (Int.tmod (wrap64 ((wrap64 ((Int.tmod (Int.tmod (wrap64 (a0)) 65536) 65521) + (Int.tmod (Int.tmod (wrap64 (a1)) 65536) 65521))) + 65520)) 65521))) % 4294967296)) else (some 0))) = some r := h
  clear h
  replace H := Option.bind_eq_some_iff.mp H
  obtain ⟨t101, A40, H⟩ := H
  replace H : (if t101 = true then (some ((wrap64 ((wrap64 ((Int.tmod (wrap64 ((wrap64 ((Int.tmod (wrap64 (Int.tdiv (wrap64 (a0)) 65536)) 65521) + (Int.tmod (wrap64 (Int.tdiv (wrap64 (a1)) 65536)) 65521))) + (wrap64 (a2 * (wrap64 ((Int.tmod (Int.tmod (wrap64 (a0)) 65536) 65521) + 65520)))))) 65521) * 65536)) + (Int.tmod (wrap64 ((wrap64 ((Int.tmod (Int.tmod (wrap64 (a0)) 65536) 65521) + (Int.tmod (Int.tmod (wrap64 (a1)) 65536) 65521))) + 65520)) 65521))) % 4294967296)) else (some 0)) = some r := H
  have A4 := Aside0.mk A40
  clear A40
  by_cases c5 : t101 = true
  · subst c5
    have H1 : (some ((wrap64 ((wrap64 ((Int.tmod (wrap64 ((wrap64 ((Int.tmod (wrap64 (Int.tdiv (wrap64 (a0)) 65536)) 65521) + (Int.tmod (wrap64 (Int.tdiv (wrap64 (a1)) 65536)) 65521))) + (wrap64 (a2 * (wrap64 ((Int.tmod (Int.tmod (wrap64 (a0)) 65536) 65521) + 65520)))))) 65521) * 65536)) + (Int.tmod (wrap64 ((wrap64 ((Int.tmod (Int.tmod (wrap64 (a0)) 65536) 65521) + (Int.tmod (Int.tmod (wrap64 (a1)) 65536) 65521))) + 65520)) 65521))) % 4294967296)) = some r := by rw [if_pos rfl] at H; exact H
    clear H
    have H := H1
    clear H1
    obtain rfl := Option.some.inj H
    go_enter Try.func26, Try.ntmps26
    go_wp2_with (first | ((with_reducible refine gate_callee (f := 44) rfl ?_); refine goesL_ (some 14) rfl rfl Try.func44 (by kernel_rfl) rfl #[.int .i64 a2, .int .i64 0, .int .i64 12000] rfl (by (try simp only [List.map_toArray, List.map_cons, List.map_nil]); first | done | rfl | (simp only [List.length_drop, List.length_take]; rfl)) ?_; (with_reducible refine (spec_l01In.calls a2 0 12000 true _ A4.out).mono ?_); rintro e w' ⟨rfl, ⟨nd, rfl⟩⟩; refine ⟨_, rfl, ?_⟩))
    go_ret
    exact ⟨by first | rfl | (simp; done) | (simp [*]; done), by repeat (first | exact Drawn0.refl _ | apply Drawn0.step)⟩
  · replace c5 := Bool.eq_false_iff.mpr c5
    subst c5
    have H1 : (some 0) = some r := by rw [if_neg (show ¬ (false = true) by decide)] at H; exact H
    clear H
    have H := H1
    clear H1
    obtain rfl := Option.some.inj H
    go_enter Try.func26, Try.ntmps26
    go_wp2_with (first | ((with_reducible refine gate_callee (f := 44) rfl ?_); refine goesL_ (some 14) rfl rfl Try.func44 (by kernel_rfl) rfl #[.int .i64 a2, .int .i64 0, .int .i64 12000] rfl (by (try simp only [List.map_toArray, List.map_cons, List.map_nil]); first | done | rfl | (simp only [List.length_drop, List.length_take]; rfl)) ?_; (with_reducible refine (spec_l01In.calls a2 0 12000 false _ A4.out).mono ?_); rintro e w' ⟨rfl, ⟨nd, rfl⟩⟩; refine ⟨_, rfl, ?_⟩))
    go_ret
    exact ⟨by first | rfl | (simp; done) | (simp [*]; done), by repeat (first | exact Drawn0.refl _ | apply Drawn0.step)⟩

/-! ### impl_parts: function 43 -/
def impl_parts.f (a0 : Int) : Option (Int × Int) := some (Int.tmod (wrap64 (Go.bits .and .u32 a0 65535)) 65521, Int.tmod (wrap64 (a0 / 65536)) 65521)
set_option maxHeartbeats 8000000 in
set_option maxRecDepth 100000 in
theorem impl_parts.calls (a0 : Int) (r1 : Int) (r2 : Int) (w : World) (h : impl_parts.f a0 = some (r1, r2)) :
    Calls Try.prog 43 #[.int .u32 a0] w fun e w' => e = .returned (.tuple #[.int .i64 r1, .int .i64 r2]) ∧ Drawn0 w w' := by
  have H : (some (Int.tmod (wrap64 (Go.bits .and .u32 a0 65535)) 65521, Int.tmod (wrap64 (a0 / 65536)) 65521)) = some (r1, r2) := h
  clear h
  simp only [Option.some.injEq, Prod.mk.injEq] at H
  obtain ⟨rfl, rfl⟩ := H
  go_enter Try.func43, Try.ntmps43
  go_wp2
  go_ret2
  exact ⟨by first | rfl | (simp; done) | (simp [*]; done), by repeat (first | exact Drawn0.refl _ | apply Drawn0.step)⟩

/-! ### impl_within: function 45 -/
def impl_within.f (a0 : Int) (a1 : Int) (a2 : Int) : Option (Bool) := if a0 ≥ a1 then (some (decide (a0 ≤ a2))) else (some false)
set_option maxHeartbeats 8000000 in
set_option maxRecDepth 100000 in
theorem impl_within.calls (a0 : Int) (a1 : Int) (a2 : Int) (r : Bool) (w : World) (h : impl_within.f a0 a1 a2 = some r) :
    Calls Try.prog 45 #[.int .i64 a0, .int .i64 a1, .int .i64 a2] w fun e w' => e = .returned (.bool r) ∧ Drawn0 w w' := by
  have H : (if a0 ≥ a1 then (some (decide (a0 ≤ a2))) else (some false)) = some r := h
  clear h
  by_cases c4 : a0 ≥ a1
  · rw [if_pos c4] at H
    have c4b0 : decide (a1 ≤ a0) = true := decide_eq_true c4
    clear c4
    obtain rfl := Option.some.inj H
    go_enter Try.func45, Try.ntmps45
    go_wp2
    go_ret
    exact ⟨by first | rfl | (simp; done) | (simp [*]; done), by repeat (first | exact Drawn0.refl _ | apply Drawn0.step)⟩
  · rw [if_neg c4] at H
    have c4b0 : decide (a1 ≤ a0) = false := decide_eq_false c4
    clear c4
    obtain rfl := Option.some.inj H
    go_enter Try.func45, Try.ntmps45
    go_wp2
    go_ret
    exact ⟨by first | rfl | (simp; done) | (simp [*]; done), by repeat (first | exact Drawn0.refl _ | apply Drawn0.step)⟩

/-! ### impl_AdlerJoin: function 27 -/
def impl_AdlerJoin.f (a0 : Int) (a1 : Int) (a2 : Int) : Option (Int) := (impl_within.f a2 0 12000).bind fun t102 => (if t102 = true then ((impl_parts.f a0).bind fun bt103 => ((impl_parts.f a1).bind fun bt105 => (some ((Go.bits .or .i64 (wrap64 ((Int.tmod (wrap64 ((wrap64 (bt103.2 + bt105.2)) + (wrap64 (a2 * (wrap64 ((wrap64 (bt103.1 + 65521)) - 1)))))) 65521) * 65536)) (Int.tmod (wrap64 ((wrap64 ((wrap64 (bt103.1 + 65521)) - 1)) + bt105.1)) 65521)) % 4294967296)))) else (some 0))
set_option maxHeartbeats 8000000 in
set_option maxRecDepth 100000 in
theorem impl_AdlerJoin.calls (a0 : Int) (a1 : Int) (a2 : Int) (r : Int) (w : World) (h : impl_AdlerJoin.f a0 a1 a2 = some r) :
    Calls Try.prog 27 #[.int .u32 a0, .int .u32 a1, .int .i64 a2] w fun e w' => e = .returned (.int .u32 r) ∧ Drawn0 w w' := by
  have H : ((impl_within.f a2 0 12000).bind fun t102 => (if t102 = true then ((impl_parts.f a0).bind fun bt103 => ((impl_parts.f a1).bind fun bt105 => (some ((Go.bits .or .i64 (wrap64 ((Int.tmod (wrap64 ((wrap64 (bt103.2 + bt105.2)) + (wrap64 (a2 * (wrap64 ((wrap64 (bt103.1 + 65521)) - 1)))))) 65521) * 65536)) (Int.tmod (wrap64 ((wrap64 ((wrap64 (bt103.1 + 65521)) - 1)) + bt105.1)) 65521)) % 4294967296)))) else (some 0))) = some r := h
  clear h
  replace H := Option.bind_eq_some_iff.mp H
  obtain ⟨t102, A40, H⟩ := H
  replace H : (if t102 = true then ((impl_parts.f a0).bind fun bt103 => ((impl_parts.f a1).bind fun bt105 => (some ((Go.bits .or .i64 (wrap64 ((Int.tmod (wrap64 ((wrap64 (bt103.2 + bt105.2)) + (wrap64 (a2 * (wrap64 ((wrap64 (bt103.1 + 65521)) - 1)))))) 65521) * 65536)) (Int.tmod (wrap64 ((wrap64 ((wrap64 (bt103.1 + 65521)) - 1)) + bt105.1)) 65521)) % 4294967296)))) else (some 0)) = some r := H
  have A4 := Aside0.mk A40
  clear A40
  by_cases c5 : t102 = true
  · subst c5
    have H1 : ((impl_parts.f a0).bind fun bt103 => ((impl_parts.f a1).bind fun bt105 => (some ((Go.bits .or .i64 (wrap64 ((Int.tmod (wrap64 ((wrap64 (bt103.2 + bt105.2)) + (wrap64 (a2 * (wrap64 ((wrap64 (bt103.1 + 65521)) - 1)))))) 65521) * 65536)) (Int.tmod (wrap64 ((wrap64 ((wrap64 (bt103.1 + 65521)) - 1)) + bt105.1)) 65521)) % 4294967296)))) = some r := by rw [if_pos rfl] at H; exact H
    clear H
    have H := H1
    clear H1
    replace H := Option.bind_eq_some_iff.mp H
    obtain ⟨⟨t103, t104⟩, A60, H⟩ := H
    replace H : ((impl_parts.f a1).bind fun bt105 => (some ((Go.bits .or .i64 (wrap64 ((Int.tmod (wrap64 ((wrap64 (t104 + bt105.2)) + (wrap64 (a2 * (wrap64 ((wrap64 (t103 + 65521)) - 1)))))) 65521) * 65536)) (Int.tmod (wrap64 ((wrap64 ((wrap64 (t103 + 65521)) - 1)) + bt105.1)) 65521)) % 4294967296))) = some r := H
    have A6 := Aside0.mk A60
    clear A60
    replace H := Option.bind_eq_some_iff.mp H
    obtain ⟨⟨t105, t106⟩, A70, H⟩ := H
    replace H : (some ((Go.bits .or .i64 (wrap64 ((Int.tmod (wrap64 ((wrap64 (t104 + t106)) + (wrap64 (a2 * (wrap64 ((wrap64 (t103 + 65521)) - 1)))))) 65521) * 65536)) (Int.tmod (wrap64 ((wrap64 ((wrap64 (t103 + 65521)) - 1)) + t105)) 65521)) % 4294967296)) = some r := H
    have A7 := Aside0.mk A70
    clear A70
    obtain rfl := Option.some.inj H
    go_enter Try.func27, Try.ntmps27
    go_wp2_with (first | ((with_reducible refine gate_callee (f := 45) rfl ?_); refine goesL_ (some 13) rfl rfl Try.func45 (by kernel_rfl) rfl #[.int .i64 a2, .int .i64 0, .int .i64 12000] rfl (by (try simp only [List.map_toArray, List.map_cons, List.map_nil]); first | done | rfl | (simp only [List.length_drop, List.length_take]; rfl)) ?_; (with_reducible refine (impl_within.calls a2 0 12000 true _ A4.out).mono ?_); rintro e w' ⟨rfl, ⟨nd, rfl⟩⟩; refine ⟨_, rfl, ?_⟩) | ((with_reducible refine gate_callee (f := 43) rfl ?_); refine goesL_ (some 17) rfl rfl Try.func43 (by kernel_rfl) rfl #[.int .u32 a0] rfl (by (try simp only [List.map_toArray, List.map_cons, List.map_nil]); first | done | rfl | (simp only [List.length_drop, List.length_take]; rfl)) ?_; (with_reducible refine (impl_parts.calls a0 t103 t104 _ A6.out).mono ?_); rintro e w' ⟨rfl, ⟨nd, rfl⟩⟩; refine ⟨_, rfl, ?_⟩) | ((with_reducible refine gate_callee (f := 43) rfl ?_); refine goesL_ (some 22) rfl rfl Try.func43 (by kernel_rfl) rfl #[.int .u32 a1] rfl (by (try simp only [List.map_toArray, List.map_cons, List.map_nil]); first | done | rfl | (simp only [List.length_drop, List.length_take]; rfl)) ?_; (with_reducible refine (impl_parts.calls a1 t105 t106 _ A7.out).mono ?_); rintro e w' ⟨rfl, ⟨nd, rfl⟩⟩; refine ⟨_, rfl, ?_⟩))
    go_ret
    exact ⟨by first | rfl | (simp; done) | (simp [*]; done), by repeat (first | exact Drawn0.refl _ | apply Drawn0.step)⟩
  · replace c5 := Bool.eq_false_iff.mpr c5
    subst c5
    have H1 : (some 0) = some r := by rw [if_neg (show ¬ (false = true) by decide)] at H; exact H
    clear H
    have H := H1
    clear H1
    obtain rfl := Option.some.inj H
    go_enter Try.func27, Try.ntmps27
    go_wp2_with (first | ((with_reducible refine gate_callee (f := 45) rfl ?_); refine goesL_ (some 13) rfl rfl Try.func45 (by kernel_rfl) rfl #[.int .i64 a2, .int .i64 0, .int .i64 12000] rfl (by (try simp only [List.map_toArray, List.map_cons, List.map_nil]); first | done | rfl | (simp only [List.length_drop, List.length_take]; rfl)) ?_; (with_reducible refine (impl_within.calls a2 0 12000 false _ A4.out).mono ?_); rintro e w' ⟨rfl, ⟨nd, rfl⟩⟩; refine ⟨_, rfl, ?_⟩))
    go_ret
    exact ⟨by first | rfl | (simp; done) | (simp [*]; done), by repeat (first | exact Drawn0.refl _ | apply Drawn0.step)⟩

/-! ### laws_FnExactAdlerJoin: function 9 -/
def laws_FnExactAdlerJoin.f (a0 : Int) (a1 : Int) (a2 : Int) : Option (Bool) := (spec_AdlerJoin.f a0 a1 a2).bind fun t107 => ((impl_AdlerJoin.f a0 a1 a2).bind fun t108 => (if t108 = t107 then (some true) else (some false)))
set_option maxHeartbeats 8000000 in
set_option maxRecDepth 100000 in
theorem laws_FnExactAdlerJoin.calls (a0 : Int) (a1 : Int) (a2 : Int) (r : Bool) (w : World) (h : laws_FnExactAdlerJoin.f a0 a1 a2 = some r) :
    Calls Try.prog 9 #[.int .u32 a0, .int .u32 a1, .int .i64 a2] w fun e w' => e = .returned (.bool r) ∧ Drawn0 w w' := by
  have H : ((spec_AdlerJoin.f a0 a1 a2).bind fun t107 => ((impl_AdlerJoin.f a0 a1 a2).bind fun t108 => (if t108 = t107 then (some true) else (some false)))) = some r := h
  clear h
  replace H := Option.bind_eq_some_iff.mp H
  obtain ⟨t107, A40, H⟩ := H
  replace H : ((impl_AdlerJoin.f a0 a1 a2).bind fun t108 => (if t108 = t107 then (some true) else (some false))) = some r := H
  have A4 := Aside0.mk A40
  clear A40
  replace H := Option.bind_eq_some_iff.mp H
  obtain ⟨t108, A50, H⟩ := H
  replace H : (if t108 = t107 then (some true) else (some false)) = some r := H
  have A5 := Aside0.mk A50
  clear A50
  by_cases c6 : t108 = t107
  · rw [if_pos c6] at H
    have c6b0 : (t108 == t107) = true := beq_iff_eq.mpr c6
    have c6b1 : (t108 != t107) = false := bne_eq_false_iff_eq.mpr c6
    clear c6
    obtain rfl := Option.some.inj H
    go_enter Try.func9, Try.ntmps9
    go_wp2_with (first | ((with_reducible refine gate_callee (f := 26) rfl ?_); refine goesL_ (some 12) rfl rfl Try.func26 (by kernel_rfl) rfl #[.int .u32 a0, .int .u32 a1, .int .i64 a2] rfl (by (try simp only [List.map_toArray, List.map_cons, List.map_nil]); first | done | rfl | (simp only [List.length_drop, List.length_take]; rfl)) ?_; (with_reducible refine (spec_AdlerJoin.calls a0 a1 a2 t107 _ A4.out).mono ?_); rintro e w' ⟨rfl, ⟨nd, rfl⟩⟩; refine ⟨_, rfl, ?_⟩) | ((with_reducible refine gate_callee (f := 27) rfl ?_); refine goesL_ (some 16) rfl rfl Try.func27 (by kernel_rfl) rfl #[.int .u32 a0, .int .u32 a1, .int .i64 a2] rfl (by (try simp only [List.map_toArray, List.map_cons, List.map_nil]); first | done | rfl | (simp only [List.length_drop, List.length_take]; rfl)) ?_; (with_reducible refine (impl_AdlerJoin.calls a0 a1 a2 t108 _ A5.out).mono ?_); rintro e w' ⟨rfl, ⟨nd, rfl⟩⟩; refine ⟨_, rfl, ?_⟩))
    go_ret
    exact ⟨by first | rfl | (simp; done) | (simp [*]; done), by repeat (first | exact Drawn0.refl _ | apply Drawn0.step)⟩
  · rw [if_neg c6] at H
    have c6b0 : (t108 == t107) = false := beq_eq_false_iff_ne.mpr c6
    have c6b1 : (t108 != t107) = true := bne_iff_ne.mpr c6
    obtain rfl := Option.some.inj H
    go_enter Try.func9, Try.ntmps9
    go_wp2_with (first | ((with_reducible refine gate_callee (f := 26) rfl ?_); refine goesL_ (some 12) rfl rfl Try.func26 (by kernel_rfl) rfl #[.int .u32 a0, .int .u32 a1, .int .i64 a2] rfl (by (try simp only [List.map_toArray, List.map_cons, List.map_nil]); first | done | rfl | (simp only [List.length_drop, List.length_take]; rfl)) ?_; (with_reducible refine (spec_AdlerJoin.calls a0 a1 a2 t107 _ A4.out).mono ?_); rintro e w' ⟨rfl, ⟨nd, rfl⟩⟩; refine ⟨_, rfl, ?_⟩) | ((with_reducible refine gate_callee (f := 27) rfl ?_); refine goesL_ (some 16) rfl rfl Try.func27 (by kernel_rfl) rfl #[.int .u32 a0, .int .u32 a1, .int .i64 a2] rfl (by (try simp only [List.map_toArray, List.map_cons, List.map_nil]); first | done | rfl | (simp only [List.length_drop, List.length_take]; rfl)) ?_; (with_reducible refine (impl_AdlerJoin.calls a0 a1 a2 t108 _ A5.out).mono ?_); rintro e w' ⟨rfl, ⟨nd, rfl⟩⟩; refine ⟨_, rfl, ?_⟩))
    go_ret
    exact ⟨by first | rfl | (simp; done) | (simp [*]; done), by repeat (first | exact Drawn0.refl _ | apply Drawn0.step)⟩

/-- THE ONE PURE STATEMENT of laws_FnExactAdlerJoin: yours. -/
def laws_FnExactAdlerJoin.Pure : Prop := ∀ (a0 : Int) (a1 : Int) (a2 : Int), (Lit.int .u32 a0).wf = true → (Lit.int .u32 a1).wf = true → (Lit.int .i64 a2).wf = true → laws_FnExactAdlerJoin.f a0 a1 a2 = some true
theorem laws_FnExactAdlerJoin.walk (P : laws_FnExactAdlerJoin.Pure) (a0 : Int) (a1 : Int) (a2 : Int) (w : World) (w0 : (Lit.int .u32 a0).wf = true) (w1 : (Lit.int .u32 a1).wf = true) (w2 : (Lit.int .i64 a2).wf = true) :
    Calls Try.prog 9 #[.int .u32 a0, .int .u32 a1, .int .i64 a2] w fun e w' => e = .returned (.bool true) ∧ Below w.heap.size w w' := by
  have h := P a0 a1 a2 w0 w1 w2
  refine (laws_FnExactAdlerJoin.calls a0 a1 a2 true w h).mono ?_
  rintro e w' ⟨rfl, hd⟩
  exact ⟨rfl, hd.below⟩

end Go.Proofs.Ytaknchcnapdllaa.PFnExactAdlerJoin
