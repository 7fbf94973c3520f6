/- The law FnExactCrcMore: for every input within the row's bounds the printed function answers true: what the program's function tells is what the law asks. Conditions: only the bounds that the row itself gives (sizes of strings and slices, ranges of the number kinds). -/
import Derived.Test.YtaknchcnapdllaaPFnExactCrcMorex1
namespace Go.Proofs.Ytaknchcnapdllaa.Pure
open Go.RowKit Go.Proofs.Ytaknchcnapdllaa.PFnExactCrcMore Go.Proofs.YtaknchcnapdllaaW.PrintWords Go.Proofs.YtaknchcnapdllaaW.PrintLast Go.Proofs.YtaknchcnapdllaaW.PrintMore
set_option linter.unusedVariables false
set_option linter.unusedSimpArgs false

theorem w64_id {x : Int} (h0 : -9223372036854775808 ≤ x) (h1 : x ≤ 9223372036854775807) : wrap64 x = x := by unfold wrap64; omega
theorem tmod_nn {a : Int} (b : Int) (h : 0 ≤ a) : Int.tmod a b = a % b := Int.tmod_eq_emod_of_nonneg h
theorem tdiv_nn {a : Int} (b : Int) (h : 0 ≤ a) : Int.tdiv a b = a / b := Int.tdiv_eq_ediv_of_nonneg h
theorem wf64 {n : Int} (h : (Lit.int .i64 n).wf = true) : -9223372036854775808 ≤ n ∧ n ≤ 9223372036854775807 := by
  simp [Lit.wf, IntKind.min, IntKind.max, IntKind.signed, IntKind.bits] at h
  omega
theorem wfu32 {n : Int} (h : (Lit.int .u32 n).wf = true) : 0 ≤ n ∧ n ≤ 4294967295 := by
  simp [Lit.wf, IntKind.min, IntKind.max, IntKind.signed, IntKind.bits] at h
  omega
theorem wraps64 (n : Int) (h0 : 0 ≤ n) (h1 : n < 2 ^ 63) : IntKind.i64.wrap n = n := by rw [IntKind.wrap_i64]; omega
theorem wrapsu32 (n : Int) (h0 : 0 ≤ n) (h1 : n < 2 ^ 32) : IntKind.u32.wrap n = n := by rw [IntKind.wrap_u32]; omega
/-- a | b of parts that do not meet, of an int. -/
theorem or64 (i : Nat) (x y : Int) (hx0 : 0 ≤ x) (hx : x % 2 ^ i = 0) (hx1 : x < 2 ^ 63) (hy0 : 0 ≤ y) (hy : y < 2 ^ i) (hy1 : y < 2 ^ 63) : Go.bits .or .i64 x y = x + y :=
  bits_join .i64 63 (by decide) wraps64 i x y hx0 hx hx1 hy0 hy hy1
theorem ev_ite_pos {α : Type} {c : Prop} [Decidable c] {f g : Nat → Option α} {r : α} (h : c) (k : Ev f r) : Ev (fun n => if c then f n else g n) r := Ev.congr (fun n => if_pos h) k
theorem ev_ite_neg {α : Type} {c : Prop} [Decidable c] {f g : Nat → Option α} {r : α} (h : ¬ c) (k : Ev g r) : Ev (fun n => if c then f n else g n) r := Ev.congr (fun n => if_neg h) k
/-- A callee without rounds that answers. -/
theorem ev_bind0 {α β : Type} {o : Option α} {f : Nat → α → Option β} {a : α} {r : β} (h : o = some a) (k : Ev (fun n => f n a) r) : Ev (fun n => o.bind (f n)) r := Ev.congr (fun n => by rw [h]; rfl) k
theorem bt_lo (s : ByteArray) (i : Int) : 0 ≤ bt s i := (bt_range s i).1
theorem bt_hi (s : ByteArray) (i : Int) : bt s i ≤ 255 := (bt_range s i).2
/-- A callee that answers from some number of rounds on, used. -/
theorem ev_use {α β : Type} {g : Nat → Option α} {a : α} {F G : Nat → Option β} {r : β} (e : Ev g a) (h : ∀ k, g k = some a → F k = G k) (c : Ev G r) : Ev F r := by
  obtain ⟨K, e⟩ := e
  obtain ⟨K', c⟩ := c
  exact ⟨max K K', fun n hn => (h n (e n (by omega))).trans (c n (by omega))⟩
theorem ev_use_step {α β : Type} {g : Nat → Option α} {a : α} {F G : Nat → Option β} {r : β} (e : Ev g a) (h : ∀ k, g k = some a → F (k + 1) = G k) (c : Ev G r) : Ev F r := by
  obtain ⟨K, e⟩ := e
  obtain ⟨K', c⟩ := c
  refine ⟨max K K' + 1, fun n hn => ?_⟩
  obtain ⟨m, rfl⟩ : ∃ m, n = m + 1 := ⟨n - 1, by omega⟩
  exact (h m (e m (by omega))).trans (c m (by omega))
theorem ev_end {α β : Type} {g : Nat → Option α} {a : α} {F : Nat → Option β} {r : β} (e : Ev g a) (h : ∀ k, g k = some a → F k = some r) : Ev F r := by
  obtain ⟨K, e⟩ := e
  exact ⟨K, fun n hn => h n (e n hn)⟩
theorem ev_two {α β : Type} {g : Nat → Option α} {h : Nat → Option β} {a : α} {b : β} (e : Ev g a) (f : Ev h b) : ∃ k, g k = some a ∧ h k = some b := by
  obtain ⟨K, e⟩ := e
  obtain ⟨K', f⟩ := f
  exact ⟨max K K', e _ (by omega), f _ (by omega)⟩
theorem ev_ret {α : Type} {F : Nat → Option α} {r : α} (h : ∀ k, F (k + 1) = some r) : Ev F r := ⟨1, fun n hn => by obtain ⟨m, rfl⟩ : ∃ m, n = m + 1 := ⟨n - 1, by omega⟩; exact h m⟩

theorem step_same : ∀ (k : Nat) (x i : Int), spec_l02Step.l0 k x i = impl_halved.l0 k x i
  | 0, _, _ => by rw [spec_l02Step.l0, impl_halved.l0]
  | k + 1, x, i => by
    rw [spec_l02Step.l0, impl_halved.l0]
    simp only [step_same k]
theorem step_f (k : Nat) (x : Int) : spec_l02Step.f k x = impl_halved.f k x := step_same k x 0
theorem halved_ends (d : Nat) : ∀ (x i : Int), 0 ≤ i → i + d = 8 → ∃ r, Ev (fun k => impl_halved.l0 k x i) r := by
  induction d with
  | zero =>
    intro x i h0 h
    exact ⟨x, Ev.step (f := fun _ => some x) (fun k => by rw [impl_halved.l0, if_neg (by omega)]) (Ev.now _)⟩
  | succ d ih =>
    intro x i h0 h
    by_cases c : Int.tmod x 2 = 1
    · obtain ⟨r, e⟩ := ih (Go.bits .xor .u32 ((Int.tdiv x 2) % 4294967296) 3988292384) (i + 1) (by omega) (by omega)
      exact ⟨r, Ev.step (fun k => by rw [impl_halved.l0, if_pos (by omega), if_pos c, w64_id (x := i + 1) (by omega) (by omega)]) e⟩
    · obtain ⟨r, e⟩ := ih ((Int.tdiv x 2) % 4294967296) (i + 1) (by omega) (by omega)
      exact ⟨r, Ev.step (fun k => by rw [impl_halved.l0, if_pos (by omega), if_neg c, w64_id (x := i + 1) (by omega) (by omega)]) e⟩
theorem halved_total (x : Int) : ∃ r, Ev (fun k => impl_halved.f k x) r := halved_ends 8 x 0 (by omega) (by omega)

theorem xor_swap (x : Int) : Go.bits .xor .u32 4294967295 x = Go.bits .xor .u32 x 4294967295 := by
  unfold Go.bits
  simp only []
  rw [BitVec.xor_comm]
theorem crc_loops (s : ByteArray) (hs : s.size ≤ 1048576) (d : Nat) : ∀ (a i : Int), 0 ≤ i → i + d = s.size →
    ∃ r, Ev (fun k => spec_CrcMore.l0 k s a i) r ∧ Ev (fun k => impl_CrcMore.l0 k a s (s.size : Int) i) r := by
  induction d with
  | zero =>
    intro a i h0 h
    refine ⟨Go.bits .xor .u32 a 4294967295, ev_ret (fun k => ?_), ev_ret (fun k => ?_)⟩
    · rw [spec_CrcMore.l0, if_neg (by omega)]
    · rw [impl_CrcMore.l0, if_neg (by omega), xor_swap]
  | succ d ih =>
    intro a i h0 h
    obtain ⟨q, e⟩ := halved_total (Go.bits .xor .u32 a ((bt s i) % 4294967296))
    have e' : Ev (fun k => spec_l02Step.f k (Go.bits .xor .u32 a ((bt s i) % 4294967296))) q := Ev.congr (fun k => step_f k _) e
    obtain ⟨r, h1, h2⟩ := ih q (i + 1) (by omega) (by omega)
    refine ⟨r, ev_use_step e' (fun k hk => ?_) h1, ev_use_step e (fun k hk => ?_) h2⟩
    · rw [spec_CrcMore.l0, if_pos (by omega), if_pos (by omega), w64_id (x := i + 1) (by omega) (by omega), hk]
      rfl
    · rw [impl_CrcMore.l0, if_pos (by omega), if_pos (by omega), if_pos (by omega), w64_id (x := i + 1) (by omega) (by omega), hk]
      rfl
theorem crc_more (a : Int) (s : ByteArray) (hs : s.size ≤ 1048576) : ∃ r, Ev (fun k => spec_CrcMore.f k a s) r ∧ Ev (fun k => impl_CrcMore.f k a s) r := by
  obtain ⟨r, e1, e2⟩ := crc_loops s hs s.size (Go.bits .xor .u32 a 4294967295) 0 (by omega) (by omega)
  exact ⟨r, e1, Ev.congr (fun k => by unfold impl_CrcMore.f; rw [xor_swap]) e2⟩

theorem FnExactCrcMore : laws_FnExactCrcMore.Pure := by
  intro a s ha hs
  by_cases hb : (s.size : Int) > 1048576
  · exact ⟨0, by unfold laws_FnExactCrcMore.f; rw [if_pos hb]⟩
  · obtain ⟨r, e1, e2⟩ := crc_more a s (by omega)
    obtain ⟨k, g1, g2⟩ := ev_two e1 e2
    refine ⟨k, ?_⟩
    unfold laws_FnExactCrcMore.f
    rw [if_neg hb, g1, g2]
    simp

end Go.Proofs.Ytaknchcnapdllaa.Pure
