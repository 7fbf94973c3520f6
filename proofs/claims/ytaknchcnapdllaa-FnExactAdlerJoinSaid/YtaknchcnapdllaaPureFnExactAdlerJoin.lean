/- The law FnExactAdlerJoin: for every input within the row's bounds the printed function answers true: what the program's function tells is what the law asks. Conditions: only the bounds that the row itself gives (sizes of strings and slices, ranges of the number kinds). -/
import Derived.Test.YtaknchcnapdllaaPFnExactAdlerJoinx1
namespace Go.Proofs.Ytaknchcnapdllaa.Pure
open Go.RowKit Go.Proofs.Ytaknchcnapdllaa.PFnExactAdlerJoin Go.Proofs.YtaknchcnapdllaaW.PrintWords Go.Proofs.YtaknchcnapdllaaW.PrintLast Go.Proofs.YtaknchcnapdllaaW.PrintMore
set_option linter.unusedVariables false
set_option linter.unusedSimpArgs false

theorem w64_id {x : Int} (h0 : -9223372036854775808 ≤ x) (h1 : x ≤ 9223372036854775807) : wrap64 x = x := by unfold wrap64; omega
theorem tmod_nn {a : Int} (b : Int) (h : 0 ≤ a) : Int.tmod a b = a % b := Int.tmod_eq_emod_of_nonneg h
theorem tdiv_nn {a : Int} (b : Int) (h : 0 ≤ a) : Int.tdiv a b = a / b := Int.tdiv_eq_ediv_of_nonneg h
theorem wf64 {n : Int} (h : (Lit.int .i64 n).wf = true) : -9223372036854775808 ≤ n ∧ n ≤ 9223372036854775807 := by
  simp [Lit.wf, IntKind.min, IntKind.max, IntKind.signed, IntKind.bits] at h
  omega
theorem wfu32 {n : Int} (h : (Lit.int .u32 n).wf = true) : 0 ≤ n ∧ n ≤ 4294967295 := by
  simp [Lit.wf, IntKind.min, IntKind.max, IntKind.signed, IntKind.bits] at h
  omega
theorem wraps64 (n : Int) (h0 : 0 ≤ n) (h1 : n < 2 ^ 63) : IntKind.i64.wrap n = n := by rw [IntKind.wrap_i64]; omega
theorem wrapsu32 (n : Int) (h0 : 0 ≤ n) (h1 : n < 2 ^ 32) : IntKind.u32.wrap n = n := by rw [IntKind.wrap_u32]; omega
/-- a | b of parts that do not meet, of an int. -/
theorem or64 (i : Nat) (x y : Int) (hx0 : 0 ≤ x) (hx : x % 2 ^ i = 0) (hx1 : x < 2 ^ 63) (hy0 : 0 ≤ y) (hy : y < 2 ^ i) (hy1 : y < 2 ^ 63) : Go.bits .or .i64 x y = x + y :=
  bits_join .i64 63 (by decide) wraps64 i x y hx0 hx hx1 hy0 hy hy1
theorem ev_ite_pos {α : Type} {c : Prop} [Decidable c] {f g : Nat → Option α} {r : α} (h : c) (k : Ev f r) : Ev (fun n => if c then f n else g n) r := Ev.congr (fun n => if_pos h) k
theorem ev_ite_neg {α : Type} {c : Prop} [Decidable c] {f g : Nat → Option α} {r : α} (h : ¬ c) (k : Ev g r) : Ev (fun n => if c then f n else g n) r := Ev.congr (fun n => if_neg h) k
/-- A callee without rounds that answers. -/
theorem ev_bind0 {α β : Type} {o : Option α} {f : Nat → α → Option β} {a : α} {r : β} (h : o = some a) (k : Ev (fun n => f n a) r) : Ev (fun n => o.bind (f n)) r := Ev.congr (fun n => by rw [h]; rfl) k
theorem bt_lo (s : ByteArray) (i : Int) : 0 ≤ bt s i := (bt_range s i).1
theorem bt_hi (s : ByteArray) (i : Int) : bt s i ≤ 255 := (bt_range s i).2
/-- A callee that answers from some number of rounds on, used. -/
theorem ev_use {α β : Type} {g : Nat → Option α} {a : α} {F G : Nat → Option β} {r : β} (e : Ev g a) (h : ∀ k, g k = some a → F k = G k) (c : Ev G r) : Ev F r := by
  obtain ⟨K, e⟩ := e
  obtain ⟨K', c⟩ := c
  exact ⟨max K K', fun n hn => (h n (e n (by omega))).trans (c n (by omega))⟩
theorem ev_use_step {α β : Type} {g : Nat → Option α} {a : α} {F G : Nat → Option β} {r : β} (e : Ev g a) (h : ∀ k, g k = some a → F (k + 1) = G k) (c : Ev G r) : Ev F r := by
  obtain ⟨K, e⟩ := e
  obtain ⟨K', c⟩ := c
  refine ⟨max K K' + 1, fun n hn => ?_⟩
  obtain ⟨m, rfl⟩ : ∃ m, n = m + 1 := ⟨n - 1, by omega⟩
  exact (h m (e m (by omega))).trans (c m (by omega))
theorem ev_end {α β : Type} {g : Nat → Option α} {a : α} {F : Nat → Option β} {r : β} (e : Ev g a) (h : ∀ k, g k = some a → F k = some r) : Ev F r := by
  obtain ⟨K, e⟩ := e
  exact ⟨K, fun n hn => h n (e n hn)⟩
theorem ev_two {α β : Type} {g : Nat → Option α} {h : Nat → Option β} {a : α} {b : β} (e : Ev g a) (f : Ev h b) : ∃ k, g k = some a ∧ h k = some b := by
  obtain ⟨K, e⟩ := e
  obtain ⟨K', f⟩ := f
  exact ⟨max K K', e _ (by omega), f _ (by omega)⟩
theorem ev_ret {α : Type} {F : Nat → Option α} {r : α} (h : ∀ k, F (k + 1) = some r) : Ev F r := ⟨1, fun n hn => by obtain ⟨m, rfl⟩ : ∃ m, n = m + 1 := ⟨n - 1, by omega⟩; exact h m⟩

theorem parts_are (a : Int) (h0 : 0 ≤ a) (h1 : a ≤ 4294967295) : impl_parts.f a = some (a % 65536 % 65521, a / 65536 % 65521) := by
  unfold impl_parts.f
  have e : Go.bits .and .u32 a 65535 = a % 65536 := bits_mask .u32 32 (by decide) wrapsu32 16 (by decide) a h0 (by omega)
  rw [e, w64_id (by omega) (by omega), w64_id (by omega) (by omega), tmod_nn _ (by omega), tmod_nn _ (by omega)]
theorem join_spec (a b n p q r s : Int) (ha0 : 0 ≤ a) (ha1 : a ≤ 4294967295) (hb0 : 0 ≤ b) (hb1 : b ≤ 4294967295) (hn0 : 0 ≤ n) (hn1 : n ≤ 12000)
    (hp : p = a % 65536 % 65521) (hq : q = a / 65536 % 65521) (hr : r = b % 65536 % 65521) (hs : s = b / 65536 % 65521) (m : Int) (hm : m = n * (p + 65520)) (hm0 : 0 ≤ m) (hm1 : m ≤ 12000 * 131040) :
    spec_AdlerJoin.f a b n = some ((q + s + m) % 65521 * 65536 + (p + r + 65520) % 65521) := by
  unfold spec_AdlerJoin.f spec_l01In.f
  rw [if_pos (by omega)]
  simp only [Option.bind_some, decide_eq_true_eq]
  rw [if_pos hn1, w64_id (x := a) (by omega) (by omega), w64_id (x := b) (by omega) (by omega)]
  rw [tmod_nn _ (a := a) ha0, tmod_nn _ (a := b) hb0, tdiv_nn _ (a := a) ha0, tdiv_nn _ (a := b) hb0]
  rw [w64_id (x := a / 65536) (by omega) (by omega), w64_id (x := b / 65536) (by omega) (by omega)]
  rw [tmod_nn _ (a := a % 65536) (by omega), tmod_nn _ (a := b % 65536) (by omega), tmod_nn _ (a := a / 65536) (by omega), tmod_nn _ (a := b / 65536) (by omega)]
  rw [← hp, ← hq, ← hr, ← hs]
  rw [w64_id (x := p + 65520) (by omega) (by omega), ← hm, w64_id (x := q + s) (by omega) (by omega), w64_id (x := p + r) (by omega) (by omega), w64_id (x := m) (by omega) (by omega)]
  rw [w64_id (x := q + s + m) (by omega) (by omega), w64_id (x := p + r + 65520) (by omega) (by omega)]
  rw [tmod_nn _ (a := q + s + m) (by omega), tmod_nn _ (a := p + r + 65520) (by omega)]
  rw [w64_id (x := (q + s + m) % 65521 * 65536) (by omega) (by omega), w64_id (by omega) (by omega)]
  congr 1
  omega
theorem join_impl (a b n p q r s : Int) (ha0 : 0 ≤ a) (ha1 : a ≤ 4294967295) (hb0 : 0 ≤ b) (hb1 : b ≤ 4294967295) (hn0 : 0 ≤ n) (hn1 : n ≤ 12000)
    (hp : p = a % 65536 % 65521) (hq : q = a / 65536 % 65521) (hr : r = b % 65536 % 65521) (hs : s = b / 65536 % 65521) (m : Int) (hm : m = n * (p + 65520)) (hm0 : 0 ≤ m) (hm1 : m ≤ 12000 * 131040) :
    impl_AdlerJoin.f a b n = some ((q + s + m) % 65521 * 65536 + (p + r + 65520) % 65521) := by
  unfold impl_AdlerJoin.f impl_within.f
  rw [if_pos (by omega)]
  simp only [Option.bind_some, decide_eq_true_eq]
  rw [if_pos hn1, parts_are a ha0 ha1, parts_are b hb0 hb1]
  simp only [Option.bind_some]
  rw [← hp, ← hq, ← hr, ← hs]
  rw [w64_id (x := p + 65521) (by omega) (by omega), w64_id (x := p + 65521 - 1) (by omega) (by omega)]
  have e : p + 65521 - 1 = p + 65520 := by omega
  rw [e, ← hm, w64_id (x := q + s) (by omega) (by omega), w64_id (x := m) (by omega) (by omega), w64_id (x := q + s + m) (by omega) (by omega), w64_id (x := p + 65520 + r) (by omega) (by omega)]
  rw [tmod_nn _ (a := q + s + m) (by omega), tmod_nn _ (a := p + 65520 + r) (by omega)]
  rw [w64_id (x := (q + s + m) % 65521 * 65536) (by omega) (by omega), or64 16 _ _ (by omega) (by omega) (by omega) (by omega) (by omega) (by omega)]
  congr 1
  have e2 : p + 65520 + r = p + r + 65520 := by omega
  rw [e2]
  omega
theorem FnExactAdlerJoin : laws_FnExactAdlerJoin.Pure := by
  intro a b n ha hb hn
  obtain ⟨a0, a1⟩ := wfu32 ha
  obtain ⟨b0, b1⟩ := wfu32 hb
  unfold laws_FnExactAdlerJoin.f
  by_cases h : 0 ≤ n ∧ n ≤ 12000
  · obtain ⟨h0, h1⟩ := h
    have hm0 : 0 ≤ n * (a % 65536 % 65521 + 65520) := Int.mul_nonneg h0 (by omega)
    have hm1 : n * (a % 65536 % 65521 + 65520) ≤ 12000 * 131040 := Int.mul_le_mul h1 (by omega) (by omega) (by omega)
    rw [join_spec a b n _ _ _ _ a0 a1 b0 b1 h0 h1 rfl rfl rfl rfl _ rfl hm0 hm1, join_impl a b n _ _ _ _ a0 a1 b0 b1 h0 h1 rfl rfl rfl rfl _ rfl hm0 hm1]
    simp
  · have e : spec_l01In.f n 0 12000 = some false := by
      unfold spec_l01In.f
      split
      · have : ¬ n ≤ 12000 := by omega
        simp [this]
      · rfl
    have e' : impl_within.f n 0 12000 = some false := e
    unfold spec_AdlerJoin.f impl_AdlerJoin.f
    rw [e, e']
    simp

end Go.Proofs.Ytaknchcnapdllaa.Pure
