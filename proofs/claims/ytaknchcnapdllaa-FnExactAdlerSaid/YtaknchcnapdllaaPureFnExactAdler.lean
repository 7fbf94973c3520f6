/- The law FnExactAdler: for every input within the row's bounds the printed function answers true: what the program's function tells is what the law asks. Conditions: only the bounds that the row itself gives (sizes of strings and slices, ranges of the number kinds). -/
import Derived.Test.YtaknchcnapdllaaPFnExactAdlerx1
namespace Go.Proofs.Ytaknchcnapdllaa.Pure
open Go.RowKit Go.Proofs.Ytaknchcnapdllaa.PFnExactAdler Go.Proofs.YtaknchcnapdllaaW.PrintWords Go.Proofs.YtaknchcnapdllaaW.PrintLast Go.Proofs.YtaknchcnapdllaaW.PrintMore
set_option linter.unusedVariables false
set_option linter.unusedSimpArgs false

theorem w64_id {x : Int} (h0 : -9223372036854775808 ≤ x) (h1 : x ≤ 9223372036854775807) : wrap64 x = x := by unfold wrap64; omega
theorem tmod_nn {a : Int} (b : Int) (h : 0 ≤ a) : Int.tmod a b = a % b := Int.tmod_eq_emod_of_nonneg h
theorem tdiv_nn {a : Int} (b : Int) (h : 0 ≤ a) : Int.tdiv a b = a / b := Int.tdiv_eq_ediv_of_nonneg h
theorem wf64 {n : Int} (h : (Lit.int .i64 n).wf = true) : -9223372036854775808 ≤ n ∧ n ≤ 9223372036854775807 := by
  simp [Lit.wf, IntKind.min, IntKind.max, IntKind.signed, IntKind.bits] at h
  omega
theorem wfu32 {n : Int} (h : (Lit.int .u32 n).wf = true) : 0 ≤ n ∧ n ≤ 4294967295 := by
  simp [Lit.wf, IntKind.min, IntKind.max, IntKind.signed, IntKind.bits] at h
  omega
theorem wraps64 (n : Int) (h0 : 0 ≤ n) (h1 : n < 2 ^ 63) : IntKind.i64.wrap n = n := by rw [IntKind.wrap_i64]; omega
theorem wrapsu32 (n : Int) (h0 : 0 ≤ n) (h1 : n < 2 ^ 32) : IntKind.u32.wrap n = n := by rw [IntKind.wrap_u32]; omega
/-- a | b of parts that do not meet, of an int. -/
theorem or64 (i : Nat) (x y : Int) (hx0 : 0 ≤ x) (hx : x % 2 ^ i = 0) (hx1 : x < 2 ^ 63) (hy0 : 0 ≤ y) (hy : y < 2 ^ i) (hy1 : y < 2 ^ 63) : Go.bits .or .i64 x y = x + y :=
  bits_join .i64 63 (by decide) wraps64 i x y hx0 hx hx1 hy0 hy hy1
theorem ev_ite_pos {α : Type} {c : Prop} [Decidable c] {f g : Nat → Option α} {r : α} (h : c) (k : Ev f r) : Ev (fun n => if c then f n else g n) r := Ev.congr (fun n => if_pos h) k
theorem ev_ite_neg {α : Type} {c : Prop} [Decidable c] {f g : Nat → Option α} {r : α} (h : ¬ c) (k : Ev g r) : Ev (fun n => if c then f n else g n) r := Ev.congr (fun n => if_neg h) k
/-- A callee without rounds that answers. -/
theorem ev_bind0 {α β : Type} {o : Option α} {f : Nat → α → Option β} {a : α} {r : β} (h : o = some a) (k : Ev (fun n => f n a) r) : Ev (fun n => o.bind (f n)) r := Ev.congr (fun n => by rw [h]; rfl) k
theorem bt_lo (s : ByteArray) (i : Int) : 0 ≤ bt s i := (bt_range s i).1
theorem bt_hi (s : ByteArray) (i : Int) : bt s i ≤ 255 := (bt_range s i).2
/-- A callee that answers from some number of rounds on, used. -/
theorem ev_use {α β : Type} {g : Nat → Option α} {a : α} {F G : Nat → Option β} {r : β} (e : Ev g a) (h : ∀ k, g k = some a → F k = G k) (c : Ev G r) : Ev F r := by
  obtain ⟨K, e⟩ := e
  obtain ⟨K', c⟩ := c
  exact ⟨max K K', fun n hn => (h n (e n (by omega))).trans (c n (by omega))⟩
theorem ev_use_step {α β : Type} {g : Nat → Option α} {a : α} {F G : Nat → Option β} {r : β} (e : Ev g a) (h : ∀ k, g k = some a → F (k + 1) = G k) (c : Ev G r) : Ev F r := by
  obtain ⟨K, e⟩ := e
  obtain ⟨K', c⟩ := c
  refine ⟨max K K' + 1, fun n hn => ?_⟩
  obtain ⟨m, rfl⟩ : ∃ m, n = m + 1 := ⟨n - 1, by omega⟩
  exact (h m (e m (by omega))).trans (c m (by omega))
theorem ev_end {α β : Type} {g : Nat → Option α} {a : α} {F : Nat → Option β} {r : β} (e : Ev g a) (h : ∀ k, g k = some a → F k = some r) : Ev F r := by
  obtain ⟨K, e⟩ := e
  exact ⟨K, fun n hn => h n (e n hn)⟩
theorem ev_two {α β : Type} {g : Nat → Option α} {h : Nat → Option β} {a : α} {b : β} (e : Ev g a) (f : Ev h b) : ∃ k, g k = some a ∧ h k = some b := by
  obtain ⟨K, e⟩ := e
  obtain ⟨K', f⟩ := f
  exact ⟨max K K', e _ (by omega), f _ (by omega)⟩
theorem ev_ret {α : Type} {F : Nat → Option α} {r : α} (h : ∀ k, F (k + 1) = some r) : Ev F r := ⟨1, fun n hn => by obtain ⟨m, rfl⟩ : ∃ m, n = m + 1 := ⟨n - 1, by omega⟩; exact h m⟩

theorem adler_loops (s : ByteArray) (hs : s.size ≤ 1048576) (d : Nat) : ∀ (p q i : Int), 0 ≤ p → p < 65521 → 0 ≤ q → q < 65521 → 0 ≤ i → i + d = s.size →
    ∃ r, Ev (fun k => spec_AdlerMore.l0 k s p q i) r ∧ Ev (fun k => impl_AdlerMore.l0 k s p q (s.size : Int) i) r := by
  induction d with
  | zero =>
    intro p q i hp0 hp1 hq0 hq1 hi h
    refine ⟨q * 65536 + p, Ev.step (f := fun _ => some (q * 65536 + p)) (fun k => ?_) (Ev.now _), Ev.step (f := fun _ => some (q * 65536 + p)) (fun k => ?_) (Ev.now _)⟩
    · rw [spec_AdlerMore.l0, if_neg (by omega)]
      congr 1
      omega
    · rw [impl_AdlerMore.l0, if_neg (by omega), w64_id (by omega) (by omega), or64 16 _ _ (by omega) (by omega) (by omega) hp0 (by omega) (by omega)]
      congr 1
      omega
  | succ d ih =>
    intro p q i hp0 hp1 hq0 hq1 hi h
    have b0 := bt_lo s i
    have b1 := bt_hi s i
    obtain ⟨r, h1, h2⟩ := ih ((p + bt s i) % 65521) ((q + (p + bt s i) % 65521) % 65521) (i + 1) (by omega) (by omega) (by omega) (by omega) (by omega) (by omega)
    refine ⟨r, Ev.step (fun k => ?_) h1, Ev.step (fun k => ?_) h2⟩
    · rw [spec_AdlerMore.l0, if_pos (by omega), if_pos (by omega), w64_id (x := i + 1) (by omega) (by omega)]
      have e1 : ((p + ((bt s i) % 4294967296)) % 4294967296) % 65521 = (p + bt s i) % 65521 := by omega
      rw [e1]
      have e2 : ((q + (p + bt s i) % 65521) % 4294967296) % 65521 = (q + (p + bt s i) % 65521) % 65521 := by omega
      rw [e2]
    · rw [impl_AdlerMore.l0, if_pos (by omega), if_pos (by omega), if_pos (by omega), w64_id (x := i + 1) (by omega) (by omega), w64_id (x := bt s i) (by omega) (by omega), w64_id (x := p + bt s i) (by omega) (by omega), tmod_nn _ (a := p + bt s i) (by omega), w64_id (x := q + (p + bt s i) % 65521) (by omega) (by omega), tmod_nn _ (a := q + (p + bt s i) % 65521) (by omega)]
theorem parts_are (a : Int) (h0 : 0 ≤ a) (h1 : a ≤ 4294967295) : impl_parts.f a = some (a % 65536 % 65521, a / 65536 % 65521) := by
  unfold impl_parts.f
  have e : Go.bits .and .u32 a 65535 = a % 65536 := bits_mask .u32 32 (by decide) wrapsu32 16 (by decide) a h0 (by omega)
  rw [e, w64_id (by omega) (by omega), w64_id (by omega) (by omega), tmod_nn _ (by omega), tmod_nn _ (by omega)]
theorem adler_more (a : Int) (s : ByteArray) (h0 : 0 ≤ a) (h1 : a ≤ 4294967295) (hs : s.size ≤ 1048576) :
    ∃ r, Ev (fun k => spec_AdlerMore.f k a s) r ∧ Ev (fun k => impl_AdlerMore.f k a s) r := by
  obtain ⟨r, e1, e2⟩ := adler_loops s hs s.size (a % 65536 % 65521) (a / 65536 % 65521) 0 (by omega) (by omega) (by omega) (by omega) (by omega) (by omega)
  refine ⟨r, Ev.congr (fun k => ?_) e1, Ev.congr (fun k => ?_) e2⟩
  · unfold spec_AdlerMore.f
    rw [tmod_nn _ h0, tmod_nn _ (by omega), tdiv_nn _ h0]
    congr 1
    omega
  · unfold impl_AdlerMore.f
    rw [parts_are a h0 h1]
    rfl

theorem FnExactAdler : laws_FnExactAdler.Pure := by
  intro s hs
  by_cases hb : (s.size : Int) > 1048576
  · exact ⟨0, by unfold laws_FnExactAdler.f; rw [if_pos hb]⟩
  · obtain ⟨r, e1, e2⟩ := adler_more 1 s (by omega) (by omega) (by omega)
    obtain ⟨k, g1, g2⟩ := ev_two e1 e2
    refine ⟨k, ?_⟩
    unfold laws_FnExactAdler.f spec_Adler.f impl_Adler.f
    rw [if_neg hb, g1, g2]
    simp

end Go.Proofs.Ytaknchcnapdllaa.Pure
