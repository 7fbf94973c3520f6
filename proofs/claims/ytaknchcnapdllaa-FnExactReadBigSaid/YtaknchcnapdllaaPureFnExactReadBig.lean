/- The law FnExactReadBig: for every input within the row's bounds the printed function answers true: what the program's function tells is what the law asks. Conditions: only the bounds that the row itself gives (sizes of strings and slices, ranges of the number kinds). -/
import Derived.Test.YtaknchcnapdllaaPFnExactReadBigx1
namespace Go.Proofs.Ytaknchcnapdllaa.Pure
open Go.RowKit Go.Proofs.Ytaknchcnapdllaa.PFnExactReadBig Go.Proofs.YtaknchcnapdllaaW.PrintWords Go.Proofs.YtaknchcnapdllaaW.PrintLast Go.Proofs.YtaknchcnapdllaaW.PrintMore
set_option linter.unusedVariables false
set_option linter.unusedSimpArgs false

theorem w64_id {x : Int} (h0 : -9223372036854775808 ≤ x) (h1 : x ≤ 9223372036854775807) : wrap64 x = x := by unfold wrap64; omega
theorem tmod_nn {a : Int} (b : Int) (h : 0 ≤ a) : Int.tmod a b = a % b := Int.tmod_eq_emod_of_nonneg h
theorem tdiv_nn {a : Int} (b : Int) (h : 0 ≤ a) : Int.tdiv a b = a / b := Int.tdiv_eq_ediv_of_nonneg h
theorem wf64 {n : Int} (h : (Lit.int .i64 n).wf = true) : -9223372036854775808 ≤ n ∧ n ≤ 9223372036854775807 := by
  simp [Lit.wf, IntKind.min, IntKind.max, IntKind.signed, IntKind.bits] at h
  omega
theorem wfu32 {n : Int} (h : (Lit.int .u32 n).wf = true) : 0 ≤ n ∧ n ≤ 4294967295 := by
  simp [Lit.wf, IntKind.min, IntKind.max, IntKind.signed, IntKind.bits] at h
  omega
theorem wraps64 (n : Int) (h0 : 0 ≤ n) (h1 : n < 2 ^ 63) : IntKind.i64.wrap n = n := by rw [IntKind.wrap_i64]; omega
theorem wrapsu32 (n : Int) (h0 : 0 ≤ n) (h1 : n < 2 ^ 32) : IntKind.u32.wrap n = n := by rw [IntKind.wrap_u32]; omega
/-- a | b of parts that do not meet, of an int. -/
theorem or64 (i : Nat) (x y : Int) (hx0 : 0 ≤ x) (hx : x % 2 ^ i = 0) (hx1 : x < 2 ^ 63) (hy0 : 0 ≤ y) (hy : y < 2 ^ i) (hy1 : y < 2 ^ 63) : Go.bits .or .i64 x y = x + y :=
  bits_join .i64 63 (by decide) wraps64 i x y hx0 hx hx1 hy0 hy hy1
theorem ev_ite_pos {α : Type} {c : Prop} [Decidable c] {f g : Nat → Option α} {r : α} (h : c) (k : Ev f r) : Ev (fun n => if c then f n else g n) r := Ev.congr (fun n => if_pos h) k
theorem ev_ite_neg {α : Type} {c : Prop} [Decidable c] {f g : Nat → Option α} {r : α} (h : ¬ c) (k : Ev g r) : Ev (fun n => if c then f n else g n) r := Ev.congr (fun n => if_neg h) k
/-- A callee without rounds that answers. -/
theorem ev_bind0 {α β : Type} {o : Option α} {f : Nat → α → Option β} {a : α} {r : β} (h : o = some a) (k : Ev (fun n => f n a) r) : Ev (fun n => o.bind (f n)) r := Ev.congr (fun n => by rw [h]; rfl) k
theorem bt_lo (s : ByteArray) (i : Int) : 0 ≤ bt s i := (bt_range s i).1
theorem bt_hi (s : ByteArray) (i : Int) : bt s i ≤ 255 := (bt_range s i).2
/-- A callee that answers from some number of rounds on, used. -/
theorem ev_use {α β : Type} {g : Nat → Option α} {a : α} {F G : Nat → Option β} {r : β} (e : Ev g a) (h : ∀ k, g k = some a → F k = G k) (c : Ev G r) : Ev F r := by
  obtain ⟨K, e⟩ := e
  obtain ⟨K', c⟩ := c
  exact ⟨max K K', fun n hn => (h n (e n (by omega))).trans (c n (by omega))⟩
theorem ev_use_step {α β : Type} {g : Nat → Option α} {a : α} {F G : Nat → Option β} {r : β} (e : Ev g a) (h : ∀ k, g k = some a → F (k + 1) = G k) (c : Ev G r) : Ev F r := by
  obtain ⟨K, e⟩ := e
  obtain ⟨K', c⟩ := c
  refine ⟨max K K' + 1, fun n hn => ?_⟩
  obtain ⟨m, rfl⟩ : ∃ m, n = m + 1 := ⟨n - 1, by omega⟩
  exact (h m (e m (by omega))).trans (c m (by omega))
theorem ev_end {α β : Type} {g : Nat → Option α} {a : α} {F : Nat → Option β} {r : β} (e : Ev g a) (h : ∀ k, g k = some a → F k = some r) : Ev F r := by
  obtain ⟨K, e⟩ := e
  exact ⟨K, fun n hn => h n (e n hn)⟩
theorem ev_two {α β : Type} {g : Nat → Option α} {h : Nat → Option β} {a : α} {b : β} (e : Ev g a) (f : Ev h b) : ∃ k, g k = some a ∧ h k = some b := by
  obtain ⟨K, e⟩ := e
  obtain ⟨K', f⟩ := f
  exact ⟨max K K', e _ (by omega), f _ (by omega)⟩
theorem ev_ret {α : Type} {F : Nat → Option α} {r : α} (h : ∀ k, F (k + 1) = some r) : Ev F r := ⟨1, fun n hn => by obtain ⟨m, rfl⟩ : ∃ m, n = m + 1 := ⟨n - 1, by omega⟩; exact h m⟩

theorem in_spec (a b c : Int) : spec_l01In.f a b c = some (decide (b ≤ a ∧ a ≤ c)) := by
  unfold spec_l01In.f
  split
  · rename_i h
    have e : (decide (a ≤ c)) = decide (b ≤ a ∧ a ≤ c) := decide_eq_decide.mpr ⟨fun h' => ⟨h, h'⟩, fun h' => h'.2⟩
    rw [e]
  · rename_i h
    have e : (decide (b ≤ a ∧ a ≤ c)) = false := decide_eq_false fun h' => h h'.1
    rw [e]
theorem in_impl (a b c : Int) : impl_within.f a b c = some (decide (b ≤ a ∧ a ≤ c)) := by
  unfold impl_within.f
  split
  · rename_i h
    have e : (decide (a ≤ c)) = decide (b ≤ a ∧ a ≤ c) := decide_eq_decide.mpr ⟨fun h' => ⟨h, h'⟩, fun h' => h'.2⟩
    rw [e]
  · rename_i h
    have e : (decide (b ≤ a ∧ a ≤ c)) = false := decide_eq_false fun h' => h h'.1
    rw [e]

theorem rb_loops (s : ByteArray) (hs : s.size ≤ 1048576) (a n : Int) (ha : 0 ≤ a) (hn : n ≤ 4) (hm : a + n ≤ s.size) (d : Nat) : ∀ (x i : Int), 0 ≤ x →
    ((i = 0 ∧ x < 1) ∨ (i = 1 ∧ x < 256) ∨ (i = 2 ∧ x < 65536) ∨ (i = 3 ∧ x < 16777216) ∨ (i = 4 ∧ x < 4294967296)) → i + d = n →
    ∃ r, Ev (fun k => spec_ReadBig.l0 k s a n x i) (r, true) ∧ Ev (fun k => impl_ReadBig.l0 k s a x n i) (r, true) := by
  induction d with
  | zero =>
    intro x i hx hi h
    refine ⟨x, Ev.step (f := fun _ => some (x, true)) (fun k => ?_) (Ev.now _), Ev.step (f := fun _ => some (x, true)) (fun k => ?_) (Ev.now _)⟩
    · rw [spec_ReadBig.l0, if_neg (by omega)]
    · rw [impl_ReadBig.l0, if_neg (by omega)]
  | succ d ih =>
    intro x i hx hi h
    have e0 : wrap64 (a + i) = a + i := w64_id (by omega) (by omega)
    have b0 := bt_lo s (a + i)
    have b1 := bt_hi s (a + i)
    obtain ⟨r, h1, h2⟩ := ih (256 * x + bt s (a + i)) (i + 1) (by omega) (by omega) (by omega)
    refine ⟨r, Ev.step (fun k => ?_) h1, Ev.step (fun k => ?_) h2⟩
    · rw [spec_ReadBig.l0, e0, if_pos (by omega), if_pos (by omega), if_pos (by omega), w64_id (x := i + 1) (by omega) (by omega), w64_id (x := bt s (a + i)) (by omega) (by omega), w64_id (x := 256 * x) (by omega) (by omega), w64_id (x := 256 * x + bt s (a + i)) (by omega) (by omega)]
    · rw [impl_ReadBig.l0, e0, if_pos (by omega), if_pos (by omega), if_pos (by omega), w64_id (x := i + 1) (by omega) (by omega), w64_id (x := bt s (a + i)) (by omega) (by omega), w64_id (x := x * 256) (by omega) (by omega), or64 8 _ _ (by omega) (by omega) (by omega) (by omega) (by omega) (by omega), Int.mul_comm x 256]
theorem rb_both (s : ByteArray) (hs : s.size ≤ 1048576) (a n : Int) :
    (1 ≤ n ∧ n ≤ 4 ∧ 0 ≤ a ∧ a ≤ s.size - n → ∃ r, Ev (fun k => spec_ReadBig.f k s a n) (r, true) ∧ Ev (fun k => impl_ReadBig.f k s a n) (r, true)) ∧
    (¬ (1 ≤ n ∧ n ≤ 4 ∧ 0 ≤ a ∧ a ≤ s.size - n) → Ev (fun k => spec_ReadBig.f k s a n) (0, false) ∧ Ev (fun k => impl_ReadBig.f k s a n) (0, false)) := by
  have s1 : Ev (fun k => spec_ReadBig.j0 k s a n true) (0, false) := Ev.step (f := fun _ => some (0, false)) (fun k => by rw [spec_ReadBig.j0, if_pos rfl]) (Ev.now _)
  have i1 : Ev (fun k => impl_ReadBig.j0 k s a n true) (0, false) := Ev.step (f := fun _ => some (0, false)) (fun k => by rw [impl_ReadBig.j0, if_pos rfl]) (Ev.now _)
  constructor
  · intro ⟨h1, h2, h3, h4⟩
    obtain ⟨r, e1, e2⟩ := rb_loops s hs a n h3 h2 (by omega) n.toNat 0 0 (by omega) (by omega) (by omega)
    have s2 : Ev (fun k => spec_ReadBig.j0 k s a n false) (r, true) := Ev.step (fun k => by rw [spec_ReadBig.j0, if_neg (by decide)]) e1
    have i2 : Ev (fun k => impl_ReadBig.j0 k s a n false) (r, true) := Ev.step (fun k => by rw [impl_ReadBig.j0, if_neg (by decide)]) e2
    have ht : decide (1 ≤ n ∧ n ≤ 4) = true := decide_eq_true ⟨h1, h2⟩
    have hw : wrap64 ((s.size : Int) - n) = s.size - n := w64_id (by omega) (by omega)
    have hd : decide (a > (s.size : Int) - n) = false := decide_eq_false (by omega)
    refine ⟨r, Ev.congr (fun k => ?_) s2, Ev.congr (fun k => ?_) i2⟩
    · unfold spec_ReadBig.f
      rw [in_spec, ht, Option.bind_some, if_pos rfl, if_neg (by omega), hw, hd]
    · unfold impl_ReadBig.f
      rw [in_impl, ht, Option.bind_some, if_pos rfl, if_neg (by omega), hw, hd]
  · intro h
    refine ⟨Ev.congr (fun k => ?_) s1, Ev.congr (fun k => ?_) i1⟩
    · unfold spec_ReadBig.f
      rw [in_spec, Option.bind_some]
      split
      · rename_i h1
        have h2 := of_decide_eq_true h1
        split
        · rfl
        · have hw : wrap64 ((s.size : Int) - n) = s.size - n := w64_id (by omega) (by omega)
          have hd : decide (a > (s.size : Int) - n) = true := decide_eq_true (by omega)
          rw [hw, hd]
      · rfl
    · unfold impl_ReadBig.f
      rw [in_impl, Option.bind_some]
      split
      · rename_i h1
        have h2 := of_decide_eq_true h1
        split
        · rfl
        · have hw : wrap64 ((s.size : Int) - n) = s.size - n := w64_id (by omega) (by omega)
          have hd : decide (a > (s.size : Int) - n) = true := decide_eq_true (by omega)
          rw [hw, hd]
      · rfl

theorem FnExactReadBig : laws_FnExactReadBig.Pure := by
  intro s a n hs ha hn
  by_cases hb : (s.size : Int) > 1048576
  · exact ⟨0, by unfold laws_FnExactReadBig.f; rw [if_pos hb]⟩
  · have go : ∀ r : Int × Bool, Ev (fun k => spec_ReadBig.f k s a n) r → Ev (fun k => impl_ReadBig.f k s a n) r → ∃ k, laws_FnExactReadBig.f k s a n = some true := by
      intro r e1 e2
      obtain ⟨k, g1, g2⟩ := ev_two e1 e2
      refine ⟨k, ?_⟩
      unfold laws_FnExactReadBig.f
      rw [if_neg hb, g1, g2]
      simp
    obtain ⟨g1, g2⟩ := rb_both s (by omega) a n
    by_cases h : 1 ≤ n ∧ n ≤ 4 ∧ 0 ≤ a ∧ a ≤ s.size - n
    · obtain ⟨r, e1, e2⟩ := g1 h
      exact go _ e1 e2
    · obtain ⟨e1, e2⟩ := g2 h
      exact go _ e1 e2

end Go.Proofs.Ytaknchcnapdllaa.Pure
