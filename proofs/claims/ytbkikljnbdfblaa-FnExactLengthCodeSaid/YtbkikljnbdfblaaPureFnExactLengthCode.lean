/- The law FnExactLengthCode: for every input within the row's bounds the printed function answers true: what the program's function tells is what the law asks. Conditions: only the bounds that the row itself gives (sizes of strings and slices, ranges of the number kinds). -/
import Derived.Test.YtbkikljnbdfblaaPFnExactLengthCodex1
namespace Go.Proofs.Ytbkikljnbdfblaa.Pure
open Go.RowKit Go.Proofs.Ytbkikljnbdfblaa.PFnExactLengthCode Go.Proofs.YtbkikljnbdfblaaW.PrintWords Go.Proofs.YtbkikljnbdfblaaW.PrintLast Go.Proofs.YtbkikljnbdfblaaW.PrintMore
set_option linter.unusedVariables false
set_option linter.unusedSimpArgs false

theorem w64_id {x : Int} (h0 : -9223372036854775808 ≤ x) (h1 : x ≤ 9223372036854775807) : wrap64 x = x := by unfold wrap64; omega
theorem tmod_nn {a : Int} (b : Int) (h : 0 ≤ a) : Int.tmod a b = a % b := Int.tmod_eq_emod_of_nonneg h
theorem tdiv_nn {a : Int} (b : Int) (h : 0 ≤ a) : Int.tdiv a b = a / b := Int.tdiv_eq_ediv_of_nonneg h
theorem wf64 {n : Int} (h : (Lit.int .i64 n).wf = true) : -9223372036854775808 ≤ n ∧ n ≤ 9223372036854775807 := by
  simp [Lit.wf, IntKind.min, IntKind.max, IntKind.signed, IntKind.bits] at h
  omega
theorem wfu32 {n : Int} (h : (Lit.int .u32 n).wf = true) : 0 ≤ n ∧ n ≤ 4294967295 := by
  simp [Lit.wf, IntKind.min, IntKind.max, IntKind.signed, IntKind.bits] at h
  omega
theorem wraps64 (n : Int) (h0 : 0 ≤ n) (h1 : n < 2 ^ 63) : IntKind.i64.wrap n = n := by rw [IntKind.wrap_i64]; omega
theorem wrapsu32 (n : Int) (h0 : 0 ≤ n) (h1 : n < 2 ^ 32) : IntKind.u32.wrap n = n := by rw [IntKind.wrap_u32]; omega
/-- a | b of parts that do not meet, of an int. -/
theorem or64 (i : Nat) (x y : Int) (hx0 : 0 ≤ x) (hx : x % 2 ^ i = 0) (hx1 : x < 2 ^ 63) (hy0 : 0 ≤ y) (hy : y < 2 ^ i) (hy1 : y < 2 ^ 63) : Go.bits .or .i64 x y = x + y :=
  bits_join .i64 63 (by decide) wraps64 i x y hx0 hx hx1 hy0 hy hy1
theorem ev_ite_pos {α : Type} {c : Prop} [Decidable c] {f g : Nat → Option α} {r : α} (h : c) (k : Ev f r) : Ev (fun n => if c then f n else g n) r := Ev.congr (fun n => if_pos h) k
theorem ev_ite_neg {α : Type} {c : Prop} [Decidable c] {f g : Nat → Option α} {r : α} (h : ¬ c) (k : Ev g r) : Ev (fun n => if c then f n else g n) r := Ev.congr (fun n => if_neg h) k
/-- A callee without rounds that answers. -/
theorem ev_bind0 {α β : Type} {o : Option α} {f : Nat → α → Option β} {a : α} {r : β} (h : o = some a) (k : Ev (fun n => f n a) r) : Ev (fun n => o.bind (f n)) r := Ev.congr (fun n => by rw [h]; rfl) k
theorem bt_lo (s : ByteArray) (i : Int) : 0 ≤ bt s i := (bt_range s i).1
theorem bt_hi (s : ByteArray) (i : Int) : bt s i ≤ 255 := (bt_range s i).2
/-- A callee that answers from some number of rounds on, used. -/
theorem ev_use {α β : Type} {g : Nat → Option α} {a : α} {F G : Nat → Option β} {r : β} (e : Ev g a) (h : ∀ k, g k = some a → F k = G k) (c : Ev G r) : Ev F r := by
  obtain ⟨K, e⟩ := e
  obtain ⟨K', c⟩ := c
  exact ⟨max K K', fun n hn => (h n (e n (by omega))).trans (c n (by omega))⟩
theorem ev_use_step {α β : Type} {g : Nat → Option α} {a : α} {F G : Nat → Option β} {r : β} (e : Ev g a) (h : ∀ k, g k = some a → F (k + 1) = G k) (c : Ev G r) : Ev F r := by
  obtain ⟨K, e⟩ := e
  obtain ⟨K', c⟩ := c
  refine ⟨max K K' + 1, fun n hn => ?_⟩
  obtain ⟨m, rfl⟩ : ∃ m, n = m + 1 := ⟨n - 1, by omega⟩
  exact (h m (e m (by omega))).trans (c m (by omega))
theorem ev_end {α β : Type} {g : Nat → Option α} {a : α} {F : Nat → Option β} {r : β} (e : Ev g a) (h : ∀ k, g k = some a → F k = some r) : Ev F r := by
  obtain ⟨K, e⟩ := e
  exact ⟨K, fun n hn => h n (e n hn)⟩
theorem ev_two {α β : Type} {g : Nat → Option α} {h : Nat → Option β} {a : α} {b : β} (e : Ev g a) (f : Ev h b) : ∃ k, g k = some a ∧ h k = some b := by
  obtain ⟨K, e⟩ := e
  obtain ⟨K', f⟩ := f
  exact ⟨max K K', e _ (by omega), f _ (by omega)⟩
theorem ev_ret {α : Type} {F : Nat → Option α} {r : α} (h : ∀ k, F (k + 1) = some r) : Ev F r := ⟨1, fun n hn => by obtain ⟨m, rfl⟩ : ∃ m, n = m + 1 := ⟨n - 1, by omega⟩; exact h m⟩

theorem in_spec (a b c : Int) : spec_l01In.f a b c = some (decide (b ≤ a ∧ a ≤ c)) := by
  unfold spec_l01In.f
  split
  · rename_i h
    have e : (decide (a ≤ c)) = decide (b ≤ a ∧ a ≤ c) := decide_eq_decide.mpr ⟨fun h' => ⟨h, h'⟩, fun h' => h'.2⟩
    rw [e]
  · rename_i h
    have e : (decide (b ≤ a ∧ a ≤ c)) = false := decide_eq_false fun h' => h h'.1
    rw [e]

theorem in_impl (a b c : Int) : impl_within.f a b c = some (decide (b ≤ a ∧ a ≤ c)) := by
  unfold impl_within.f
  split
  · rename_i h
    have e : (decide (a ≤ c)) = decide (b ≤ a ∧ a ≤ c) := decide_eq_decide.mpr ⟨fun h' => ⟨h, h'⟩, fun h' => h'.2⟩
    rw [e]
  · rename_i h
    have e : (decide (b ≤ a ∧ a ≤ c)) = false := decide_eq_false fun h' => h h'.1
    rw [e]


/-- Symbol 257 + i: both sides tell the same first length and the same number of extra bits. -/
def lenOk (i : Nat) : Bool :=
  match spec_l06LengthBits.f 64 (257 + i : Nat), impl_lengthSpan.f (257 + i : Nat) with
  | some (b, m), some (m', b') => b == b' && m == m' && (0 ≤ b && b ≤ 5 && 3 ≤ m && m ≤ 258)
  | _, _ => false
theorem len_table : ∀ i, i < 29 → lenOk i = true := by decide +kernel
theorem len_row (i : Nat) (hi : i < 29) : ∃ b m, spec_l06LengthBits.f 64 (257 + i : Nat) = some (b, m) ∧ impl_lengthSpan.f (257 + i : Nat) = some (m, b) ∧ 0 ≤ b ∧ b ≤ 5 ∧ 3 ≤ m ∧ m ≤ 258 := by
  have h := len_table i hi
  unfold lenOk at h
  split at h
  · rename_i b m m' b' h1 h2
    simp only [Bool.and_eq_true, beq_iff_eq, decide_eq_true_eq] at h
    obtain ⟨⟨rfl, rfl⟩, h3⟩ := h
    exact ⟨b, m, h1, h2, h3.1.1.1, h3.1.1.2, h3.1.2, h3.2⟩
  · cases h
/-- The number of extra bits, and the first length, of symbol i. -/
def lB (i : Nat) : Int := ((spec_l06LengthBits.f 64 i).getD (0, 0)).1
def lM (i : Nat) : Int := ((spec_l06LengthBits.f 64 i).getD (0, 0)).2
theorem len_at (i : Nat) (h0 : 257 ≤ i) (hi : i < 286) : Ev (fun k => spec_l06LengthBits.f k i) (lB i, lM i) ∧ impl_lengthSpan.f i = some (lM i, lB i) ∧ 3 ≤ lM i ∧ lM i ≤ 258 := by
  obtain ⟨j, rfl⟩ : ∃ j, i = 257 + j := ⟨i - 257, by omega⟩
  obtain ⟨b, m, h1, h2, _, _, h5, h6⟩ := len_row j (by omega)
  have e1 : lB (257 + j) = b := by unfold lB; rw [h1]; rfl
  have e2 : lM (257 + j) = m := by unfold lM; rw [h1]; rfl
  rw [e1, e2]
  exact ⟨Ev.of (spec_l06LengthBits.mono _) h1, h2, h5, h6⟩
theorem l257 : lM 257 = 3 := by decide +kernel
theorem l285 : lM 285 = 258 ∧ lB 285 = 0 := by decide +kernel
attribute [irreducible] lB lM
theorem len_find (n : Int) (hn : 3 ≤ n) (m : Nat) (h0 : 257 ≤ m) (hm : m < 286) : ∃ t, 257 ≤ t ∧ t ≤ m ∧ lM t ≤ n ∧ ∀ s, t < s → s ≤ m → n < lM s := by
  obtain ⟨j, rfl⟩ : ∃ j, m = 257 + j := ⟨m - 257, by omega⟩
  clear h0
  induction j with
  | zero => exact ⟨257, Nat.le_refl _, Nat.le_refl _, by have : lM 257 = 3 := l257
                                                         omega, fun s h1 h2 => by omega⟩
  | succ m ih =>
    by_cases h : lM (257 + (m + 1)) ≤ n
    · exact ⟨257 + (m + 1), by omega, Nat.le_refl _, h, fun s h1 h2 => by omega⟩
    · obtain ⟨t, h0, h1, h2, h3⟩ := ih (by omega)
      refine ⟨t, h0, by omega, h2, fun s hs1 hs2 => ?_⟩
      by_cases e : s = 257 + (m + 1)
      · subst e; omega
      · exact h3 s hs1 (by omega)
theorem len_tail (n : Int) (hn : n < 258) (t : Nat) (ht0 : 257 ≤ t) (ht : t < 285) (hall : ∀ s, t < s → s ≤ 285 → n < lM s) (d : Nat) : ∀ s : Nat, t < s → s + d = 285 →
    Ev (fun k => spec_LengthCode.l0 k n t (lB t) (lM t) s) ((t : Int), lB t, wrap64 (n - lM t)) := by
  induction d with
  | zero =>
    intro s h1 h2
    refine Ev.step (f := fun k => spec_LengthCode.j1 k n t (lB t) (lM t) s false) (fun k => by rw [spec_LengthCode.l0, if_neg (by omega)]) (ev_ret (fun k => by rw [spec_LengthCode.j1, if_neg (by decide)]))
  | succ d ih =>
    intro s h1 h2
    obtain ⟨e, _⟩ := len_at s (by omega) (by omega)
    have hd : decide (n < 258) = true := decide_eq_true hn
    refine Ev.step (f := fun k => spec_LengthCode.j1 k n t (lB t) (lM t) s true) (fun k => by rw [spec_LengthCode.l0, if_pos (by omega), hd]) ?_
    refine ev_use_step e (fun k hk => ?_) (ih (s + 1) (by omega) (by omega))
    have hlt := hall s h1 (by omega)
    rw [spec_LengthCode.j1, if_pos rfl, hk, Option.bind_some, if_neg (by omega), w64_id (x := (s : Int) + 1) (by omega) (by omega)]
    rfl
theorem len_head (n : Int) (hn : n < 258) (t : Nat) (ht0 : 257 ≤ t) (ht : t < 285) (hle : lM t ≤ n) (hall : ∀ s, t < s → s ≤ 285 → n < lM s) (d : Nat) : ∀ (s : Nat) (x y z : Int), 257 ≤ s → s + d = t →
    Ev (fun k => spec_LengthCode.l0 k n x y z s) ((t : Int), lB t, wrap64 (n - lM t)) := by
  have hd : decide (n < 258) = true := decide_eq_true hn
  induction d with
  | zero =>
    intro s x y z hs h
    obtain rfl : s = t := by omega
    obtain ⟨e, _⟩ := len_at s ht0 (by omega)
    refine Ev.step (f := fun k => spec_LengthCode.j1 k n x y z s true) (fun k => by rw [spec_LengthCode.l0, if_pos (by omega), hd]) ?_
    refine ev_use_step e (fun k hk => ?_) (len_tail n hn s ht0 ht hall (284 - s) (s + 1) (by omega) (by omega))
    rw [spec_LengthCode.j1, if_pos rfl, hk, Option.bind_some, if_pos hle, w64_id (x := (s : Int) + 1) (by omega) (by omega)]
    rfl
  | succ d ih =>
    intro s x y z hs h
    obtain ⟨e, _⟩ := len_at s (by omega) (by omega)
    refine Ev.step (f := fun k => spec_LengthCode.j1 k n x y z s true) (fun k => by rw [spec_LengthCode.l0, if_pos (by omega), hd]) ?_
    by_cases c : lM s ≤ n
    · refine ev_use_step e (fun k hk => ?_) (ih (s + 1) s (lB s) (lM s) (by omega) (by omega))
      rw [spec_LengthCode.j1, if_pos rfl, hk, Option.bind_some, if_pos c, w64_id (x := (s : Int) + 1) (by omega) (by omega)]
      rfl
    · refine ev_use_step e (fun k hk => ?_) (ih (s + 1) x y z (by omega) (by omega))
      rw [spec_LengthCode.j1, if_pos rfl, hk, Option.bind_some, if_neg c, w64_id (x := (s : Int) + 1) (by omega) (by omega)]
      rfl
theorem len_down (n : Int) (t : Nat) (ht0 : 257 ≤ t) (ht : t < 286) (hle : lM t ≤ n) (hall : ∀ s, t < s → s ≤ 285 → n < lM s) (d : Nat) : ∀ s : Nat, s = t + d → s < 286 →
    Ev (fun k => impl_LengthCode.l0 k n s (lM s) (lB s)) ((t : Int), lB t, wrap64 (n - lM t)) := by
  induction d with
  | zero =>
    intro s h hs
    obtain rfl : s = t := by omega
    exact ev_ret (fun k => by rw [impl_LengthCode.l0, if_neg (by omega)])
  | succ d ih =>
    intro s h hs
    have hlt := hall s (by omega) (by omega)
    obtain ⟨_, e, _⟩ := len_at (s - 1) (by omega) (by omega)
    have hc : ((s : Int) - 1) = ((s - 1 : Nat) : Int) := by omega
    refine Ev.step (fun k => ?_) (ih (s - 1) (by omega) (by omega))
    rw [impl_LengthCode.l0, if_pos (by omega), w64_id (x := (s : Int) - 1) (by omega) (by omega), hc, e]
    rfl
/-- What the code of a length comes to, on both sides. -/
theorem len_both (n : Int) (h0 : 3 ≤ n) (h1 : n ≤ 258) : ∃ t : Nat, 257 ≤ t ∧ t < 286 ∧ lM t ≤ n ∧ (∀ s, t < s → s ≤ 285 → n < lM s) ∧
    Ev (fun k => spec_LengthCode.f k n) ((t : Int), lB t, wrap64 (n - lM t)) ∧ Ev (fun k => impl_LengthCode.f k n) ((t : Int), lB t, wrap64 (n - lM t)) := by
  obtain ⟨t, ht0, ht, hle, hall⟩ := len_find n h0 285 (by omega) (by omega)
  obtain ⟨m285, b285⟩ := l285
  have hdown := len_down n t ht0 (by omega) hle hall (285 - t) 285 (by omega) (by omega)
  rw [show ((285 : Nat) : Int) = 285 by omega] at hdown
  refine ⟨t, ht0, by omega, hle, hall, ?_, Ev.congr (fun k => ?_) hdown⟩
  · by_cases hn : n < 258
    · have ht2 : t < 285 := by
        rcases Nat.lt_or_ge t 285 with h | h
        · exact h
        · obtain rfl : t = 285 := by omega
          omega
      have h := len_head n hn t ht0 ht2 hle hall (t - 257) 257 285 0 258 (by omega) (by omega)
      rw [show ((257 : Nat) : Int) = 257 by omega] at h
      refine Ev.congr (fun k => ?_) h
      unfold spec_LengthCode.f
      rw [in_spec, decide_eq_true ⟨h0, h1⟩]
      simp only [Option.bind_some, if_true]
    · obtain rfl : n = 258 := by omega
      obtain rfl : t = 285 := by
        rcases Nat.lt_or_ge t 285 with h | h
        · have := hall 285 h (by omega)
          omega
        · omega
      rw [m285, b285, show ((285 : Nat) : Int) = 285 by omega]
      refine Ev.congr (f := fun k => spec_LengthCode.l0 k 258 285 0 258 257) (fun k => ?_) ?_
      · unfold spec_LengthCode.f
        rw [in_spec, decide_eq_true (by omega)]
        simp only [Option.bind_some, if_true]
      · refine Ev.step (f := fun k => spec_LengthCode.j1 k 258 285 0 258 257 false) (fun k => by rw [spec_LengthCode.l0, if_pos (by omega)]; rw [decide_eq_false (by omega)]) (ev_ret (fun k => by rw [spec_LengthCode.j1, if_neg (by decide)]))
  · unfold impl_LengthCode.f
    rw [in_impl, decide_eq_true ⟨h0, h1⟩]
    obtain ⟨_, e, _⟩ := len_at 285 (by omega) (by omega)
    rw [show ((285 : Nat) : Int) = 285 by omega] at e
    simp only [Option.bind_some, if_true, e]
theorem len_out (n : Int) (h : ¬ (3 ≤ n ∧ n ≤ 258)) : (∀ k, spec_LengthCode.f k n = some (0, 0, 0)) ∧ (∀ k, impl_LengthCode.f k n = some (0, 0, 0)) := by
  constructor
  · intro k
    unfold spec_LengthCode.f
    rw [in_spec, decide_eq_false h]
    rfl
  · intro k
    unfold impl_LengthCode.f
    rw [in_impl, decide_eq_false h]
    rfl

theorem FnExactLengthCode : laws_FnExactLengthCode.Pure := by
  intro n hn
  have go : ∀ r : Int × Int × Int, Ev (fun k => spec_LengthCode.f k n) r → Ev (fun k => impl_LengthCode.f k n) r → ∃ k, laws_FnExactLengthCode.f k n = some true := by
    intro r e1 e2
    obtain ⟨k, g1, g2⟩ := ev_two e1 e2
    refine ⟨k, ?_⟩
    unfold laws_FnExactLengthCode.f
    rw [g1, g2]
    simp
  by_cases h : 3 ≤ n ∧ n ≤ 258
  · obtain ⟨t, _, _, _, _, e1, e2⟩ := len_both n h.1 h.2
    exact go _ e1 e2
  · obtain ⟨e1, e2⟩ := len_out n h
    exact go (0, 0, 0) (Ev.congr e1 (Ev.now _)) (Ev.congr e2 (Ev.now _))

end Go.Proofs.Ytbkikljnbdfblaa.Pure
