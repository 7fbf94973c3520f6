/- The law FnExactTokensCost: for every input within the row's bounds the printed function answers true: what the program's function tells is what the law asks. Conditions: only the bounds that the row itself gives (sizes of strings and slices, ranges of the number kinds). -/
import Derived.Test.YtbkikljnbdfblaaPFnExactTokensCostx4
namespace Go.Proofs.Ytbkikljnbdfblaa.Pure
open Go.RowKit Go.Proofs.Ytbkikljnbdfblaa.PFnExactTokensCost Go.Proofs.YtbkikljnbdfblaaW.PrintWords Go.Proofs.YtbkikljnbdfblaaW.PrintLast Go.Proofs.YtbkikljnbdfblaaW.PrintMore
set_option linter.unusedVariables false
set_option linter.unusedSimpArgs false

theorem w64_id {x : Int} (h0 : -9223372036854775808 ≤ x) (h1 : x ≤ 9223372036854775807) : wrap64 x = x := by unfold wrap64; omega
theorem tmod_nn {a : Int} (b : Int) (h : 0 ≤ a) : Int.tmod a b = a % b := Int.tmod_eq_emod_of_nonneg h
theorem tdiv_nn {a : Int} (b : Int) (h : 0 ≤ a) : Int.tdiv a b = a / b := Int.tdiv_eq_ediv_of_nonneg h
theorem wf64 {n : Int} (h : (Lit.int .i64 n).wf = true) : -9223372036854775808 ≤ n ∧ n ≤ 9223372036854775807 := by
  simp [Lit.wf, IntKind.min, IntKind.max, IntKind.signed, IntKind.bits] at h
  omega
theorem wfu32 {n : Int} (h : (Lit.int .u32 n).wf = true) : 0 ≤ n ∧ n ≤ 4294967295 := by
  simp [Lit.wf, IntKind.min, IntKind.max, IntKind.signed, IntKind.bits] at h
  omega
theorem wraps64 (n : Int) (h0 : 0 ≤ n) (h1 : n < 2 ^ 63) : IntKind.i64.wrap n = n := by rw [IntKind.wrap_i64]; omega
theorem wrapsu32 (n : Int) (h0 : 0 ≤ n) (h1 : n < 2 ^ 32) : IntKind.u32.wrap n = n := by rw [IntKind.wrap_u32]; omega
/-- a | b of parts that do not meet, of an int. -/
theorem or64 (i : Nat) (x y : Int) (hx0 : 0 ≤ x) (hx : x % 2 ^ i = 0) (hx1 : x < 2 ^ 63) (hy0 : 0 ≤ y) (hy : y < 2 ^ i) (hy1 : y < 2 ^ 63) : Go.bits .or .i64 x y = x + y :=
  bits_join .i64 63 (by decide) wraps64 i x y hx0 hx hx1 hy0 hy hy1
theorem ev_ite_pos {α : Type} {c : Prop} [Decidable c] {f g : Nat → Option α} {r : α} (h : c) (k : Ev f r) : Ev (fun n => if c then f n else g n) r := Ev.congr (fun n => if_pos h) k
theorem ev_ite_neg {α : Type} {c : Prop} [Decidable c] {f g : Nat → Option α} {r : α} (h : ¬ c) (k : Ev g r) : Ev (fun n => if c then f n else g n) r := Ev.congr (fun n => if_neg h) k
/-- A callee without rounds that answers. -/
theorem ev_bind0 {α β : Type} {o : Option α} {f : Nat → α → Option β} {a : α} {r : β} (h : o = some a) (k : Ev (fun n => f n a) r) : Ev (fun n => o.bind (f n)) r := Ev.congr (fun n => by rw [h]; rfl) k
theorem bt_lo (s : ByteArray) (i : Int) : 0 ≤ bt s i := (bt_range s i).1
theorem bt_hi (s : ByteArray) (i : Int) : bt s i ≤ 255 := (bt_range s i).2
/-- A callee that answers from some number of rounds on, used. -/
theorem ev_use {α β : Type} {g : Nat → Option α} {a : α} {F G : Nat → Option β} {r : β} (e : Ev g a) (h : ∀ k, g k = some a → F k = G k) (c : Ev G r) : Ev F r := by
  obtain ⟨K, e⟩ := e
  obtain ⟨K', c⟩ := c
  exact ⟨max K K', fun n hn => (h n (e n (by omega))).trans (c n (by omega))⟩
theorem ev_use_step {α β : Type} {g : Nat → Option α} {a : α} {F G : Nat → Option β} {r : β} (e : Ev g a) (h : ∀ k, g k = some a → F (k + 1) = G k) (c : Ev G r) : Ev F r := by
  obtain ⟨K, e⟩ := e
  obtain ⟨K', c⟩ := c
  refine ⟨max K K' + 1, fun n hn => ?_⟩
  obtain ⟨m, rfl⟩ : ∃ m, n = m + 1 := ⟨n - 1, by omega⟩
  exact (h m (e m (by omega))).trans (c m (by omega))
theorem ev_end {α β : Type} {g : Nat → Option α} {a : α} {F : Nat → Option β} {r : β} (e : Ev g a) (h : ∀ k, g k = some a → F k = some r) : Ev F r := by
  obtain ⟨K, e⟩ := e
  exact ⟨K, fun n hn => h n (e n hn)⟩
theorem ev_two {α β : Type} {g : Nat → Option α} {h : Nat → Option β} {a : α} {b : β} (e : Ev g a) (f : Ev h b) : ∃ k, g k = some a ∧ h k = some b := by
  obtain ⟨K, e⟩ := e
  obtain ⟨K', f⟩ := f
  exact ⟨max K K', e _ (by omega), f _ (by omega)⟩
theorem ev_ret {α : Type} {F : Nat → Option α} {r : α} (h : ∀ k, F (k + 1) = some r) : Ev F r := ⟨1, fun n hn => by obtain ⟨m, rfl⟩ : ∃ m, n = m + 1 := ⟨n - 1, by omega⟩; exact h m⟩

theorem in_spec (a b c : Int) : spec_l01In.f a b c = some (decide (b ≤ a ∧ a ≤ c)) := by
  unfold spec_l01In.f
  split
  · rename_i h
    have e : (decide (a ≤ c)) = decide (b ≤ a ∧ a ≤ c) := decide_eq_decide.mpr ⟨fun h' => ⟨h, h'⟩, fun h' => h'.2⟩
    rw [e]
  · rename_i h
    have e : (decide (b ≤ a ∧ a ≤ c)) = false := decide_eq_false fun h' => h h'.1
    rw [e]

theorem in_impl (a b c : Int) : impl_within.f a b c = some (decide (b ≤ a ∧ a ≤ c)) := by
  unfold impl_within.f
  split
  · rename_i h
    have e : (decide (a ≤ c)) = decide (b ≤ a ∧ a ≤ c) := decide_eq_decide.mpr ⟨fun h' => ⟨h, h'⟩, fun h' => h'.2⟩
    rw [e]
  · rename_i h
    have e : (decide (b ≤ a ∧ a ≤ c)) = false := decide_eq_false fun h' => h h'.1
    rw [e]


/-- Is a token right. -/
def tokB (a b c : Int) : Bool := if b = 0 then decide (0 ≤ a ∧ a ≤ 255 ∧ c = 0) else decide (a = 0 ∧ 3 ≤ b ∧ b ≤ 258 ∧ 1 ≤ c ∧ c ≤ 32768)
theorem tok_spec (a b c : Int) : spec_TokenOk.f a b c = some (tokB a b c) := by
  unfold spec_TokenOk.f tokB
  simp only [in_spec, Option.bind_some]
  split
  · split
    · rename_i h
      have h := of_decide_eq_true h
      congr 1
      rw [Bool.eq_iff_iff]
      simp
      omega
    · rename_i h
      simp at h
      congr 1
      symm
      simp
      omega
  · split
    · split
      · rename_i h1 h
        have h := of_decide_eq_true h
        congr 1
        rw [Bool.eq_iff_iff]
        simp
        omega
      · rename_i h1 h
        simp at h
        congr 1
        symm
        simp
        omega
    · congr 1
      symm
      simp
      omega
theorem tok_impl (a b c : Int) : Ev (fun k => impl_TokenOk.f k a b c) (tokB a b c) := by
  have j : ∀ x, Ev (fun k => impl_TokenOk.j0 k x a b c) (if x = true then decide (0 ≤ a ∧ a ≤ 255) else decide (a = 0 ∧ 3 ≤ b ∧ b ≤ 258 ∧ 1 ≤ c ∧ c ≤ 32768)) := by
    intro x
    refine ev_ret (fun k => ?_)
    rw [impl_TokenOk.j0]
    simp only [in_impl, Option.bind_some]
    split
    · rfl
    · split
      · split
        · rename_i h
          have h := of_decide_eq_true h
          congr 1
          rw [Bool.eq_iff_iff]
          simp
          omega
        · rename_i h
          simp at h
          congr 1
          symm
          simp
          omega
      · congr 1
        symm
        simp
        omega
  unfold tokB
  by_cases hb : b = 0
  · rw [if_pos hb]
    have e : (if (c == 0) = true then decide (0 ≤ a ∧ a ≤ 255) else decide (a = 0 ∧ 3 ≤ b ∧ b ≤ 258 ∧ 1 ≤ c ∧ c ≤ 32768)) = decide (0 ≤ a ∧ a ≤ 255 ∧ c = 0) := by
      split
      · rename_i h
        simp at h
        rw [Bool.eq_iff_iff]
        simp
        omega
      · rename_i h
        simp at h
        rw [Bool.eq_iff_iff]
        simp
        omega
    rw [← e]
    exact Ev.congr (fun k => by unfold impl_TokenOk.f; rw [if_pos hb]) (j (c == 0))
  · rw [if_neg hb]
    exact Ev.congr (fun k => by unfold impl_TokenOk.f; rw [if_neg hb]) (j false)

/-- Symbol i: both sides tell the same first distance and the same number of extra bits. -/
def distOk (i : Nat) : Bool :=
  match spec_l06DistBits.f 64 i, impl_distSpan.f i with
  | some (b, m), some (m', b') => b == b' && m == m' && (0 ≤ b && b ≤ 13 && 1 ≤ m && m ≤ 32768)
  | _, _ => false
theorem dist_table : ∀ i, i < 30 → distOk i = true := by decide +kernel
theorem dist_row (i : Nat) (hi : i < 30) : ∃ b m, spec_l06DistBits.f 64 i = some (b, m) ∧ impl_distSpan.f i = some (m, b) ∧ 0 ≤ b ∧ b ≤ 13 ∧ 1 ≤ m ∧ m ≤ 32768 := by
  have h := dist_table i hi
  unfold distOk at h
  split at h
  · rename_i b m m' b' h1 h2
    simp only [Bool.and_eq_true, beq_iff_eq, decide_eq_true_eq] at h
    obtain ⟨⟨rfl, rfl⟩, h3⟩ := h
    exact ⟨b, m, h1, h2, h3.1.1.1, h3.1.1.2, h3.1.2, h3.2⟩
  · cases h
/-- The number of extra bits, and the first distance, of a symbol. -/
def dB (i : Nat) : Int := ((spec_l06DistBits.f 64 i).getD (0, 0)).1
def dM (i : Nat) : Int := ((spec_l06DistBits.f 64 i).getD (0, 0)).2
theorem dist_at (i : Nat) (hi : i < 30) : Ev (fun k => spec_l06DistBits.f k i) (dB i, dM i) ∧ impl_distSpan.f i = some (dM i, dB i) ∧ 1 ≤ dM i ∧ dM i ≤ 32768 := by
  obtain ⟨b, m, h1, h2, _, _, h5, h6⟩ := dist_row i hi
  have e1 : dB i = b := by unfold dB; rw [h1]; rfl
  have e2 : dM i = m := by unfold dM; rw [h1]; rfl
  rw [e1, e2]
  exact ⟨Ev.of (spec_l06DistBits.mono _) h1, h2, h5, h6⟩
theorem dist_bits (i : Nat) (hi : i < 30) : 0 ≤ dB i ∧ dB i ≤ 13 := by
  obtain ⟨b, m, h1, _, h3, h4, _, _⟩ := dist_row i hi
  have e1 : dB i = b := by unfold dB; rw [h1]; rfl
  rw [e1]
  exact ⟨h3, h4⟩
theorem dist_find (n : Int) (hn : 1 ≤ n) (m : Nat) (hm : m < 30) : ∃ t, t ≤ m ∧ dM t ≤ n ∧ ∀ s, t < s → s ≤ m → n < dM s := by
  induction m with
  | zero => exact ⟨0, Nat.le_refl _, by have : dM 0 = 1 := by decide +kernel
                                        omega, fun s h1 h2 => by omega⟩
  | succ m ih =>
    by_cases h : dM (m + 1) ≤ n
    · exact ⟨m + 1, Nat.le_refl _, h, fun s h1 h2 => by omega⟩
    · obtain ⟨t, h1, h2, h3⟩ := ih (by omega)
      refine ⟨t, by omega, h2, fun s hs1 hs2 => ?_⟩
      by_cases e : s = m + 1
      · subst e; omega
      · exact h3 s hs1 (by omega)
theorem dist_tail (n : Int) (t : Nat) (ht : t < 30) (hall : ∀ s, t < s → s ≤ 29 → n < dM s) (d : Nat) : ∀ s : Nat, t < s → s + d = 30 →
    Ev (fun k => spec_DistCode.l0 k n t (dB t) (dM t) s) ((t : Int), dB t, wrap64 (n - dM t)) := by
  induction d with
  | zero =>
    intro s h1 h2
    exact ev_ret (fun k => by rw [spec_DistCode.l0, if_neg (by omega)])
  | succ d ih =>
    intro s h1 h2
    obtain ⟨e, _⟩ := dist_at s (by omega)
    refine ev_use_step e (fun k hk => ?_) (ih (s + 1) (by omega) (by omega))
    have hlt := hall s h1 (by omega)
    rw [spec_DistCode.l0, if_pos (by omega), hk, Option.bind_some, if_neg (by omega), w64_id (x := (s : Int) + 1) (by omega) (by omega)]
    rfl
theorem dist_head (n : Int) (t : Nat) (ht : t < 30) (hle : dM t ≤ n) (hall : ∀ s, t < s → s ≤ 29 → n < dM s) (d : Nat) : ∀ (s : Nat) (x y z : Int), s + d = t →
    Ev (fun k => spec_DistCode.l0 k n x y z s) ((t : Int), dB t, wrap64 (n - dM t)) := by
  induction d with
  | zero =>
    intro s x y z h
    obtain rfl : s = t := by omega
    obtain ⟨e, _⟩ := dist_at s ht
    refine ev_use_step e (fun k hk => ?_) (dist_tail n s ht hall (29 - s) (s + 1) (by omega) (by omega))
    rw [spec_DistCode.l0, if_pos (by omega), hk, Option.bind_some, if_pos hle, w64_id (x := (s : Int) + 1) (by omega) (by omega)]
    rfl
  | succ d ih =>
    intro s x y z h
    obtain ⟨e, _⟩ := dist_at s (by omega)
    by_cases c : dM s ≤ n
    · refine ev_use_step e (fun k hk => ?_) (ih (s + 1) s (dB s) (dM s) (by omega))
      rw [spec_DistCode.l0, if_pos (by omega), hk, Option.bind_some, if_pos c, w64_id (x := (s : Int) + 1) (by omega) (by omega)]
      rfl
    · refine ev_use_step e (fun k hk => ?_) (ih (s + 1) x y z (by omega))
      rw [spec_DistCode.l0, if_pos (by omega), hk, Option.bind_some, if_neg c, w64_id (x := (s : Int) + 1) (by omega) (by omega)]
      rfl
theorem dist_down (n : Int) (t : Nat) (ht : t < 30) (hle : dM t ≤ n) (hall : ∀ s, t < s → s ≤ 29 → n < dM s) (d : Nat) : ∀ s : Nat, s = t + d → s < 30 →
    Ev (fun k => impl_DistCode.l0 k n s (dM s) (dB s)) ((t : Int), dB t, wrap64 (n - dM t)) := by
  induction d with
  | zero =>
    intro s h hs
    obtain rfl : s = t := by omega
    exact ev_ret (fun k => by rw [impl_DistCode.l0, if_neg (by omega)])
  | succ d ih =>
    intro s h hs
    have hlt := hall s (by omega) (by omega)
    obtain ⟨_, e, _⟩ := dist_at (s - 1) (by omega)
    have hc : ((s : Int) - 1) = ((s - 1 : Nat) : Int) := by omega
    refine Ev.step (fun k => ?_) (ih (s - 1) (by omega) (by omega))
    rw [impl_DistCode.l0, if_pos (by omega), w64_id (x := (s : Int) - 1) (by omega) (by omega), hc, e]
    rfl
/-- What the code of a distance comes to, on both sides. -/
theorem dist_both (n : Int) (h0 : 1 ≤ n) (h1 : n ≤ 32768) : ∃ t : Nat, t < 30 ∧ dM t ≤ n ∧ (∀ s, t < s → s ≤ 29 → n < dM s) ∧
    Ev (fun k => spec_DistCode.f k n) ((t : Int), dB t, wrap64 (n - dM t)) ∧ Ev (fun k => impl_DistCode.f k n) ((t : Int), dB t, wrap64 (n - dM t)) := by
  obtain ⟨t, ht, hle, hall⟩ := dist_find n h0 29 (by omega)
  refine ⟨t, by omega, hle, hall, Ev.congr (fun k => ?_) (dist_head n t (by omega) hle hall t 0 0 0 1 (by omega)), Ev.congr (fun k => ?_) (dist_down n t (by omega) hle hall (29 - t) 29 (by omega) (by omega))⟩
  · unfold spec_DistCode.f
    rw [in_spec, decide_eq_true ⟨h0, h1⟩]
    rfl
  · unfold impl_DistCode.f
    rw [in_impl, decide_eq_true ⟨h0, h1⟩]
    obtain ⟨_, e, _⟩ := dist_at 29 (by omega)
    have e' : impl_distSpan.f 29 = some (dM 29, dB 29) := e
    simp only [Option.bind_some, if_true, e']
    rfl
theorem dist_out (n : Int) (h : ¬ (1 ≤ n ∧ n ≤ 32768)) : (∀ k, spec_DistCode.f k n = some (0, 0, 0)) ∧ (∀ k, impl_DistCode.f k n = some (0, 0, 0)) := by
  constructor
  · intro k
    unfold spec_DistCode.f
    rw [in_spec, decide_eq_false h]
    rfl
  · intro k
    unfold impl_DistCode.f
    rw [in_impl, decide_eq_false h]
    rfl

/-- Symbol 257 + i: both sides tell the same first length and the same number of extra bits. -/
def lenOk (i : Nat) : Bool :=
  match spec_l06LengthBits.f 64 (257 + i : Nat), impl_lengthSpan.f (257 + i : Nat) with
  | some (b, m), some (m', b') => b == b' && m == m' && (0 ≤ b && b ≤ 5 && 3 ≤ m && m ≤ 258)
  | _, _ => false
theorem len_table : ∀ i, i < 29 → lenOk i = true := by decide +kernel
theorem len_row (i : Nat) (hi : i < 29) : ∃ b m, spec_l06LengthBits.f 64 (257 + i : Nat) = some (b, m) ∧ impl_lengthSpan.f (257 + i : Nat) = some (m, b) ∧ 0 ≤ b ∧ b ≤ 5 ∧ 3 ≤ m ∧ m ≤ 258 := by
  have h := len_table i hi
  unfold lenOk at h
  split at h
  · rename_i b m m' b' h1 h2
    simp only [Bool.and_eq_true, beq_iff_eq, decide_eq_true_eq] at h
    obtain ⟨⟨rfl, rfl⟩, h3⟩ := h
    exact ⟨b, m, h1, h2, h3.1.1.1, h3.1.1.2, h3.1.2, h3.2⟩
  · cases h
/-- The number of extra bits, and the first length, of symbol i. -/
def lB (i : Nat) : Int := ((spec_l06LengthBits.f 64 i).getD (0, 0)).1
def lM (i : Nat) : Int := ((spec_l06LengthBits.f 64 i).getD (0, 0)).2
theorem len_at (i : Nat) (h0 : 257 ≤ i) (hi : i < 286) : Ev (fun k => spec_l06LengthBits.f k i) (lB i, lM i) ∧ impl_lengthSpan.f i = some (lM i, lB i) ∧ 3 ≤ lM i ∧ lM i ≤ 258 := by
  obtain ⟨j, rfl⟩ : ∃ j, i = 257 + j := ⟨i - 257, by omega⟩
  obtain ⟨b, m, h1, h2, _, _, h5, h6⟩ := len_row j (by omega)
  have e1 : lB (257 + j) = b := by unfold lB; rw [h1]; rfl
  have e2 : lM (257 + j) = m := by unfold lM; rw [h1]; rfl
  rw [e1, e2]
  exact ⟨Ev.of (spec_l06LengthBits.mono _) h1, h2, h5, h6⟩
theorem len_bits (i : Nat) (h0 : 257 ≤ i) (hi : i < 286) : 0 ≤ lB i ∧ lB i ≤ 5 := by
  obtain ⟨j, rfl⟩ : ∃ j, i = 257 + j := ⟨i - 257, by omega⟩
  obtain ⟨b, m, h1, _, h3, h4, _, _⟩ := len_row j (by omega)
  have e1 : lB (257 + j) = b := by unfold lB; rw [h1]; rfl
  rw [e1]
  exact ⟨h3, h4⟩
theorem l257 : lM 257 = 3 := by decide +kernel
theorem l285 : lM 285 = 258 ∧ lB 285 = 0 := by decide +kernel
attribute [irreducible] lB lM
theorem len_find (n : Int) (hn : 3 ≤ n) (m : Nat) (h0 : 257 ≤ m) (hm : m < 286) : ∃ t, 257 ≤ t ∧ t ≤ m ∧ lM t ≤ n ∧ ∀ s, t < s → s ≤ m → n < lM s := by
  obtain ⟨j, rfl⟩ : ∃ j, m = 257 + j := ⟨m - 257, by omega⟩
  clear h0
  induction j with
  | zero => exact ⟨257, Nat.le_refl _, Nat.le_refl _, by have : lM 257 = 3 := l257
                                                         omega, fun s h1 h2 => by omega⟩
  | succ m ih =>
    by_cases h : lM (257 + (m + 1)) ≤ n
    · exact ⟨257 + (m + 1), by omega, Nat.le_refl _, h, fun s h1 h2 => by omega⟩
    · obtain ⟨t, h0, h1, h2, h3⟩ := ih (by omega)
      refine ⟨t, h0, by omega, h2, fun s hs1 hs2 => ?_⟩
      by_cases e : s = 257 + (m + 1)
      · subst e; omega
      · exact h3 s hs1 (by omega)
theorem len_tail (n : Int) (hn : n < 258) (t : Nat) (ht0 : 257 ≤ t) (ht : t < 285) (hall : ∀ s, t < s → s ≤ 285 → n < lM s) (d : Nat) : ∀ s : Nat, t < s → s + d = 285 →
    Ev (fun k => spec_LengthCode.l0 k n t (lB t) (lM t) s) ((t : Int), lB t, wrap64 (n - lM t)) := by
  induction d with
  | zero =>
    intro s h1 h2
    refine Ev.step (f := fun k => spec_LengthCode.j1 k n t (lB t) (lM t) s false) (fun k => by rw [spec_LengthCode.l0, if_neg (by omega)]) (ev_ret (fun k => by rw [spec_LengthCode.j1, if_neg (by decide)]))
  | succ d ih =>
    intro s h1 h2
    obtain ⟨e, _⟩ := len_at s (by omega) (by omega)
    have hd : decide (n < 258) = true := decide_eq_true hn
    refine Ev.step (f := fun k => spec_LengthCode.j1 k n t (lB t) (lM t) s true) (fun k => by rw [spec_LengthCode.l0, if_pos (by omega), hd]) ?_
    refine ev_use_step e (fun k hk => ?_) (ih (s + 1) (by omega) (by omega))
    have hlt := hall s h1 (by omega)
    rw [spec_LengthCode.j1, if_pos rfl, hk, Option.bind_some, if_neg (by omega), w64_id (x := (s : Int) + 1) (by omega) (by omega)]
    rfl
theorem len_head (n : Int) (hn : n < 258) (t : Nat) (ht0 : 257 ≤ t) (ht : t < 285) (hle : lM t ≤ n) (hall : ∀ s, t < s → s ≤ 285 → n < lM s) (d : Nat) : ∀ (s : Nat) (x y z : Int), 257 ≤ s → s + d = t →
    Ev (fun k => spec_LengthCode.l0 k n x y z s) ((t : Int), lB t, wrap64 (n - lM t)) := by
  have hd : decide (n < 258) = true := decide_eq_true hn
  induction d with
  | zero =>
    intro s x y z hs h
    obtain rfl : s = t := by omega
    obtain ⟨e, _⟩ := len_at s ht0 (by omega)
    refine Ev.step (f := fun k => spec_LengthCode.j1 k n x y z s true) (fun k => by rw [spec_LengthCode.l0, if_pos (by omega), hd]) ?_
    refine ev_use_step e (fun k hk => ?_) (len_tail n hn s ht0 ht hall (284 - s) (s + 1) (by omega) (by omega))
    rw [spec_LengthCode.j1, if_pos rfl, hk, Option.bind_some, if_pos hle, w64_id (x := (s : Int) + 1) (by omega) (by omega)]
    rfl
  | succ d ih =>
    intro s x y z hs h
    obtain ⟨e, _⟩ := len_at s (by omega) (by omega)
    refine Ev.step (f := fun k => spec_LengthCode.j1 k n x y z s true) (fun k => by rw [spec_LengthCode.l0, if_pos (by omega), hd]) ?_
    by_cases c : lM s ≤ n
    · refine ev_use_step e (fun k hk => ?_) (ih (s + 1) s (lB s) (lM s) (by omega) (by omega))
      rw [spec_LengthCode.j1, if_pos rfl, hk, Option.bind_some, if_pos c, w64_id (x := (s : Int) + 1) (by omega) (by omega)]
      rfl
    · refine ev_use_step e (fun k hk => ?_) (ih (s + 1) x y z (by omega) (by omega))
      rw [spec_LengthCode.j1, if_pos rfl, hk, Option.bind_some, if_neg c, w64_id (x := (s : Int) + 1) (by omega) (by omega)]
      rfl
theorem len_down (n : Int) (t : Nat) (ht0 : 257 ≤ t) (ht : t < 286) (hle : lM t ≤ n) (hall : ∀ s, t < s → s ≤ 285 → n < lM s) (d : Nat) : ∀ s : Nat, s = t + d → s < 286 →
    Ev (fun k => impl_LengthCode.l0 k n s (lM s) (lB s)) ((t : Int), lB t, wrap64 (n - lM t)) := by
  induction d with
  | zero =>
    intro s h hs
    obtain rfl : s = t := by omega
    exact ev_ret (fun k => by rw [impl_LengthCode.l0, if_neg (by omega)])
  | succ d ih =>
    intro s h hs
    have hlt := hall s (by omega) (by omega)
    obtain ⟨_, e, _⟩ := len_at (s - 1) (by omega) (by omega)
    have hc : ((s : Int) - 1) = ((s - 1 : Nat) : Int) := by omega
    refine Ev.step (fun k => ?_) (ih (s - 1) (by omega) (by omega))
    rw [impl_LengthCode.l0, if_pos (by omega), w64_id (x := (s : Int) - 1) (by omega) (by omega), hc, e]
    rfl
/-- What the code of a length comes to, on both sides. -/
theorem len_both (n : Int) (h0 : 3 ≤ n) (h1 : n ≤ 258) : ∃ t : Nat, 257 ≤ t ∧ t < 286 ∧ lM t ≤ n ∧ (∀ s, t < s → s ≤ 285 → n < lM s) ∧
    Ev (fun k => spec_LengthCode.f k n) ((t : Int), lB t, wrap64 (n - lM t)) ∧ Ev (fun k => impl_LengthCode.f k n) ((t : Int), lB t, wrap64 (n - lM t)) := by
  obtain ⟨t, ht0, ht, hle, hall⟩ := len_find n h0 285 (by omega) (by omega)
  obtain ⟨m285, b285⟩ := l285
  have hdown := len_down n t ht0 (by omega) hle hall (285 - t) 285 (by omega) (by omega)
  rw [show ((285 : Nat) : Int) = 285 by omega] at hdown
  refine ⟨t, ht0, by omega, hle, hall, ?_, Ev.congr (fun k => ?_) hdown⟩
  · by_cases hn : n < 258
    · have ht2 : t < 285 := by
        rcases Nat.lt_or_ge t 285 with h | h
        · exact h
        · obtain rfl : t = 285 := by omega
          omega
      have h := len_head n hn t ht0 ht2 hle hall (t - 257) 257 285 0 258 (by omega) (by omega)
      rw [show ((257 : Nat) : Int) = 257 by omega] at h
      refine Ev.congr (fun k => ?_) h
      unfold spec_LengthCode.f
      rw [in_spec, decide_eq_true ⟨h0, h1⟩]
      simp only [Option.bind_some, if_true]
    · obtain rfl : n = 258 := by omega
      obtain rfl : t = 285 := by
        rcases Nat.lt_or_ge t 285 with h | h
        · have := hall 285 h (by omega)
          omega
        · omega
      rw [m285, b285, show ((285 : Nat) : Int) = 285 by omega]
      refine Ev.congr (f := fun k => spec_LengthCode.l0 k 258 285 0 258 257) (fun k => ?_) ?_
      · unfold spec_LengthCode.f
        rw [in_spec, decide_eq_true (by omega)]
        simp only [Option.bind_some, if_true]
      · refine Ev.step (f := fun k => spec_LengthCode.j1 k 258 285 0 258 257 false) (fun k => by rw [spec_LengthCode.l0, if_pos (by omega)]; rw [decide_eq_false (by omega)]) (ev_ret (fun k => by rw [spec_LengthCode.j1, if_neg (by decide)]))
  · unfold impl_LengthCode.f
    rw [in_impl, decide_eq_true ⟨h0, h1⟩]
    obtain ⟨_, e, _⟩ := len_at 285 (by omega) (by omega)
    rw [show ((285 : Nat) : Int) = 285 by omega] at e
    simp only [Option.bind_some, if_true, e]
theorem len_out (n : Int) (h : ¬ (3 ≤ n ∧ n ≤ 258)) : (∀ k, spec_LengthCode.f k n = some (0, 0, 0)) ∧ (∀ k, impl_LengthCode.f k n = some (0, 0, 0)) := by
  constructor
  · intro k
    unfold spec_LengthCode.f
    rw [in_spec, decide_eq_false h]
    rfl
  · intro k
    unfold impl_LengthCode.f
    rw [in_impl, decide_eq_false h]
    rfl

theorem gd_at {α : Type} (l : List α) (z : α) (j : Nat) (h : j < l.length) : l.getD (j : Int).toNat z = l[j] := by rw [Int.toNat_natCast, List.getD_eq_getElem?_getD, List.getElem?_eq_getElem h]; rfl
theorem gd_drop {α : Type} (l : List α) (z : α) (j : Nat) (h : j < l.length) : l.drop j = l.getD (j : Int).toNat z :: l.drop (j + 1) := by rw [gd_at l z j h]; exact List.drop_eq_getElem_cons h
theorem g_take_set {α : Type} (l : List α) (j : Nat) (v : α) (h : j < l.length) : (l.set j v).take (j + 1) = l.take j ++ [v] := by
  rw [List.take_succ_eq_append_getElem (by simpa using h)]
  simp [List.take_set_of_le]

/-- The law's own token, as the program's. -/
def tokOf (x : S75) : S72 := ⟨x.f0, x.f1, x.f2⟩
theorem toTokenS_loop (l : List S75) (hl : l.length ≤ 1048576) (d : Nat) : ∀ (j : Nat) (o : List S72), j + d = l.length → o.length = l.length → o.take j = (l.map tokOf).take j → Ev (fun k => laws_toTokenS.l0 k l o j) (l.map tokOf) := by
  induction d with
  | zero =>
    intro j o h ho hp
    refine ev_ret (fun k => ?_)
    rw [laws_toTokenS.l0, if_neg (by omega)]
    have e1 : o.take j = o := List.take_of_length_le (by omega)
    have e2 : (l.map tokOf).take j = l.map tokOf := List.take_of_length_le (by rw [List.length_map]; omega)
    rw [e1, e2] at hp
    rw [hp]
  | succ d ih =>
    intro j o h ho hp
    have hj : j < l.length := by omega
    refine Ev.step (fun k => ?_) (ih (j + 1) (o.set j (tokOf l[j])) (by omega) (by simpa using ho) ?_)
    · have e : rd_T75 l (j : Int) = l[j] := gd_at l _ j hj
      rw [laws_toTokenS.l0, if_pos (by omega), if_pos (by omega), e]
      unfold laws_toToken.f
      rw [Option.bind_some, if_pos (by omega), w64_id (x := (j : Int) + 1) (by omega) (by omega), Int.toNat_natCast]
      rfl
    · rw [g_take_set o j _ (by omega), hp, List.take_succ_eq_append_getElem (by rw [List.length_map]; exact hj), List.getElem_map]
theorem toTokenS_is (l : List S75) (hl : l.length ≤ 1048576) : Ev (fun k => laws_toTokenS.f k l) (l.map tokOf) := by
  refine Ev.congr (fun k => ?_) (toTokenS_loop l hl l.length 0 (List.replicate l.length z72) (by omega) (by simp) (by simp))
  unfold laws_toTokenS.f
  rw [if_pos (by omega), Int.toNat_natCast, if_pos (by omega)]
  rfl

theorem eqTokenS_loop (l : List S72) (hl : l.length ≤ 4611686018427387904) (d : Nat) : ∀ j : Nat, j + d = l.length → Ev (fun k => laws_eqTokenS.l0 k l l j) true := by
  induction d with
  | zero => exact fun j h => ev_ret (fun k => by rw [laws_eqTokenS.l0, if_neg (by omega)])
  | succ d ih =>
    intro j h
    refine Ev.step (fun k => ?_) (ih (j + 1) (by omega))
    rw [laws_eqTokenS.l0, if_pos (by omega), if_pos (by omega), if_pos (by omega)]
    unfold laws_eqToken.f
    rw [if_pos rfl, if_pos rfl, if_pos rfl, Option.bind_some, if_pos rfl, w64_id (x := (j : Int) + 1) (by omega) (by omega)]
    rfl
theorem eqTokenS_is (l : List S72) (hl : l.length ≤ 4611686018427387904) : Ev (fun k => laws_eqTokenS.f k l l) true :=
  Ev.congr (fun k => by unfold laws_eqTokenS.f; rw [if_pos rfl]; rfl) (eqTokenS_loop l hl l.length 0 (by omega))

/-- Is a token right. -/
def okT (t : S72) : Bool := tokB t.f0 t.f1 t.f2
theorem cost_both (t : S72) (h : okT t = true) : ∃ c, 0 ≤ c ∧ c ≤ 100 ∧ Ev (fun k => spec_l07Cost.f k t.f0 t.f1 t.f2) c ∧ Ev (fun k => impl_costOf.f k t.f0 t.f1 t.f2) c := by
  unfold okT tokB at h
  by_cases c0 : t.f1 = 0
  · by_cases c1 : t.f0 < 144
    · exact ⟨8, by omega, by omega, Ev.congr (fun k => by unfold spec_l07Cost.f; rw [if_pos c0, if_pos c1]) (Ev.now _), Ev.congr (fun k => by unfold impl_costOf.f; rw [if_pos c0, if_pos c1]) (Ev.now _)⟩
    · exact ⟨9, by omega, by omega, Ev.congr (fun k => by unfold spec_l07Cost.f; rw [if_pos c0, if_neg c1]) (Ev.now _), Ev.congr (fun k => by unfold impl_costOf.f; rw [if_pos c0, if_neg c1]) (Ev.now _)⟩
  · rw [if_neg c0, decide_eq_true_eq] at h
    obtain ⟨_, h1, h2, h3, h4⟩ := h
    obtain ⟨u, u0, u1, _, _, s1, i1⟩ := len_both t.f1 h1 h2
    obtain ⟨v, v1, _, _, s2, i2⟩ := dist_both t.f2 h3 h4
    have ub := len_bits u u0 u1
    have vb := dist_bits v v1
    by_cases c1 : (u : Int) < 280
    · refine ⟨7 + lB u + 5 + dB v, by omega, by omega, ?_, ?_⟩
      · obtain ⟨K1, s1⟩ := s1
        obtain ⟨K2, s2⟩ := s2
        refine ⟨max K1 K2, fun k hk => ?_⟩
        have s1' : spec_LengthCode.f k t.f1 = _ := s1 k (by omega)
        have s2' : spec_DistCode.f k t.f2 = _ := s2 k (by omega)
        show spec_l07Cost.f k t.f0 t.f1 t.f2 = _
        unfold spec_l07Cost.f
        rw [if_neg c0, s1', Option.bind_some, s2', Option.bind_some]
        dsimp only
        rw [if_pos c1, w64_id (x := 7 + lB u) (by omega) (by omega), w64_id (x := 7 + lB u + 5) (by omega) (by omega), w64_id (by omega) (by omega)]
      · obtain ⟨K1, s1⟩ := i1
        obtain ⟨K2, s2⟩ := i2
        refine ⟨max K1 K2, fun k hk => ?_⟩
        have s1' : impl_LengthCode.f k t.f1 = _ := s1 k (by omega)
        have s2' : impl_DistCode.f k t.f2 = _ := s2 k (by omega)
        show impl_costOf.f k t.f0 t.f1 t.f2 = _
        unfold impl_costOf.f
        rw [if_neg c0, s1', Option.bind_some, s2', Option.bind_some]
        dsimp only
        rw [if_pos c1, w64_id (x := 7 + lB u) (by omega) (by omega), w64_id (x := 7 + lB u + 5) (by omega) (by omega), w64_id (by omega) (by omega)]
    · refine ⟨8 + lB u + 5 + dB v, by omega, by omega, ?_, ?_⟩
      · obtain ⟨K1, s1⟩ := s1
        obtain ⟨K2, s2⟩ := s2
        refine ⟨max K1 K2, fun k hk => ?_⟩
        have s1' : spec_LengthCode.f k t.f1 = _ := s1 k (by omega)
        have s2' : spec_DistCode.f k t.f2 = _ := s2 k (by omega)
        show spec_l07Cost.f k t.f0 t.f1 t.f2 = _
        unfold spec_l07Cost.f
        rw [if_neg c0, s1', Option.bind_some, s2', Option.bind_some]
        dsimp only
        rw [if_neg c1, w64_id (x := 8 + lB u) (by omega) (by omega), w64_id (x := 8 + lB u + 5) (by omega) (by omega), w64_id (by omega) (by omega)]
      · obtain ⟨K1, s1⟩ := i1
        obtain ⟨K2, s2⟩ := i2
        refine ⟨max K1 K2, fun k hk => ?_⟩
        have s1' : impl_LengthCode.f k t.f1 = _ := s1 k (by omega)
        have s2' : impl_DistCode.f k t.f2 = _ := s2 k (by omega)
        show impl_costOf.f k t.f0 t.f1 t.f2 = _
        unfold impl_costOf.f
        rw [if_neg c0, s1', Option.bind_some, s2', Option.bind_some]
        dsimp only
        rw [if_neg c1, w64_id (x := 8 + lB u) (by omega) (by omega), w64_id (x := 8 + lB u + 5) (by omega) (by omega), w64_id (by omega) (by omega)]

theorem tokensOk_loop (l : List S72) (hl : l.length ≤ 1048576) (d : Nat) : ∀ j : Nat, j + d = l.length → Ev (fun k => impl_tokensOk.l0 k l l (l.length : Int) j) ((l.drop j).all okT && decide ((l.length : Int) ≤ 12000)) := by
  induction d with
  | zero =>
    intro j h
    refine ev_ret (fun k => ?_)
    rw [impl_tokensOk.l0, if_neg (by omega), List.drop_of_length_le (by omega)]
    simp
  | succ d ih =>
    intro j h
    have hj : j < l.length := by omega
    have e : Ev (fun k => impl_TokenOk.f k (rd_T72 l j).f0 (rd_T72 l j).f1 (rd_T72 l j).f2) (okT (rd_T72 l j)) := tok_impl _ _ _
    have dr : l.drop j = rd_T72 l j :: l.drop (j + 1) := gd_drop l _ j hj
    rw [dr, List.all_cons]
    by_cases c : okT (rd_T72 l j) = true
    · rw [c, Bool.true_and]
      refine ev_use_step e (fun k hk => ?_) (ih (j + 1) (by omega))
      rw [impl_tokensOk.l0, if_pos (by omega), if_pos (by omega), if_pos (by omega), hk, Option.bind_some, if_pos c, w64_id (x := (j : Int) + 1) (by omega) (by omega)]
      rfl
    · have c' : okT (rd_T72 l j) = false := by simpa using c
      rw [c', Bool.false_and, Bool.false_and]
      refine ev_use_step e (fun k hk => ?_) (Ev.now false)
      rw [impl_tokensOk.l0, if_pos (by omega), if_pos (by omega), if_pos (by omega), hk, Option.bind_some, if_neg c]
theorem tokensOk_is (l : List S72) (hl : l.length ≤ 1048576) : Ev (fun k => impl_tokensOk.f k l) (l.all okT && decide ((l.length : Int) ≤ 12000)) := tokensOk_loop l hl l.length 0 (by omega)

theorem sum_right (l : List S72) (hl : l.length ≤ 12000) (d : Nat) : ∀ (j : Nat) (s : Int), j + d = l.length → 0 ≤ s → s ≤ 100 * j → (l.drop j).all okT = true →
    ∃ r, Ev (fun k => spec_TokensCost.l0 k l s j) (r, true) ∧ Ev (fun k => impl_TokensCost.l0 k s l (l.length : Int) j) (r, true) := by
  induction d with
  | zero =>
    intro j s h s0 s1 ha
    exact ⟨s, ev_ret (fun k => by rw [spec_TokensCost.l0, if_neg (by omega)]), ev_ret (fun k => by rw [impl_TokensCost.l0, if_neg (by omega)])⟩
  | succ d ih =>
    intro j s h s0 s1 ha
    have hj : j < l.length := by omega
    have dr : l.drop j = rd_T72 l j :: l.drop (j + 1) := gd_drop l _ j hj
    rw [dr, List.all_cons, Bool.and_eq_true] at ha
    obtain ⟨a1, a2⟩ := ha
    obtain ⟨c, c0, c1, e1, e2⟩ := cost_both _ a1
    obtain ⟨r, g1, g2⟩ := ih (j + 1) (s + c) (by omega) (by omega) (by omega) a2
    have t : spec_TokenOk.f (rd_T72 l j).f0 (rd_T72 l j).f1 (rd_T72 l j).f2 = some (okT (rd_T72 l j)) := tok_spec _ _ _
    refine ⟨r, ev_use_step e1 (fun k hk => ?_) g1, ev_use_step e2 (fun k hk => ?_) g2⟩
    · rw [spec_TokensCost.l0, if_pos (by omega), if_pos (by omega), t, Option.bind_some, if_pos a1, hk, Option.bind_some, w64_id (x := s + c) (by omega) (by omega), w64_id (x := (j : Int) + 1) (by omega) (by omega)]
      rfl
    · rw [impl_TokensCost.l0, if_pos (by omega), if_pos (by omega), if_pos (by omega), hk, Option.bind_some, w64_id (x := s + c) (by omega) (by omega), w64_id (x := (j : Int) + 1) (by omega) (by omega)]
      rfl
theorem sum_wrong (l : List S72) (hl : l.length ≤ 12000) (d : Nat) : ∀ (j : Nat) (s : Int), j + d = l.length → 0 ≤ s → s ≤ 100 * j → (l.drop j).all okT = false → Ev (fun k => spec_TokensCost.l0 k l s j) (0, false) := by
  induction d with
  | zero =>
    intro j s h s0 s1 ha
    rw [List.drop_of_length_le (by omega)] at ha
    cases ha
  | succ d ih =>
    intro j s h s0 s1 ha
    have hj : j < l.length := by omega
    have dr : l.drop j = rd_T72 l j :: l.drop (j + 1) := gd_drop l _ j hj
    rw [dr, List.all_cons] at ha
    have t : spec_TokenOk.f (rd_T72 l j).f0 (rd_T72 l j).f1 (rd_T72 l j).f2 = some (okT (rd_T72 l j)) := tok_spec _ _ _
    by_cases a1 : okT (rd_T72 l j) = true
    · rw [a1, Bool.true_and] at ha
      obtain ⟨c, c0, c1, e1, _⟩ := cost_both _ a1
      refine ev_use_step e1 (fun k hk => ?_) (ih (j + 1) (s + c) (by omega) (by omega) (by omega) ha)
      rw [spec_TokensCost.l0, if_pos (by omega), if_pos (by omega), t, Option.bind_some, if_pos a1, hk, Option.bind_some, w64_id (x := s + c) (by omega) (by omega), w64_id (x := (j : Int) + 1) (by omega) (by omega)]
      rfl
    · refine ev_ret (fun k => ?_)
      rw [spec_TokensCost.l0, if_pos (by omega), if_pos (by omega), t, Option.bind_some, if_neg a1]
theorem cost_law (l : List S72) (hl : l.length ≤ 1048576) : ∃ r, Ev (fun k => spec_TokensCost.f k l) r ∧ Ev (fun k => impl_TokensCost.f k l) r := by
  have eo := tokensOk_is l hl
  by_cases hs : l.length ≤ 12000
  · have hd : decide ((l.length : Int) ≤ 12000) = true := decide_eq_true (by omega)
    rw [hd, Bool.and_true] at eo
    by_cases ha : l.all okT = true
    · rw [ha] at eo
      obtain ⟨r, e1, e2⟩ := sum_right l hs l.length 0 0 (by omega) (by omega) (by omega) ha
      refine ⟨(r, true), Ev.congr (fun k => ?_) e1, ev_use eo (fun k hk => ?_) e2⟩
      · unfold spec_TokensCost.f
        rw [if_neg (by omega)]
        rfl
      · have hk' : impl_tokensOk.f k l = some true := hk
        show impl_TokensCost.f k l = _
        unfold impl_TokensCost.f
        rw [hk', Option.bind_some, if_pos rfl]
        rfl
    · have ha' : l.all okT = false := by simpa using ha
      rw [ha'] at eo
      refine ⟨(0, false), Ev.congr (fun k => ?_) (sum_wrong l hs l.length 0 0 (by omega) (by omega) (by omega) ha'), ev_end eo (fun k hk => ?_)⟩
      · unfold spec_TokensCost.f
        rw [if_neg (by omega)]
        rfl
      · have hk' : impl_tokensOk.f k l = some false := hk
        show impl_TokensCost.f k l = _
        unfold impl_TokensCost.f
        rw [hk', Option.bind_some, if_neg (by decide)]
  · have hd : decide ((l.length : Int) ≤ 12000) = false := decide_eq_false (by omega)
    rw [hd, Bool.and_false] at eo
    refine ⟨(0, false), Ev.congr (fun k => ?_) (Ev.now _), ev_end eo (fun k hk => ?_)⟩
    · unfold spec_TokensCost.f
      rw [if_pos (by omega)]
    · have hk' : impl_tokensOk.f k l = some false := hk
      show impl_TokensCost.f k l = _
      unfold impl_TokensCost.f
      rw [hk', Option.bind_some, if_neg (by decide)]
theorem FnExactTokensCost : laws_FnExactTokensCost.Pure := by
  intro l hl hw
  have hl' : l.length ≤ 9223372036854775807 := by unfold maxLen at hl; omega
  have w : wrap64 (1048576 - (l.length : Int)) = 1048576 - l.length := w64_id (by omega) (by omega)
  by_cases hb : 1048576 - (l.length : Int) < 0
  · refine ⟨0, ?_⟩
    unfold laws_FnExactTokensCost.f laws_szTokenS.f
    rw [w, if_pos hb, Option.bind_some, if_pos (by omega)]
  · obtain ⟨r, eS, eI⟩ := cost_law (l.map tokOf) (by rw [List.length_map]; omega)
    obtain ⟨K1, eT⟩ := toTokenS_is l (by omega)
    obtain ⟨K2, eE⟩ := eqTokenS_is (l.map tokOf) (by rw [List.length_map]; omega)
    obtain ⟨K3, eS⟩ := eS
    obtain ⟨K4, eI⟩ := eI
    refine ⟨K1 + K2 + K3 + K4 + 1, ?_⟩
    generalize hk : K1 + K2 + K3 + K4 = K
    have t1 : laws_toTokenS.f (K + 1) l = _ := eT (K + 1) (by omega)
    have t0 : laws_toTokenS.f K l = _ := eT K (by omega)
    have s1 : spec_TokensCost.f (K + 1) _ = _ := eS (K + 1) (by omega)
    have i1 : impl_TokensCost.f (K + 1) _ = _ := eI (K + 1) (by omega)
    have q0 : laws_eqTokenS.f K _ _ = _ := eE K (by omega)
    unfold laws_FnExactTokensCost.f laws_szTokenS.f
    rw [w, if_neg hb, Option.bind_some, if_neg hb, t1, Option.bind_some, s1, Option.bind_some, Option.bind_some, i1, Option.bind_some, if_pos rfl, bne_self_eq_false, laws_FnExactTokensCost.j0, if_neg (by decide), t0, Option.bind_some, q0, Option.bind_some, if_pos rfl]

end Go.Proofs.Ytbkikljnbdfblaa.Pure
