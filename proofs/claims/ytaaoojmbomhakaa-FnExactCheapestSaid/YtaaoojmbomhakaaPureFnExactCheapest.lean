/- The law FnExactCheapest: for every input within the row's bounds the printed function answers true: what the program's function tells is what the law asks. Conditions: only the bounds that the row itself gives (sizes of strings and slices, ranges of the number kinds). -/
import Derived.Test.YtaaoojmbomhakaaPFnExactCheapestx8
namespace Go.Proofs.Ytaaoojmbomhakaa.Pure
open Go.RowKit Go.Proofs.Ytaaoojmbomhakaa.PFnExactCheapest Go.Proofs.YtaaoojmbomhakaaW.PrintWords Go.Proofs.YtaaoojmbomhakaaW.PrintLast Go.Proofs.YtaaoojmbomhakaaW.PrintMore
set_option linter.unusedVariables false
set_option linter.unusedSimpArgs false

theorem w64_id {x : Int} (h0 : -9223372036854775808 ≤ x) (h1 : x ≤ 9223372036854775807) : wrap64 x = x := by unfold wrap64; omega
theorem tmod_nn {a : Int} (b : Int) (h : 0 ≤ a) : Int.tmod a b = a % b := Int.tmod_eq_emod_of_nonneg h
theorem tdiv_nn {a : Int} (b : Int) (h : 0 ≤ a) : Int.tdiv a b = a / b := Int.tdiv_eq_ediv_of_nonneg h
theorem wf64 {n : Int} (h : (Lit.int .i64 n).wf = true) : -9223372036854775808 ≤ n ∧ n ≤ 9223372036854775807 := by
  simp [Lit.wf, IntKind.min, IntKind.max, IntKind.signed, IntKind.bits] at h
  omega
theorem wfu32 {n : Int} (h : (Lit.int .u32 n).wf = true) : 0 ≤ n ∧ n ≤ 4294967295 := by
  simp [Lit.wf, IntKind.min, IntKind.max, IntKind.signed, IntKind.bits] at h
  omega
theorem wraps64 (n : Int) (h0 : 0 ≤ n) (h1 : n < 2 ^ 63) : IntKind.i64.wrap n = n := by rw [IntKind.wrap_i64]; omega
theorem wrapsu32 (n : Int) (h0 : 0 ≤ n) (h1 : n < 2 ^ 32) : IntKind.u32.wrap n = n := by rw [IntKind.wrap_u32]; omega
/-- a | b of parts that do not meet, of an int. -/
theorem or64 (i : Nat) (x y : Int) (hx0 : 0 ≤ x) (hx : x % 2 ^ i = 0) (hx1 : x < 2 ^ 63) (hy0 : 0 ≤ y) (hy : y < 2 ^ i) (hy1 : y < 2 ^ 63) : Go.bits .or .i64 x y = x + y :=
  bits_join .i64 63 (by decide) wraps64 i x y hx0 hx hx1 hy0 hy hy1
theorem ev_ite_pos {α : Type} {c : Prop} [Decidable c] {f g : Nat → Option α} {r : α} (h : c) (k : Ev f r) : Ev (fun n => if c then f n else g n) r := Ev.congr (fun n => if_pos h) k
theorem ev_ite_neg {α : Type} {c : Prop} [Decidable c] {f g : Nat → Option α} {r : α} (h : ¬ c) (k : Ev g r) : Ev (fun n => if c then f n else g n) r := Ev.congr (fun n => if_neg h) k
/-- A callee without rounds that answers. -/
theorem ev_bind0 {α β : Type} {o : Option α} {f : Nat → α → Option β} {a : α} {r : β} (h : o = some a) (k : Ev (fun n => f n a) r) : Ev (fun n => o.bind (f n)) r := Ev.congr (fun n => by rw [h]; rfl) k
theorem bt_lo (s : ByteArray) (i : Int) : 0 ≤ bt s i := (bt_range s i).1
theorem bt_hi (s : ByteArray) (i : Int) : bt s i ≤ 255 := (bt_range s i).2
/-- A callee that answers from some number of rounds on, used. -/
theorem ev_use {α β : Type} {g : Nat → Option α} {a : α} {F G : Nat → Option β} {r : β} (e : Ev g a) (h : ∀ k, g k = some a → F k = G k) (c : Ev G r) : Ev F r := by
  obtain ⟨K, e⟩ := e
  obtain ⟨K', c⟩ := c
  exact ⟨max K K', fun n hn => (h n (e n (by omega))).trans (c n (by omega))⟩
theorem ev_use_step {α β : Type} {g : Nat → Option α} {a : α} {F G : Nat → Option β} {r : β} (e : Ev g a) (h : ∀ k, g k = some a → F (k + 1) = G k) (c : Ev G r) : Ev F r := by
  obtain ⟨K, e⟩ := e
  obtain ⟨K', c⟩ := c
  refine ⟨max K K' + 1, fun n hn => ?_⟩
  obtain ⟨m, rfl⟩ : ∃ m, n = m + 1 := ⟨n - 1, by omega⟩
  exact (h m (e m (by omega))).trans (c m (by omega))
theorem ev_end {α β : Type} {g : Nat → Option α} {a : α} {F : Nat → Option β} {r : β} (e : Ev g a) (h : ∀ k, g k = some a → F k = some r) : Ev F r := by
  obtain ⟨K, e⟩ := e
  exact ⟨K, fun n hn => h n (e n hn)⟩
theorem ev_two {α β : Type} {g : Nat → Option α} {h : Nat → Option β} {a : α} {b : β} (e : Ev g a) (f : Ev h b) : ∃ k, g k = some a ∧ h k = some b := by
  obtain ⟨K, e⟩ := e
  obtain ⟨K', f⟩ := f
  exact ⟨max K K', e _ (by omega), f _ (by omega)⟩
theorem ev_ret {α : Type} {F : Nat → Option α} {r : α} (h : ∀ k, F (k + 1) = some r) : Ev F r := ⟨1, fun n hn => by obtain ⟨m, rfl⟩ : ∃ m, n = m + 1 := ⟨n - 1, by omega⟩; exact h m⟩

theorem gd_at {α : Type} (l : List α) (z : α) (j : Nat) (h : j < l.length) : l.getD (j : Int).toNat z = l[j] := by rw [Int.toNat_natCast, List.getD_eq_getElem?_getD, List.getElem?_eq_getElem h]; rfl
theorem gd_drop {α : Type} (l : List α) (z : α) (j : Nat) (h : j < l.length) : l.drop j = l.getD (j : Int).toNat z :: l.drop (j + 1) := by rw [gd_at l z j h]; exact List.drop_eq_getElem_cons h
theorem g_take_set {α : Type} (l : List α) (j : Nat) (v : α) (h : j < l.length) : (l.set j v).take (j + 1) = l.take j ++ [v] := by
  rw [List.take_succ_eq_append_getElem (by simpa using h)]
  simp [List.take_set_of_le]

theorem in_spec (a b c : Int) : spec_l01In.f a b c = some (decide (b ≤ a ∧ a ≤ c)) := by
  unfold spec_l01In.f
  split
  · rename_i h
    have e : (decide (a ≤ c)) = decide (b ≤ a ∧ a ≤ c) := decide_eq_decide.mpr ⟨fun h' => ⟨h, h'⟩, fun h' => h'.2⟩
    rw [e]
  · rename_i h
    have e : (decide (b ≤ a ∧ a ≤ c)) = false := decide_eq_false fun h' => h h'.1
    rw [e]

theorem in_impl (a b c : Int) : impl_within.f a b c = some (decide (b ≤ a ∧ a ≤ c)) := by
  unfold impl_within.f
  split
  · rename_i h
    have e : (decide (a ≤ c)) = decide (b ≤ a ∧ a ≤ c) := decide_eq_decide.mpr ⟨fun h' => ⟨h, h'⟩, fun h' => h'.2⟩
    rw [e]
  · rename_i h
    have e : (decide (b ≤ a ∧ a ≤ c)) = false := decide_eq_false fun h' => h h'.1
    rw [e]


/-- Two callees that answer, together. -/
theorem ev_pair {α β : Type} {g : Nat → Option α} {h : Nat → Option β} {a : α} {b : β} (e : Ev g a) (f : Ev h b) : Ev (fun k => (g k).bind fun x => (h k).bind fun y => some (x, y)) (a, b) := by
  obtain ⟨K, e⟩ := e
  obtain ⟨K', f⟩ := f
  exact ⟨max K K', fun n hn => by show ((g n).bind fun x => (h n).bind fun y => some (x, y)) = _; rw [e n (by omega), f n (by omega)]; rfl⟩
theorem pair_some {α β : Type} {g : Option α} {h : Option β} {a : α} {b : β} (e : (g.bind fun x => h.bind fun y => some (x, y)) = some (a, b)) : g = some a ∧ h = some b := by
  cases g with
  | none => cases e
  | some x =>
    cases h with
    | none => cases e
    | some y =>
      injection e with e
      injection e with e1 e2
      exact ⟨by rw [e1], by rw [e2]⟩

/-- Is a token right. -/
def tokB (a b c : Int) : Bool := if b = 0 then decide (0 ≤ a ∧ a ≤ 255 ∧ c = 0) else decide (a = 0 ∧ 3 ≤ b ∧ b ≤ 258 ∧ 1 ≤ c ∧ c ≤ 32768)
/-- Symbol i: both sides tell the same first distance and the same number of extra bits. -/
def distOk (i : Nat) : Bool :=
  match spec_l06DistBits.f 64 i, impl_distSpan.f i with
  | some (b, m), some (m', b') => b == b' && m == m' && (0 ≤ b && b ≤ 13 && 1 ≤ m && m ≤ 32768)
  | _, _ => false
theorem dist_table : ∀ i, i < 30 → distOk i = true := by decide +kernel
theorem dist_row (i : Nat) (hi : i < 30) : ∃ b m, spec_l06DistBits.f 64 i = some (b, m) ∧ impl_distSpan.f i = some (m, b) ∧ 0 ≤ b ∧ b ≤ 13 ∧ 1 ≤ m ∧ m ≤ 32768 := by
  have h := dist_table i hi
  unfold distOk at h
  split at h
  · rename_i b m m' b' h1 h2
    simp only [Bool.and_eq_true, beq_iff_eq, decide_eq_true_eq] at h
    obtain ⟨⟨rfl, rfl⟩, h3⟩ := h
    exact ⟨b, m, h1, h2, h3.1.1.1, h3.1.1.2, h3.1.2, h3.2⟩
  · cases h
/-- The number of extra bits, and the first distance, of a symbol. -/
def dB (i : Nat) : Int := ((spec_l06DistBits.f 64 i).getD (0, 0)).1
def dM (i : Nat) : Int := ((spec_l06DistBits.f 64 i).getD (0, 0)).2
theorem dist_at (i : Nat) (hi : i < 30) : Ev (fun k => spec_l06DistBits.f k i) (dB i, dM i) ∧ impl_distSpan.f i = some (dM i, dB i) ∧ 1 ≤ dM i ∧ dM i ≤ 32768 := by
  obtain ⟨b, m, h1, h2, _, _, h5, h6⟩ := dist_row i hi
  have e1 : dB i = b := by unfold dB; rw [h1]; rfl
  have e2 : dM i = m := by unfold dM; rw [h1]; rfl
  rw [e1, e2]
  exact ⟨Ev.of (spec_l06DistBits.mono _) h1, h2, h5, h6⟩
theorem dist_bits (i : Nat) (hi : i < 30) : 0 ≤ dB i ∧ dB i ≤ 13 := by
  obtain ⟨b, m, h1, _, h3, h4, _, _⟩ := dist_row i hi
  have e1 : dB i = b := by unfold dB; rw [h1]; rfl
  rw [e1]
  exact ⟨h3, h4⟩
theorem dist_find (n : Int) (hn : 1 ≤ n) (m : Nat) (hm : m < 30) : ∃ t, t ≤ m ∧ dM t ≤ n ∧ ∀ s, t < s → s ≤ m → n < dM s := by
  induction m with
  | zero => exact ⟨0, Nat.le_refl _, by have : dM 0 = 1 := by decide +kernel
                                        omega, fun s h1 h2 => by omega⟩
  | succ m ih =>
    by_cases h : dM (m + 1) ≤ n
    · exact ⟨m + 1, Nat.le_refl _, h, fun s h1 h2 => by omega⟩
    · obtain ⟨t, h1, h2, h3⟩ := ih (by omega)
      refine ⟨t, by omega, h2, fun s hs1 hs2 => ?_⟩
      by_cases e : s = m + 1
      · subst e; omega
      · exact h3 s hs1 (by omega)
theorem dist_tail (n : Int) (t : Nat) (ht : t < 30) (hall : ∀ s, t < s → s ≤ 29 → n < dM s) (d : Nat) : ∀ s : Nat, t < s → s + d = 30 →
    Ev (fun k => spec_DistCode.l0 k n t (dB t) (dM t) s) ((t : Int), dB t, wrap64 (n - dM t)) := by
  induction d with
  | zero =>
    intro s h1 h2
    exact ev_ret (fun k => by rw [spec_DistCode.l0, if_neg (by omega)])
  | succ d ih =>
    intro s h1 h2
    obtain ⟨e, _⟩ := dist_at s (by omega)
    refine ev_use_step e (fun k hk => ?_) (ih (s + 1) (by omega) (by omega))
    have hlt := hall s h1 (by omega)
    rw [spec_DistCode.l0, if_pos (by omega), hk, Option.bind_some, if_neg (by omega), w64_id (x := (s : Int) + 1) (by omega) (by omega)]
    rfl
theorem dist_head (n : Int) (t : Nat) (ht : t < 30) (hle : dM t ≤ n) (hall : ∀ s, t < s → s ≤ 29 → n < dM s) (d : Nat) : ∀ (s : Nat) (x y z : Int), s + d = t →
    Ev (fun k => spec_DistCode.l0 k n x y z s) ((t : Int), dB t, wrap64 (n - dM t)) := by
  induction d with
  | zero =>
    intro s x y z h
    obtain rfl : s = t := by omega
    obtain ⟨e, _⟩ := dist_at s ht
    refine ev_use_step e (fun k hk => ?_) (dist_tail n s ht hall (29 - s) (s + 1) (by omega) (by omega))
    rw [spec_DistCode.l0, if_pos (by omega), hk, Option.bind_some, if_pos hle, w64_id (x := (s : Int) + 1) (by omega) (by omega)]
    rfl
  | succ d ih =>
    intro s x y z h
    obtain ⟨e, _⟩ := dist_at s (by omega)
    by_cases c : dM s ≤ n
    · refine ev_use_step e (fun k hk => ?_) (ih (s + 1) s (dB s) (dM s) (by omega))
      rw [spec_DistCode.l0, if_pos (by omega), hk, Option.bind_some, if_pos c, w64_id (x := (s : Int) + 1) (by omega) (by omega)]
      rfl
    · refine ev_use_step e (fun k hk => ?_) (ih (s + 1) x y z (by omega))
      rw [spec_DistCode.l0, if_pos (by omega), hk, Option.bind_some, if_neg c, w64_id (x := (s : Int) + 1) (by omega) (by omega)]
      rfl
theorem dist_down (n : Int) (t : Nat) (ht : t < 30) (hle : dM t ≤ n) (hall : ∀ s, t < s → s ≤ 29 → n < dM s) (d : Nat) : ∀ s : Nat, s = t + d → s < 30 →
    Ev (fun k => impl_DistCode.l0 k n s (dM s) (dB s)) ((t : Int), dB t, wrap64 (n - dM t)) := by
  induction d with
  | zero =>
    intro s h hs
    obtain rfl : s = t := by omega
    exact ev_ret (fun k => by rw [impl_DistCode.l0, if_neg (by omega)])
  | succ d ih =>
    intro s h hs
    have hlt := hall s (by omega) (by omega)
    obtain ⟨_, e, _⟩ := dist_at (s - 1) (by omega)
    have hc : ((s : Int) - 1) = ((s - 1 : Nat) : Int) := by omega
    refine Ev.step (fun k => ?_) (ih (s - 1) (by omega) (by omega))
    rw [impl_DistCode.l0, if_pos (by omega), w64_id (x := (s : Int) - 1) (by omega) (by omega), hc, e]
    rfl
/-- What the code of a distance comes to, on both sides. -/
theorem dist_both (n : Int) (h0 : 1 ≤ n) (h1 : n ≤ 32768) : ∃ t : Nat, t < 30 ∧ dM t ≤ n ∧ (∀ s, t < s → s ≤ 29 → n < dM s) ∧
    Ev (fun k => spec_DistCode.f k n) ((t : Int), dB t, wrap64 (n - dM t)) ∧ Ev (fun k => impl_DistCode.f k n) ((t : Int), dB t, wrap64 (n - dM t)) := by
  obtain ⟨t, ht, hle, hall⟩ := dist_find n h0 29 (by omega)
  refine ⟨t, by omega, hle, hall, Ev.congr (fun k => ?_) (dist_head n t (by omega) hle hall t 0 0 0 1 (by omega)), Ev.congr (fun k => ?_) (dist_down n t (by omega) hle hall (29 - t) 29 (by omega) (by omega))⟩
  · unfold spec_DistCode.f
    rw [in_spec, decide_eq_true ⟨h0, h1⟩]
    rfl
  · unfold impl_DistCode.f
    rw [in_impl, decide_eq_true ⟨h0, h1⟩]
    obtain ⟨_, e, _⟩ := dist_at 29 (by omega)
    have e' : impl_distSpan.f 29 = some (dM 29, dB 29) := e
    simp only [Option.bind_some, if_true, e']
    rfl
theorem dist_out (n : Int) (h : ¬ (1 ≤ n ∧ n ≤ 32768)) : (∀ k, spec_DistCode.f k n = some (0, 0, 0)) ∧ (∀ k, impl_DistCode.f k n = some (0, 0, 0)) := by
  constructor
  · intro k
    unfold spec_DistCode.f
    rw [in_spec, decide_eq_false h]
    rfl
  · intro k
    unfold impl_DistCode.f
    rw [in_impl, decide_eq_false h]
    rfl

/-- Symbol 257 + i: both sides tell the same first length and the same number of extra bits. -/
def lenOk (i : Nat) : Bool :=
  match spec_l06LengthBits.f 64 (257 + i : Nat), impl_lengthSpan.f (257 + i : Nat) with
  | some (b, m), some (m', b') => b == b' && m == m' && (0 ≤ b && b ≤ 5 && 3 ≤ m && m ≤ 258)
  | _, _ => false
theorem len_table : ∀ i, i < 29 → lenOk i = true := by decide +kernel
theorem len_row (i : Nat) (hi : i < 29) : ∃ b m, spec_l06LengthBits.f 64 (257 + i : Nat) = some (b, m) ∧ impl_lengthSpan.f (257 + i : Nat) = some (m, b) ∧ 0 ≤ b ∧ b ≤ 5 ∧ 3 ≤ m ∧ m ≤ 258 := by
  have h := len_table i hi
  unfold lenOk at h
  split at h
  · rename_i b m m' b' h1 h2
    simp only [Bool.and_eq_true, beq_iff_eq, decide_eq_true_eq] at h
    obtain ⟨⟨rfl, rfl⟩, h3⟩ := h
    exact ⟨b, m, h1, h2, h3.1.1.1, h3.1.1.2, h3.1.2, h3.2⟩
  · cases h
/-- The number of extra bits, and the first length, of symbol i. -/
def lB (i : Nat) : Int := ((spec_l06LengthBits.f 64 i).getD (0, 0)).1
def lM (i : Nat) : Int := ((spec_l06LengthBits.f 64 i).getD (0, 0)).2
theorem len_at (i : Nat) (h0 : 257 ≤ i) (hi : i < 286) : Ev (fun k => spec_l06LengthBits.f k i) (lB i, lM i) ∧ impl_lengthSpan.f i = some (lM i, lB i) ∧ 3 ≤ lM i ∧ lM i ≤ 258 := by
  obtain ⟨j, rfl⟩ : ∃ j, i = 257 + j := ⟨i - 257, by omega⟩
  obtain ⟨b, m, h1, h2, _, _, h5, h6⟩ := len_row j (by omega)
  have e1 : lB (257 + j) = b := by unfold lB; rw [h1]; rfl
  have e2 : lM (257 + j) = m := by unfold lM; rw [h1]; rfl
  rw [e1, e2]
  exact ⟨Ev.of (spec_l06LengthBits.mono _) h1, h2, h5, h6⟩
theorem len_bits (i : Nat) (h0 : 257 ≤ i) (hi : i < 286) : 0 ≤ lB i ∧ lB i ≤ 5 := by
  obtain ⟨j, rfl⟩ : ∃ j, i = 257 + j := ⟨i - 257, by omega⟩
  obtain ⟨b, m, h1, _, h3, h4, _, _⟩ := len_row j (by omega)
  have e1 : lB (257 + j) = b := by unfold lB; rw [h1]; rfl
  rw [e1]
  exact ⟨h3, h4⟩
theorem l257 : lM 257 = 3 := by decide +kernel
theorem l285 : lM 285 = 258 ∧ lB 285 = 0 := by decide +kernel
attribute [irreducible] lB lM
theorem len_find (n : Int) (hn : 3 ≤ n) (m : Nat) (h0 : 257 ≤ m) (hm : m < 286) : ∃ t, 257 ≤ t ∧ t ≤ m ∧ lM t ≤ n ∧ ∀ s, t < s → s ≤ m → n < lM s := by
  obtain ⟨j, rfl⟩ : ∃ j, m = 257 + j := ⟨m - 257, by omega⟩
  clear h0
  induction j with
  | zero => exact ⟨257, Nat.le_refl _, Nat.le_refl _, by have : lM 257 = 3 := l257
                                                         omega, fun s h1 h2 => by omega⟩
  | succ m ih =>
    by_cases h : lM (257 + (m + 1)) ≤ n
    · exact ⟨257 + (m + 1), by omega, Nat.le_refl _, h, fun s h1 h2 => by omega⟩
    · obtain ⟨t, h0, h1, h2, h3⟩ := ih (by omega)
      refine ⟨t, h0, by omega, h2, fun s hs1 hs2 => ?_⟩
      by_cases e : s = 257 + (m + 1)
      · subst e; omega
      · exact h3 s hs1 (by omega)
theorem len_tail (n : Int) (hn : n < 258) (t : Nat) (ht0 : 257 ≤ t) (ht : t < 285) (hall : ∀ s, t < s → s ≤ 285 → n < lM s) (d : Nat) : ∀ s : Nat, t < s → s + d = 285 →
    Ev (fun k => spec_LengthCode.l0 k n t (lB t) (lM t) s) ((t : Int), lB t, wrap64 (n - lM t)) := by
  induction d with
  | zero =>
    intro s h1 h2
    refine Ev.step (f := fun k => spec_LengthCode.j1 k n t (lB t) (lM t) s false) (fun k => by rw [spec_LengthCode.l0, if_neg (by omega)]) (ev_ret (fun k => by rw [spec_LengthCode.j1, if_neg (by decide)]))
  | succ d ih =>
    intro s h1 h2
    obtain ⟨e, _⟩ := len_at s (by omega) (by omega)
    have hd : decide (n < 258) = true := decide_eq_true hn
    refine Ev.step (f := fun k => spec_LengthCode.j1 k n t (lB t) (lM t) s true) (fun k => by rw [spec_LengthCode.l0, if_pos (by omega), hd]) ?_
    refine ev_use_step e (fun k hk => ?_) (ih (s + 1) (by omega) (by omega))
    have hlt := hall s h1 (by omega)
    rw [spec_LengthCode.j1, if_pos rfl, hk, Option.bind_some, if_neg (by omega), w64_id (x := (s : Int) + 1) (by omega) (by omega)]
    rfl
theorem len_head (n : Int) (hn : n < 258) (t : Nat) (ht0 : 257 ≤ t) (ht : t < 285) (hle : lM t ≤ n) (hall : ∀ s, t < s → s ≤ 285 → n < lM s) (d : Nat) : ∀ (s : Nat) (x y z : Int), 257 ≤ s → s + d = t →
    Ev (fun k => spec_LengthCode.l0 k n x y z s) ((t : Int), lB t, wrap64 (n - lM t)) := by
  have hd : decide (n < 258) = true := decide_eq_true hn
  induction d with
  | zero =>
    intro s x y z hs h
    obtain rfl : s = t := by omega
    obtain ⟨e, _⟩ := len_at s ht0 (by omega)
    refine Ev.step (f := fun k => spec_LengthCode.j1 k n x y z s true) (fun k => by rw [spec_LengthCode.l0, if_pos (by omega), hd]) ?_
    refine ev_use_step e (fun k hk => ?_) (len_tail n hn s ht0 ht hall (284 - s) (s + 1) (by omega) (by omega))
    rw [spec_LengthCode.j1, if_pos rfl, hk, Option.bind_some, if_pos hle, w64_id (x := (s : Int) + 1) (by omega) (by omega)]
    rfl
  | succ d ih =>
    intro s x y z hs h
    obtain ⟨e, _⟩ := len_at s (by omega) (by omega)
    refine Ev.step (f := fun k => spec_LengthCode.j1 k n x y z s true) (fun k => by rw [spec_LengthCode.l0, if_pos (by omega), hd]) ?_
    by_cases c : lM s ≤ n
    · refine ev_use_step e (fun k hk => ?_) (ih (s + 1) s (lB s) (lM s) (by omega) (by omega))
      rw [spec_LengthCode.j1, if_pos rfl, hk, Option.bind_some, if_pos c, w64_id (x := (s : Int) + 1) (by omega) (by omega)]
      rfl
    · refine ev_use_step e (fun k hk => ?_) (ih (s + 1) x y z (by omega) (by omega))
      rw [spec_LengthCode.j1, if_pos rfl, hk, Option.bind_some, if_neg c, w64_id (x := (s : Int) + 1) (by omega) (by omega)]
      rfl
theorem len_down (n : Int) (t : Nat) (ht0 : 257 ≤ t) (ht : t < 286) (hle : lM t ≤ n) (hall : ∀ s, t < s → s ≤ 285 → n < lM s) (d : Nat) : ∀ s : Nat, s = t + d → s < 286 →
    Ev (fun k => impl_LengthCode.l0 k n s (lM s) (lB s)) ((t : Int), lB t, wrap64 (n - lM t)) := by
  induction d with
  | zero =>
    intro s h hs
    obtain rfl : s = t := by omega
    exact ev_ret (fun k => by rw [impl_LengthCode.l0, if_neg (by omega)])
  | succ d ih =>
    intro s h hs
    have hlt := hall s (by omega) (by omega)
    obtain ⟨_, e, _⟩ := len_at (s - 1) (by omega) (by omega)
    have hc : ((s : Int) - 1) = ((s - 1 : Nat) : Int) := by omega
    refine Ev.step (fun k => ?_) (ih (s - 1) (by omega) (by omega))
    rw [impl_LengthCode.l0, if_pos (by omega), w64_id (x := (s : Int) - 1) (by omega) (by omega), hc, e]
    rfl
/-- What the code of a length comes to, on both sides. -/
theorem len_both (n : Int) (h0 : 3 ≤ n) (h1 : n ≤ 258) : ∃ t : Nat, 257 ≤ t ∧ t < 286 ∧ lM t ≤ n ∧ (∀ s, t < s → s ≤ 285 → n < lM s) ∧
    Ev (fun k => spec_LengthCode.f k n) ((t : Int), lB t, wrap64 (n - lM t)) ∧ Ev (fun k => impl_LengthCode.f k n) ((t : Int), lB t, wrap64 (n - lM t)) := by
  obtain ⟨t, ht0, ht, hle, hall⟩ := len_find n h0 285 (by omega) (by omega)
  obtain ⟨m285, b285⟩ := l285
  have hdown := len_down n t ht0 (by omega) hle hall (285 - t) 285 (by omega) (by omega)
  rw [show ((285 : Nat) : Int) = 285 by omega] at hdown
  refine ⟨t, ht0, by omega, hle, hall, ?_, Ev.congr (fun k => ?_) hdown⟩
  · by_cases hn : n < 258
    · have ht2 : t < 285 := by
        rcases Nat.lt_or_ge t 285 with h | h
        · exact h
        · obtain rfl : t = 285 := by omega
          omega
      have h := len_head n hn t ht0 ht2 hle hall (t - 257) 257 285 0 258 (by omega) (by omega)
      rw [show ((257 : Nat) : Int) = 257 by omega] at h
      refine Ev.congr (fun k => ?_) h
      unfold spec_LengthCode.f
      rw [in_spec, decide_eq_true ⟨h0, h1⟩]
      simp only [Option.bind_some, if_true]
    · obtain rfl : n = 258 := by omega
      obtain rfl : t = 285 := by
        rcases Nat.lt_or_ge t 285 with h | h
        · have := hall 285 h (by omega)
          omega
        · omega
      rw [m285, b285, show ((285 : Nat) : Int) = 285 by omega]
      refine Ev.congr (f := fun k => spec_LengthCode.l0 k 258 285 0 258 257) (fun k => ?_) ?_
      · unfold spec_LengthCode.f
        rw [in_spec, decide_eq_true (by omega)]
        simp only [Option.bind_some, if_true]
      · refine Ev.step (f := fun k => spec_LengthCode.j1 k 258 285 0 258 257 false) (fun k => by rw [spec_LengthCode.l0, if_pos (by omega)]; rw [decide_eq_false (by omega)]) (ev_ret (fun k => by rw [spec_LengthCode.j1, if_neg (by decide)]))
  · unfold impl_LengthCode.f
    rw [in_impl, decide_eq_true ⟨h0, h1⟩]
    obtain ⟨_, e, _⟩ := len_at 285 (by omega) (by omega)
    rw [show ((285 : Nat) : Int) = 285 by omega] at e
    simp only [Option.bind_some, if_true, e]
theorem len_out (n : Int) (h : ¬ (3 ≤ n ∧ n ≤ 258)) : (∀ k, spec_LengthCode.f k n = some (0, 0, 0)) ∧ (∀ k, impl_LengthCode.f k n = some (0, 0, 0)) := by
  constructor
  · intro k
    unfold spec_LengthCode.f
    rw [in_spec, decide_eq_false h]
    rfl
  · intro k
    unfold impl_LengthCode.f
    rw [in_impl, decide_eq_false h]
    rfl

/-- Is a token right. -/
def okT (t : S44) : Bool := tokB t.f0 t.f1 t.f2
theorem cost_both (t : S44) (h : okT t = true) : ∃ c, 0 ≤ c ∧ c ≤ 100 ∧ Ev (fun k => spec_l07Cost.f k t.f0 t.f1 t.f2) c ∧ Ev (fun k => impl_costOf.f k t.f0 t.f1 t.f2) c := by
  unfold okT tokB at h
  by_cases c0 : t.f1 = 0
  · by_cases c1 : t.f0 < 144
    · exact ⟨8, by omega, by omega, Ev.congr (fun k => by unfold spec_l07Cost.f; rw [if_pos c0, if_pos c1]) (Ev.now _), Ev.congr (fun k => by unfold impl_costOf.f; rw [if_pos c0, if_pos c1]) (Ev.now _)⟩
    · exact ⟨9, by omega, by omega, Ev.congr (fun k => by unfold spec_l07Cost.f; rw [if_pos c0, if_neg c1]) (Ev.now _), Ev.congr (fun k => by unfold impl_costOf.f; rw [if_pos c0, if_neg c1]) (Ev.now _)⟩
  · rw [if_neg c0, decide_eq_true_eq] at h
    obtain ⟨_, h1, h2, h3, h4⟩ := h
    obtain ⟨u, u0, u1, _, _, s1, i1⟩ := len_both t.f1 h1 h2
    obtain ⟨v, v1, _, _, s2, i2⟩ := dist_both t.f2 h3 h4
    have ub := len_bits u u0 u1
    have vb := dist_bits v v1
    by_cases c1 : (u : Int) < 280
    · refine ⟨7 + lB u + 5 + dB v, by omega, by omega, ?_, ?_⟩
      · obtain ⟨K1, s1⟩ := s1
        obtain ⟨K2, s2⟩ := s2
        refine ⟨max K1 K2, fun k hk => ?_⟩
        have s1' : spec_LengthCode.f k t.f1 = _ := s1 k (by omega)
        have s2' : spec_DistCode.f k t.f2 = _ := s2 k (by omega)
        show spec_l07Cost.f k t.f0 t.f1 t.f2 = _
        unfold spec_l07Cost.f
        rw [if_neg c0, s1', Option.bind_some, s2', Option.bind_some]
        dsimp only
        rw [if_pos c1, w64_id (x := 7 + lB u) (by omega) (by omega), w64_id (x := 7 + lB u + 5) (by omega) (by omega), w64_id (by omega) (by omega)]
      · obtain ⟨K1, s1⟩ := i1
        obtain ⟨K2, s2⟩ := i2
        refine ⟨max K1 K2, fun k hk => ?_⟩
        have s1' : impl_LengthCode.f k t.f1 = _ := s1 k (by omega)
        have s2' : impl_DistCode.f k t.f2 = _ := s2 k (by omega)
        show impl_costOf.f k t.f0 t.f1 t.f2 = _
        unfold impl_costOf.f
        rw [if_neg c0, s1', Option.bind_some, s2', Option.bind_some]
        dsimp only
        rw [if_pos c1, w64_id (x := 7 + lB u) (by omega) (by omega), w64_id (x := 7 + lB u + 5) (by omega) (by omega), w64_id (by omega) (by omega)]
    · refine ⟨8 + lB u + 5 + dB v, by omega, by omega, ?_, ?_⟩
      · obtain ⟨K1, s1⟩ := s1
        obtain ⟨K2, s2⟩ := s2
        refine ⟨max K1 K2, fun k hk => ?_⟩
        have s1' : spec_LengthCode.f k t.f1 = _ := s1 k (by omega)
        have s2' : spec_DistCode.f k t.f2 = _ := s2 k (by omega)
        show spec_l07Cost.f k t.f0 t.f1 t.f2 = _
        unfold spec_l07Cost.f
        rw [if_neg c0, s1', Option.bind_some, s2', Option.bind_some]
        dsimp only
        rw [if_neg c1, w64_id (x := 8 + lB u) (by omega) (by omega), w64_id (x := 8 + lB u + 5) (by omega) (by omega), w64_id (by omega) (by omega)]
      · obtain ⟨K1, s1⟩ := i1
        obtain ⟨K2, s2⟩ := i2
        refine ⟨max K1 K2, fun k hk => ?_⟩
        have s1' : impl_LengthCode.f k t.f1 = _ := s1 k (by omega)
        have s2' : impl_DistCode.f k t.f2 = _ := s2 k (by omega)
        show impl_costOf.f k t.f0 t.f1 t.f2 = _
        unfold impl_costOf.f
        rw [if_neg c0, s1', Option.bind_some, s2', Option.bind_some]
        dsimp only
        rw [if_neg c1, w64_id (x := 8 + lB u) (by omega) (by omega), w64_id (x := 8 + lB u + 5) (by omega) (by omega), w64_id (by omega) (by omega)]

open Go.Proofs.Ytaaoojmbomhakaa.MChains
/-- How many bytes from a on are those from b on: from n of them on, at most d more. -/
def run (s : ByteArray) (a b : Nat) : Nat → Nat → Nat
  | 0, n => n
  | d + 1, n => if b + n < s.size ∧ bt s ((a + n : Nat) : Int) = bt s ((b + n : Nat) : Int) then run s a b d (n + 1) else n
def th (s : ByteArray) (a b : Nat) : Nat → Nat → Bool
  | 0, _ => true
  | d + 1, n => if b + n < s.size ∧ bt s ((a + n : Nat) : Int) = bt s ((b + n : Nat) : Int) then th s a b d (n + 1) else false
/-- The best repeat of the places ahead of k, of at most c of them. -/
def ref (s : ByteArray) (at_ : Nat) : Nat → Nat → Int → Int → Int × Int
  | 0, _, b, d => (b, d)
  | _ + 1, 0, b, d => (b, d)
  | k + 1, c + 1, b, d => if th s k at_ 3 0 = true then (if ((run s k at_ 258 0 : Nat) : Int) > b then ref s at_ k c ((run s k at_ 258 0 : Nat) : Int) ((at_ : Int) - k) else ref s at_ k c b d) else ref s at_ k (c + 1) b d
theorem ref_zero (s : ByteArray) (at_ : Nat) : ∀ (k : Nat) (b d : Int), ref s at_ k 0 b d = (b, d)
  | 0, _, _ => rfl
  | _ + 1, _, _ => rfl
theorem run_le (s : ByteArray) (a b : Nat) : ∀ d n, run s a b d n ≤ n + d
  | 0, n => by unfold run; omega
  | d + 1, n => by
    unfold run
    split
    · have := run_le s a b d (n + 1); omega
    · omega
theorem three_ev (s : ByteArray) (hs : s.size ≤ 100000) (a b : Nat) (hab : a < b) (hb : b ≤ s.size) (d : Nat) : ∀ n : Nat, n + d = 3 → Ev (fun k => spec_l07Three.l0 k s a b n) (th s a b d n) := by
  induction d with
  | zero =>
    intro n h
    refine ev_ret (fun k => ?_)
    rw [spec_l07Three.l0, if_neg (by omega)]
    rfl
  | succ d ih =>
    intro n h
    unfold th
    have wa : wrap64 ((a : Int) + n) = ((a + n : Nat) : Int) := by rw [w64_id (by omega) (by omega)]; omega
    have wb : wrap64 ((b : Int) + n) = ((b + n : Nat) : Int) := by rw [w64_id (by omega) (by omega)]; omega
    by_cases h1 : b + n < s.size
    · by_cases h2 : bt s ((a + n : Nat) : Int) = bt s ((b + n : Nat) : Int)
      · rw [if_pos ⟨h1, h2⟩]
        refine Ev.step (fun k => ?_) (ih (n + 1) (by omega))
        rw [spec_l07Three.l0, if_pos (by omega), wa, wb, if_neg (by omega), if_pos (by omega), if_pos (by omega), if_pos (by omega), if_pos (by omega), if_pos h2, w64_id (x := (n : Int) + 1) (by omega) (by omega)]
        rfl
      · rw [if_neg (fun h3 => h2 h3.2)]
        refine ev_ret (fun k => ?_)
        rw [spec_l07Three.l0, if_pos (by omega), wa, wb, if_neg (by omega), if_pos (by omega), if_pos (by omega), if_pos (by omega), if_pos (by omega), if_neg h2]
    · rw [if_neg (fun h3 => h1 h3.1)]
      refine ev_ret (fun k => ?_)
      rw [spec_l07Three.l0, if_pos (by omega), wb, if_pos (by omega)]
theorem alike_ev (s : ByteArray) (hs : s.size ≤ 100000) (a b : Nat) (hab : a < b) (hb : b ≤ s.size) (d : Nat) : ∀ n : Nat, n + d = 258 → Ev (fun k => impl_alike.l0 k s a b n) ((run s a b d n : Nat) : Int) := by
  induction d with
  | zero =>
    intro n h
    refine ev_ret (fun k => ?_)
    rw [impl_alike.l0, if_neg (by omega)]
    rfl
  | succ d ih =>
    intro n h
    unfold run
    have wa : wrap64 ((a : Int) + n) = ((a + n : Nat) : Int) := by rw [w64_id (by omega) (by omega)]; omega
    have wb : wrap64 ((b : Int) + n) = ((b + n : Nat) : Int) := by rw [w64_id (by omega) (by omega)]; omega
    by_cases h1 : b + n < s.size
    · by_cases h2 : bt s ((a + n : Nat) : Int) = bt s ((b + n : Nat) : Int)
      · rw [if_pos ⟨h1, h2⟩]
        refine Ev.step (fun k => ?_) (ih (n + 1) (by omega))
        rw [impl_alike.l0, if_pos (by omega), wa, wb, if_pos (by omega), if_pos (by omega), if_pos (by omega), if_pos (by omega), if_pos h2, w64_id (x := (n : Int) + 1) (by omega) (by omega)]
        rfl
      · rw [if_neg (fun h3 => h2 h3.2)]
        refine ev_ret (fun k => ?_)
        rw [impl_alike.l0, if_pos (by omega), wa, wb, if_pos (by omega), if_pos (by omega), if_pos (by omega), if_pos (by omega), if_neg h2]
    · rw [if_neg (fun h3 => h1 h3.1)]
      refine ev_ret (fun k => ?_)
      rw [impl_alike.l0, if_pos (by omega), wb, if_neg (by omega)]
theorem l1_ev (s : ByteArray) (hs : s.size ≤ 100000) (a b : Nat) (hab : a < b) (hb : b ≤ s.size) (c x y z : Int) (r : Int × Int) (d : Nat) : ∀ n : Nat, n + d = 258 →
    Ev (fun k => if ((run s a b d n : Nat) : Int) > x then spec_BestMatch.l0 k s b c ((run s a b d n : Nat) : Int) (wrap64 ((b : Int) - a)) z (wrap64 ((a : Int) - 1)) else spec_BestMatch.l0 k s b c x y z (wrap64 ((a : Int) - 1))) r → Ev (fun k => spec_BestMatch.l1 k s b c x y z a n) r := by
  induction d with
  | zero =>
    intro n h hr
    refine Ev.step (fun k => ?_) hr
    rw [spec_BestMatch.l1, if_neg (by omega)]
    rfl
  | succ d ih =>
    intro n h hr
    unfold run at hr
    have wa : wrap64 ((a : Int) + n) = ((a + n : Nat) : Int) := by rw [w64_id (by omega) (by omega)]; omega
    have wb : wrap64 ((b : Int) + n) = ((b + n : Nat) : Int) := by rw [w64_id (by omega) (by omega)]; omega
    by_cases h1 : b + n < s.size
    · by_cases h2 : bt s ((a + n : Nat) : Int) = bt s ((b + n : Nat) : Int)
      · rw [if_pos ⟨h1, h2⟩] at hr
        refine Ev.step (fun k => ?_) (ih (n + 1) (by omega) hr)
        rw [spec_BestMatch.l1, if_pos (by omega), wa, wb, if_pos (by omega), if_pos (by omega), if_pos (by omega), if_pos (by omega), if_pos h2, w64_id (x := (n : Int) + 1) (by omega) (by omega)]
        rfl
      · rw [if_neg (fun h3 => h2 h3.2)] at hr
        refine Ev.step (fun k => ?_) hr
        rw [spec_BestMatch.l1, if_pos (by omega), wa, wb, if_pos (by omega), if_pos (by omega), if_pos (by omega), if_pos (by omega), if_neg h2]
    · rw [if_neg (fun h3 => h1 h3.1)] at hr
      refine Ev.step (fun k => ?_) hr
      rw [spec_BestMatch.l1, if_pos (by omega), wb, if_neg (by omega)]
/-- The reference's loop. -/
theorem spec_best_loop (s : ByteArray) (hs : s.size ≤ 100000) (at_ : Nat) (hat : at_ ≤ s.size) (c : Nat) (hc : c ≤ 64) : ∀ (k : Nat) (seen : Nat) (x y : Int), k ≤ at_ → seen ≤ c →
    Ev (fun f => spec_BestMatch.l0 f s at_ c x y seen ((k : Int) - 1)) (ref s at_ k (c - seen) x y) := by
  intro k
  induction k with
  | zero =>
    intro seen x y hk hsn
    refine Ev.step (f := fun f => spec_BestMatch.j2 f s at_ c x y seen (((0 : Nat) : Int) - 1) false) (fun f => ?_) ?_
    · rw [spec_BestMatch.l0, if_neg (by omega)]
    · refine ev_ret (fun f => ?_)
      rw [spec_BestMatch.j2, if_neg (by decide)]
      rfl
  | succ k ih =>
    intro seen x y hk hsn
    refine Ev.step (f := fun f => spec_BestMatch.j2 f s at_ c x y seen (((k + 1 : Nat) : Int) - 1) (decide ((seen : Int) < c))) (fun f => ?_) ?_
    · rw [spec_BestMatch.l0, if_pos (by omega)]
    · by_cases hlt : seen < c
      · obtain ⟨m, hm⟩ : ∃ m, c - seen = m + 1 := ⟨c - seen - 1, by omega⟩
        rw [hm, ref, decide_eq_true (show (seen : Int) < c by omega), show ((k + 1 : Nat) : Int) - 1 = (k : Int) by omega]
        have w1 : wrap64 ((k : Int) - 1) = (k : Int) - 1 := w64_id (by omega) (by omega)
        have w2 : wrap64 ((seen : Int) + 1) = ((seen + 1 : Nat) : Int) := by rw [w64_id (by omega) (by omega)]; omega
        have w3 : wrap64 ((at_ : Int) - k) = (at_ : Int) - k := w64_id (by omega) (by omega)
        have ht := three_ev s hs k at_ (by omega) hat 3 0 (by omega)
        cases hth : th s k at_ 3 0 with
        | true =>
          rw [hth] at ht
          rw [if_pos rfl]
          refine ev_use_step (G := fun f => spec_BestMatch.l1 f s at_ c x y ((seen + 1 : Nat) : Int) k ((0 : Nat) : Int)) ht (fun f hf => ?_) ?_
          · rw [spec_BestMatch.j2, if_pos rfl]
            unfold spec_l07Three.f
            have hf' : spec_l07Three.l0 f s k at_ 0 = some true := hf
            rw [hf', Option.bind_some, if_pos rfl, w2]
            rfl
          · refine l1_ev s hs k at_ (by omega) hat c x y _ _ 258 0 (by omega) ?_
            rw [w1, w3]
            generalize ((run s k at_ 258 0 : Nat) : Int) = R
            by_cases hg : R > x
            · rw [if_pos hg]
              have h5 := ih (seen + 1) R ((at_ : Int) - k) (by omega) (by omega)
              rw [show c - (seen + 1) = m by omega] at h5
              exact Ev.congr (fun f => if_pos hg) h5
            · rw [if_neg hg]
              have h5 := ih (seen + 1) x y (by omega) (by omega)
              rw [show c - (seen + 1) = m by omega] at h5
              exact Ev.congr (fun f => if_neg hg) h5
        | false =>
          rw [hth] at ht
          rw [if_neg (by decide)]
          have h5 := ih seen x y (by omega) hsn
          rw [hm] at h5
          refine ev_use_step ht (fun f hf => ?_) h5
          rw [spec_BestMatch.j2, if_pos rfl]
          unfold spec_l07Three.f
          have hf' : spec_l07Three.l0 f s k at_ 0 = some false := hf
          rw [hf', Option.bind_some, if_neg (by decide), w1]
      · rw [show c - seen = 0 by omega, ref_zero, decide_eq_false (show ¬ (seen : Int) < c by omega)]
        refine ev_ret (fun f => ?_)
        rw [spec_BestMatch.j2, if_neg (by decide)]

def keyB (s : ByteArray) (i : Int) : Int := bt s i * 65536 + bt s (i + 1) * 256 + bt s (i + 2)
theorem key_some (s : ByteArray) (hs : s.size ≤ 100000) (i : Nat) (h : i + 3 ≤ s.size) : impl_ReadBig.f 10 s i 3 = some (keyB s i, true) := by
  have a0 := bt_lo s i
  have a1 := bt_hi s i
  have b0 := bt_lo s ((i : Int) + 1)
  have b1 := bt_hi s ((i : Int) + 1)
  have c0 := bt_lo s ((i : Int) + 2)
  have c1 := bt_hi s ((i : Int) + 2)
  have hw : wrap64 ((s.size : Int) - 3) = s.size - 3 := w64_id (by omega) (by omega)
  have w0 : wrap64 ((i : Int) + 0) = i := by rw [w64_id (by omega) (by omega)]; omega
  have w1 : wrap64 ((i : Int) + 1) = (i : Int) + 1 := w64_id (by omega) (by omega)
  have w2 : wrap64 ((i : Int) + 2) = (i : Int) + 2 := w64_id (by omega) (by omega)
  have o1 : Go.bits .or .i64 (wrap64 (0 * 256)) (wrap64 (bt s i)) = bt s i := by
    rw [w64_id (x := 0 * 256) (by omega) (by omega), w64_id (x := bt s i) (by omega) (by omega), or64 8 _ _ (by omega) (by omega) (by omega) (by omega) (by omega) (by omega)]
    omega
  have o2 : Go.bits .or .i64 (wrap64 (bt s i * 256)) (wrap64 (bt s ((i : Int) + 1))) = bt s i * 256 + bt s ((i : Int) + 1) := by
    rw [w64_id (x := bt s i * 256) (by omega) (by omega), w64_id (x := bt s ((i : Int) + 1)) (by omega) (by omega), or64 8 _ _ (by omega) (by omega) (by omega) (by omega) (by omega) (by omega)]
  have o3 : Go.bits .or .i64 (wrap64 ((bt s i * 256 + bt s ((i : Int) + 1)) * 256)) (wrap64 (bt s ((i : Int) + 2))) = keyB s i := by
    rw [w64_id (x := (bt s i * 256 + bt s ((i : Int) + 1)) * 256) (by omega) (by omega), w64_id (x := bt s ((i : Int) + 2)) (by omega) (by omega), or64 8 _ _ (by omega) (by omega) (by omega) (by omega) (by omega) (by omega)]
    unfold keyB
    omega
  unfold impl_ReadBig.f
  rw [in_impl, decide_eq_true (show (1 : Int) ≤ 3 ∧ (3 : Int) ≤ 4 by decide), Option.bind_some, if_pos rfl, if_neg (by omega), hw, decide_eq_false (show ¬ (i : Int) > (s.size : Int) - 3 by omega)]
  rw [impl_ReadBig.j0, if_neg (by decide)]
  rw [impl_ReadBig.l0, if_pos (by omega), w0, if_pos (by omega), if_pos (by omega), o1, w64_id (x := (0 : Int) + 1) (by omega) (by omega)]
  rw [impl_ReadBig.l0, if_pos (by omega), show (0 : Int) + 1 = 1 by rfl, w1, if_pos (by omega), if_pos (by omega), o2, w64_id (x := (1 : Int) + 1) (by omega) (by omega)]
  rw [impl_ReadBig.l0, if_pos (by omega), show (1 : Int) + 1 = 2 by rfl, w2, if_pos (by omega), if_pos (by omega), o3, w64_id (x := (2 : Int) + 1) (by omega) (by omega)]
  rw [impl_ReadBig.l0, if_neg (by omega)]
theorem key_none (s : ByteArray) (hs : s.size ≤ 100000) (i : Nat) (h : ¬ i + 3 ≤ s.size) : impl_ReadBig.f 10 s i 3 = some (0, false) := by
  have hw : wrap64 ((s.size : Int) - 3) = s.size - 3 := w64_id (by omega) (by omega)
  unfold impl_ReadBig.f
  rw [in_impl, decide_eq_true (show (1 : Int) ≤ 3 ∧ (3 : Int) ≤ 4 by decide), Option.bind_some, if_pos rfl, if_neg (by omega), hw, decide_eq_true (show (i : Int) > (s.size : Int) - 3 by omega)]
  rw [impl_ReadBig.j0, if_pos rfl]
def kvS (s : ByteArray) (i : Nat) : Int := if i + 3 ≤ s.size then keyB s i else 0
def koS (s : ByteArray) (i : Nat) : Bool := decide (i + 3 ≤ s.size)
theorem keyB_rng (s : ByteArray) (i : Int) : 0 ≤ keyB s i ∧ keyB s i ≤ 16777215 := by
  have a0 := bt_lo s i
  have a1 := bt_hi s i
  have b0 := bt_lo s (i + 1)
  have b1 := bt_hi s (i + 1)
  have c0 := bt_lo s (i + 2)
  have c1 := bt_hi s (i + 2)
  unfold keyB
  omega
theorem chains_is (s : ByteArray) (hs : s.size ≤ 100000) : impl_chainsOf.f s = some (chains (kvS s) (koS s) s.size) := by
  unfold impl_chainsOf.f chainsF
  have hk : ∀ i : Nat, impl_ReadBig.f 10 s i 3 = some (kvS s i, koS s i) := by
    intro i
    by_cases h : i + 3 ≤ s.size
    · rw [key_some s hs i h]
      unfold kvS koS
      rw [if_pos h, decide_eq_true h]
    · rw [key_none s hs i h]
      unfold kvS koS
      rw [if_neg h, decide_eq_false h]
  rw [if_pos]
  · have e1 : (fun i : Nat => kvOf (impl_ReadBig.f 10 s i 3)) = kvS s := by funext i; rw [hk]; rfl
    have e2 : (fun i : Nat => koOf (impl_ReadBig.f 10 s i 3)) = koS s := by funext i; rw [hk]; rfl
    rw [e1, e2]
  · refine ⟨hs, fun i _ => ?_⟩
    show okOf (impl_ReadBig.f 10 s i 3) = true
    rw [hk]
    show (Lit.int .i64 (kvS s i)).wf = true
    have := keyB_rng s i
    unfold kvS
    split
    · simp [Lit.wf, IntKind.min, IntKind.max, IntKind.signed, IntKind.bits]
      omega
    · rfl
theorem chains_rd (kv : Nat → Int) (ko : Nat → Bool) (n i : Nat) (h : i < n) : rd (chains kv ko n) (i : Int) = chainAt kv ko i := by
  unfold rd chains
  rw [Int.toNat_natCast, List.getD_eq_getElem?_getD, List.getElem?_map, List.getElem?_range h]
  rfl
/-- Where the search begins: the nearest place ahead of k with the key of 'at'. -/
def fromAt (s : ByteArray) (at_ k : Nat) : Int := if koS s at_ = true then (match prevKey (kvS s) (koS s) k (kvS s at_) with | some p => (p : Int) | none => -1) else -1
theorem same_iff (s : ByteArray) (k at_ : Nat) (h : k < at_) : (th s k at_ 3 0 = true) ↔ (koS s at_ = true ∧ koS s k = true ∧ kvS s k = kvS s at_) := by
  have e : (th s k at_ 3 0 = true) ↔ (at_ + 2 < s.size ∧ bt s k = bt s at_ ∧ bt s ((k : Int) + 1) = bt s ((at_ : Int) + 1) ∧ bt s ((k : Int) + 2) = bt s ((at_ : Int) + 2)) := by
    simp only [th, Nat.add_zero, Nat.zero_add]
    have e1 : ((k + 1 : Nat) : Int) = (k : Int) + 1 := by omega
    have e2 : ((at_ + 1 : Nat) : Int) = (at_ : Int) + 1 := by omega
    have e3 : ((k + (1 + 1) : Nat) : Int) = (k : Int) + 2 := by omega
    have e4 : ((at_ + (1 + 1) : Nat) : Int) = (at_ : Int) + 2 := by omega
    rw [e1, e2, e3, e4]
    constructor
    · intro h
      split at h
      · rename_i h1
        split at h
        · rename_i h2
          split at h
          · rename_i h3
            exact ⟨by omega, h1.2, h2.2, h3.2⟩
          · cases h
        · cases h
      · cases h
    · intro ⟨h1, h2, h3, h4⟩
      rw [if_pos ⟨by omega, h2⟩, if_pos ⟨by omega, h3⟩, if_pos ⟨by omega, h4⟩]
  rw [e]
  unfold koS kvS
  simp only [decide_eq_true_eq]
  have a0 := bt_lo s k
  have a1 := bt_hi s k
  have b0 := bt_lo s ((k : Int) + 1)
  have b1 := bt_hi s ((k : Int) + 1)
  have c0 := bt_lo s ((k : Int) + 2)
  have c1 := bt_hi s ((k : Int) + 2)
  have a0' := bt_lo s at_
  have a1' := bt_hi s at_
  have b0' := bt_lo s ((at_ : Int) + 1)
  have b1' := bt_hi s ((at_ : Int) + 1)
  have c0' := bt_lo s ((at_ : Int) + 2)
  have c1' := bt_hi s ((at_ : Int) + 2)
  constructor
  · intro ⟨h1, h2, h3, h4⟩
    refine ⟨by omega, by omega, ?_⟩
    rw [if_pos (by omega), if_pos (by omega)]
    unfold keyB
    rw [h2, h3, h4]
  · intro ⟨h1, h2, h3⟩
    rw [if_pos h2, if_pos h1] at h3
    unfold keyB at h3
    exact ⟨by omega, by omega, by omega, by omega⟩
theorem from_succ (s : ByteArray) (at_ k : Nat) (h : k < at_) : fromAt s at_ (k + 1) = if th s k at_ 3 0 = true then (k : Int) else fromAt s at_ k := by
  unfold fromAt
  by_cases h1 : koS s at_ = true
  · rw [if_pos h1, if_pos h1]
    by_cases h2 : koS s k = true ∧ kvS s k = kvS s at_
    · have e : prevKey (kvS s) (koS s) (k + 1) (kvS s at_) = some k := if_pos h2
      rw [e, if_pos ((same_iff s k at_ h).2 ⟨h1, h2.1, h2.2⟩)]
    · have e : prevKey (kvS s) (koS s) (k + 1) (kvS s at_) = prevKey (kvS s) (koS s) k (kvS s at_) := if_neg h2
      rw [e, if_neg (fun h3 => h2 ((same_iff s k at_ h).1 h3).2)]
  · rw [if_neg h1, if_neg h1, if_neg (fun h3 => h1 ((same_iff s k at_ h).1 h3).1)]
theorem from_neg (s : ByteArray) (at_ k : Nat) : fromAt s at_ k = -1 ∨ 0 ≤ fromAt s at_ k := by
  unfold fromAt
  split
  · split <;> omega
  · exact Or.inl rfl
/-- The program's loop. -/
theorem impl_best_loop (s : ByteArray) (hs : s.size ≤ 100000) (at_ : Nat) (hat : at_ < s.size) (c : Nat) (hc : c ≤ 64) : ∀ (k : Nat) (seen : Nat) (x y : Int), k ≤ at_ → seen ≤ c →
    Ev (fun f => impl_best.l0 f s (chains (kvS s) (koS s) s.size) at_ c x y (fromAt s at_ k) seen) (ref s at_ k (c - seen) x y) := by
  intro k
  induction k with
  | zero =>
    intro seen x y hk hsn
    have hf : fromAt s at_ 0 = -1 := by unfold fromAt; split <;> rfl
    rw [hf]
    refine Ev.step (f := fun f => impl_best.j1 f s (chains (kvS s) (koS s) s.size) at_ c x y (-1) seen false) (fun f => ?_) ?_
    · rw [impl_best.l0]
      split <;> rfl
    · refine ev_ret (fun f => ?_)
      rw [impl_best.j1, if_neg (by decide)]
      rfl
  | succ k ih =>
    intro seen x y hk hsn
    by_cases hlt : seen < c
    · obtain ⟨m, hm⟩ : ∃ m, c - seen = m + 1 := ⟨c - seen - 1, by omega⟩
      have e1 : (seen : Int) < (c : Int) := by omega
      have e2 : k ≤ at_ := by omega
      have e3 : seen + 1 ≤ c := by omega
      have e4 : c - (seen + 1) = m := by omega
      have e5 : (k : Int) ≥ 0 := by omega
      have e6 : k < at_ := by omega
      have e7 : at_ ≤ s.size := by omega
      have e8 : k < s.size := by omega
      have e9 : (k : Int) < ((chains (kvS s) (koS s) s.size).length : Int) := by rw [chains_len]; omega
      have w1 : wrap64 ((at_ : Int) - k) = (at_ : Int) - k := w64_id (by omega) (by omega)
      have w2 : wrap64 ((seen : Int) + 1) = ((seen + 1 : Nat) : Int) := by rw [w64_id (by omega) (by omega)]; omega
      rw [hm, ref, from_succ s at_ k e6]
      cases hth : th s k at_ 3 0 with
      | true =>
        rw [if_pos rfl, if_pos rfl]
        have ha := alike_ev s hs k at_ e6 e7 258 0 (by decide)
        generalize ((run s k at_ 258 0 : Nat) : Int) = R at ha ⊢
        have hch : chainAt (kvS s) (koS s) k = fromAt s at_ k := by
          have h3 := (same_iff s k at_ e6).1 hth
          unfold chainAt fromAt
          rw [if_pos h3.2.1, if_pos h3.1, h3.2.2]
          rfl
        have hrd : rd (chains (kvS s) (koS s) s.size) (k : Int) = fromAt s at_ k := by rw [chains_rd _ _ _ _ e8, hch]
        refine Ev.step (f := fun f => impl_best.j1 f s (chains (kvS s) (koS s) s.size) at_ c x y k seen true) (fun f => ?_) ?_
        · rw [impl_best.l0, if_pos e1, decide_eq_true e5]
        · by_cases hg : R > x
          · rw [if_pos hg]
            have h5 := ih (seen + 1) R ((at_ : Int) - k) e2 e3
            rw [e4] at h5
            refine ev_use_step ha (fun f hf => ?_) h5
            have hf' : impl_alike.l0 f s k at_ 0 = some R := hf
            rw [impl_best.j1, if_pos rfl]
            unfold impl_alike.f
            rw [hf', Option.bind_some, if_pos hg, if_pos e5, if_pos e9, hrd, w1, w2]
          · rw [if_neg hg]
            have h5 := ih (seen + 1) x y e2 e3
            rw [e4] at h5
            refine ev_use_step ha (fun f hf => ?_) h5
            have hf' : impl_alike.l0 f s k at_ 0 = some R := hf
            rw [impl_best.j1, if_pos rfl]
            unfold impl_alike.f
            rw [hf', Option.bind_some, if_neg hg, if_pos e5, if_pos e9, hrd, w2]
      | false =>
        rw [if_neg (by decide), if_neg (by decide)]
        have h5 := ih seen x y e2 hsn
        rw [hm] at h5
        exact h5
    · rw [show c - seen = 0 by omega, ref_zero]
      refine Ev.step (f := fun f => impl_best.j1 f s (chains (kvS s) (koS s) s.size) at_ c x y (fromAt s at_ (k + 1)) seen false) (fun f => ?_) ?_
      · rw [impl_best.l0, if_neg (by omega)]
      · refine ev_ret (fun f => ?_)
        rw [impl_best.j1, if_neg (by decide)]
theorem best_f (s : ByteArray) (hs : s.size ≤ 100000) (at_ : Nat) (hat : at_ < s.size) (c : Nat) (hc : c ≤ 64) : Ev (fun f => impl_best.f f s (chains (kvS s) (koS s) s.size) at_ c) (ref s at_ at_ c 0 0) := by
  have h := impl_best_loop s hs at_ hat c hc at_ 0 0 0 (Nat.le_refl _) (Nat.zero_le _)
  rw [Nat.sub_zero] at h
  refine Ev.congr (fun f => ?_) h
  have hch : rd (chains (kvS s) (koS s) s.size) (at_ : Int) = fromAt s at_ at_ := by
    rw [chains_rd _ _ _ _ hat]
    rfl
  unfold impl_best.f
  rw [if_neg (by omega), if_pos (by omega), if_pos (by rw [chains_len]; omega), hch]
  rfl

theorem run_props (s : ByteArray) (a b : Nat) : ∀ d n, b + n ≤ s.size → n ≤ run s a b d n ∧ run s a b d n ≤ n + d ∧ b + run s a b d n ≤ s.size ∧ (∀ k, n ≤ k → k < run s a b d n → bt s ((a + k : Nat) : Int) = bt s ((b + k : Nat) : Int)) ∧
    (run s a b d n = n + d ∨ b + run s a b d n = s.size ∨ bt s ((a + run s a b d n : Nat) : Int) ≠ bt s ((b + run s a b d n : Nat) : Int))
  | 0, n, h => ⟨Nat.le_refl _, Nat.le_refl _, h, fun k h1 h2 => by unfold run at h2; omega, Or.inl rfl⟩
  | d + 1, n, h => by
    by_cases hc : b + n < s.size ∧ bt s ((a + n : Nat) : Int) = bt s ((b + n : Nat) : Int)
    · obtain ⟨h1, h2, h3, h4, h5⟩ := run_props s a b d (n + 1) (by omega)
      have e : run s a b (d + 1) n = run s a b d (n + 1) := by rw [run, if_pos hc]
      rw [e]
      refine ⟨by omega, by omega, h3, fun k k1 k2 => ?_, ?_⟩
      · by_cases hk : k = n
        · rw [hk]; exact hc.2
        · exact h4 k (by omega) k2
      · rcases h5 with h5 | h5 | h5
        · exact Or.inl (by omega)
        · exact Or.inr (Or.inl h5)
        · exact Or.inr (Or.inr h5)
    · have e : run s a b (d + 1) n = n := by rw [run, if_neg hc]
      rw [e]
      refine ⟨Nat.le_refl _, by omega, h, fun k k1 k2 => by omega, ?_⟩
      by_cases h1 : b + n < s.size
      · exact Or.inr (Or.inr (fun h2 => hc ⟨h1, h2⟩))
      · exact Or.inr (Or.inl (by omega))
theorem th_run (s : ByteArray) (a b : Nat) : ∀ d n e, th s a b d n = true → n + d ≤ run s a b (d + e) n
  | 0, n, e, h => by
    by_cases hc : b + n ≤ s.size
    · have := (run_props s a b (0 + e) n hc).1; omega
    · have : ∀ q, run s a b q n = n := by
        intro q
        cases q with
        | zero => rfl
        | succ q => rw [run, if_neg (by omega)]
      rw [this]; omega
  | d + 1, n, e, h => by
    rw [th] at h
    split at h
    · rename_i hc
      have := th_run s a b d (n + 1) e h
      rw [show d + 1 + e = (d + e) + 1 by omega, run, if_pos hc]
      omega
    · cases h
/-- What a best repeat is: none, or one of the places ahead. -/
def RefOk (s : ByteArray) (at_ : Nat) (b d : Int) : Prop := (b = 0 ∧ d = 0) ∨ ∃ p n : Nat, p < at_ ∧ b = (n : Int) ∧ d = (at_ : Int) - p ∧ 3 ≤ n ∧ run s p at_ 258 0 = n
theorem ref_ok (s : ByteArray) (at_ : Nat) : ∀ (k c : Nat) (b d : Int), k ≤ at_ → RefOk s at_ b d → RefOk s at_ (ref s at_ k c b d).1 (ref s at_ k c b d).2
  | 0, c, b, d, hk, h => h
  | k + 1, 0, b, d, hk, h => h
  | k + 1, c + 1, b, d, hk, h => by
    rw [ref]
    split
    · rename_i ht
      split
      · exact ref_ok s at_ k c _ _ (by omega) (Or.inr ⟨k, run s k at_ 258 0, by omega, rfl, rfl, by have := th_run s k at_ 3 0 255 ht; omega, rfl⟩)
      · exact ref_ok s at_ k c _ _ (by omega) h
    · exact ref_ok s at_ k (c + 1) _ _ (by omega) h
/-- The best repeat at a place; none at or behind the end. -/
def bm (s : ByteArray) (c : Nat) (at_ : Nat) : Int × Int := if at_ < s.size then ref s at_ at_ c 0 0 else (0, 0)
theorem bm_ok (s : ByteArray) (c at_ : Nat) : RefOk s at_ (bm s c at_).1 (bm s c at_).2 := by
  unfold bm
  split
  · exact ref_ok s at_ at_ c 0 0 (Nat.le_refl _) (Or.inl ⟨rfl, rfl⟩)
  · exact Or.inl ⟨rfl, rfl⟩
theorem bm_rng (s : ByteArray) (c at_ : Nat) : 0 ≤ (bm s c at_).1 ∧ (bm s c at_).1 ≤ 258 ∧ ((bm s c at_).1 = 0 → (bm s c at_).2 = 0) ∧ ((bm s c at_).1 ≠ 0 → 3 ≤ (bm s c at_).1 ∧ (at_ : Int) + (bm s c at_).1 ≤ s.size ∧ 1 ≤ (bm s c at_).2 ∧ (bm s c at_).2 ≤ at_) := by
  have hs : (bm s c at_).1 ≠ 0 → at_ < s.size := by
    intro h
    unfold bm at h
    by_cases h1 : at_ < s.size
    · exact h1
    · rw [if_neg h1] at h; exact absurd rfl h
  rcases bm_ok s c at_ with ⟨h1, h2⟩ | ⟨p, n, h1, h2, h3, h4, h5⟩
  · exact ⟨by omega, by omega, fun _ => h2, fun h => absurd h1 h⟩
  · have h6 := run_le s p at_ 258 0
    refine ⟨by omega, by omega, fun h => by omega, fun h => ?_⟩
    have h7 := hs h
    have h8 := (run_props s p at_ 258 0 (by omega)).2.2.1
    omega

theorem spec_bm (s : ByteArray) (hs : s.size ≤ 2600) (C : Nat) (h4 : 1 ≤ C) (h5 : C ≤ 64) (A : Nat) (hA : A ≤ 100000) : Ev (fun k => spec_BestMatch.f k s (A : Int) (C : Int)) (bm s C A) := by
  have hw : wrap64 ((s.size : Int) - 1) = s.size - 1 := w64_id (by omega) (by omega)
  unfold bm
  by_cases h : A < s.size
  · rw [if_pos h]
    have e := spec_best_loop s (by omega) A (by omega) C (by omega) A 0 0 0 (Nat.le_refl _) (Nat.zero_le _)
    rw [Nat.sub_zero] at e
    have e2 : Ev (fun k => spec_BestMatch.j0 k s A C 0 0 false) (ref s A A C 0 0) := Ev.step (fun k => by rw [spec_BestMatch.j0, if_neg (by decide), w64_id (x := (A : Int) - 1) (by omega) (by omega)]; rfl) e
    refine Ev.congr (fun k => ?_) e2
    unfold spec_BestMatch.f
    rw [if_neg (by omega), hw, in_spec, decide_eq_true (⟨by omega, by omega⟩ : (0 : Int) ≤ (A : Int) ∧ (A : Int) ≤ (s.size : Int) - 1), Option.bind_some, if_pos rfl, in_spec, decide_eq_true (⟨by omega, by omega⟩ : (1 : Int) ≤ (C : Int) ∧ (C : Int) ≤ 64), Option.bind_some]
    rfl
  · rw [if_neg h]
    have e2 : Ev (fun k => spec_BestMatch.j0 k s A C 0 0 true) (0, 0) := ev_ret (fun k => by rw [spec_BestMatch.j0, if_pos rfl])
    refine Ev.congr (fun k => ?_) e2
    unfold spec_BestMatch.f
    rw [if_neg (by omega), hw, in_spec, Option.bind_some, decide_eq_false (show ¬ ((0 : Int) ≤ (A : Int) ∧ (A : Int) ≤ (s.size : Int) - 1) by omega), if_neg (by decide)]
theorem impl_bm (s : ByteArray) (hs : s.size ≤ 2600) (C : Nat) (h5 : C ≤ 64) (A : Nat) : Ev (fun k => impl_best.f k s (chains (kvS s) (koS s) s.size) (A : Int) (C : Int)) (bm s C A) := by
  unfold bm
  by_cases h : A < s.size
  · rw [if_pos h]
    exact best_f s (by omega) A h C h5
  · rw [if_neg h]
    refine Ev.congr (fun k => ?_) (Ev.now (0, 0))
    unfold impl_best.f
    rw [if_pos (by omega)]
/-- The tokens of a text from a place on, d rounds at most. -/
def searchR (s : ByteArray) (c : Nat) (lazy : Bool) : Nat → Nat → List S44 → List S44
  | 0, _, o => o
  | d + 1, i, o => if i < s.size then (if (bm s c i).1 = 0 ∨ (lazy = true ∧ (bm s c (i + 1)).1 > (bm s c i).1) then searchR s c lazy d (i + 1) (o ++ [⟨bt s (i : Int), 0, 0⟩]) else searchR s c lazy d (i + (bm s c i).1.toNat) (o ++ [⟨0, (bm s c i).1, (bm s c i).2⟩])) else o
theorem searchR_len (s : ByteArray) (c : Nat) (lazy : Bool) : ∀ d i o, (searchR s c lazy d i o).length ≤ o.length + d
  | 0, i, o => Nat.le_refl _
  | d + 1, i, o => by
    unfold searchR
    split
    · split
      · have := searchR_len s c lazy d (i + 1) (o ++ [⟨bt s (i : Int), 0, 0⟩]); simp at this; omega
      · have := searchR_len s c lazy d (i + (bm s c i).1.toNat) (o ++ [⟨0, (bm s c i).1, (bm s c i).2⟩]); simp at this; omega
    · omega
theorem wbt (s : ByteArray) (i : Int) : wrap64 (bt s i) = bt s i := by
  have := bt_lo s i
  have := bt_hi s i
  exact w64_id (by omega) (by omega)
def WaysOk (ways : List S44) : Prop := ∀ j : Nat, j < ways.length → (rd_T44 ways (j : Int)).f1 = 0 ∨ (3 ≤ (rd_T44 ways (j : Int)).f1 ∧ (rd_T44 ways (j : Int)).f1 ≤ 258)
theorem way_set (ways : List S44) (j : Nat) (v : S44) (h : j < ways.length) : rd_T44 (ways.set j v) (j : Int) = v := by
  unfold rd_T44
  rw [Int.toNat_natCast, List.getD_eq_getElem?_getD, List.getElem?_set_self h]
  rfl
theorem ways_set (ways : List S44) (i : Nat) (v : S44) (h : WaysOk ways) (hv : v.f1 = 0 ∨ (3 ≤ v.f1 ∧ v.f1 ≤ 258)) : WaysOk (ways.set i v) := by
  intro j hj
  rw [List.length_set] at hj
  by_cases e : i = j
  · subst e
    rw [way_set ways i v hj]
    exact hv
  · have : rd_T44 (ways.set i v) (j : Int) = rd_T44 ways (j : Int) := by
      unfold rd_T44
      rw [Int.toNat_natCast, List.getD_eq_getElem?_getD, List.getD_eq_getElem?_getD, List.getElem?_set_ne e]
    rw [this]
    exact h j hj
theorem tail_both (s : ByteArray) (hs : s.size ≤ 2600) (ways : List S44) (hw : ways.length = s.size) (hok : WaysOk ways) : ∀ (d i : Nat) (o : List S44), s.size < i + d → i ≤ 3000 → o.length ≤ i → o.length ≤ s.size →
    ∃ r, Ev (fun k => spec_Cheapest.l2 k o s.size ways (i : Int)) r ∧ Ev (fun k => impl_Cheapest.l2 k s ways o (i : Int)) r ∧ r.1.length ≤ 2601 := by
  intro d
  induction d with
  | zero =>
    intro i o h hi ho ho2
    exact ⟨(o, true), ev_ret (fun k => by rw [spec_Cheapest.l2, if_neg (by omega)]), ev_ret (fun k => by rw [impl_Cheapest.l2, if_neg (by omega)]), by show o.length ≤ 2601; omega⟩
  | succ d ih =>
    intro i o h hi ho ho2
    by_cases hlt : i < s.size
    · have hk := hok i (by omega)
      generalize ht : rd_T44 ways (i : Int) = t at hk
      by_cases hz : t.f1 = 0
      · obtain ⟨r, g1, g2, g3⟩ := ih (i + 1) (o ++ [⟨t.f0, t.f1, t.f2⟩]) (by omega) (by omega) (by simp; omega) (by simp; omega)
        have hw1 : wrap64 ((i : Int) + 1) = ((i + 1 : Nat) : Int) := by rw [w64_id (by omega) (by omega)]; omega
        have hm : mx 1 t.f1 = 1 := by unfold mx; rw [if_neg (by omega)]
        refine ⟨r, Ev.step (fun k => ?_) g1, Ev.step (fun k => ?_) g2, g3⟩
        · rw [spec_Cheapest.l2, if_pos (by omega), if_pos (by omega), if_pos (by omega), if_pos (by omega), Option.bind_some, ht, if_pos hz, hw1]
        · rw [impl_Cheapest.l2, if_pos (by omega), if_pos (by omega), if_pos (by omega), if_pos (by omega), ht, hm, hw1]
      · have hk : 3 ≤ t.f1 ∧ t.f1 ≤ 258 := by omega
        obtain ⟨r, g1, g2, g3⟩ := ih (i + t.f1.toNat) (o ++ [⟨t.f0, t.f1, t.f2⟩]) (by omega) (by omega) (by simp; omega) (by simp; omega)
        have hw1 : wrap64 ((i : Int) + t.f1) = ((i + t.f1.toNat : Nat) : Int) := by rw [w64_id (by omega) (by omega)]; omega
        have hm : mx 1 t.f1 = t.f1 := by unfold mx; rw [if_pos (by omega)]
        refine ⟨r, Ev.step (fun k => ?_) g1, Ev.step (fun k => ?_) g2, g3⟩
        · rw [spec_Cheapest.l2, if_pos (by omega), if_pos (by omega), if_pos (by omega), if_pos (by omega), Option.bind_some, ht, if_neg hz, hw1]
        · rw [impl_Cheapest.l2, if_pos (by omega), if_pos (by omega), if_pos (by omega), if_pos (by omega), ht, hm, hw1]
    · exact ⟨(o, true), ev_ret (fun k => by rw [spec_Cheapest.l2, if_neg (by omega)]), ev_ret (fun k => by rw [impl_Cheapest.l2, if_neg (by omega)]), by show o.length ≤ 2601; omega⟩
/-- Both go on alike from place a. -/
def Both0 (s : ByteArray) (C : Nat) (cost : List Int) (ways : List S44) (a : Int) : Prop := ∃ r, Ev (fun k => spec_Cheapest.l0 k s (C : Int) [] s.size cost ways a) r ∧ Ev (fun k => impl_Cheapest.l0 k s (C : Int) (chains (kvS s) (koS s) s.size) cost ways a) r ∧ r.1.length ≤ 2601
theorem cheap_inner (s : ByteArray) (hs : s.size ≤ 2600) (C A : Nat) (hA : A < s.size) (most d : Int) (m1 : most ≤ 258) (m2 : most ≠ 0 → 3 ≤ most ∧ (A : Int) + most ≤ s.size ∧ 1 ≤ d ∧ d ≤ A) (m0 : 0 ≤ most)
    (Next : ∀ (cost : List Int) (ways : List S44), cost.length = s.size + 1 → ways.length = s.size → WaysOk ways → Both0 s C cost ways ((A : Int) - 1)) : ∀ (e K : Nat) (cost : List Int) (ways : List S44), most < (K : Int) + e → 3 ≤ K → cost.length = s.size + 1 → ways.length = s.size → WaysOk ways →
    ∃ r, Ev (fun k => spec_Cheapest.l1 k s (C : Int) [] s.size cost ways (A : Int) most d (K : Int)) r ∧ Ev (fun k => impl_Cheapest.l1 k s (C : Int) (chains (kvS s) (koS s) s.size) cost ways (A : Int) most d (K : Int)) r ∧ r.1.length ≤ 2601 := by
  have done : ∀ (K : Nat) (cost : List Int) (ways : List S44), ¬ (K : Int) ≤ most → cost.length = s.size + 1 → ways.length = s.size → WaysOk ways →
      ∃ r, Ev (fun k => spec_Cheapest.l1 k s (C : Int) [] s.size cost ways (A : Int) most d (K : Int)) r ∧ Ev (fun k => impl_Cheapest.l1 k s (C : Int) (chains (kvS s) (koS s) s.size) cost ways (A : Int) most d (K : Int)) r ∧ r.1.length ≤ 2601 := by
    intro K cost ways hK hc hw hok
    obtain ⟨r, g1, g2, g3⟩ := Next cost ways hc hw hok
    have w1 : wrap64 ((A : Int) - 1) = (A : Int) - 1 := w64_id (by omega) (by omega)
    refine ⟨r, Ev.step (fun k => ?_) g1, Ev.step (fun k => ?_) g2, g3⟩
    · rw [spec_Cheapest.l1, if_neg hK, w1]
    · rw [impl_Cheapest.l1, if_neg hK, w1]
  intro e
  induction e with
  | zero =>
    intro K cost ways h h3 hc hw hok
    exact done K cost ways (by omega) hc hw hok
  | succ e ih =>
    intro K cost ways h h3 hc hw hok
    by_cases hK : (K : Int) ≤ most
    · obtain ⟨q1, q2, q3, q4⟩ := m2 (by omega)
      have ht : okT (⟨0, (K : Int), d⟩ : S44) = true := by
        show tokB 0 (K : Int) d = true
        unfold tokB
        rw [if_neg (by omega)]
        exact decide_eq_true ⟨rfl, by omega, by omega, q3, by omega⟩
      obtain ⟨u, _, _, s1, i1⟩ := cost_both ⟨0, (K : Int), d⟩ ht
      have s1 : Ev (fun k => spec_l07Cost.f k 0 (K : Int) d) u := s1
      have i1 : Ev (fun k => impl_costOf.f k 0 (K : Int) d) u := i1
      have f1 : 0 ≤ (A : Int) + K := by omega
      have f2 : (A : Int) + K < (cost.length : Int) := by omega
      have f3 : 0 ≤ (A : Int) := by omega
      have f4 : (A : Int) < (cost.length : Int) := by omega
      have f5 : (A : Int) < (ways.length : Int) := by omega
      have f6 : most < ((K + 1 : Nat) : Int) + e := by omega
      have f7 : 3 ≤ K + 1 := by omega
      have f8 : 3 ≤ (K : Int) ∧ (K : Int) ≤ 258 := by omega
      have f9 : WaysOk (ways.set A (⟨0, (K : Int), d⟩ : S44)) := ways_set ways A (⟨0, (K : Int), d⟩ : S44) hok (Or.inr f8)
      have w1 : wrap64 ((A : Int) + K) = (A : Int) + K := w64_id (by omega) (by omega)
      have w2 : wrap64 ((K : Int) + 1) = ((K + 1 : Nat) : Int) := by rw [w64_id (by omega) (by omega)]; omega
      generalize hx : wrap64 (u + rd cost ((A : Int) + K)) = x
      generalize hy : rd cost (A : Int) = y
      by_cases hl : x < y
      · obtain ⟨r, g1, g2, g3⟩ := ih (K + 1) (cost.set A x) (ways.set A ⟨0, (K : Int), d⟩) f6 f7 (by rw [List.length_set]; exact hc) (by rw [List.length_set]; exact hw) f9
        refine ⟨r, ev_use_step s1 (fun k hk => ?_) g1, ev_use_step i1 (fun k hk => ?_) g2, g3⟩
        · rw [spec_Cheapest.l1, if_pos hK, hk, Option.bind_some, w1, hx, hy, if_pos f1, if_pos f2, if_pos f3, if_pos f4, if_pos hl, if_pos f5, w2, Int.toNat_natCast]
        · rw [impl_Cheapest.l1, if_pos hK, hk, Option.bind_some, w1, hx, hy, if_pos f1, if_pos f2, if_pos f3, if_pos f4, if_pos hl, if_pos f5, w2, Int.toNat_natCast]
      · obtain ⟨r, g1, g2, g3⟩ := ih (K + 1) cost ways f6 f7 hc hw hok
        refine ⟨r, ev_use_step s1 (fun k hk => ?_) g1, ev_use_step i1 (fun k hk => ?_) g2, g3⟩
        · rw [spec_Cheapest.l1, if_pos hK, hk, Option.bind_some, w1, hx, hy, if_pos f1, if_pos f2, if_pos f3, if_pos f4, if_neg hl, w2]
        · rw [impl_Cheapest.l1, if_pos hK, hk, Option.bind_some, w1, hx, hy, if_pos f1, if_pos f2, if_pos f3, if_pos f4, if_neg hl, w2]
    · exact done K cost ways hK hc hw hok
theorem cheap_outer (s : ByteArray) (hs : s.size ≤ 2600) (C : Nat) (h4 : 1 ≤ C) (h5 : C ≤ 64) : ∀ (a : Nat) (cost : List Int) (ways : List S44), a ≤ s.size → cost.length = s.size + 1 → ways.length = s.size → WaysOk ways → Both0 s C cost ways ((a : Int) - 1) := by
  intro a
  induction a with
  | zero =>
    intro cost ways _ hc hw hok
    obtain ⟨r, g1, g2, g3⟩ := tail_both s hs ways hw hok (s.size + 1) 0 [] (by omega) (by omega) (by simp) (by simp)
    refine ⟨r, Ev.step (fun k => ?_) g1, Ev.step (fun k => ?_) g2, g3⟩
    · rw [spec_Cheapest.l0, if_neg (by omega)]
      rfl
    · rw [impl_Cheapest.l0, if_neg (by omega)]
      rfl
  | succ a ih =>
    intro cost ways ha hc hw hok
    have ea : ((a + 1 : Nat) : Int) - 1 = (a : Int) := by omega
    rw [ea]
    have b0 := bt_lo s (a : Int)
    have b1 := bt_hi s (a : Int)
    have ht : okT (⟨bt s (a : Int), 0, 0⟩ : S44) = true := by
      show tokB (bt s (a : Int)) 0 0 = true
      unfold tokB
      rw [if_pos rfl]
      exact decide_eq_true ⟨b0, b1, rfl⟩
    obtain ⟨u, u0, u1, s1, i1⟩ := cost_both ⟨bt s (a : Int), 0, 0⟩ ht
    have s1 : Ev (fun k => spec_l07Cost.f k (bt s (a : Int)) 0 0) u := s1
    have i1 : Ev (fun k => impl_costOf.f k (bt s (a : Int)) 0 0) u := i1
    have e1 := spec_bm s hs C h4 h5 a (by omega)
    have e2 := impl_bm s hs C h5 a
    obtain ⟨r0, r1, r2, r3⟩ := bm_rng s C a
    have hok2 := ways_set ways a ⟨bt s (a : Int), 0, 0⟩ hok (Or.inl rfl)
    have hget := way_set ways a ⟨bt s (a : Int), 0, 0⟩ (by omega)
    obtain ⟨r, g1, g2, g3⟩ := cheap_inner s hs C a (by omega) (bm s C a).1 (bm s C a).2 r1 r3 r0 (fun c2 w2 x1 x2 x3 => ih c2 w2 (by omega) x1 x2 x3) 260 3 (cost.set a (wrap64 (u + rd cost ((a + 1 : Nat) : Int)))) (ways.set a ⟨bt s (a : Int), 0, 0⟩) (by omega) (by omega) (by rw [List.length_set]; exact hc) (by rw [List.length_set]; exact hw) hok2
    have w1 : wrap64 ((a : Int) + 1) = ((a + 1 : Nat) : Int) := by rw [w64_id (by omega) (by omega)]; omega
    refine ⟨r, ev_use_step (ev_pair s1 e1) (fun k hk => ?_) g1, ev_use_step (ev_pair i1 e2) (fun k hk => ?_) g2, g3⟩
    · obtain ⟨k1, k2⟩ := pair_some hk
      rw [spec_Cheapest.l0, if_pos (by omega), if_pos (by omega), if_pos (by omega), if_pos (by omega), Option.bind_some, wbt, Int.toNat_natCast, hget]
      show (spec_l07Cost.f k (bt s (a : Int)) 0 0).bind _ = _
      rw [k1, Option.bind_some, w1, if_pos (by omega), if_pos (by omega), if_pos (by omega), k2, Option.bind_some]
      rfl
    · obtain ⟨k1, k2⟩ := pair_some hk
      rw [impl_Cheapest.l0, if_pos (by omega), if_pos (by omega), if_pos (by omega), if_pos (by omega), Option.bind_some, wbt, Int.toNat_natCast, hget]
      show (impl_costOf.f k (bt s (a : Int)) 0 0).bind _ = _
      rw [k1, Option.bind_some, w1, if_pos (by omega), if_pos (by omega), if_pos (by omega), k2, Option.bind_some]
      rfl
theorem cheapest_both (s : ByteArray) (c : Int) : ∃ r : List S44 × Bool, Ev (fun k => spec_Cheapest.f k s c) r ∧ Ev (fun k => impl_Cheapest.f k s c) r ∧ r.1.length ≤ 2601 := by
  by_cases h : s.size ≤ 2600 ∧ 1 ≤ c ∧ c ≤ 64
  · obtain ⟨h1, h2, h3⟩ := h
    obtain ⟨C, rfl⟩ := Int.eq_ofNat_of_zero_le (show 0 ≤ c by omega)
    have w1 : wrap64 ((s.size : Int) + 1) = ((s.size + 1 : Nat) : Int) := by rw [w64_id (by omega) (by omega)]; omega
    have w2 : wrap64 ((s.size : Int) - 1) = (s.size : Int) - 1 := w64_id (by omega) (by omega)
    obtain ⟨r, g1, g2, g3⟩ := cheap_outer s h1 C (by omega) (by omega) s.size (List.replicate (s.size + 1) 0) (List.replicate s.size z44) (Nat.le_refl _) (by simp) (by simp) (fun j hj => Or.inl (by
      rw [List.length_replicate] at hj
      unfold rd_T44
      rw [Int.toNat_natCast, List.getD_eq_getElem?_getD, List.getElem?_replicate, if_pos hj]
      rfl))
    refine ⟨r, ?_, ?_, g3⟩
    · refine Ev.congr (fun k => ?_) g1
      unfold spec_Cheapest.f spec_l07Ok.f
      rw [Option.bind_some, if_pos (by omega), in_spec, decide_eq_true (⟨by omega, by omega⟩ : (1 : Int) ≤ (C : Int) ∧ (C : Int) ≤ 64), Option.bind_some, Option.bind_some, if_pos rfl, w1, if_pos (by omega), if_pos (by omega), if_pos (by omega), if_pos (by omega), w2, Int.toNat_natCast, Int.toNat_natCast]
    · refine Ev.congr (fun k => ?_) g2
      unfold impl_Cheapest.f impl_searchOk.f
      rw [if_pos (by omega), in_impl, decide_eq_true (⟨by omega, by omega⟩ : (1 : Int) ≤ (C : Int) ∧ (C : Int) ≤ 64), Option.bind_some, Option.bind_some, if_pos rfl, chains_is s (by omega), Option.bind_some, w1, if_pos (by omega), if_pos (by omega), if_pos (by omega), if_pos (by omega), w2, Int.toNat_natCast, Int.toNat_natCast]
  · refine ⟨([], false), ?_, ?_, by simp⟩
    · refine Ev.congr (fun k => ?_) (Ev.now ([], false))
      unfold spec_Cheapest.f spec_l07Ok.f
      by_cases h1 : (s.size : Int) ≤ 2600
      · rw [Option.bind_some, if_pos h1, in_spec, Option.bind_some, Option.bind_some, decide_eq_false (by omega)]
        rfl
      · rw [Option.bind_some, if_neg h1, Option.bind_some]
        rfl
    · refine Ev.congr (fun k => ?_) (Ev.now ([], false))
      unfold impl_Cheapest.f impl_searchOk.f
      by_cases h1 : (s.size : Int) ≤ 2600
      · rw [if_pos h1, in_impl, Option.bind_some, Option.bind_some, decide_eq_false (by omega)]
        rfl
      · rw [if_neg h1, Option.bind_some]
        rfl

theorem eqTokenS_loop (l : List S44) (hl : l.length ≤ 4611686018427387904) (d : Nat) : ∀ j : Nat, j + d = l.length → Ev (fun k => laws_eqTokenS.l0 k l l j) true := by
  induction d with
  | zero => exact fun j h => ev_ret (fun k => by rw [laws_eqTokenS.l0, if_neg (by omega)])
  | succ d ih =>
    intro j h
    refine Ev.step (fun k => ?_) (ih (j + 1) (by omega))
    rw [laws_eqTokenS.l0, if_pos (by omega), if_pos (by omega), if_pos (by omega)]
    unfold laws_eqToken.f
    rw [if_pos rfl, if_pos rfl, if_pos rfl, Option.bind_some, if_pos rfl, w64_id (x := (j : Int) + 1) (by omega) (by omega)]
    rfl
theorem eqTokenS_is (l : List S44) (hl : l.length ≤ 4611686018427387904) : Ev (fun k => laws_eqTokenS.f k l l) true :=
  Ev.congr (fun k => by unfold laws_eqTokenS.f; rw [if_pos rfl]; rfl) (eqTokenS_loop l hl l.length 0 (by omega))

/-- Marks from a on, three a token. -/
def tmarks : Nat → Int → List S44
  | 0, _ => []
  | n + 1, a => ⟨a, a + 1, a + 2⟩ :: tmarks n (a + 3)
theorem tmarks_len : ∀ (n : Nat) (a : Int), (tmarks n a).length = n
  | 0, _ => rfl
  | n + 1, a => by simp [tmarks, tmarks_len n]
theorem tmarks_snoc : ∀ (n : Nat) (a : Int), tmarks (n + 1) a = tmarks n a ++ [⟨a + 3 * n, a + 3 * n + 1, a + 3 * n + 2⟩]
  | 0, a => by simp [tmarks]
  | n + 1, a => by
    rw [tmarks, tmarks_snoc n (a + 3), tmarks]
    have e : a + 3 + 3 * (n : Int) = a + 3 * ((n + 1 : Nat) : Int) := by omega
    rw [e]
    rfl
theorem tmarks_at (n : Nat) (a : Int) (j : Nat) (h : j < n) : rd_T44 (tmarks n a) j = ⟨a + 3 * j, a + 3 * j + 1, a + 3 * j + 2⟩ := by
  induction n generalizing a j with
  | zero => omega
  | succ n ih =>
    cases j with
    | zero => simp [rd_T44, tmarks]
    | succ j =>
      have := ih (a + 3) j (by omega)
      unfold rd_T44 at this ⊢
      rw [Int.toNat_natCast] at this ⊢
      simp only [tmarks, List.getD_cons_succ]
      rw [this]
      have e : a + 3 + 3 * (j : Int) = a + 3 * ((j + 1 : Nat) : Int) := by omega
      rw [e]
theorem tset_at (o : List S44) (j : Nat) (v : S44) (h : j < o.length) : rd_T44 (o.set j v) (j : Int) = v := by
  have := gd_at (o.set j v) z44 j (by simpa using h)
  rw [List.getElem_set_self] at this
  exact this
theorem tmark_loop (n : Nat) (hn : n ≤ 1048576) (a : Int) (a0 : 0 ≤ a) (a1 : a ≤ 1048576) (d : Nat) : ∀ (j : Nat) (o : List S44), j + d = n → o.length = n → o.take j = tmarks j a →
    Ev (fun k => laws_markTokenS.l0 k o (a + 3 * j) j) (a + 3 * n, tmarks n a) := by
  induction d with
  | zero =>
    intro j o h ho hp
    refine ev_ret (fun k => ?_)
    rw [laws_markTokenS.l0, if_neg (by omega)]
    obtain rfl : j = n := by omega
    rw [List.take_of_length_le (by omega)] at hp
    rw [hp]
  | succ d ih =>
    intro j o h ho hp
    have hj : j < o.length := by omega
    refine Ev.step (fun k => ?_) (ih (j + 1) (o.set j ⟨a + 3 * j, a + 3 * j + 1, a + 3 * j + 2⟩) (by omega) (by simpa using ho) ?_)
    · rw [laws_markTokenS.l0, if_pos (by omega), if_pos (by omega), Option.bind_some, Int.toNat_natCast, w64_id (x := a + 3 * j + 1) (by omega) (by omega), w64_id (x := a + 3 * j + 1 + 1) (by omega) (by omega), w64_id (x := a + 3 * j + 1 + 1 + 1) (by omega) (by omega), w64_id (x := (j : Int) + 1) (by omega) (by omega)]
      simp only [tset_at _ _ _ hj, tset_at (o.set j _) _ _ (show j < (o.set j _).length by simpa using hj), List.set_set]
      have e2 : a + 3 * (j : Int) + 1 + 1 + 1 = a + 3 * ((j + 1 : Nat) : Int) := by omega
      have e3 : a + 3 * (j : Int) + 1 + 1 = a + 3 * (j : Int) + 2 := by omega
      rw [e2, e3, Option.bind_some]
      simp only [tset_at _ _ _ hj, List.set_set]
      rfl
    · rw [g_take_set o j _ hj, hp, tmarks_snoc]
theorem tmark_is (l : List S44) (hl : l.length ≤ 1048576) : Ev (fun k => laws_markTokenS.f k l 1) (1 + 3 * (l.length : Int), tmarks l.length 1) := by
  have h := tmark_loop l.length hl 1 (by omega) (by omega) l.length 0 l (by omega) rfl (by simp [tmarks])
  rw [show (1 : Int) + 3 * ((0 : Nat) : Int) = 1 by omega] at h
  exact h
theorem theld_loop (n : Nat) (hn : n ≤ 1048576) (a : Int) (a0 : 0 ≤ a) (a1 : a ≤ 1048576) (d : Nat) : ∀ (j : Nat), j + d = n →
    Ev (fun k => laws_heldTokenS.l0 k (tmarks n a) (a + 3 * j) j) (a + 3 * n) := by
  induction d with
  | zero =>
    intro j h
    refine ev_ret (fun k => ?_)
    rw [laws_heldTokenS.l0, if_neg (by rw [tmarks_len]; omega)]
    obtain rfl : j = n := by omega
    rfl
  | succ d ih =>
    intro j h
    refine Ev.step (fun k => ?_) (ih (j + 1) (by omega))
    rw [laws_heldTokenS.l0, if_pos (by rw [tmarks_len]; omega), if_pos (by omega), tmarks_at n a j (by omega)]
    dsimp only
    rw [if_pos rfl, w64_id (x := a + 3 * j + 1) (by omega) (by omega), if_pos rfl, w64_id (x := a + 3 * j + 1 + 1) (by omega) (by omega), if_pos (by omega), w64_id (x := a + 3 * j + 1 + 1 + 1) (by omega) (by omega), w64_id (x := (j : Int) + 1) (by omega) (by omega)]
    have e2 : a + 3 * (j : Int) + 1 + 1 + 1 = a + 3 * ((j + 1 : Nat) : Int) := by omega
    rw [e2]
    rfl
theorem theld_is (n : Nat) (hn : n ≤ 1048576) : Ev (fun k => laws_heldTokenS.f k (tmarks n 1) 1) (1 + 3 * (n : Int)) := by
  have h := theld_loop n hn 1 (by omega) (by omega) n 0 (by omega)
  rw [show (1 : Int) + 3 * ((0 : Nat) : Int) = 1 by omega] at h
  exact h

theorem FnExactCheapest : laws_FnExactCheapest.Pure := by
  intro s a h1 ha
  by_cases hb : (s.size : Int) > 1048576
  · exact ⟨0, by unfold laws_FnExactCheapest.f; rw [if_pos hb]⟩
  · obtain ⟨⟨c, b⟩, ⟨KS, S⟩, ⟨KI, I⟩, hc⟩ := cheapest_both s a
    dsimp only at hc
    obtain ⟨KC, EC⟩ := eqTokenS_is c (by omega)
    obtain ⟨KN, N⟩ := tmark_is c (by omega)
    obtain ⟨KH, HH⟩ := theld_is c.length (by omega)
    refine ⟨KS + KI + KC + KN + KH + 3, ?_⟩
    generalize hk : KS + KI + KC + KN + KH = K
    have bb : (b != b) = false := by simp
    unfold laws_FnExactCheapest.f
    rw [if_neg hb]
    simp only [S _ (show KS ≤ K + 3 by omega), I _ (show KI ≤ K + 3 by omega), EC _ (show KC ≤ K + 3 by omega), Option.bind_some, if_true, bb]
    rw [laws_FnExactCheapest.j0, if_neg (by decide)]
    simp only [N _ (show KN ≤ K + 2 by omega), HH _ (show KH ≤ K + 2 by omega), I _ (show KI ≤ K + 2 by omega), EC _ (show KC ≤ K + 2 by omega), Option.bind_some, if_true, bb]
    rw [if_neg (by omega), laws_FnExactCheapest.j1, if_neg (by decide)]
    simp only [HH _ (show KH ≤ K + 1 by omega), Option.bind_some]
    rw [if_neg (by omega)]
    all_goals simp

end Go.Proofs.Ytaaoojmbomhakaa.Pure
