/- The law FnExactFixedBlock: for every input within the row's bounds the printed function answers true: what the program's function tells is what the law asks. Conditions: only the bounds that the row itself gives (sizes of strings and slices, ranges of the number kinds). -/
import Derived.Test.YtimomemkbcidnaaPFnExactFixedBlockx7
namespace Go.Proofs.Ytimomemkbcidnaa.Pure
open Go.RowKit Go.Proofs.Ytimomemkbcidnaa.PFnExactFixedBlock Go.Proofs.YtimomemkbcidnaaW.PrintWords Go.Proofs.YtimomemkbcidnaaW.PrintLast Go.Proofs.YtimomemkbcidnaaW.PrintMore
set_option linter.unusedVariables false
set_option linter.unusedSimpArgs false

theorem w64_id {x : Int} (h0 : -9223372036854775808 ≤ x) (h1 : x ≤ 9223372036854775807) : wrap64 x = x := by unfold wrap64; omega
theorem tmod_nn {a : Int} (b : Int) (h : 0 ≤ a) : Int.tmod a b = a % b := Int.tmod_eq_emod_of_nonneg h
theorem tdiv_nn {a : Int} (b : Int) (h : 0 ≤ a) : Int.tdiv a b = a / b := Int.tdiv_eq_ediv_of_nonneg h
theorem wf64 {n : Int} (h : (Lit.int .i64 n).wf = true) : -9223372036854775808 ≤ n ∧ n ≤ 9223372036854775807 := by
  simp [Lit.wf, IntKind.min, IntKind.max, IntKind.signed, IntKind.bits] at h
  omega
theorem wraps64 (n : Int) (h0 : 0 ≤ n) (h1 : n < 2 ^ 63) : IntKind.i64.wrap n = n := by rw [IntKind.wrap_i64]; omega
theorem bt_lo (s : ByteArray) (i : Int) : 0 ≤ bt s i := (bt_range s i).1
theorem bt_hi (s : ByteArray) (i : Int) : bt s i ≤ 255 := (bt_range s i).2
/-- A callee that answers from some number of rounds on, used. -/
theorem ev_use {α β : Type} {g : Nat → Option α} {a : α} {F G : Nat → Option β} {r : β} (e : Ev g a) (h : ∀ k, g k = some a → F k = G k) (c : Ev G r) : Ev F r := by
  obtain ⟨K, e⟩ := e
  obtain ⟨K', c⟩ := c
  exact ⟨max K K', fun n hn => (h n (e n (by omega))).trans (c n (by omega))⟩
theorem ev_use_step {α β : Type} {g : Nat → Option α} {a : α} {F G : Nat → Option β} {r : β} (e : Ev g a) (h : ∀ k, g k = some a → F (k + 1) = G k) (c : Ev G r) : Ev F r := by
  obtain ⟨K, e⟩ := e
  obtain ⟨K', c⟩ := c
  refine ⟨max K K' + 1, fun n hn => ?_⟩
  obtain ⟨m, rfl⟩ : ∃ m, n = m + 1 := ⟨n - 1, by omega⟩
  exact (h m (e m (by omega))).trans (c m (by omega))
theorem ev_end {α β : Type} {g : Nat → Option α} {a : α} {F : Nat → Option β} {r : β} (e : Ev g a) (h : ∀ k, g k = some a → F k = some r) : Ev F r := by
  obtain ⟨K, e⟩ := e
  exact ⟨K, fun n hn => h n (e n hn)⟩
theorem ev_ret {α : Type} {F : Nat → Option α} {r : α} (h : ∀ k, F (k + 1) = some r) : Ev F r := ⟨1, fun n hn => by obtain ⟨m, rfl⟩ : ∃ m, n = m + 1 := ⟨n - 1, by omega⟩; exact h m⟩

theorem gd_at {α : Type} (l : List α) (z : α) (j : Nat) (h : j < l.length) : l.getD (j : Int).toNat z = l[j] := by rw [Int.toNat_natCast, List.getD_eq_getElem?_getD, List.getElem?_eq_getElem h]; rfl
theorem gd_drop {α : Type} (l : List α) (z : α) (j : Nat) (h : j < l.length) : l.drop j = l.getD (j : Int).toNat z :: l.drop (j + 1) := by rw [gd_at l z j h]; exact List.drop_eq_getElem_cons h
theorem g_take_set {α : Type} (l : List α) (j : Nat) (v : α) (h : j < l.length) : (l.set j v).take (j + 1) = l.take j ++ [v] := by
  rw [List.take_succ_eq_append_getElem (by simpa using h)]
  simp [List.take_set_of_le]

theorem in_spec (a b c : Int) : spec_l01In.f a b c = some (decide (b ≤ a ∧ a ≤ c)) := by
  unfold spec_l01In.f
  split
  · rename_i h
    have e : (decide (a ≤ c)) = decide (b ≤ a ∧ a ≤ c) := decide_eq_decide.mpr ⟨fun h' => ⟨h, h'⟩, fun h' => h'.2⟩
    rw [e]
  · rename_i h
    have e : (decide (b ≤ a ∧ a ≤ c)) = false := decide_eq_false fun h' => h h'.1
    rw [e]

theorem in_impl (a b c : Int) : impl_within.f a b c = some (decide (b ≤ a ∧ a ≤ c)) := by
  unfold impl_within.f
  split
  · rename_i h
    have e : (decide (a ≤ c)) = decide (b ≤ a ∧ a ≤ c) := decide_eq_decide.mpr ⟨fun h' => ⟨h, h'⟩, fun h' => h'.2⟩
    rw [e]
  · rename_i h
    have e : (decide (b ≤ a ∧ a ≤ c)) = false := decide_eq_false fun h' => h h'.1
    rw [e]


/-- Two callees that answer, together. -/
theorem ev_pair {α β : Type} {g : Nat → Option α} {h : Nat → Option β} {a : α} {b : β} (e : Ev g a) (f : Ev h b) : Ev (fun k => (g k).bind fun x => (h k).bind fun y => some (x, y)) (a, b) := by
  obtain ⟨K, e⟩ := e
  obtain ⟨K', f⟩ := f
  exact ⟨max K K', fun n hn => by show ((g n).bind fun x => (h n).bind fun y => some (x, y)) = _; rw [e n (by omega), f n (by omega)]; rfl⟩
theorem pair_some {α β : Type} {g : Option α} {h : Option β} {a : α} {b : β} (e : (g.bind fun x => h.bind fun y => some (x, y)) = some (a, b)) : g = some a ∧ h = some b := by
  cases g with
  | none => cases e
  | some x =>
    cases h with
    | none => cases e
    | some y =>
      injection e with e
      injection e with e1 e2
      exact ⟨by rw [e1], by rw [e2]⟩

theorem rd_nat (l : List Int) (j : Nat) : rd l j = l.getD j 0 := by unfold rd; simp
theorem rd_getElem (l : List Int) (j : Nat) (h : j < l.length) : rd l j = l[j] := by rw [rd_nat, List.getD_eq_getElem?_getD, List.getElem?_eq_getElem h]; rfl
theorem rd_mem (l : List Int) (j : Nat) (h : j < l.length) : rd l j ∈ l := by rw [rd_getElem l j h]; exact List.getElem_mem h
theorem drop_rd (l : List Int) (j : Nat) (h : j < l.length) : l.drop j = rd l j :: l.drop (j + 1) := by rw [rd_getElem l j h]; exact List.drop_eq_getElem_cons h
/-- Is a token right. -/
def tokB (a b c : Int) : Bool := if b = 0 then decide (0 ≤ a ∧ a ≤ 255 ∧ c = 0) else decide (a = 0 ∧ 3 ≤ b ∧ b ≤ 258 ∧ 1 ≤ c ∧ c ≤ 32768)
theorem tok_spec (a b c : Int) : spec_TokenOk.f a b c = some (tokB a b c) := by
  unfold spec_TokenOk.f tokB
  simp only [in_spec, Option.bind_some]
  split
  · split
    · rename_i h
      have h := of_decide_eq_true h
      congr 1
      rw [Bool.eq_iff_iff]
      simp
      omega
    · rename_i h
      simp at h
      congr 1
      symm
      simp
      omega
  · split
    · split
      · rename_i h1 h
        have h := of_decide_eq_true h
        congr 1
        rw [Bool.eq_iff_iff]
        simp
        omega
      · rename_i h1 h
        simp at h
        congr 1
        symm
        simp
        omega
    · congr 1
      symm
      simp
      omega
theorem tok_impl1 (k : Nat) (a b c : Int) : impl_TokenOk.f (k + 1) a b c = some (tokB a b c) := by
  have j : ∀ x, impl_TokenOk.j0 (k + 1) x a b c = some (if x = true then decide (0 ≤ a ∧ a ≤ 255) else decide (a = 0 ∧ 3 ≤ b ∧ b ≤ 258 ∧ 1 ≤ c ∧ c ≤ 32768)) := by
    intro x
    rw [impl_TokenOk.j0]
    simp only [in_impl, Option.bind_some]
    split
    · rfl
    · split
      · split
        · rename_i h
          have h := of_decide_eq_true h
          congr 1
          rw [Bool.eq_iff_iff]
          simp
          omega
        · rename_i h
          simp at h
          congr 1
          symm
          simp
          omega
      · congr 1
        symm
        simp
        omega
  unfold tokB
  by_cases hb : b = 0
  · rw [if_pos hb]
    have e : (if (c == 0) = true then decide (0 ≤ a ∧ a ≤ 255) else decide (a = 0 ∧ 3 ≤ b ∧ b ≤ 258 ∧ 1 ≤ c ∧ c ≤ 32768)) = decide (0 ≤ a ∧ a ≤ 255 ∧ c = 0) := by
      split
      · rename_i h
        simp at h
        rw [Bool.eq_iff_iff]
        simp
        omega
      · rename_i h
        simp at h
        rw [Bool.eq_iff_iff]
        simp
        omega
    rw [← e]
    unfold impl_TokenOk.f
    rw [if_pos hb]
    exact j (c == 0)
  · rw [if_neg hb]
    unfold impl_TokenOk.f
    rw [if_neg hb]
    exact j false
theorem tok_impl (a b c : Int) : Ev (fun k => impl_TokenOk.f k a b c) (tokB a b c) := ev_ret (fun k => tok_impl1 k a b c)

/-- Symbol i: both sides tell the same first distance and the same number of extra bits. -/
def distOk (i : Nat) : Bool :=
  match spec_l06DistBits.f 64 i, impl_distSpan.f i with
  | some (b, m), some (m', b') => b == b' && m == m' && (0 ≤ b && b ≤ 13 && 1 ≤ m && m ≤ 32768)
  | _, _ => false
theorem dist_table : ∀ i, i < 30 → distOk i = true := by decide +kernel
theorem dist_row (i : Nat) (hi : i < 30) : ∃ b m, spec_l06DistBits.f 64 i = some (b, m) ∧ impl_distSpan.f i = some (m, b) ∧ 0 ≤ b ∧ b ≤ 13 ∧ 1 ≤ m ∧ m ≤ 32768 := by
  have h := dist_table i hi
  unfold distOk at h
  split at h
  · rename_i b m m' b' h1 h2
    simp only [Bool.and_eq_true, beq_iff_eq, decide_eq_true_eq] at h
    obtain ⟨⟨rfl, rfl⟩, h3⟩ := h
    exact ⟨b, m, h1, h2, h3.1.1.1, h3.1.1.2, h3.1.2, h3.2⟩
  · cases h
/-- The number of extra bits, and the first distance, of a symbol. -/
def dB (i : Nat) : Int := ((spec_l06DistBits.f 64 i).getD (0, 0)).1
def dM (i : Nat) : Int := ((spec_l06DistBits.f 64 i).getD (0, 0)).2
theorem dist_at (i : Nat) (hi : i < 30) : Ev (fun k => spec_l06DistBits.f k i) (dB i, dM i) ∧ impl_distSpan.f i = some (dM i, dB i) ∧ 1 ≤ dM i ∧ dM i ≤ 32768 := by
  obtain ⟨b, m, h1, h2, _, _, h5, h6⟩ := dist_row i hi
  have e1 : dB i = b := by unfold dB; rw [h1]; rfl
  have e2 : dM i = m := by unfold dM; rw [h1]; rfl
  rw [e1, e2]
  exact ⟨Ev.of (spec_l06DistBits.mono _) h1, h2, h5, h6⟩
theorem dist_bits (i : Nat) (hi : i < 30) : 0 ≤ dB i ∧ dB i ≤ 13 := by
  obtain ⟨b, m, h1, _, h3, h4, _, _⟩ := dist_row i hi
  have e1 : dB i = b := by unfold dB; rw [h1]; rfl
  rw [e1]
  exact ⟨h3, h4⟩
theorem dist_find (n : Int) (hn : 1 ≤ n) (m : Nat) (hm : m < 30) : ∃ t, t ≤ m ∧ dM t ≤ n ∧ ∀ s, t < s → s ≤ m → n < dM s := by
  induction m with
  | zero => exact ⟨0, Nat.le_refl _, by have : dM 0 = 1 := by decide +kernel
                                        omega, fun s h1 h2 => by omega⟩
  | succ m ih =>
    by_cases h : dM (m + 1) ≤ n
    · exact ⟨m + 1, Nat.le_refl _, h, fun s h1 h2 => by omega⟩
    · obtain ⟨t, h1, h2, h3⟩ := ih (by omega)
      refine ⟨t, by omega, h2, fun s hs1 hs2 => ?_⟩
      by_cases e : s = m + 1
      · subst e; omega
      · exact h3 s hs1 (by omega)
theorem dist_tail (n : Int) (t : Nat) (ht : t < 30) (hall : ∀ s, t < s → s ≤ 29 → n < dM s) (d : Nat) : ∀ s : Nat, t < s → s + d = 30 →
    Ev (fun k => spec_DistCode.l0 k n t (dB t) (dM t) s) ((t : Int), dB t, wrap64 (n - dM t)) := by
  induction d with
  | zero =>
    intro s h1 h2
    exact ev_ret (fun k => by rw [spec_DistCode.l0, if_neg (by omega)])
  | succ d ih =>
    intro s h1 h2
    obtain ⟨e, _⟩ := dist_at s (by omega)
    refine ev_use_step e (fun k hk => ?_) (ih (s + 1) (by omega) (by omega))
    have hlt := hall s h1 (by omega)
    rw [spec_DistCode.l0, if_pos (by omega), hk, Option.bind_some, if_neg (by omega), w64_id (x := (s : Int) + 1) (by omega) (by omega)]
    rfl
theorem dist_head (n : Int) (t : Nat) (ht : t < 30) (hle : dM t ≤ n) (hall : ∀ s, t < s → s ≤ 29 → n < dM s) (d : Nat) : ∀ (s : Nat) (x y z : Int), s + d = t →
    Ev (fun k => spec_DistCode.l0 k n x y z s) ((t : Int), dB t, wrap64 (n - dM t)) := by
  induction d with
  | zero =>
    intro s x y z h
    obtain rfl : s = t := by omega
    obtain ⟨e, _⟩ := dist_at s ht
    refine ev_use_step e (fun k hk => ?_) (dist_tail n s ht hall (29 - s) (s + 1) (by omega) (by omega))
    rw [spec_DistCode.l0, if_pos (by omega), hk, Option.bind_some, if_pos hle, w64_id (x := (s : Int) + 1) (by omega) (by omega)]
    rfl
  | succ d ih =>
    intro s x y z h
    obtain ⟨e, _⟩ := dist_at s (by omega)
    by_cases c : dM s ≤ n
    · refine ev_use_step e (fun k hk => ?_) (ih (s + 1) s (dB s) (dM s) (by omega))
      rw [spec_DistCode.l0, if_pos (by omega), hk, Option.bind_some, if_pos c, w64_id (x := (s : Int) + 1) (by omega) (by omega)]
      rfl
    · refine ev_use_step e (fun k hk => ?_) (ih (s + 1) x y z (by omega))
      rw [spec_DistCode.l0, if_pos (by omega), hk, Option.bind_some, if_neg c, w64_id (x := (s : Int) + 1) (by omega) (by omega)]
      rfl
theorem dist_down (n : Int) (t : Nat) (ht : t < 30) (hle : dM t ≤ n) (hall : ∀ s, t < s → s ≤ 29 → n < dM s) (d : Nat) : ∀ s : Nat, s = t + d → s < 30 →
    Ev (fun k => impl_DistCode.l0 k n s (dM s) (dB s)) ((t : Int), dB t, wrap64 (n - dM t)) := by
  induction d with
  | zero =>
    intro s h hs
    obtain rfl : s = t := by omega
    exact ev_ret (fun k => by rw [impl_DistCode.l0, if_neg (by omega)])
  | succ d ih =>
    intro s h hs
    have hlt := hall s (by omega) (by omega)
    obtain ⟨_, e, _⟩ := dist_at (s - 1) (by omega)
    have hc : ((s : Int) - 1) = ((s - 1 : Nat) : Int) := by omega
    refine Ev.step (fun k => ?_) (ih (s - 1) (by omega) (by omega))
    rw [impl_DistCode.l0, if_pos (by omega), w64_id (x := (s : Int) - 1) (by omega) (by omega), hc, e]
    rfl
/-- What the code of a distance comes to, on both sides. -/
theorem dist_both (n : Int) (h0 : 1 ≤ n) (h1 : n ≤ 32768) : ∃ t : Nat, t < 30 ∧ dM t ≤ n ∧ (∀ s, t < s → s ≤ 29 → n < dM s) ∧
    Ev (fun k => spec_DistCode.f k n) ((t : Int), dB t, wrap64 (n - dM t)) ∧ Ev (fun k => impl_DistCode.f k n) ((t : Int), dB t, wrap64 (n - dM t)) := by
  obtain ⟨t, ht, hle, hall⟩ := dist_find n h0 29 (by omega)
  refine ⟨t, by omega, hle, hall, Ev.congr (fun k => ?_) (dist_head n t (by omega) hle hall t 0 0 0 1 (by omega)), Ev.congr (fun k => ?_) (dist_down n t (by omega) hle hall (29 - t) 29 (by omega) (by omega))⟩
  · unfold spec_DistCode.f
    rw [in_spec, decide_eq_true ⟨h0, h1⟩]
    rfl
  · unfold impl_DistCode.f
    rw [in_impl, decide_eq_true ⟨h0, h1⟩]
    obtain ⟨_, e, _⟩ := dist_at 29 (by omega)
    have e' : impl_distSpan.f 29 = some (dM 29, dB 29) := e
    simp only [Option.bind_some, if_true, e']
    rfl
/-- Symbol 257 + i: both sides tell the same first length and the same number of extra bits. -/
def lenOk (i : Nat) : Bool :=
  match spec_l06LengthBits.f 64 (257 + i : Nat), impl_lengthSpan.f (257 + i : Nat) with
  | some (b, m), some (m', b') => b == b' && m == m' && (0 ≤ b && b ≤ 5 && 3 ≤ m && m ≤ 258)
  | _, _ => false
theorem len_table : ∀ i, i < 29 → lenOk i = true := by decide +kernel
theorem len_row (i : Nat) (hi : i < 29) : ∃ b m, spec_l06LengthBits.f 64 (257 + i : Nat) = some (b, m) ∧ impl_lengthSpan.f (257 + i : Nat) = some (m, b) ∧ 0 ≤ b ∧ b ≤ 5 ∧ 3 ≤ m ∧ m ≤ 258 := by
  have h := len_table i hi
  unfold lenOk at h
  split at h
  · rename_i b m m' b' h1 h2
    simp only [Bool.and_eq_true, beq_iff_eq, decide_eq_true_eq] at h
    obtain ⟨⟨rfl, rfl⟩, h3⟩ := h
    exact ⟨b, m, h1, h2, h3.1.1.1, h3.1.1.2, h3.1.2, h3.2⟩
  · cases h
/-- The number of extra bits, and the first length, of symbol i. -/
def lB (i : Nat) : Int := ((spec_l06LengthBits.f 64 i).getD (0, 0)).1
def lM (i : Nat) : Int := ((spec_l06LengthBits.f 64 i).getD (0, 0)).2
theorem len_at (i : Nat) (h0 : 257 ≤ i) (hi : i < 286) : Ev (fun k => spec_l06LengthBits.f k i) (lB i, lM i) ∧ impl_lengthSpan.f i = some (lM i, lB i) ∧ 3 ≤ lM i ∧ lM i ≤ 258 := by
  obtain ⟨j, rfl⟩ : ∃ j, i = 257 + j := ⟨i - 257, by omega⟩
  obtain ⟨b, m, h1, h2, _, _, h5, h6⟩ := len_row j (by omega)
  have e1 : lB (257 + j) = b := by unfold lB; rw [h1]; rfl
  have e2 : lM (257 + j) = m := by unfold lM; rw [h1]; rfl
  rw [e1, e2]
  exact ⟨Ev.of (spec_l06LengthBits.mono _) h1, h2, h5, h6⟩
theorem len_bits (i : Nat) (h0 : 257 ≤ i) (hi : i < 286) : 0 ≤ lB i ∧ lB i ≤ 5 := by
  obtain ⟨j, rfl⟩ : ∃ j, i = 257 + j := ⟨i - 257, by omega⟩
  obtain ⟨b, m, h1, _, h3, h4, _, _⟩ := len_row j (by omega)
  have e1 : lB (257 + j) = b := by unfold lB; rw [h1]; rfl
  rw [e1]
  exact ⟨h3, h4⟩
theorem l257 : lM 257 = 3 := by decide +kernel
theorem l285 : lM 285 = 258 ∧ lB 285 = 0 := by decide +kernel
attribute [irreducible] lB lM
theorem len_find (n : Int) (hn : 3 ≤ n) (m : Nat) (h0 : 257 ≤ m) (hm : m < 286) : ∃ t, 257 ≤ t ∧ t ≤ m ∧ lM t ≤ n ∧ ∀ s, t < s → s ≤ m → n < lM s := by
  obtain ⟨j, rfl⟩ : ∃ j, m = 257 + j := ⟨m - 257, by omega⟩
  clear h0
  induction j with
  | zero => exact ⟨257, Nat.le_refl _, Nat.le_refl _, by have : lM 257 = 3 := l257
                                                         omega, fun s h1 h2 => by omega⟩
  | succ m ih =>
    by_cases h : lM (257 + (m + 1)) ≤ n
    · exact ⟨257 + (m + 1), by omega, Nat.le_refl _, h, fun s h1 h2 => by omega⟩
    · obtain ⟨t, h0, h1, h2, h3⟩ := ih (by omega)
      refine ⟨t, h0, by omega, h2, fun s hs1 hs2 => ?_⟩
      by_cases e : s = 257 + (m + 1)
      · subst e; omega
      · exact h3 s hs1 (by omega)
theorem len_tail (n : Int) (hn : n < 258) (t : Nat) (ht0 : 257 ≤ t) (ht : t < 285) (hall : ∀ s, t < s → s ≤ 285 → n < lM s) (d : Nat) : ∀ s : Nat, t < s → s + d = 285 →
    Ev (fun k => spec_LengthCode.l0 k n t (lB t) (lM t) s) ((t : Int), lB t, wrap64 (n - lM t)) := by
  induction d with
  | zero =>
    intro s h1 h2
    refine Ev.step (f := fun k => spec_LengthCode.j1 k n t (lB t) (lM t) s false) (fun k => by rw [spec_LengthCode.l0, if_neg (by omega)]) (ev_ret (fun k => by rw [spec_LengthCode.j1, if_neg (by decide)]))
  | succ d ih =>
    intro s h1 h2
    obtain ⟨e, _⟩ := len_at s (by omega) (by omega)
    have hd : decide (n < 258) = true := decide_eq_true hn
    refine Ev.step (f := fun k => spec_LengthCode.j1 k n t (lB t) (lM t) s true) (fun k => by rw [spec_LengthCode.l0, if_pos (by omega), hd]) ?_
    refine ev_use_step e (fun k hk => ?_) (ih (s + 1) (by omega) (by omega))
    have hlt := hall s h1 (by omega)
    rw [spec_LengthCode.j1, if_pos rfl, hk, Option.bind_some, if_neg (by omega), w64_id (x := (s : Int) + 1) (by omega) (by omega)]
    rfl
theorem len_head (n : Int) (hn : n < 258) (t : Nat) (ht0 : 257 ≤ t) (ht : t < 285) (hle : lM t ≤ n) (hall : ∀ s, t < s → s ≤ 285 → n < lM s) (d : Nat) : ∀ (s : Nat) (x y z : Int), 257 ≤ s → s + d = t →
    Ev (fun k => spec_LengthCode.l0 k n x y z s) ((t : Int), lB t, wrap64 (n - lM t)) := by
  have hd : decide (n < 258) = true := decide_eq_true hn
  induction d with
  | zero =>
    intro s x y z hs h
    obtain rfl : s = t := by omega
    obtain ⟨e, _⟩ := len_at s ht0 (by omega)
    refine Ev.step (f := fun k => spec_LengthCode.j1 k n x y z s true) (fun k => by rw [spec_LengthCode.l0, if_pos (by omega), hd]) ?_
    refine ev_use_step e (fun k hk => ?_) (len_tail n hn s ht0 ht hall (284 - s) (s + 1) (by omega) (by omega))
    rw [spec_LengthCode.j1, if_pos rfl, hk, Option.bind_some, if_pos hle, w64_id (x := (s : Int) + 1) (by omega) (by omega)]
    rfl
  | succ d ih =>
    intro s x y z hs h
    obtain ⟨e, _⟩ := len_at s (by omega) (by omega)
    refine Ev.step (f := fun k => spec_LengthCode.j1 k n x y z s true) (fun k => by rw [spec_LengthCode.l0, if_pos (by omega), hd]) ?_
    by_cases c : lM s ≤ n
    · refine ev_use_step e (fun k hk => ?_) (ih (s + 1) s (lB s) (lM s) (by omega) (by omega))
      rw [spec_LengthCode.j1, if_pos rfl, hk, Option.bind_some, if_pos c, w64_id (x := (s : Int) + 1) (by omega) (by omega)]
      rfl
    · refine ev_use_step e (fun k hk => ?_) (ih (s + 1) x y z (by omega) (by omega))
      rw [spec_LengthCode.j1, if_pos rfl, hk, Option.bind_some, if_neg c, w64_id (x := (s : Int) + 1) (by omega) (by omega)]
      rfl
theorem len_down (n : Int) (t : Nat) (ht0 : 257 ≤ t) (ht : t < 286) (hle : lM t ≤ n) (hall : ∀ s, t < s → s ≤ 285 → n < lM s) (d : Nat) : ∀ s : Nat, s = t + d → s < 286 →
    Ev (fun k => impl_LengthCode.l0 k n s (lM s) (lB s)) ((t : Int), lB t, wrap64 (n - lM t)) := by
  induction d with
  | zero =>
    intro s h hs
    obtain rfl : s = t := by omega
    exact ev_ret (fun k => by rw [impl_LengthCode.l0, if_neg (by omega)])
  | succ d ih =>
    intro s h hs
    have hlt := hall s (by omega) (by omega)
    obtain ⟨_, e, _⟩ := len_at (s - 1) (by omega) (by omega)
    have hc : ((s : Int) - 1) = ((s - 1 : Nat) : Int) := by omega
    refine Ev.step (fun k => ?_) (ih (s - 1) (by omega) (by omega))
    rw [impl_LengthCode.l0, if_pos (by omega), w64_id (x := (s : Int) - 1) (by omega) (by omega), hc, e]
    rfl
/-- What the code of a length comes to, on both sides. -/
theorem len_both (n : Int) (h0 : 3 ≤ n) (h1 : n ≤ 258) : ∃ t : Nat, 257 ≤ t ∧ t < 286 ∧ lM t ≤ n ∧ (∀ s, t < s → s ≤ 285 → n < lM s) ∧
    Ev (fun k => spec_LengthCode.f k n) ((t : Int), lB t, wrap64 (n - lM t)) ∧ Ev (fun k => impl_LengthCode.f k n) ((t : Int), lB t, wrap64 (n - lM t)) := by
  obtain ⟨t, ht0, ht, hle, hall⟩ := len_find n h0 285 (by omega) (by omega)
  obtain ⟨m285, b285⟩ := l285
  have hdown := len_down n t ht0 (by omega) hle hall (285 - t) 285 (by omega) (by omega)
  rw [show ((285 : Nat) : Int) = 285 by omega] at hdown
  refine ⟨t, ht0, by omega, hle, hall, ?_, Ev.congr (fun k => ?_) hdown⟩
  · by_cases hn : n < 258
    · have ht2 : t < 285 := by
        rcases Nat.lt_or_ge t 285 with h | h
        · exact h
        · obtain rfl : t = 285 := by omega
          omega
      have h := len_head n hn t ht0 ht2 hle hall (t - 257) 257 285 0 258 (by omega) (by omega)
      rw [show ((257 : Nat) : Int) = 257 by omega] at h
      refine Ev.congr (fun k => ?_) h
      unfold spec_LengthCode.f
      rw [in_spec, decide_eq_true ⟨h0, h1⟩]
      simp only [Option.bind_some, if_true]
    · obtain rfl : n = 258 := by omega
      obtain rfl : t = 285 := by
        rcases Nat.lt_or_ge t 285 with h | h
        · have := hall 285 h (by omega)
          omega
        · omega
      rw [m285, b285, show ((285 : Nat) : Int) = 285 by omega]
      refine Ev.congr (f := fun k => spec_LengthCode.l0 k 258 285 0 258 257) (fun k => ?_) ?_
      · unfold spec_LengthCode.f
        rw [in_spec, decide_eq_true (by omega)]
        simp only [Option.bind_some, if_true]
      · refine Ev.step (f := fun k => spec_LengthCode.j1 k 258 285 0 258 257 false) (fun k => by rw [spec_LengthCode.l0, if_pos (by omega)]; rw [decide_eq_false (by omega)]) (ev_ret (fun k => by rw [spec_LengthCode.j1, if_neg (by decide)]))
  · unfold impl_LengthCode.f
    rw [in_impl, decide_eq_true ⟨h0, h1⟩]
    obtain ⟨_, e, _⟩ := len_at 285 (by omega) (by omega)
    rw [show ((285 : Nat) : Int) = 285 by omega] at e
    simp only [Option.bind_some, if_true, e]
/-- Is a token right. -/
def okT (t : S107) : Bool := tokB t.f0 t.f1 t.f2
theorem tokensOk_loop (l : List S107) (hl : l.length ≤ 1048576) (d : Nat) : ∀ j : Nat, j + d = l.length → Ev (fun k => impl_tokensOk.l0 k l l (l.length : Int) j) ((l.drop j).all okT && decide ((l.length : Int) ≤ 12000)) := by
  induction d with
  | zero =>
    intro j h
    refine ev_ret (fun k => ?_)
    rw [impl_tokensOk.l0, if_neg (by omega), List.drop_of_length_le (by omega)]
    simp
  | succ d ih =>
    intro j h
    have hj : j < l.length := by omega
    have e : Ev (fun k => impl_TokenOk.f k (rd_T107 l j).f0 (rd_T107 l j).f1 (rd_T107 l j).f2) (okT (rd_T107 l j)) := tok_impl _ _ _
    have dr : l.drop j = rd_T107 l j :: l.drop (j + 1) := gd_drop l _ j hj
    rw [dr, List.all_cons]
    by_cases c : okT (rd_T107 l j) = true
    · rw [c, Bool.true_and]
      refine ev_use_step e (fun k hk => ?_) (ih (j + 1) (by omega))
      rw [impl_tokensOk.l0, if_pos (by omega), if_pos (by omega), if_pos (by omega), hk, Option.bind_some, if_pos c, w64_id (x := (j : Int) + 1) (by omega) (by omega)]
      rfl
    · have c' : okT (rd_T107 l j) = false := by simpa using c
      rw [c', Bool.false_and, Bool.false_and]
      refine ev_use_step e (fun k hk => ?_) (Ev.now false)
      rw [impl_tokensOk.l0, if_pos (by omega), if_pos (by omega), if_pos (by omega), hk, Option.bind_some, if_neg c]
theorem tokensOk_is (l : List S107) (hl : l.length ≤ 1048576) : Ev (fun k => impl_tokensOk.f k l) (l.all okT && decide ((l.length : Int) ≤ 12000)) := tokensOk_loop l hl l.length 0 (by omega)


/-- The law's own token, as the program's. -/
def tokOf (x : S112) : S107 := ⟨x.f0, x.f1, x.f2⟩
theorem toTokenS_loop (l : List S112) (hl : l.length ≤ 1048576) (d : Nat) : ∀ (j : Nat) (o : List S107), j + d = l.length → o.length = l.length → o.take j = (l.map tokOf).take j → Ev (fun k => laws_toTokenS.l0 k l o j) (l.map tokOf) := by
  induction d with
  | zero =>
    intro j o h ho hp
    refine ev_ret (fun k => ?_)
    rw [laws_toTokenS.l0, if_neg (by omega)]
    have e1 : o.take j = o := List.take_of_length_le (by omega)
    have e2 : (l.map tokOf).take j = l.map tokOf := List.take_of_length_le (by rw [List.length_map]; omega)
    rw [e1, e2] at hp
    rw [hp]
  | succ d ih =>
    intro j o h ho hp
    have hj : j < l.length := by omega
    refine Ev.step (fun k => ?_) (ih (j + 1) (o.set j (tokOf l[j])) (by omega) (by simpa using ho) ?_)
    · have e : rd_T112 l (j : Int) = l[j] := gd_at l _ j hj
      rw [laws_toTokenS.l0, if_pos (by omega), if_pos (by omega), e]
      unfold laws_toToken.f
      rw [Option.bind_some, if_pos (by omega), w64_id (x := (j : Int) + 1) (by omega) (by omega), Int.toNat_natCast]
      rfl
    · rw [g_take_set o j _ (by omega), hp, List.take_succ_eq_append_getElem (by rw [List.length_map]; exact hj), List.getElem_map]
theorem toTokenS_is (l : List S112) (hl : l.length ≤ 1048576) : Ev (fun k => laws_toTokenS.f k l) (l.map tokOf) := by
  refine Ev.congr (fun k => ?_) (toTokenS_loop l hl l.length 0 (List.replicate l.length z107) (by omega) (by simp) (by simp))
  unfold laws_toTokenS.f
  rw [if_pos (by omega), Int.toNat_natCast, if_pos (by omega)]
  rfl

theorem eqTokenS_loop (l : List S107) (hl : l.length ≤ 4611686018427387904) (d : Nat) : ∀ j : Nat, j + d = l.length → Ev (fun k => laws_eqTokenS.l0 k l l j) true := by
  induction d with
  | zero => exact fun j h => ev_ret (fun k => by rw [laws_eqTokenS.l0, if_neg (by omega)])
  | succ d ih =>
    intro j h
    refine Ev.step (fun k => ?_) (ih (j + 1) (by omega))
    rw [laws_eqTokenS.l0, if_pos (by omega), if_pos (by omega), if_pos (by omega)]
    unfold laws_eqToken.f
    rw [if_pos rfl, if_pos rfl, if_pos rfl, Option.bind_some, if_pos rfl, w64_id (x := (j : Int) + 1) (by omega) (by omega)]
    rfl
theorem eqTokenS_is (l : List S107) (hl : l.length ≤ 4611686018427387904) : Ev (fun k => laws_eqTokenS.f k l l) true :=
  Ev.congr (fun k => by unfold laws_eqTokenS.f; rw [if_pos rfl]; rfl) (eqTokenS_loop l hl l.length 0 (by omega))

/-- 2^n, as the loop doubles it. -/
theorem pow_loop (n : Int) (d : Nat) : ∀ (x i : Int), 0 ≤ i → i + d = n → 0 ≤ x → x * 2 ^ d ≤ 4611686018427387904 → n ≤ 62 →
    Ev (fun k => spec_l01Pow.l0 k n x i) (x * 2 ^ d) := by
  induction d with
  | zero =>
    intro x i h0 h hx hb hn
    refine ev_ret (fun k => ?_)
    rw [spec_l01Pow.l0, if_neg (by omega)]
    simp
  | succ d ih =>
    intro x i h0 h hx hb hn
    have e : x * 2 ^ (d + 1) = 2 * x * 2 ^ d := by rw [Int.pow_succ, ← Int.mul_assoc, Int.mul_comm (x * 2 ^ d) 2, ← Int.mul_assoc]
    have hp : (1 : Int) ≤ 2 ^ d := by have : (0 : Int) < 2 ^ d := Int.pow_pos (by omega); omega
    have h2 : 2 * x ≤ 2 * x * 2 ^ d := by
      have := Int.mul_le_mul_of_nonneg_left hp (show 0 ≤ 2 * x by omega)
      omega
    have h3 := ih (2 * x) (i + 1) (by omega) (by omega) (by omega) (by omega) hn
    rw [e]
    refine Ev.step (fun k => ?_) h3
    rw [spec_l01Pow.l0, if_pos (by omega), w64_id (x := 2 * x) (by omega) (by omega), w64_id (x := i + 1) (by omega) (by omega)]
theorem pow_is (n : Nat) (hn : n ≤ 62) : Ev (fun k => spec_l01Pow.f k (n : Int)) (2 ^ n) := by
  have hb : (2 : Int) ^ n ≤ 2 ^ 62 := by exact_mod_cast Nat.pow_le_pow_right (n := 2) (by omega) hn
  have h := pow_loop n n 1 0 (by omega) (by omega) (by omega) (by rw [Int.one_mul]; exact hb) (by omega)
  rw [Int.one_mul] at h
  exact h
theorem pow_at (n : Int) (h0 : 0 ≤ n) (hn : n ≤ 62) : Ev (fun k => spec_l01Pow.f k n) (2 ^ n.toNat) := by
  have h := pow_is n.toNat (by omega)
  rw [Int.toNat_of_nonneg h0] at h
  exact h

/-- Is an Out right. -/
def okB (s : ByteArray) (n : Int) : Bool :=
  if s.size ≤ 12000 ∧ 0 ≤ n ∧ n ≤ 8 * (s.size : Int) ∧ (n + 7) / 8 = s.size then (if n % 8 = 0 then true else decide (bt s ((s.size : Int) - 1) < 2 ^ (n % 8).toNat)) else false
theorem ok_spec (s : ByteArray) (n : Int) (n0 : -9223372036854775808 ≤ n) (n1 : n ≤ 9223372036854775807) (hs : s.size ≤ 1048576) : Ev (fun k => spec_OutOk.f k s n) (okB s n) := by
  unfold okB
  by_cases h : s.size ≤ 12000 ∧ 0 ≤ n ∧ n ≤ 8 * (s.size : Int) ∧ (n + 7) / 8 = s.size
  · obtain ⟨h1, h2, h3, h4⟩ := h
    rw [if_pos ⟨h1, h2, h3, h4⟩]
    have w1 : wrap64 (8 * (s.size : Int)) = 8 * s.size := w64_id (by omega) (by omega)
    have w2 : wrap64 (n + 7) = n + 7 := w64_id (by omega) (by omega)
    have w3 : wrap64 ((n + 7) / 8) = (n + 7) / 8 := w64_id (by omega) (by omega)
    have w4 : wrap64 ((s.size : Int) - 1) = s.size - 1 := w64_id (by omega) (by omega)
    have t : Int.tmod n 8 = n % 8 := tmod_nn 8 h2
    by_cases h5 : n % 8 = 0
    · rw [if_pos h5]
      refine Ev.congr (fun k => ?_) (Ev.now true)
      unfold spec_OutOk.f
      rw [if_neg (by omega), if_neg (by omega), w1, if_neg (by omega), w2, tdiv_nn _ (by omega), w3, if_pos h4, t, if_pos h5]
    · rw [if_neg h5]
      have b0 := bt_lo s ((s.size : Int) - 1)
      have b1 := bt_hi s ((s.size : Int) - 1)
      refine ev_end (pow_at (n % 8) (by omega) (by omega)) (fun k hk => ?_)
      unfold spec_OutOk.f
      rw [if_neg (by omega), if_neg (by omega), w1, if_neg (by omega), w2, tdiv_nn _ (by omega), w3, if_pos h4, t, if_neg h5, w4, if_pos (by omega), if_pos (by omega), hk, w64_id (x := bt s ((s.size : Int) - 1)) (by omega) (by omega)]
      rfl
  · rw [if_neg h]
    refine Ev.congr (fun k => ?_) (Ev.now false)
    unfold spec_OutOk.f
    split
    · rfl
    · split
      · rfl
      · rw [w64_id (x := 8 * (s.size : Int)) (by omega) (by omega)]
        split
        · rfl
        · rw [w64_id (x := n + 7) (by omega) (by omega), tdiv_nn _ (by omega), w64_id (x := (n + 7) / 8) (by omega) (by omega), if_neg (by omega)]
theorem ok_impl (s : ByteArray) (n : Int) (n0 : -9223372036854775808 ≤ n) (n1 : n ≤ 9223372036854775807) (hs : s.size ≤ 1048576) : impl_OutOk.f s n = some (okB s n) := by
  unfold okB impl_OutOk.f impl_up.f
  rw [in_impl]
  simp only [Option.bind_some, decide_eq_true_eq]
  by_cases h : s.size ≤ 12000 ∧ 0 ≤ n ∧ n ≤ 8 * (s.size : Int) ∧ (n + 7) / 8 = s.size
  · obtain ⟨h1, h2, h3, h4⟩ := h
    have w2 : wrap64 (n + 7) = n + 7 := w64_id (by omega) (by omega)
    have w3 : wrap64 ((n + 7) / 8) = (n + 7) / 8 := w64_id (by omega) (by omega)
    have w4 : wrap64 ((s.size : Int) - 1) = s.size - 1 := w64_id (by omega) (by omega)
    rw [if_pos (show 0 ≤ n ∧ n ≤ 96000 from ⟨h2, by omega⟩), w2, tdiv_nn _ (by omega), w3, if_pos h4.symm, tmod_nn 8 h2, if_pos (show s.size ≤ 12000 ∧ 0 ≤ n ∧ n ≤ 8 * (s.size : Int) ∧ (n + 7) / 8 = s.size from ⟨h1, h2, h3, h4⟩)]
    by_cases h5 : n % 8 = 0
    · rw [if_pos h5, if_pos h5]
    · rw [if_neg h5, if_neg h5, w4, if_pos (by omega), if_pos (by omega), if_pos (by omega)]
      have b0 := bt_lo s ((s.size : Int) - 1)
      congr 1
      have e : shr .u8 (bt s ((s.size : Int) - 1)) (n % 8) = bt s ((s.size : Int) - 1) / 2 ^ (n % 8).toNat := shr_small rfl (by simp [IntKind.bits]; omega) |>.symm
      rw [e, Bool.eq_iff_iff]
      simp only [beq_iff_eq, decide_eq_true_eq]
      have hp : (0 : Int) < 2 ^ (n % 8).toNat := Int.pow_pos (by omega)
      constructor
      · intro hz
        have := Int.lt_mul_ediv_self_add (x := bt s ((s.size : Int) - 1)) hp
        rw [hz, Int.mul_zero, Int.zero_add] at this
        exact this
      · intro hz
        exact Int.ediv_eq_zero_of_lt b0 hz
  · rw [if_neg h]
    split
    · rw [w64_id (x := n + 7) (by omega) (by omega), tdiv_nn _ (by omega), w64_id (x := (n + 7) / 8) (by omega) (by omega), if_neg (by omega)]
    · rfl

open Go.Proofs.Ytimomemkbcidnaa.MWriter Go.Proofs.Ytimomemkbcidnaa.MPut Go.Proofs.Ytimomemkbcidnaa.MOut
theorem or8_swap (x y : Int) : Go.bits .or .u8 x y = Go.bits .or .u8 y x := by
  unfold Go.bits
  simp only []
  rw [BitVec.or_comm]
/-- A bit set behind those that are there: the sum. -/
theorem orBit_is (x n : Int) (r : Nat) (hr : r < 8) (x0 : 0 ≤ x) (x1 : x < 2 ^ r) (n0 : 0 ≤ n) (n1 : n < 2 ^ 63) : orBit x n r = x + n % 2 * 2 ^ r ∧ x + n % 2 * 2 ^ r < 2 ^ (r + 1) ∧ x + n % 2 * 2 ^ r ≤ 255 := by
  have e : Go.bits .and .i64 n 1 = n % 2 := bits_mask .i64 63 (by decide) wraps64 1 (by decide) n n0 n1
  have hb : n % 2 = 0 ∨ n % 2 = 1 := by omega
  unfold orBit
  rw [e]
  have hr' : r = 0 ∨ r = 1 ∨ r = 2 ∨ r = 3 ∨ r = 4 ∨ r = 5 ∨ r = 6 ∨ r = 7 := by omega
  have hp : (2 : Int) ^ r ≤ 128 ∧ (2 : Int) ^ (r + 1) = 2 * 2 ^ r ∧ 0 < (2 : Int) ^ r := by
    refine ⟨?_, by rw [Int.pow_succ]; omega, Int.pow_pos (by omega)⟩
    rcases hr' with h | h | h | h | h | h | h | h <;> subst h <;> decide
  obtain ⟨p1, p2, p3⟩ := hp
  have e2 : n % 2 % 256 * 2 ^ r % 256 = n % 2 * 2 ^ r := by
    rcases hb with h | h <;> rw [h]
    · simp
    · have : (1 : Int) % 256 = 1 := by decide
      rw [this]
      omega
  rw [e2]
  have e3 : Go.bits .or .u8 x (n % 2 * 2 ^ r) = x + n % 2 * 2 ^ r := by
    rw [or8_swap, bits_join .u8 8 (by decide) (fun n h0 h1 => by rw [IntKind.wrap_u8]; omega) r (n % 2 * 2 ^ r) x (by rcases hb with h | h <;> rw [h] <;> omega) (by simp) (by rcases hb with h | h <;> rw [h] <;> omega) x0 x1 (by omega)]
    omega
  refine ⟨e3, ?_, ?_⟩
  · rw [p2]
    rcases hb with h | h <;> rw [h] <;> omega
  · rcases hb with h | h <;> rw [h] <;> omega
/-- Bytes that hold c bits: all bits behind them are 0. -/
structure Inv (xs : List Int) (c : Nat) : Prop where
  len : xs.length = (c + 7) / 8
  rng : ∀ x ∈ xs, 0 ≤ x ∧ x ≤ 255
  low : c % 8 ≠ 0 → rd xs ((c / 8 : Nat) : Int) < 2 ^ (c % 8)
theorem rd_memI {xs : List Int} {i : Nat} (h : i < xs.length) : rd xs (i : Int) ∈ xs := by
  unfold rd
  rw [Int.toNat_natCast, List.getD_eq_getElem?_getD, List.getElem?_eq_getElem h]
  exact List.getElem_mem h
theorem rd_setJ {xs : List Int} {i : Nat} (h : i < xs.length) (a : Int) : rd (xs.set i a) (i : Int) = a := by
  unfold rd
  rw [Int.toNat_natCast, List.getD_eq_getElem?_getD, List.getElem?_set_self h]
  rfl
theorem rd_last (xs : List Int) (a : Int) : rd (xs ++ [a]) (xs.length : Int) = a := by
  unfold rd
  rw [Int.toNat_natCast, List.getD_eq_getElem?_getD]
  simp
theorem put_step (xs : List Int) (c : Nat) (n : Int) (hI : Inv xs c) (n0 : 0 ≤ n) (n1 : n < 2 ^ 63) : putAdd xs c (n % 2) = putBit xs c n ∧ Inv (putBit xs c n) (c + 1) := by
  by_cases hm : c % 8 = 0
  · obtain ⟨h1, h2, h3⟩ := orBit_is 0 n 0 (by omega) (by omega) (by decide) n0 n1
    have e : putBit xs c n = xs ++ [orBit 0 n 0] := by unfold putBit; rw [if_pos hm]
    have hl := hI.len
    refine ⟨?_, ?_⟩
    · rw [e]
      unfold putAdd
      rw [if_pos hm, addBit_eq, h1]
      congr 2
      omega
    · rw [e]
      refine ⟨by simp; omega, fun x hx => ?_, fun h => ?_⟩
      · rcases List.mem_append.1 hx with hx | hx
        · exact hI.rng x hx
        · rw [List.mem_singleton] at hx
          rw [hx, h1]
          omega
      · have e1 : (c + 1) / 8 = xs.length := by omega
        have e2 : (c + 1) % 8 = 1 := by omega
        rw [e1, e2, rd_last, h1]
        exact h2
  · have hl := hI.len
    have hj : c / 8 < xs.length := by omega
    have hx := hI.rng _ (rd_memI hj)
    obtain ⟨h1, h2, h3⟩ := orBit_is (rd xs ((c / 8 : Nat) : Int)) n (c % 8) (by omega) hx.1 (hI.low hm) n0 n1
    have e : putBit xs c n = xs.set (c / 8) (orBit (rd xs ((c / 8 : Nat) : Int)) n (c % 8)) := by unfold putBit; rw [if_neg hm]
    have p3 : (0 : Int) < 2 ^ (c % 8) := Int.pow_pos (by omega)
    have hb : n % 2 = 0 ∨ n % 2 = 1 := by omega
    have hpos : 0 ≤ rd xs ((c / 8 : Nat) : Int) + n % 2 * 2 ^ (c % 8) := by rcases hb with h | h <;> rw [h] <;> omega
    refine ⟨?_, ?_⟩
    · rw [e]
      unfold putAdd
      rw [if_neg hm, addBit_eq, h1]
      congr 1
      omega
    · rw [e]
      refine ⟨by rw [List.length_set]; omega, fun x hx => ?_, fun h => ?_⟩
      · rcases List.mem_or_eq_of_mem_set hx with hx | hx
        · exact hI.rng x hx
        · rw [hx, h1]
          exact ⟨hpos, h3⟩
      · have e1 : (c + 1) / 8 = c / 8 := by omega
        have e2 : (c + 1) % 8 = c % 8 + 1 := by omega
        rw [e1, e2, rd_setJ hj, h1]
        exact h2
theorem put_all : ∀ (ns xs : List Int) (c : Nat), Inv xs c → (∀ n ∈ ns, 0 ≤ n ∧ n < 2 ^ 63) → addAll (ns.map (· % 2)) xs c = MWriter.putAll ns xs c ∧ Inv (MWriter.putAll ns xs c) (c + ns.length)
  | [], xs, c, h, _ => ⟨rfl, h⟩
  | n :: ns, xs, c, h, hn => by
    obtain ⟨n0, n1⟩ := hn n (List.mem_cons_self ..)
    obtain ⟨h1, h2⟩ := put_step xs c n h n0 n1
    obtain ⟨h3, h4⟩ := put_all ns _ _ h2 (fun m hm => hn m (List.mem_cons_of_mem _ hm))
    rw [List.map_cons, addAll, h1, h3, MWriter.putAll, List.length_cons]
    exact ⟨rfl, by rw [show c + (ns.length + 1) = c + 1 + ns.length by omega]; exact h4⟩
theorem bytesOf_rd (s : ByteArray) (i : Nat) (h : i < s.size) : rd (bytesOf s) (i : Int) = bt s (i : Int) := by
  unfold rd bt
  rw [dif_pos (show (i : Int).toNat < s.size by rw [Int.toNat_natCast]; exact h)]
  simp only [Int.toNat_natCast]
  unfold bytesOf
  rw [List.getD_eq_getElem?_getD, List.getElem?_map]
  have hh : i < s.data.toList.length := h
  rw [List.getElem?_eq_getElem hh]
  rfl
theorem bytesOf_rng (s : ByteArray) : ∀ x ∈ bytesOf s, 0 ≤ x ∧ x ≤ 255 := by
  intro x hx
  unfold bytesOf at hx
  obtain ⟨b, _, rfl⟩ := List.mem_map.1 hx
  have := b.toNat_lt
  omega
/-- A right Out's bytes. -/
theorem ok_inv (s : ByteArray) (c : Int) (h : okB s c = true) : ∃ C : Nat, c = C ∧ C ≤ 96000 ∧ s.size ≤ 12000 ∧ s.size = (C + 7) / 8 ∧ Inv (bytesOf s) C := by
  unfold okB at h
  split at h
  · rename_i hc
    obtain ⟨h1, h2, h3, h4⟩ := hc
    obtain ⟨C, rfl⟩ := Int.eq_ofNat_of_zero_le h2
    have hs : s.size = (C + 7) / 8 := by omega
    refine ⟨C, rfl, by omega, h1, hs, ⟨by rw [bytesOf_length]; exact hs, bytesOf_rng s, fun hm => ?_⟩⟩
    rw [if_neg (by omega)] at h
    have h5 := of_decide_eq_true h
    rw [bytesOf_rd s _ (by omega)]
    have e1 : ((s.size : Int) - 1) = ((C / 8 : Nat) : Int) := by omega
    have e2 : ((C : Int) % 8).toNat = C % 8 := by omega
    rw [e1, e2] at h5
    exact h5
  · cases h

/-- May n bits of v be put. -/
def putB (v n : Int) : Bool := decide (0 ≤ n ∧ n ≤ 24) && decide (0 ≤ v ∧ v ≤ 2 ^ n.toNat - 1)
theorem pow24 (n : Int) (h0 : 0 ≤ n) (h1 : n ≤ 24) : (1 : Int) ≤ 2 ^ n.toNat ∧ (2 : Int) ^ n.toNat ≤ 16777216 := by
  have h2 : (2 : Nat) ^ n.toNat ≤ 2 ^ 24 := Nat.pow_le_pow_right (by decide) (by omega)
  have h3 : (0 : Nat) < 2 ^ n.toNat := Nat.pow_pos (by decide)
  have e : (2 : Int) ^ n.toNat = ((2 ^ n.toNat : Nat) : Int) := by push_cast; rfl
  have e2 : (2 : Nat) ^ 24 = 16777216 := by decide
  rw [e]
  omega
theorem may_spec (s : ByteArray) (c v n : Int) (c0 : -9223372036854775808 ≤ c) (c1 : c ≤ 9223372036854775807) (hs : s.size ≤ 1048576) :
    Ev (fun k => spec_l01May.f k s c v n) (okB s c && putB v n && decide (c ≤ 96000 - n)) := by
  refine ev_use (ok_spec s c c0 c1 hs) (fun k hk => by unfold spec_l01May.f; rw [hk]) ?_
  cases hB : okB s c with
  | false => exact Ev.now _
  | true =>
    simp only [if_true, Bool.true_and]
    rw [in_spec]
    simp only [Option.bind_some]
    by_cases hn : 0 ≤ n ∧ n ≤ 24
    · obtain ⟨p0, p1⟩ := pow24 n hn.1 hn.2
      refine ev_end (pow_at n hn.1 (by omega)) (fun k hk => ?_)
      rw [if_pos (decide_eq_true hn), hk]
      simp only [Option.bind_some]
      rw [w64_id (x := 2 ^ n.toNat - 1) (by omega) (by omega), in_spec]
      simp only [Option.bind_some]
      unfold putB
      rw [decide_eq_true hn, Bool.true_and, w64_id (x := 96000 - n) (by omega) (by omega)]
      by_cases hv : 0 ≤ v ∧ v ≤ 2 ^ n.toNat - 1
      · rw [decide_eq_true hv]; simp
      · rw [decide_eq_false hv]; simp
    · refine Ev.congr (fun k => ?_) (Ev.now _)
      unfold putB
      rw [decide_eq_false hn]
      rfl
theorem places_rd (n i : Nat) (h : i < n) : rd ((List.range n).map fun j : Nat => (j : Int)) (i : Int) = i := by
  unfold rd
  rw [Int.toNat_natCast, List.getD_eq_getElem?_getD, List.getElem?_map, List.getElem?_range h]
  rfl
theorem putbits_loop (s : ByteArray) (c v : Int) (n : Nat) (hn : n ≤ 24) (r : ByteArray × Int) (hr : spec_l01Put.f s c v ((List.range n).map fun j : Nat => (j : Int)) = some r) (d : Nat) : ∀ i : Nat, i + d = n → Ev (fun k => spec_PutBits.l0 k v n ((List.range i).map fun j : Nat => (j : Int)) i s c) (r.1, r.2, true) := by
  induction d with
  | zero =>
    intro i hi
    obtain rfl : i = n := by omega
    refine ev_ret (fun k => ?_)
    rw [spec_PutBits.l0, if_neg (by omega), hr]
    rfl
  | succ d ih =>
    intro i hi
    refine Ev.step (fun k => ?_) (ih (i + 1) (by omega))
    rw [spec_PutBits.l0, if_pos (by omega), if_pos (by rw [List.length_map, List.length_range]; omega), w64_id (x := (i : Int) + 1) (by omega) (by omega), List.range_succ, List.map_append]
    rfl
theorem lows_rng (v : Int) (n : Nat) (v0 : 0 ≤ v) (v1 : v ≤ 16777215) : ∀ m ∈ lows v n, 0 ≤ m ∧ m < 2 ^ 63 := by
  intro m hm
  unfold lows at hm
  obtain ⟨i, _, rfl⟩ := List.mem_map.1 hm
  have h2 : v / 2 ^ i ≤ v := Int.ediv_le_self _ v0
  exact ⟨Int.ediv_nonneg v0 (Int.le_of_lt (Int.pow_pos (by omega))), by omega⟩
theorem lows_bits (v : Int) (n : Nat) : bitsAt v ((List.range n).map fun j : Nat => (j : Int)) ((List.range n).map fun j : Nat => (j : Int)).length = (lows v n).map (· % 2) := by
  unfold bitsAt lows
  rw [List.take_length, List.map_map, List.map_map]
  rfl
theorem str_back (s : ByteArray) : strOfNums (bytesOf s) = s := by
  have e : bytesOf s = s.data.toList.map fun b => (b.toNat : Int) := by
    rfl
  rw [e]
  unfold strOfNums
  rw [List.map_map]
  have : ((fun n : Int => UInt8.ofNat n.toNat) ∘ fun b : UInt8 => (b.toNat : Int)) = id := by
    funext b
    simp
  rw [this, List.map_id]

theorem bytes_back (xs : List Int) (h : ∀ x ∈ xs, 0 ≤ x ∧ x ≤ 255) : bytesOf (strOfNums xs) = xs := by
  have e : bytesOf (strOfNums xs) = (strOfNums xs).data.toList.map fun b => (b.toNat : Int) := rfl
  rw [e]
  unfold strOfNums
  rw [List.map_map]
  have : ∀ x ∈ xs, ((fun b : UInt8 => (b.toNat : Int)) ∘ fun n : Int => UInt8.ofNat n.toNat) x = x := by
    intro x hx
    obtain ⟨h0, h1⟩ := h x hx
    simp only [Function.comp]
    have : (UInt8.ofNat x.toNat).toNat = x.toNat := by
      rw [UInt8.toNat_ofNat']
      omega
    rw [this]
    omega
  rw [List.map_congr_left this, List.map_id']
theorem nums_size (xs : List Int) : (strOfNums xs).size = xs.length := by simp [strOfNums, ByteArray.size]
/-- Bytes with a count make a right Out. -/
theorem inv_ok (xs : List Int) (C : Nat) (h : Inv xs C) (hC : C ≤ 96000) : okB (strOfNums xs) (C : Int) = true := by
  have hb := bytes_back xs h.rng
  have hs := nums_size xs
  have hl := h.len
  unfold okB
  rw [hs, if_pos (by omega)]
  by_cases hm : (C : Int) % 8 = 0
  · rw [if_pos hm]
  · rw [if_neg hm]
    have hlow := h.low (by omega)
    have e1 : ((xs.length : Int) - 1) = ((C / 8 : Nat) : Int) := by omega
    have e2 : ((C : Int) % 8).toNat = C % 8 := by omega
    have e3 := bytesOf_rd (strOfNums xs) (C / 8) (by omega)
    rw [hb] at e3
    rw [e1, e2, ← e3]
    exact decide_eq_true hlow

/-- The reference's PutBits, out of the bytes that are there. -/
theorem putbits_at (xs : List Int) (C : Nat) (v n : Nat) (h : Inv xs C) (hC : C ≤ 96000) (hn : n ≤ 24) (hv : v < 2 ^ n) :
    Ev (fun k => spec_PutBits.f k (strOfNums xs) (C : Int) (v : Int) (n : Int)) (if C + n ≤ 96000 then (strOfNums (MWriter.putAll (lows (v : Int) n) xs C), ((C + n : Nat) : Int), true) else (⟨#[]⟩, 0, false)) := by
  have hok := inv_ok xs C h hC
  have hsz := nums_size xs
  have hl := h.len
  have hp : 2 ^ n ≤ 2 ^ 24 := Nat.pow_le_pow_right (by omega) hn
  have hB : putB (v : Int) (n : Int) = true := by
    unfold putB
    rw [decide_eq_true (⟨by omega, by omega⟩ : (0 : Int) ≤ (n : Int) ∧ (n : Int) ≤ 24), Bool.true_and, Int.toNat_natCast]
    have e : (2 : Int) ^ n = ((2 ^ n : Nat) : Int) := by push_cast; rfl
    rw [e]
    exact decide_eq_true (by omega)
  have hm := may_spec (strOfNums xs) (C : Int) (v : Int) (n : Int) (by omega) (by omega) (by omega)
  rw [hok, hB, Bool.true_and, Bool.true_and] at hm
  by_cases hc : C + n ≤ 96000
  · rw [if_pos hc]
    rw [decide_eq_true (show (C : Int) ≤ 96000 - (n : Int) by omega)] at hm
    have hrng := lows_rng (v : Int) n (by omega) (by omega)
    obtain ⟨e1, e2⟩ := put_all (lows (v : Int) n) xs C h hrng
    have h1 : spec_l01Put.f (strOfNums xs) (C : Int) (v : Int) ((List.range n).map fun j : Nat => (j : Int)) = some (strOfNums (MWriter.putAll (lows (v : Int) n) xs C), ((C + n : Nat) : Int)) := by
      unfold spec_l01Put.f l01PutF
      rw [if_pos ⟨by omega, by omega, by omega, by omega, by omega, by simp; omega, fun i hi => by
        have hi' : i < n := by simpa using hi
        rw [places_rd _ _ hi']
        omega⟩, lows_bits, bytes_back xs h.rng, Int.toNat_natCast, e1]
      simp
    have hlp := putbits_loop (strOfNums xs) (C : Int) (v : Int) n hn _ h1 n 0 (by omega)
    refine ev_use hm (fun k hk => ?_) hlp
    unfold spec_PutBits.f
    rw [hk]
    rfl
  · rw [if_neg hc]
    rw [decide_eq_false (show ¬ (C : Int) ≤ 96000 - (n : Int) by omega)] at hm
    refine ev_end hm (fun k hk => ?_)
    unfold spec_PutBits.f
    rw [hk]
    rfl
theorem ev_bind {α β : Type} {A : Nat → Option α} {B : Nat → α → Option β} {a : α} {r : β} (e : Ev A a) (c : Ev (fun k => B k a) r) : Ev (fun k => (A k).bind (B k)) r := ev_use e (fun k hk => by rw [hk]; rfl) c
/-- A state of bits under way: the bytes, the count, whether they became too many. -/
def nextSt (xs : List Int) (C : Nat) (v : Int) (n : Nat) : ByteArray × Int × Bool := if C + n ≤ 96000 then (strOfNums (MWriter.putAll (lows v n) xs C), ((C + n : Nat) : Int), false) else (strOfNums xs, (C : Int), true)
theorem l09put_at (xs : List Int) (C : Nat) (v n : Nat) (h : Inv xs C) (hC : C ≤ 96000) (hn : n ≤ 24) (hv : v < 2 ^ n) :
    Ev (fun k => MHead.l09PutF (fun s c v n => spec_PutBits.f k s c v n) (strOfNums xs, (C : Int), false) (v : Int) (n : Int)) (nextSt xs C (v : Int) n) := by
  refine ev_end (putbits_at xs C v n h hC hn hv) (fun k hk => ?_)
  unfold MHead.l09PutF nextSt
  rw [if_neg (show ¬ (false = true) by decide)]
  show (spec_PutBits.f k (strOfNums xs) (C : Int) (v : Int) (n : Int)).bind _ = _
  rw [hk, Option.bind_some]
  by_cases hc : C + n ≤ 96000
  · rw [if_pos hc, if_pos hc]
    rfl
  · rw [if_neg hc, if_neg hc]
    rfl
theorem l09put_bad (s : ByteArray) (c v n : Int) : Ev (fun k => MHead.l09PutF (fun s c v n => spec_PutBits.f k s c v n) (s, c, true) v n) (s, c, true) := Ev.congr (fun k => rfl) (Ev.now _)
theorem put_inv (xs : List Int) (C : Nat) (v n : Nat) (h : Inv xs C) (hn : n ≤ 24) (hv : v < 2 ^ n) : Inv (MWriter.putAll (lows (v : Int) n) xs C) (C + n) := by
  have hp : 2 ^ n ≤ 2 ^ 24 := Nat.pow_le_pow_right (by omega) hn
  have := (put_all (lows (v : Int) n) xs C h (lows_rng (v : Int) n (by omega) (by omega))).2
  rw [lows_len] at this
  exact this

theorem highs_rng (v : Int) (n i : Nat) (v0 : 0 ≤ v) (v1 : v ≤ 16777215) : ∀ m ∈ highs v n i, 0 ≤ m ∧ m < 2 ^ 63 := by
  intro m hm
  unfold highs at hm
  obtain ⟨j, _, rfl⟩ := List.mem_map.1 hm
  have h2 : v / 2 ^ (n - 1 - j) ≤ v := Int.ediv_le_self _ v0
  exact ⟨Int.ediv_nonneg v0 (Int.le_of_lt (Int.pow_pos (by omega))), by omega⟩

open Go.Proofs.Ytimomemkbcidnaa.MBook Go.Proofs.Ytimomemkbcidnaa.MCode
/-- Are these lengths right. -/
def okL (l : List Int) : Bool := l.all fun x => decide (0 ≤ x ∧ x ≤ 15)
theorem okL_cons (x : Int) (l : List Int) : okL (x :: l) = (decide (0 ≤ x ∧ x ≤ 15) && okL l) := by unfold okL; rw [List.all_cons]
theorem okL_mem {l : List Int} (h : okL l = true) : ∀ x ∈ l, 0 ≤ x ∧ x ≤ 15 := by
  intro x hx
  unfold okL at h
  have := List.all_eq_true.1 h x hx
  exact of_decide_eq_true this
theorem lensOk_at (l : List Int) (hl : l.length ≤ 1048576) (m : Int) (d : Nat) : ∀ (j k : Nat), j + d = l.length → d < k → impl_lengthsOk.l0 k l m l (l.length : Int) j = some (okL (l.drop j) && decide ((l.length : Int) ≤ m)) := by
  induction d with
  | zero =>
    intro j k h hk
    obtain ⟨k, rfl⟩ : ∃ q, k = q + 1 := ⟨k - 1, by omega⟩
    rw [impl_lengthsOk.l0, if_neg (by omega), List.drop_of_length_le (by omega)]
    simp [okL]
  | succ d ih =>
    intro j k h hk
    obtain ⟨k, rfl⟩ : ∃ q, k = q + 1 := ⟨k - 1, by omega⟩
    rw [drop_rd l j (by omega), okL_cons, impl_lengthsOk.l0, if_pos (by omega), if_pos (by omega), if_pos (by omega), in_impl, Option.bind_some]
    by_cases c : 0 ≤ rd l j ∧ rd l j ≤ 15
    · rw [decide_eq_true c, if_pos rfl, Bool.true_and, w64_id (x := (j : Int) + 1) (by omega) (by omega)]
      exact ih (j + 1) k (by omega) (by omega)
    · rw [decide_eq_false c, if_neg (by decide), Bool.false_and, Bool.false_and]
theorem lensOk_k (l : List Int) (hl : l.length ≤ 1048576) (m : Int) : impl_lengthsOk.f (l.length + 10) l m = some (okL l && decide ((l.length : Int) ≤ m)) := lensOk_at l hl m l.length 0 _ (by omega) (by omega)
/-- How many are above 0. -/
def nzL : List Int → Nat
  | [] => 0
  | x :: l => (if 0 < x then 1 else 0) + nzL l
/-- What the kind is, of how full and how many. -/
def kindS (F n : Nat) : Int := if n = 0 then 1 else if F = 32768 then 2 else if F > 32768 then 5 else if n = 1 then (if F = 16384 then 3 else 4) else 4
/-- The kind of any lengths. -/
def kindL (l : List Int) : Int := if okL l = true ∧ l.length ≤ 288 then kindS (fullS l) (nzL l) else 0
theorem nzTo_cons (x : Int) (l : List Int) : ∀ m, (symsTo (x :: l) m).length = (symsTo l m).length + if 0 < x ∧ x ≤ (m : Int) then 1 else 0
  | 0 => by rw [symsTo, symsTo, if_neg (by omega)]; rfl
  | m + 1 => by
    have ih := nzTo_cons x l m
    have e1 := syms_split (x :: l) (m + 1) (by omega)
    have e2 := syms_split l (m + 1) (by omega)
    rw [Nat.add_sub_cancel] at e1 e2
    rw [e1, e2, ih, cntN_cons]
    by_cases h1 : x = ((m + 1 : Nat) : Int)
    · have q1 : (if 0 < x ∧ x ≤ (m : Int) then 1 else 0) = 0 := if_neg (by omega)
      have q2 : (if 0 < m + 1 ∧ x = ((m + 1 : Nat) : Int) then 1 else 0) = 1 := if_pos ⟨by omega, h1⟩
      have q3 : (if 0 < x ∧ x ≤ ((m + 1 : Nat) : Int) then 1 else 0) = 1 := if_pos (by omega)
      rw [q1, q2, q3]
      omega
    · have q2 : (if 0 < m + 1 ∧ x = ((m + 1 : Nat) : Int) then 1 else 0) = 0 := if_neg (fun h => h1 h.2)
      have q3 : (if 0 < x ∧ x ≤ ((m + 1 : Nat) : Int) then 1 else 0) = (if 0 < x ∧ x ≤ (m : Int) then 1 else 0) := by
        by_cases h2 : 0 < x ∧ x ≤ (m : Int)
        · rw [if_pos h2, if_pos (by omega)]
        · rw [if_neg h2, if_neg (by omega)]
      rw [q2, q3]
      omega
theorem nz_is : ∀ (l : List Int), okL l = true → (symsTo l 15).length = nzL l
  | [], _ => by decide
  | x :: l, h => by
    rw [okL_cons, Bool.and_eq_true] at h
    have hx := of_decide_eq_true h.1
    rw [nzTo_cons, nz_is l h.2, nzL]
    by_cases h0 : 0 < x
    · rw [if_pos h0, if_pos (by omega)]; omega
    · rw [if_neg h0, if_neg (by omega)]; omega
theorem full_zero : ∀ (l : List Int), okL l = true → (fullS l = 0 ↔ nzL l = 0) ∧ (nzL l = 0 → cntN l 1 = 0) ∧ (nzL l = 1 → (fullS l = 16384 ↔ cntN l 1 = 1))
  | [], _ => by decide
  | x :: l, h => by
    rw [okL_cons, Bool.and_eq_true] at h
    have hx := of_decide_eq_true h.1
    obtain ⟨i1, i2, i3⟩ := full_zero l h.2
    rw [fullS, nzL, cntN_cons]
    by_cases h0 : 0 < x
    · have p : 0 < 2 ^ (15 - x.toNat) := Nat.pos_of_ne_zero (by simp)
      rw [if_pos h0, if_pos h0]
      refine ⟨by omega, by omega, fun h1 => ?_⟩
      have z := i2 (by omega)
      have y := i1.2 (by omega)
      rw [z, y]
      by_cases hx1 : x = 1
      · subst hx1; decide
      · have q : (if 0 < 1 ∧ x = ((1 : Nat) : Int) then 1 else 0) = 0 := if_neg (fun h => hx1 h.2)
        have p2 : 2 ^ (15 - x.toNat) ≤ 2 ^ 13 := Nat.pow_le_pow_right (by omega) (by omega)
        rw [q]
        omega
    · have q : (if 0 < 1 ∧ x = ((1 : Nat) : Int) then 1 else 0) = 0 := if_neg (fun h => by have := h.2; omega)
      rw [if_neg h0, if_neg h0, q]
      refine ⟨by omega, by omega, fun h1 => ?_⟩
      have := i3 (by omega)
      omega
theorem kindI_is (l : List Int) (h : okL l = true) : kindI l = kindS (fullS l) (nzL l) := by
  obtain ⟨i1, i2, i3⟩ := full_zero l h
  unfold kindI kindS
  rw [fullS_is l (okL_mem h), nz_is l h]
  by_cases h1 : fullS l = 0
  · rw [if_pos h1, if_pos (i1.1 h1)]
  · rw [if_neg h1, if_neg (fun h2 => h1 (i1.2 h2))]
    by_cases h2 : fullS l = 32768
    · rw [if_pos h2, if_pos h2]
    · rw [if_neg h2, if_neg h2]
      by_cases h3 : 32768 < fullS l
      · rw [if_pos h3, if_pos h3]
      · rw [if_neg h3, if_neg h3]
        by_cases h4 : nzL l = 1
        · rw [if_pos h4]
          by_cases h5 : fullS l = 16384
          · rw [if_pos h5, if_pos ⟨h4, (i3 h4).1 h5⟩]
          · rw [if_neg h5, if_neg (fun h6 => h5 ((i3 h4).2 h6.2))]
        · rw [if_neg (fun h6 => h4 h6.1), if_neg h4]
theorem kind_impl (l : List Int) (hl : l.length ≤ 1048576) : impl_CodeKind.f l = some (kindL l) := by
  unfold impl_CodeKind.f kindL
  rw [lensOk_k l hl, Option.bind_some]
  unfold kindF
  by_cases h : okL l = true ∧ l.length ≤ 288
  · rw [h.1, decide_eq_true (show (l.length : Int) ≤ 288 by omega), Bool.and_true, if_pos rfl, if_pos (by omega), if_pos ⟨rfl, h.2⟩, kindI_is l h.1]
  · rw [if_neg h]
    have e : (okL l && decide ((l.length : Int) ≤ 288)) = false := by
      by_cases h1 : okL l = true
      · rw [h1, Bool.true_and]
        exact decide_eq_false (fun h2 => h ⟨h1, by omega⟩)
      · have : okL l = false := by simpa using h1
        rw [this, Bool.false_and]
    rw [e, if_neg (by decide)]
theorem roomF_loop (l : List Int) (hl : l.length ≤ 320) (d : Nat) : ∀ (j : Nat) (s : Int), j + d = l.length → 0 ≤ s → s ≤ 16384 * j → Ev (fun k => spec_l03Room.l0 k l s j) (if okL (l.drop j) = true then (s + (fullS (l.drop j) : Nat), true) else (0, false)) := by
  induction d with
  | zero =>
    intro j s h s0 s1
    rw [List.drop_of_length_le (by omega)]
    exact ev_ret (fun k => by rw [spec_l03Room.l0, if_neg (by omega)]; simp [okL, fullS])
  | succ d ih =>
    intro j s h s0 s1
    rw [drop_rd l j (by omega), okL_cons, fullS]
    by_cases c : 0 ≤ rd l j ∧ rd l j ≤ 15
    · rw [decide_eq_true c, Bool.true_and]
      by_cases c1 : rd l j > 0
      · have w : wrap64 (15 - rd l j) = 15 - rd l j := w64_id (by omega) (by omega)
        have P := pow_at (15 - rd l j) (by omega) (by omega)
        have e0 : (15 - rd l (j : Int)).toNat = 15 - (rd l (j : Int)).toNat := by omega
        rw [e0] at P
        have p0 : (0 : Int) < 2 ^ (15 - (rd l j).toNat) := Int.pow_pos (by omega)
        have p1 : (2 : Int) ^ (15 - (rd l j).toNat) ≤ 2 ^ 14 := by exact_mod_cast Nat.pow_le_pow_right (n := 2) (by omega) (show 15 - (rd l j).toNat ≤ 14 by omega)
        have g := ih (j + 1) (s + 2 ^ (15 - (rd l j).toNat)) (by omega) (by omega) (by omega)
        have e2 : (if 0 < rd l (j : Int) then 2 ^ (15 - (rd l (j : Int)).toNat) else 0) = 2 ^ (15 - (rd l (j : Int)).toNat) := if_pos c1
        have e3 : s + ((2 ^ (15 - (rd l (j : Int)).toNat) + fullS (l.drop (j + 1)) : Nat) : Int) = s + 2 ^ (15 - (rd l (j : Int)).toNat) + ((fullS (l.drop (j + 1)) : Nat) : Int) := by
          rw [Int.natCast_add, Int.natCast_pow, Int.add_assoc]
          rfl
        rw [e2, e3]
        refine ev_use_step P (fun k hk => ?_) g
        rw [spec_l03Room.l0, if_pos (by omega), if_pos (by omega), in_spec, decide_eq_true c, Option.bind_some, if_pos rfl, if_pos c1, w, hk, Option.bind_some, w64_id (x := s + 2 ^ (15 - (rd l j).toNat)) (by omega) (by omega), w64_id (x := (j : Int) + 1) (by omega) (by omega)]
        rfl
      · have g := ih (j + 1) s (by omega) (by omega) (by omega)
        have e2 : (if 0 < rd l (j : Int) then 2 ^ (15 - (rd l (j : Int)).toNat) else 0) = 0 := if_neg c1
        rw [e2, Nat.zero_add]
        refine Ev.step (fun k => ?_) g
        rw [spec_l03Room.l0, if_pos (by omega), if_pos (by omega), in_spec, decide_eq_true c, Option.bind_some, if_pos rfl, if_neg c1, w64_id (x := (j : Int) + 1) (by omega) (by omega)]
        rfl
    · rw [decide_eq_false c, Bool.false_and, if_neg (by decide)]
      refine ev_ret (fun k => ?_)
      rw [spec_l03Room.l0, if_pos (by omega), if_pos (by omega), in_spec, decide_eq_false c, Option.bind_some, if_neg (by decide)]
theorem roomF_is (l : List Int) : Ev (fun k => spec_l03Room.f k l 288) (if okL l = true ∧ l.length ≤ 288 then (((fullS l : Nat) : Int), true) else (0, false)) := by
  by_cases h : l.length ≤ 288
  · have g := roomF_loop l (by omega) l.length 0 0 (by omega) (by omega) (by omega)
    rw [List.drop_zero, Int.zero_add] at g
    have e : (if okL l = true ∧ l.length ≤ 288 then (((fullS l : Nat) : Int), true) else (0, false)) = (if okL l = true then (((fullS l : Nat) : Int), true) else (0, false)) := by
      by_cases h2 : okL l = true
      · rw [if_pos ⟨h2, h⟩, if_pos h2]
      · rw [if_neg (fun h3 => h2 h3.1), if_neg h2]
    rw [e]
    refine Ev.congr (fun k => ?_) g
    unfold spec_l03Room.f
    rw [if_neg (by omega)]
    rfl
  · rw [if_neg (fun h2 => h h2.2)]
    refine Ev.congr (fun k => ?_) (Ev.now (0, false))
    unfold spec_l03Room.f
    rw [if_pos (by omega)]
theorem kind_loop (l : List Int) (hl : l.length ≤ 320) (F : Nat) (d : Nat) : ∀ (j n : Nat), j + d = l.length → n ≤ j → Ev (fun k => spec_CodeKind.l0 k l (F : Int) (n : Int) j) (kindS F (n + nzL (l.drop j))) := by
  induction d with
  | zero =>
    intro j n h hn
    rw [List.drop_of_length_le (by omega)]
    refine ev_ret (fun k => ?_)
    rw [spec_CodeKind.l0, if_neg (by omega)]
    have q1 : ((n : Int) = 0) ↔ n = 0 := by omega
    have q2 : ((F : Int) = 32768) ↔ F = 32768 := by omega
    have q3 : ((F : Int) > 32768) ↔ F > 32768 := by omega
    have q4 : ((n : Int) = 1) ↔ n = 1 := by omega
    have q5 : ((F : Int) = 16384) ↔ F = 16384 := by omega
    simp only [nzL, Nat.add_zero, q1, q2, q3, q4, q5]
    unfold kindS
    repeat' split
    all_goals first | rfl | omega
  | succ d ih =>
    intro j n h hn
    rw [drop_rd l j (by omega), nzL]
    by_cases c : rd l j > 0
    · have e : (if 0 < rd l (j : Int) then 1 else 0) = 1 := if_pos c
      have g := ih (j + 1) (n + 1) (by omega) (by omega)
      rw [e, ← Nat.add_assoc]
      refine Ev.step (fun k => ?_) g
      rw [spec_CodeKind.l0, if_pos (by omega), if_pos (by omega), if_pos c, w64_id (x := (n : Int) + 1) (by omega) (by omega), w64_id (x := (j : Int) + 1) (by omega) (by omega)]
      rfl
    · have e : (if 0 < rd l (j : Int) then 1 else 0) = 0 := if_neg c
      have g := ih (j + 1) n (by omega) (by omega)
      rw [e, Nat.zero_add]
      refine Ev.step (fun k => ?_) g
      rw [spec_CodeKind.l0, if_pos (by omega), if_pos (by omega), if_neg c, w64_id (x := (j : Int) + 1) (by omega) (by omega)]
      rfl
theorem kind_spec (l : List Int) : Ev (fun k => spec_CodeKind.f k l) (kindL l) := by
  have g := roomF_is l
  unfold kindL
  by_cases h : okL l = true ∧ l.length ≤ 288
  · rw [if_pos h] at g ⊢
    have g2 := kind_loop l (by omega) (fullS l) l.length 0 0 (by omega) (Nat.le_refl _)
    rw [List.drop_zero, Nat.zero_add] at g2
    refine ev_use g (fun k hk => ?_) g2
    unfold spec_CodeKind.f
    have hk : spec_l03Room.f k l 288 = _ := hk
    rw [hk, Option.bind_some, if_pos rfl]
    rfl
  · rw [if_neg h] at g ⊢
    refine ev_end g (fun k hk => ?_)
    show spec_CodeKind.f k l = _
    have hk : spec_l03Room.f k l 288 = _ := hk
    unfold spec_CodeKind.f
    rw [hk, Option.bind_some, if_neg (by decide)]

/-- Have these lengths codes. -/
def hasC (l : List Int) : Bool := kindL l != 0 && kindL l != 5
theorem hasC_impl (l : List Int) (hl : l.length ≤ 1048576) : impl_hasCodes.f l = some (hasC l) := by
  unfold impl_hasCodes.f hasC
  rw [kind_impl l hl, Option.bind_some]
  by_cases h : kindL l = 0
  · rw [if_pos h, h]; rfl
  · rw [if_neg h]
    have : (kindL l != 0) = true := by simpa using h
    rw [this, Bool.true_and]
theorem hasC_ok {l : List Int} (h : hasC l = true) : okL l = true ∧ l.length ≤ 288 ∧ fullS l ≤ 32768 := by
  unfold hasC kindL at h
  by_cases h1 : okL l = true ∧ l.length ≤ 288
  · rw [if_pos h1] at h
    refine ⟨h1.1, h1.2, ?_⟩
    unfold kindS at h
    by_cases h2 : nzL l = 0
    · have := ((full_zero l h1.1).1).2 h2
      omega
    · rw [if_neg h2] at h
      by_cases h3 : fullS l = 32768
      · omega
      · rw [if_neg h3] at h
        by_cases h4 : fullS l > 32768
        · rw [if_pos h4] at h
          simp at h
        · omega
  · rw [if_neg h1] at h
    simp at h
theorem codesI_rd (l : List Int) (i : Nat) (h : i < l.length) (h0 : 0 < rd l (i : Int)) : rd (codesI l l.length) (i : Int) = ((codeN l i : Nat) : Int) := by
  have e : (codesI l l.length)[i]? = some ((codeN l i : Nat) : Int) := by
    unfold codesI
    rw [List.getElem?_map, List.getElem?_range h]
    simp only [Option.map_some, if_pos h0]
  unfold rd
  rw [Int.toNat_natCast, List.getD_eq_getElem?_getD, e]
  rfl
/-- The codes of any lengths. -/
def codesR (l : List Int) : List Int × Bool := if hasC l = true then (codesI l l.length, true) else ([], false)
/-- The codes as far as told: of less than n bits, and of n bits of the first i symbols. -/
def outS (l : List Int) (n i : Nat) : List Int := (List.range l.length).map fun j : Nat => if 0 < rd l (j : Int) ∧ (rd l (j : Int) < (n : Int) ∨ (rd l (j : Int) = (n : Int) ∧ j < i)) then ((codeN l j : Nat) : Int) else 0
theorem outS_len (l : List Int) (n i : Nat) : (outS l n i).length = l.length := by unfold outS; simp
theorem outS_set (l : List Int) (n i : Nat) (hn : 0 < n) (hi : i < l.length) (e : rd l (i : Int) = (n : Int)) : (outS l n i).set i (((firstN l n + rankN l n i : Nat) : Int)) = outS l n (i + 1) := by
  unfold outS
  apply List.ext_getElem
  · simp
  · intro j h1 h2
    simp only [List.getElem_set, List.getElem_map, List.getElem_range]
    by_cases h : i = j
    · subst h
      rw [if_pos rfl, if_pos ⟨by omega, Or.inr ⟨e, by omega⟩⟩]
      unfold codeN
      rw [e, Int.toNat_natCast]
    · rw [if_neg h]
      by_cases c : 0 < rd l (j : Int) ∧ (rd l (j : Int) < (n : Int) ∨ (rd l (j : Int) = (n : Int) ∧ j < i))
      · rw [if_pos c, if_pos (by omega)]
      · rw [if_neg c, if_neg (by omega)]
theorem outS_same (l : List Int) (n i : Nat) (e : ¬ rd l (i : Int) = (n : Int)) : outS l n (i + 1) = outS l n i := by
  unfold outS
  apply List.map_congr_left
  intro j _
  by_cases h : i = j
  · subst h
    by_cases c : 0 < rd l (i : Int) ∧ rd l (i : Int) < (n : Int)
    · rw [if_pos ⟨c.1, Or.inl c.2⟩, if_pos ⟨c.1, Or.inl c.2⟩]
    · rw [if_neg (by omega), if_neg (by omega)]
  · by_cases c : 0 < rd l (j : Int) ∧ (rd l (j : Int) < (n : Int) ∨ (rd l (j : Int) = (n : Int) ∧ j < i))
    · rw [if_pos c, if_pos (by omega)]
    · rw [if_neg c, if_neg (by omega)]
theorem outS_next (l : List Int) (n : Nat) : outS l n l.length = outS l (n + 1) 0 := by
  unfold outS
  apply List.map_congr_left
  intro j hj
  have := List.mem_range.1 hj
  by_cases c : 0 < rd l (j : Int) ∧ rd l (j : Int) < ((n + 1 : Nat) : Int)
  · rw [if_pos (by omega), if_pos ⟨c.1, Or.inl c.2⟩]
  · rw [if_neg (by omega), if_neg (by omega)]
theorem outS_start (l : List Int) : outS l 1 0 = List.replicate l.length 0 := by
  unfold outS
  apply List.ext_getElem
  · simp
  · intro j h1 h2
    simp only [List.getElem_map, List.getElem_range, List.getElem_replicate]
    rw [if_neg (by omega)]
theorem outS_end (l : List Int) (h : okL l = true) : outS l 16 0 = codesI l l.length := by
  unfold outS codesI
  apply List.map_congr_left
  intro j hj
  have hj := List.mem_range.1 hj
  have hm := okL_mem h _ (rd_mem l j hj)
  by_cases c : 0 < rd l (j : Int)
  · rw [if_pos ⟨c, Or.inl (by omega)⟩, if_pos c]
  · rw [if_neg (fun h => c h.1), if_neg c]
theorem codes_inner (l : List Int) (hl : l.length ≤ 288) (n : Nat) (hn : 0 < n) (hn2 : n ≤ 15) (R : List Int × Bool) (hR : Ev (fun k => spec_CodesOf.l0 k l (outS l n l.length) ((firstN l n + cntN l n : Nat) : Int) ((n + 1 : Nat) : Int)) R) (d : Nat) : ∀ i : Nat, i + d = l.length →
    Ev (fun k => spec_CodesOf.l1 k l (outS l n i) ((firstN l n + rankN l n i : Nat) : Int) (n : Int) (i : Int)) R := by
  induction d with
  | zero =>
    intro i h
    obtain rfl : i = l.length := by omega
    rw [rankN_all, ← cntN_pos l n hn]
    refine Ev.step (fun k => ?_) hR
    rw [spec_CodesOf.l1, if_neg (by omega), w64_id (x := (n : Int) + 1) (by omega) (by omega)]
    rfl
  | succ d ih =>
    intro i h
    have g := ih (i + 1) (by omega)
    have hb := firstB l (by omega) n hn2
    have hr := rank_le l n i
    by_cases c : rd l (i : Int) = (n : Int)
    · rw [← outS_set l n i hn (by omega) c, rankN, if_pos c] at g
      refine Ev.step (fun k => ?_) g
      rw [spec_CodesOf.l1, if_pos (by omega), if_pos (by omega), if_pos c, if_pos (by rw [outS_len]; omega), Int.toNat_natCast, w64_id (x := ((firstN l n + rankN l n i : Nat) : Int) + 1) (by omega) (by omega), w64_id (x := (i : Int) + 1) (by omega) (by omega)]
      have e1 : ((firstN l n + rankN l n i : Nat) : Int) + 1 = ((firstN l n + (rankN l n i + 1) : Nat) : Int) := by omega
      rw [e1]
      rfl
    · rw [outS_same l n i c, rankN, if_neg c] at g
      refine Ev.step (fun k => ?_) g
      rw [spec_CodesOf.l1, if_pos (by omega), if_pos (by omega), if_neg c, w64_id (x := (i : Int) + 1) (by omega) (by omega)]
      rfl
theorem codes_outer (l : List Int) (hl : l.length ≤ 288) (ho : okL l = true) (d : Nat) : ∀ m : Nat, m + d = 15 →
    Ev (fun k => spec_CodesOf.l0 k l (outS l (m + 1) 0) ((firstN l m + cntN l m : Nat) : Int) ((m + 1 : Nat) : Int)) (codesI l l.length, true) := by
  induction d with
  | zero =>
    intro m h
    obtain rfl : m = 15 := by omega
    refine ev_ret (fun k => ?_)
    rw [spec_CodesOf.l0, if_neg (by omega), outS_end l ho]
  | succ d ih =>
    intro m h
    have g := ih (m + 1) (by omega)
    rw [← outS_next] at g
    have g2 := codes_inner l hl (m + 1) (by omega) (by omega) _ g l.length 0 (by omega)
    have hb := firstB l (by omega) m (by omega)
    have hc := cnt_le l m
    rw [rankN, Nat.add_zero, firstN] at g2
    refine Ev.step (fun k => ?_) g2
    rw [spec_CodesOf.l0, if_pos (by omega), w64_id (x := 2 * ((firstN l m + cntN l m : Nat) : Int)) (by omega) (by omega)]
    rfl
theorem codes_spec (l : List Int) : Ev (fun k => spec_CodesOf.f k l) (codesR l) := by
  have g := kind_spec l
  have hj : ∀ x : Bool, x = !hasC l → Ev (fun k => spec_CodesOf.j0 k l x) (codesR l) := by
    intro x hx
    unfold codesR
    by_cases h : hasC l = true
    · rw [if_pos h]
      obtain ⟨h1, h2, h3⟩ := hasC_ok h
      have e := codes_outer l h2 h1 15 0 (by omega)
      rw [show firstN l 0 + cntN l 0 = 0 by rfl, outS_start] at e
      have hx2 : x = false := by rw [hx, h]; rfl
      rw [hx2]
      refine Ev.step (fun k => ?_) e
      rw [spec_CodesOf.j0, if_neg (by decide), if_pos (by omega), Int.toNat_natCast, if_pos (by omega)]
      rfl
    · rw [if_neg h]
      have hx2 : x = true := by rw [hx]; simpa using h
      rw [hx2]
      exact ev_ret (fun k => by rw [spec_CodesOf.j0, if_pos rfl])
  by_cases h0 : kindL l = 0
  · have e := hj true (by unfold hasC; rw [h0]; rfl)
    refine ev_use g (fun k hk => ?_) e
    unfold spec_CodesOf.f
    have hk : spec_CodeKind.f k l = _ := hk
    rw [hk, Option.bind_some, if_pos h0]
  · have e := hj (kindL l == 5) (by
      unfold hasC
      have : (kindL l != 0) = true := by simpa using h0
      rw [this, Bool.true_and]
      cases h5 : (kindL l == 5) <;> simp [bne, h5])
    refine ev_use g (fun k hk => ?_) e
    unfold spec_CodesOf.f
    have hk : spec_CodeKind.f k l = _ := hk
    rw [hk, Option.bind_some, if_neg h0]
theorem codes_impl (l : List Int) (hl : l.length ≤ 1048576) : impl_CodesOf.f l = some (codesR l) := by
  unfold impl_CodesOf.f codesR
  rw [hasC_impl l hl, Option.bind_some]
  unfold codesF
  by_cases h : hasC l = true
  · obtain ⟨h1, h2, h3⟩ := hasC_ok h
    rw [if_pos h, if_pos h, if_pos ⟨by omega, okL_mem h1⟩]
  · rw [if_neg h, if_neg h]
/-- A code fits in its bits. -/
theorem code_fits (l : List Int) (h : hasC l = true) (i : Nat) (hi : i < l.length) (h0 : 0 < rd l (i : Int)) : ∃ n : Nat, rd l (i : Int) = (n : Int) ∧ 0 < n ∧ n ≤ 15 ∧ codeN l i < 2 ^ n := by
  obtain ⟨ho, hl, hf⟩ := hasC_ok h
  have hm := okL_mem ho _ (rd_mem l i hi)
  obtain ⟨n, hn⟩ : ∃ n : Nat, rd l (i : Int) = (n : Int) := ⟨(rd l (i : Int)).toNat, by omega⟩
  have h1 := code_lt l i n hi (by omega) hn
  have h2 := first_fits l (by rw [fullS_is l (okL_mem ho)]; exact hf) n (by omega)
  exact ⟨n, hn, by omega, by omega, by omega⟩

open Go.Proofs.Ytimomemkbcidnaa.MAll Go.Proofs.Ytimomemkbcidnaa.MTokens Go.Proofs.Ytimomemkbcidnaa.MHeadI
abbrev Tok := S107
abbrev PT := S141
theorem ev_of_mono {α : Type} {f : Nat → Option α} {K : Nat} {r : α} (m : ∀ k, LeO (f k) (f (k + 1))) (h : f K = some r) : Ev f r := by
  refine ⟨K, fun n hn => ?_⟩
  obtain ⟨d, rfl⟩ : ∃ d, n = K + d := ⟨n - K, by omega⟩
  clear hn
  induction d with
  | zero => exact h
  | succ d ih => exact m (K + d) r ih
abbrev fx1 : List Int := MSlices.fixed1
abbrev fx2 : List Int := MSlices.fixed2
theorem fixed_400 : spec_FixedLengths.f 1000 = some (MSlices.fixed1, MSlices.fixed2) := by decide +kernel
theorem fixed_spec : Ev (fun k => spec_FixedLengths.f k) (fx1, fx2) := ev_of_mono (K := 1000) (fun k => spec_FixedLengths.mono k) fixed_400
theorem fx1_len : fx1.length = 288 := by decide +kernel
theorem fx2_len : fx2.length = 32 := by decide +kernel
theorem fx1_has : hasC fx1 = true := by decide +kernel
theorem fx2_has : hasC fx2 = true := by decide +kernel
theorem fx1_rd : ∀ y : Nat, y < 288 → 7 ≤ rd fx1 (y : Int) ∧ rd fx1 (y : Int) ≤ 9 := by decide +kernel
theorem fx2_rd : ∀ y : Nat, y < 32 → rd fx2 (y : Int) = 5 := by decide +kernel
theorem muls : bits_Mul.f 1 144 = some (0, 144) ∧ bits_Mul.f 1 112 = some (0, 112) ∧ bits_Mul.f 1 24 = some (0, 24) ∧ bits_Mul.f 1 8 = some (0, 8) ∧ bits_Mul.f 1 32 = some (0, 32) := by decide +kernel
abbrev cd1 : List Int := codesI fx1 fx1.length
abbrev cd2 : List Int := codesI fx2 fx2.length
theorem cd1_at (y : Nat) (h : y < 288) : 0 ≤ rd cd1 (y : Int) ∧ rd cd1 (y : Int) ≤ 512 := by
  have hr := fx1_rd y h
  obtain ⟨n, hn, n0, n1, hf⟩ := code_fits fx1 fx1_has y (by rw [fx1_len]; exact h) (by omega)
  have e := codesI_rd fx1 y (by rw [fx1_len]; exact h) (by omega)
  have hp : 2 ^ n ≤ 2 ^ 9 := Nat.pow_le_pow_right (by omega) (by omega)
  show 0 ≤ rd (codesI fx1 fx1.length) (y : Int) ∧ rd (codesI fx1 fx1.length) (y : Int) ≤ 512
  rw [e]
  omega
theorem cd2_at (y : Nat) (h : y < 32) : 0 ≤ rd cd2 (y : Int) ∧ rd cd2 (y : Int) ≤ 512 := by
  have hr := fx2_rd y h
  obtain ⟨n, hn, n0, n1, hf⟩ := code_fits fx2 fx2_has y (by rw [fx2_len]; exact h) (by omega)
  have e := codesI_rd fx2 y (by rw [fx2_len]; exact h) (by omega)
  have hp : 2 ^ n ≤ 2 ^ 9 := Nat.pow_le_pow_right (by omega) (by omega)
  show 0 ≤ rd (codesI fx2 fx2.length) (y : Int) ∧ rd (codesI fx2 fx2.length) (y : Int) ≤ 512
  rw [e]
  omega
theorem cd1_len : cd1.length = 288 := by show (codesI fx1 fx1.length).length = 288; rw [codesI_len, fx1_len]
theorem cd2_len : cd2.length = 32 := by show (codesI fx2 fx2.length).length = 32; rw [codesI_len, fx2_len]
theorem codes_fx1 : codesR fx1 = (cd1, true) := by unfold codesR; rw [if_pos fx1_has]
theorem codes_fx2 : codesR fx2 = (cd2, true) := by unfold codesR; rw [if_pos fx2_has]
/-- What both packages' LengthCode and DistCode tell. -/
structure LcOk (n : Int) (r : Int × Int × Int) : Prop where
  s : Ev (fun k => spec_LengthCode.f k n) r
  i : Ev (fun k => impl_LengthCode.f k n) r
  a : ∃ t : Nat, r.1 = (t : Int) ∧ t < 288
  b : 0 ≤ r.2.1 ∧ r.2.1 ≤ 13
  c : 0 ≤ r.2.2 ∧ r.2.2 ≤ 40000
structure DcOk (n : Int) (r : Int × Int × Int) : Prop where
  s : Ev (fun k => spec_DistCode.f k n) r
  i : Ev (fun k => impl_DistCode.f k n) r
  a : ∃ t : Nat, r.1 = (t : Int) ∧ t < 32
  b : 0 ≤ r.2.1 ∧ r.2.1 ≤ 13
  c : 0 ≤ r.2.2 ∧ r.2.2 ≤ 40000
theorem lc_all : ∃ lc : Int → Int × Int × Int, ∀ n, 3 ≤ n → n ≤ 258 → LcOk n (lc n) := by
  have : ∀ n : Int, ∃ r : Int × Int × Int, 3 ≤ n → n ≤ 258 → LcOk n r := by
    intro n
    by_cases h : 3 ≤ n ∧ n ≤ 258
    · obtain ⟨t, t0, t1, hle, _, e1, e2⟩ := len_both n h.1 h.2
      have hb := len_bits t t0 t1
      obtain ⟨_, _, m0, m1⟩ := len_at t t0 t1
      have w : wrap64 (n - lM t) = n - lM t := w64_id (by omega) (by omega)
      rw [w] at e1 e2
      exact ⟨_, fun _ _ => ⟨e1, e2, ⟨t, rfl, by omega⟩, ⟨hb.1, by have := hb.2; show lB t ≤ 13; omega⟩, ⟨by show 0 ≤ n - lM t; omega, by show n - lM t ≤ 40000; omega⟩⟩⟩
    · exact ⟨(0, 0, 0), fun a b => absurd ⟨a, b⟩ h⟩
  exact Classical.skolem.1 this
theorem dc_all : ∃ dc : Int → Int × Int × Int, ∀ n, 1 ≤ n → n ≤ 32768 → DcOk n (dc n) := by
  have : ∀ n : Int, ∃ r : Int × Int × Int, 1 ≤ n → n ≤ 32768 → DcOk n r := by
    intro n
    by_cases h : 1 ≤ n ∧ n ≤ 32768
    · obtain ⟨t, t1, hle, _, e1, e2⟩ := dist_both n h.1 h.2
      have hb := dist_bits t t1
      obtain ⟨_, _, m0, m1⟩ := dist_at t t1
      have w : wrap64 (n - dM t) = n - dM t := w64_id (by omega) (by omega)
      rw [w] at e1 e2
      exact ⟨_, fun _ _ => ⟨e1, e2, ⟨t, rfl, by omega⟩, ⟨hb.1, hb.2⟩, ⟨by show 0 ≤ n - dM t; omega, by show n - dM t ≤ 40000; omega⟩⟩⟩
    · exact ⟨(0, 0, 0), fun a b => absurd ⟨a, b⟩ h⟩
  exact Classical.skolem.1 this
/-- The bits of a piece. -/
def pbits (p : PT) : List Int := if p.f2 = true then highs p.f0 p.f1.toNat p.f1.toNat else lows p.f0 p.f1.toNat
theorem pbits_len (p : PT) : (pbits p).length = p.f1.toNat := by
  unfold pbits
  split
  · exact highs_len _ _ _
  · exact lows_len _ _
def runP : List PT → List Int → Nat → List Int × Nat
  | [], xs, c => (xs, c)
  | p :: ps, xs, c => runP ps (MWriter.putAll (pbits p) xs c) (c + p.f1.toNat)
theorem runP_app : ∀ (a b : List PT) (xs : List Int) (c : Nat), runP (a ++ b) xs c = runP b (runP a xs c).1 (runP a xs c).2
  | [], b, xs, c => rfl
  | p :: a, b, xs, c => by rw [List.cons_append, runP, runP_app a b, runP]
def PcOk (p : PT) : Prop := 0 ≤ p.f0 ∧ p.f0 ≤ 1000000 ∧ 0 ≤ p.f1 ∧ p.f1 ≤ 24
theorem pbits_rng (p : PT) (h : PcOk p) : ∀ m ∈ pbits p, 0 ≤ m ∧ m < 2 ^ 63 := by
  obtain ⟨h0, h1, h2, h3⟩ := h
  unfold pbits
  split
  · exact highs_rng p.f0 p.f1.toNat p.f1.toNat h0 (by omega)
  · exact lows_rng p.f0 p.f1.toNat h0 (by omega)
theorem run_inv : ∀ (ps : List PT) (xs : List Int) (c : Nat), (∀ p ∈ ps, PcOk p) → Inv xs c → Inv (runP ps xs c).1 (runP ps xs c).2 ∧ c ≤ (runP ps xs c).2
  | [], xs, c, _, h => ⟨h, Nat.le_refl _⟩
  | p :: ps, xs, c, hp, h => by
    have h2 := (put_all (pbits p) xs c h (pbits_rng p (hp p (List.mem_cons_self ..)))).2
    rw [pbits_len] at h2
    obtain ⟨a, b⟩ := run_inv ps _ _ (fun q hq => hp q (List.mem_cons_of_mem _ hq)) h2
    rw [runP]
    exact ⟨a, by omega⟩
theorem bitsF_is (v : Int) (n : Nat) (high : Bool) : ∀ d k, bitsF v n high d k = (List.range d).map fun j => v / 2 ^ (if high = true then n - 1 - (k + j) else k + j) % 2
  | 0, k => rfl
  | d + 1, k => by
    rw [bitsF, bitsF_is v n high d (k + 1), List.range_succ_eq_map, List.map_cons, List.map_map]
    congr 1
    refine List.map_congr_left (fun j _ => ?_)
    simp only [Function.comp]
    rw [show k + 1 + j = k + (j + 1) by omega]
theorem bits_put (p : PT) (xs : List Int) (c : Nat) (h : Inv xs c) (hp : PcOk p) : MPut.addAll (bitsF p.f0 p.f1.toNat p.f2 p.f1.toNat 0) xs c = MWriter.putAll (pbits p) xs c := by
  have e : bitsF p.f0 p.f1.toNat p.f2 p.f1.toNat 0 = (pbits p).map (· % 2) := by
    rw [bitsF_is]
    unfold pbits
    by_cases hh : p.f2 = true
    · rw [if_pos hh]
      unfold highs
      rw [List.map_map]
      refine List.map_congr_left (fun j _ => ?_)
      simp only [Function.comp]
      rw [if_pos hh, Nat.zero_add]
    · rw [if_neg hh]
      unfold lows
      rw [List.map_map]
      refine List.map_congr_left (fun j _ => ?_)
      simp only [Function.comp]
      rw [if_neg hh, Nat.zero_add]
  rw [e]
  exact (put_all (pbits p) xs c h (pbits_rng p hp)).1
def LP (P : List PT) (i : Nat) : Int × Int × Bool := ((rd_T141 P (i : Int)).f0, (rd_T141 P (i : Int)).f1, (rd_T141 P (i : Int)).f2)
theorem all_run (P : List PT) (hP : ∀ p ∈ P, PcOk p) : ∀ (d i : Nat) (xs : List Int) (c : Nat), i + d = P.length → Inv xs c → c ≤ 96000 →
    allF (LP P) d i xs c = some (if (runP (P.drop i) xs c).2 ≤ 96000 then some (runP (P.drop i) xs c) else none)
  | 0, i, xs, c, hi, hI, hc => by
    rw [List.drop_of_length_le (by omega), allF]
    show _ = some (if c ≤ 96000 then some (xs, c) else none)
    rw [if_pos hc]
  | d + 1, i, xs, c, hi, hI, hc => by
    have dr : P.drop i = rd_T141 P (i : Int) :: P.drop (i + 1) := gd_drop P _ i (by omega)
    have hm : rd_T141 P (i : Int) ∈ P := by
      have : rd_T141 P (i : Int) ∈ P.drop i := by rw [dr]; exact List.mem_cons_self ..
      exact List.mem_of_mem_drop this
    have hp := hP _ hm
    obtain ⟨h0, h1, h2, h3⟩ := id hp
    have eL : LP P i = ((rd_T141 P (i : Int)).f0, (rd_T141 P (i : Int)).f1, (rd_T141 P (i : Int)).f2) := rfl
    have hI2 := (put_all (pbits (rd_T141 P (i : Int))) xs c hI (pbits_rng _ hp)).2
    rw [pbits_len] at hI2
    rw [allF, eL]
    dsimp only
    rw [if_pos ⟨h0, by omega, h2, by omega⟩, bits_put _ xs c hI hp, dr, runP]
    have hl := hI2.len
    by_cases hbig : c + (rd_T141 P (i : Int)).f1.toNat ≤ 96000
    · rw [if_neg (by omega)]
      exact all_run P hP d (i + 1) _ _ (by omega) hI2 hbig
    · rw [if_pos (by omega)]
      have := (run_inv (P.drop (i + 1)) _ _ (fun q hq => hP q (List.mem_of_mem_drop hq)) hI2).2
      rw [if_neg (by omega)]
/-- The fixed code's lengths and codes, as far as they are asked for. -/
structure Fx (F1 F2 D1 D2 : List Int) : Prop where
  l1 : F1.length = 288
  l2 : F2.length = 32
  l3 : D1.length = 288
  l4 : D2.length = 32
  r1 : ∀ y : Nat, y < 288 → 7 ≤ rd F1 (y : Int) ∧ rd F1 (y : Int) ≤ 9
  r2 : ∀ y : Nat, y < 32 → rd F2 (y : Int) = 5
  k1 : ∀ y : Nat, y < 288 → 0 ≤ rd D1 (y : Int) ∧ rd D1 (y : Int) ≤ 512
  k2 : ∀ y : Nat, y < 32 → 0 ≤ rd D2 (y : Int) ∧ rd D2 (y : Int) ≤ 512
theorem fx_ok : Fx fx1 fx2 cd1 cd2 := ⟨fx1_len, fx2_len, cd1_len, cd2_len, fx1_rd, fx2_rd, cd1_at, cd2_at⟩
section
variable (F1 F2 D1 D2 : List Int) (lc dc : Int → Int × Int × Int)
/-- The pieces of a token. -/
def ptok (t : Tok) : List PT := if t.f1 = 0 then [⟨rd D1 t.f0, rd F1 t.f0, true⟩] else [⟨rd D1 (lc t.f1).1, rd F1 (lc t.f1).1, true⟩, ⟨(lc t.f1).2.2, (lc t.f1).2.1, false⟩, ⟨rd D2 (dc t.f2).1, rd F2 (dc t.f2).1, true⟩, ⟨(dc t.f2).2.2, (dc t.f2).2.1, false⟩]
def ptoks : List Tok → List PT
  | [] => [⟨rd D1 256, rd F1 256, true⟩]
  | t :: l => ptok F1 F2 D1 D2 lc dc t ++ ptoks l
end
theorem tok_cases (t : Tok) (h : okT t = true) : (t.f1 = 0 ∧ ∃ y : Nat, t.f0 = (y : Int) ∧ y < 256) ∨ (t.f1 ≠ 0 ∧ 3 ≤ t.f1 ∧ t.f1 ≤ 258 ∧ 1 ≤ t.f2 ∧ t.f2 ≤ 32768) := by
  unfold okT tokB at h
  by_cases hb : t.f1 = 0
  · rw [if_pos hb] at h
    have h := of_decide_eq_true h
    exact Or.inl ⟨hb, t.f0.toNat, by omega, by omega⟩
  · rw [if_neg hb] at h
    have h := of_decide_eq_true h
    exact Or.inr ⟨hb, h.2.1, h.2.2.1, h.2.2.2.1, h.2.2.2.2⟩
section
variable (F1 F2 D1 D2 : List Int) (X : Fx F1 F2 D1 D2) (lc dc : Int → Int × Int × Int) (hlc : ∀ n, 3 ≤ n → n ≤ 258 → LcOk n (lc n)) (hdc : ∀ n, 1 ≤ n → n ≤ 32768 → DcOk n (dc n))
include X hlc hdc
theorem ptok_ok (t : Tok) (h : okT t = true) : ∀ p ∈ ptok F1 F2 D1 D2 lc dc t, PcOk p := by
  intro p hp
  unfold ptok at hp
  rcases tok_cases t h with ⟨hz, y, hy, hy2⟩ | ⟨hz, l0, l1, d0, d1⟩
  · rw [if_pos hz, List.mem_singleton] at hp
    have a := X.k1 y (by omega)
    have b := X.r1 y (by omega)
    rw [hp, hy]
    exact ⟨a.1, by have := a.2; show rd D1 (y : Int) ≤ 1000000; omega, by show 0 ≤ rd F1 (y : Int); omega, by show rd F1 (y : Int) ≤ 24; omega⟩
  · rw [if_neg hz] at hp
    obtain ⟨_, _, ⟨a, ha, ha2⟩, hb, hc⟩ := hlc t.f1 l0 l1
    obtain ⟨_, _, ⟨e, he, he2⟩, hf, hg⟩ := hdc t.f2 d0 d1
    have g1 := X.k1 a ha2
    have g2 := X.r1 a ha2
    have g3 := X.k2 e he2
    have g4 := X.r2 e he2
    rw [ha, he] at hp
    simp only [List.mem_cons, List.not_mem_nil, or_false] at hp
    rcases hp with h | h | h | h
    · rw [h]
      exact ⟨g1.1, by have := g1.2; show rd D1 (a : Int) ≤ 1000000; omega, by show 0 ≤ rd F1 (a : Int); omega, by show rd F1 (a : Int) ≤ 24; omega⟩
    · rw [h]
      exact ⟨hc.1, by have := hc.2; show (lc t.f1).2.2 ≤ 1000000; omega, hb.1, by have := hb.2; show (lc t.f1).2.1 ≤ 24; omega⟩
    · rw [h]
      exact ⟨g3.1, by have := g3.2; show rd D2 (e : Int) ≤ 1000000; omega, by show 0 ≤ rd F2 (e : Int); omega, by show rd F2 (e : Int) ≤ 24; omega⟩
    · rw [h]
      exact ⟨hg.1, by have := hg.2; show (dc t.f2).2.2 ≤ 1000000; omega, hf.1, by have := hf.2; show (dc t.f2).2.1 ≤ 24; omega⟩
theorem ptoks_ok : ∀ l : List Tok, l.all okT = true → ∀ p ∈ ptoks F1 F2 D1 D2 lc dc l, PcOk p
  | [], _, p, hp => by
    rw [ptoks, List.mem_singleton] at hp
    have a := X.k1 256 (by omega)
    have b := X.r1 256 (by omega)
    rw [hp]
    exact ⟨a.1, by have := a.2; show rd D1 256 ≤ 1000000; exact Int.le_trans this (by decide), by show 0 ≤ rd F1 256; exact Int.le_trans (by decide) b.1, by show rd F1 256 ≤ 24; exact Int.le_trans b.2 (by decide)⟩
  | t :: l, h, p, hp => by
    rw [List.all_cons, Bool.and_eq_true] at h
    rw [ptoks] at hp
    rcases List.mem_append.1 hp with hp | hp
    · exact ptok_ok F1 F2 D1 D2 X lc dc hlc hdc t h.1 p hp
    · exact ptoks_ok l h.2 p hp
theorem ptoks_len : ∀ l : List Tok, (ptoks F1 F2 D1 D2 lc dc l).length ≤ 4 * l.length + 1
  | [] => by simp [ptoks]
  | t :: l => by
    have _x := X.l1
    have _h := hlc
    have _d := hdc
    have := ptoks_len l
    rw [ptoks, List.length_append, List.length_cons]
    have : (ptok F1 F2 D1 D2 lc dc t).length ≤ 4 := by
      unfold ptok
      split <;> simp
    omega
/-- The reference's pieces. -/
theorem body_loop (l : List Tok) (hl : l.length ≤ 12000) (ha : l.all okT = true) (d : Nat) : ∀ (i : Nat) (o : List PT), i + d = l.length → o.length ≤ 4 * i → Ev (fun k => spec_l09Body.l0 k l F1 F2 D1 D2 o (i : Int)) (o ++ ptoks F1 F2 D1 D2 lc dc (l.drop i)) := by
  have L1 := X.l1
  have L2 := X.l2
  have L3 := X.l3
  have L4 := X.l4
  induction d with
  | zero =>
    intro i o hi ho
    refine ev_ret (fun k => ?_)
    rw [spec_l09Body.l0, if_neg (by omega), if_pos (by omega), if_pos (by omega), if_pos (by omega), List.drop_of_length_le (by omega)]
    rfl
  | succ d ih =>
    intro i o hi ho
    have dr : l.drop i = rd_T107 l (i : Int) :: l.drop (i + 1) := gd_drop l _ i (by omega)
    have hok : okT (rd_T107 l (i : Int)) = true := by
      have : rd_T107 l (i : Int) ∈ l.drop i := by rw [dr]; exact List.mem_cons_self ..
      exact List.all_eq_true.1 ha _ (List.mem_of_mem_drop this)
    have hw : wrap64 ((i : Int) + 1) = ((i + 1 : Nat) : Int) := by rw [w64_id (by omega) (by omega)]; omega
    rw [dr, ptoks]
    generalize rd_T107 l (i : Int) = t at hok dr ⊢
    have et : rd_T107 l (i : Int) = t := by
      have h2 : l.drop i = rd_T107 l (i : Int) :: l.drop (i + 1) := gd_drop l _ i (by omega)
      rw [dr] at h2
      injection h2 with h2 _
      exact h2.symm
    rcases tok_cases t hok with ⟨hz, y, hy, hy2⟩ | ⟨hz, l0, l1, d0, d1⟩
    · have g := ih (i + 1) (o ++ ptok F1 F2 D1 D2 lc dc t) (by omega) (by
        have hp1 : (ptok F1 F2 D1 D2 lc dc t).length = 1 := by unfold ptok; rw [if_pos hz]; rfl
        rw [List.length_append]
        omega)
      rw [List.append_assoc] at g
      refine Ev.step (fun k => ?_) g
      have e : ptok F1 F2 D1 D2 lc dc t = [⟨rd D1 t.f0, rd F1 t.f0, true⟩] := by unfold ptok; rw [if_pos hz]
      rw [spec_l09Body.l0, if_pos (by omega), if_pos (by omega), et, if_pos hz, if_pos (by omega), if_pos (by omega), if_pos (by omega), if_pos (by omega), hw, e]
    · obtain ⟨sl, _, ⟨a, ha1, ha2⟩, hb, hc⟩ := hlc t.f1 l0 l1
      obtain ⟨sd, _, ⟨e, he1, he2⟩, hf, hg⟩ := hdc t.f2 d0 d1
      have eP : ptok F1 F2 D1 D2 lc dc t = [⟨rd D1 (lc t.f1).1, rd F1 (lc t.f1).1, true⟩, ⟨(lc t.f1).2.2, (lc t.f1).2.1, false⟩, ⟨rd D2 (dc t.f2).1, rd F2 (dc t.f2).1, true⟩, ⟨(dc t.f2).2.2, (dc t.f2).2.1, false⟩] := by unfold ptok; rw [if_neg hz]
      have lP : (ptok F1 F2 D1 D2 lc dc t).length = 4 := by rw [eP]; rfl
      have g := ih (i + 1) (o ++ ptok F1 F2 D1 D2 lc dc t) (by omega) (by rw [List.length_append]; omega)
      rw [List.append_assoc] at g
      refine ev_use_step (ev_pair sl sd) (fun k hk => ?_) g
      obtain ⟨k1, k2⟩ := pair_some hk
      rw [spec_l09Body.l0, if_pos (by omega), if_pos (by omega), et, if_neg hz, k1, Option.bind_some, k2, Option.bind_some, if_pos (by omega), if_pos (by omega), if_pos (by omega), if_pos (by omega), if_pos (by omega), if_pos (by omega), Option.bind_some, ← eP, if_pos (by omega), hw]
end
def LT (l : List Tok) (i : Nat) : Int × Int × Int := ((rd_T107 l (i : Int)).f0, (rd_T107 l (i : Int)).f1, (rd_T107 l (i : Int)).f2)
theorem symF_is (cs l : List Int) (y : Nat) (xs : List Int) (c : Nat) (h1 : y < cs.length) (h2 : y < l.length) (h3 : 0 ≤ rd l (y : Int)) (h4 : rd l (y : Int) ≤ 24) (hc : c ≤ 800000) : symF cs l (y : Int) xs c = some (MWriter.putAll (pbits ⟨rd cs (y : Int), rd l (y : Int), true⟩) xs c, c + (rd l (y : Int)).toNat) := by
  unfold symF pbits
  rw [if_pos ⟨by omega, by omega, by omega, h3, by omega, hc⟩, if_pos rfl]
theorem bitF_is (v n : Int) (xs : List Int) (c : Nat) (h3 : 0 ≤ n) (h4 : n ≤ 24) (hc : c ≤ 800000) : bitF v n xs c = some (MWriter.putAll (pbits ⟨v, n, false⟩) xs c, c + n.toNat) := by
  unfold bitF pbits
  rw [if_pos ⟨h3, by omega, hc⟩, if_neg (show ¬ (false = true) by decide)]
section
variable (F1 F2 D1 D2 : List Int) (X : Fx F1 F2 D1 D2) (lc dc : Int → Int × Int × Int) (hlc : ∀ n, 3 ≤ n → n ≤ 258 → LcOk n (lc n)) (hdc : ∀ n, 1 ≤ n → n ≤ 32768 → DcOk n (dc n))
include X hlc hdc
theorem tok_run (lcf dcf : Int → Option (Int × Int × Int)) (l : List Tok) (hl : l.length ≤ 12000) (ha : l.all okT = true) (hh : ∀ t ∈ l, t.f1 ≠ 0 → lcf t.f1 = some (lc t.f1) ∧ dcf t.f2 = some (dc t.f2)) : ∀ (d i : Nat) (xs : List Int) (c : Nat), i + d = l.length → c ≤ 100000 + 40 * i →
    tokXs lcf dcf D1 F1 D2 F2 (LT l) d i xs c = some (runP (ptoks F1 F2 D1 D2 lc dc (l.drop i)) xs c)
  | 0, i, xs, c, hi, hc => by
    have L1 := X.l1
    have L3 := X.l3
    have b := X.r1 256 (by omega)
    rw [tokXs, List.drop_of_length_le (by omega), ptoks, runP, runP]
    exact symF_is D1 F1 256 xs c (by omega) (by omega) (Int.le_trans (by decide) b.1) (Int.le_trans b.2 (by decide)) (by omega)
  | d + 1, i, xs, c, hi, hc => by
    have L1 := X.l1
    have L2 := X.l2
    have L3 := X.l3
    have L4 := X.l4
    have dr : l.drop i = rd_T107 l (i : Int) :: l.drop (i + 1) := gd_drop l _ i (by omega)
    have hm : rd_T107 l (i : Int) ∈ l := by
      have : rd_T107 l (i : Int) ∈ l.drop i := by rw [dr]; exact List.mem_cons_self ..
      exact List.mem_of_mem_drop this
    have hok := List.all_eq_true.1 ha _ hm
    have hht := hh _ hm
    have eL : LT l i = ((rd_T107 l (i : Int)).f0, (rd_T107 l (i : Int)).f1, (rd_T107 l (i : Int)).f2) := rfl
    rw [tokXs, eL, dr, ptoks, runP_app]
    dsimp only
    generalize rd_T107 l (i : Int) = t at hok hht ⊢
    rcases tok_cases t hok with ⟨hz, y, hy, hy2⟩ | ⟨hz, l0, l1, d0, d1⟩
    · have b := X.r1 y (by omega)
      have e : ptok F1 F2 D1 D2 lc dc t = [⟨rd D1 t.f0, rd F1 t.f0, true⟩] := by unfold ptok; rw [if_pos hz]
      rw [if_pos hz, e, hy, symF_is D1 F1 y xs c (by omega) (by omega) (by omega) (by omega) (by omega), Option.bind_some]
      exact tok_run lcf dcf l hl ha hh d (i + 1) _ _ (by omega) (by dsimp only; omega)
    · obtain ⟨h1, h2⟩ := hht hz
      obtain ⟨_, _, ⟨a, ha1, ha2⟩, hb, hcc⟩ := hlc t.f1 l0 l1
      obtain ⟨_, _, ⟨e, he1, he2⟩, hf, hg⟩ := hdc t.f2 d0 d1
      have g2 := X.r1 a ha2
      have g4 := X.r2 e he2
      have eP : ptok F1 F2 D1 D2 lc dc t = [⟨rd D1 (lc t.f1).1, rd F1 (lc t.f1).1, true⟩, ⟨(lc t.f1).2.2, (lc t.f1).2.1, false⟩, ⟨rd D2 (dc t.f2).1, rd F2 (dc t.f2).1, true⟩, ⟨(dc t.f2).2.2, (dc t.f2).2.1, false⟩] := by unfold ptok; rw [if_neg hz]
      rw [if_neg hz, eP, h1, Option.bind_some, ha1, symF_is D1 F1 a xs c (by omega) (by omega) (by omega) (by omega) (by omega), Option.bind_some]
      dsimp only
      rw [bitF_is _ _ _ _ hb.1 (by omega) (by omega), Option.bind_some, h2, Option.bind_some, he1]
      dsimp only
      rw [symF_is D2 F2 e _ _ (by omega) (by omega) (by omega) (by omega) (by omega), Option.bind_some]
      dsimp only
      rw [bitF_is _ _ _ _ hf.1 (by omega) (by omega), Option.bind_some]
      exact tok_run lcf dcf l hl ha hh d (i + 1) _ _ (by omega) (by dsimp only; omega)
theorem code_rounds : ∀ l : List Tok, l.all okT = true → ∃ K, ∀ k, K ≤ k → ∀ t ∈ l, t.f1 ≠ 0 → impl_LengthCode.f k t.f1 = some (lc t.f1) ∧ impl_DistCode.f k t.f2 = some (dc t.f2)
  | [], _ => ⟨0, fun k _ t ht => by cases ht⟩
  | t :: l, h => by
    have _x := X.l1
    rw [List.all_cons, Bool.and_eq_true] at h
    obtain ⟨K, hK⟩ := code_rounds l h.2
    rcases tok_cases t h.1 with ⟨hz, _⟩ | ⟨hz, l0, l1, d0, d1⟩
    · refine ⟨K, fun k hk u hu hn => ?_⟩
      rcases List.mem_cons.1 hu with rfl | hu
      · exact absurd hz hn
      · exact hK k hk u hu hn
    · obtain ⟨K1, e1⟩ := (hlc t.f1 l0 l1).i
      obtain ⟨K2, e2⟩ := (hdc t.f2 d0 d1).i
      refine ⟨K + K1 + K2, fun k hk u hu hn => ?_⟩
      rcases List.mem_cons.1 hu with rfl | hu
      · exact ⟨e1 k (by omega), e2 k (by omega)⟩
      · exact hK k (by omega) u hu hn
end
theorem spec_tokens_loop (l : List Tok) (hl : l.length ≤ 12000) (d : Nat) : ∀ j : Nat, j + d = l.length → Ev (fun k => spec_l09TokensOk.l0 k l (j : Int)) ((l.drop j).all okT) := by
  induction d with
  | zero =>
    intro j h
    refine ev_ret (fun k => ?_)
    rw [spec_l09TokensOk.l0, if_neg (by omega), List.drop_of_length_le (by omega)]
    rfl
  | succ d ih =>
    intro j h
    have dr : l.drop j = rd_T107 l (j : Int) :: l.drop (j + 1) := gd_drop l _ j (by omega)
    have t : spec_TokenOk.f (rd_T107 l (j : Int)).f0 (rd_T107 l (j : Int)).f1 (rd_T107 l (j : Int)).f2 = some (okT (rd_T107 l (j : Int))) := tok_spec _ _ _
    rw [dr, List.all_cons]
    by_cases c : okT (rd_T107 l (j : Int)) = true
    · rw [c, Bool.true_and]
      refine Ev.step (fun k => ?_) (ih (j + 1) (by omega))
      rw [spec_l09TokensOk.l0, if_pos (by omega), if_pos (by omega), t, Option.bind_some, if_pos c, w64_id (x := (j : Int) + 1) (by omega) (by omega)]
      rfl
    · have c' : okT (rd_T107 l (j : Int)) = false := by simpa using c
      rw [c', Bool.false_and]
      refine ev_ret (fun k => ?_)
      rw [spec_l09TokensOk.l0, if_pos (by omega), if_pos (by omega), t, Option.bind_some, if_neg c]
theorem spec_tokensOk (l : List Tok) : Ev (fun k => spec_l09TokensOk.f k l) (l.all okT && decide ((l.length : Int) ≤ 12000)) := by
  by_cases h : (l.length : Int) ≤ 12000
  · rw [decide_eq_true h, Bool.and_true]
    exact Ev.congr (fun k => by unfold spec_l09TokensOk.f; rw [if_neg (by omega)]; rfl) (spec_tokens_loop l (by omega) l.length 0 (by omega))
  · rw [decide_eq_false h, Bool.and_false]
    exact Ev.congr (fun k => by unfold spec_l09TokensOk.f; rw [if_pos (by omega)]) (Ev.now false)
theorem flag_nat (b : Bool) : ∃ f : Nat, flagI b = (f : Int) ∧ f < 2 ^ 1 ∧ (if b = true then (1 : Int) else 0) = (f : Int) := by
  cases b
  · exact ⟨0, rfl, by decide, rfl⟩
  · exact ⟨1, rfl, by decide, rfl⟩
def gPB (k : Nat) : ByteArray → Int → Int → Int → Option (ByteArray × Int × Bool) := fun s c v n => spec_PutBits.f k s c v n
/-- The head of a block, of a right Out. -/
theorem head_at (s : ByteArray) (C : Nat) (last : Bool) (hI : Inv (bytesOf s) C) (hC : C ≤ 96000) : ∃ q : ByteArray × Int × Bool, Ev (fun k => MHead.l09HeadF (gPB k) s (C : Int) 1 last true) q ∧ (C + 3 ≤ 96000 → q = (strOfNums (headXs last 1 (bytesOf s) C), ((C + 3 : Nat) : Int), false)) ∧ (¬ C + 3 ≤ 96000 → q.2.2 = true) ∧ Inv (headXs last 1 (bytesOf s) C) (C + 3) := by
  obtain ⟨f, hf, hf1, hf2⟩ := flag_nat last
  have eS : strOfNums (bytesOf s) = s := str_back s
  have I1 := put_inv (bytesOf s) C f 1 hI (by omega) hf1
  have E1 := l09put_at (bytesOf s) C f 1 hI hC (by omega) hf1
  rw [eS] at E1
  have I2 := put_inv _ (C + 1) 1 2 I1 (by omega) (by decide)
  have E2 := fun h => l09put_at _ (C + 1) 1 2 I1 h (by omega) (by decide)
  have eH : headXs last 1 (bytesOf s) C = MWriter.putAll (lows ((1 : Nat) : Int) 2) (MWriter.putAll (lows (f : Int) 1) (bytesOf s) C) (C + 1) := by unfold headXs; rw [hf]; rfl
  have hHead : ∀ q, (Ev (fun k => (MHead.l09PutF (gPB k) (s, (C : Int), false) (f : Int) 1).bind fun st => MHead.l09PutF (gPB k) st 1 2) q) → Ev (fun k => MHead.l09HeadF (gPB k) s (C : Int) 1 last true) q := by
    intro q h
    refine Ev.congr (fun k => ?_) h
    unfold MHead.l09HeadF
    rw [hf2]
    rfl
  rw [eH]
  generalize hx1 : MWriter.putAll (lows (f : Int) 1) (bytesOf s) C = x1 at I1 I2 E2
  by_cases a1 : C + 1 ≤ 96000
  · have e1 : nextSt (bytesOf s) C (f : Int) 1 = (strOfNums x1, ((C + 1 : Nat) : Int), false) := by unfold nextSt; rw [if_pos a1, hx1]
    rw [e1] at E1
    have E2 := E2 (by omega)
    by_cases a2 : C + 1 + 2 ≤ 96000
    · have e2 : nextSt x1 (C + 1) ((1 : Nat) : Int) 2 = (strOfNums (MWriter.putAll (lows ((1 : Nat) : Int) 2) x1 (C + 1)), ((C + 1 + 2 : Nat) : Int), false) := by unfold nextSt; rw [if_pos a2]
      rw [e2] at E2
      exact ⟨_, hHead _ (ev_bind E1 E2), fun _ => rfl, fun h => absurd (by omega) h, I2⟩
    · have e2 : nextSt x1 (C + 1) ((1 : Nat) : Int) 2 = (strOfNums x1, ((C + 1 : Nat) : Int), true) := by unfold nextSt; rw [if_neg a2]
      rw [e2] at E2
      exact ⟨_, hHead _ (ev_bind E1 E2), fun h => absurd (by omega) a2, fun _ => rfl, I2⟩
  · have e1 : nextSt (bytesOf s) C (f : Int) 1 = (strOfNums (bytesOf s), (C : Int), true) := by unfold nextSt; rw [if_neg a1]
    rw [e1, eS] at E1
    exact ⟨_, hHead _ (ev_bind E1 (l09put_bad s C _ _)), fun h => absurd (by omega) a1, fun _ => rfl, I2⟩
def failSt : ByteArray × Int × Bool := (⟨#[]⟩, 0, false)
set_option maxRecDepth 100000 in
theorem fixed_both (s : ByteArray) (c : Int) (l : List Tok) (last : Bool) (c0 : -9223372036854775808 ≤ c) (c1 : c ≤ 9223372036854775807) (hs : s.size ≤ 1048576) (hl : l.length ≤ 1048576) :
    ∃ r, Ev (fun k => spec_FixedBlock.f k s c l last) r ∧ Ev (fun k => impl_FixedBlock.f k s c l last) r := by
  have eI := tokensOk_is l hl
  have eS := spec_tokensOk l
  have oS := ok_spec s c c0 c1 hs
  have oI := ok_impl s c c0 c1 hs
  cases hT : (l.all okT && decide ((l.length : Int) ≤ 12000)) with
  | false =>
    rw [hT] at eI eS
    refine ⟨failSt, ev_end eS (fun k hk => ?_), ?_⟩
    · unfold spec_FixedBlock.f
      rw [hk]
      rfl
    · cases hB : okB s c with
      | false =>
        refine Ev.congr (fun k => ?_) (Ev.now failSt)
        unfold impl_FixedBlock.f
        rw [oI, hB]
        rfl
      | true =>
        refine ev_end eI (fun k hk => ?_)
        unfold impl_FixedBlock.f
        rw [oI, hB, Option.bind_some, if_pos rfl, hk]
        rfl
  | true =>
    rw [hT] at eI eS
    rw [Bool.and_eq_true, decide_eq_true_eq] at hT
    obtain ⟨ha, hl2⟩ := hT
    obtain ⟨lc, hlc⟩ := lc_all
    obtain ⟨dc, hdc⟩ := dc_all
    have hbody : Ev (fun k => spec_l09Body.f k l fx1 fx2) (ptoks fx1 fx2 cd1 cd2 lc dc l) := by
      have g := body_loop fx1 fx2 cd1 cd2 fx_ok lc dc hlc hdc l (by omega) ha l.length 0 [] (by omega) (by simp)
      rw [List.nil_append, List.drop_zero] at g
      have s1 := codes_spec fx1
      have s2 := codes_spec fx2
      rw [codes_fx1] at s1
      rw [codes_fx2] at s2
      refine ev_use (ev_pair s1 s2) (fun k hk => ?_) g
      obtain ⟨k1, k2⟩ := pair_some hk
      unfold spec_l09Body.f
      rw [k1, Option.bind_some, k2, Option.bind_some]
      rfl
    have hpl := ptoks_len fx1 fx2 cd1 cd2 fx_ok lc dc hlc hdc l
    have hpo := ptoks_ok fx1 fx2 cd1 cd2 fx_ok lc dc hlc hdc l ha
    cases hB : okB s c with
    | false =>
      rw [hB] at oS oI
      refine ⟨failSt, ?_, ?_⟩
      · refine ev_use eS (fun k hk => by unfold spec_FixedBlock.f; rw [hk, Option.bind_some, if_pos rfl]) (ev_bind oS ?_)
        refine ev_bind (a := (s, c, true)) (Ev.congr (fun k => rfl) (Ev.now (s, c, true))) ?_
        refine ev_bind fixed_spec (ev_bind hbody ?_)
        refine Ev.congr (fun k => ?_) (Ev.now failSt)
        rw [if_pos (by omega)]
        rfl
      · refine Ev.congr (fun k => ?_) (Ev.now failSt)
        unfold impl_FixedBlock.f
        rw [oI]
        rfl
    | true =>
      rw [hB] at oS oI
      obtain ⟨C, rfl, hC, hs2, hs3, hI⟩ := ok_inv s c hB
      obtain ⟨q, hq, hq1, hq2, hIH⟩ := head_at s C last hI hC
      generalize hx : headXs last 1 (bytesOf s) C = x2 at hq1 hIH
      have hrun := run_inv (ptoks fx1 fx2 cd1 cd2 lc dc l) x2 (C + 3) hpo hIH
      generalize hR : runP (ptoks fx1 fx2 cd1 cd2 lc dc l) x2 (C + 3) = R at hrun
      have hRl := hrun.1.len
      have hout : outF R.1 ((R.2 : Nat) : Int) = if R.2 ≤ 96000 then (strOfNums R.1, ((R.2 : Nat) : Int), true) else failSt := by
        unfold outF failSt
        by_cases h : R.2 ≤ 96000
        · rw [if_pos h, if_pos (by omega)]
        · rw [if_neg h, if_neg (by omega)]
      refine ⟨outF R.1 ((R.2 : Nat) : Int), ?_, ?_⟩
      · refine ev_use eS (fun k hk => by unfold spec_FixedBlock.f; rw [hk, Option.bind_some, if_pos rfl]) (ev_bind oS ?_)
        refine ev_bind (a := q) hq (ev_bind fixed_spec (ev_bind hbody ?_))
        refine Ev.congr (fun k => ?_) (Ev.now _)
        rw [if_pos (by omega), hout]
        by_cases h3 : C + 3 ≤ 96000
        · rw [hq1 h3]
          have ea := all_run (ptoks fx1 fx2 cd1 cd2 lc dc l) hpo (ptoks fx1 fx2 cd1 cd2 lc dc l).length 0 x2 (C + 3) (by omega) hIH h3
          rw [List.drop_zero, hR] at ea
          have e2 : l09AllF (LP (ptoks fx1 fx2 cd1 cd2 lc dc l)) (ptoks fx1 fx2 cd1 cd2 lc dc l).length (strOfNums x2, ((C + 3 : Nat) : Int), false) = some (if R.2 ≤ 96000 then (strOfNums R.1, ((R.2 : Nat) : Int), false) else (strOfNums x2, ((C + 3 : Nat) : Int), true)) := by
            have hlen := hIH.len
            unfold l09AllF
            rw [if_neg (show ¬ (false = true) by decide)]
            dsimp only
            rw [if_pos ⟨by omega, by omega, by rw [nums_size]; omega⟩, bytes_back x2 hIH.rng, Int.toNat_natCast, ea, Option.bind_some]
            by_cases h : R.2 ≤ 96000
            · rw [if_pos h, if_pos h]
            · rw [if_neg h, if_neg h]
          show (l09AllF (LP (ptoks fx1 fx2 cd1 cd2 lc dc l)) (ptoks fx1 fx2 cd1 cd2 lc dc l).length (strOfNums x2, ((C + 3 : Nat) : Int), false)).bind _ = _
          rw [e2, Option.bind_some]
          by_cases h : R.2 ≤ 96000
          · rw [if_pos h, if_pos h]
            rfl
          · rw [if_neg h, if_neg h]
            rfl
        · have hb := hq2 h3
          obtain ⟨q11, q12, q13⟩ := q
          have hb : q13 = true := hb
          subst hb
          rw [if_neg (by omega)]
          rfl
      · obtain ⟨K, hK⟩ := code_rounds fx1 fx2 cd1 cd2 fx_ok lc dc hlc hdc l ha
        obtain ⟨K2, eI⟩ := eI
        refine ⟨K + K2, fun k hk => ?_⟩
        have hkk := hK k (by omega)
        have et := tok_run fx1 fx2 cd1 cd2 fx_ok lc dc hlc hdc (fun x => impl_LengthCode.f k x) (fun x => impl_DistCode.f k x) l (by omega) ha hkk l.length 0 x2 (C + 3) (by omega) (by omega)
        rw [List.drop_zero, hR] at et
        have i1 := codes_impl fx1 (by rw [fx1_len]; omega)
        have i2 := codes_impl fx2 (by rw [fx2_len]; omega)
        rw [codes_fx1] at i1
        rw [codes_fx2] at i2
        have eI2 : impl_tokensOk.f k l = some true := eI k (by omega)
        show impl_FixedBlock.f k s (C : Int) l last = _
        unfold impl_FixedBlock.f
        rw [oI, Option.bind_some, if_pos rfl, eI2, Option.bind_some, if_pos rfl, i1, Option.bind_some, i2, Option.bind_some, if_pos ⟨by omega, muls⟩]
        unfold fixedF
        rw [if_pos rfl, if_pos rfl, if_pos ⟨by omega, by omega, by omega⟩, Int.toNat_natCast, hx]
        show (tokXs (fun x => impl_LengthCode.f k x) (fun x => impl_DistCode.f k x) cd1 fx1 cd2 fx2 (LT l) l.length 0 x2 (C + 3)).bind _ = _
        rw [et]
        rfl
theorem FnExactFixedBlock : laws_FnExactFixedBlock.Pure := by
  intro s c l last hs hc hl hw
  have hs' : s.size ≤ 9223372036854775807 := by unfold maxLen at hs; omega
  have hl' : l.length ≤ 9223372036854775807 := by unfold maxLen at hl; omega
  obtain ⟨c0, c1⟩ := wf64 hc
  have w1 : wrap64 (1048576 - (s.size : Int)) = 1048576 - s.size := w64_id (by omega) (by omega)
  by_cases hb : 1048576 - (s.size : Int) < 0
  · refine ⟨0, ?_⟩
    unfold laws_FnExactFixedBlock.f laws_szOut.f
    rw [w1, if_pos hb, Option.bind_some, if_pos (by omega)]
  have hw2 : ∃ m : Int, m = wrap64 ((1048576 - (s.size : Int)) - (l.length : Int)) := ⟨_, rfl⟩
  by_cases hb2 : (1048576 - (s.size : Int)) - (l.length : Int) < 0
  · refine ⟨0, ?_⟩
    unfold laws_FnExactFixedBlock.f laws_szOut.f laws_szTokenS.f
    rw [w1, if_neg hb, Option.bind_some, if_neg hb, w64_id (x := (1048576 - (s.size : Int)) - (l.length : Int)) (by omega) (by omega), if_pos hb2, Option.bind_some, if_pos (by omega)]
  · obtain ⟨r, eS, eI⟩ := fixed_both s c (l.map tokOf) last c0 c1 (by omega) (by rw [List.length_map]; omega)
    obtain ⟨K1, eT⟩ := toTokenS_is l (by omega)
    obtain ⟨K2, eE⟩ := eqTokenS_is (l.map tokOf) (by rw [List.length_map]; omega)
    obtain ⟨K3, eS⟩ := eS
    obtain ⟨K4, eI⟩ := eI
    refine ⟨K1 + K2 + K3 + K4 + 1, ?_⟩
    generalize hk : K1 + K2 + K3 + K4 = K
    have t1 : laws_toTokenS.f (K + 1) l = _ := eT (K + 1) (by omega)
    have t0 : laws_toTokenS.f K l = _ := eT K (by omega)
    have s1 : spec_FixedBlock.f (K + 1) s c (l.map tokOf) last = _ := eS (K + 1) (by omega)
    have i1 : impl_FixedBlock.f (K + 1) s c (l.map tokOf) last = _ := eI (K + 1) (by omega)
    have q0 : laws_eqTokenS.f K _ _ = _ := eE K (by omega)
    have bb : (r.2.2 != r.2.2) = false := by simp
    unfold laws_FnExactFixedBlock.f laws_szOut.f laws_szTokenS.f laws_toOut.f
    rw [w1, if_neg hb, Option.bind_some, if_neg hb, w64_id (x := (1048576 - (s.size : Int)) - (l.length : Int)) (by omega) (by omega), if_neg hb2, Option.bind_some, if_neg hb2, Option.bind_some, t1, Option.bind_some, s1, Option.bind_some, Option.bind_some, Option.bind_some, i1, Option.bind_some]
    unfold laws_eqOut.f
    rw [if_pos rfl, if_pos rfl, Option.bind_some, if_pos rfl, bb, laws_FnExactFixedBlock.j0, if_neg (by decide), t0, Option.bind_some, q0, Option.bind_some, if_pos rfl]

end Go.Proofs.Ytimomemkbcidnaa.Pure
