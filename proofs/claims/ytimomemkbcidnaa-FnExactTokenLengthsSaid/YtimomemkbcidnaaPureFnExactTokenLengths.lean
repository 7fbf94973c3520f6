/- The law FnExactTokenLengths: for every input within the row's bounds the printed function answers true: what the program's function tells is what the law asks. Conditions: only the bounds that the row itself gives (sizes of strings and slices, ranges of the number kinds). -/
import Derived.Test.YtimomemkbcidnaaPFnExactTokenLengthsx11
namespace Go.Proofs.Ytimomemkbcidnaa.Pure
open Go.RowKit Go.Proofs.Ytimomemkbcidnaa.PFnExactTokenLengths Go.Proofs.YtimomemkbcidnaaW.PrintWords Go.Proofs.YtimomemkbcidnaaW.PrintLast Go.Proofs.YtimomemkbcidnaaW.PrintMore
set_option linter.unusedVariables false
set_option linter.unusedSimpArgs false

theorem w64_id {x : Int} (h0 : -9223372036854775808 ≤ x) (h1 : x ≤ 9223372036854775807) : wrap64 x = x := by unfold wrap64; omega
/-- A callee that answers from some number of rounds on, used. -/
theorem ev_use {α β : Type} {g : Nat → Option α} {a : α} {F G : Nat → Option β} {r : β} (e : Ev g a) (h : ∀ k, g k = some a → F k = G k) (c : Ev G r) : Ev F r := by
 obtain ⟨K, e⟩ := e
 obtain ⟨K', c⟩ := c
 exact ⟨max K K', fun n hn => (h n (e n (by omega))).trans (c n (by omega))⟩
theorem ev_use_step {α β : Type} {g : Nat → Option α} {a : α} {F G : Nat → Option β} {r : β} (e : Ev g a) (h : ∀ k, g k = some a → F (k + 1) = G k) (c : Ev G r) : Ev F r := by
 obtain ⟨K, e⟩ := e
 obtain ⟨K', c⟩ := c
 refine ⟨max K K' + 1, fun n hn => ?_⟩
 obtain ⟨m, rfl⟩ : ∃ m, n = m + 1 := ⟨n - 1, by omega⟩
 exact (h m (e m (by omega))).trans (c m (by omega))
theorem ev_end {α β : Type} {g : Nat → Option α} {a : α} {F : Nat → Option β} {r : β} (e : Ev g a) (h : ∀ k, g k = some a → F k = some r) : Ev F r := by
 obtain ⟨K, e⟩ := e
 exact ⟨K, fun n hn => h n (e n hn)⟩
theorem ev_ret {α : Type} {F : Nat → Option α} {r : α} (h : ∀ k, F (k + 1) = some r) : Ev F r := ⟨1, fun n hn => by obtain ⟨m, rfl⟩ : ∃ m, n = m + 1 := ⟨n - 1, by omega⟩; exact h m⟩

theorem gd_at {α : Type} (l : List α) (z : α) (j : Nat) (h : j < l.length) : l.getD (j : Int).toNat z = l[j] := by rw [Int.toNat_natCast, List.getD_eq_getElem?_getD, List.getElem?_eq_getElem h]; rfl
theorem gd_drop {α : Type} (l : List α) (z : α) (j : Nat) (h : j < l.length) : l.drop j = l.getD (j : Int).toNat z :: l.drop (j + 1) := by rw [gd_at l z j h]; exact List.drop_eq_getElem_cons h
theorem g_take_set {α : Type} (l : List α) (j : Nat) (v : α) (h : j < l.length) : (l.set j v).take (j + 1) = l.take j ++ [v] := by
 rw [List.take_succ_eq_append_getElem (by simpa using h)]
 simp [List.take_set_of_le]

theorem in_spec (a b c : Int) : spec_l01In.f a b c = some (decide (b ≤ a ∧ a ≤ c)) := by
 unfold spec_l01In.f
 split
 ·rename_i h
  have e : (decide (a ≤ c)) = decide (b ≤ a ∧ a ≤ c) := decide_eq_decide.mpr ⟨fun h' => ⟨h, h'⟩, fun h' => h'.2⟩
  rw [e]
 ·rename_i h
  have e : (decide (b ≤ a ∧ a ≤ c)) = false := decide_eq_false fun h' => h h'.1
  rw [e]

theorem in_impl (a b c : Int) : impl_within.f a b c = some (decide (b ≤ a ∧ a ≤ c)) := by
 unfold impl_within.f
 split
 ·rename_i h
  have e : (decide (a ≤ c)) = decide (b ≤ a ∧ a ≤ c) := decide_eq_decide.mpr ⟨fun h' => ⟨h, h'⟩, fun h' => h'.2⟩
  rw [e]
 ·rename_i h
  have e : (decide (b ≤ a ∧ a ≤ c)) = false := decide_eq_false fun h' => h h'.1
  rw [e]


/-- 2^n, as the loop doubles it. -/
theorem pow_loop (n : Int) (d : Nat) : ∀ (x i : Int), 0 ≤ i → i + d = n → 0 ≤ x → x * 2 ^ d ≤ 4611686018427387904 → n ≤ 62 →
  Ev (fun k => spec_l01Pow.l0 k n x i) (x * 2 ^ d) := by
 induction d with
 | zero =>
  intro x i h0 h hx hb hn
  refine ev_ret (fun k => ?_)
  rw [spec_l01Pow.l0, if_neg (by omega)]
  simp
 | succ d ih =>
  intro x i h0 h hx hb hn
  have e : x * 2 ^ (d + 1) = 2 * x * 2 ^ d := by rw [Int.pow_succ, ← Int.mul_assoc, Int.mul_comm (x * 2 ^ d) 2, ← Int.mul_assoc]
  have hp : (1 : Int) ≤ 2 ^ d := by have : (0 : Int) < 2 ^ d := Int.pow_pos (by omega); omega
  have h2 : 2 * x ≤ 2 * x * 2 ^ d := by
   have := Int.mul_le_mul_of_nonneg_left hp (show 0 ≤ 2 * x by omega)
   omega
  have h3 := ih (2 * x) (i + 1) (by omega) (by omega) (by omega) (by omega) hn
  rw [e]
  refine Ev.step (fun k => ?_) h3
  rw [spec_l01Pow.l0, if_pos (by omega), w64_id (x := 2 * x) (by omega) (by omega), w64_id (x := i + 1) (by omega) (by omega)]
theorem pow_is (n : Nat) (hn : n ≤ 62) : Ev (fun k => spec_l01Pow.f k (n : Int)) (2 ^ n) := by
 have hb : (2 : Int) ^ n ≤ 2 ^ 62 := by exact_mod_cast Nat.pow_le_pow_right (n := 2) (by omega) hn
 have h := pow_loop n n 1 0 (by omega) (by omega) (by omega) (by rw [Int.one_mul]; exact hb) (by omega)
 rw [Int.one_mul] at h
 exact h
theorem pow_at (n : Int) (h0 : 0 ≤ n) (hn : n ≤ 62) : Ev (fun k => spec_l01Pow.f k n) (2 ^ n.toNat) := by
 have h := pow_is n.toNat (by omega)
 rw [Int.toNat_of_nonneg h0] at h
 exact h

theorem rd_nat (l : List Int) (j : Nat) : rd l j = l.getD j 0 := by unfold rd; simp
theorem rd_getElem (l : List Int) (j : Nat) (h : j < l.length) : rd l j = l[j] := by rw [rd_nat, List.getD_eq_getElem?_getD, List.getElem?_eq_getElem h]; rfl
theorem rd_mem (l : List Int) (j : Nat) (h : j < l.length) : rd l j ∈ l := by rw [rd_getElem l j h]; exact List.getElem_mem h
theorem drop_rd (l : List Int) (j : Nat) (h : j < l.length) : l.drop j = rd l j :: l.drop (j + 1) := by rw [rd_getElem l j h]; exact List.drop_eq_getElem_cons h
theorem rd_set (l : List Int) (a : Nat) (v : Int) (j : Nat) (h : a < l.length) : rd (l.set a v) j = if j = a then v else rd l j := by
 rw [rd_nat, rd_nat, List.getD_eq_getElem?_getD, List.getD_eq_getElem?_getD, List.getElem?_set]
 by_cases e : j = a
 ·subst e
  simp [h]
 ·rw [if_neg (Ne.symm e), if_neg e]
theorem take_set_snoc (l : List Int) (j : Nat) (v : Int) (h : j < l.length) : (l.set j v).take (j + 1) = l.take j ++ [v] := by
 rw [List.take_succ_eq_append_getElem (by simpa using h)]
 simp [List.take_set_of_le]

theorem eqIntS_loop (l : List Int) (hl : l.length ≤ 4611686018427387904) (d : Nat) : ∀ j : Nat, j + d = l.length → Ev (fun k => laws_eqIntS.l0 k l l j) true := by
 induction d with
 | zero => exact fun j h => ev_ret (fun k => by rw [laws_eqIntS.l0, if_neg (by omega)])
 | succ d ih =>
  intro j h
  refine Ev.step (fun k => ?_) (ih (j + 1) (by omega))
  rw [laws_eqIntS.l0, if_pos (by omega), if_pos (by omega), if_pos (by omega), if_pos rfl, w64_id (x := (j : Int) + 1) (by omega) (by omega)]
  rfl
theorem eqIntS_is (l : List Int) (hl : l.length ≤ 4611686018427387904) : Ev (fun k => laws_eqIntS.f k l l) true :=
 Ev.congr (fun k => by unfold laws_eqIntS.f; rw [if_pos rfl]; rfl) (eqIntS_loop l hl l.length 0 (by omega))
/-- Marks from a on. -/
def marks : Nat → Int → List Int
 | 0, _ => []
 | n + 1, a => a :: marks n (a + 1)
theorem marks_len : ∀ (n : Nat) (a : Int), (marks n a).length = n
 | 0, _ => rfl
 | n + 1, a => by simp [marks, marks_len n]
theorem marks_snoc : ∀ (n : Nat) (a : Int), marks (n + 1) a = marks n a ++ [a + n]
 | 0, a => by simp [marks]
 | n + 1, a => by
  rw [marks, marks_snoc n (a + 1), marks]
  simp
  omega
theorem marks_at (n : Nat) (a : Int) (j : Nat) (h : j < n) : rd (marks n a) j = a + j := by
 induction n generalizing a j with
 | zero => omega
 | succ n ih =>
  cases j with
  | zero => simp [rd, marks]
  | succ j =>
   have := ih (a + 1) j (by omega)
   rw [rd_nat] at this ⊢
   simp only [marks, List.getD_cons_succ]
   rw [this]
   omega
theorem mark_loop (n : Nat) (hn : n ≤ 4611686018427387904) (a : Int) (a0 : 0 ≤ a) (a1 : a ≤ 1048576) (d : Nat) : ∀ (j : Nat) (o : List Int), j + d = n → o.length = n → o.take j = marks j a →
  Ev (fun k => laws_markIntS.l0 k o (a + j) j) (a + n, marks n a) := by
 induction d with
 | zero =>
  intro j o h ho hp
  refine ev_ret (fun k => ?_)
  rw [laws_markIntS.l0, if_neg (by omega)]
  obtain rfl : j = n := by omega
  rw [List.take_of_length_le (by omega)] at hp
  rw [hp]
 | succ d ih =>
  intro j o h ho hp
  refine Ev.step (fun k => ?_) (ih (j + 1) (o.set j (a + j)) (by omega) (by simpa using ho) ?_)
  ·rw [laws_markIntS.l0, if_pos (by omega), if_pos (by omega), w64_id (x := a + j + 1) (by omega) (by omega), w64_id (x := (j : Int) + 1) (by omega) (by omega), Int.toNat_natCast, Int.add_assoc]
   rfl
  ·rw [take_set_snoc o j _ (by omega), hp, marks_snoc]
theorem held_loop (n : Nat) (hn : n ≤ 4611686018427387904) (a : Int) (a0 : 0 ≤ a) (a1 : a ≤ 1048576) (d : Nat) : ∀ (j : Nat), j + d = n →
  Ev (fun k => laws_heldIntS.l0 k (marks n a) (a + j) j) (a + n) := by
 induction d with
 | zero =>
  intro j h
  refine ev_ret (fun k => ?_)
  rw [laws_heldIntS.l0, if_neg (by rw [marks_len]; omega)]
  obtain rfl : j = n := by omega
  rfl
 | succ d ih =>
  intro j h
  refine Ev.step (fun k => ?_) (ih (j + 1) (by omega))
  rw [laws_heldIntS.l0, if_pos (by rw [marks_len]; omega), if_pos (by omega), marks_at n a j (by omega), if_pos rfl, w64_id (x := a + j + 1) (by omega) (by omega), w64_id (x := (j : Int) + 1) (by omega) (by omega), Int.add_assoc]
  rfl
/-- Is a token right. -/
def tokB (a b c : Int) : Bool := if b = 0 then decide (0 ≤ a ∧ a ≤ 255 ∧ c = 0) else decide (a = 0 ∧ 3 ≤ b ∧ b ≤ 258 ∧ 1 ≤ c ∧ c ≤ 32768)
theorem tok_spec (a b c : Int) : spec_TokenOk.f a b c = some (tokB a b c) := by
 unfold spec_TokenOk.f tokB
 simp only [in_spec, Option.bind_some]
 split
 ·split
  ·rename_i h
   have h := of_decide_eq_true h
   congr 1
   rw [Bool.eq_iff_iff]
   simp
   omega
  ·rename_i h
   simp at h
   congr 1
   symm
   simp
   omega
 ·split
  ·split
   ·rename_i h1 h
    have h := of_decide_eq_true h
    congr 1
    rw [Bool.eq_iff_iff]
    simp
    omega
   ·rename_i h1 h
    simp at h
    congr 1
    symm
    simp
    omega
  ·congr 1
   symm
   simp
   omega
theorem tok_impl1 (k : Nat) (a b c : Int) : impl_TokenOk.f (k + 1) a b c = some (tokB a b c) := by
 have j : ∀ x, impl_TokenOk.j0 (k + 1) x a b c = some (if x = true then decide (0 ≤ a ∧ a ≤ 255) else decide (a = 0 ∧ 3 ≤ b ∧ b ≤ 258 ∧ 1 ≤ c ∧ c ≤ 32768)) := by
  intro x
  rw [impl_TokenOk.j0]
  simp only [in_impl, Option.bind_some]
  split
  ·rfl
  ·split
   ·split
    ·rename_i h
     have h := of_decide_eq_true h
     congr 1
     rw [Bool.eq_iff_iff]
     simp
     omega
    ·rename_i h
     simp at h
     congr 1
     symm
     simp
     omega
   ·congr 1
    symm
    simp
    omega
 unfold tokB
 by_cases hb : b = 0
 ·rw [if_pos hb]
  have e : (if (c == 0) = true then decide (0 ≤ a ∧ a ≤ 255) else decide (a = 0 ∧ 3 ≤ b ∧ b ≤ 258 ∧ 1 ≤ c ∧ c ≤ 32768)) = decide (0 ≤ a ∧ a ≤ 255 ∧ c = 0) := by
   split
   ·rename_i h
    simp at h
    rw [Bool.eq_iff_iff]
    simp
    omega
   ·rename_i h
    simp at h
    rw [Bool.eq_iff_iff]
    simp
    omega
  rw [← e]
  unfold impl_TokenOk.f
  rw [if_pos hb]
  exact j (c == 0)
 ·rw [if_neg hb]
  unfold impl_TokenOk.f
  rw [if_neg hb]
  exact j false
theorem tok_impl (a b c : Int) : Ev (fun k => impl_TokenOk.f k a b c) (tokB a b c) := ev_ret (fun k => tok_impl1 k a b c)

/-- Symbol i: both sides tell the same first distance and the same number of extra bits. -/
def distOk (i : Nat) : Bool :=
 match spec_l06DistBits.f 64 i, impl_distSpan.f i with
 | some (b, m), some (m', b') => b == b' && m == m' && (0 ≤ b && b ≤ 13 && 1 ≤ m && m ≤ 32768)
 | _, _ => false
theorem dist_table : ∀ i, i < 30 → distOk i = true := by decide +kernel
theorem dist_row (i : Nat) (hi : i < 30) : ∃ b m, spec_l06DistBits.f 64 i = some (b, m) ∧ impl_distSpan.f i = some (m, b) ∧ 0 ≤ b ∧ b ≤ 13 ∧ 1 ≤ m ∧ m ≤ 32768 := by
 have h := dist_table i hi
 unfold distOk at h
 split at h
 ·rename_i b m m' b' h1 h2
  simp only [Bool.and_eq_true, beq_iff_eq, decide_eq_true_eq] at h
  obtain ⟨⟨rfl, rfl⟩, h3⟩ := h
  exact ⟨b, m, h1, h2, h3.1.1.1, h3.1.1.2, h3.1.2, h3.2⟩
 ·cases h
/-- The number of extra bits, and the first distance, of a symbol. -/
def dB (i : Nat) : Int := ((spec_l06DistBits.f 64 i).getD (0, 0)).1
def dM (i : Nat) : Int := ((spec_l06DistBits.f 64 i).getD (0, 0)).2
theorem dist_at (i : Nat) (hi : i < 30) : Ev (fun k => spec_l06DistBits.f k i) (dB i, dM i) ∧ impl_distSpan.f i = some (dM i, dB i) ∧ 1 ≤ dM i ∧ dM i ≤ 32768 := by
 obtain ⟨b, m, h1, h2, _, _, h5, h6⟩ := dist_row i hi
 have e1 : dB i = b := by unfold dB; rw [h1]; rfl
 have e2 : dM i = m := by unfold dM; rw [h1]; rfl
 rw [e1, e2]
 exact ⟨Ev.of (spec_l06DistBits.mono _) h1, h2, h5, h6⟩
theorem dist_find (n : Int) (hn : 1 ≤ n) (m : Nat) (hm : m < 30) : ∃ t, t ≤ m ∧ dM t ≤ n ∧ ∀ s, t < s → s ≤ m → n < dM s := by
 induction m with
 | zero => exact ⟨0, Nat.le_refl _, by (have : dM 0 = 1 := by decide +kernel); omega, fun s h1 h2 => by omega⟩
 | succ m ih =>
  by_cases h : dM (m + 1) ≤ n
  ·exact ⟨m + 1, Nat.le_refl _, h, fun s h1 h2 => by omega⟩
  ·obtain ⟨t, h1, h2, h3⟩ := ih (by omega)
   refine ⟨t, by omega, h2, fun s hs1 hs2 => ?_⟩
   by_cases e : s = m + 1
   ·subst e; omega
   ·exact h3 s hs1 (by omega)
theorem dist_tail (n : Int) (t : Nat) (ht : t < 30) (hall : ∀ s, t < s → s ≤ 29 → n < dM s) (d : Nat) : ∀ s : Nat, t < s → s + d = 30 →
  Ev (fun k => spec_DistCode.l0 k n t (dB t) (dM t) s) ((t : Int), dB t, wrap64 (n - dM t)) := by
 induction d with
 | zero =>
  intro s h1 h2
  exact ev_ret (fun k => by rw [spec_DistCode.l0, if_neg (by omega)])
 | succ d ih =>
  intro s h1 h2
  obtain ⟨e, _⟩ := dist_at s (by omega)
  refine ev_use_step e (fun k hk => ?_) (ih (s + 1) (by omega) (by omega))
  have hlt := hall s h1 (by omega)
  rw [spec_DistCode.l0, if_pos (by omega), hk, Option.bind_some, if_neg (by omega), w64_id (x := (s : Int) + 1) (by omega) (by omega)]
  rfl
theorem dist_head (n : Int) (t : Nat) (ht : t < 30) (hle : dM t ≤ n) (hall : ∀ s, t < s → s ≤ 29 → n < dM s) (d : Nat) : ∀ (s : Nat) (x y z : Int), s + d = t →
  Ev (fun k => spec_DistCode.l0 k n x y z s) ((t : Int), dB t, wrap64 (n - dM t)) := by
 induction d with
 | zero =>
  intro s x y z h
  obtain rfl : s = t := by omega
  obtain ⟨e, _⟩ := dist_at s ht
  refine ev_use_step e (fun k hk => ?_) (dist_tail n s ht hall (29 - s) (s + 1) (by omega) (by omega))
  rw [spec_DistCode.l0, if_pos (by omega), hk, Option.bind_some, if_pos hle, w64_id (x := (s : Int) + 1) (by omega) (by omega)]
  rfl
 | succ d ih =>
  intro s x y z h
  obtain ⟨e, _⟩ := dist_at s (by omega)
  by_cases c : dM s ≤ n
  ·refine ev_use_step e (fun k hk => ?_) (ih (s + 1) s (dB s) (dM s) (by omega))
   rw [spec_DistCode.l0, if_pos (by omega), hk, Option.bind_some, if_pos c, w64_id (x := (s : Int) + 1) (by omega) (by omega)]
   rfl
  ·refine ev_use_step e (fun k hk => ?_) (ih (s + 1) x y z (by omega))
   rw [spec_DistCode.l0, if_pos (by omega), hk, Option.bind_some, if_neg c, w64_id (x := (s : Int) + 1) (by omega) (by omega)]
   rfl
theorem dist_down (n : Int) (t : Nat) (ht : t < 30) (hle : dM t ≤ n) (hall : ∀ s, t < s → s ≤ 29 → n < dM s) (d : Nat) : ∀ s : Nat, s = t + d → s < 30 →
  Ev (fun k => impl_DistCode.l0 k n s (dM s) (dB s)) ((t : Int), dB t, wrap64 (n - dM t)) := by
 induction d with
 | zero =>
  intro s h hs
  obtain rfl : s = t := by omega
  exact ev_ret (fun k => by rw [impl_DistCode.l0, if_neg (by omega)])
 | succ d ih =>
  intro s h hs
  have hlt := hall s (by omega) (by omega)
  obtain ⟨_, e, _⟩ := dist_at (s - 1) (by omega)
  have hc : ((s : Int) - 1) = ((s - 1 : Nat) : Int) := by omega
  refine Ev.step (fun k => ?_) (ih (s - 1) (by omega) (by omega))
  rw [impl_DistCode.l0, if_pos (by omega), w64_id (x := (s : Int) - 1) (by omega) (by omega), hc, e]
  rfl
/-- What the code of a distance comes to, on both sides. -/
theorem dist_both (n : Int) (h0 : 1 ≤ n) (h1 : n ≤ 32768) : ∃ t : Nat, t < 30 ∧ dM t ≤ n ∧ (∀ s, t < s → s ≤ 29 → n < dM s) ∧
  Ev (fun k => spec_DistCode.f k n) ((t : Int), dB t, wrap64 (n - dM t)) ∧ Ev (fun k => impl_DistCode.f k n) ((t : Int), dB t, wrap64 (n - dM t)) := by
 obtain ⟨t, ht, hle, hall⟩ := dist_find n h0 29 (by omega)
 refine ⟨t, by omega, hle, hall, Ev.congr (fun k => ?_) (dist_head n t (by omega) hle hall t 0 0 0 1 (by omega)), Ev.congr (fun k => ?_) (dist_down n t (by omega) hle hall (29 - t) 29 (by omega) (by omega))⟩
 ·unfold spec_DistCode.f
  rw [in_spec, decide_eq_true ⟨h0, h1⟩]
  rfl
 ·unfold impl_DistCode.f
  rw [in_impl, decide_eq_true ⟨h0, h1⟩]
  obtain ⟨_, e, _⟩ := dist_at 29 (by omega)
  have e' : impl_distSpan.f 29 = some (dM 29, dB 29) := e
  simp only [Option.bind_some, if_true, e']
  rfl
/-- Symbol 257 + i: both sides tell the same first length and the same number of extra bits. -/
def lenOk (i : Nat) : Bool :=
 match spec_l06LengthBits.f 64 (257 + i : Nat), impl_lengthSpan.f (257 + i : Nat) with
 | some (b, m), some (m', b') => b == b' && m == m' && (0 ≤ b && b ≤ 5 && 3 ≤ m && m ≤ 258)
 | _, _ => false
theorem len_table : ∀ i, i < 29 → lenOk i = true := by decide +kernel
theorem len_row (i : Nat) (hi : i < 29) : ∃ b m, spec_l06LengthBits.f 64 (257 + i : Nat) = some (b, m) ∧ impl_lengthSpan.f (257 + i : Nat) = some (m, b) ∧ 0 ≤ b ∧ b ≤ 5 ∧ 3 ≤ m ∧ m ≤ 258 := by
 have h := len_table i hi
 unfold lenOk at h
 split at h
 ·rename_i b m m' b' h1 h2
  simp only [Bool.and_eq_true, beq_iff_eq, decide_eq_true_eq] at h
  obtain ⟨⟨rfl, rfl⟩, h3⟩ := h
  exact ⟨b, m, h1, h2, h3.1.1.1, h3.1.1.2, h3.1.2, h3.2⟩
 ·cases h
/-- The number of extra bits, and the first length, of symbol i. -/
def lB (i : Nat) : Int := ((spec_l06LengthBits.f 64 i).getD (0, 0)).1
def lM (i : Nat) : Int := ((spec_l06LengthBits.f 64 i).getD (0, 0)).2
theorem len_at (i : Nat) (h0 : 257 ≤ i) (hi : i < 286) : Ev (fun k => spec_l06LengthBits.f k i) (lB i, lM i) ∧ impl_lengthSpan.f i = some (lM i, lB i) ∧ 3 ≤ lM i ∧ lM i ≤ 258 := by
 obtain ⟨j, rfl⟩ : ∃ j, i = 257 + j := ⟨i - 257, by omega⟩
 obtain ⟨b, m, h1, h2, _, _, h5, h6⟩ := len_row j (by omega)
 have e1 : lB (257 + j) = b := by unfold lB; rw [h1]; rfl
 have e2 : lM (257 + j) = m := by unfold lM; rw [h1]; rfl
 rw [e1, e2]
 exact ⟨Ev.of (spec_l06LengthBits.mono _) h1, h2, h5, h6⟩
theorem l257 : lM 257 = 3 := by decide +kernel
theorem l285 : lM 285 = 258 ∧ lB 285 = 0 := by decide +kernel
attribute [irreducible] lB lM
theorem len_find (n : Int) (hn : 3 ≤ n) (m : Nat) (h0 : 257 ≤ m) (hm : m < 286) : ∃ t, 257 ≤ t ∧ t ≤ m ∧ lM t ≤ n ∧ ∀ s, t < s → s ≤ m → n < lM s := by
 obtain ⟨j, rfl⟩ : ∃ j, m = 257 + j := ⟨m - 257, by omega⟩
 clear h0
 induction j with
 | zero => exact ⟨257, Nat.le_refl _, Nat.le_refl _, by have h3 : lM 257 = 3 := l257; omega, fun s h1 h2 => by omega⟩
 | succ m ih =>
  by_cases h : lM (257 + (m + 1)) ≤ n
  ·exact ⟨257 + (m + 1), by omega, Nat.le_refl _, h, fun s h1 h2 => by omega⟩
  ·obtain ⟨t, h0, h1, h2, h3⟩ := ih (by omega)
   refine ⟨t, h0, by omega, h2, fun s hs1 hs2 => ?_⟩
   by_cases e : s = 257 + (m + 1)
   ·subst e; omega
   ·exact h3 s hs1 (by omega)
theorem len_tail (n : Int) (hn : n < 258) (t : Nat) (ht0 : 257 ≤ t) (ht : t < 285) (hall : ∀ s, t < s → s ≤ 285 → n < lM s) (d : Nat) : ∀ s : Nat, t < s → s + d = 285 →
  Ev (fun k => spec_LengthCode.l0 k n t (lB t) (lM t) s) ((t : Int), lB t, wrap64 (n - lM t)) := by
 induction d with
 | zero =>
  intro s h1 h2
  refine Ev.step (f := fun k => spec_LengthCode.j1 k n t (lB t) (lM t) s false) (fun k => by rw [spec_LengthCode.l0, if_neg (by omega)]) (ev_ret (fun k => by rw [spec_LengthCode.j1, if_neg (by decide)]))
 | succ d ih =>
  intro s h1 h2
  obtain ⟨e, _⟩ := len_at s (by omega) (by omega)
  have hd : decide (n < 258) = true := decide_eq_true hn
  refine Ev.step (f := fun k => spec_LengthCode.j1 k n t (lB t) (lM t) s true) (fun k => by rw [spec_LengthCode.l0, if_pos (by omega), hd]) ?_
  refine ev_use_step e (fun k hk => ?_) (ih (s + 1) (by omega) (by omega))
  have hlt := hall s h1 (by omega)
  rw [spec_LengthCode.j1, if_pos rfl, hk, Option.bind_some, if_neg (by omega), w64_id (x := (s : Int) + 1) (by omega) (by omega)]
  rfl
theorem len_head (n : Int) (hn : n < 258) (t : Nat) (ht0 : 257 ≤ t) (ht : t < 285) (hle : lM t ≤ n) (hall : ∀ s, t < s → s ≤ 285 → n < lM s) (d : Nat) : ∀ (s : Nat) (x y z : Int), 257 ≤ s → s + d = t →
  Ev (fun k => spec_LengthCode.l0 k n x y z s) ((t : Int), lB t, wrap64 (n - lM t)) := by
 have hd : decide (n < 258) = true := decide_eq_true hn
 induction d with
 | zero =>
  intro s x y z hs h
  obtain rfl : s = t := by omega
  obtain ⟨e, _⟩ := len_at s ht0 (by omega)
  refine Ev.step (f := fun k => spec_LengthCode.j1 k n x y z s true) (fun k => by rw [spec_LengthCode.l0, if_pos (by omega), hd]) ?_
  refine ev_use_step e (fun k hk => ?_) (len_tail n hn s ht0 ht hall (284 - s) (s + 1) (by omega) (by omega))
  rw [spec_LengthCode.j1, if_pos rfl, hk, Option.bind_some, if_pos hle, w64_id (x := (s : Int) + 1) (by omega) (by omega)]
  rfl
 | succ d ih =>
  intro s x y z hs h
  obtain ⟨e, _⟩ := len_at s (by omega) (by omega)
  refine Ev.step (f := fun k => spec_LengthCode.j1 k n x y z s true) (fun k => by rw [spec_LengthCode.l0, if_pos (by omega), hd]) ?_
  by_cases c : lM s ≤ n
  ·refine ev_use_step e (fun k hk => ?_) (ih (s + 1) s (lB s) (lM s) (by omega) (by omega))
   rw [spec_LengthCode.j1, if_pos rfl, hk, Option.bind_some, if_pos c, w64_id (x := (s : Int) + 1) (by omega) (by omega)]
   rfl
  ·refine ev_use_step e (fun k hk => ?_) (ih (s + 1) x y z (by omega) (by omega))
   rw [spec_LengthCode.j1, if_pos rfl, hk, Option.bind_some, if_neg c, w64_id (x := (s : Int) + 1) (by omega) (by omega)]
   rfl
theorem len_down (n : Int) (t : Nat) (ht0 : 257 ≤ t) (ht : t < 286) (hle : lM t ≤ n) (hall : ∀ s, t < s → s ≤ 285 → n < lM s) (d : Nat) : ∀ s : Nat, s = t + d → s < 286 →
  Ev (fun k => impl_LengthCode.l0 k n s (lM s) (lB s)) ((t : Int), lB t, wrap64 (n - lM t)) := by
 induction d with
 | zero =>
  intro s h hs
  obtain rfl : s = t := by omega
  exact ev_ret (fun k => by rw [impl_LengthCode.l0, if_neg (by omega)])
 | succ d ih =>
  intro s h hs
  have hlt := hall s (by omega) (by omega)
  obtain ⟨_, e, _⟩ := len_at (s - 1) (by omega) (by omega)
  have hc : ((s : Int) - 1) = ((s - 1 : Nat) : Int) := by omega
  refine Ev.step (fun k => ?_) (ih (s - 1) (by omega) (by omega))
  rw [impl_LengthCode.l0, if_pos (by omega), w64_id (x := (s : Int) - 1) (by omega) (by omega), hc, e]
  rfl
/-- What the code of a length comes to, on both sides. -/
theorem len_both (n : Int) (h0 : 3 ≤ n) (h1 : n ≤ 258) : ∃ t : Nat, 257 ≤ t ∧ t < 286 ∧ lM t ≤ n ∧ (∀ s, t < s → s ≤ 285 → n < lM s) ∧
  Ev (fun k => spec_LengthCode.f k n) ((t : Int), lB t, wrap64 (n - lM t)) ∧ Ev (fun k => impl_LengthCode.f k n) ((t : Int), lB t, wrap64 (n - lM t)) := by
 obtain ⟨t, ht0, ht, hle, hall⟩ := len_find n h0 285 (by omega) (by omega)
 obtain ⟨m285, b285⟩ := l285
 have hdown := len_down n t ht0 (by omega) hle hall (285 - t) 285 (by omega) (by omega)
 rw [show ((285 : Nat) : Int) = 285 by omega] at hdown
 refine ⟨t, ht0, by omega, hle, hall, ?_, Ev.congr (fun k => ?_) hdown⟩
 ·by_cases hn : n < 258
  ·have ht2 : t < 285 := by
    rcases Nat.lt_or_ge t 285 with h | h
    ·exact h
    ·obtain rfl : t = 285 := by omega
     omega
   have h := len_head n hn t ht0 ht2 hle hall (t - 257) 257 285 0 258 (by omega) (by omega)
   rw [show ((257 : Nat) : Int) = 257 by omega] at h
   refine Ev.congr (fun k => ?_) h
   unfold spec_LengthCode.f
   rw [in_spec, decide_eq_true ⟨h0, h1⟩]
   simp only [Option.bind_some, if_true]
  ·obtain rfl : n = 258 := by omega
   obtain rfl : t = 285 := by
    rcases Nat.lt_or_ge t 285 with h | h
    ·have := hall 285 h (by omega)
     omega
    ·omega
   rw [m285, b285, show ((285 : Nat) : Int) = 285 by omega]
   refine Ev.congr (f := fun k => spec_LengthCode.l0 k 258 285 0 258 257) (fun k => ?_) ?_
   ·unfold spec_LengthCode.f
    rw [in_spec, decide_eq_true (by omega)]
    simp only [Option.bind_some, if_true]
   ·refine Ev.step (f := fun k => spec_LengthCode.j1 k 258 285 0 258 257 false) (fun k => by rw [spec_LengthCode.l0, if_pos (by omega)]; rw [decide_eq_false (by omega)]) (ev_ret (fun k => by rw [spec_LengthCode.j1, if_neg (by decide)]))
 ·unfold impl_LengthCode.f
  rw [in_impl, decide_eq_true ⟨h0, h1⟩]
  obtain ⟨_, e, _⟩ := len_at 285 (by omega) (by omega)
  rw [show ((285 : Nat) : Int) = 285 by omega] at e
  simp only [Option.bind_some, if_true, e]
/-- Is a token right. -/
def okT (t : S107) : Bool := tokB t.f0 t.f1 t.f2
theorem tokensOk_loop (l : List S107) (hl : l.length ≤ 1048576) (d : Nat) : ∀ j : Nat, j + d = l.length → Ev (fun k => impl_tokensOk.l0 k l l (l.length : Int) j) ((l.drop j).all okT && decide ((l.length : Int) ≤ 12000)) := by
 induction d with
 | zero =>
  intro j h
  refine ev_ret (fun k => ?_)
  rw [impl_tokensOk.l0, if_neg (by omega), List.drop_of_length_le (by omega)]
  simp
 | succ d ih =>
  intro j h
  have hj : j < l.length := by omega
  have e : Ev (fun k => impl_TokenOk.f k (rd_T107 l j).f0 (rd_T107 l j).f1 (rd_T107 l j).f2) (okT (rd_T107 l j)) := tok_impl _ _ _
  have dr : l.drop j = rd_T107 l j :: l.drop (j + 1) := gd_drop l _ j hj
  rw [dr, List.all_cons]
  by_cases c : okT (rd_T107 l j) = true
  ·rw [c, Bool.true_and]
   refine ev_use_step e (fun k hk => ?_) (ih (j + 1) (by omega))
   rw [impl_tokensOk.l0, if_pos (by omega), if_pos (by omega), if_pos (by omega), hk, Option.bind_some, if_pos c, w64_id (x := (j : Int) + 1) (by omega) (by omega)]
   rfl
  ·have c' : okT (rd_T107 l j) = false := by simpa using c
   rw [c', Bool.false_and, Bool.false_and]
   refine ev_use_step e (fun k hk => ?_) (Ev.now false)
   rw [impl_tokensOk.l0, if_pos (by omega), if_pos (by omega), if_pos (by omega), hk, Option.bind_some, if_neg c]
theorem tokensOk_is (l : List S107) (hl : l.length ≤ 1048576) : Ev (fun k => impl_tokensOk.f k l) (l.all okT && decide ((l.length : Int) ≤ 12000)) := tokensOk_loop l hl l.length 0 (by omega)


/-- The law's own token, as the program's. -/
def tokOf (x : S112) : S107 := ⟨x.f0, x.f1, x.f2⟩
theorem toTokenS_loop (l : List S112) (hl : l.length ≤ 1048576) (d : Nat) : ∀ (j : Nat) (o : List S107), j + d = l.length → o.length = l.length → o.take j = (l.map tokOf).take j → Ev (fun k => laws_toTokenS.l0 k l o j) (l.map tokOf) := by
 induction d with
 | zero =>
  intro j o h ho hp
  refine ev_ret (fun k => ?_)
  rw [laws_toTokenS.l0, if_neg (by omega)]
  have e1 : o.take j = o := List.take_of_length_le (by omega)
  have e2 : (l.map tokOf).take j = l.map tokOf := List.take_of_length_le (by rw [List.length_map]; omega)
  rw [e1, e2] at hp
  rw [hp]
 | succ d ih =>
  intro j o h ho hp
  have hj : j < l.length := by omega
  refine Ev.step (fun k => ?_) (ih (j + 1) (o.set j (tokOf l[j])) (by omega) (by simpa using ho) ?_)
  ·have e : rd_T112 l (j : Int) = l[j] := gd_at l _ j hj
   rw [laws_toTokenS.l0, if_pos (by omega), if_pos (by omega), e]
   unfold laws_toToken.f
   rw [Option.bind_some, if_pos (by omega), w64_id (x := (j : Int) + 1) (by omega) (by omega), Int.toNat_natCast]
   rfl
  ·rw [g_take_set o j _ (by omega), hp, List.take_succ_eq_append_getElem (by rw [List.length_map]; exact hj), List.getElem_map]
theorem toTokenS_is (l : List S112) (hl : l.length ≤ 1048576) : Ev (fun k => laws_toTokenS.f k l) (l.map tokOf) := by
 refine Ev.congr (fun k => ?_) (toTokenS_loop l hl l.length 0 (List.replicate l.length z107) (by omega) (by simp) (by simp))
 unfold laws_toTokenS.f
 rw [if_pos (by omega), Int.toNat_natCast, if_pos (by omega)]
 rfl

theorem eqTokenS_loop (l : List S107) (hl : l.length ≤ 4611686018427387904) (d : Nat) : ∀ j : Nat, j + d = l.length → Ev (fun k => laws_eqTokenS.l0 k l l j) true := by
 induction d with
 | zero => exact fun j h => ev_ret (fun k => by rw [laws_eqTokenS.l0, if_neg (by omega)])
 | succ d ih =>
  intro j h
  refine Ev.step (fun k => ?_) (ih (j + 1) (by omega))
  rw [laws_eqTokenS.l0, if_pos (by omega), if_pos (by omega), if_pos (by omega)]
  unfold laws_eqToken.f
  rw [if_pos rfl, if_pos rfl, if_pos rfl, Option.bind_some, if_pos rfl, w64_id (x := (j : Int) + 1) (by omega) (by omega)]
  rfl
theorem eqTokenS_is (l : List S107) (hl : l.length ≤ 4611686018427387904) : Ev (fun k => laws_eqTokenS.f k l l) true :=
 Ev.congr (fun k => by unfold laws_eqTokenS.f; rw [if_pos rfl]; rfl) (eqTokenS_loop l hl l.length 0 (by omega))

/-- Marks from a on, three a token. -/
def tmarks : Nat → Int → List S107
 | 0, _ => []
 | n + 1, a => ⟨a, a + 1, a + 2⟩ :: tmarks n (a + 3)
theorem tmarks_snoc : ∀ (n : Nat) (a : Int), tmarks (n + 1) a = tmarks n a ++ [⟨a + 3 * n, a + 3 * n + 1, a + 3 * n + 2⟩]
 | 0, a => by simp [tmarks]
 | n + 1, a => by
  rw [tmarks, tmarks_snoc n (a + 3), tmarks]
  have e : a + 3 + 3 * (n : Int) = a + 3 * ((n + 1 : Nat) : Int) := by omega
  rw [e]
  rfl
theorem tset_at (o : List S107) (j : Nat) (v : S107) (h : j < o.length) : rd_T107 (o.set j v) (j : Int) = v := by
 have := gd_at (o.set j v) z107 j (by simpa using h)
 rw [List.getElem_set_self] at this
 exact this
theorem tmark_loop (n : Nat) (hn : n ≤ 1048576) (a : Int) (a0 : 0 ≤ a) (a1 : a ≤ 1048576) (d : Nat) : ∀ (j : Nat) (o : List S107), j + d = n → o.length = n → o.take j = tmarks j a →
  Ev (fun k => laws_markTokenS.l0 k o (a + 3 * j) j) (a + 3 * n, tmarks n a) := by
 induction d with
 | zero =>
  intro j o h ho hp
  refine ev_ret (fun k => ?_)
  rw [laws_markTokenS.l0, if_neg (by omega)]
  obtain rfl : j = n := by omega
  rw [List.take_of_length_le (by omega)] at hp
  rw [hp]
 | succ d ih =>
  intro j o h ho hp
  have hj : j < o.length := by omega
  refine Ev.step (fun k => ?_) (ih (j + 1) (o.set j ⟨a + 3 * j, a + 3 * j + 1, a + 3 * j + 2⟩) (by omega) (by simpa using ho) ?_)
  ·rw [laws_markTokenS.l0, if_pos (by omega), if_pos (by omega), Option.bind_some, Int.toNat_natCast, w64_id (x := a + 3 * j + 1) (by omega) (by omega), w64_id (x := a + 3 * j + 1 + 1) (by omega) (by omega), w64_id (x := a + 3 * j + 1 + 1 + 1) (by omega) (by omega), w64_id (x := (j : Int) + 1) (by omega) (by omega)]
   simp only [tset_at _ _ _ hj, tset_at (o.set j _) _ _ (show j < (o.set j _).length by simpa using hj), List.set_set]
   have e2 : a + 3 * (j : Int) + 1 + 1 + 1 = a + 3 * ((j + 1 : Nat) : Int) := by omega
   have e3 : a + 3 * (j : Int) + 1 + 1 = a + 3 * (j : Int) + 2 := by omega
   rw [e2, e3, Option.bind_some]
   simp only [tset_at _ _ _ hj, List.set_set]
   rfl
  ·rw [g_take_set o j _ hj, hp, tmarks_snoc]
theorem tmark_is (l : List S107) (hl : l.length ≤ 1048576) : Ev (fun k => laws_markTokenS.f k l 1) (1 + 3 * (l.length : Int), tmarks l.length 1) := by
 have h := tmark_loop l.length hl 1 (by omega) (by omega) l.length 0 l (by omega) rfl (by simp [tmarks])
 rw [show (1 : Int) + 3 * ((0 : Nat) : Int) = 1 by omega] at h
 exact h
/-- What items weigh. -/
def wsum : List (Int × List Int) → Int
 | [] => 0
 | x :: l => x.1 + wsum l
/-- Two sorted lists made one; of equal ones those of the first come first. -/
def mergeP : List (Int × List Int) → List (Int × List Int) → List (Int × List Int)
 | [], B => B
 | x :: A, [] => x :: A
 | x :: A, y :: B => if x.1 ≤ y.1 then x :: mergeP A (y :: B) else y :: mergeP (x :: A) B
termination_by A B => A.length + B.length
/-- Each two neighbours, together. -/
def pairP : List (Int × List Int) → List (Int × List Int)
 | a :: b :: r => (a.1 + b.1, a.2 ++ b.2) :: pairP r
 | _ => []
/-- The list behind k steps. -/
def lev (F : List (Int × List Int)) : Nat → List (Int × List Int)
 | 0 => F
 | k + 1 => mergeP F (pairP (lev F k))
def SortedP (l : List (Int × List Int)) : Prop := l.Pairwise (fun x y => x.1 ≤ y.1)
theorem merge_nil (A : List (Int × List Int)) : mergeP A [] = A := by cases A <;> rw [mergeP]
theorem merge_mem : ∀ (A B : List (Int × List Int)) (z : Int × List Int), z ∈ mergeP A B ↔ z ∈ A ∨ z ∈ B
 | [], B, z => by rw [mergeP]; simp
 | x :: A, [], z => by rw [mergeP]; simp
 | x :: A, y :: B, z => by
  rw [mergeP]
  split
  ·rw [List.mem_cons, merge_mem A (y :: B) z, List.mem_cons, List.mem_cons]
   constructor
   ·rintro (h | h | h | h) <;> simp [h]
   ·rintro ((h | h) | h | h) <;> simp [h]
  ·rw [List.mem_cons, merge_mem (x :: A) B z, List.mem_cons, List.mem_cons]
   constructor
   ·rintro (h | (h | h) | h) <;> simp [h]
   ·rintro ((h | h) | h | h) <;> simp [h]
termination_by A B => A.length + B.length
theorem merge_len : ∀ (A B : List (Int × List Int)), (mergeP A B).length = A.length + B.length
 | [], B => by rw [mergeP]; simp
 | x :: A, [] => by rw [mergeP]; simp
 | x :: A, y :: B => by
  rw [mergeP]
  split
  ·rw [List.length_cons, merge_len A (y :: B)]; simp; omega
  ·rw [List.length_cons, merge_len (x :: A) B]; simp; omega
termination_by A B => A.length + B.length
theorem merge_sorted : ∀ (A B : List (Int × List Int)), SortedP A → SortedP B → SortedP (mergeP A B)
 | [], B, _, hB => by rw [mergeP]; exact hB
 | x :: A, [], hA, _ => by rw [mergeP]; exact hA
 | x :: A, y :: B, hA, hB => by
  obtain ⟨a1, a2⟩ := List.pairwise_cons.1 hA
  obtain ⟨b1, b2⟩ := List.pairwise_cons.1 hB
  rw [mergeP]
  split
  ·rename_i h
   refine List.pairwise_cons.2 ⟨fun z hz => ?_, merge_sorted A (y :: B) a2 hB⟩
   rcases (merge_mem _ _ _).1 hz with h1 | h1
   ·exact a1 z h1
   ·rcases List.mem_cons.1 h1 with rfl | h1
    ·exact h
    ·have := b1 z h1; omega
  ·rename_i h
   refine List.pairwise_cons.2 ⟨fun z hz => ?_, merge_sorted (x :: A) B hA b2⟩
   rcases (merge_mem _ _ _).1 hz with h1 | h1
   ·rcases List.mem_cons.1 h1 with rfl | h1
    ·omega
    ·have := a1 z h1; omega
   ·exact b1 z h1
termination_by A B => A.length + B.length
def PosP (l : List (Int × List Int)) : Prop := ∀ x ∈ l, 0 < x.1
theorem pair_pos : ∀ (l : List (Int × List Int)), PosP l → PosP (pairP l)
 | [], _ => by intro x hx; simp [pairP] at hx
 | [a], _ => by intro x hx; simp [pairP] at hx
 | a :: b :: r, h => by
  intro x hx
  rw [pairP] at hx
  rcases List.mem_cons.1 hx with rfl | hx
  ·have h1 := h a (by simp)
   have h2 := h b (by simp)
   show 0 < a.1 + b.1
   omega
  ·exact pair_pos r (fun y hy => h y (by simp [hy])) x hx
theorem pair_len : ∀ (l : List (Int × List Int)), (pairP l).length = l.length / 2
 | [] => rfl
 | [a] => by simp [pairP]
 | a :: b :: r => by
  rw [pairP, List.length_cons, pair_len r]
  simp
  omega
theorem pair_ge2 : ∀ (l : List (Int × List Int)) (c : Int), 0 ≤ c → (∀ x ∈ l, c ≤ x.1) → ∀ x ∈ pairP l, 2 * c ≤ x.1
 | [], c, _, _, x, hx => by simp [pairP] at hx
 | [a], c, _, _, x, hx => by simp [pairP] at hx
 | a :: b :: r, c, h0, h, x, hx => by
  rw [pairP] at hx
  rcases List.mem_cons.1 hx with rfl | hx
  ·have h1 := h a (by simp)
   have h2 := h b (by simp)
   show 2 * c ≤ a.1 + b.1
   omega
  ·exact pair_ge2 r c h0 (fun y hy => h y (by simp [hy])) x hx
theorem pair_sorted : ∀ (l : List (Int × List Int)), SortedP l → PosP l → SortedP (pairP l)
 | [], _, _ => List.Pairwise.nil
 | [a], _, _ => List.Pairwise.nil
 | a :: b :: r, h, hp => by
  obtain ⟨a1, h2⟩ := List.pairwise_cons.1 h
  obtain ⟨b1, h3⟩ := List.pairwise_cons.1 h2
  rw [pairP]
  refine List.pairwise_cons.2 ⟨fun z hz => ?_, pair_sorted r h3 (fun y hy => hp y (by simp [hy]))⟩
  have hb := hp b (by simp)
  have h4 := pair_ge2 r b.1 (by omega) (fun y hy => b1 y hy) z hz
  have h5 := a1 b (by simp)
  show a.1 + b.1 ≤ z.1
  omega
theorem lev_ok (F : List (Int × List Int)) (hs : SortedP F) (hp : PosP F) : ∀ k, SortedP (lev F k) ∧ PosP (lev F k)
 | 0 => ⟨hs, hp⟩
 | k + 1 => by
  obtain ⟨h1, h2⟩ := lev_ok F hs hp k
  refine ⟨merge_sorted _ _ hs (pair_sorted _ h1 h2), fun x hx => ?_⟩
  rcases (merge_mem _ _ _).1 hx with h | h
  ·exact hp x h
  ·exact pair_pos _ h2 x h
open Go.Proofs.Ytimomemkbcidnaa.MStab (insK isort insK_perm isort_perm isort_map)
def c101 (p : Int × List Int) : S101 := ⟨p.1, p.2⟩
def c96 (p : Int × List Int) : S96 := ⟨p.1, p.2⟩
def pAt (l : List (Int × List Int)) (i : Nat) : Int × List Int := l.getD i (0, [])
theorem rd101 (l : List (Int × List Int)) (i : Nat) : rd_T101 (l.map c101) (i : Int) = c101 (pAt l i) := by
 unfold rd_T101 pAt
 rw [Int.toNat_natCast, List.getD_eq_getElem?_getD, List.getD_eq_getElem?_getD, List.getElem?_map]
 cases l[i]? <;> rfl
theorem rd96 (l : List (Int × List Int)) (i : Nat) : rd_T96 (l.map c96) (i : Int) = c96 (pAt l i) := by
 unfold rd_T96 pAt
 rw [Int.toNat_natCast, List.getD_eq_getElem?_getD, List.getD_eq_getElem?_getD, List.getElem?_map]
 cases l[i]? <;> rfl
theorem w64_1 (j : Nat) (h : j ≤ 1000000000000) : wrap64 ((j : Int) + 1) = ((j + 1 : Nat) : Int) := by rw [w64_id (by omega) (by omega)]; rfl
theorem w64_2 (j : Nat) (h : j ≤ 1000000000000) : wrap64 ((j : Int) + 2) = ((j + 2 : Nat) : Int) := by rw [w64_id (by omega) (by omega)]; rfl
theorem w64_m (m : Nat) (h : m ≤ 1000000000000) : wrap64 (((m + 1 : Nat) : Int) - 1) = (m : Int) := by rw [w64_id (by omega) (by omega)]; omega
theorem pAt_eq (l : List (Int × List Int)) (i : Nat) (h : i < l.length) : pAt l i = l[i] := by unfold pAt; rw [List.getD_eq_getElem?_getD, List.getElem?_eq_getElem h]; rfl
theorem pAt_mem (l : List (Int × List Int)) (i : Nat) (h : i < l.length) : pAt l i ∈ l := by rw [pAt_eq l i h]; exact List.getElem_mem h
theorem drop_pAt (l : List (Int × List Int)) (i : Nat) (h : i < l.length) : l.drop i = pAt l i :: l.drop (i + 1) := by rw [pAt_eq l i h]; exact List.drop_eq_getElem_cons h
/-- The items of one symbol each. -/
def rawC : Nat → List Int → List (Int × List Int)
 | _, [] => []
 | i, c :: cs => if 0 < c then (c, [(i : Int)]) :: rawC (i + 1) cs else rawC (i + 1) cs
theorem rawC_len : ∀ (l : List Int) (i : Nat), (rawC i l).length ≤ l.length
 | [], _ => Nat.le_refl _
 | c :: cs, i => by
  have := rawC_len cs (i + 1)
  rw [rawC]
  split
  ·simp only [List.length_cons]; omega
  ·simp only [List.length_cons]; omega
theorem rawC_mem : ∀ (l : List Int) (i : Nat) (p : Int × List Int), p ∈ rawC i l → 0 < p.1 ∧ p.1 ∈ l ∧ ∃ s : Nat, p.2 = [(s : Int)] ∧ i ≤ s ∧ s < i + l.length
 | [], _, p, h => by cases h
 | c :: cs, i, p, h => by
  rw [rawC] at h
  have ih := rawC_mem cs (i + 1) p
  have key : p ∈ rawC (i + 1) cs → 0 < p.1 ∧ p.1 ∈ c :: cs ∧ ∃ s : Nat, p.2 = [(s : Int)] ∧ i ≤ s ∧ s < i + (c :: cs).length := fun h => by
   obtain ⟨h1, h2, s, h3, h4, h5⟩ := ih h
   exact ⟨h1, List.mem_cons_of_mem _ h2, s, h3, by omega, by simp only [List.length_cons]; omega⟩
  split at h
  ·rename_i hc
   rcases List.mem_cons.1 h with rfl | h
   ·exact ⟨hc, List.mem_cons_self, i, rfl, Nat.le_refl _, by simp only [List.length_cons]; omega⟩
   ·exact key h
  ·exact key h

/-! the sort by weight -/
theorem insK_end (x : Int × List Int) : ∀ acc : List (Int × List Int), (∀ y ∈ acc, y.1 ≤ x.1) → insK Prod.fst x acc = acc ++ [x]
 | [], _ => rfl
 | y :: ys, h => by
  have := h y List.mem_cons_self
  rw [insK, if_neg (by omega), insK_end x ys (fun z hz => h z (List.mem_cons_of_mem _ hz))]
  rfl
theorem insK_at (x : Int × List Int) : ∀ (m : Nat) (l : List (Int × List Int)), m ≤ l.length → (∀ y ∈ l.take m, y.1 ≤ x.1) → (∀ y ∈ l.drop m, x.1 < y.1) → insK Prod.fst x l = l.take m ++ x :: l.drop m
 | 0, [], _, _, _ => rfl
 | 0, y :: ys, _, _, h => by
  rw [insK, if_pos (h y List.mem_cons_self)]
  rfl
 | m + 1, [], h, _, _ => by simp at h
 | m + 1, y :: ys, h1, h2, h3 => by
  have := h2 y List.mem_cons_self
  rw [insK, if_neg (by omega), insK_at x m ys (by simpa using h1) (fun z hz => h2 z (List.mem_cons_of_mem _ hz)) h3]
  rfl
theorem insK_sortedP (x : Int × List Int) : ∀ l : List (Int × List Int), SortedP l → SortedP (insK Prod.fst x l)
 | [], _ => List.pairwise_singleton _ _
 | y :: ys, h => by
  obtain ⟨h1, h2⟩ := List.pairwise_cons.1 h
  rw [insK]
  split
  ·rename_i hc
   refine List.pairwise_cons.2 ⟨fun z hz => ?_, h⟩
   rcases List.mem_cons.1 hz with rfl | hz
   ·omega
   ·have := h1 z hz; omega
  ·rename_i hc
   refine List.pairwise_cons.2 ⟨fun z hz => ?_, insK_sortedP x ys h2⟩
   rcases List.mem_cons.1 ((insK_perm _ x ys).mem_iff.1 hz) with rfl | hz
   ·omega
   ·exact h1 z hz
theorem fold_sortedP : ∀ (B A : List (Int × List Int)), SortedP A → SortedP (B.foldl (fun acc x => insK Prod.fst x acc) A)
 | [], A, h => h
 | x :: B, A, h => by rw [List.foldl_cons]; exact fold_sortedP B _ (insK_sortedP x A h)
theorem isort_sortedP (l : List (Int × List Int)) : SortedP (isort Prod.fst l) := fold_sortedP l [] List.Pairwise.nil
theorem fold_end : ∀ (B A : List (Int × List Int)), (∀ y ∈ A, ∀ x ∈ B, y.1 ≤ x.1) → SortedP B → B.foldl (fun acc x => insK Prod.fst x acc) A = A ++ B
 | [], A, _, _ => by simp
 | x :: B, A, h, hB => by
  obtain ⟨h1, h2⟩ := List.pairwise_cons.1 hB
  rw [List.foldl_cons, insK_end x A (fun y hy => h y hy x List.mem_cons_self), fold_end B (A ++ [x]) ?_ h2]
  ·simp
  ·intro y hy z hz
   rcases List.mem_append.1 hy with hy | hy
   ·exact h y hy z (List.mem_cons_of_mem _ hz)
   ·rw [List.mem_singleton.1 hy]; exact h1 z hz
theorem fold_head (a : Int × List Int) : ∀ (B A : List (Int × List Int)), (∀ x ∈ B, a.1 ≤ x.1) → B.foldl (fun acc x => insK Prod.fst x acc) (a :: A) = a :: B.foldl (fun acc x => insK Prod.fst x acc) A
 | [], A, _ => rfl
 | x :: B, A, h => by
  have := h x List.mem_cons_self
  rw [List.foldl_cons, List.foldl_cons, insK, if_neg (by omega), fold_head a B _ (fun y hy => h y (List.mem_cons_of_mem _ hy))]
theorem fold_merge : ∀ (A B : List (Int × List Int)), SortedP A → SortedP B → B.foldl (fun acc x => insK Prod.fst x acc) A = mergeP A B
 | [], B, _, hB => by rw [mergeP, fold_end B [] (fun y hy => by cases hy) hB]; rfl
 | x :: A, [], _, _ => by rw [mergeP]; rfl
 | x :: A, y :: B, hA, hB => by
  obtain ⟨a1, a2⟩ := List.pairwise_cons.1 hA
  obtain ⟨b1, b2⟩ := List.pairwise_cons.1 hB
  rw [mergeP]
  split
  ·rename_i hc
   rw [fold_head x (y :: B) A ?_, fold_merge A (y :: B) a2 hB]
   intro z hz
   rcases List.mem_cons.1 hz with rfl | hz
   ·exact hc
   ·have := b1 z hz; omega
  ·rename_i hc
   rw [List.foldl_cons, insK, if_pos (by omega), fold_head y B (x :: A) b1, fold_merge (x :: A) B hA b2]
termination_by A B => A.length + B.length
theorem isort_append (A B : List (Int × List Int)) (hA : SortedP A) (hB : SortedP B) : isort Prod.fst (A ++ B) = mergeP A B := by
 have h1 := fold_end A [] (fun y hy => by cases hy) hA
 unfold isort
 rw [List.foldl_append, h1]
 exact fold_merge A B hA hB

/-! the program's two lists -/
theorem coinsOf_loop (l : List Int) (hl : l.length ≤ 288) (d : Nat) : ∀ (j : Nat) (x : List (Int × List Int)), j + d = l.length → x.length ≤ j →
  Ev (fun k => impl_coinsOf.l0 k (x.map c101) l (l.length : Int) (j : Int)) ((x ++ rawC j (l.drop j)).map c101) := by
 induction d with
 | zero =>
  intro j x h hx
  refine ev_ret (fun k => ?_)
  rw [List.drop_of_length_le (by omega), rawC, List.append_nil, impl_coinsOf.l0, if_neg (by omega)]
 | succ d ih =>
  intro j x h hx
  rw [drop_rd l j (by omega), rawC]
  by_cases hc : 0 < rd l j
  ·rw [if_pos hc]
   have e := ih (j + 1) (x ++ [(rd l j, [(j : Int)])]) (by omega) (by simp; omega)
   rw [List.append_assoc] at e
   refine Ev.step (fun k => ?_) e
   rw [impl_coinsOf.l0, if_pos (by omega), if_pos (by omega), if_pos (by omega), if_pos hc, if_pos (by simp; omega), w64_1 j (by omega), List.map_append]
   rfl
  ·rw [if_neg hc]
   refine Ev.step (fun k => ?_) (ih (j + 1) x (by omega) (by omega))
   rw [impl_coinsOf.l0, if_pos (by omega), if_pos (by omega), if_pos (by omega), if_neg hc, w64_1 j (by omega)]
/-- The first list. -/
def firstP (l : List Int) : List (Int × List Int) := isort Prod.fst (rawC 0 l)
theorem firstP_len (l : List Int) : (firstP l).length ≤ l.length := by
 unfold firstP
 rw [(isort_perm _ _).length_eq]
 exact rawC_len l 0
theorem coinsOf_is (l : List Int) (hl : l.length ≤ 288) : Ev (fun k => impl_coinsOf.f k l) ((firstP l).map c101) := by
 have e := coinsOf_loop l hl l.length 0 [] (by omega) (by simp)
 have hlen := rawC_len l 0
 refine ev_end e (fun k h => ?_)
 have h2 : impl_coinsOf.u k l = some ((rawC 0 l).map c101) := h
 unfold impl_coinsOf.f firstP
 rw [h2, Option.bind_some, if_pos (by rw [List.length_map]; omega), isort_map Prod.fst S101.f0 c101 (rawC 0 l) (fun _ _ => rfl)]
theorem pairP_short : ∀ l : List (Int × List Int), l.length ≤ 1 → pairP l = []
 | [], _ => by rw [pairP]; intro a b r h; cases h
 | [a], _ => by rw [pairP]; intro a b r h; cases h
 | a :: b :: r, h => by simp at h
theorem concat2 (a b : List Int) (ha : 0 < a.length) (h : a.length + b.length ≤ 1000000) : slices_Concat_int_int.f [a, b] = some (a ++ b) := by
 have e1 : MSlices.sumLen [a, b] = a.length + b.length := by simp [MSlices.sumLen]
 have e2 : MSlices.joined [a, b] = a ++ b := by simp [MSlices.joined]
 unfold slices_Concat_int_int.f MCoins.concatF
 rw [if_pos ⟨by simp, by omega, by omega⟩, e2]
/-- What a list's items are bound to. -/
structure Small (N : Nat) (B : Int) (C : Nat) (l : List (Int × List Int)) : Prop where
 wt : ∀ p ∈ l, 0 < p.1 ∧ p.1 ≤ B
 ne : ∀ p ∈ l, 0 < p.2.length ∧ p.2.length ≤ C
 rg : ∀ p ∈ l, ∀ s ∈ p.2, 0 ≤ s ∧ s < (N : Int)
theorem nextCoins_loop (N : Nat) (B : Int) (C : Nat) (hB : B ≤ 1000000000000) (hC : C ≤ 100000) (L : List (Int × List Int)) (hS : Small N B C L) (hL : L.length ≤ 1000) (d : Nat) : ∀ (j : Nat) (x : List (Int × List Int)), (L.length - j) / 2 = d → j ≤ L.length → x.length ≤ j + 1000 →
  Ev (fun k => impl_nextCoins.l0 k (L.map c101) (x.map c101) (j : Int)) ((x ++ pairP (L.drop j)).map c101) := by
 induction d with
 | zero =>
  intro j x h hj hx
  refine ev_ret (fun k => ?_)
  rw [pairP_short _ (by rw [List.length_drop]; omega), List.append_nil, impl_nextCoins.l0, w64_id (x := (j : Int) + 1) (by omega) (by omega), List.length_map, if_neg (by omega)]
 | succ d ih =>
  intro j x h hj hx
  have m1 := pAt_mem L j (by omega)
  have m2 := pAt_mem L (j + 1) (by omega)
  have a1 := hS.wt _ m1
  have a2 := hS.wt _ m2
  have b1 := hS.ne _ m1
  have b2 := hS.ne _ m2
  rw [drop_pAt L j (by omega), drop_pAt L (j + 1) (by omega), pairP]
  have e := ih (j + 2) (x ++ [((pAt L j).1 + (pAt L (j + 1)).1, (pAt L j).2 ++ (pAt L (j + 1)).2)]) (by omega) (by omega) (by simp; omega)
  rw [List.append_assoc] at e
  refine Ev.step (fun k => ?_) e
  rw [impl_nextCoins.l0, w64_1 j (by omega), w64_2 j (by omega), List.length_map, if_pos (by omega), if_pos (by omega), if_pos (by omega), if_pos (by omega), rd101, rd101]
  show (slices_Concat_int_int.f [(pAt L j).2, (pAt L (j + 1)).2]).bind _ = _
  rw [concat2 _ _ b1.1 (by omega), Option.bind_some, if_pos (by rw [List.length_map]; omega), List.map_append]
  show impl_nextCoins.l0 k _ (_ ++ [(⟨wrap64 ((pAt L j).1 + (pAt L (j + 1)).1), _⟩ : S101)]) _ = _
  rw [w64_id (x := (pAt L j).1 + (pAt L (j + 1)).1) (by omega) (by omega)]
  rfl
theorem nextCoins_is (N : Nat) (B : Int) (C : Nat) (hB : B ≤ 1000000000000) (hC : C ≤ 100000) (F L : List (Int × List Int)) (hS : Small N B C L) (hF : F.length ≤ 1000) (hL : L.length ≤ 1000) (sF : SortedP F) (sL : SortedP L) :
  Ev (fun k => impl_nextCoins.f k (F.map c101) (L.map c101)) ((mergeP F (pairP L)).map c101) := by
 have e := nextCoins_loop N B C hB hC L hS hL (L.length / 2) 0 F (by omega) (by omega) (by omega)
 rw [List.drop_zero] at e
 refine ev_end e (fun k h => ?_)
 have h2 : impl_nextCoins.u k (F.map c101) (L.map c101) = some ((F ++ pairP L).map c101) := by
  unfold impl_nextCoins.u
  rw [Option.bind_some, if_pos (by simp; omega)]
  exact h
 have hlen : (F ++ pairP L).length < 1000000000000 := by rw [List.length_append, pair_len]; omega
 unfold impl_nextCoins.f
 rw [h2, Option.bind_some, if_pos (by rw [List.length_map]; exact hlen), ← isort_map Prod.fst S101.f0 c101 (F ++ pairP L) (fun _ _ => rfl), isort_append F (pairP L) sF (pair_sorted L sL (fun p hp => (hS.wt p hp).1))]

/-! the reference's two lists -/
theorem drop_gt (x : List (Int × List Int)) (w : Int) (m : Nat) (h : ∀ i, m ≤ i → i < x.length → w < (pAt x i).1) : ∀ y ∈ x.drop m, w < y.1 := by
 intro y hy
 obtain ⟨i, hi, e⟩ := List.getElem_of_mem hy
 rw [List.length_drop] at hi
 rw [List.getElem_drop] at e
 rw [← e, ← pAt_eq x (m + i) (by omega)]
 exact h (m + i) (by omega) (by omega)
theorem take_le (x : List (Int × List Int)) (w : Int) (m : Nat) (hm : m < x.length) (hs : SortedP x) (h : (pAt x m).1 ≤ w) : ∀ y ∈ x.take (m + 1), y.1 ≤ w := by
 intro y hy
 obtain ⟨i, hi, e⟩ := List.getElem_of_mem hy
 rw [List.length_take] at hi
 rw [List.getElem_take] at e
 rw [pAt_eq x m hm] at h
 by_cases him : i = m
 ·subst him; rw [← e]; exact h
 ·have := List.pairwise_iff_getElem.1 hs i m (by omega) hm (by omega)
  rw [← e]
  omega
theorem firstS_ins (l : List Int) (hl : l.length ≤ 288) (j : Nat) (hj : j < l.length) (x : List (Int × List Int)) (hx : x.length ≤ j) (hs : SortedP x) (R : List S96)
  (e : Ev (fun k => spec_l04First.l0 k l ((insK Prod.fst (rd l j, [(j : Int)]) x).map c96) ((j + 1 : Nat) : Int)) R) : ∀ m : Nat, m ≤ x.length → (∀ i, m ≤ i → i < x.length → rd l j < (pAt x i).1) →
  Ev (fun k => spec_l04First.l1 k l (x.map c96) (j : Int) (m : Int) (rd l j) [(j : Int)]) R := by
 intro m
 induction m with
 | zero =>
  intro hm hg
  have hi := insK_at (rd l j, [(j : Int)]) 0 x (Nat.zero_le _) (fun y hy => by cases hy) (drop_gt x _ 0 hg)
  rw [hi] at e
  refine Ev.step (fun k => ?_) e
  rw [spec_l04First.l1, if_neg (by omega)]
  simp only [Option.bind_some, Int.toNat_natCast, List.nil_append, List.length_append, List.length_take, List.length_map, List.length_drop, List.length_nil, List.length_cons]
  rw [if_pos (by omega), if_pos (by omega), if_pos (by omega), if_pos (by omega), if_pos (by omega), w64_1 j (by omega)]
  rw [List.map_append, List.map_cons, List.map_take, List.map_drop, List.append_assoc]
  rfl
 | succ m ih =>
  intro hm hg
  by_cases hc : rd l j < (pAt x m).1
  ·refine Ev.step (fun k => ?_) (ih (by omega) (fun i h1 h2 => by
    by_cases him : i = m
    ·subst him; exact hc
    ·exact hg i (by omega) h2))
   rw [spec_l04First.l1, if_pos (by omega), w64_m m (by omega), if_pos (by omega), List.length_map, if_pos (by omega), rd96, if_pos (show (c96 (pAt x m)).f0 > rd l j from hc)]
  ·have hi := insK_at (rd l j, [(j : Int)]) (m + 1) x hm (take_le x _ m (by omega) hs (by omega)) (drop_gt x _ (m + 1) hg)
   rw [hi] at e
   refine Ev.step (fun k => ?_) e
   rw [spec_l04First.l1, if_pos (by omega), w64_m m (by omega), if_pos (by omega), List.length_map, if_pos (by omega), rd96, if_neg (show ¬ (c96 (pAt x m)).f0 > rd l j from hc)]
   simp only [Option.bind_some, Int.toNat_natCast, List.nil_append, List.length_append, List.length_take, List.length_map, List.length_drop, List.length_nil, List.length_cons]
   rw [if_pos (by omega), if_pos (by omega), if_pos (by omega), if_pos (by omega), if_pos (by omega), w64_1 j (by omega)]
   rw [List.map_append, List.map_cons, List.map_take, List.map_drop, List.append_assoc]
   rfl
theorem firstS_loop (l : List Int) (hl : l.length ≤ 288) (hp : ∀ j, j < l.length → 0 ≤ rd l j) (d : Nat) : ∀ (j : Nat) (x : List (Int × List Int)), j + d = l.length → x.length ≤ j → SortedP x →
  Ev (fun k => spec_l04First.l0 k l (x.map c96) (j : Int)) (((rawC j (l.drop j)).foldl (fun acc p => insK Prod.fst p acc) x).map c96) := by
 induction d with
 | zero =>
  intro j x h hx hs
  refine ev_ret (fun k => ?_)
  rw [List.drop_of_length_le (by omega), rawC, spec_l04First.l0, if_neg (by omega)]
  rfl
 | succ d ih =>
  intro j x h hx hs
  have h0 := hp j (by omega)
  rw [drop_rd l j (by omega), rawC]
  by_cases hc : 0 < rd l j
  ·rw [if_pos hc, List.foldl_cons]
   have hil : (insK Prod.fst (rd l j, [(j : Int)]) x).length = x.length + 1 := (insK_perm _ _ x).length_eq
   have e := firstS_ins l hl j (by omega) x hx hs _ (ih (j + 1) (insK Prod.fst (rd l j, [(j : Int)]) x) (by omega) (by omega) (insK_sortedP _ x hs)) x.length (Nat.le_refl _) (fun i h1 h2 => by omega)
   refine Ev.step (fun k => ?_) e
   rw [spec_l04First.l0, if_pos (by omega), if_pos (by omega), if_neg (by omega), List.length_map]
  ·rw [if_neg hc]
   refine Ev.step (fun k => ?_) (ih (j + 1) x (by omega) (by omega) hs)
   rw [spec_l04First.l0, if_pos (by omega), if_pos (by omega), if_pos (by omega), w64_1 j (by omega)]
theorem firstS_is (l : List Int) (hl : l.length ≤ 288) (hp : ∀ j, j < l.length → 0 ≤ rd l j) : Ev (fun k => spec_l04First.f k l) ((firstP l).map c96) :=
 firstS_loop l hl hp l.length 0 [] (by omega) (by simp) List.Pairwise.nil
theorem merge_nil_left (B : List (Int × List Int)) : mergeP [] B = B := by rw [mergeP]
theorem nextS_in (F L : List (Int × List Int)) (j : Nat) (hj : j + 1 < L.length) (hL : L.length ≤ 1000) (hF : F.length ≤ 1000) (p : Int × List Int)
  (ih : ∀ (a : Nat) (x : List (Int × List Int)), a ≤ F.length → x.length ≤ a + j + 2 → Ev (fun k => spec_l04Next.l0 k (F.map c96) (L.map c96) (x.map c96) (a : Int) ((j + 2 : Nat) : Int)) ((x ++ mergeP (F.drop a) (pairP (L.drop (j + 2)))).map c96)) (d : Nat) :
  ∀ (a : Nat) (x : List (Int × List Int)), a + d = F.length → x.length ≤ a + j →
   Ev (fun k => spec_l04Next.l1 k (F.map c96) (L.map c96) (x.map c96) (a : Int) (j : Int) p.1 p.2) ((x ++ mergeP (F.drop a) (p :: pairP (L.drop (j + 2)))).map c96) := by
 induction d with
 | zero =>
  intro a x h hx
  have e := ih a (x ++ [p]) (by omega) (by simp; omega)
  rw [List.drop_of_length_le (by omega), merge_nil_left] at e ⊢
  rw [List.append_assoc] at e
  refine Ev.step (fun k => ?_) e
  rw [spec_l04Next.l1, List.length_map, if_neg (by omega), List.length_map, if_pos (by omega), w64_2 j (by omega), List.map_append]
  rfl
 | succ d ihd =>
  intro a x h hx
  rw [drop_pAt F a (by omega), mergeP]
  by_cases hc : (pAt F a).1 ≤ p.1
  ·rw [if_pos hc]
   have e := ihd (a + 1) (x ++ [pAt F a]) (by omega) (by simp; omega)
   rw [List.append_assoc] at e
   refine Ev.step (fun k => ?_) e
   rw [spec_l04Next.l1, List.length_map, if_pos (by omega), if_pos (by omega), rd96, if_pos (show (c96 (pAt F a)).f0 ≤ p.1 from hc), List.length_map, if_pos (by omega), w64_1 a (by omega), List.map_append]
   rfl
  ·rw [if_neg hc]
   have e := ih a (x ++ [p]) (by omega) (by simp; omega)
   rw [List.append_assoc, drop_pAt F a (by omega)] at e
   refine Ev.step (fun k => ?_) e
   rw [spec_l04Next.l1, List.length_map, if_pos (by omega), if_pos (by omega), rd96, if_neg (show ¬ (c96 (pAt F a)).f0 ≤ p.1 from hc), List.length_map, if_pos (by omega), w64_2 j (by omega), List.map_append]
   rfl
theorem nextS_loop (N : Nat) (B : Int) (C : Nat) (hB : B ≤ 1000000000000) (hC : C ≤ 100000) (F L : List (Int × List Int)) (hS : Small N B C L) (hL : L.length ≤ 1000) (hF : F.length ≤ 1000) (d : Nat) : ∀ (j a : Nat) (x : List (Int × List Int)), (L.length - j) / 2 = d → j ≤ L.length → a ≤ F.length → x.length ≤ a + j →
  Ev (fun k => spec_l04Next.l0 k (F.map c96) (L.map c96) (x.map c96) (a : Int) (j : Int)) ((x ++ mergeP (F.drop a) (pairP (L.drop j))).map c96) := by
 induction d with
 | zero =>
  intro j a x h hj ha hx
  refine ev_ret (fun k => ?_)
  rw [pairP_short (L.drop j) (by rw [List.length_drop]; omega), merge_nil, spec_l04Next.l0, w64_id (x := (j : Int) + 1) (by omega) (by omega), List.length_map, if_neg (by omega), if_pos (by omega), List.length_map, if_pos (by omega), Int.toNat_natCast, Option.bind_some, List.length_map, List.length_drop, List.length_map, if_pos (by omega), List.map_append, List.map_drop]
 | succ d ih =>
  intro j a x h hj ha hx
  have m1 := pAt_mem L j (by omega)
  have m2 := pAt_mem L (j + 1) (by omega)
  have a1 := hS.wt _ m1
  have a2 := hS.wt _ m2
  have b1 := hS.ne _ m1
  have b2 := hS.ne _ m2
  rw [drop_pAt L j (by omega), drop_pAt L (j + 1) (by omega), pairP]
  have e := nextS_in F L j (by omega) hL hF ((pAt L j).1 + (pAt L (j + 1)).1, (pAt L j).2 ++ (pAt L (j + 1)).2) (fun a x ha hx => ih (j + 2) a x (by omega) (by omega) ha (by omega)) (F.length - a) a x (by omega) hx
  refine Ev.step (fun k => ?_) e
  rw [spec_l04Next.l0, w64_1 j (by omega), List.length_map, if_pos (by omega), if_pos (by omega), if_pos (by omega), if_pos (by omega), rd96, rd96]
  show (if ([] : List Int).length + (pAt L j).2.length < 17592186044416 then _ else _) = _
  rw [if_pos (by simp; omega), Option.bind_some, List.nil_append]
  show (if (pAt L j).2.length + (pAt L (j + 1)).2.length < 17592186044416 then spec_l04Next.l1 k (F.map c96) (L.map c96) (x.map c96) (a : Int) (j : Int) (wrap64 ((pAt L j).1 + (pAt L (j + 1)).1)) ((pAt L j).2 ++ (pAt L (j + 1)).2) else _) = _
  rw [if_pos (by omega), w64_id (x := (pAt L j).1 + (pAt L (j + 1)).1) (by omega) (by omega)]
theorem nextS_is (N : Nat) (B : Int) (C : Nat) (hB : B ≤ 1000000000000) (hC : C ≤ 100000) (F L : List (Int × List Int)) (hS : Small N B C L) (hF : F.length ≤ 1000) (hL : L.length ≤ 1000) :
  Ev (fun k => spec_l04Next.f k (F.map c96) (L.map c96)) ((mergeP F (pairP L)).map c96) :=
 nextS_loop N B C hB hC F L hS hL hF (L.length / 2) 0 0 [] (by omega) (by omega) (by omega) (by simp)

/-! the lists' bounds -/
theorem merge_small {N : Nat} {B : Int} {C : Nat} {A L : List (Int × List Int)} (h1 : Small N B C A) (h2 : Small N B C L) : Small N B C (mergeP A L) where
 wt p hp := by rcases (merge_mem _ _ _).1 hp with h | h; exact h1.wt p h; exact h2.wt p h
 ne p hp := by rcases (merge_mem _ _ _).1 hp with h | h; exact h1.ne p h; exact h2.ne p h
 rg p hp := by rcases (merge_mem _ _ _).1 hp with h | h; exact h1.rg p h; exact h2.rg p h
theorem small_le {N : Nat} {B B' : Int} {C C' : Nat} {A : List (Int × List Int)} (h : Small N B C A) (hB : B ≤ B') (hC : C ≤ C') : Small N B' C' A where
 wt p hp := ⟨(h.wt p hp).1, Int.le_trans (h.wt p hp).2 hB⟩
 ne p hp := ⟨(h.ne p hp).1, Nat.le_trans (h.ne p hp).2 hC⟩
 rg := h.rg
theorem small_nil (N : Nat) (B : Int) (C : Nat) : Small N B C [] := ⟨(fun p h => nomatch h), (fun p h => nomatch h), (fun p h => nomatch h)⟩
theorem pair_small {N : Nat} {B : Int} {C : Nat} : ∀ {L : List (Int × List Int)}, Small N B C L → Small N (2 * B) (2 * C) (pairP L)
 | [], _ => by rw [pairP_short [] (by simp)]; exact small_nil _ _ _
 | [a], _ => by rw [pairP_short [a] (by simp)]; exact small_nil _ _ _
 | a :: b :: r, h => by
  have ih := pair_small (L := r) ⟨fun p hp => h.wt p (by simp [hp]), fun p hp => h.ne p (by simp [hp]), fun p hp => h.rg p (by simp [hp])⟩
  have a1 := h.wt a (by simp)
  have a2 := h.wt b (by simp)
  have b1 := h.ne a (by simp)
  have b2 := h.ne b (by simp)
  rw [pairP]
  refine ⟨fun p hp => ?_, fun p hp => ?_, fun p hp => ?_⟩
  ·rcases List.mem_cons.1 hp with rfl | hp
   ·show 0 < a.1 + b.1 ∧ a.1 + b.1 ≤ _; omega
   ·exact ih.wt p hp
  ·rcases List.mem_cons.1 hp with rfl | hp
   ·show 0 < (a.2 ++ b.2).length ∧ (a.2 ++ b.2).length ≤ _; rw [List.length_append]; omega
   ·exact ih.ne p hp
  ·rcases List.mem_cons.1 hp with rfl | hp
   ·intro s hs
    rcases List.mem_append.1 (show s ∈ a.2 ++ b.2 from hs) with hs | hs
    ·exact h.rg a (by simp) s hs
    ·exact h.rg b (by simp) s hs
   ·exact ih.rg p hp
theorem firstP_small (l : List Int) (hv : ∀ x ∈ l, x ≤ 12000) : Small l.length 12000 1 (firstP l) := by
 have key : ∀ p ∈ firstP l, p ∈ rawC 0 l := fun p hp => (isort_perm _ _).mem_iff.1 hp
 refine ⟨fun p hp => ?_, fun p hp => ?_, fun p hp => ?_⟩
 ·obtain ⟨h1, h2, _⟩ := rawC_mem l 0 p (key p hp)
  exact ⟨h1, hv _ h2⟩
 ·obtain ⟨_, _, s, h3, _⟩ := rawC_mem l 0 p (key p hp)
  rw [h3]
  exact ⟨Nat.lt_add_one 0, Nat.le_refl _⟩
 ·obtain ⟨_, _, s, h3, h4, h5⟩ := rawC_mem l 0 p (key p hp)
  intro t ht
  rw [h3] at ht
  rw [List.mem_singleton.1 ht]
  omega
theorem lev_small {N : Nat} {B : Int} {F : List (Int × List Int)} (hB : 0 ≤ B) (h : Small N B 1 F) : ∀ k, Small N (B * 2 ^ k) (2 ^ k) (lev F k)
 | 0 => by rw [Int.pow_zero, Int.mul_one]; exact h
 | k + 1 => by
  have ih := lev_small hB h k
  have e1 : B * 2 ^ (k + 1) = 2 * (B * 2 ^ k) := by rw [Int.pow_succ, ← Int.mul_assoc, Int.mul_comm]
  have e2 : 2 ^ (k + 1) = 2 * 2 ^ k := by rw [Nat.pow_succ, Nat.mul_comm]
  have hp : (1 : Int) ≤ 2 ^ (k + 1) := by have : (0 : Int) < 2 ^ (k + 1) := Int.pow_pos (by omega); omega
  rw [lev]
  refine merge_small (small_le h ?_ (Nat.one_le_two_pow)) ?_
  ·have := Int.mul_le_mul_of_nonneg_left hp hB
   rwa [Int.mul_one] at this
  ·rw [e1, e2]
   exact pair_small ih
theorem lev_len {F : List (Int × List Int)} : ∀ k, (lev F k).length ≤ 2 * F.length
 | 0 => by show F.length ≤ _; omega
 | k + 1 => by
  have := lev_len (F := F) k
  rw [lev, merge_len, pair_len]
  omega
theorem lev_many {F : List (Int × List Int)} (L : Nat) (h : F.length ≤ 2 ^ L) : ∀ k, k ≤ L → 2 * F.length ≤ (lev F k).length + 2 ^ (L - k)
 | 0, _ => by show 2 * F.length ≤ F.length + 2 ^ L; omega
 | k + 1, hk => by
  have ih := lev_many L h k (by omega)
  have e : 2 ^ (L - k) = 2 * 2 ^ (L - (k + 1)) := by rw [show L - k = (L - (k + 1)) + 1 by omega, Nat.pow_succ, Nat.mul_comm]
  rw [e] at ih
  rw [lev, merge_len, pair_len]
  omega
/-! the levels, on both sides -/
theorem pow15 (k : Nat) (h : k ≤ 14) : (2 : Int) ^ k ≤ 16384 ∧ (2 : Nat) ^ k ≤ 16384 := by
 have h2 : (2 : Nat) ^ k ≤ 2 ^ 14 := Nat.pow_le_pow_right (by omega) h
 have h1 : (2 : Int) ^ k = ((2 ^ k : Nat) : Int) := by simp
 rw [h1]
 omega
theorem lev_small15 {N : Nat} {F : List (Int × List Int)} (h : Small N 12000 1 F) (k : Nat) (hk : k ≤ 14) : Small N 1000000000000 16384 (lev F k) := by
 have h1 := pow15 k hk
 refine small_le (lev_small (by omega) h k) ?_ h1.2
 have := Int.mul_le_mul_of_nonneg_left h1.1 (show (0 : Int) ≤ 12000 by omega)
 omega
theorem tally_sub {N : Nat} {F : List (Int × List Int)} (h : Small N 12000 1 F) (hF : F.length ≤ 288) (sF : SortedP F) (k : Nat) (hk : k ≤ 14) (n : Nat) : Small N 1000000000000 16384 ((lev F k).take n) := by
 have := lev_small15 h k hk
 exact ⟨fun p hp => this.wt p (List.mem_of_mem_take hp), fun p hp => this.ne p (List.mem_of_mem_take hp), fun p hp => this.rg p (List.mem_of_mem_take hp)⟩
/-- One more for each symbol. -/
def tallyS (o : List Int) (s : List Int) : List Int := s.foldl (fun o x => o.set x.toNat (rd o x + 1)) o
def tally (o : List Int) (l : List (Int × List Int)) : List Int := l.foldl (fun o p => tallyS o p.2) o
theorem tallyS_len : ∀ (s o : List Int), (tallyS o s).length = o.length
 | [], o => rfl
 | x :: s, o => by
  show (tallyS (o.set x.toNat (rd o x + 1)) s).length = _
  rw [tallyS_len s, List.length_set]
theorem tally_len : ∀ (l : List (Int × List Int)) (o : List Int), (tally o l).length = o.length
 | [], o => rfl
 | p :: l, o => by
  show (tally (tallyS o p.2) l).length = _
  rw [tally_len l, tallyS_len]
def Bnd (o : List Int) (c : Nat) : Prop := ∀ i : Nat, 0 ≤ rd o i ∧ rd o i ≤ c
theorem bnd_set {o : List Int} {c : Nat} (h : Bnd o c) (i : Nat) (hi : i < o.length) : Bnd (o.set i (rd o i + 1)) (c + 1) := by
 intro j
 have h1 := h i
 have h2 := h j
 rw [rd_set o i _ j hi]
 split <;> omega
theorem bnd_tallyS : ∀ (s o : List Int) (c : Nat), Bnd o c → (∀ x ∈ s, 0 ≤ x ∧ x < (o.length : Int)) → Bnd (tallyS o s) (c + s.length)
 | [], o, c, h, _ => h
 | x :: s, o, c, h, hs => by
  obtain ⟨h1, h2⟩ := hs x List.mem_cons_self
  obtain ⟨n, rfl⟩ := Int.eq_ofNat_of_zero_le h1
  have := bnd_tallyS s (o.set n (rd o n + 1)) (c + 1) (bnd_set h n (by omega)) (fun y hy => by rw [List.length_set]; exact hs y (List.mem_cons_of_mem _ hy))
  rw [List.length_cons, show c + (s.length + 1) = c + 1 + s.length by omega]
  exact this

/-! the last loops -/
theorem tallyS_cons (o : List Int) (x : Nat) (s : List Int) : tallyS o ((x : Int) :: s) = tallyS (o.set x (rd o x + 1)) s := rfl
theorem tallyI (s : List Int) (N c : Nat) (hc : c + s.length ≤ 1000000000000) (hr : ∀ x ∈ s, 0 ≤ x ∧ x < (N : Int)) (L' : List S101) (m t : Int) (R : List Int × Bool) (d : Nat) : ∀ (i : Nat) (o : List Int), i + d = s.length → o.length = N → Bnd o (c + i) →
  Ev (fun k => impl_LimitedLengths.l2 k (tallyS o (s.drop i)) L' m (wrap64 (t + 1))) R → Ev (fun k => impl_LimitedLengths.l3 k o L' m t s (s.length : Int) (i : Int)) R := by
 induction d with
 | zero =>
  intro i o h ho hb e
  rw [List.drop_of_length_le (by omega)] at e
  refine Ev.step (fun k => ?_) e
  rw [impl_LimitedLengths.l3, if_neg (by omega)]
  rfl
 | succ d ih =>
  intro i o h ho hb e
  rw [drop_rd s i (by omega)] at e
  obtain ⟨h1, h2⟩ := hr _ (rd_mem s i (by omega))
  obtain ⟨x, hx⟩ := Int.eq_ofNat_of_zero_le h1
  rw [hx] at e h2
  rw [tallyS_cons] at e
  have hbx := hb x
  have e2 := ih (i + 1) (o.set x (rd o x + 1)) (by omega) (by rw [List.length_set]; exact ho) (bnd_set hb x (by omega)) e
  refine Ev.step (fun k => ?_) e2
  rw [impl_LimitedLengths.l3, if_pos (by omega), if_pos (by omega), if_pos (by omega), hx, if_pos (by omega), if_pos (by omega), Int.toNat_natCast, w64_id (x := rd o x + 1) (by omega) (by omega), w64_1 i (by omega)]
theorem tally_cons (o : List Int) (p : Int × List Int) (l : List (Int × List Int)) : tally o (p :: l) = tally (tallyS o p.2) l := rfl
theorem tallysI (N : Nat) (L : List (Int × List Int)) (hS : Small N 1000000000000 16384 L) (hL : L.length ≤ 1000) (d : Nat) : ∀ (t : Nat) (o : List Int), t + d = L.length → o.length = N → Bnd o (16384 * t) →
  Ev (fun k => impl_LimitedLengths.l2 k o (L.map c101) (L.length : Int) (t : Int)) (tally o (L.drop t), true) := by
 induction d with
 | zero =>
  intro t o h ho hb
  refine ev_ret (fun k => ?_)
  rw [List.drop_of_length_le (by omega), impl_LimitedLengths.l2, if_neg (by omega)]
  rfl
 | succ d ih =>
  intro t o h ho hb
  have hm := pAt_mem L t (by omega)
  have hn := hS.ne _ hm
  have hr := hS.rg _ hm
  have b1 := bnd_tallyS (pAt L t).2 o (16384 * t) hb (fun x hx => by rw [ho]; exact hr x hx)
  have e := ih (t + 1) (tallyS o (pAt L t).2) (by omega) (by rw [tallyS_len]; exact ho) (fun i => by have := b1 i; omega)
  rw [← w64_1 t (by omega)] at e
  have e2 := tallyI (pAt L t).2 N (16384 * t) (by omega) hr (L.map c101) (L.length : Int) (t : Int) _ (pAt L t).2.length 0 o (by omega) ho hb e
  rw [drop_pAt L t (by omega), tally_cons]
  refine Ev.step (fun k => ?_) e2
  rw [impl_LimitedLengths.l2, if_pos (by omega), if_pos (by omega), List.length_map, if_pos (by omega), rd101]
  rfl
theorem tallyR (N c : Nat) (L : List (Int × List Int)) (t : Nat) (ht : t < L.length) (hL : L.length ≤ 1000) (hc : c + (pAt L t).2.length ≤ 1000000000000) (hr : ∀ x ∈ (pAt L t).2, 0 ≤ x ∧ x < (N : Int)) (n : Int) (R : List Int × Bool) (d : Nat) : ∀ (i : Nat) (o : List Int), i + d = (pAt L t).2.length → o.length = N → Bnd o (c + i) →
  Ev (fun k => spec_LimitedLengths.l2 k n (tallyS o ((pAt L t).2.drop i)) (L.map c96) ((t + 1 : Nat) : Int)) R → Ev (fun k => spec_LimitedLengths.l3 k n o (L.map c96) (t : Int) (i : Int)) R := by
 have e0 : (c96 (pAt L t)).f1 = (pAt L t).2 := rfl
 induction d with
 | zero =>
  intro i o h ho hb e
  rw [List.drop_of_length_le (by omega)] at e
  refine Ev.step (fun k => ?_) e
  rw [spec_LimitedLengths.l3, if_pos (by omega), List.length_map, if_pos (by omega), rd96, e0, if_neg (by omega), w64_1 t (by omega)]
  rfl
 | succ d ih =>
  intro i o h ho hb e
  rw [drop_rd _ i (by omega)] at e
  obtain ⟨h1, h2⟩ := hr _ (rd_mem _ i (by omega))
  obtain ⟨x, hx⟩ := Int.eq_ofNat_of_zero_le h1
  rw [hx] at e h2
  rw [tallyS_cons] at e
  have hbx := hb x
  have e2 := ih (i + 1) (o.set x (rd o x + 1)) (by omega) (by rw [List.length_set]; exact ho) (bnd_set hb x (by omega)) e
  refine Ev.step (fun k => ?_) e2
  rw [spec_LimitedLengths.l3, if_pos (by omega), List.length_map, if_pos (by omega), rd96, e0, if_pos (by omega), if_pos (by omega), hx, if_pos (by omega), if_pos (by omega), Int.toNat_natCast, w64_id (x := rd o x + 1) (by omega) (by omega), w64_1 i (by omega)]
theorem pAt_take (L : List (Int × List Int)) (M t : Nat) (h : t < M) : pAt (L.take M) t = pAt L t := by unfold pAt; rw [List.getD_eq_getElem?_getD, List.getD_eq_getElem?_getD, List.getElem?_take_of_lt h]
theorem w64_2n (n : Nat) (h1 : 1 ≤ n) (h : n ≤ 1000000) : wrap64 (wrap64 (2 * (n : Int)) - 2) = ((2 * n - 2 : Nat) : Int) := by
 rw [w64_id (x := 2 * (n : Int)) (by omega) (by omega), w64_id (by omega) (by omega)]
 omega
theorem tallysR (N n : Nat) (L : List (Int × List Int)) (hS : Small N 1000000000000 16384 L) (hL : L.length ≤ 1000) (h1 : 1 ≤ n) (hn : 2 * n - 2 ≤ L.length) (d : Nat) : ∀ (t : Nat) (o : List Int), t + d = 2 * n - 2 → o.length = N → Bnd o (16384 * t) →
  Ev (fun k => spec_LimitedLengths.l2 k (n : Int) o (L.map c96) (t : Int)) (tally o ((L.take (2 * n - 2)).drop t), true) := by
 induction d with
 | zero =>
  intro t o h ho hb
  refine ev_ret (fun k => ?_)
  rw [List.drop_of_length_le (by rw [List.length_take]; omega), spec_LimitedLengths.l2, w64_2n n h1 (by omega), if_neg (by omega)]
  rfl
 | succ d ih =>
  intro t o h ho hb
  have hm := pAt_mem L t (by omega)
  have hn2 := hS.ne _ hm
  have hr := hS.rg _ hm
  have b1 := bnd_tallyS (pAt L t).2 o (16384 * t) hb (fun x hx => by rw [ho]; exact hr x hx)
  have e := ih (t + 1) (tallyS o (pAt L t).2) (by omega) (by rw [tallyS_len]; exact ho) (fun i => by have := b1 i; omega)
  have e2 := tallyR N (16384 * t) L t (by omega) hL (by omega) hr (n : Int) _ (pAt L t).2.length 0 o (by omega) ho hb e
  rw [drop_pAt (L.take (2 * n - 2)) t (by rw [List.length_take]; omega), tally_cons, pAt_take L _ t (by omega)]
  refine Ev.step (fun k => ?_) e2
  rw [spec_LimitedLengths.l2, w64_2n n h1 (by omega), if_pos (by omega)]
  rfl

/-! the levels -/
theorem bnd_zero (n : Nat) : Bnd (List.replicate n 0) 0 := by
 intro i
 rw [rd_nat, List.getD_eq_getElem?_getD, List.getElem?_replicate]
 split <;> simp
/-- What is known of the first list. -/
structure First (N : Nat) (F : List (Int × List Int)) : Prop where
 small : Small N 12000 1 F
 len : F.length ≤ 288
 sorted : SortedP F
theorem first_pos {N : Nat} {F : List (Int × List Int)} (h : First N F) : PosP F := fun p hp => (h.small.wt p hp).1
theorem levelsI (N : Nat) (F : List (Int × List Int)) (hF : First N F) (h2 : 2 ≤ F.length) (L : Nat) (h1 : 1 ≤ L) (hL : L ≤ 15) (hm : F.length ≤ 2 ^ L) (o : List Int) (ho : o.length = N) (hb : Bnd o 0) (d : Nat) : ∀ t : Nat, t + d = L - 1 →
  Ev (fun k => impl_LimitedLengths.l1 k (F.map c101) (F.length : Int) o ((lev F t).map c101) ((L - 1 : Nat) : Int) (t : Int)) (tally o ((lev F (L - 1)).take (2 * F.length - 2)), true) := by
 have hlen := hF.len
 induction d with
 | zero =>
  intro t h
  obtain rfl : t = L - 1 := by omega
  have hl := lev_len (F := F) (L - 1)
  have hg := lev_many (F := F) L hm (L - 1) (by omega)
  rw [show L - (L - 1) = 1 by omega, Nat.pow_one] at hg
  have hS := tally_sub hF.small hF.len hF.sorted (L - 1) (by omega) (2 * F.length - 2)
  have hml : ((lev F (L - 1)).take (2 * F.length - 2)).length = 2 * F.length - 2 := by rw [List.length_take]; omega
  have e := tallysI N _ hS (by omega) ((lev F (L - 1)).take (2 * F.length - 2)).length 0 o (by omega) ho hb
  rw [List.drop_zero] at e
  refine Ev.step (fun k => ?_) e
  rw [impl_LimitedLengths.l1, if_neg (by omega), w64_2n F.length (by omega) (by omega), if_pos (by omega), List.length_map, if_pos (by omega), Option.bind_some, Int.toNat_natCast, ← List.map_take, List.length_map]
  rfl
 | succ d ih =>
  intro t h
  have hl := lev_len (F := F) t
  have hS := lev_small15 hF.small t (by omega)
  obtain ⟨s1, s2⟩ := lev_ok F hF.sorted (first_pos hF) t
  refine ev_use_step (nextCoins_is N _ _ (Int.le_refl _) (by omega) F (lev F t) hS (by omega) (by omega) hF.sorted s1) (fun k hk => ?_) (ih (t + 1) (by omega))
  rw [impl_LimitedLengths.l1, if_pos (by omega), hk, Option.bind_some, w64_1 t (by omega)]
  rfl
theorem levelsR (N : Nat) (F : List (Int × List Int)) (hF : First N F) (h2 : 2 ≤ F.length) (L : Nat) (h1 : 1 ≤ L) (hL : L ≤ 15) (hm : F.length ≤ 2 ^ L) (o : List Int) (ho : o.length = N) (hb : Bnd o 0) (d : Nat) : ∀ t : Nat, t + d = L - 1 →
  Ev (fun k => spec_LimitedLengths.l1 k (L : Int) (F.length : Int) o (F.map c96) ((lev F t).map c96) ((t + 1 : Nat) : Int)) (tally o ((lev F (L - 1)).take (2 * F.length - 2)), true) := by
 have hlen := hF.len
 induction d with
 | zero =>
  intro t h
  obtain rfl : t = L - 1 := by omega
  have hl := lev_len (F := F) (L - 1)
  have hg := lev_many (F := F) L hm (L - 1) (by omega)
  rw [show L - (L - 1) = 1 by omega, Nat.pow_one] at hg
  have hS := lev_small15 hF.small (L - 1) (by omega)
  have e := tallysR N F.length _ hS (by omega) (by omega) (by omega) (2 * F.length - 2) 0 o (by omega) ho hb
  rw [List.drop_zero] at e
  refine Ev.step (fun k => ?_) e
  rw [spec_LimitedLengths.l1, if_neg (by omega)]
  rfl
 | succ d ih =>
  intro t h
  have hl := lev_len (F := F) t
  have hS := lev_small15 hF.small t (by omega)
  refine ev_use_step (nextS_is N _ _ (Int.le_refl _) (by omega) F (lev F t) hS (by omega) (by omega)) (fun k hk => ?_) (ih (t + 1) (by omega))
  rw [spec_LimitedLengths.l1, if_pos (by omega), hk, Option.bind_some, w64_1 (t + 1) (by omega)]
  rfl

/-! the whole of it -/
/-- What LimitedLengths comes to, on both sides. -/
def limited (l : List Int) (n : Int) : List Int × Bool :=
 if (∀ x ∈ l, 0 ≤ x ∧ x ≤ 12000) ∧ l.length ≤ 288 ∧ 1 ≤ n ∧ n ≤ 15 ∧ ((firstP l).length : Int) ≤ 2 ^ n.toNat then
  if (firstP l).length = 1 then ((List.replicate l.length 0).set (rd (pAt (firstP l) 0).2 0).toNat 1, true)
  else if (firstP l).length < 2 then (List.replicate l.length 0, true)
  else (tally (List.replicate l.length 0) ((lev (firstP l) (n.toNat - 1)).take (2 * (firstP l).length - 2)), true)
 else ([], false)
theorem firstP_First (l : List Int) (hl : l.length ≤ 288) (hv : ∀ x ∈ l, 0 ≤ x ∧ x ≤ 12000) : First l.length (firstP l) where
 small := firstP_small l (fun x hx => (hv x hx).2)
 len := Nat.le_trans (firstP_len l) hl
 sorted := isort_sortedP _
theorem firstP_one {l : List Int} (hF : First l.length (firstP l)) (h : 0 < (firstP l).length) : 0 < (pAt (firstP l) 0).2.length ∧ 0 ≤ rd (pAt (firstP l) 0).2 0 ∧ rd (pAt (firstP l) 0).2 0 < (l.length : Int) := by
 have hm := pAt_mem (firstP l) 0 h
 have h1 := hF.small.ne _ hm
 have h2 := hF.small.rg _ hm _ (rd_mem (pAt (firstP l) 0).2 0 h1.1)
 exact ⟨h1.1, h2.1, h2.2⟩
theorem limited_len (l : List Int) (n : Int) : (limited l n).1.length ≤ 288 := by
 unfold limited
 split
 ·rename_i h
  split
  ·show ((List.replicate l.length 0).set _ 1).length ≤ 288
   rw [List.length_set, List.length_replicate]; exact h.2.1
  ·split
   ·show (List.replicate l.length 0).length ≤ 288
    rw [List.length_replicate]; exact h.2.1
   ·show (tally _ _).length ≤ 288
    rw [tally_len, List.length_replicate]; exact h.2.1
 ·exact Nat.zero_le _
/-- the numbers are looked at, one after the other -/
theorem checkI (l : List Int) (hl : l.length ≤ 1048576) (n : Int) (R : List Int × Bool) (e : Ev (fun k => if (l.length : Int) > 288 then impl_LimitedLengths.j1 k l n true else (impl_within.f n 1 15).bind fun t => impl_LimitedLengths.j1 k l n (!t)) R) (d : Nat) : ∀ j : Nat, j + d = l.length → (∀ i, j ≤ i → i < l.length → 0 ≤ rd l i ∧ rd l i ≤ 12000) →
  Ev (fun k => impl_LimitedLengths.l0 k l n l (l.length : Int) (j : Int)) R := by
 induction d with
 | zero =>
  intro j h _
  refine Ev.step (fun k => ?_) e
  rw [impl_LimitedLengths.l0, if_neg (by omega)]
 | succ d ih =>
  intro j h hg
  refine Ev.step (fun k => ?_) (ih (j + 1) (by omega) (fun i h1 h2 => hg i (by omega) h2))
  rw [impl_LimitedLengths.l0, if_pos (by omega), if_pos (by omega), if_pos (by omega), in_impl, decide_eq_true (hg j (Nat.le_refl _) (by omega)), Option.bind_some, if_pos rfl, w64_1 j (by omega)]
theorem checkI_bad (l : List Int) (hl : l.length ≤ 1048576) (n : Int) (d : Nat) : ∀ j : Nat, j + d = l.length → (∃ i, j ≤ i ∧ i < l.length ∧ ¬ (0 ≤ rd l i ∧ rd l i ≤ 12000)) →
  Ev (fun k => impl_LimitedLengths.l0 k l n l (l.length : Int) (j : Int)) ([], false) := by
 induction d with
 | zero =>
  rintro j h ⟨i, h1, h2, _⟩
  omega
 | succ d ih =>
  rintro j h ⟨i, h1, h2, h3⟩
  by_cases hc : 0 ≤ rd l j ∧ rd l j ≤ 12000
  ·refine Ev.step (fun k => ?_) (ih (j + 1) (by omega) ⟨i, by
    by_cases hij : i = j
    ·subst hij; exact absurd hc h3
    ·omega, h2, h3⟩)
   rw [impl_LimitedLengths.l0, if_pos (by omega), if_pos (by omega), if_pos (by omega), in_impl, decide_eq_true hc, Option.bind_some, if_pos rfl, w64_1 j (by omega)]
  ·refine ev_ret (fun k => ?_)
   rw [impl_LimitedLengths.l0, if_pos (by omega), if_pos (by omega), if_pos (by omega), in_impl, decide_eq_false hc, Option.bind_some, if_neg (by decide)]
theorem shl15 : ∀ m : Fin 16, shl .i64 1 ((m : Nat) : Int) = 2 ^ (m : Nat) := by decide +kernel
theorem power_is (n : Int) (h1 : 1 ≤ n) (h2 : n ≤ 15) : impl_powerOf.f n = some (2 ^ n.toNat) := by
 unfold impl_powerOf.f
 rw [in_impl, decide_eq_true (by omega), Option.bind_some, if_pos rfl, if_pos (by omega)]
 have := shl15 ⟨n.toNat, by omega⟩
 rw [show (((⟨n.toNat, by omega⟩ : Fin 16) : Nat) : Int) = n by show ((n.toNat : Nat) : Int) = n; omega] at this
 rw [this]
theorem limI (l : List Int) (hl : l.length ≤ 1048576) (n : Int) : Ev (fun k => impl_LimitedLengths.f k l n) (limited l n) := by
 have start : Ev (fun k => impl_LimitedLengths.l0 k l n l (l.length : Int) ((0 : Nat) : Int)) (limited l n) → Ev (fun k => impl_LimitedLengths.f k l n) (limited l n) := fun e => e
 apply start
 have bad : Ev (fun k => impl_LimitedLengths.j1 k l n true) ([], false) := ev_ret (fun k => by rw [impl_LimitedLengths.j1, if_pos rfl])
 by_cases hv : ∀ x ∈ l, 0 ≤ x ∧ x ≤ 12000
 ·refine checkI l hl n _ ?_ l.length 0 (by omega) (fun i _ h => hv _ (rd_mem l i h))
  by_cases hlen : l.length ≤ 288
  ·by_cases hn : 1 ≤ n ∧ n ≤ 15
   ·refine Ev.congr (fun k => by rw [if_neg (by omega), in_impl, decide_eq_true hn, Option.bind_some]) ?_
    have hF := firstP_First l hlen hv
    have hp := power_is n hn.1 hn.2
    refine ev_use_step (coinsOf_is l hlen) (fun k hk => by rw [impl_LimitedLengths.j1, if_neg (by decide), hk, Option.bind_some, hp, Option.bind_some, List.length_map]) ?_
    by_cases hc : ((firstP l).length : Int) ≤ 2 ^ n.toNat
    ·have hlim : limited l n = if (firstP l).length = 1 then ((List.replicate l.length 0).set (rd (pAt (firstP l) 0).2 0).toNat 1, true) else if (firstP l).length < 2 then (List.replicate l.length 0, true) else (tally (List.replicate l.length 0) ((lev (firstP l) (n.toNat - 1)).take (2 * (firstP l).length - 2)), true) := by
      unfold limited
      rw [if_pos ⟨hv, hlen, hn.1, hn.2, hc⟩]
     rw [hlim]
     refine Ev.congr (fun k => by rw [if_neg (by omega), if_pos (by omega), if_pos (by omega), Option.bind_some, Int.toNat_natCast]) ?_
     by_cases h1 : (firstP l).length = 1
     ·rw [if_pos h1]
      obtain ⟨g1, g2, g3⟩ := firstP_one hF (by omega)
      have e0 : (c101 (pAt (firstP l) 0)).f1 = (pAt (firstP l) 0).2 := rfl
      have e1 : rd_T101 ((firstP l).map c101) 0 = c101 (pAt (firstP l) 0) := rd101 (firstP l) 0
      refine Ev.congr (fun k => by rw [if_pos (by omega), if_pos (by omega), e1, e0, if_pos (by omega), if_pos g2, List.length_replicate, if_pos g3]) ?_
      refine ev_ret (fun k => ?_)
      rw [impl_LimitedLengths.j2, if_pos (by omega)]
     ·rw [if_neg h1]
      refine Ev.congr (fun k => by rw [if_neg (by omega)]) ?_
      by_cases h2 : (firstP l).length < 2
      ·rw [if_pos h2]
       refine ev_ret (fun k => ?_)
       rw [impl_LimitedLengths.j2, if_pos (by omega)]
      ·rw [if_neg h2]
       have hnn : ((n.toNat : Nat) : Int) = n := by omega
       have hm : (firstP l).length ≤ 2 ^ n.toNat := by exact_mod_cast hc
       have e := levelsI l.length (firstP l) hF (by omega) n.toNat (by omega) (by omega) hm (List.replicate l.length 0) (by simp) (bnd_zero _) (n.toNat - 1) 0 (by omega)
       refine Ev.step (fun k => ?_) e
       rw [impl_LimitedLengths.j2, if_neg (by omega), w64_id (x := n - 1) (by omega) (by omega), show n - 1 = ((n.toNat - 1 : Nat) : Int) by omega]
       rfl
    ·have hlim : limited l n = ([], false) := by
      unfold limited
      rw [if_neg (fun h => hc h.2.2.2.2)]
     rw [hlim]
     exact ev_ret (fun k => by rw [if_pos (by omega)])
   ·have hlim : limited l n = ([], false) := by
     unfold limited
     rw [if_neg (fun h => hn ⟨h.2.2.1, h.2.2.2.1⟩)]
    rw [hlim]
    exact Ev.congr (fun k => by rw [if_neg (by omega), in_impl, decide_eq_false hn, Option.bind_some]; rfl) bad
  ·have hlim : limited l n = ([], false) := by
    unfold limited
    rw [if_neg (fun h => hlen h.2.1)]
   rw [hlim]
   exact Ev.congr (fun k => by rw [if_pos (by omega)]) bad
 ·have hlim : limited l n = ([], false) := by
   unfold limited
   rw [if_neg (fun h => hv h.1)]
  rw [hlim]
  refine checkI_bad l hl n l.length 0 (by omega) ?_
  refine Classical.byContradiction (fun hno => hv (fun x hx => ?_))
  obtain ⟨i, hi, rfl⟩ := List.getElem_of_mem hx
  refine Classical.byContradiction (fun h3 => hno ⟨i, Nat.zero_le _, hi, ?_⟩)
  rw [rd_getElem l i hi]
  exact h3

/-! .. and the reference's -/
theorem falseR (l : List Int) (n c : Int) (j : Int) : Ev (fun k => spec_LimitedLengths.l0 k l n false c j) ([], false) := by
 have e3 : Ev (fun k => spec_LimitedLengths.j3 k l n c true) ([], false) := ev_ret (fun k => by rw [spec_LimitedLengths.j3, if_pos rfl])
 have e2 : Ev (fun k => spec_LimitedLengths.j2 k l n false c j false) ([], false) := Ev.step (fun k => by rw [spec_LimitedLengths.j2, if_neg (by decide), if_neg (by decide)]) e3
 refine Ev.step (fun k => ?_) e2
 rw [spec_LimitedLengths.l0]
 split <;> rfl
theorem checkR (l : List Int) (hl : l.length ≤ 288) (n : Int) (R : List Int × Bool) (e : ∀ j : Int, Ev (fun k => spec_LimitedLengths.j2 k l n true ((firstP l).length : Int) j false) R) (d : Nat) : ∀ (j c : Nat), j + d = l.length → c + (rawC j (l.drop j)).length = (firstP l).length → (∀ i, j ≤ i → i < l.length → 0 ≤ rd l i ∧ rd l i ≤ 12000) →
  Ev (fun k => spec_LimitedLengths.l0 k l n true (c : Int) (j : Int)) R := by
 induction d with
 | zero =>
  intro j c h hc _
  rw [List.drop_of_length_le (by omega)] at hc
  have hc2 : c = (firstP l).length := hc
  subst hc2
  refine Ev.step (fun k => ?_) (e (j : Int))
  rw [spec_LimitedLengths.l0, if_neg (by omega)]
 | succ d ih =>
  intro j c h hc hg
  have hr := hg j (Nat.le_refl _) (by omega)
  have hl2 := firstP_len l
  rw [drop_rd l j (by omega), rawC] at hc
  have e2 : Ev (fun k => spec_LimitedLengths.j2 k l n true (c : Int) (j : Int) true) R := by
   by_cases h0 : 0 < rd l j
   ·rw [if_pos h0, List.length_cons] at hc
    refine Ev.step (fun k => ?_) (ih (j + 1) (c + 1) (by omega) (by omega) (fun i h1 h2 => hg i (by omega) h2))
    rw [spec_LimitedLengths.j2, if_pos rfl, if_pos (by omega), if_pos (by omega), in_spec, decide_eq_true hr, Option.bind_some, if_pos h0, w64_1 j (by omega), w64_1 c (by omega)]
   ·rw [if_neg h0] at hc
    refine Ev.step (fun k => ?_) (ih (j + 1) c (by omega) hc (fun i h1 h2 => hg i (by omega) h2))
    rw [spec_LimitedLengths.j2, if_pos rfl, if_pos (by omega), if_pos (by omega), in_spec, decide_eq_true hr, Option.bind_some, if_neg h0, w64_1 j (by omega)]
  refine Ev.step (fun k => ?_) e2
  rw [spec_LimitedLengths.l0, if_pos (by omega)]
theorem checkR_bad (l : List Int) (hl : l.length ≤ 288) (n : Int) (d : Nat) : ∀ (j c : Nat), j + d = l.length → c ≤ j → (∃ i, j ≤ i ∧ i < l.length ∧ ¬ (0 ≤ rd l i ∧ rd l i ≤ 12000)) →
  Ev (fun k => spec_LimitedLengths.l0 k l n true (c : Int) (j : Int)) ([], false) := by
 induction d with
 | zero =>
  rintro j c h _ ⟨i, h1, h2, _⟩
  omega
 | succ d ih =>
  rintro j c h hcj ⟨i, h1, h2, h3⟩
  have e2 : Ev (fun k => spec_LimitedLengths.j2 k l n true (c : Int) (j : Int) true) ([], false) := by
   by_cases hc : 0 ≤ rd l j ∧ rd l j ≤ 12000
   ·have hex : ∃ i, j + 1 ≤ i ∧ i < l.length ∧ ¬ (0 ≤ rd l i ∧ rd l i ≤ 12000) := ⟨i, by
     by_cases hij : i = j
     ·subst hij; exact absurd hc h3
     ·omega, h2, h3⟩
    by_cases h0 : 0 < rd l j
    ·refine Ev.step (fun k => ?_) (ih (j + 1) (c + 1) (by omega) (by omega) hex)
     rw [spec_LimitedLengths.j2, if_pos rfl, if_pos (by omega), if_pos (by omega), in_spec, decide_eq_true hc, Option.bind_some, if_pos h0, w64_1 j (by omega), w64_1 c (by omega)]
    ·refine Ev.step (fun k => ?_) (ih (j + 1) c (by omega) (by omega) hex)
     rw [spec_LimitedLengths.j2, if_pos rfl, if_pos (by omega), if_pos (by omega), in_spec, decide_eq_true hc, Option.bind_some, if_neg h0, w64_1 j (by omega)]
   ·by_cases h0 : 0 < rd l j
    ·refine Ev.step (fun k => ?_) (falseR l n (wrap64 ((c : Int) + 1)) (wrap64 ((j : Int) + 1)))
     rw [spec_LimitedLengths.j2, if_pos rfl, if_pos (by omega), if_pos (by omega), in_spec, decide_eq_false hc, Option.bind_some, if_pos h0]
    ·refine Ev.step (fun k => ?_) (falseR l n (c : Int) (wrap64 ((j : Int) + 1)))
     rw [spec_LimitedLengths.j2, if_pos rfl, if_pos (by omega), if_pos (by omega), in_spec, decide_eq_false hc, Option.bind_some, if_neg h0]
  refine Ev.step (fun k => ?_) e2
  rw [spec_LimitedLengths.l0, if_pos (by omega)]
theorem limR (l : List Int) (hl : l.length ≤ 1048576) (n : Int) : Ev (fun k => spec_LimitedLengths.f k l n) (limited l n) := by
 have j0F : Ev (fun k => spec_LimitedLengths.j0 k l n false) ([], false) := Ev.step (fun k => by rw [spec_LimitedLengths.j0]) (falseR l n 0 0)
 by_cases hlen : l.length ≤ 288
 ·refine Ev.congr (fun k => by unfold spec_LimitedLengths.f; rw [if_pos (by omega), in_spec, Option.bind_some]) ?_
  by_cases hn : 1 ≤ n ∧ n ≤ 15
  ·rw [decide_eq_true hn]
   have start : Ev (fun k => spec_LimitedLengths.l0 k l n true ((0 : Nat) : Int) ((0 : Nat) : Int)) (limited l n) → Ev (fun k => spec_LimitedLengths.j0 k l n true) (limited l n) := fun e => Ev.step (fun k => by rw [spec_LimitedLengths.j0]; rfl) e
   apply start
   by_cases hv : ∀ x ∈ l, 0 ≤ x ∧ x ≤ 12000
   ·have hF := firstP_First l hlen hv
    refine checkR l hlen n _ (fun j => ?_) l.length 0 0 (by omega) (by rw [List.drop_zero]; unfold firstP; rw [(isort_perm _ _).length_eq]; omega) (fun i _ h => hv _ (rd_mem l i h))
    refine ev_use_step (pow_at n (by omega) (by omega)) (fun k hk => by rw [spec_LimitedLengths.j2, if_neg (by decide), if_pos rfl, hk, Option.bind_some]) ?_
    by_cases hc : ((firstP l).length : Int) ≤ 2 ^ n.toNat
    ·have hlim : limited l n = if (firstP l).length = 1 then ((List.replicate l.length 0).set (rd (pAt (firstP l) 0).2 0).toNat 1, true) else if (firstP l).length < 2 then (List.replicate l.length 0, true) else (tally (List.replicate l.length 0) ((lev (firstP l) (n.toNat - 1)).take (2 * (firstP l).length - 2)), true) := by
      unfold limited
      rw [if_pos ⟨hv, hlen, hn.1, hn.2, hc⟩]
     rw [hlim, decide_eq_false (show ¬ ((firstP l).length : Int) > 2 ^ n.toNat by omega)]
     refine ev_use_step (firstS_is l hlen (fun j hj => (hv _ (rd_mem l j hj)).1)) (fun k hk => by rw [spec_LimitedLengths.j3, if_neg (by decide), if_pos (by omega), if_pos (by omega), Option.bind_some, Int.toNat_natCast, hk, Option.bind_some]) ?_
     by_cases h1 : (firstP l).length = 1
     ·rw [if_pos h1]
      obtain ⟨g1, g2, g3⟩ := firstP_one hF (by omega)
      have e0 : (c96 (pAt (firstP l) 0)).f1 = (pAt (firstP l) 0).2 := rfl
      have e1 : rd_T96 ((firstP l).map c96) 0 = c96 (pAt (firstP l) 0) := rd96 (firstP l) 0
      refine Ev.congr (fun k => by rw [if_pos (by omega), List.length_map, if_pos (by omega), e1, e0, if_pos (by omega), if_pos g2, List.length_replicate, if_pos g3]) ?_
      refine ev_ret (fun k => ?_)
      rw [spec_LimitedLengths.j4, if_pos (by omega)]
     ·rw [if_neg h1]
      refine Ev.congr (fun k => by rw [if_neg (by omega)]) ?_
      by_cases h2 : (firstP l).length < 2
      ·rw [if_pos h2]
       refine ev_ret (fun k => ?_)
       rw [spec_LimitedLengths.j4, if_pos (by omega)]
      ·rw [if_neg h2]
       have hnn : ((n.toNat : Nat) : Int) = n := by omega
       have hm : (firstP l).length ≤ 2 ^ n.toNat := by exact_mod_cast hc
       have e := levelsR l.length (firstP l) hF (by omega) n.toNat (by omega) (by omega) hm (List.replicate l.length 0) (by simp) (bnd_zero _) (n.toNat - 1) 0 (by omega)
       rw [hnn] at e
       refine Ev.step (fun k => ?_) e
       rw [spec_LimitedLengths.j4, if_neg (by omega)]
       rfl
    ·have hlim : limited l n = ([], false) := by
      unfold limited
      rw [if_neg (fun h => hc h.2.2.2.2)]
     rw [hlim, decide_eq_true (show ((firstP l).length : Int) > 2 ^ n.toNat by omega)]
     exact ev_ret (fun k => by rw [spec_LimitedLengths.j3, if_pos rfl])
   ·have hlim : limited l n = ([], false) := by
     unfold limited
     rw [if_neg (fun h => hv h.1)]
    rw [hlim]
    refine checkR_bad l hlen n l.length 0 0 (by omega) (Nat.le_refl _) ?_
    refine Classical.byContradiction (fun hno => hv (fun x hx => ?_))
    obtain ⟨i, hi, rfl⟩ := List.getElem_of_mem hx
    refine Classical.byContradiction (fun h3 => hno ⟨i, Nat.zero_le _, hi, ?_⟩)
    rw [rd_getElem l i hi]
    exact h3
  ·have hlim : limited l n = ([], false) := by
    unfold limited
    rw [if_neg (fun h => hn ⟨h.2.2.1, h.2.2.2.1⟩)]
   rw [hlim, decide_eq_false hn]
   exact j0F
 ·have hlim : limited l n = ([], false) := by
   unfold limited
   rw [if_neg (fun h => hlen h.2.1)]
  rw [hlim]
  exact Ev.congr (fun k => by unfold spec_LimitedLengths.f; rw [if_neg (by omega)]) j0F

theorem ev_bind {α β : Type} {A : Nat → Option α} {B : Nat → α → Option β} {a : α} {r : β} (e : Ev A a) (c : Ev (fun k => B k a) r) : Ev (fun k => (A k).bind (B k)) r := ev_use e (fun k hk => by rw [hk]; rfl) c
abbrev Tok := S107
theorem tok_cases (t : Tok) (h : okT t = true) : (t.f1 = 0 ∧ ∃ y : Nat, t.f0 = (y : Int) ∧ y < 256) ∨ (t.f1 ≠ 0 ∧ 3 ≤ t.f1 ∧ t.f1 ≤ 258 ∧ 1 ≤ t.f2 ∧ t.f2 ≤ 32768) := by
 unfold okT tokB at h
 by_cases hb : t.f1 = 0
 ·rw [if_pos hb] at h
  have h := of_decide_eq_true h
  exact Or.inl ⟨hb, t.f0.toNat, by omega, by omega⟩
 ·rw [if_neg hb] at h
  have h := of_decide_eq_true h
  exact Or.inr ⟨hb, h.2.1, h.2.2.1, h.2.2.2.1, h.2.2.2.2⟩
theorem spec_tokens_loop (l : List Tok) (hl : l.length ≤ 12000) (d : Nat) : ∀ j : Nat, j + d = l.length → Ev (fun k => spec_l09TokensOk.l0 k l (j : Int)) ((l.drop j).all okT) := by
 induction d with
 | zero =>
  intro j h
  refine ev_ret (fun k => ?_)
  rw [spec_l09TokensOk.l0, if_neg (by omega), List.drop_of_length_le (by omega)]
  rfl
 | succ d ih =>
  intro j h
  have dr : l.drop j = rd_T107 l (j : Int) :: l.drop (j + 1) := gd_drop l _ j (by omega)
  have t : spec_TokenOk.f (rd_T107 l (j : Int)).f0 (rd_T107 l (j : Int)).f1 (rd_T107 l (j : Int)).f2 = some (okT (rd_T107 l (j : Int))) := tok_spec _ _ _
  rw [dr, List.all_cons]
  by_cases c : okT (rd_T107 l (j : Int)) = true
  ·rw [c, Bool.true_and]
   refine Ev.step (fun k => ?_) (ih (j + 1) (by omega))
   rw [spec_l09TokensOk.l0, if_pos (by omega), if_pos (by omega), t, Option.bind_some, if_pos c, w64_id (x := (j : Int) + 1) (by omega) (by omega)]
   rfl
  ·have c' : okT (rd_T107 l (j : Int)) = false := by simpa using c
   rw [c', Bool.false_and]
   refine ev_ret (fun k => ?_)
   rw [spec_l09TokensOk.l0, if_pos (by omega), if_pos (by omega), t, Option.bind_some, if_neg c]
theorem spec_tokensOk (l : List Tok) : Ev (fun k => spec_l09TokensOk.f k l) (l.all okT && decide ((l.length : Int) ≤ 12000)) := by
 by_cases h : (l.length : Int) ≤ 12000
 ·rw [decide_eq_true h, Bool.and_true]
  exact Ev.congr (fun k => by unfold spec_l09TokensOk.f; rw [if_neg (by omega)]; rfl) (spec_tokens_loop l (by omega) l.length 0 (by omega))
 ·rw [decide_eq_false h, Bool.and_false]
  exact Ev.congr (fun k => by unfold spec_l09TokensOk.f; rw [if_pos (by omega)]) (Ev.now false)
/-- How many stay, of what is 0 at the end. -/
def trimN (l : List Int) (m : Nat) : Nat → Nat
 | 0 => 0
 | n + 1 => if m < n + 1 ∧ rd l (n : Int) = 0 then trimN l m n else n + 1
theorem trims (l : List Int) (hl : l.length ≤ 1000) (m : Nat) : ∀ n : Nat, n ≤ l.length → Ev (fun k => spec_l09Trim.l0 k l (m : Int) (n : Int)) (l.take (trimN l m n)) ∧ Ev (fun k => impl_trimmed.l0 k l (m : Int) (n : Int)) (l.take (trimN l m n)) := by
 intro n
 induction n with
 | zero =>
  intro _
  rw [trimN]
  constructor
  ·exact ev_ret (fun k => by rw [spec_l09Trim.l0, if_neg (by omega), if_pos (by omega), if_pos (by omega)]; rfl)
  ·exact ev_ret (fun k => by rw [impl_trimmed.l0, if_neg (by omega), if_pos (by omega), if_pos (by omega)]; rfl)
 | succ n ih =>
  intro hn
  obtain ⟨e1, e2⟩ := ih (by omega)
  rw [trimN]
  by_cases hm : m < n + 1
  ·by_cases h0 : rd l (n : Int) = 0
   ·rw [if_pos ⟨hm, h0⟩]
    constructor
    ·refine Ev.step (fun k => ?_) e1
     rw [spec_l09Trim.l0, if_pos (by omega), w64_m n (by omega), if_pos (by omega), if_pos (by omega), if_pos h0]
    ·refine Ev.step (fun k => ?_) e2
     rw [impl_trimmed.l0, if_pos (by omega), w64_m n (by omega), if_pos (by omega), if_pos (by omega), if_pos h0]
   ·rw [if_neg (fun h => h0 h.2)]
    constructor
    ·refine ev_ret (fun k => ?_)
     rw [spec_l09Trim.l0, if_pos (by omega), w64_m n (by omega), if_pos (by omega), if_pos (by omega), if_neg h0, if_pos (by omega), if_pos (by omega), Int.toNat_natCast]
    ·refine ev_ret (fun k => ?_)
     rw [impl_trimmed.l0, if_pos (by omega), w64_m n (by omega), if_pos (by omega), if_pos (by omega), if_neg h0, if_pos (by omega), if_pos (by omega), Int.toNat_natCast]
  ·rw [if_neg (fun h => hm h.1)]
   constructor
   ·refine ev_ret (fun k => ?_)
    rw [spec_l09Trim.l0, if_neg (by omega), if_pos (by omega), if_pos (by omega), Int.toNat_natCast]
   ·refine ev_ret (fun k => ?_)
    rw [impl_trimmed.l0, if_neg (by omega), if_pos (by omega), if_pos (by omega), Int.toNat_natCast]
/-- What both sides come to, of the counts. -/
def finish (a b : List Int) : List Int × List Int × Bool := ((limited a 15).1.take (trimN (limited a 15).1 257 (limited a 15).1.length), (limited b 15).1.take (trimN (limited b 15).1 1 (limited b 15).1.length), true)
def Good (r : List Int × List Int × Bool) : Prop := r.1.length ≤ 288 ∧ r.2.1.length ≤ 288
theorem finish_good (a b : List Int) : Good (finish a b) := by
 have h1 := limited_len a 15
 have h2 := limited_len b 15
 exact ⟨by show (List.take _ _).length ≤ 288; rw [List.length_take]; omega, by show (List.take _ _).length ≤ 288; rw [List.length_take]; omega⟩
theorem tl_loop (l : List Tok) (hl : l.length ≤ 12000) (d : Nat) : ∀ (j : Nat) (a b : List Int), j + d = l.length → a.length = 286 → b.length = 30 → Bnd a (j + 1) → Bnd b (j + 1) → (l.drop j).all okT = true →
  ∃ r, Good r ∧ Ev (fun k => spec_TokenLengths.l0 k l a b (j : Int)) r ∧ Ev (fun k => impl_TokenLengths.l0 k a b l (l.length : Int) (j : Int)) r := by
 induction d with
 | zero =>
  intro j a b h ha hb _ _ _
  have sa := limR a (by omega) 15
  have sb := limR b (by omega) 15
  have ia := limI a (by omega) 15
  have ib := limI b (by omega) 15
  have na := limited_len a 15
  have nb := limited_len b 15
  obtain ⟨ta1, ta2⟩ := trims (limited a 15).1 (by omega) 257 (limited a 15).1.length (Nat.le_refl _)
  obtain ⟨tb1, tb2⟩ := trims (limited b 15).1 (by omega) 1 (limited b 15).1.length (Nat.le_refl _)
  refine ⟨finish a b, finish_good a b, ?_, ?_⟩
  ·refine ev_use_step sa (fun k hk => by rw [spec_TokenLengths.l0, if_neg (by omega), hk, Option.bind_some]) ?_
   refine ev_use sb (fun k hk => by rw [hk, Option.bind_some]) ?_
   have ua : Ev (fun k => spec_l09Trim.f k (limited a 15).1 257) _ := ta1
   have ub : Ev (fun k => spec_l09Trim.f k (limited b 15).1 1) _ := tb1
   exact ev_bind ua (ev_end ub (fun k hk => by rw [hk, Option.bind_some]; rfl))
  ·refine ev_use_step ia (fun k hk => by rw [impl_TokenLengths.l0, if_neg (by omega), hk, Option.bind_some]) ?_
   refine ev_use ib (fun k hk => by rw [hk, Option.bind_some]) ?_
   have ua : Ev (fun k => impl_trimmed.f k (limited a 15).1 257) _ := ta2
   have ub : Ev (fun k => impl_trimmed.f k (limited b 15).1 1) _ := tb2
   exact ev_bind ua (ev_end ub (fun k hk => by rw [hk, Option.bind_some]; rfl))
 | succ d ih =>
  intro j a b h ha hb na nb hok
  have dr : l.drop j = rd_T107 l (j : Int) :: l.drop (j + 1) := gd_drop l _ j (by omega)
  rw [dr, List.all_cons, Bool.and_eq_true] at hok
  obtain ⟨a1, a2⟩ := hok
  rcases tok_cases _ a1 with ⟨hz, y, hy, hy2⟩ | ⟨hz, l0, l1, d0, d1⟩
  ·have bx := na y
   obtain ⟨r, g, e1, e2⟩ := ih (j + 1) (a.set y (rd a (y : Int) + 1)) b (by omega) (by rw [List.length_set]; exact ha) hb (bnd_set na y (by omega)) (fun i => by have := nb i; omega) a2
   refine ⟨r, g, Ev.step (fun k => ?_) e1, Ev.step (fun k => ?_) e2⟩
   ·rw [spec_TokenLengths.l0, if_pos (by omega), if_pos (by omega), if_pos hz, hy, if_pos (by omega), if_pos (by omega), Int.toNat_natCast, w64_id (x := rd a (y : Int) + 1) (by omega) (by omega), w64_1 j (by omega)]
   ·rw [impl_TokenLengths.l0, if_pos (by omega), if_pos (by omega), if_pos (by omega), if_pos hz, hy, if_pos (by omega), if_pos (by omega), Int.toNat_natCast, w64_id (x := rd a (y : Int) + 1) (by omega) (by omega), w64_1 j (by omega)]
  ·obtain ⟨t, t0, t1, _, _, ls, li⟩ := len_both _ l0 l1
   obtain ⟨u, u1, _, _, ds, di⟩ := dist_both _ d0 d1
   have bx := na t
   have by_ := nb u
   obtain ⟨r, g, e1, e2⟩ := ih (j + 1) (a.set t (rd a (t : Int) + 1)) (b.set u (rd b (u : Int) + 1)) (by omega) (by rw [List.length_set]; exact ha) (by rw [List.length_set]; exact hb) (bnd_set na t (by omega)) (bnd_set nb u (by omega)) a2
   refine ⟨r, g, ?_, ?_⟩
   ·refine ev_use_step ls (fun k hk => by rw [spec_TokenLengths.l0, if_pos (by omega), if_pos (by omega), if_neg hz, hk, Option.bind_some]) (ev_use ds (fun k hk => ?_) e1)
    rw [hk, Option.bind_some]
    dsimp only
    rw [if_pos (by omega), if_pos (by omega), if_pos (by omega), if_pos (by omega), Int.toNat_natCast, Int.toNat_natCast, w64_id (x := rd a (t : Int) + 1) (by omega) (by omega), w64_id (x := rd b (u : Int) + 1) (by omega) (by omega), w64_1 j (by omega)]
   ·refine ev_use_step li (fun k hk => by rw [impl_TokenLengths.l0, if_pos (by omega), if_pos (by omega), if_pos (by omega), if_neg hz, hk, Option.bind_some]) (ev_use di (fun k hk => ?_) e2)
    rw [hk, Option.bind_some]
    dsimp only
    rw [if_pos (by omega), if_pos (by omega), if_pos (by omega), if_pos (by omega), Int.toNat_natCast, Int.toNat_natCast, w64_id (x := rd a (t : Int) + 1) (by omega) (by omega), w64_id (x := rd b (u : Int) + 1) (by omega) (by omega), w64_1 j (by omega)]
theorem bnd_le {o : List Int} {c c' : Nat} (h : Bnd o c) (hc : c ≤ c') : Bnd o c' := fun i => by have := h i; omega
theorem tl_both (l : List Tok) (hl : l.length ≤ 1048576) : ∃ r, Good r ∧ Ev (fun k => spec_TokenLengths.f k l) r ∧ Ev (fun k => impl_TokenLengths.f k l) r := by
 have eS := spec_tokensOk l
 have eI := tokensOk_is l hl
 by_cases h : (l.all okT && decide ((l.length : Int) ≤ 12000)) = true
 ·rw [h] at eS eI
  rw [Bool.and_eq_true, decide_eq_true_eq] at h
  have hb : Bnd ((List.replicate 286 0).set 256 1) 1 := by
   have := bnd_set (bnd_zero 286) 256 (by rw [List.length_replicate]; omega)
   have hz := bnd_zero 286 256
   have e : rd (List.replicate 286 0) ((256 : Nat) : Int) + 1 = 1 := by omega
   rw [e] at this
   exact this
  obtain ⟨r, g, e1, e2⟩ := tl_loop l (by omega) l.length 0 ((List.replicate 286 0).set 256 1) (List.replicate 30 0) (by omega) (by rw [List.length_set, List.length_replicate]) (by rw [List.length_replicate]) hb (bnd_le (bnd_zero 30) (by omega)) (by rw [List.drop_zero]; exact h.1)
  refine ⟨r, g, ev_use eS (fun k hk => ?_) e1, ev_use eI (fun k hk => ?_) e2⟩
  ·have hk : spec_l09TokensOk.f k l = _ := hk
   show spec_TokenLengths.f k l = _
   unfold spec_TokenLengths.f
   rw [hk, Option.bind_some, if_pos rfl, if_pos (by omega), Option.bind_some, if_pos (by omega), if_pos (by rw [List.length_replicate]; omega)]
   rfl
  ·have hk : impl_tokensOk.f k l = _ := hk
   show impl_TokenLengths.f k l = _
   unfold impl_TokenLengths.f
   rw [hk, Option.bind_some, if_pos rfl, if_pos (by omega), Option.bind_some, if_pos (by omega), if_pos (by rw [List.length_replicate]; omega)]
   rfl
 ·have h' : (l.all okT && decide ((l.length : Int) ≤ 12000)) = false := by simpa using h
  rw [h'] at eS eI
  refine ⟨([], [], false), ⟨Nat.zero_le _, Nat.zero_le _⟩, ev_end eS (fun k hk => ?_), ev_end eI (fun k hk => ?_)⟩
  ·have hk : spec_l09TokensOk.f k l = _ := hk
   show spec_TokenLengths.f k l = _
   unfold spec_TokenLengths.f
   rw [hk, Option.bind_some, if_neg (by decide)]
  ·have hk : impl_tokensOk.f k l = _ := hk
   show impl_TokenLengths.f k l = _
   unfold impl_TokenLengths.f
   rw [hk, Option.bind_some, if_neg (by decide)]
theorem mark_at (l : List Int) (hl : l.length ≤ 288) (a : Int) (a0 : 0 ≤ a) (a1 : a ≤ 1048576) : Ev (fun k => laws_markIntS.f k l a) (a + (l.length : Int), marks l.length a) := by
 have h := mark_loop l.length (by omega) a a0 a1 l.length 0 l (by omega) rfl (by simp [marks])
 rw [show a + ((0 : Nat) : Int) = a by omega] at h
 exact h
theorem held_at (n : Nat) (hn : n ≤ 288) (a : Int) (a0 : 0 ≤ a) (a1 : a ≤ 1048576) : Ev (fun k => laws_heldIntS.f k (marks n a) a) (a + (n : Int)) := by
 have h := held_loop n (by omega) a a0 a1 n 0 (by omega)
 rw [show a + ((0 : Nat) : Int) = a by omega] at h
 exact h
theorem FnExactTokenLengths : laws_FnExactTokenLengths.Pure := by
 intro l hl hw
 have hl' : l.length ≤ 9223372036854775807 := by unfold maxLen at hl; omega
 have w : wrap64 (1048576 - (l.length : Int)) = 1048576 - l.length := w64_id (by omega) (by omega)
 by_cases hb : 1048576 - (l.length : Int) < 0
 ·refine ⟨0, ?_⟩
  unfold laws_FnExactTokenLengths.f laws_szTokenS.f
  rw [w, if_pos hb, Option.bind_some, if_pos (by omega)]
 ·obtain ⟨⟨c1, c2, b⟩, ⟨g1, g2⟩, eS, eI⟩ := tl_both (l.map tokOf) (by rw [List.length_map]; omega)
  dsimp only at g1 g2
  obtain ⟨K1, eT⟩ := toTokenS_is l (by omega)
  obtain ⟨K2, eE⟩ := eqTokenS_is (l.map tokOf) (by rw [List.length_map]; omega)
  obtain ⟨K3, eS⟩ := eS
  obtain ⟨K4, eI⟩ := eI
  obtain ⟨K5, q1⟩ := eqIntS_is c1 (by omega)
  obtain ⟨K6, q2⟩ := eqIntS_is c2 (by omega)
  obtain ⟨K7, eM⟩ := tmark_is (l.map tokOf) (by rw [List.length_map]; omega)
  obtain ⟨K8, m1⟩ := mark_at c1 g1 1 (by omega) (by omega)
  obtain ⟨K9, m2⟩ := mark_at c2 g2 (1 + (c1.length : Int)) (by omega) (by omega)
  obtain ⟨K10, h1⟩ := held_at c1.length g1 1 (by omega) (by omega)
  obtain ⟨K11, h2⟩ := held_at c2.length g2 (1 + (c1.length : Int)) (by omega) (by omega)
  refine ⟨K1 + K2 + K3 + K4 + K5 + K6 + K7 + K8 + K9 + K10 + K11 + 3, ?_⟩
  generalize hk : K1 + K2 + K3 + K4 + K5 + K6 + K7 + K8 + K9 + K10 + K11 = K
  have bb : (b != b) = false := by simp
  have T : ∀ n, K ≤ n → laws_toTokenS.f n l = some (l.map tokOf) := fun n hn => eT n (by omega)
  have E : ∀ n, K ≤ n → laws_eqTokenS.f n (l.map tokOf) (l.map tokOf) = some true := fun n hn => eE n (by omega)
  have S : ∀ n, K ≤ n → spec_TokenLengths.f n (l.map tokOf) = some (c1, c2, b) := fun n hn => eS n (by omega)
  have I : ∀ n, K ≤ n → impl_TokenLengths.f n (l.map tokOf) = some (c1, c2, b) := fun n hn => eI n (by omega)
  have Q1 : ∀ n, K ≤ n → laws_eqIntS.f n c1 c1 = some true := fun n hn => q1 n (by omega)
  have Q2 : ∀ n, K ≤ n → laws_eqIntS.f n c2 c2 = some true := fun n hn => q2 n (by omega)
  have MM : ∀ n, K ≤ n → laws_markTokenS.f n (l.map tokOf) 1 = some (1 + 3 * ((l.map tokOf).length : Int), tmarks (l.map tokOf).length 1) := fun n hn => eM n (by omega)
  have M1 : ∀ n, K ≤ n → laws_markIntS.f n c1 1 = some (1 + (c1.length : Int), marks c1.length 1) := fun n hn => m1 n (by omega)
  have M2 : ∀ n, K ≤ n → laws_markIntS.f n c2 (1 + (c1.length : Int)) = some (1 + (c1.length : Int) + (c2.length : Int), marks c2.length (1 + (c1.length : Int))) := fun n hn => m2 n (by omega)
  have H1 : ∀ n, K ≤ n → laws_heldIntS.f n (marks c1.length 1) 1 = some (1 + (c1.length : Int)) := fun n hn => h1 n (by omega)
  have H2 : ∀ n, K ≤ n → laws_heldIntS.f n (marks c2.length (1 + (c1.length : Int))) (1 + (c1.length : Int)) = some (1 + (c1.length : Int) + (c2.length : Int)) := fun n hn => h2 n (by omega)
  unfold laws_FnExactTokenLengths.f laws_szTokenS.f
  rw [w, if_neg hb, Option.bind_some, if_neg hb, T _ (by omega), Option.bind_some, S _ (by omega), Option.bind_some, Option.bind_some, I _ (by omega), Option.bind_some]
  dsimp only
  rw [Q1 _ (by omega), Option.bind_some, if_pos rfl, Q2 _ (by omega), Option.bind_some, if_pos rfl, bb, laws_FnExactTokenLengths.j0, if_neg (by decide), T _ (by omega), Option.bind_some, E _ (by omega), Option.bind_some, if_pos rfl, MM _ (by omega), Option.bind_some]
  dsimp only
  rw [if_neg (by omega), Q1 _ (by omega), Option.bind_some, if_pos rfl, Q2 _ (by omega), Option.bind_some, if_pos rfl, bb, laws_FnExactTokenLengths.j1, if_neg (by decide), M1 _ (by omega), Option.bind_some]
  dsimp only
  rw [M2 _ (by omega), Option.bind_some]
  dsimp only
  rw [H1 _ (by omega), Option.bind_some, if_neg (by omega), H2 _ (by omega), Option.bind_some, if_neg (by omega), if_pos rfl, T _ (by omega), Option.bind_some, I _ (by omega), Option.bind_some]
  dsimp only
  rw [Q1 _ (by omega), Option.bind_some, if_pos rfl, Q2 _ (by omega), Option.bind_some, if_pos rfl, bb, laws_FnExactTokenLengths.j2, if_neg (by decide), H1 _ (by omega), Option.bind_some, if_neg (by omega), H2 _ (by omega), Option.bind_some, if_neg (by omega), if_pos rfl]

end Go.Proofs.Ytimomemkbcidnaa.Pure
