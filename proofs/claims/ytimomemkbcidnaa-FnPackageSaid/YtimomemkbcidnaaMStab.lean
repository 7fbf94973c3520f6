/- The stable sort's plain law: stableR gives the one permutation that is ascending by weight and, at equal weights, by first place. Conditions: the elements are first places, ascending. -/
import Derived.Test.YtimomemkbcidnaaMStable
import Derived.Sort.LotA
namespace Go.Proofs.Ytimomemkbcidnaa.MStab
open Go.Sort Go.Proofs.Ytimomemkbcidnaa.MSort Go.Proofs.Ytimomemkbcidnaa.MStable
-- BEGIN
set_option linter.unusedVariables false
set_option linter.unusedSimpArgs false
section plain
variable {α : Type} [Inhabited α]
theorem getc (d : Array α) {x y : Nat} (h : x = y) : d[x]! = d[y]! := by rw [h]
theorem swapR_get (d : Array α) (a b : Nat) : ∀ n, (a + n ≤ b ∨ b + n ≤ a) → a + n ≤ d.size → b + n ≤ d.size → ∀ k, (swapR d a b n)[k]! = if a ≤ k ∧ k < a + n then d[b + (k - a)]! else if b ≤ k ∧ k < b + n then d[a + (k - b)]! else d[k]!
 | 0, _, _, _, k => by rw [swapR, if_neg (by omega), if_neg (by omega)]
 | n + 1, h, ha, hb, k => by
  have ih := swapR_get d a b n (by omega) (by omega) (by omega)
  rw [swapR, swp_get _ (by rw [swapR_size]; omega) (by rw [swapR_size]; omega), ih, ih, ih]
  repeat' split
  all_goals first | (exfalso; omega) | exact getc d (by omega)
theorem swapR_perm (d : Array α) (a b lo hi : Nat) : ∀ n, lo ≤ a → lo ≤ b → a + n ≤ hi → b + n ≤ hi → hi ≤ d.size → PermIn lo hi d (swapR d a b n)
 | 0, _, _, _, _, _ => permIn_refl d lo hi
 | n + 1, h1, h2, h3, h4, h5 => permIn_trans _ _ _ _ _ (swapR_perm d a b lo hi n h1 h2 (by omega) (by omega) h5) (swp_permIn _ lo hi (a + n) (b + n) (by omega) (by omega) (by omega) (by omega) (by rw [swapR_size]; exact h5))
theorem rotR_get (m : Nat) : ∀ f (d : Array α) i j, 0 < i → 0 < j → i ≤ m → m + j ≤ d.size → i + j ≤ f → ∀ k, (rotR m f d i j)[k]! = if m - i ≤ k ∧ k < m - i + j then d[k + i]! else if m - i + j ≤ k ∧ k < m + j then d[k - j]! else d[k]!
 | 0, d, i, j, h1, h2, _, _, h5, k => by omega
 | f + 1, d, i, j, h1, h2, h3, h4, h5, k => by
  rw [rotR]
  split
  ·rename_i e
   subst e
   rw [swapR_get _ _ _ _ (by omega) (by omega) (by omega)]
   repeat' split
   all_goals first | (exfalso; omega) | exact getc d (by omega)
  ·split
   ·rw [rotR_get m f _ _ _ (by omega) (by omega) (by omega) (by rw [swapR_size]; omega) (by omega)]
    simp only [swapR_get d (m - i) m j (by omega) (by omega) (by omega)]
    repeat' split
    all_goals first | (exfalso; omega) | exact getc d (by omega)
   ·rw [rotR_get m f _ _ _ (by omega) (by omega) (by omega) (by rw [swapR_size]; omega) (by omega)]
    simp only [swapR_get d (m - i) (m + j - i) i (by omega) (by omega) (by omega)]
    repeat' split
    all_goals first | (exfalso; omega) | exact getc d (by omega)
theorem rotR_perm (m lo hi : Nat) : ∀ f (d : Array α) i j, i ≤ m → lo ≤ m - i → m + j ≤ hi → hi ≤ d.size → PermIn lo hi d (rotR m f d i j)
 | 0, d, i, j, _, _, _, _ => permIn_refl d lo hi
 | f + 1, d, i, j, h1, h2, h3, h4 => by
  rw [rotR]
  split
  ·exact swapR_perm d _ _ lo hi i (by omega) (by omega) (by omega) (by omega) h4
  ·split
   ·exact permIn_trans _ _ _ _ _ (swapR_perm d _ _ lo hi j (by omega) (by omega) (by omega) (by omega) h4) (rotR_perm m lo hi f _ _ _ (by omega) (by omega) (by omega) (by rw [swapR_size]; exact h4))
   ·exact permIn_trans _ _ _ _ _ (swapR_perm d _ _ lo hi i (by omega) (by omega) (by omega) (by omega) h4) (rotR_perm m lo hi f _ _ _ (by omega) (by omega) (by omega) (by rw [swapR_size]; exact h4))
theorem bis_spec (f : Nat → Bool) : ∀ k i j, i ≤ j → j - i ≤ k → (∀ x y, i ≤ x → x ≤ y → y < j → f y = true → f x = true) →
  i ≤ bis f k i j ∧ bis f k i j ≤ j ∧ (∀ x, i ≤ x → x < bis f k i j → f x = true) ∧ (∀ x, bis f k i j ≤ x → x < j → f x = false)
 | 0, i, j, h1, h2, _ => by
  have : i = j := by omega
  subst this
  exact ⟨Nat.le_refl _, Nat.le_refl _, fun x h3 h4 => by rw [bis] at h4; omega, fun x h3 h4 => by rw [bis] at h3; omega⟩
 | k + 1, i, j, h1, h2, hm => by
  rw [bis]
  by_cases hlt : i < j
  ·rw [if_pos hlt]
   obtain ⟨h, hh⟩ : ∃ h, h = (i + j) / 2 := ⟨_, rfl⟩
   rw [← hh]
   by_cases hf : f h = true
   ·rw [if_pos hf]
    obtain ⟨r1, r2, r3, r4⟩ := bis_spec f k (h + 1) j (by omega) (by omega) (fun x y h3 h4 h5 h6 => hm x y (by omega) h4 h5 h6)
    refine ⟨by omega, r2, fun x h3 h4 => ?_, r4⟩
    by_cases hx : x ≤ h
    ·exact hm x h h3 hx (by omega) hf
    ·exact r3 x (by omega) h4
   ·rw [if_neg hf]
    obtain ⟨r1, r2, r3, r4⟩ := bis_spec f k i h (by omega) (by omega) (fun x y h3 h4 h5 h6 => hm x y h3 h4 (by omega) h6)
    refine ⟨r1, by omega, r3, fun x h3 h4 => ?_⟩
    by_cases hx : x < h
    ·exact r4 x h3 hx
    ·cases hfx : f x with
     | false => rfl
     | true => exact absurd (hm h x (by omega) (by omega) h4 hfx) hf
  ·rw [if_neg hlt]
   exact ⟨Nat.le_refl _, h1, fun x h3 h4 => by omega, fun x h3 h4 => by omega⟩
theorem upR_get (d : Array α) (a : Nat) : ∀ n, a + n < d.size → ∀ k, (upR d a n)[k]! = if a ≤ k ∧ k < a + n then d[k + 1]! else if k = a + n then d[a]! else d[k]!
 | 0, h, k => by
  rw [upR, if_neg (by omega)]
  split
  ·exact getc d (by omega)
  ·rfl
 | n + 1, h, k => by
  have ih := upR_get d a n (by omega)
  rw [upR, swp_get _ (by rw [upR_size]; omega) (by rw [upR_size]; omega), ih, ih, ih]
  repeat' split
  all_goals first | (exfalso; omega) | exact getc d (by omega)
theorem upR_perm (d : Array α) (a lo hi : Nat) : ∀ n, lo ≤ a → a + n < hi → hi ≤ d.size → PermIn lo hi d (upR d a n)
 | 0, _, _, _ => permIn_refl d lo hi
 | n + 1, h1, h2, h3 => permIn_trans _ _ _ _ _ (upR_perm d a lo hi n h1 (by omega) h3) (swp_permIn _ lo hi (a + n) (a + n + 1) (by omega) (by omega) (by omega) (by omega) (by rw [upR_size]; exact h3))
theorem downR_get (d : Array α) (m : Nat) (hm : m < d.size) : ∀ n, n ≤ m → ∀ k, (downR d m n)[k]! = if m - n < k ∧ k ≤ m then d[k - 1]! else if k = m - n then d[m]! else d[k]!
 | 0, h, k => by
  rw [downR, if_neg (by omega)]
  split
  ·exact getc d (by omega)
  ·rfl
 | n + 1, h, k => by
  have ih := downR_get d m hm n (by omega)
  rw [downR, swp_get _ (by rw [downR_size]; omega) (by rw [downR_size]; omega), ih, ih, ih]
  repeat' split
  all_goals first | (exfalso; omega) | exact getc d (by omega)
theorem downR_perm (d : Array α) (m lo hi : Nat) : ∀ n, lo + n ≤ m → m < hi → hi ≤ d.size → PermIn lo hi d (downR d m n)
 | 0, _, _, _ => permIn_refl d lo hi
 | n + 1, h1, h2, h3 => permIn_trans _ _ _ _ _ (downR_perm d m lo hi n (by omega) (by omega) h3) (swp_permIn _ lo hi (m - n) (m - n - 1) (by omega) (by omega) (by omega) (by omega) (by rw [downR_size]; exact h3))
end plain

/-! ### Tags: the elements are first places -/
section tags
variable (key : Nat → Int)
/-- By weight alone. -/
def klt (x y : Nat) : Bool := decide (key x < key y)
/-- By weight, then by first place. -/
def le (x y : Nat) : Prop := key x < key y ∨ key x = key y ∧ x ≤ y
def lex (x y : Nat) : Bool := decide (key x < key y ∨ key x = key y ∧ x < y)
theorem lex_le {x y : Nat} : lex key y x = false ↔ le key x y := by
 unfold lex le
 rw [decide_eq_false_iff_not]
 omega
theorem lex_swo : SWO (lex key) where
 irrefl x := by rw [lex_le]; exact .inr ⟨rfl, Nat.le_refl _⟩
 trans x y z h1 h2 := by
  unfold lex at *
  rw [decide_eq_true_eq] at *
  omega
 ntrans x y z h1 h2 := by
  rw [lex_le] at *
  unfold le at *
  omega
/-- Ascending on [a, b). -/
def So (a b : Nat) (d : Array Nat) : Prop := ∀ i j, a ≤ i → i < j → j < b → le key d[i]! d[j]!
theorem so_iff {a b : Nat} {d : Array Nat} : SortedIn (lex key) a b d ↔ So key a b d :=
 ⟨fun h i j h1 h2 h3 => (lex_le key).1 (h i j h1 h2 h3), fun h i j h1 h2 h3 => (lex_le key).2 (h i j h1 h2 h3)⟩
/-- Ahead of c the first places are below those from c on. -/
def TagAt (n c : Nat) (d : Array Nat) : Prop := ∀ i j, i < c → c ≤ j → j < n → d[i]! < d[j]!
def LtB (a m b : Nat) (d : Array Nat) : Prop := ∀ i j, a ≤ i → i < m → m ≤ j → j < b → d[i]! < d[j]!
variable {key}
theorem so_of_eq {a b : Nat} {d e : Array Nat} (h : So key a b d) (he : ∀ k, a ≤ k → k < b → e[k]! = d[k]!) : So key a b e := by
 intro i j h1 h2 h3
 rw [he i h1 (by omega), he j (by omega) h3]
 exact h i j h1 h2 h3
theorem tag_perm {n c x y : Nat} {d e : Array Nat} (hn : n ≤ d.size) (h : TagAt n c d) (hp : PermIn x y d e) (hc : y ≤ c ∨ c ≤ x) (hy : y ≤ n) : TagAt n c e := by
 intro i j h1 h2 h3
 have hi : ∀ j, c ≤ j → j < n → e[i]! < d[j]! := by
  intro j h2 h3
  by_cases hx : x ≤ i ∧ i < y
  ·refine permIn_all d e x y (fun z => z < d[j]!) (by omega) hp (fun k h4 h5 => ?_) i hx.1 hx.2
   exact h k j (by omega) h2 h3
  ·rw [hp.2.1 i (by omega)]
   exact h i j h1 h2 h3
 by_cases hx : x ≤ j ∧ j < y
 ·refine permIn_all d e x y (fun z => e[i]! < z) (by omega) hp (fun k h4 h5 => ?_) j hx.1 hx.2
  exact hi k (by omega) (by omega)
 ·rw [hp.2.1 j (by omega)]
  exact hi j h2 h3
theorem symOne_law {a m b : Nat} {d : Array Nat} (h1 : m = a + 1) (h2 : m < b) (h3 : b ≤ d.size) (hr : So key m b d) (ht : LtB a m b d) :
  PermIn a b d (upR d a (bis (fun h => klt key d[h]! d[a]!) (b - m) m b - 1 - a)) ∧ So key a b (upR d a (bis (fun h => klt key d[h]! d[a]!) (b - m) m b - 1 - a)) := by
 obtain ⟨i, hi⟩ : ∃ i, i = bis (fun h => klt key d[h]! d[a]!) (b - m) m b := ⟨_, rfl⟩
 obtain ⟨r1, r2, r3, r4⟩ := bis_spec (fun h => klt key d[h]! d[a]!) (b - m) m b (by omega) (Nat.le_refl _) (fun x y h4 h5 h6 h7 => by
  by_cases hx : x = y
  ·rw [hx]; exact h7
  ·have := hr x y h4 (by omega) h6
   simp only [klt, decide_eq_true_eq, le] at *
   omega)
 rw [← hi] at r1 r2 r3 r4 ⊢
 refine ⟨upR_perm d a a b _ (Nat.le_refl _) (by omega) h3, fun p q h4 h5 h6 => ?_⟩
 rw [upR_get d a _ (by omega), upR_get d a _ (by omega)]
 have key1 : ∀ x, m ≤ x → x < i → key d[x]! < key d[a]! := fun x h7 h8 => by have := r3 x h7 h8; simpa only [klt, decide_eq_true_eq] using this
 have key2 : ∀ x, i ≤ x → x < b → ¬ key d[x]! < key d[a]! := fun x h7 h8 => by have := r4 x h7 h8; simpa only [klt, decide_eq_false_iff_not] using this
 repeat' split
 all_goals first | (exfalso; omega) | skip
 ·exact hr (p + 1) (q + 1) (by omega) (by omega) (by omega)
 ·exact .inl (key1 (p + 1) (by omega) (by omega))
 ·exact hr (p + 1) q (by omega) (by omega) (by omega)
 ·have h7 := key2 q (by omega) h6
  have h8 := ht a q (Nat.le_refl _) (by omega) (by omega) h6
  unfold le
  omega
 ·exact hr p q (by omega) (by omega) (by omega)
theorem symLast_law {a m b : Nat} {d : Array Nat} (h1 : b = m + 1) (h2 : a < m) (h3 : b ≤ d.size) (hl : So key a m d) (ht : LtB a m b d) :
  PermIn a b d (downR d m (m - bis (fun h => !klt key d[m]! d[h]!) (m - a) a m)) ∧ So key a b (downR d m (m - bis (fun h => !klt key d[m]! d[h]!) (m - a) a m)) := by
 obtain ⟨i, hi⟩ : ∃ i, i = bis (fun h => !klt key d[m]! d[h]!) (m - a) a m := ⟨_, rfl⟩
 obtain ⟨r1, r2, r3, r4⟩ := bis_spec (fun h => !klt key d[m]! d[h]!) (m - a) a m (by omega) (Nat.le_refl _) (fun x y h4 h5 h6 h7 => by
  by_cases hx : x = y
  ·rw [hx]; exact h7
  ·have := hl x y h4 (by omega) h6
   simp only [klt, Bool.not_eq_true', decide_eq_false_iff_not, le] at *
   omega)
 rw [← hi] at r1 r2 r3 r4 ⊢
 refine ⟨downR_perm d m a b _ (by omega) (by omega) h3, fun p q h4 h5 h6 => ?_⟩
 rw [downR_get d m (by omega) _ (by omega), downR_get d m (by omega) _ (by omega)]
 have key1 : ∀ x, a ≤ x → x < i → ¬ key d[m]! < key d[x]! := fun x h7 h8 => by have := r3 x h7 h8; simpa only [klt, Bool.not_eq_true', decide_eq_false_iff_not] using this
 have key2 : ∀ x, i ≤ x → x < m → key d[m]! < key d[x]! := fun x h7 h8 => by have := r4 x h7 h8; simpa only [klt, Bool.not_eq_false', decide_eq_true_eq] using this
 repeat' split
 all_goals first | (exfalso; omega) | skip
 ·exact hl (p - 1) (q - 1) (by omega) (by omega) (by omega)
 ·exact .inl (key2 (q - 1) (by omega) (by omega))
 ·exact hl p (q - 1) (by omega) (by omega) (by omega)
 ·have h7 := key1 p (by omega) (by omega)
  have h8 := ht p m (by omega) (by omega) (by omega) (by omega)
  unfold le
  omega
 ·exact hl p q (by omega) (by omega) (by omega)

theorem symS_law {a m b : Nat} {d : Array Nat} (h1 : a < m) (h2 : m < b) (hl : So key a m d) (hr : So key m b d) :
  a ≤ symS (klt key) d a m b ∧ symS (klt key) d a m b ≤ m ∧ symS (klt key) d a m b ≤ (a + b) / 2 ∧ (a + b) / 2 + m - symS (klt key) d a m b ≤ b ∧
  (∀ p q, a ≤ p → p < symS (klt key) d a m b → (a + b) / 2 + m - symS (klt key) d a m b ≤ q → q < b → key d[p]! ≤ key d[q]!) ∧
  (∀ p q, m ≤ p → p < (a + b) / 2 + m - symS (klt key) d a m b → symS (klt key) d a m b ≤ q → q < m → key d[p]! < key d[q]!) := by
 have hkl : ∀ i j, a ≤ i → i ≤ j → j < m → key d[i]! ≤ key d[j]! := fun i j h3 h4 h5 => by
  by_cases hx : i = j
  ·rw [hx]; exact Int.le_refl _
  ·have := hl i j h3 (by omega) h5
   unfold le at this
   omega
 have hkr : ∀ i j, m ≤ i → i ≤ j → j < b → key d[i]! ≤ key d[j]! := fun i j h3 h4 h5 => by
  by_cases hx : i = j
  ·rw [hx]; exact Int.le_refl _
  ·have := hr i j h3 (by omega) h5
   unfold le at this
   omega
 clear hl hr
 obtain ⟨mid, hmid⟩ : ∃ mid, mid = (a + b) / 2 := ⟨_, rfl⟩
 obtain ⟨st, hst⟩ : ∃ st, st = if mid < m then mid + m - b else a := ⟨_, rfl⟩
 obtain ⟨rt, hrt⟩ : ∃ rt, rt = if mid < m then mid else m := ⟨_, rfl⟩
 have hb : a ≤ st ∧ st ≤ rt ∧ rt ≤ m ∧ rt ≤ mid ∧ mid + m ≤ b + st ∧ (st = a ∨ mid + m = b + st) ∧ (rt = m ∨ rt = mid) := by
  rw [hst, hrt]; split <;> omega
 obtain ⟨r1, r2, r3, r4⟩ := bis_spec (fun c => !klt key d[mid + m - 1 - c]! d[c]!) (b - a) st rt (by omega) (by omega) (fun x y h4 h5 h6 h7 => by
  have h8 := hkl x y (by omega) h5 (by omega)
  have h9 := hkr (mid + m - 1 - y) (mid + m - 1 - x) (by omega) (by omega) (by omega)
  simp only [klt, Bool.not_eq_true', decide_eq_false_iff_not] at *
  omega)
 have hs : symS (klt key) d a m b = bis (fun c => !klt key d[mid + m - 1 - c]! d[c]!) (b - a) st rt := by rw [hst, hrt, hmid]; rfl
 rw [← hs] at r1 r2 r3 r4
 generalize symS (klt key) d a m b = s at *
 rw [← hmid]
 clear hst hrt hs
 refine ⟨by omega, by omega, by omega, by omega, fun p q h4 h5 h6 h7 => ?_, fun p q h4 h5 h6 h7 => ?_⟩
 ·have h8 := r3 (s - 1) (by omega) (by omega)
  have h9 := hkl p (s - 1) h4 (by omega) (by omega)
  have e : mid + m - 1 - (s - 1) = mid + m - s := by omega
  have h10 := hkr (mid + m - s) q (by omega) h6 h7
  simp only [klt, Bool.not_eq_true', decide_eq_false_iff_not, e] at h8
  omega
 ·have h8 := r4 s (Nat.le_refl _) (by omega)
  have h9 := hkl s q (by omega) h6 h7
  have e : mid + m - 1 - s = mid + m - s - 1 := by omega
  have h10 := hkr p (mid + m - s - 1) h4 (by omega) (by omega)
  simp only [klt, Bool.not_eq_false', decide_eq_true_eq, e] at h8
  omega
theorem symTail_law {a m b s mid e : Nat} {d : Array Nat} (step : Array Nat → Nat → Nat → Nat → Array Nat) (h1 : a < m) (h2 : m < b) (h3 : b ≤ d.size) (hl : So key a m d) (hr : So key m b d) (ht : LtB a m b d)
  (g1 : a ≤ s) (g2 : s ≤ m) (g3 : s ≤ mid) (g4 : e ≤ b) (g5 : e + s = mid + m) (g6 : a < mid) (g7 : mid < b)
  (hx : ∀ p q, a ≤ p → p < s → e ≤ q → q < b → key d[p]! ≤ key d[q]!) (hy : ∀ p q, m ≤ p → p < e → s ≤ q → q < m → key d[p]! < key d[q]!)
  (IH1 : ∀ d', d'.size = d.size → So key a s d' → So key s mid d' → LtB a s mid d' → a < s → s < mid → PermIn a mid d' (step d' a s mid) ∧ So key a mid (step d' a s mid))
  (IH2 : ∀ d', d'.size = d.size → So key mid e d' → So key e b d' → LtB mid e b d' → mid < e → e < b → PermIn mid b d' (step d' mid e b) ∧ So key mid b (step d' mid e b)) :
  PermIn a b d (symTail step d a m b mid s e) ∧ So key a b (symTail step d a m b mid s e) := by
 unfold symTail
 simp only []
 obtain ⟨d1, hd1⟩ : ∃ d1, d1 = if s < m ∧ m < e then rotR m (e - s) d (m - s) (e - m) else d := ⟨_, rfl⟩
 have G1 : ∀ k, d1[k]! = if s ≤ k ∧ k < mid then d[k + (m - s)]! else if mid ≤ k ∧ k < e then d[k - (e - m)]! else d[k]! := by
  intro k
  rw [hd1]
  by_cases hc : s < m ∧ m < e
  ·rw [if_pos hc, rotR_get m (e - s) d (m - s) (e - m) (by omega) (by omega) (by omega) (by omega) (by omega)]
   repeat' split
   all_goals first | (exfalso; omega) | exact getc d (by omega)
  ·rw [if_neg hc]
   repeat' split
   all_goals first | (exfalso; omega) | exact getc d (by omega)
 have P1 : PermIn a b d d1 := by
  rw [hd1]
  split
  ·exact rotR_perm m a b _ _ _ _ (by omega) (by omega) (by omega) h3
  ·exact permIn_refl d a b
 rw [← hd1]
 clear hd1
 have A1 : So key a s d1 := so_of_eq (fun i j h4 h5 h6 => hl i j h4 h5 (by omega)) (fun k h4 h5 => by rw [G1, if_neg (by omega), if_neg (by omega)])
 have B1 : So key s mid d1 := fun i j h4 h5 h6 => by
  rw [G1 i, G1 j, if_pos (by omega), if_pos (by omega)]
  exact hr _ _ (by omega) (by omega) (by omega)
 have A2 : So key mid e d1 := fun i j h4 h5 h6 => by
  rw [G1 i, G1 j, if_neg (by omega), if_pos (by omega), if_neg (by omega), if_pos (by omega)]
  exact hl _ _ (by omega) (by omega) (by omega)
 have B2 : So key e b d1 := so_of_eq (fun i j h4 h5 h6 => hr i j (by omega) h5 h6) (fun k h4 h5 => by rw [G1, if_neg (by omega), if_neg (by omega)])
 have L1 : LtB a s mid d1 := fun i j h4 h5 h6 h7 => by
  rw [G1 i, G1 j, if_neg (by omega), if_neg (by omega), if_pos (by omega)]
  exact ht _ _ (by omega) (by omega) (by omega) (by omega)
 have L2 : LtB mid e b d1 := fun i j h4 h5 h6 h7 => by
  rw [G1 i, G1 j, if_neg (by omega), if_pos (by omega), if_neg (by omega), if_neg (by omega)]
  exact ht _ _ (by omega) (by omega) (by omega) (by omega)
 have X : ∀ p q, a ≤ p → p < mid → mid ≤ q → q < b → le key d1[p]! d1[q]! := by
  intro p q h4 h5 h6 h7
  rw [G1 p, G1 q]
  by_cases hp : p < s
  ·rw [if_neg (by omega), if_neg (by omega)]
   by_cases hq : q < e
   ·rw [if_neg (by omega), if_pos (by omega)]
    exact hl _ _ (by omega) (by omega) (by omega)
   ·rw [if_neg (by omega), if_neg (by omega)]
    have h8 := hx p q h4 hp (by omega) h7
    have h9 := ht p q h4 (by omega) (by omega) h7
    unfold le
    omega
  ·rw [if_pos (by omega)]
   by_cases hq : q < e
   ·rw [if_neg (by omega), if_pos (by omega)]
    exact .inl (hy _ _ (by omega) (by omega) (by omega) (by omega))
   ·rw [if_neg (by omega), if_neg (by omega)]
    exact hr _ _ (by omega) (by omega) (by omega)
 have z1 : d1.size = d.size := P1.1
 obtain ⟨d2, hd2⟩ : ∃ d2, d2 = if a < s ∧ s < mid then step d1 a s mid else d1 := ⟨_, rfl⟩
 have H2 : PermIn a mid d1 d2 ∧ So key a mid d2 := by
  rw [hd2]
  by_cases hc : a < s ∧ s < mid
  ·rw [if_pos hc]
   exact IH1 d1 z1 A1 B1 L1 hc.1 hc.2
  ·rw [if_neg hc]
   refine ⟨permIn_refl d1 a mid, ?_⟩
   by_cases hs : a = s
   ·rw [hs]; exact B1
   ·have : s = mid := by omega
    rw [← this]; exact A1
 rw [← hd2]
 clear hd2
 have z2 : d2.size = d.size := by rw [H2.1.1]; exact z1
 have same2 : ∀ k, mid ≤ k → d2[k]! = d1[k]! := fun k hk => H2.1.2.1 k (.inr hk)
 obtain ⟨d3, hd3⟩ : ∃ d3, d3 = if mid < e ∧ e < b then step d2 mid e b else d2 := ⟨_, rfl⟩
 have A2' : So key mid e d2 := so_of_eq A2 (fun k h4 _ => same2 k h4)
 have B2' : So key e b d2 := so_of_eq B2 (fun k h4 _ => same2 k (by omega))
 have H3 : PermIn mid b d2 d3 ∧ So key mid b d3 := by
  rw [hd3]
  by_cases hc : mid < e ∧ e < b
  ·rw [if_pos hc]
   exact IH2 d2 z2 A2' B2' (fun i j h4 h5 h6 h7 => by rw [same2 i h4, same2 j (by omega)]; exact L2 i j h4 h5 h6 h7) hc.1 hc.2
  ·rw [if_neg hc]
   refine ⟨permIn_refl d2 mid b, ?_⟩
   by_cases hs : e = b
   ·rw [← hs]; exact A2'
   ·have : e = mid := by omega
    rw [← this]; exact B2'
 rw [← hd3]
 clear hd3
 refine ⟨permIn_trans _ _ _ _ _ P1 (permIn_trans _ _ _ _ _ (permIn_mono d1 d2 a mid a b (Nat.le_refl _) (by omega) (by omega) H2.1) (permIn_mono d2 d3 mid b a b (by omega) (Nat.le_refl _) (by omega) H3.1)), ?_⟩
 intro p q h4 h5 h6
 by_cases hq : q < mid
 ·rw [H3.1.2.1 p (.inl (by omega)), H3.1.2.1 q (.inl hq)]
  exact H2.2 p q h4 h5 hq
 ·by_cases hp : mid ≤ p
  ·exact H3.2 p q hp h5 h6
  ·rw [H3.1.2.1 p (.inl (by omega))]
   refine permIn_all d2 d3 mid b (fun z => le key d2[p]! z) (by omega) H3.1 (fun j h7 h8 => ?_) q (by omega) h6
   show le key d2[p]! d2[j]!
   rw [same2 j h7]
   exact permIn_all d1 d2 a mid (fun z => le key z d1[j]!) (by omega) H2.1 (fun i h9 h10 => X i j h9 h10 h7 h8) p h4 (by omega)
theorem symM_law : ∀ f (d : Array Nat) a m b, a < m → m < b → b ≤ d.size → b - a ≤ f → So key a m d → So key m b d → LtB a m b d →
  PermIn a b d (symM (klt key) f d a m b) ∧ So key a b (symM (klt key) f d a m b)
 | 0, d, a, m, b, h1, h2, h3, h4, hl, hr, ht => by omega
 | f + 1, d, a, m, b, h1, h2, h3, h4, hl, hr, ht => by
  rw [symM]
  split
  ·exact symOne_law (by assumption) h2 h3 hr ht
  ·split
   ·exact symLast_law (by assumption) h1 h3 hl ht
   ·obtain ⟨g1, g2, g3, g4, g5, g6⟩ := symS_law h1 h2 hl hr
    refine symTail_law (symM (klt key) f) h1 h2 h3 hl hr ht g1 g2 g3 g4 (by omega) (by omega) (by omega) g5 g6 (fun d' z s1 s2 s3 s4 s5 => ?_) (fun d' z s1 s2 s3 s4 s5 => ?_)
    ·exact symM_law f d' _ _ _ s4 s5 (by omega) (by omega) s1 s2 s3
    ·exact symM_law f d' _ _ _ s4 s5 (by omega) (by omega) s1 s2 s3

/-! ### insertion -/
theorem insInner_perm (lt : Nat → Nat → Bool) (a i : Nat) : ∀ j (d : Array Nat), a ≤ j → j ≤ i → i < d.size → PermIn a (i + 1) d (insInner lt a j d)
 | 0, d, _, _, _ => by rw [insInner]; exact permIn_refl d a (i + 1)
 | j + 1, d, h1, h2, h3 => by
  rw [insInner]
  split
  ·rename_i hc
   simp only [Bool.and_eq_true, decide_eq_true_eq] at hc
   exact permIn_trans _ _ _ _ _ (swp_permIn d a (i + 1) (j + 1) j (by omega) (by omega) (by omega) (by omega) (by omega)) (insInner_perm lt a i j _ (by omega) (by omega) (by rw [size_swp]; exact h3))
  ·exact permIn_refl d a (i + 1)
theorem insInner_lex (a : Nat) : ∀ j (d : Array Nat), j < d.size → (∀ p, a ≤ p → p < j → d[p]! < d[j]!) → insInner (klt key) a j d = insInner (lex key) a j d
 | 0, d, _, _ => by rw [insInner, insInner]
 | j + 1, d, hs, h => by
  rw [insInner, insInner]
  by_cases ha : j + 1 > a
  ·have h1 := h j (by omega) (by omega)
   have e : klt key d[j + 1]! d[j]! = lex key d[j + 1]! d[j]! := by
    unfold klt lex
    rw [decide_eq_decide]
    omega
   rw [e]
   split
   ·refine insInner_lex a j _ (by rw [size_swp]; omega) (fun p h2 h3 => ?_)
    rw [swp_other d _ _ p (by omega) (by omega), swp_right d _ _ (by omega)]
    exact h p h2 (by omega)
   ·rfl
  ·have e : (decide (j + 1 > a)) = false := decide_eq_false ha
   simp only [e, Bool.false_and]
   rfl
theorem insOuter_step (lt : Nat → Nat → Bool) (a b i : Nat) (d : Array Nat) (h : i < b) : insOuter lt a b i d = insOuter lt a b (i + 1) (insInner lt a i d) := by rw [insOuter, if_pos h]
theorem insOuter_lex (a b : Nat) : ∀ n i (d : Array Nat), b - i = n → a ≤ i → b ≤ d.size → (∀ p q, a ≤ p → p < q → i ≤ q → q < b → d[p]! < d[q]!) → insOuter (klt key) a b i d = insOuter (lex key) a b i d
 | 0, i, d, hn, _, _, _ => by rw [insOuter, if_neg (by omega), insOuter, if_neg (by omega)]
 | n + 1, i, d, hn, ha, hs, h => by
  have hp := insInner_perm (lex key) a i i d ha (Nat.le_refl _) (by omega)
  rw [insOuter_step _ a b i d (by omega), insOuter_step _ a b i d (by omega), insInner_lex a i d (by omega) (fun p h1 h2 => h p i h1 h2 (Nat.le_refl _) (by omega))]
  refine insOuter_lex a b n (i + 1) _ (by omega) (by omega) (by rw [hp.1]; exact hs) (fun p q h1 h2 h3 h4 => ?_)
  rw [hp.2.1 q (.inr (by omega))]
  by_cases hx : p < i + 1
  ·exact permIn_all d _ a (i + 1) (fun z => z < d[q]!) (by omega) hp (fun k h5 h6 => h k q h5 (by omega) (by omega) h4) p h1 hx
  ·rw [hp.2.1 p (.inr (by omega))]
   exact h p q h1 h2 (by omega) h4
theorem insertion_law {a b : Nat} {d : Array Nat} (h1 : a ≤ b) (h2 : b ≤ d.size) (h : ∀ p q, a ≤ p → p < q → q < b → d[p]! < d[q]!) :
  PermIn a b d (Sort.insertionSort (klt key) d a b) ∧ So key a b (Sort.insertionSort (klt key) d a b) := by
 have e : Sort.insertionSort (klt key) d a b = Sort.insertionSort (lex key) d a b := by
  unfold Sort.insertionSort
  exact insOuter_lex a b _ _ d rfl (by omega) h2 (fun p q h3 h4 _ h5 => h p q h3 h4 h5)
 rw [e]
 have hh := insertionSort_holds (lt := lex key) (lex_swo key) d a b h1 h2
 exact ⟨hh.1, (so_iff key).1 hh.2⟩

/-! ### blocks, merges -/
theorem dvd_next {s a c : Nat} (ha : s ∣ a) (hc : s ∣ c) (h : a < c) : a + s ≤ c := by
 have := Nat.le_of_dvd (by omega) (Nat.dvd_sub hc ha)
 omega
theorem blocks_law (n : Nat) : ∀ f (d : Array Nat) a, 20 ∣ a → n ≤ d.size → n - a ≤ f → a ≤ n → (∀ i j, i < j → a ≤ j → j < n → d[i]! < d[j]!) →
  PermIn a n d (blocksR (klt key) n f d a) ∧ (∀ c, 20 ∣ c → a ≤ c → So key c (min (c + 20) n) (blocksR (klt key) n f d a))
 | 0, d, a, hd, hs, hf, ha, h => by
  have : a = n := by omega
  subst this
  rw [blocksR]
  have hi := insertion_law (key := key) (d := d) (Nat.le_refl a) hs (fun p q h1 h2 h3 => by omega)
  exact ⟨hi.1, fun c _ h1 i j h2 h3 h4 => by omega⟩
 | f + 1, d, a, hd, hs, hf, ha, h => by
  rw [blocksR]
  split
  ·rename_i hc
   have hi := insertion_law (key := key) (d := d) (a := a) (b := a + 20) (by omega) (by omega) (fun p q h1 h2 h3 => h p q h2 (by omega) (by omega))
   obtain ⟨r1, r2⟩ := blocks_law n f _ (a + 20) (by omega) (by rw [hi.1.1]; exact hs) (by omega) hc (fun i j h1 h2 h3 => by
    rw [hi.1.2.1 j (.inr h2)]
    by_cases hx : a ≤ i ∧ i < a + 20
    ·exact permIn_all d _ a (a + 20) (fun z => z < d[j]!) (by omega) hi.1 (fun k h5 h6 => h k j (by omega) (by omega) h3) i hx.1 hx.2
    ·rw [hi.1.2.1 i (by omega)]
     exact h i j h1 (by omega) h3)
   refine ⟨permIn_trans _ _ _ _ _ (permIn_mono _ _ a (a + 20) a n (Nat.le_refl _) hc hs hi.1) (permIn_mono _ _ (a + 20) n a n (by omega) (Nat.le_refl _) (by rw [hi.1.1]; exact hs) r1), fun c h1 h2 => ?_⟩
   by_cases hx : c = a
   ·subst hx
    rw [Nat.min_eq_left hc]
    exact so_of_eq hi.2 (fun k h3 h4 => r1.2.1 k (.inl h4))
   ·exact r2 c h1 (dvd_next hd h1 (by omega))
  ·rename_i hc
   have hi := insertion_law (key := key) (d := d) ha hs (fun p q h1 h2 h3 => h p q h2 (by omega) (by omega))
   refine ⟨hi.1, fun c h1 h2 => ?_⟩
   by_cases hx : c = a
   ·subst hx
    rw [Nat.min_eq_right (by omega)]
    exact hi.2
   ·have := dvd_next hd h1 (by omega)
    exact fun i j h3 h4 h5 => by omega
theorem mergeRow_law (n s : Nat) (hs0 : 0 < s) : ∀ f (d : Array Nat) a, 2 * s ∣ a → n ≤ d.size → n + 1 - a ≤ f → a ≤ n → (∀ c, s ∣ c → (2 * s ∣ c ∨ a ≤ c) → TagAt n c d) → (∀ c, s ∣ c → a ≤ c → So key c (min (c + s) n) d) →
  PermIn a n d (mergeRow (klt key) n s f d a) ∧ (∀ c, 2 * s ∣ c → TagAt n c (mergeRow (klt key) n s f d a)) ∧ (∀ c, 2 * s ∣ c → a ≤ c → So key c (min (c + 2 * s) n) (mergeRow (klt key) n s f d a))
 | 0, d, a, hd, hs, hf, ha, ht, h => by omega
 | f + 1, d, a, hd, hs, hf, ha, ht, h => by
  have h2s : ∀ c, 2 * s ∣ c → s ∣ c := fun c hc => Nat.dvd_trans (Nat.dvd_mul_left s 2) hc
  have hds := h2s a hd
  have hd2 : s ∣ a + s := Nat.dvd_add hds (Nat.dvd_refl s)
  have htm := ht (a + s) hd2 (.inr (by omega))
  rw [mergeRow]
  split
  ·rename_i hc
   have h1 := h a hds (Nat.le_refl _)
   have h2 := h (a + s) hd2 (by omega)
   rw [Nat.min_eq_left (by omega)] at h1 h2
   have e : a + s + s = a + 2 * s := by omega
   rw [e] at h2
   obtain ⟨p1, p2⟩ := symM_law (key := key) (2 * s) d a (a + s) (a + 2 * s) (by omega) (by omega) (by omega) (by omega) h1 h2 (fun i j h3 h4 h5 h6 => htm i j h4 h5 (by omega))
   have hside : ∀ c, 2 * s ∣ c → a + 2 * s ≤ c ∨ c ≤ a := fun c hc => by
    by_cases hx : a < c
    ·exact .inl (dvd_next hd hc hx)
    ·exact .inr (by omega)
   obtain ⟨r1, r2, r3⟩ := mergeRow_law n s hs0 f (symM (klt key) (2 * s) d a (a + s) (a + 2 * s)) (a + 2 * s) (Nat.dvd_add hd (Nat.dvd_refl _)) (by rw [p1.1]; exact hs) (by omega) hc
    (fun c hc1 hc2 => tag_perm hs (ht c hc1 (by rcases hc2 with hc2 | hc2; exact .inl hc2; exact .inr (by omega))) p1 (by rcases hc2 with hc2 | hc2; exact hside c hc2; exact .inl hc2) hc)
    (fun c hc1 hc2 => so_of_eq (h c hc1 (by omega)) (fun k h5 h6 => p1.2.1 k (.inr (by omega))))
   refine ⟨permIn_trans _ _ _ _ _ (permIn_mono _ _ a (a + 2 * s) a n (Nat.le_refl _) hc hs p1) (permIn_mono _ _ (a + 2 * s) n a n (by omega) (Nat.le_refl _) (by rw [p1.1]; exact hs) r1), r2, fun c h3 h4 => ?_⟩
   by_cases hx : c = a
   ·subst hx
    rw [Nat.min_eq_left hc]
    exact so_of_eq p2 (fun k h5 h6 => r1.2.1 k (.inl h6))
   ·exact r3 c h3 (dvd_next hd h3 (by omega))
  ·rename_i hc
   have hside : ∀ c, 2 * s ∣ c → n ≤ c ∨ c ≤ a := fun c hc => by
    by_cases hx : a < c
    ·have := dvd_next hd hc hx
     exact .inl (by omega)
    ·exact .inr (by omega)
   split
   ·rename_i hc2
    have h1 := h a hds (Nat.le_refl _)
    have h2 := h (a + s) hd2 (by omega)
    rw [Nat.min_eq_left (by omega)] at h1
    rw [Nat.min_eq_right (by omega)] at h2
    obtain ⟨p1, p2⟩ := symM_law (key := key) n d a (a + s) n (by omega) hc2 hs (by omega) h1 h2 (fun i j h3 h4 h5 h6 => htm i j h4 h5 h6)
    refine ⟨p1, fun c h3 => tag_perm hs (ht c (h2s c h3) (.inl h3)) p1 (hside c h3) (Nat.le_refl _), fun c h3 h4 => ?_⟩
    by_cases hx : c = a
    ·subst hx
     rw [Nat.min_eq_right (by omega)]
     exact p2
    ·have := hside c h3
     exact fun i j h5 h6 h7 => by omega
   ·rename_i hc2
    refine ⟨permIn_refl d a n, fun c h3 => ht c (h2s c h3) (.inl h3), fun c h3 h4 => ?_⟩
    by_cases hx : c = a
    ·subst hx
     have h1 := h c hds (Nat.le_refl _)
     rw [Nat.min_eq_right (by omega)] at h1 ⊢
     exact h1
    ·have := hside c h3
     exact fun i j h5 h6 h7 => by omega
theorem merges_law (n : Nat) : ∀ f (d : Array Nat) s, 0 < s → n ≤ d.size → n - s ≤ f → (∀ c, s ∣ c → TagAt n c d) → (∀ c, s ∣ c → So key c (min (c + s) n) d) →
  PermIn 0 n d (mergesR (klt key) n f d s) ∧ So key 0 n (mergesR (klt key) n f d s)
 | 0, d, s, hs0, hs, hf, ht, h => by
  rw [mergesR]
  have h1 := h 0 (Nat.dvd_zero s)
  rw [Nat.min_eq_right (by omega)] at h1
  exact ⟨permIn_refl d 0 n, h1⟩
 | f + 1, d, s, hs0, hs, hf, ht, h => by
  rw [mergesR]
  split
  ·rename_i hc
   obtain ⟨r1, r2, r3⟩ := mergeRow_law (key := key) n s hs0 (n + 1) d 0 (Nat.dvd_zero _) hs (by omega) (by omega) (fun c hc _ => ht c hc) (fun c hc _ => h c hc)
   rw [Nat.mul_comm s 2]
   obtain ⟨q1, q2⟩ := merges_law n f _ (2 * s) (by omega) (by rw [r1.1]; exact hs) (by omega) r2 (fun c hc => r3 c hc (Nat.zero_le _))
   exact ⟨permIn_trans _ _ _ _ _ r1 q1, q2⟩
  ·have h1 := h 0 (Nat.dvd_zero s)
   rw [Nat.min_eq_right (by omega)] at h1
   exact ⟨permIn_refl d 0 n, h1⟩
theorem stable_law (n : Nat) (d : Array Nat) (hs : d.size = n) (h : ∀ i j, i < j → j < n → d[i]! < d[j]!) :
  PermIn 0 n d (stableR (klt key) d n) ∧ So key 0 n (stableR (klt key) d n) := by
 unfold stableR
 obtain ⟨b1, b2⟩ := blocks_law (key := key) n n d 0 (Nat.dvd_zero _) (by omega) (by omega) (by omega) (fun i j h1 _ h3 => h i j h1 h3)
 have tags : ∀ f (d : Array Nat) a, 20 ∣ a → n ≤ d.size → n - a ≤ f → a ≤ n → (∀ i j, i < j → a ≤ j → j < n → d[i]! < d[j]!) → (∀ c, 20 ∣ c → TagAt n c d) → ∀ c, 20 ∣ c → TagAt n c (blocksR (klt key) n f d a) := by
  intro f
  induction f with
  | zero =>
   intro d a h0 h1 h2 h3 h4 h5 c h6
   have hi := insertion_law (key := key) (d := d) h3 h1 (fun p q h7 h8 h9 => by omega)
   rw [blocksR]
   have : a = n := by omega
   exact tag_perm h1 (h5 c h6) hi.1 (by omega) (Nat.le_refl _)
  | succ f ih =>
   intro d a h0 h1 h2 h3 h4 h5 c h6
   rw [blocksR]
   split
   ·rename_i hc
    have hi := insertion_law (key := key) (d := d) (a := a) (b := a + 20) (by omega) (by omega) (fun p q h1 h2 h3 => h4 p q h2 (by omega) (by omega))
    refine ih _ (a + 20) (by omega) (by rw [hi.1.1]; exact h1) (by omega) hc (fun i j h7 h8 h9 => ?_) (fun c h7 => tag_perm h1 (h5 c h7) hi.1 (by omega) hc) c h6
    rw [hi.1.2.1 j (.inr h8)]
    by_cases hx : a ≤ i ∧ i < a + 20
    ·exact permIn_all d _ a (a + 20) (fun z => z < d[j]!) (by omega) hi.1 (fun k h5 h6 => h4 k j (by omega) (by omega) h9) i hx.1 hx.2
    ·rw [hi.1.2.1 i (by omega)]
     exact h4 i j h7 (by omega) h9
   ·rename_i hc
    have hi := insertion_law (key := key) (d := d) h3 h1 (fun p q h7 h8 h9 => h4 p q h8 (by omega) h9)
    exact tag_perm h1 (h5 c h6) hi.1 (by omega) (Nat.le_refl _)
 obtain ⟨m1, m2⟩ := merges_law (key := key) n n (blocksR (klt key) n n d 0) 20 (by omega) (by rw [b1.1]; omega) (by omega) (tags n d 0 (Nat.dvd_zero _) (by omega) (by omega) (by omega) (fun i j h1 _ h3 => h i j h1 h3) (fun c _ i j h1 h2 h3 => h i j (by omega) h3)) (fun c hc => b2 c hc (Nat.zero_le _))
 exact ⟨permIn_trans _ _ _ _ _ b1 m1, m2⟩
end tags

/-! ### As lists -/
/-- x is put ahead of the first that weighs more. -/
def insK {β : Type} (wt : β → Int) (x : β) : List β → List β
 | [] => [x]
 | y :: ys => if wt x < wt y then x :: y :: ys else y :: insK wt x ys
/-- One after the other. -/
def isort {β : Type} (wt : β → Int) (l : List β) : List β := l.foldl (fun acc x => insK wt x acc) []
theorem insK_map {β γ : Type} (wt : β → Int) (wg : γ → Int) (g : β → γ) (x : β) : ∀ l : List β, wt x = wg (g x) → (∀ y ∈ l, wt y = wg (g y)) → (insK wt x l).map g = insK wg (g x) (l.map g)
 | [], _, _ => rfl
 | y :: ys, h, hl => by
  rw [insK, List.map_cons, insK, ← h, ← hl y List.mem_cons_self]
  split
  ·rfl
  ·rw [List.map_cons, insK_map wt wg g x ys h (fun z hz => hl z (List.mem_cons_of_mem _ hz))]
theorem insK_perm {β : Type} (wt : β → Int) (x : β) : ∀ l : List β, (insK wt x l).Perm (x :: l)
 | [] => List.Perm.refl _
 | y :: ys => by
  rw [insK]
  split
  ·exact List.Perm.refl _
  ·exact ((insK_perm wt x ys).cons y).trans (List.Perm.swap x y ys)
theorem isort_snoc {β : Type} (wt : β → Int) (l : List β) (x : β) : isort wt (l ++ [x]) = insK wt x (isort wt l) := by
 unfold isort
 rw [List.foldl_append]
 rfl
theorem isort_perm {β : Type} (wt : β → Int) (l : List β) : (isort wt l).Perm l := by
 have h : ∀ (l acc : List β), (l.foldl (fun acc x => insK wt x acc) acc).Perm (l ++ acc) := by
  intro l
  induction l with
  | nil => intro acc; exact List.Perm.refl _
  | cons x l ih =>
   intro acc
   rw [List.foldl_cons]
   exact (ih _).trans (((insK_perm wt x acc).append_left l).trans (List.perm_middle))
 have := h l []
 rw [List.append_nil] at this
 exact this
theorem isort_map {β γ : Type} (wt : β → Int) (wg : γ → Int) (g : β → γ) (l : List β) (h : ∀ y ∈ l, wt y = wg (g y)) : (isort wt l).map g = isort wg (l.map g) := by
 have hh : ∀ (l acc : List β), (∀ y ∈ l, wt y = wg (g y)) → (∀ y ∈ acc, wt y = wg (g y)) → (l.foldl (fun acc x => insK wt x acc) acc).map g = (l.map g).foldl (fun acc x => insK wg x acc) (acc.map g) := by
  intro l
  induction l with
  | nil => intro acc _ _; rfl
  | cons x l ih =>
   intro acc h1 h2
   rw [List.foldl_cons, List.map_cons, List.foldl_cons, ← insK_map wt wg g x acc (h1 x List.mem_cons_self) h2]
   refine ih _ (fun y hy => h1 y (List.mem_cons_of_mem _ hy)) (fun y hy => ?_)
   rcases List.mem_cons.1 ((insK_perm wt x acc).mem_iff.1 hy) with hy | hy
   ·rw [hy]; exact h1 x List.mem_cons_self
   ·exact h2 y hy
 exact hh l [] h (fun y hy => by cases hy)
theorem insK_sorted (key : Nat → Int) (x : Nat) : ∀ l : List Nat, l.Pairwise (le key) → (∀ y ∈ l, y ≤ x) → (insK key x l).Pairwise (le key)
 | [], _, _ => List.pairwise_singleton _ _
 | y :: ys, h, hx => by
  rw [insK]
  obtain ⟨h1, h2⟩ := List.pairwise_cons.1 h
  split
  ·rename_i hc
   refine List.pairwise_cons.2 ⟨fun z hz => .inl ?_, h⟩
   rcases List.mem_cons.1 hz with hz | hz
   ·rw [hz]; exact hc
   ·have := h1 z hz
    unfold le at this
    omega
  ·rename_i hc
   refine List.pairwise_cons.2 ⟨fun z hz => ?_, insK_sorted key x ys h2 (fun z hz => hx z (List.mem_cons_of_mem _ hz))⟩
   rcases List.mem_cons.1 ((insK_perm key x ys).mem_iff.1 hz) with hz | hz
   ·have := hx y List.mem_cons_self
    subst hz
    unfold le
    omega
   ·exact h1 z hz
theorem isort_sorted (key : Nat → Int) : ∀ n, (isort key (List.range n)).Pairwise (le key)
 | 0 => List.Pairwise.nil
 | n + 1 => by
  rw [List.range_succ, isort_snoc]
  refine insK_sorted key n _ (isort_sorted key n) (fun y hy => ?_)
  have := List.mem_range.1 ((isort_perm key _).mem_iff.1 hy)
  omega
/-- The stable sort's list. -/
theorem stable_list (key : Nat → Int) (n : Nat) : (stableR (klt key) (Array.range n) n).toList = isort key (List.range n) := by
 have hg : ∀ i, i < n → (Array.range n)[i]! = i := fun i hi => by rw [getElem!_pos _ i (by simpa using hi)]; simp
 obtain ⟨⟨h1, _, h2⟩, h3⟩ := stable_law (key := key) n (Array.range n) Array.size_range (fun i j hi hj => by rw [hg i (by omega), hg j hj]; exact hi)
 rw [Array.size_range] at h1
 have e1 : ∀ d : Array Nat, d.size = n → d.extract 0 n = d := fun d hd => by rw [← hd]; exact Array.extract_size
 rw [e1 _ h1, e1 _ Array.size_range, Array.toList_range] at h2
 refine List.Perm.eq_of_pairwise (le := le key) ?_ ?_ (isort_sorted key n) (h2.trans (isort_perm key _).symm)
 ·intro a b _ _ h4 h5
  unfold le at h4 h5
  omega
 ·rw [List.pairwise_iff_getElem]
  intro i j hi hj hij
  rw [Array.length_toList] at hi hj
  have := h3 i j (Nat.zero_le _) hij (by omega)
  rw [getElem!_pos _ i hi, getElem!_pos _ j hj] at this
  simpa using this
end Go.Proofs.Ytimomemkbcidnaa.MStab
