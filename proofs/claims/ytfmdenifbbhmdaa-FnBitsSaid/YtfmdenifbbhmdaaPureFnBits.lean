/- The law FnBits: for every input within the row's bounds the printed function answers true: what the program's function tells is what the law asks. Conditions: only the bounds that the row itself gives (sizes of strings and slices, ranges of the number kinds). -/
import Derived.Test.YtfmdenifbbhmdaaPFnBitsx3
import Derived.Test.YtfmdenifbbhmdaaMPut
namespace Go.Proofs.Ytfmdenifbbhmdaa.Pure
open Go.RowKit Go.Proofs.Ytfmdenifbbhmdaa.PFnBits Go.Proofs.YtfmdenifbbhmdaaW.PrintWords Go.Proofs.YtfmdenifbbhmdaaW.PrintLast Go.Proofs.YtfmdenifbbhmdaaW.PrintMore
set_option linter.unusedVariables false
set_option linter.unusedSimpArgs false

theorem w64_id {x : Int} (h0 : -9223372036854775808 ≤ x) (h1 : x ≤ 9223372036854775807) : wrap64 x = x := by unfold wrap64; omega
theorem tmod_nn {a : Int} (b : Int) (h : 0 ≤ a) : Int.tmod a b = a % b := Int.tmod_eq_emod_of_nonneg h
theorem tdiv_nn {a : Int} (b : Int) (h : 0 ≤ a) : Int.tdiv a b = a / b := Int.tdiv_eq_ediv_of_nonneg h
theorem wf64 {n : Int} (h : (Lit.int .i64 n).wf = true) : -9223372036854775808 ≤ n ∧ n ≤ 9223372036854775807 := by
  simp [Lit.wf, IntKind.min, IntKind.max, IntKind.signed, IntKind.bits] at h
  omega
theorem wfu32 {n : Int} (h : (Lit.int .u32 n).wf = true) : 0 ≤ n ∧ n ≤ 4294967295 := by
  simp [Lit.wf, IntKind.min, IntKind.max, IntKind.signed, IntKind.bits] at h
  omega
theorem wraps64 (n : Int) (h0 : 0 ≤ n) (h1 : n < 2 ^ 63) : IntKind.i64.wrap n = n := by rw [IntKind.wrap_i64]; omega
theorem wrapsu32 (n : Int) (h0 : 0 ≤ n) (h1 : n < 2 ^ 32) : IntKind.u32.wrap n = n := by rw [IntKind.wrap_u32]; omega
/-- a | b of parts that do not meet, of an int. -/
theorem or64 (i : Nat) (x y : Int) (hx0 : 0 ≤ x) (hx : x % 2 ^ i = 0) (hx1 : x < 2 ^ 63) (hy0 : 0 ≤ y) (hy : y < 2 ^ i) (hy1 : y < 2 ^ 63) : Go.bits .or .i64 x y = x + y :=
  bits_join .i64 63 (by decide) wraps64 i x y hx0 hx hx1 hy0 hy hy1
theorem ev_ite_pos {α : Type} {c : Prop} [Decidable c] {f g : Nat → Option α} {r : α} (h : c) (k : Ev f r) : Ev (fun n => if c then f n else g n) r := Ev.congr (fun n => if_pos h) k
theorem ev_ite_neg {α : Type} {c : Prop} [Decidable c] {f g : Nat → Option α} {r : α} (h : ¬ c) (k : Ev g r) : Ev (fun n => if c then f n else g n) r := Ev.congr (fun n => if_neg h) k
/-- A callee without rounds that answers. -/
theorem ev_bind0 {α β : Type} {o : Option α} {f : Nat → α → Option β} {a : α} {r : β} (h : o = some a) (k : Ev (fun n => f n a) r) : Ev (fun n => o.bind (f n)) r := Ev.congr (fun n => by rw [h]; rfl) k
theorem bt_lo (s : ByteArray) (i : Int) : 0 ≤ bt s i := (bt_range s i).1
theorem bt_hi (s : ByteArray) (i : Int) : bt s i ≤ 255 := (bt_range s i).2
/-- A callee that answers from some number of rounds on, used. -/
theorem ev_use {α β : Type} {g : Nat → Option α} {a : α} {F G : Nat → Option β} {r : β} (e : Ev g a) (h : ∀ k, g k = some a → F k = G k) (c : Ev G r) : Ev F r := by
  obtain ⟨K, e⟩ := e
  obtain ⟨K', c⟩ := c
  exact ⟨max K K', fun n hn => (h n (e n (by omega))).trans (c n (by omega))⟩
theorem ev_use_step {α β : Type} {g : Nat → Option α} {a : α} {F G : Nat → Option β} {r : β} (e : Ev g a) (h : ∀ k, g k = some a → F (k + 1) = G k) (c : Ev G r) : Ev F r := by
  obtain ⟨K, e⟩ := e
  obtain ⟨K', c⟩ := c
  refine ⟨max K K' + 1, fun n hn => ?_⟩
  obtain ⟨m, rfl⟩ : ∃ m, n = m + 1 := ⟨n - 1, by omega⟩
  exact (h m (e m (by omega))).trans (c m (by omega))
theorem ev_end {α β : Type} {g : Nat → Option α} {a : α} {F : Nat → Option β} {r : β} (e : Ev g a) (h : ∀ k, g k = some a → F k = some r) : Ev F r := by
  obtain ⟨K, e⟩ := e
  exact ⟨K, fun n hn => h n (e n hn)⟩
theorem ev_two {α β : Type} {g : Nat → Option α} {h : Nat → Option β} {a : α} {b : β} (e : Ev g a) (f : Ev h b) : ∃ k, g k = some a ∧ h k = some b := by
  obtain ⟨K, e⟩ := e
  obtain ⟨K', f⟩ := f
  exact ⟨max K K', e _ (by omega), f _ (by omega)⟩
theorem ev_ret {α : Type} {F : Nat → Option α} {r : α} (h : ∀ k, F (k + 1) = some r) : Ev F r := ⟨1, fun n hn => by obtain ⟨m, rfl⟩ : ∃ m, n = m + 1 := ⟨n - 1, by omega⟩; exact h m⟩

theorem in_impl (a b c : Int) : impl_within.f a b c = some (decide (b ≤ a ∧ a ≤ c)) := by
  unfold impl_within.f
  split
  · rename_i h
    have e : (decide (a ≤ c)) = decide (b ≤ a ∧ a ≤ c) := decide_eq_decide.mpr ⟨fun h' => ⟨h, h'⟩, fun h' => h'.2⟩
    rw [e]
  · rename_i h
    have e : (decide (b ≤ a ∧ a ≤ c)) = false := decide_eq_false fun h' => h h'.1
    rw [e]

/-- 2^n, as the loop doubles it. -/
theorem pow_loop (n : Int) (d : Nat) : ∀ (x i : Int), 0 ≤ i → i + d = n → 0 ≤ x → x * 2 ^ d ≤ 4611686018427387904 → n ≤ 62 →
    Ev (fun k => spec_l01Pow.l0 k n x i) (x * 2 ^ d) := by
  induction d with
  | zero =>
    intro x i h0 h hx hb hn
    refine ev_ret (fun k => ?_)
    rw [spec_l01Pow.l0, if_neg (by omega)]
    simp
  | succ d ih =>
    intro x i h0 h hx hb hn
    have e : x * 2 ^ (d + 1) = 2 * x * 2 ^ d := by rw [Int.pow_succ, ← Int.mul_assoc, Int.mul_comm (x * 2 ^ d) 2, ← Int.mul_assoc]
    have hp : (1 : Int) ≤ 2 ^ d := by have : (0 : Int) < 2 ^ d := Int.pow_pos (by omega); omega
    have h2 : 2 * x ≤ 2 * x * 2 ^ d := by
      have := Int.mul_le_mul_of_nonneg_left hp (show 0 ≤ 2 * x by omega)
      omega
    have h3 := ih (2 * x) (i + 1) (by omega) (by omega) (by omega) (by omega) hn
    rw [e]
    refine Ev.step (fun k => ?_) h3
    rw [spec_l01Pow.l0, if_pos (by omega), w64_id (x := 2 * x) (by omega) (by omega), w64_id (x := i + 1) (by omega) (by omega)]
theorem pow_is (n : Nat) (hn : n ≤ 62) : Ev (fun k => spec_l01Pow.f k (n : Int)) (2 ^ n) := by
  have hb : (2 : Int) ^ n ≤ 2 ^ 62 := by exact_mod_cast Nat.pow_le_pow_right (n := 2) (by omega) hn
  have h := pow_loop n n 1 0 (by omega) (by omega) (by omega) (by rw [Int.one_mul]; exact hb) (by omega)
  rw [Int.one_mul] at h
  exact h
theorem pow_at (n : Int) (h0 : 0 ≤ n) (hn : n ≤ 62) : Ev (fun k => spec_l01Pow.f k n) (2 ^ n.toNat) := by
  have h := pow_is n.toNat (by omega)
  rw [Int.toNat_of_nonneg h0] at h
  exact h

/-- x & 255 is a byte, whatever x is. -/
theorem and255 (x : Int) : 0 ≤ Go.bits .and .i64 x 255 ∧ Go.bits .and .i64 x 255 ≤ 255 := by
  have h : (BitVec.ofInt 64 x &&& BitVec.ofInt 64 255).toNat ≤ 255 := by
    rw [BitVec.toNat_and]
    exact Nat.le_trans Nat.and_le_right (by decide)
  have e : Go.bits .and .i64 x 255 = IntKind.i64.wrap ((BitVec.ofInt 64 x &&& BitVec.ofInt 64 255).toNat : Int) := rfl
  rw [e, wraps64 _ (by omega) (by omega)]
  omega
theorem new_ends (l : List Int) (d : Nat) : ∀ (h : Int) (i : Nat), i + d = 4000 → ∃ h', Ev (fun k => spec_l01New.l0 k l h i) (l, 0, h') := by
  induction d with
  | zero =>
    intro h i hi
    exact ⟨h, ev_ret (fun k => by
      rw [spec_l01New.l0]
      split
      · rw [if_neg (by omega)]
      · rfl)⟩
  | succ d ih =>
    intro h i hi
    by_cases c : (i : Int) < (l.length : Int)
    · obtain ⟨h', e⟩ := ih (Go.bits .and .i64 (wrap64 ((wrap64 ((wrap64 (h * 131)) + (wrap64 (rd l i)))) + 7)) 1073741823) (i + 1) (by omega)
      exact ⟨h', Ev.step (fun k => by rw [spec_l01New.l0, if_pos c, if_pos (by omega), if_pos (by omega), w64_id (x := (i : Int) + 1) (by omega) (by omega)]; rfl) e⟩
    · exact ⟨h, ev_ret (fun k => by rw [spec_l01New.l0, if_neg c])⟩
theorem new_is (l : List Int) : ∃ h, Ev (fun k => spec_l01New.f k l) (l, 0, h) := new_ends l 4000 _ 0 (by omega)
theorem byte_is (l : List Int) (hl : l.length ≤ 9223372036854775807) (i h : Int) (hi : 0 ≤ i) : ∃ x i' h', spec_l01Byte.f l i h = some (x, i', h') ∧ 0 ≤ x ∧ x ≤ 255 ∧ 0 ≤ i' := by
  unfold spec_l01Byte.f
  by_cases c : i < (l.length : Int)
  · rw [if_pos c, if_pos hi]
    have := and255 (wrap64 ((Go.bits .and .i64 (Go.bits .xor .i64 ((wrap64 ((wrap64 (h * 6364136223846793005)) + 1442695040888963407)) / 8589934592) ((wrap64 ((wrap64 (h * 6364136223846793005)) + 1442695040888963407)) / 35184372088832)) 255) + (wrap64 (rd l i))))
    exact ⟨_, _, _, rfl, this.1, this.2, by rw [w64_id (by omega) (by omega)]; omega⟩
  · rw [if_neg c]
    have := and255 (Go.bits .xor .i64 ((wrap64 ((wrap64 (h * 6364136223846793005)) + 1442695040888963407)) / 8589934592) ((wrap64 ((wrap64 (h * 6364136223846793005)) + 1442695040888963407)) / 35184372088832))
    exact ⟨_, _, _, rfl, this.1, this.2, hi⟩
theorem below_is (l : List Int) (hl : l.length ≤ 9223372036854775807) (i h n : Int) (hi : 0 ≤ i) : ∃ x i' h', spec_l01Below.f l i h n = some (x, i', h') ∧ 0 ≤ x ∧ (0 < n → x < n) ∧ 0 ≤ i' := by
  unfold spec_l01Below.f
  by_cases c0 : n ≤ 0
  · rw [if_pos c0]
    exact ⟨_, _, _, rfl, by omega, by omega, hi⟩
  · rw [if_neg c0]
    by_cases c1 : n ≤ 256
    · rw [if_pos c1]
      obtain ⟨x, i1, h1, e, x0, x1, hi1⟩ := byte_is l hl i h hi
      rw [e, Option.bind_some, if_neg (by omega)]
      refine ⟨_, _, _, rfl, ?_, fun _ => ?_, hi1⟩
      · rw [tmod_nn _ x0]; exact Int.emod_nonneg _ (by omega)
      · rw [tmod_nn _ x0]; exact Int.emod_lt_of_pos _ (by omega)
    · rw [if_neg c1]
      obtain ⟨x, i1, h1, e1, x0, x1, hi1⟩ := byte_is l hl i h hi
      obtain ⟨y, i2, h2, e2, y0, y1, hi2⟩ := byte_is l hl i1 h1 hi1
      obtain ⟨z, i3, h3, e3, z0, z1, hi3⟩ := byte_is l hl i2 h2 hi2
      obtain ⟨w, i4, h4, e4, w0, w1, hi4⟩ := byte_is l hl i3 h3 hi3
      simp only [e1, e2, e3, e4, Option.bind_some]
      rw [if_neg (by omega)]
      rw [w64_id (x := x * 16777216) (by omega) (by omega), w64_id (x := y * 65536) (by omega) (by omega), w64_id (x := z * 256) (by omega) (by omega), w64_id (x := x * 16777216 + y * 65536) (by omega) (by omega), w64_id (x := x * 16777216 + y * 65536 + z * 256) (by omega) (by omega), w64_id (x := x * 16777216 + y * 65536 + z * 256 + w) (by omega) (by omega)]
      refine ⟨_, _, _, rfl, ?_, fun _ => ?_, hi4⟩
      · rw [tmod_nn _ (by omega)]; exact Int.emod_nonneg _ (by omega)
      · rw [tmod_nn _ (by omega)]; exact Int.emod_lt_of_pos _ (by omega)

/-- Two callees that answer, together. -/
theorem ev_pair {α β : Type} {g : Nat → Option α} {h : Nat → Option β} {a : α} {b : β} (e : Ev g a) (f : Ev h b) : Ev (fun k => (g k).bind fun x => (h k).bind fun y => some (x, y)) (a, b) := by
  obtain ⟨K, e⟩ := e
  obtain ⟨K', f⟩ := f
  exact ⟨max K K', fun n hn => by show ((g n).bind fun x => (h n).bind fun y => some (x, y)) = _; rw [e n (by omega), f n (by omega)]; rfl⟩
theorem pair_some {α β : Type} {g : Option α} {h : Option β} {a : α} {b : β} (e : (g.bind fun x => h.bind fun y => some (x, y)) = some (a, b)) : g = some a ∧ h = some b := by
  cases g with
  | none => cases e
  | some x =>
    cases h with
    | none => cases e
    | some y =>
      injection e with e
      injection e with e1 e2
      exact ⟨by rw [e1], by rw [e2]⟩

/-- Is an Out right. -/
def okB (s : ByteArray) (n : Int) : Bool :=
  if s.size ≤ 12000 ∧ 0 ≤ n ∧ n ≤ 8 * (s.size : Int) ∧ (n + 7) / 8 = s.size then (if n % 8 = 0 then true else decide (bt s ((s.size : Int) - 1) < 2 ^ (n % 8).toNat)) else false
theorem ok_impl (s : ByteArray) (n : Int) (n0 : -9223372036854775808 ≤ n) (n1 : n ≤ 9223372036854775807) (hs : s.size ≤ 1048576) : impl_OutOk.f s n = some (okB s n) := by
  unfold okB impl_OutOk.f impl_up.f
  rw [in_impl]
  simp only [Option.bind_some, decide_eq_true_eq]
  by_cases h : s.size ≤ 12000 ∧ 0 ≤ n ∧ n ≤ 8 * (s.size : Int) ∧ (n + 7) / 8 = s.size
  · obtain ⟨h1, h2, h3, h4⟩ := h
    have w2 : wrap64 (n + 7) = n + 7 := w64_id (by omega) (by omega)
    have w3 : wrap64 ((n + 7) / 8) = (n + 7) / 8 := w64_id (by omega) (by omega)
    have w4 : wrap64 ((s.size : Int) - 1) = s.size - 1 := w64_id (by omega) (by omega)
    rw [if_pos (show 0 ≤ n ∧ n ≤ 96000 from ⟨h2, by omega⟩), w2, tdiv_nn _ (by omega), w3, if_pos h4.symm, tmod_nn 8 h2, if_pos (show s.size ≤ 12000 ∧ 0 ≤ n ∧ n ≤ 8 * (s.size : Int) ∧ (n + 7) / 8 = s.size from ⟨h1, h2, h3, h4⟩)]
    by_cases h5 : n % 8 = 0
    · rw [if_pos h5, if_pos h5]
    · rw [if_neg h5, if_neg h5, w4, if_pos (by omega), if_pos (by omega), if_pos (by omega)]
      have b0 := bt_lo s ((s.size : Int) - 1)
      congr 1
      have e : shr .u8 (bt s ((s.size : Int) - 1)) (n % 8) = bt s ((s.size : Int) - 1) / 2 ^ (n % 8).toNat := shr_small rfl (by simp [IntKind.bits]; omega) |>.symm
      rw [e, Bool.eq_iff_iff]
      simp only [beq_iff_eq, decide_eq_true_eq]
      have hp : (0 : Int) < 2 ^ (n % 8).toNat := Int.pow_pos (by omega)
      constructor
      · intro hz
        have := Int.lt_mul_ediv_self_add (x := bt s ((s.size : Int) - 1)) hp
        rw [hz, Int.mul_zero, Int.zero_add] at this
        exact this
      · intro hz
        exact Int.ediv_eq_zero_of_lt b0 hz
  · rw [if_neg h]
    split
    · rw [w64_id (x := n + 7) (by omega) (by omega), tdiv_nn _ (by omega), w64_id (x := (n + 7) / 8) (by omega) (by omega), if_neg (by omega)]
    · rfl

open Go.Proofs.Ytfmdenifbbhmdaa.MWriter Go.Proofs.Ytfmdenifbbhmdaa.MPut Go.Proofs.Ytfmdenifbbhmdaa.MOut
theorem or8_swap (x y : Int) : Go.bits .or .u8 x y = Go.bits .or .u8 y x := by
  unfold Go.bits
  simp only []
  rw [BitVec.or_comm]
/-- A bit set behind those that are there: the sum. -/
theorem orBit_is (x n : Int) (r : Nat) (hr : r < 8) (x0 : 0 ≤ x) (x1 : x < 2 ^ r) (n0 : 0 ≤ n) (n1 : n < 2 ^ 63) : orBit x n r = x + n % 2 * 2 ^ r ∧ x + n % 2 * 2 ^ r < 2 ^ (r + 1) ∧ x + n % 2 * 2 ^ r ≤ 255 := by
  have e : Go.bits .and .i64 n 1 = n % 2 := bits_mask .i64 63 (by decide) wraps64 1 (by decide) n n0 n1
  have hb : n % 2 = 0 ∨ n % 2 = 1 := by omega
  unfold orBit
  rw [e]
  have hr' : r = 0 ∨ r = 1 ∨ r = 2 ∨ r = 3 ∨ r = 4 ∨ r = 5 ∨ r = 6 ∨ r = 7 := by omega
  have hp : (2 : Int) ^ r ≤ 128 ∧ (2 : Int) ^ (r + 1) = 2 * 2 ^ r ∧ 0 < (2 : Int) ^ r := by
    refine ⟨?_, by rw [Int.pow_succ]; omega, Int.pow_pos (by omega)⟩
    rcases hr' with h | h | h | h | h | h | h | h <;> subst h <;> decide
  obtain ⟨p1, p2, p3⟩ := hp
  have e2 : n % 2 % 256 * 2 ^ r % 256 = n % 2 * 2 ^ r := by
    rcases hb with h | h <;> rw [h]
    · simp
    · have : (1 : Int) % 256 = 1 := by decide
      rw [this]
      omega
  rw [e2]
  have e3 : Go.bits .or .u8 x (n % 2 * 2 ^ r) = x + n % 2 * 2 ^ r := by
    rw [or8_swap, bits_join .u8 8 (by decide) (fun n h0 h1 => by rw [IntKind.wrap_u8]; omega) r (n % 2 * 2 ^ r) x (by rcases hb with h | h <;> rw [h] <;> omega) (by simp) (by rcases hb with h | h <;> rw [h] <;> omega) x0 x1 (by omega)]
    omega
  refine ⟨e3, ?_, ?_⟩
  · rw [p2]
    rcases hb with h | h <;> rw [h] <;> omega
  · rcases hb with h | h <;> rw [h] <;> omega
/-- Bytes that hold c bits: all bits behind them are 0. -/
structure Inv (xs : List Int) (c : Nat) : Prop where
  len : xs.length = (c + 7) / 8
  rng : ∀ x ∈ xs, 0 ≤ x ∧ x ≤ 255
  low : c % 8 ≠ 0 → rd xs ((c / 8 : Nat) : Int) < 2 ^ (c % 8)
theorem rd_memI {xs : List Int} {i : Nat} (h : i < xs.length) : rd xs (i : Int) ∈ xs := by
  unfold rd
  rw [Int.toNat_natCast, List.getD_eq_getElem?_getD, List.getElem?_eq_getElem h]
  exact List.getElem_mem h
theorem rd_setJ {xs : List Int} {i : Nat} (h : i < xs.length) (a : Int) : rd (xs.set i a) (i : Int) = a := by
  unfold rd
  rw [Int.toNat_natCast, List.getD_eq_getElem?_getD, List.getElem?_set_self h]
  rfl
theorem rd_last (xs : List Int) (a : Int) : rd (xs ++ [a]) (xs.length : Int) = a := by
  unfold rd
  rw [Int.toNat_natCast, List.getD_eq_getElem?_getD]
  simp
theorem put_step (xs : List Int) (c : Nat) (n : Int) (hI : Inv xs c) (n0 : 0 ≤ n) (n1 : n < 2 ^ 63) : putAdd xs c (n % 2) = putBit xs c n ∧ Inv (putBit xs c n) (c + 1) := by
  by_cases hm : c % 8 = 0
  · obtain ⟨h1, h2, h3⟩ := orBit_is 0 n 0 (by omega) (by omega) (by decide) n0 n1
    have e : putBit xs c n = xs ++ [orBit 0 n 0] := by unfold putBit; rw [if_pos hm]
    have hl := hI.len
    refine ⟨?_, ?_⟩
    · rw [e]
      unfold putAdd
      rw [if_pos hm, addBit_eq, h1]
      congr 2
      omega
    · rw [e]
      refine ⟨by simp; omega, fun x hx => ?_, fun h => ?_⟩
      · rcases List.mem_append.1 hx with hx | hx
        · exact hI.rng x hx
        · rw [List.mem_singleton] at hx
          rw [hx, h1]
          omega
      · have e1 : (c + 1) / 8 = xs.length := by omega
        have e2 : (c + 1) % 8 = 1 := by omega
        rw [e1, e2, rd_last, h1]
        exact h2
  · have hl := hI.len
    have hj : c / 8 < xs.length := by omega
    have hx := hI.rng _ (rd_memI hj)
    obtain ⟨h1, h2, h3⟩ := orBit_is (rd xs ((c / 8 : Nat) : Int)) n (c % 8) (by omega) hx.1 (hI.low hm) n0 n1
    have e : putBit xs c n = xs.set (c / 8) (orBit (rd xs ((c / 8 : Nat) : Int)) n (c % 8)) := by unfold putBit; rw [if_neg hm]
    have p3 : (0 : Int) < 2 ^ (c % 8) := Int.pow_pos (by omega)
    have hb : n % 2 = 0 ∨ n % 2 = 1 := by omega
    have hpos : 0 ≤ rd xs ((c / 8 : Nat) : Int) + n % 2 * 2 ^ (c % 8) := by rcases hb with h | h <;> rw [h] <;> omega
    refine ⟨?_, ?_⟩
    · rw [e]
      unfold putAdd
      rw [if_neg hm, addBit_eq, h1]
      congr 1
      omega
    · rw [e]
      refine ⟨by rw [List.length_set]; omega, fun x hx => ?_, fun h => ?_⟩
      · rcases List.mem_or_eq_of_mem_set hx with hx | hx
        · exact hI.rng x hx
        · rw [hx, h1]
          exact ⟨hpos, h3⟩
      · have e1 : (c + 1) / 8 = c / 8 := by omega
        have e2 : (c + 1) % 8 = c % 8 + 1 := by omega
        rw [e1, e2, rd_setJ hj, h1]
        exact h2
theorem put_all : ∀ (ns xs : List Int) (c : Nat), Inv xs c → (∀ n ∈ ns, 0 ≤ n ∧ n < 2 ^ 63) → addAll (ns.map (· % 2)) xs c = MWriter.putAll ns xs c ∧ Inv (MWriter.putAll ns xs c) (c + ns.length)
  | [], xs, c, h, _ => ⟨rfl, h⟩
  | n :: ns, xs, c, h, hn => by
    obtain ⟨n0, n1⟩ := hn n (List.mem_cons_self ..)
    obtain ⟨h1, h2⟩ := put_step xs c n h n0 n1
    obtain ⟨h3, h4⟩ := put_all ns _ _ h2 (fun m hm => hn m (List.mem_cons_of_mem _ hm))
    rw [List.map_cons, addAll, h1, h3, MWriter.putAll, List.length_cons]
    exact ⟨rfl, by rw [show c + (ns.length + 1) = c + 1 + ns.length by omega]; exact h4⟩
theorem bytesOf_rd (s : ByteArray) (i : Nat) (h : i < s.size) : rd (bytesOf s) (i : Int) = bt s (i : Int) := by
  unfold rd bt
  rw [dif_pos (show (i : Int).toNat < s.size by rw [Int.toNat_natCast]; exact h)]
  simp only [Int.toNat_natCast]
  unfold bytesOf
  rw [List.getD_eq_getElem?_getD, List.getElem?_map]
  have hh : i < s.data.toList.length := h
  rw [List.getElem?_eq_getElem hh]
  rfl
theorem bytesOf_rng (s : ByteArray) : ∀ x ∈ bytesOf s, 0 ≤ x ∧ x ≤ 255 := by
  intro x hx
  unfold bytesOf at hx
  obtain ⟨b, _, rfl⟩ := List.mem_map.1 hx
  have := b.toNat_lt
  omega
/-- A right Out's bytes. -/
theorem ok_inv (s : ByteArray) (c : Int) (h : okB s c = true) : ∃ C : Nat, c = C ∧ C ≤ 96000 ∧ s.size ≤ 12000 ∧ s.size = (C + 7) / 8 ∧ Inv (bytesOf s) C := by
  unfold okB at h
  split at h
  · rename_i hc
    obtain ⟨h1, h2, h3, h4⟩ := hc
    obtain ⟨C, rfl⟩ := Int.eq_ofNat_of_zero_le h2
    have hs : s.size = (C + 7) / 8 := by omega
    refine ⟨C, rfl, by omega, h1, hs, ⟨by rw [bytesOf_length]; exact hs, bytesOf_rng s, fun hm => ?_⟩⟩
    rw [if_neg (by omega)] at h
    have h5 := of_decide_eq_true h
    rw [bytesOf_rd s _ (by omega)]
    have e1 : ((s.size : Int) - 1) = ((C / 8 : Nat) : Int) := by omega
    have e2 : ((C : Int) % 8).toNat = C % 8 := by omega
    rw [e1, e2] at h5
    exact h5
  · cases h

/-- May n bits of v be put. -/
def putB (v n : Int) : Bool := decide (0 ≤ n ∧ n ≤ 24) && decide (0 ≤ v ∧ v ≤ 2 ^ n.toNat - 1)
theorem pow24 (n : Int) (h0 : 0 ≤ n) (h1 : n ≤ 24) : (1 : Int) ≤ 2 ^ n.toNat ∧ (2 : Int) ^ n.toNat ≤ 16777216 := by
  have h2 : (2 : Nat) ^ n.toNat ≤ 2 ^ 24 := Nat.pow_le_pow_right (by decide) (by omega)
  have h3 : (0 : Nat) < 2 ^ n.toNat := Nat.pow_pos (by decide)
  have e : (2 : Int) ^ n.toNat = ((2 ^ n.toNat : Nat) : Int) := by push_cast; rfl
  have e2 : (2 : Nat) ^ 24 = 16777216 := by decide
  rw [e]
  omega
theorem may_impl (s : ByteArray) (c v n : Int) (c0 : -9223372036854775808 ≤ c) (c1 : c ≤ 9223372036854775807) (hs : s.size ≤ 1048576) : impl_putOk.f s c v n = some (okB s c && putB v n) := by
  unfold impl_putOk.f impl_powerOf.f
  rw [ok_impl s c c0 c1 hs]
  simp only [Option.bind_some]
  cases hB : okB s c with
  | false => rfl
  | true =>
    simp only [if_true, Bool.true_and]
    rw [in_impl]
    simp only [Option.bind_some]
    by_cases hn : 0 ≤ n ∧ n ≤ 24
    · obtain ⟨p0, p1⟩ := pow24 n hn.1 hn.2
      rw [if_pos (decide_eq_true hn), in_impl]
      simp only [Option.bind_some]
      rw [if_pos (by simp; omega), if_pos hn.1]
      simp only [Option.bind_some]
      have e : shl .i64 1 n = 2 ^ n.toNat := by
        rw [← shl_small (j := shl .i64 1 n) rfl (by simp [IntKind.bits]; omega), Int.one_mul]
        exact wraps64 _ (by omega) (by omega)
      rw [e, w64_id (x := 2 ^ n.toNat - 1) (by omega) (by omega), in_impl]
      simp only [Option.bind_some]
      unfold putB
      rw [decide_eq_true hn, Bool.true_and]
    · unfold putB
      rw [decide_eq_false hn]
      rfl
theorem highs_rng (v : Int) (n i : Nat) (v0 : 0 ≤ v) (v1 : v ≤ 16777215) : ∀ m ∈ highs v n i, 0 ≤ m ∧ m < 2 ^ 63 := by
  intro m hm
  unfold highs at hm
  obtain ⟨j, _, rfl⟩ := List.mem_map.1 hm
  have h2 : v / 2 ^ (n - 1 - j) ≤ v := Int.ediv_le_self _ v0
  exact ⟨Int.ediv_nonneg v0 (Int.le_of_lt (Int.pow_pos (by omega))), by omega⟩

theorem bytes_back (xs : List Int) (h : ∀ x ∈ xs, 0 ≤ x ∧ x ≤ 255) : bytesOf (strOfNums xs) = xs := by
  have e : bytesOf (strOfNums xs) = (strOfNums xs).data.toList.map fun b => (b.toNat : Int) := rfl
  rw [e]
  unfold strOfNums
  rw [List.map_map]
  have : ∀ x ∈ xs, ((fun b : UInt8 => (b.toNat : Int)) ∘ fun n : Int => UInt8.ofNat n.toNat) x = x := by
    intro x hx
    obtain ⟨h0, h1⟩ := h x hx
    simp only [Function.comp]
    have : (UInt8.ofNat x.toNat).toNat = x.toNat := by
      rw [UInt8.toNat_ofNat']
      omega
    rw [this]
    omega
  rw [List.map_congr_left this, List.map_id']
theorem nums_size (xs : List Int) : (strOfNums xs).size = xs.length := by simp [strOfNums, ByteArray.size]
/-- Bytes with a count make a right Out. -/
theorem inv_ok (xs : List Int) (C : Nat) (h : Inv xs C) (hC : C ≤ 96000) : okB (strOfNums xs) (C : Int) = true := by
  have hb := bytes_back xs h.rng
  have hs := nums_size xs
  have hl := h.len
  unfold okB
  rw [hs, if_pos (by omega)]
  by_cases hm : (C : Int) % 8 = 0
  · rw [if_pos hm]
  · rw [if_neg hm]
    have hlow := h.low (by omega)
    have e1 : ((xs.length : Int) - 1) = ((C / 8 : Nat) : Int) := by omega
    have e2 : ((C : Int) % 8).toNat = C % 8 := by omega
    have e3 := bytesOf_rd (strOfNums xs) (C / 8) (by omega)
    rw [hb] at e3
    rw [e1, e2, ← e3]
    exact decide_eq_true hlow

/-- Bit i of a text. -/
def bitB (s : ByteArray) (i : Int) : Int := bt s (i / 8) / 2 ^ (i % 8).toNat % 2
theorem bitB_01 (s : ByteArray) (i : Int) : bitB s i = 0 ∨ bitB s i = 1 := by unfold bitB; omega
theorem bitAt_is (s : ByteArray) (hs : s.size ≤ 1048576) (i : Int) (h0 : 0 ≤ i) (h1 : i < 8 * s.size) : impl_bitAt.f s i = some (bitB s i) := by
  unfold impl_bitAt.f bitB
  have b0 := bt_lo s (i / 8)
  have b1 := bt_hi s (i / 8)
  rw [tdiv_nn _ h0, tmod_nn _ h0, w64_id (x := i / 8) (by omega) (by omega), if_pos (by omega), if_pos (by omega), if_pos (by omega)]
  have e : shr .u8 (bt s (i / 8)) (i % 8) = bt s (i / 8) / 2 ^ (i % 8).toNat := (shr_small rfl (by simp [IntKind.bits]; omega)).symm
  have hp : (1 : Int) ≤ 2 ^ (i % 8).toNat := by have : (0 : Int) < 2 ^ (i % 8).toNat := Int.pow_pos (by omega); omega
  have q0 : 0 ≤ bt s (i / 8) / 2 ^ (i % 8).toNat := Int.ediv_nonneg b0 (by omega)
  have q1 : bt s (i / 8) / 2 ^ (i % 8).toNat ≤ bt s (i / 8) := Int.ediv_le_self _ b0
  have m : Go.bits .and .u8 (bt s (i / 8) / 2 ^ (i % 8).toNat) 1 = bt s (i / 8) / 2 ^ (i % 8).toNat % 2 := bits_mask .u8 8 (by decide) wraps_u8 1 (by decide) _ q0 (by omega)
  rw [e, m, w64_id (by omega) (by omega)]
theorem or_swap (x y : Int) : Go.bits .or .i64 x y = Go.bits .or .i64 y x := by
  unfold Go.bits
  simp only []
  rw [BitVec.or_comm]

/-- Bit a of bytes. -/
def bitX (xs : List Int) (a : Nat) : Int := rd xs ((a / 8 : Nat) : Int) / 2 ^ (a % 8) % 2
theorem rd_out (xs : List Int) (i : Nat) (h : xs.length ≤ i) : rd xs (i : Int) = 0 := by
  unfold rd
  rw [Int.toNat_natCast, List.getD_eq_getElem?_getD, List.getElem?_eq_none h]
  rfl
theorem rd_app (xs : List Int) (v : Int) (i : Nat) (h : i < xs.length) : rd (xs ++ [v]) (i : Int) = rd xs (i : Int) := by
  unfold rd
  rw [Int.toNat_natCast, List.getD_eq_getElem?_getD, List.getD_eq_getElem?_getD, List.getElem?_append_left h]
theorem rd_setNe (xs : List Int) (i j : Nat) (v : Int) (h : i ≠ j) : rd (xs.set j v) (i : Int) = rd xs (i : Int) := by
  unfold rd
  rw [Int.toNat_natCast, List.getD_eq_getElem?_getD, List.getD_eq_getElem?_getD, List.getElem?_set_ne (fun e => h e.symm)]
/-- A sum's low bits. -/
theorem low_bit (x b : Int) (r q : Nat) (hq : q < r) (x0 : 0 ≤ x) (b0 : 0 ≤ b) : (x + b * 2 ^ r) / 2 ^ q % 2 = x / 2 ^ q % 2 := by
  obtain ⟨d, rfl⟩ : ∃ d, r = q + 1 + d := ⟨r - q - 1, by omega⟩
  have e : b * 2 ^ (q + 1 + d) = (b * 2 ^ d * 2) * 2 ^ q := by
    rw [Int.pow_add, Int.pow_succ]
    ac_rfl
  have hp : (2 : Int) ^ q ≠ 0 := by
    have : (0 : Int) < 2 ^ q := Int.pow_pos (by omega)
    omega
  rw [e, Int.add_mul_ediv_right _ _ hp]
  omega
theorem top_bit (x b : Int) (r : Nat) (x0 : 0 ≤ x) (x1 : x < 2 ^ r) (b0 : 0 ≤ b) (b1 : b ≤ 1) : (x + b * 2 ^ r) / 2 ^ r % 2 = b := by
  have hp : (2 : Int) ^ r ≠ 0 := by
    have : (0 : Int) < 2 ^ r := Int.pow_pos (by omega)
    omega
  rw [Int.add_mul_ediv_right _ _ hp, Int.ediv_eq_zero_of_lt x0 x1]
  omega
theorem put_bit (xs : List Int) (c : Nat) (n : Int) (hI : Inv xs c) (n0 : 0 ≤ n) (n1 : n < 2 ^ 63) : (∀ a, a < c → bitX (putBit xs c n) a = bitX xs a) ∧ bitX (putBit xs c n) c = n % 2 := by
  have hl := hI.len
  unfold putBit
  by_cases hm : c % 8 = 0
  · rw [if_pos hm]
    have ho := orBit_is 0 n 0 (by omega) (by omega) (by omega) n0 n1
    rw [ho.1]
    constructor
    · intro a ha
      unfold bitX
      rw [rd_app xs _ (a / 8) (by omega)]
    · unfold bitX
      have e : c / 8 = xs.length := by omega
      rw [e, rd_last, hm]
      simp
  · rw [if_neg hm]
    have hj : c / 8 < xs.length := by omega
    have hr := hI.rng _ (rd_memI hj)
    have hlow := hI.low hm
    have ho := orBit_is (rd xs ((c / 8 : Nat) : Int)) n (c % 8) (by omega) hr.1 hlow n0 n1
    rw [ho.1]
    constructor
    · intro a ha
      unfold bitX
      by_cases he : a / 8 = c / 8
      · rw [he, rd_setJ hj]
        exact low_bit _ _ _ _ (by omega) hr.1 (by omega)
      · rw [rd_setNe xs _ _ _ he]
    · unfold bitX
      rw [rd_setJ hj]
      exact top_bit _ _ _ hr.1 hlow (by omega) (by omega)
/-- All bits that were put are there, in their order. -/
theorem putAll_bit : ∀ (ns xs : List Int) (c : Nat), Inv xs c → (∀ n ∈ ns, 0 ≤ n ∧ n < 2 ^ 63) → (∀ a, a < c → bitX (MWriter.putAll ns xs c) a = bitX xs a) ∧ ∀ j, j < ns.length → bitX (MWriter.putAll ns xs c) (c + j) = rd ns (j : Int) % 2
  | [], xs, c, hI, _ => ⟨fun a _ => rfl, fun j h => absurd h (Nat.not_lt_zero _)⟩
  | n :: ns, xs, c, hI, hn => by
    obtain ⟨n0, n1⟩ := hn n List.mem_cons_self
    obtain ⟨_, h2⟩ := put_step xs c n hI n0 n1
    obtain ⟨p1, p2⟩ := put_bit xs c n hI n0 n1
    obtain ⟨q1, q2⟩ := putAll_bit ns _ _ h2 (fun m hm => hn m (List.mem_cons_of_mem _ hm))
    rw [MWriter.putAll]
    refine ⟨fun a ha => by rw [q1 a (by omega), p1 a ha], fun j hj => ?_⟩
    cases j with
    | zero =>
      show bitX (MWriter.putAll ns (putBit xs c n) (c + 1)) c = _
      rw [q1 c (by omega), p2]
      rfl
    | succ j =>
      have := q2 j (by simpa using hj)
      rw [show c + (j + 1) = c + 1 + j by omega, this]
      unfold rd
      rw [Int.toNat_natCast, Int.toNat_natCast, List.getD_cons_succ]
theorem bitB_X (xs : List Int) (h : ∀ x ∈ xs, 0 ≤ x ∧ x ≤ 255) (a : Nat) (ha : a < 8 * xs.length) : bitB (strOfNums xs) (a : Int) = bitX xs a := by
  have hs := nums_size xs
  have e := bytesOf_rd (strOfNums xs) (a / 8) (by omega)
  rw [bytes_back xs h] at e
  unfold bitB bitX
  have e1 : (a : Int) / 8 = ((a / 8 : Nat) : Int) := by omega
  have e2 : ((a : Int) % 8).toNat = a % 8 := by omega
  rw [e1, e2, ← e]


theorem lows_rng (v : Int) (n : Nat) (v0 : 0 ≤ v) (v1 : v ≤ 16777215) : ∀ m ∈ lows v n, 0 ≤ m ∧ m < 2 ^ 63 := by
  intro m hm
  unfold lows at hm
  obtain ⟨i, _, rfl⟩ := List.mem_map.1 hm
  have h2 : v / 2 ^ i ≤ v := Int.ediv_le_self _ v0
  exact ⟨Int.ediv_nonneg v0 (Int.le_of_lt (Int.pow_pos (by omega))), by omega⟩
theorem lows_rd (v : Int) (n q : Nat) (h : q < n) : rd (lows v n) (q : Int) = v / 2 ^ q := by
  unfold rd lows
  rw [Int.toNat_natCast, List.getD_eq_getElem?_getD, List.getElem?_map, List.getElem?_range h]
  rfl
theorem highs_rd (v : Int) (n q : Nat) (h : q < n) : rd (highs v n n) (q : Int) = v / 2 ^ (n - 1 - q) := by
  unfold rd highs
  rw [Int.toNat_natCast, List.getD_eq_getElem?_getD, List.getElem?_map, List.getElem?_range h]
  rfl
theorem putB_of (v n : Int) (n0 : 0 ≤ n) (n1 : n ≤ 24) (v0 : 0 ≤ v) (v1 : v < 2 ^ n.toNat) : putB v n = true := by
  unfold putB
  rw [decide_eq_true ⟨n0, n1⟩, decide_eq_true (show 0 ≤ v ∧ v ≤ 2 ^ n.toNat - 1 from ⟨v0, by omega⟩)]
  rfl
theorem put_one (xs : List Int) (c : Nat) (v n : Int) (hI : Inv xs c) (hc : c ≤ 1000) (n0 : 0 ≤ n) (n1 : n ≤ 24) (v0 : 0 ≤ v) (v1 : v < 2 ^ n.toNat) :
    impl_PutBits.f (strOfNums xs) c v n = some (strOfNums (MWriter.putAll (lows v n.toNat) xs c), c + n, true) ∧ Inv (MWriter.putAll (lows v n.toNat) xs c) (c + n.toNat) ∧ (∀ a, a < c → bitX (MWriter.putAll (lows v n.toNat) xs c) a = bitX xs a) ∧ ∀ q, q < n.toNat → bitX (MWriter.putAll (lows v n.toNat) xs c) (c + q) = v / 2 ^ q % 2 := by
  obtain ⟨p0, p1⟩ := pow24 n n0 n1
  have hrng := lows_rng v n.toNat v0 (by omega)
  obtain ⟨_, hA⟩ := put_all (lows v n.toNat) xs c hI hrng
  obtain ⟨b1, b2⟩ := putAll_bit (lows v n.toNat) xs c hI hrng
  rw [lows_len] at hA
  have hl := hI.len
  have hl2 := hA.len
  have hs := nums_size xs
  refine ⟨?_, hA, b1, fun q hq => ?_⟩
  · unfold impl_PutBits.f
    rw [may_impl _ _ _ _ (by omega) (by omega) (by omega), inv_ok xs c hI (by omega), putB_of v n n0 n1 v0 v1]
    simp only [Bool.true_and, Option.bind_some]
    unfold bitsF
    rw [if_pos rfl, if_pos (show putCond (strOfNums xs) c n from ⟨n0, by omega, by omega, by omega, by omega⟩), bytes_back xs hI.rng, Int.toNat_natCast]
    unfold outF
    rw [if_pos (by omega)]
  · rw [b2 q (by rw [lows_len]; exact hq), lows_rd v _ q hq]
theorem code_one (v n : Int) (n0 : 0 ≤ n) (n1 : n ≤ 24) (v0 : 0 ≤ v) (v1 : v < 2 ^ n.toNat) :
    ∃ xs, impl_PutCode.f (⟨#[]⟩ : ByteArray) 0 v n = some (strOfNums xs, n, true) ∧ Inv xs n.toNat ∧ ∀ q, q < n.toNat → bitX xs q = v / 2 ^ (n.toNat - 1 - q) % 2 := by
  obtain ⟨p0, p1⟩ := pow24 n n0 n1
  have hrng := highs_rng v n.toNat n.toNat v0 (by omega)
  have hI : Inv [] 0 := ⟨rfl, fun x hx => (by cases hx), fun h => absurd rfl h⟩
  obtain ⟨_, hA⟩ := put_all (highs v n.toNat n.toNat) [] 0 hI hrng
  obtain ⟨b1, b2⟩ := putAll_bit (highs v n.toNat n.toNat) [] 0 hI hrng
  rw [highs_len, Nat.zero_add] at hA
  have hl2 := hA.len
  refine ⟨MWriter.putAll (highs v n.toNat n.toNat) [] 0, ?_, hA, fun q hq => ?_⟩
  · have e0 : (⟨#[]⟩ : ByteArray) = strOfNums [] := rfl
    unfold impl_PutCode.f
    rw [e0, may_impl _ _ _ _ (by omega) (by omega) (by show (0 : Nat) ≤ 1048576; omega), show okB (strOfNums []) 0 = true from inv_ok [] 0 hI (by omega), putB_of v n n0 n1 v0 v1]
    simp only [Bool.true_and, Option.bind_some]
    unfold codeF
    rw [if_pos rfl, if_pos (show putCond (strOfNums []) 0 n from ⟨n0, by omega, by omega, by omega, by show (0 : Int) = (0 + 7) / 8; omega⟩), bytes_back [] (fun x hx => (by cases hx)), Int.zero_add]
    unfold outF
    rw [show (0 : Int).toNat = 0 from rfl, if_pos (by omega)]
  · have := b2 q (by rw [highs_len]; exact hq)
    rw [Nat.zero_add, highs_rd v _ q hq] at this
    exact this
theorem mod_step (V P b : Int) (hP : 0 < P) (hB : b = V / P % 2) : V % P + b * P = V % (P * 2) := by
  have m0 : 0 ≤ V % P := Int.emod_nonneg _ (by omega)
  have m1 : V % P < P := Int.emod_lt_of_pos _ hP
  have a1 := Int.emod_add_mul_ediv V P
  have a2 := Int.emod_add_mul_ediv (V / P) 2
  have a3 : V = (V % P + b * P) + P * 2 * (V / P / 2) := by
    have a4 : V % P + b * P + P * 2 * (V / P / 2) = V % P + P * (b + 2 * (V / P / 2)) := by
      rw [Int.mul_add, Int.mul_comm b P, Int.mul_assoc, Int.add_assoc]
    rw [a4, hB, a2, a1]
  have h := congrArg (· % (P * 2)) a3
  simp only [Int.add_mul_emod_self_left] at h
  have hb : b = 0 ∨ b = 1 := by omega
  rw [h]
  generalize V % P = q at m0 m1
  rcases hb with rfl | rfl
  · rw [Int.zero_mul, Int.add_zero, Int.emod_eq_of_lt m0 (by omega)]
  · rw [Int.one_mul, Int.emod_eq_of_lt (by omega) (by omega)]
theorem take_step (s : ByteArray) (hs : s.size ≤ 12000) (p n : Int) (hp0 : 0 ≤ p) (hn : n ≤ 24) (hpn : p ≤ 8 * (s.size : Int) - n) (x : Int) (i : Nat) (hi : (i : Int) < n) (h0 : 0 ≤ x) (h1 : x < 2 ^ i) (r : Int × ByteArray × Int × Bool) (e2 : Ev (fun k => impl_TakeBits.l0 k n (x + bitB s (p + i) * 2 ^ i) n ((i + 1 : Nat) : Int) s p) r) :
    Ev (fun k => impl_TakeBits.l0 k n x n i s p) r := by
  have hP : (2 : Int) ^ i ≤ 2 ^ 24 := by exact_mod_cast Nat.pow_le_pow_right (n := 2) (by omega) (show i ≤ 24 by omega)
  have hP0 : (1 : Int) ≤ 2 ^ i := by have : (0 : Int) < 2 ^ i := Int.pow_pos (by omega); omega
  have hb := bitB_01 s (p + i)
  have hm : bitB s (p + i) * 2 ^ i = 0 ∨ bitB s (p + i) * 2 ^ i = 2 ^ i := by
    rcases hb with e | e <;> rw [e]
    · left; simp
    · right; simp
  have hmm : bitB s (p + i) * 2 ^ i % 2 ^ i = 0 := Int.mul_emod_left _ _
  have w0 : wrap64 (p + i) = p + i := w64_id (by omega) (by omega)
  have w1 : wrap64 ((i : Int) + 1) = ((i + 1 : Nat) : Int) := w64_id (by omega) (by omega)
  refine Ev.step (fun k => ?_) e2
  have sh : shl .i64 (bitB s (p + i)) (i : Int) = bitB s (p + i) * 2 ^ i := by
    unfold shl
    have hmin : min (i : Int).toNat IntKind.i64.bits = i := by simp [IntKind.bits]; omega
    rw [hmin, wraps64 _ (by omega) (by omega)]
  rw [impl_TakeBits.l0, if_pos (by omega), w0, bitAt_is s (by omega) (p + i) (by omega) (by omega), Option.bind_some, if_pos (by omega), w1, sh, or_swap, or64 i _ _ (by omega) hmm (by omega) h0 h1 (by omega), Int.add_comm]
theorem take_end (s : ByteArray) (hs : s.size ≤ 12000) (p n x : Int) (hp0 : 0 ≤ p) (n0 : 0 ≤ n) (hn : n ≤ 24) (hpn : p ≤ 8 * (s.size : Int) - n) : Ev (fun k => impl_TakeBits.l0 k n x n n s p) (x, s, p + n, true) :=
  ev_ret (fun k => by rw [impl_TakeBits.l0, if_neg (by omega), w64_id (x := p + n) (by omega) (by omega)])
theorem take_val (s : ByteArray) (hs : s.size ≤ 12000) (p n V : Int) (hp0 : 0 ≤ p) (hn : n ≤ 24) (hpn : p ≤ 8 * (s.size : Int) - n) (V0 : 0 ≤ V) (hb : ∀ q : Nat, (q : Int) < n → bitB s (p + q) = V / 2 ^ q % 2) (d : Nat) : ∀ (i : Nat), i + d = n →
    Ev (fun k => impl_TakeBits.l0 k n (V % 2 ^ i) n i s p) (V % 2 ^ n.toNat, s, p + n, true) := by
  induction d with
  | zero =>
    intro i h
    have hi : (i : Int) = n := by omega
    subst hi
    rw [Int.toNat_natCast]
    exact take_end s hs p i _ hp0 (Int.natCast_nonneg i) hn hpn
  | succ d ih =>
    intro i h
    have hP : (0 : Int) < 2 ^ i := Int.pow_pos (by decide)
    have e2 := ih (i + 1) (by clear hb ih hP; omega)
    have hi : (i : Int) < n := by clear hb ih hP e2; omega
    have ms := mod_step V (2 ^ i) _ hP (hb i hi)
    rw [Int.pow_succ, ← ms] at e2
    exact take_step s hs p n hp0 hn hpn _ i hi (Int.emod_nonneg _ (Int.ne_of_gt hP)) (Int.emod_lt_of_pos _ hP) _ e2
theorem take_impl (s : ByteArray) (hs : s.size ≤ 12000) (p n V : Int) (hp0 : 0 ≤ p) (n0 : 0 ≤ n) (hn : n ≤ 24) (hpn : p ≤ 8 * (s.size : Int) - n) (V0 : 0 ≤ V) (V1 : V < 2 ^ n.toNat) (hb : ∀ q : Nat, (q : Int) < n → bitB s (p + q) = V / 2 ^ q % 2) :
    Ev (fun k => impl_TakeBits.f k s p n) (V, s, p + n, true) := by
  have e := take_val s hs p n V hp0 hn hpn V0 hb n.toNat 0 (by omega)
  have z : V % 2 ^ 0 = 0 := by simp
  rw [z, Int.emod_eq_of_lt V0 V1] at e
  have i2 : Ev (fun k => impl_TakeBits.j0 k n false s p) (V, s, p + n, true) := Ev.step (fun k => by rw [impl_TakeBits.j0, if_neg (by decide)]; rfl) e
  have ht : decide (0 ≤ n ∧ n ≤ 24) = true := decide_eq_true ⟨n0, hn⟩
  have w8 : wrap64 (8 * (s.size : Int)) = 8 * s.size := w64_id (by omega) (by omega)
  have hw : wrap64 (8 * (s.size : Int) - n) = 8 * s.size - n := w64_id (by omega) (by omega)
  have hd : decide (p > 8 * (s.size : Int) - n) = false := decide_eq_false (by omega)
  refine Ev.congr (fun k => ?_) i2
  unfold impl_TakeBits.f
  rw [in_impl, ht, Option.bind_some, if_pos rfl, if_neg (by omega), if_neg (by omega), w8, hw, hd]
/-- Drawn numbers fit their sizes. -/
def Good (V S : List Int) : Prop := ∀ j : Nat, j < V.length → 0 ≤ rd S j ∧ rd S j ≤ 24 ∧ 0 ≤ rd V j ∧ rd V j < 2 ^ (rd S j).toNat
theorem some_ends (l : List Int) (hl : l.length ≤ 9223372036854775807) (d : Nat) : ∀ (V S : List Int) (p h : Int), V.length + d = 20 → S.length = V.length → Good V S → 0 ≤ p →
    ∃ r, Ev (fun k => spec_DrawSome.l0 k V S (V.length : Int) l p h) r ∧ Good r.1 r.2 ∧ r.2.length = r.1.length ∧ 1 ≤ r.1.length ∧ r.1.length ≤ 20 := by
  induction d with
  | zero =>
    intro V S p h hV hS hG hp
    obtain ⟨x, p1, h1, e1, x0, x1, hp1⟩ := below_is l hl p h 20 hp
    have x1 := x1 (by omega)
    refine ⟨(V, S), ev_ret (fun k => ?_), hG, hS, by show 1 ≤ V.length; omega, by show V.length ≤ 20; omega⟩
    rw [spec_DrawSome.l0, e1, Option.bind_some, w64_id (x := 1 + x) (by omega) (by omega), if_neg (by omega)]
  | succ d ih =>
    intro V S p h hV hS hG hp
    obtain ⟨x, p1, h1, e1, x0, x1, hp1⟩ := below_is l hl p h 20 hp
    have x1 := x1 (by omega)
    by_cases hx : (V.length : Int) < 1 + x
    · obtain ⟨n, p2, h2, e2, n0, n1, hp2⟩ := below_is l hl p1 h1 25 hp1
      have n1 := n1 (by omega)
      obtain ⟨v, p3, h3, e3, v0, v1, hp3⟩ := below_is l hl p2 h2 (2 ^ n.toNat) hp2
      have q0 : (0 : Int) < 2 ^ n.toNat := Int.pow_pos (by omega)
      have v1 := v1 q0
      have hG2 : Good (V ++ [v]) (S ++ [n]) := by
        intro j hj
        rw [List.length_append, List.length_singleton] at hj
        by_cases hj2 : j < V.length
        · rw [rd_app V v j hj2, rd_app S n j (by omega)]
          exact hG j hj2
        · obtain rfl : j = V.length := by omega
          have eS : rd (S ++ [n]) ((V.length : Nat) : Int) = n := by rw [← hS]; exact rd_last S n
          rw [rd_last V v, eS]
          exact ⟨n0, by omega, v0, v1⟩
      obtain ⟨r, g, r1, r2, r3, r4⟩ := ih (V ++ [v]) (S ++ [n]) p3 h3 (by rw [List.length_append, List.length_singleton]; omega) (by rw [List.length_append, List.length_append, hS]; rfl) hG2 hp3
      refine ⟨r, ?_, r1, r2, r3, r4⟩
      have hn2 : ((V ++ [v]).length : Int) = (V.length : Int) + 1 := by rw [List.length_append, List.length_singleton]; omega
      rw [hn2] at g
      refine ev_use_step (pow_at n n0 (by omega)) (fun k hk => ?_) g
      rw [spec_DrawSome.l0, e1, Option.bind_some, w64_id (x := 1 + x) (by omega) (by omega), if_pos hx, e2, Option.bind_some, if_pos (by omega), hk, Option.bind_some, e3, Option.bind_some, if_pos (by omega), w64_id (x := (V.length : Int) + 1) (by omega) (by omega)]
    · refine ⟨(V, S), ev_ret (fun k => ?_), hG, hS, by show 1 ≤ V.length; omega, by show V.length ≤ 20; omega⟩
      rw [spec_DrawSome.l0, e1, Option.bind_some, w64_id (x := 1 + x) (by omega) (by omega), if_neg hx]
theorem some_is (l : List Int) (hl : l.length ≤ 9223372036854775807) : ∃ r, Ev (fun k => spec_DrawSome.f k l) r ∧ Good r.1 r.2 ∧ r.2.length = r.1.length ∧ 1 ≤ r.1.length ∧ r.1.length ≤ 20 := by
  obtain ⟨h, e⟩ := new_is l
  obtain ⟨r, g, hr⟩ := some_ends l hl 20 [] [] 0 h (by simp) rfl (fun j hj => absurd hj (Nat.not_lt_zero _)) (by omega)
  refine ⟨r, ev_use e (fun k hk => ?_) g, hr⟩
  unfold spec_DrawSome.f
  rw [hk]
  rfl
/-- Where number i begins. -/
def offS (S : List Int) : Nat → Nat
  | 0 => 0
  | i + 1 => offS S i + (rd S (i : Int)).toNat
theorem off_le (V S : List Int) (hG : Good V S) : ∀ i, i ≤ V.length → offS S i ≤ 24 * i
  | 0, _ => Nat.le_refl _
  | i + 1, h => by
    have := off_le V S hG i (by omega)
    have := (hG i (by omega)).2.1
    rw [offS]
    omega
theorem off_up (S : List Int) (j : Nat) : ∀ d, offS S j + (rd S (j : Int)).toNat ≤ offS S (j + 1 + d)
  | 0 => Nat.le_refl _
  | d + 1 => by
    have := off_up S j d
    rw [← Nat.add_assoc, offS]
    omega
def BitsOf (V S : List Int) (i : Nat) (xs : List Int) : Prop := ∀ j q : Nat, j < i → q < (rd S (j : Int)).toNat → bitX xs (offS S j + q) = rd V (j : Int) / 2 ^ q % 2
theorem l0_goes (V S : List Int) (hG : Good V S) (hS : S.length = V.length) (hm : V.length ≤ 20)
    (fin : ∀ xs, Inv xs (offS S V.length) → BitsOf V S V.length xs → Ev (fun k => laws_FnBits.l1 k V S 0 (strOfNums xs) (offS S V.length) (strOfNums xs) 0) true) (d : Nat) : ∀ (i : Nat) (xs : List Int), i + d = V.length → Inv xs (offS S i) → BitsOf V S i xs →
    Ev (fun k => laws_FnBits.l0 k V S i (strOfNums xs) (offS S i)) true := by
  induction d with
  | zero =>
    intro i xs h hI hB
    obtain rfl : i = V.length := by omega
    refine Ev.step (fun k => ?_) (fin xs hI hB)
    rw [laws_FnBits.l0, if_neg (by omega)]
  | succ d ih =>
    intro i xs h hI hB
    obtain ⟨n0, n1, v0, v1⟩ := hG i (by omega)
    have ho := off_le V S hG i (by omega)
    obtain ⟨e1, e2, e3, e4⟩ := put_one xs (offS S i) (rd V i) (rd S i) hI (by omega) n0 n1 v0 v1
    have hl := e2.len
    have hc : ((offS S i : Nat) : Int) + rd S i = ((offS S (i + 1) : Nat) : Int) := by rw [offS]; omega
    have hB2 : BitsOf V S (i + 1) (MWriter.putAll (lows (rd V i) (rd S i).toNat) xs (offS S i)) := by
      intro j q hj hq
      by_cases hji : j = i
      · subst hji
        exact e4 q hq
      · obtain ⟨t, rfl⟩ : ∃ t, i = j + 1 + t := ⟨i - j - 1, by omega⟩
        have := off_up S j t
        rw [e3 _ (by omega)]
        exact hB j q (by omega) hq
    have hI2 : Inv (MWriter.putAll (lows (rd V i) (rd S i).toNat) xs (offS S i)) (offS S (i + 1)) := e2
    have g := ih (i + 1) _ (by omega) hI2 hB2
    have hsz := nums_size (MWriter.putAll (lows (rd V i) (rd S i).toNat) xs (offS S i))
    have hok := inv_ok _ _ hI2 (by rw [offS]; omega)
    rw [hc] at e1
    refine Ev.step (fun k => ?_) g
    rw [laws_FnBits.l0, if_pos (by omega), if_pos (by omega), if_pos (by omega), e1, Option.bind_some, if_pos rfl]
    show (impl_OutOk.f _ _).bind _ = _
    have o2 : offS S (i + 1) ≤ 1000 := by rw [offS]; omega
    rw [ok_impl (strOfNums (MWriter.putAll (lows (rd V i) (rd S i).toNat) xs (offS S i))) ((offS S (i + 1) : Nat) : Int) (by omega) (by omega) (by omega), hok, Option.bind_some, if_pos rfl, hc, w64_id (x := ((offS S (i + 1) : Nat) : Int)) (by omega) (by omega), if_pos rfl, w64_id (x := (i : Int) + 1) (by omega) (by omega)]
    rfl
theorem l2_goes (V S xs : List Int) (n : Int) (v : Int) (hV : 0 < V.length) (hv : rd V 0 = v) (n0 : 0 ≤ n) (n1 : n ≤ 24) (v0 : 0 ≤ v) (v1 : v < 2 ^ n.toNat) (hI : Inv xs n.toNat) (hb : ∀ q, q < n.toNat → bitX xs q = v / 2 ^ (n.toNat - 1 - q) % 2) (T : ByteArray) (c : Int) (T2 : ByteArray) (d : Nat) : ∀ i : Nat, (i : Int) + d = n →
    Ev (fun k => laws_FnBits.l2 k V n true (v / 2 ^ d) i T c T2 c (strOfNums xs) i) true := by
  have hl := hI.len
  have hs := nums_size xs
  induction d with
  | zero =>
    intro i h
    refine ev_ret (fun k => ?_)
    rw [laws_FnBits.l2, if_neg (by omega), if_pos rfl, if_pos (by omega), hv, if_pos (by simp)]
    simp
  | succ d ih =>
    intro i h
    have hB : bitB (strOfNums xs) (i : Int) = v / 2 ^ d % 2 := by
      rw [bitB_X xs hI.rng i (by omega), hb i (by omega), show n.toNat - 1 - i = d by omega]
    have B0 : 0 ≤ v / 2 ^ d % 2 := by omega
    have B1 : v / 2 ^ d % 2 < 2 ^ (1 : Int).toNat := by show v / 2 ^ d % 2 < 2; omega
    have t := take_impl (strOfNums xs) (by omega) i 1 (v / 2 ^ d % 2) (by omega) (by omega) (by omega) (by omega) B0 B1 (fun q hq => by
      obtain rfl : q = 0 := by omega
      rw [show (i : Int) + ((0 : Nat) : Int) = i by omega, hB]
      simp)
    have g := ih (i + 1) (by omega)
    have hq0 : 0 ≤ v / 2 ^ (d + 1) := Int.ediv_nonneg v0 (Int.le_of_lt (Int.pow_pos (by omega)))
    have hq1 : v / 2 ^ (d + 1) ≤ v := Int.ediv_le_self _ v0
    obtain ⟨p0, p1⟩ := pow24 n n0 n1
    have hh : v / 2 ^ (d + 1) = v / 2 ^ d / 2 := by
      rw [Int.pow_succ, Int.ediv_ediv_of_nonneg (Int.le_of_lt (Int.pow_pos (by omega)))]
    have hst : 2 * (v / 2 ^ (d + 1)) + v / 2 ^ d % 2 = v / 2 ^ d := by rw [hh]; omega
    have hd0 : v / 2 ^ d ≤ v := Int.ediv_le_self _ v0
    refine ev_use_step t (fun k hk => ?_) g
    rw [laws_FnBits.l2, if_pos (by omega), hk, Option.bind_some, if_pos rfl]
    show laws_FnBits.l2 k V n true (wrap64 (wrap64 (2 * (v / 2 ^ (d + 1))) + v / 2 ^ d % 2)) (wrap64 ((i : Int) + 1)) T c T2 c (strOfNums xs) ((i : Int) + 1) = _
    rw [w64_id (x := 2 * (v / 2 ^ (d + 1))) (by omega) (by omega), hst, w64_id (x := v / 2 ^ d) (by omega) (by omega), w64_id (x := (i : Int) + 1) (by omega) (by omega)]
    rfl
theorem l1_goes (V S xs : List Int) (hG : Good V S) (hS : S.length = V.length) (hm : V.length ≤ 20) (hm1 : 1 ≤ V.length) (hI : Inv xs (offS S V.length)) (hB : BitsOf V S V.length xs) (d : Nat) : ∀ (i : Nat), i + d = V.length →
    Ev (fun k => laws_FnBits.l1 k V S i (strOfNums xs) (offS S V.length) (strOfNums xs) (offS S i)) true := by
  have hl := hI.len
  have hs := nums_size xs
  have ho := off_le V S hG V.length (Nat.le_refl _)
  induction d with
  | zero =>
    intro i h
    obtain rfl : i = V.length := by omega
    have hG0 : 0 ≤ rd S 0 ∧ rd S 0 ≤ 24 ∧ 0 ≤ rd V 0 ∧ rd V 0 < 2 ^ (rd S 0).toNat := hG 0 (by omega)
    obtain ⟨n0, n1, v0, v1⟩ := hG0
    obtain ⟨ys, c1, c2, c3⟩ := code_one (rd V 0) (rd S 0) n0 n1 v0 v1
    have g := l2_goes V S ys (rd S 0) (rd V 0) (by omega) rfl n0 n1 v0 v1 c2 c3 (strOfNums xs) (offS S V.length) (strOfNums xs) (rd S 0).toNat 0 (by omega)
    have z : rd V 0 / 2 ^ (rd S 0).toNat = 0 := Int.ediv_eq_zero_of_lt v0 v1
    rw [z] at g
    refine Ev.step (fun k => ?_) g
    rw [laws_FnBits.l1, if_neg (by omega), if_pos (by omega), if_pos (by omega), c1, Option.bind_some]
    rfl
  | succ d ih =>
    intro i h
    obtain ⟨n0, n1, v0, v1⟩ := hG i (by omega)
    obtain ⟨t, ht⟩ : ∃ t, V.length = i + 1 + t := ⟨V.length - i - 1, by omega⟩
    have hu := off_up S i t
    rw [← ht] at hu
    have hc : ((offS S i : Nat) : Int) + rd S i = ((offS S (i + 1) : Nat) : Int) := by rw [offS]; omega
    have T := take_impl (strOfNums xs) (by omega) (offS S i) (rd S i) (rd V i) (by omega) n0 n1 (by omega) v0 v1 (fun q hq => by
      have e : ((offS S i : Nat) : Int) + (q : Int) = ((offS S i + q : Nat) : Int) := by omega
      rw [e, bitB_X xs hI.rng _ (by omega)]
      exact hB i q (by omega) (by omega))
    refine ev_use_step T (fun k hk => ?_) (ih (i + 1) (by omega))
    rw [laws_FnBits.l1, if_pos (by omega), if_pos (by omega), if_pos (by omega), hk, Option.bind_some, if_pos rfl, if_pos rfl, w64_id (x := (i : Int) + 1) (by omega) (by omega), hc]
    rfl
theorem FnBits : laws_FnBits.Pure := by
  intro l hl hl1 hw
  by_cases hb : (l.length : Int) > 1048576
  · refine ⟨0, ?_⟩
    unfold laws_FnBits.f laws_big.f
    rw [decide_eq_true hb]
    simp
  · obtain ⟨⟨V, S⟩, D, hG, hS, h1, h2⟩ := some_is l (by omega)
    have hG : Good V S := hG
    have hS : S.length = V.length := hS
    have h1 : 1 ≤ V.length := h1
    have h2 : V.length ≤ 20 := h2
    have hI : Inv [] 0 := ⟨rfl, fun x hx => (by cases hx), fun h => absurd rfl h⟩
    have g := l0_goes V S hG hS h2 (fun xs hI hB => l1_goes V S xs hG hS h2 h1 hI hB V.length 0 (by omega)) V.length 0 [] (by omega) hI (fun j q hj _ => absurd hj (Nat.not_lt_zero _))
    obtain ⟨k, hk⟩ := (ev_pair D g).rounds
    refine ⟨k, ?_⟩
    obtain ⟨q1, q2⟩ := pair_some hk
    unfold laws_FnBits.f laws_big.f
    rw [Option.bind_some, if_neg (by rw [decide_eq_false hb]; decide), q1, Option.bind_some]
    exact q2

end Go.Proofs.Ytfmdenifbbhmdaa.Pure
