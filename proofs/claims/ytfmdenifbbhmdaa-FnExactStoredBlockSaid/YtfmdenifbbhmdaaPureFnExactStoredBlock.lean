/- The law FnExactStoredBlock: for every input within the row's bounds the printed function answers true: what the program's function tells is what the law asks. Conditions: only the bounds that the row itself gives (sizes of strings and slices, ranges of the number kinds). -/
import Derived.Test.YtfmdenifbbhmdaaPFnExactStoredBlockx2
namespace Go.Proofs.Ytfmdenifbbhmdaa.Pure
open Go.RowKit Go.Proofs.Ytfmdenifbbhmdaa.PFnExactStoredBlock Go.Proofs.YtfmdenifbbhmdaaW.PrintWords Go.Proofs.YtfmdenifbbhmdaaW.PrintLast Go.Proofs.YtfmdenifbbhmdaaW.PrintMore
set_option linter.unusedVariables false
set_option linter.unusedSimpArgs false

theorem w64_id {x : Int} (h0 : -9223372036854775808 ≤ x) (h1 : x ≤ 9223372036854775807) : wrap64 x = x := by unfold wrap64; omega
theorem tmod_nn {a : Int} (b : Int) (h : 0 ≤ a) : Int.tmod a b = a % b := Int.tmod_eq_emod_of_nonneg h
theorem tdiv_nn {a : Int} (b : Int) (h : 0 ≤ a) : Int.tdiv a b = a / b := Int.tdiv_eq_ediv_of_nonneg h
theorem wf64 {n : Int} (h : (Lit.int .i64 n).wf = true) : -9223372036854775808 ≤ n ∧ n ≤ 9223372036854775807 := by
  simp [Lit.wf, IntKind.min, IntKind.max, IntKind.signed, IntKind.bits] at h
  omega
theorem wfu32 {n : Int} (h : (Lit.int .u32 n).wf = true) : 0 ≤ n ∧ n ≤ 4294967295 := by
  simp [Lit.wf, IntKind.min, IntKind.max, IntKind.signed, IntKind.bits] at h
  omega
theorem wraps64 (n : Int) (h0 : 0 ≤ n) (h1 : n < 2 ^ 63) : IntKind.i64.wrap n = n := by rw [IntKind.wrap_i64]; omega
theorem wrapsu32 (n : Int) (h0 : 0 ≤ n) (h1 : n < 2 ^ 32) : IntKind.u32.wrap n = n := by rw [IntKind.wrap_u32]; omega
/-- a | b of parts that do not meet, of an int. -/
theorem or64 (i : Nat) (x y : Int) (hx0 : 0 ≤ x) (hx : x % 2 ^ i = 0) (hx1 : x < 2 ^ 63) (hy0 : 0 ≤ y) (hy : y < 2 ^ i) (hy1 : y < 2 ^ 63) : Go.bits .or .i64 x y = x + y :=
  bits_join .i64 63 (by decide) wraps64 i x y hx0 hx hx1 hy0 hy hy1
theorem ev_ite_pos {α : Type} {c : Prop} [Decidable c] {f g : Nat → Option α} {r : α} (h : c) (k : Ev f r) : Ev (fun n => if c then f n else g n) r := Ev.congr (fun n => if_pos h) k
theorem ev_ite_neg {α : Type} {c : Prop} [Decidable c] {f g : Nat → Option α} {r : α} (h : ¬ c) (k : Ev g r) : Ev (fun n => if c then f n else g n) r := Ev.congr (fun n => if_neg h) k
/-- A callee without rounds that answers. -/
theorem ev_bind0 {α β : Type} {o : Option α} {f : Nat → α → Option β} {a : α} {r : β} (h : o = some a) (k : Ev (fun n => f n a) r) : Ev (fun n => o.bind (f n)) r := Ev.congr (fun n => by rw [h]; rfl) k
theorem bt_lo (s : ByteArray) (i : Int) : 0 ≤ bt s i := (bt_range s i).1
theorem bt_hi (s : ByteArray) (i : Int) : bt s i ≤ 255 := (bt_range s i).2
/-- A callee that answers from some number of rounds on, used. -/
theorem ev_use {α β : Type} {g : Nat → Option α} {a : α} {F G : Nat → Option β} {r : β} (e : Ev g a) (h : ∀ k, g k = some a → F k = G k) (c : Ev G r) : Ev F r := by
  obtain ⟨K, e⟩ := e
  obtain ⟨K', c⟩ := c
  exact ⟨max K K', fun n hn => (h n (e n (by omega))).trans (c n (by omega))⟩
theorem ev_use_step {α β : Type} {g : Nat → Option α} {a : α} {F G : Nat → Option β} {r : β} (e : Ev g a) (h : ∀ k, g k = some a → F (k + 1) = G k) (c : Ev G r) : Ev F r := by
  obtain ⟨K, e⟩ := e
  obtain ⟨K', c⟩ := c
  refine ⟨max K K' + 1, fun n hn => ?_⟩
  obtain ⟨m, rfl⟩ : ∃ m, n = m + 1 := ⟨n - 1, by omega⟩
  exact (h m (e m (by omega))).trans (c m (by omega))
theorem ev_end {α β : Type} {g : Nat → Option α} {a : α} {F : Nat → Option β} {r : β} (e : Ev g a) (h : ∀ k, g k = some a → F k = some r) : Ev F r := by
  obtain ⟨K, e⟩ := e
  exact ⟨K, fun n hn => h n (e n hn)⟩
theorem ev_two {α β : Type} {g : Nat → Option α} {h : Nat → Option β} {a : α} {b : β} (e : Ev g a) (f : Ev h b) : ∃ k, g k = some a ∧ h k = some b := by
  obtain ⟨K, e⟩ := e
  obtain ⟨K', f⟩ := f
  exact ⟨max K K', e _ (by omega), f _ (by omega)⟩
theorem ev_ret {α : Type} {F : Nat → Option α} {r : α} (h : ∀ k, F (k + 1) = some r) : Ev F r := ⟨1, fun n hn => by obtain ⟨m, rfl⟩ : ∃ m, n = m + 1 := ⟨n - 1, by omega⟩; exact h m⟩

theorem gd_at {α : Type} (l : List α) (z : α) (j : Nat) (h : j < l.length) : l.getD (j : Int).toNat z = l[j] := by rw [Int.toNat_natCast, List.getD_eq_getElem?_getD, List.getElem?_eq_getElem h]; rfl
theorem gd_drop {α : Type} (l : List α) (z : α) (j : Nat) (h : j < l.length) : l.drop j = l.getD (j : Int).toNat z :: l.drop (j + 1) := by rw [gd_at l z j h]; exact List.drop_eq_getElem_cons h
theorem g_take_set {α : Type} (l : List α) (j : Nat) (v : α) (h : j < l.length) : (l.set j v).take (j + 1) = l.take j ++ [v] := by
  rw [List.take_succ_eq_append_getElem (by simpa using h)]
  simp [List.take_set_of_le]

theorem in_spec (a b c : Int) : spec_l01In.f a b c = some (decide (b ≤ a ∧ a ≤ c)) := by
  unfold spec_l01In.f
  split
  · rename_i h
    have e : (decide (a ≤ c)) = decide (b ≤ a ∧ a ≤ c) := decide_eq_decide.mpr ⟨fun h' => ⟨h, h'⟩, fun h' => h'.2⟩
    rw [e]
  · rename_i h
    have e : (decide (b ≤ a ∧ a ≤ c)) = false := decide_eq_false fun h' => h h'.1
    rw [e]

theorem in_impl (a b c : Int) : impl_within.f a b c = some (decide (b ≤ a ∧ a ≤ c)) := by
  unfold impl_within.f
  split
  · rename_i h
    have e : (decide (a ≤ c)) = decide (b ≤ a ∧ a ≤ c) := decide_eq_decide.mpr ⟨fun h' => ⟨h, h'⟩, fun h' => h'.2⟩
    rw [e]
  · rename_i h
    have e : (decide (b ≤ a ∧ a ≤ c)) = false := decide_eq_false fun h' => h h'.1
    rw [e]

/-- 2^n, as the loop doubles it. -/
theorem pow_loop (n : Int) (d : Nat) : ∀ (x i : Int), 0 ≤ i → i + d = n → 0 ≤ x → x * 2 ^ d ≤ 4611686018427387904 → n ≤ 62 →
    Ev (fun k => spec_l01Pow.l0 k n x i) (x * 2 ^ d) := by
  induction d with
  | zero =>
    intro x i h0 h hx hb hn
    refine ev_ret (fun k => ?_)
    rw [spec_l01Pow.l0, if_neg (by omega)]
    simp
  | succ d ih =>
    intro x i h0 h hx hb hn
    have e : x * 2 ^ (d + 1) = 2 * x * 2 ^ d := by rw [Int.pow_succ, ← Int.mul_assoc, Int.mul_comm (x * 2 ^ d) 2, ← Int.mul_assoc]
    have hp : (1 : Int) ≤ 2 ^ d := by have : (0 : Int) < 2 ^ d := Int.pow_pos (by omega); omega
    have h2 : 2 * x ≤ 2 * x * 2 ^ d := by
      have := Int.mul_le_mul_of_nonneg_left hp (show 0 ≤ 2 * x by omega)
      omega
    have h3 := ih (2 * x) (i + 1) (by omega) (by omega) (by omega) (by omega) hn
    rw [e]
    refine Ev.step (fun k => ?_) h3
    rw [spec_l01Pow.l0, if_pos (by omega), w64_id (x := 2 * x) (by omega) (by omega), w64_id (x := i + 1) (by omega) (by omega)]
theorem pow_is (n : Nat) (hn : n ≤ 62) : Ev (fun k => spec_l01Pow.f k (n : Int)) (2 ^ n) := by
  have hb : (2 : Int) ^ n ≤ 2 ^ 62 := by exact_mod_cast Nat.pow_le_pow_right (n := 2) (by omega) hn
  have h := pow_loop n n 1 0 (by omega) (by omega) (by omega) (by rw [Int.one_mul]; exact hb) (by omega)
  rw [Int.one_mul] at h
  exact h
theorem pow_at (n : Int) (h0 : 0 ≤ n) (hn : n ≤ 62) : Ev (fun k => spec_l01Pow.f k n) (2 ^ n.toNat) := by
  have h := pow_is n.toNat (by omega)
  rw [Int.toNat_of_nonneg h0] at h
  exact h

/-- Is an Out right. -/
def okB (s : ByteArray) (n : Int) : Bool :=
  if s.size ≤ 12000 ∧ 0 ≤ n ∧ n ≤ 8 * (s.size : Int) ∧ (n + 7) / 8 = s.size then (if n % 8 = 0 then true else decide (bt s ((s.size : Int) - 1) < 2 ^ (n % 8).toNat)) else false
theorem ok_spec (s : ByteArray) (n : Int) (n0 : -9223372036854775808 ≤ n) (n1 : n ≤ 9223372036854775807) (hs : s.size ≤ 1048576) : Ev (fun k => spec_OutOk.f k s n) (okB s n) := by
  unfold okB
  by_cases h : s.size ≤ 12000 ∧ 0 ≤ n ∧ n ≤ 8 * (s.size : Int) ∧ (n + 7) / 8 = s.size
  · obtain ⟨h1, h2, h3, h4⟩ := h
    rw [if_pos ⟨h1, h2, h3, h4⟩]
    have w1 : wrap64 (8 * (s.size : Int)) = 8 * s.size := w64_id (by omega) (by omega)
    have w2 : wrap64 (n + 7) = n + 7 := w64_id (by omega) (by omega)
    have w3 : wrap64 ((n + 7) / 8) = (n + 7) / 8 := w64_id (by omega) (by omega)
    have w4 : wrap64 ((s.size : Int) - 1) = s.size - 1 := w64_id (by omega) (by omega)
    have t : Int.tmod n 8 = n % 8 := tmod_nn 8 h2
    by_cases h5 : n % 8 = 0
    · rw [if_pos h5]
      refine Ev.congr (fun k => ?_) (Ev.now true)
      unfold spec_OutOk.f
      rw [if_neg (by omega), if_neg (by omega), w1, if_neg (by omega), w2, tdiv_nn _ (by omega), w3, if_pos h4, t, if_pos h5]
    · rw [if_neg h5]
      have b0 := bt_lo s ((s.size : Int) - 1)
      have b1 := bt_hi s ((s.size : Int) - 1)
      refine ev_end (pow_at (n % 8) (by omega) (by omega)) (fun k hk => ?_)
      unfold spec_OutOk.f
      rw [if_neg (by omega), if_neg (by omega), w1, if_neg (by omega), w2, tdiv_nn _ (by omega), w3, if_pos h4, t, if_neg h5, w4, if_pos (by omega), if_pos (by omega), hk, w64_id (x := bt s ((s.size : Int) - 1)) (by omega) (by omega)]
      rfl
  · rw [if_neg h]
    refine Ev.congr (fun k => ?_) (Ev.now false)
    unfold spec_OutOk.f
    split
    · rfl
    · split
      · rfl
      · rw [w64_id (x := 8 * (s.size : Int)) (by omega) (by omega)]
        split
        · rfl
        · rw [w64_id (x := n + 7) (by omega) (by omega), tdiv_nn _ (by omega), w64_id (x := (n + 7) / 8) (by omega) (by omega), if_neg (by omega)]
theorem ok_impl (s : ByteArray) (n : Int) (n0 : -9223372036854775808 ≤ n) (n1 : n ≤ 9223372036854775807) (hs : s.size ≤ 1048576) : impl_OutOk.f s n = some (okB s n) := by
  unfold okB impl_OutOk.f impl_up.f
  rw [in_impl]
  simp only [Option.bind_some, decide_eq_true_eq]
  by_cases h : s.size ≤ 12000 ∧ 0 ≤ n ∧ n ≤ 8 * (s.size : Int) ∧ (n + 7) / 8 = s.size
  · obtain ⟨h1, h2, h3, h4⟩ := h
    have w2 : wrap64 (n + 7) = n + 7 := w64_id (by omega) (by omega)
    have w3 : wrap64 ((n + 7) / 8) = (n + 7) / 8 := w64_id (by omega) (by omega)
    have w4 : wrap64 ((s.size : Int) - 1) = s.size - 1 := w64_id (by omega) (by omega)
    rw [if_pos (show 0 ≤ n ∧ n ≤ 96000 from ⟨h2, by omega⟩), w2, tdiv_nn _ (by omega), w3, if_pos h4.symm, tmod_nn 8 h2, if_pos (show s.size ≤ 12000 ∧ 0 ≤ n ∧ n ≤ 8 * (s.size : Int) ∧ (n + 7) / 8 = s.size from ⟨h1, h2, h3, h4⟩)]
    by_cases h5 : n % 8 = 0
    · rw [if_pos h5, if_pos h5]
    · rw [if_neg h5, if_neg h5, w4, if_pos (by omega), if_pos (by omega), if_pos (by omega)]
      have b0 := bt_lo s ((s.size : Int) - 1)
      congr 1
      have e : shr .u8 (bt s ((s.size : Int) - 1)) (n % 8) = bt s ((s.size : Int) - 1) / 2 ^ (n % 8).toNat := shr_small rfl (by simp [IntKind.bits]; omega) |>.symm
      rw [e, Bool.eq_iff_iff]
      simp only [beq_iff_eq, decide_eq_true_eq]
      have hp : (0 : Int) < 2 ^ (n % 8).toNat := Int.pow_pos (by omega)
      constructor
      · intro hz
        have := Int.lt_mul_ediv_self_add (x := bt s ((s.size : Int) - 1)) hp
        rw [hz, Int.mul_zero, Int.zero_add] at this
        exact this
      · intro hz
        exact Int.ediv_eq_zero_of_lt b0 hz
  · rw [if_neg h]
    split
    · rw [w64_id (x := n + 7) (by omega) (by omega), tdiv_nn _ (by omega), w64_id (x := (n + 7) / 8) (by omega) (by omega), if_neg (by omega)]
    · rfl

open Go.Proofs.Ytfmdenifbbhmdaa.MWriter Go.Proofs.Ytfmdenifbbhmdaa.MPut Go.Proofs.Ytfmdenifbbhmdaa.MOut
theorem or8_swap (x y : Int) : Go.bits .or .u8 x y = Go.bits .or .u8 y x := by
  unfold Go.bits
  simp only []
  rw [BitVec.or_comm]
/-- A bit set behind those that are there: the sum. -/
theorem orBit_is (x n : Int) (r : Nat) (hr : r < 8) (x0 : 0 ≤ x) (x1 : x < 2 ^ r) (n0 : 0 ≤ n) (n1 : n < 2 ^ 63) : orBit x n r = x + n % 2 * 2 ^ r ∧ x + n % 2 * 2 ^ r < 2 ^ (r + 1) ∧ x + n % 2 * 2 ^ r ≤ 255 := by
  have e : Go.bits .and .i64 n 1 = n % 2 := bits_mask .i64 63 (by decide) wraps64 1 (by decide) n n0 n1
  have hb : n % 2 = 0 ∨ n % 2 = 1 := by omega
  unfold orBit
  rw [e]
  have hr' : r = 0 ∨ r = 1 ∨ r = 2 ∨ r = 3 ∨ r = 4 ∨ r = 5 ∨ r = 6 ∨ r = 7 := by omega
  have hp : (2 : Int) ^ r ≤ 128 ∧ (2 : Int) ^ (r + 1) = 2 * 2 ^ r ∧ 0 < (2 : Int) ^ r := by
    refine ⟨?_, by rw [Int.pow_succ]; omega, Int.pow_pos (by omega)⟩
    rcases hr' with h | h | h | h | h | h | h | h <;> subst h <;> decide
  obtain ⟨p1, p2, p3⟩ := hp
  have e2 : n % 2 % 256 * 2 ^ r % 256 = n % 2 * 2 ^ r := by
    rcases hb with h | h <;> rw [h]
    · simp
    · have : (1 : Int) % 256 = 1 := by decide
      rw [this]
      omega
  rw [e2]
  have e3 : Go.bits .or .u8 x (n % 2 * 2 ^ r) = x + n % 2 * 2 ^ r := by
    rw [or8_swap, bits_join .u8 8 (by decide) (fun n h0 h1 => by rw [IntKind.wrap_u8]; omega) r (n % 2 * 2 ^ r) x (by rcases hb with h | h <;> rw [h] <;> omega) (by simp) (by rcases hb with h | h <;> rw [h] <;> omega) x0 x1 (by omega)]
    omega
  refine ⟨e3, ?_, ?_⟩
  · rw [p2]
    rcases hb with h | h <;> rw [h] <;> omega
  · rcases hb with h | h <;> rw [h] <;> omega
/-- Bytes that hold c bits: all bits behind them are 0. -/
structure Inv (xs : List Int) (c : Nat) : Prop where
  len : xs.length = (c + 7) / 8
  rng : ∀ x ∈ xs, 0 ≤ x ∧ x ≤ 255
  low : c % 8 ≠ 0 → rd xs ((c / 8 : Nat) : Int) < 2 ^ (c % 8)
theorem rd_memI {xs : List Int} {i : Nat} (h : i < xs.length) : rd xs (i : Int) ∈ xs := by
  unfold rd
  rw [Int.toNat_natCast, List.getD_eq_getElem?_getD, List.getElem?_eq_getElem h]
  exact List.getElem_mem h
theorem rd_setJ {xs : List Int} {i : Nat} (h : i < xs.length) (a : Int) : rd (xs.set i a) (i : Int) = a := by
  unfold rd
  rw [Int.toNat_natCast, List.getD_eq_getElem?_getD, List.getElem?_set_self h]
  rfl
theorem rd_last (xs : List Int) (a : Int) : rd (xs ++ [a]) (xs.length : Int) = a := by
  unfold rd
  rw [Int.toNat_natCast, List.getD_eq_getElem?_getD]
  simp
theorem put_step (xs : List Int) (c : Nat) (n : Int) (hI : Inv xs c) (n0 : 0 ≤ n) (n1 : n < 2 ^ 63) : putAdd xs c (n % 2) = putBit xs c n ∧ Inv (putBit xs c n) (c + 1) := by
  by_cases hm : c % 8 = 0
  · obtain ⟨h1, h2, h3⟩ := orBit_is 0 n 0 (by omega) (by omega) (by decide) n0 n1
    have e : putBit xs c n = xs ++ [orBit 0 n 0] := by unfold putBit; rw [if_pos hm]
    have hl := hI.len
    refine ⟨?_, ?_⟩
    · rw [e]
      unfold putAdd
      rw [if_pos hm, addBit_eq, h1]
      congr 2
      omega
    · rw [e]
      refine ⟨by simp; omega, fun x hx => ?_, fun h => ?_⟩
      · rcases List.mem_append.1 hx with hx | hx
        · exact hI.rng x hx
        · rw [List.mem_singleton] at hx
          rw [hx, h1]
          omega
      · have e1 : (c + 1) / 8 = xs.length := by omega
        have e2 : (c + 1) % 8 = 1 := by omega
        rw [e1, e2, rd_last, h1]
        exact h2
  · have hl := hI.len
    have hj : c / 8 < xs.length := by omega
    have hx := hI.rng _ (rd_memI hj)
    obtain ⟨h1, h2, h3⟩ := orBit_is (rd xs ((c / 8 : Nat) : Int)) n (c % 8) (by omega) hx.1 (hI.low hm) n0 n1
    have e : putBit xs c n = xs.set (c / 8) (orBit (rd xs ((c / 8 : Nat) : Int)) n (c % 8)) := by unfold putBit; rw [if_neg hm]
    have p3 : (0 : Int) < 2 ^ (c % 8) := Int.pow_pos (by omega)
    have hb : n % 2 = 0 ∨ n % 2 = 1 := by omega
    have hpos : 0 ≤ rd xs ((c / 8 : Nat) : Int) + n % 2 * 2 ^ (c % 8) := by rcases hb with h | h <;> rw [h] <;> omega
    refine ⟨?_, ?_⟩
    · rw [e]
      unfold putAdd
      rw [if_neg hm, addBit_eq, h1]
      congr 1
      omega
    · rw [e]
      refine ⟨by rw [List.length_set]; omega, fun x hx => ?_, fun h => ?_⟩
      · rcases List.mem_or_eq_of_mem_set hx with hx | hx
        · exact hI.rng x hx
        · rw [hx, h1]
          exact ⟨hpos, h3⟩
      · have e1 : (c + 1) / 8 = c / 8 := by omega
        have e2 : (c + 1) % 8 = c % 8 + 1 := by omega
        rw [e1, e2, rd_setJ hj, h1]
        exact h2
theorem put_all : ∀ (ns xs : List Int) (c : Nat), Inv xs c → (∀ n ∈ ns, 0 ≤ n ∧ n < 2 ^ 63) → addAll (ns.map (· % 2)) xs c = MWriter.putAll ns xs c ∧ Inv (MWriter.putAll ns xs c) (c + ns.length)
  | [], xs, c, h, _ => ⟨rfl, h⟩
  | n :: ns, xs, c, h, hn => by
    obtain ⟨n0, n1⟩ := hn n (List.mem_cons_self ..)
    obtain ⟨h1, h2⟩ := put_step xs c n h n0 n1
    obtain ⟨h3, h4⟩ := put_all ns _ _ h2 (fun m hm => hn m (List.mem_cons_of_mem _ hm))
    rw [List.map_cons, addAll, h1, h3, MWriter.putAll, List.length_cons]
    exact ⟨rfl, by rw [show c + (ns.length + 1) = c + 1 + ns.length by omega]; exact h4⟩
theorem bytesOf_rd (s : ByteArray) (i : Nat) (h : i < s.size) : rd (bytesOf s) (i : Int) = bt s (i : Int) := by
  unfold rd bt
  rw [dif_pos (show (i : Int).toNat < s.size by rw [Int.toNat_natCast]; exact h)]
  simp only [Int.toNat_natCast]
  unfold bytesOf
  rw [List.getD_eq_getElem?_getD, List.getElem?_map]
  have hh : i < s.data.toList.length := h
  rw [List.getElem?_eq_getElem hh]
  rfl
theorem bytesOf_rng (s : ByteArray) : ∀ x ∈ bytesOf s, 0 ≤ x ∧ x ≤ 255 := by
  intro x hx
  unfold bytesOf at hx
  obtain ⟨b, _, rfl⟩ := List.mem_map.1 hx
  have := b.toNat_lt
  omega
/-- A right Out's bytes. -/
theorem ok_inv (s : ByteArray) (c : Int) (h : okB s c = true) : ∃ C : Nat, c = C ∧ C ≤ 96000 ∧ s.size ≤ 12000 ∧ s.size = (C + 7) / 8 ∧ Inv (bytesOf s) C := by
  unfold okB at h
  split at h
  · rename_i hc
    obtain ⟨h1, h2, h3, h4⟩ := hc
    obtain ⟨C, rfl⟩ := Int.eq_ofNat_of_zero_le h2
    have hs : s.size = (C + 7) / 8 := by omega
    refine ⟨C, rfl, by omega, h1, hs, ⟨by rw [bytesOf_length]; exact hs, bytesOf_rng s, fun hm => ?_⟩⟩
    rw [if_neg (by omega)] at h
    have h5 := of_decide_eq_true h
    rw [bytesOf_rd s _ (by omega)]
    have e1 : ((s.size : Int) - 1) = ((C / 8 : Nat) : Int) := by omega
    have e2 : ((C : Int) % 8).toNat = C % 8 := by omega
    rw [e1, e2] at h5
    exact h5
  · cases h

/-- May n bits of v be put. -/
def putB (v n : Int) : Bool := decide (0 ≤ n ∧ n ≤ 24) && decide (0 ≤ v ∧ v ≤ 2 ^ n.toNat - 1)
theorem pow24 (n : Int) (h0 : 0 ≤ n) (h1 : n ≤ 24) : (1 : Int) ≤ 2 ^ n.toNat ∧ (2 : Int) ^ n.toNat ≤ 16777216 := by
  have h2 : (2 : Nat) ^ n.toNat ≤ 2 ^ 24 := Nat.pow_le_pow_right (by decide) (by omega)
  have h3 : (0 : Nat) < 2 ^ n.toNat := Nat.pow_pos (by decide)
  have e : (2 : Int) ^ n.toNat = ((2 ^ n.toNat : Nat) : Int) := by push_cast; rfl
  have e2 : (2 : Nat) ^ 24 = 16777216 := by decide
  rw [e]
  omega
theorem may_spec (s : ByteArray) (c v n : Int) (c0 : -9223372036854775808 ≤ c) (c1 : c ≤ 9223372036854775807) (hs : s.size ≤ 1048576) :
    Ev (fun k => spec_l01May.f k s c v n) (okB s c && putB v n && decide (c ≤ 96000 - n)) := by
  refine ev_use (ok_spec s c c0 c1 hs) (fun k hk => by unfold spec_l01May.f; rw [hk]) ?_
  cases hB : okB s c with
  | false => exact Ev.now _
  | true =>
    simp only [if_true, Bool.true_and]
    rw [in_spec]
    simp only [Option.bind_some]
    by_cases hn : 0 ≤ n ∧ n ≤ 24
    · obtain ⟨p0, p1⟩ := pow24 n hn.1 hn.2
      refine ev_end (pow_at n hn.1 (by omega)) (fun k hk => ?_)
      rw [if_pos (decide_eq_true hn), hk]
      simp only [Option.bind_some]
      rw [w64_id (x := 2 ^ n.toNat - 1) (by omega) (by omega), in_spec]
      simp only [Option.bind_some]
      unfold putB
      rw [decide_eq_true hn, Bool.true_and, w64_id (x := 96000 - n) (by omega) (by omega)]
      by_cases hv : 0 ≤ v ∧ v ≤ 2 ^ n.toNat - 1
      · rw [decide_eq_true hv]; simp
      · rw [decide_eq_false hv]; simp
    · refine Ev.congr (fun k => ?_) (Ev.now _)
      unfold putB
      rw [decide_eq_false hn]
      rfl
theorem places_rd (n i : Nat) (h : i < n) : rd ((List.range n).map fun j : Nat => (j : Int)) (i : Int) = i := by
  unfold rd
  rw [Int.toNat_natCast, List.getD_eq_getElem?_getD, List.getElem?_map, List.getElem?_range h]
  rfl
theorem putbits_loop (s : ByteArray) (c v : Int) (n : Nat) (hn : n ≤ 24) (r : ByteArray × Int) (hr : spec_l01Put.f s c v ((List.range n).map fun j : Nat => (j : Int)) = some r) (d : Nat) : ∀ i : Nat, i + d = n → Ev (fun k => spec_PutBits.l0 k v n ((List.range i).map fun j : Nat => (j : Int)) i s c) (r.1, r.2, true) := by
  induction d with
  | zero =>
    intro i hi
    obtain rfl : i = n := by omega
    refine ev_ret (fun k => ?_)
    rw [spec_PutBits.l0, if_neg (by omega), hr]
    rfl
  | succ d ih =>
    intro i hi
    refine Ev.step (fun k => ?_) (ih (i + 1) (by omega))
    rw [spec_PutBits.l0, if_pos (by omega), if_pos (by rw [List.length_map, List.length_range]; omega), w64_id (x := (i : Int) + 1) (by omega) (by omega), List.range_succ, List.map_append]
    rfl
theorem lows_rng (v : Int) (n : Nat) (v0 : 0 ≤ v) (v1 : v ≤ 16777215) : ∀ m ∈ lows v n, 0 ≤ m ∧ m < 2 ^ 63 := by
  intro m hm
  unfold lows at hm
  obtain ⟨i, _, rfl⟩ := List.mem_map.1 hm
  have h2 : v / 2 ^ i ≤ v := Int.ediv_le_self _ v0
  exact ⟨Int.ediv_nonneg v0 (Int.le_of_lt (Int.pow_pos (by omega))), by omega⟩
theorem lows_bits (v : Int) (n : Nat) : bitsAt v ((List.range n).map fun j : Nat => (j : Int)) ((List.range n).map fun j : Nat => (j : Int)).length = (lows v n).map (· % 2) := by
  unfold bitsAt lows
  rw [List.take_length, List.map_map, List.map_map]
  rfl
theorem str_back (s : ByteArray) : strOfNums (bytesOf s) = s := by
  have e : bytesOf s = s.data.toList.map fun b => (b.toNat : Int) := by
    rfl
  rw [e]
  unfold strOfNums
  rw [List.map_map]
  have : ((fun n : Int => UInt8.ofNat n.toNat) ∘ fun b : UInt8 => (b.toNat : Int)) = id := by
    funext b
    simp
  rw [this, List.map_id]

theorem bytes_back (xs : List Int) (h : ∀ x ∈ xs, 0 ≤ x ∧ x ≤ 255) : bytesOf (strOfNums xs) = xs := by
  have e : bytesOf (strOfNums xs) = (strOfNums xs).data.toList.map fun b => (b.toNat : Int) := rfl
  rw [e]
  unfold strOfNums
  rw [List.map_map]
  have : ∀ x ∈ xs, ((fun b : UInt8 => (b.toNat : Int)) ∘ fun n : Int => UInt8.ofNat n.toNat) x = x := by
    intro x hx
    obtain ⟨h0, h1⟩ := h x hx
    simp only [Function.comp]
    have : (UInt8.ofNat x.toNat).toNat = x.toNat := by
      rw [UInt8.toNat_ofNat']
      omega
    rw [this]
    omega
  rw [List.map_congr_left this, List.map_id']
theorem nums_size (xs : List Int) : (strOfNums xs).size = xs.length := by simp [strOfNums, ByteArray.size]
/-- Bytes with a count make a right Out. -/
theorem inv_ok (xs : List Int) (C : Nat) (h : Inv xs C) (hC : C ≤ 96000) : okB (strOfNums xs) (C : Int) = true := by
  have hb := bytes_back xs h.rng
  have hs := nums_size xs
  have hl := h.len
  unfold okB
  rw [hs, if_pos (by omega)]
  by_cases hm : (C : Int) % 8 = 0
  · rw [if_pos hm]
  · rw [if_neg hm]
    have hlow := h.low (by omega)
    have e1 : ((xs.length : Int) - 1) = ((C / 8 : Nat) : Int) := by omega
    have e2 : ((C : Int) % 8).toNat = C % 8 := by omega
    have e3 := bytesOf_rd (strOfNums xs) (C / 8) (by omega)
    rw [hb] at e3
    rw [e1, e2, ← e3]
    exact decide_eq_true hlow

/-- The reference's PutBits, out of the bytes that are there. -/
theorem putbits_at (xs : List Int) (C : Nat) (v n : Nat) (h : Inv xs C) (hC : C ≤ 96000) (hn : n ≤ 24) (hv : v < 2 ^ n) :
    Ev (fun k => spec_PutBits.f k (strOfNums xs) (C : Int) (v : Int) (n : Int)) (if C + n ≤ 96000 then (strOfNums (MWriter.putAll (lows (v : Int) n) xs C), ((C + n : Nat) : Int), true) else (⟨#[]⟩, 0, false)) := by
  have hok := inv_ok xs C h hC
  have hsz := nums_size xs
  have hl := h.len
  have hp : 2 ^ n ≤ 2 ^ 24 := Nat.pow_le_pow_right (by omega) hn
  have hB : putB (v : Int) (n : Int) = true := by
    unfold putB
    rw [decide_eq_true (⟨by omega, by omega⟩ : (0 : Int) ≤ (n : Int) ∧ (n : Int) ≤ 24), Bool.true_and, Int.toNat_natCast]
    have e : (2 : Int) ^ n = ((2 ^ n : Nat) : Int) := by push_cast; rfl
    rw [e]
    exact decide_eq_true (by omega)
  have hm := may_spec (strOfNums xs) (C : Int) (v : Int) (n : Int) (by omega) (by omega) (by omega)
  rw [hok, hB, Bool.true_and, Bool.true_and] at hm
  by_cases hc : C + n ≤ 96000
  · rw [if_pos hc]
    rw [decide_eq_true (show (C : Int) ≤ 96000 - (n : Int) by omega)] at hm
    have hrng := lows_rng (v : Int) n (by omega) (by omega)
    obtain ⟨e1, e2⟩ := put_all (lows (v : Int) n) xs C h hrng
    have h1 : spec_l01Put.f (strOfNums xs) (C : Int) (v : Int) ((List.range n).map fun j : Nat => (j : Int)) = some (strOfNums (MWriter.putAll (lows (v : Int) n) xs C), ((C + n : Nat) : Int)) := by
      unfold spec_l01Put.f l01PutF
      rw [if_pos ⟨by omega, by omega, by omega, by omega, by omega, by simp; omega, fun i hi => by
        have hi' : i < n := by simpa using hi
        rw [places_rd _ _ hi']
        omega⟩, lows_bits, bytes_back xs h.rng, Int.toNat_natCast, e1]
      simp
    have hlp := putbits_loop (strOfNums xs) (C : Int) (v : Int) n hn _ h1 n 0 (by omega)
    refine ev_use hm (fun k hk => ?_) hlp
    unfold spec_PutBits.f
    rw [hk]
    rfl
  · rw [if_neg hc]
    rw [decide_eq_false (show ¬ (C : Int) ≤ 96000 - (n : Int) by omega)] at hm
    refine ev_end hm (fun k hk => ?_)
    unfold spec_PutBits.f
    rw [hk]
    rfl
theorem ev_bind {α β : Type} {A : Nat → Option α} {B : Nat → α → Option β} {a : α} {r : β} (e : Ev A a) (c : Ev (fun k => B k a) r) : Ev (fun k => (A k).bind (B k)) r := ev_use e (fun k hk => by rw [hk]; rfl) c
/-- A state of bits under way: the bytes, the count, whether they became too many. -/
def nextSt (xs : List Int) (C : Nat) (v : Int) (n : Nat) : ByteArray × Int × Bool := if C + n ≤ 96000 then (strOfNums (MWriter.putAll (lows v n) xs C), ((C + n : Nat) : Int), false) else (strOfNums xs, (C : Int), true)
theorem l09put_at (xs : List Int) (C : Nat) (v n : Nat) (h : Inv xs C) (hC : C ≤ 96000) (hn : n ≤ 24) (hv : v < 2 ^ n) :
    Ev (fun k => MHead.l09PutF (fun s c v n => spec_PutBits.f k s c v n) (strOfNums xs, (C : Int), false) (v : Int) (n : Int)) (nextSt xs C (v : Int) n) := by
  refine ev_end (putbits_at xs C v n h hC hn hv) (fun k hk => ?_)
  unfold MHead.l09PutF nextSt
  rw [if_neg (show ¬ (false = true) by decide)]
  show (spec_PutBits.f k (strOfNums xs) (C : Int) (v : Int) (n : Int)).bind _ = _
  rw [hk, Option.bind_some]
  by_cases hc : C + n ≤ 96000
  · rw [if_pos hc, if_pos hc]
    rfl
  · rw [if_neg hc, if_neg hc]
    rfl
theorem l09put_bad (s : ByteArray) (c v n : Int) : Ev (fun k => MHead.l09PutF (fun s c v n => spec_PutBits.f k s c v n) (s, c, true) v n) (s, c, true) := Ev.congr (fun k => rfl) (Ev.now _)
theorem put_inv (xs : List Int) (C : Nat) (v n : Nat) (h : Inv xs C) (hn : n ≤ 24) (hv : v < 2 ^ n) : Inv (MWriter.putAll (lows (v : Int) n) xs C) (C + n) := by
  have hp : 2 ^ n ≤ 2 ^ 24 := Nat.pow_le_pow_right (by omega) hn
  have := (put_all (lows (v : Int) n) xs C h (lows_rng (v : Int) n (by omega) (by omega))).2
  rw [lows_len] at this
  exact this

open Go.Proofs.Ytfmdenifbbhmdaa.MHead Go.Proofs.Ytfmdenifbbhmdaa.MStored in
theorem flag_nat (b : Bool) : ∃ f : Nat, flagI b = (f : Int) ∧ f < 2 ^ 1 ∧ (if b = true then (1 : Int) else 0) = (f : Int) := by
  cases b
  · exact ⟨0, rfl, by decide, rfl⟩
  · exact ⟨1, rfl, by decide, rfl⟩
theorem putBit_new (xs : List Int) (n : Int) : MWriter.putBit xs (8 * xs.length) n = xs ++ [orBit 0 n 0] := by
  unfold MWriter.putBit
  rw [if_pos (by omega)]
theorem putBit_on (xs : List Int) (y n : Int) (r c : Nat) (hr : 0 < r) (hr1 : r < 8) (hc : c = 8 * xs.length + r) : MWriter.putBit (xs ++ [y]) c n = xs ++ [orBit y n r] := by
  subst hc
  unfold MWriter.putBit
  rw [if_neg (by omega), show (8 * xs.length + r) / 8 = xs.length by omega, show (8 * xs.length + r) % 8 = r by omega, rd_last, List.set_append_right _ _ (Nat.le_refl _)]
  simp
theorem lows8 (v : Int) : lows v 8 = [v / 2 ^ 0, v / 2 ^ 1, v / 2 ^ 2, v / 2 ^ 3, v / 2 ^ 4, v / 2 ^ 5, v / 2 ^ 6, v / 2 ^ 7] := rfl
theorem put_byte (xs : List Int) (v : Int) (h0 : 0 ≤ v) (h1 : v ≤ 255) : MWriter.putAll (lows v 8) xs (8 * xs.length) = xs ++ [v] := by
  have e0 := orBit_is 0 (v / 2 ^ 0) 0 (by omega) (by omega) (by decide) (by omega) (by omega)
  simp only [Int.pow_zero, Int.mul_one, Int.ediv_one] at e0
  have p1 : (2 : Int) ^ 1 = 2 := by decide
  have p2 : (2 : Int) ^ 2 = 4 := by decide
  have p3 : (2 : Int) ^ 3 = 8 := by decide
  have p4 : (2 : Int) ^ 4 = 16 := by decide
  have p5 : (2 : Int) ^ 5 = 32 := by decide
  have p6 : (2 : Int) ^ 6 = 64 := by decide
  have p7 : (2 : Int) ^ 7 = 128 := by decide
  rw [lows8, Int.pow_zero, p1, p2, p3, p4, p5, p6, p7, Int.ediv_one]
  have s0 : orBit 0 v 0 = v % 2 := by rw [e0.1]; omega
  have s1 := (orBit_is (v % 2) (v / 2) 1 (by omega) (by omega) (by rw [p1]; omega) (by omega) (by omega)).1
  have s2 := (orBit_is (v % 4) (v / 4) 2 (by omega) (by omega) (by rw [p2]; omega) (by omega) (by omega)).1
  have s3 := (orBit_is (v % 8) (v / 8) 3 (by omega) (by omega) (by rw [p3]; omega) (by omega) (by omega)).1
  have s4 := (orBit_is (v % 16) (v / 16) 4 (by omega) (by omega) (by rw [p4]; omega) (by omega) (by omega)).1
  have s5 := (orBit_is (v % 32) (v / 32) 5 (by omega) (by omega) (by rw [p5]; omega) (by omega) (by omega)).1
  have s6 := (orBit_is (v % 64) (v / 64) 6 (by omega) (by omega) (by rw [p6]; omega) (by omega) (by omega)).1
  have s7 := (orBit_is (v % 128) (v / 128) 7 (by omega) (by omega) (by rw [p7]; omega) (by omega) (by omega)).1
  rw [p1, show v % 2 + v / 2 % 2 * 2 = v % 4 by omega] at s1
  rw [p2, show v % 4 + v / 4 % 2 * 4 = v % 8 by omega] at s2
  rw [p3, show v % 8 + v / 8 % 2 * 8 = v % 16 by omega] at s3
  rw [p4, show v % 16 + v / 16 % 2 * 16 = v % 32 by omega] at s4
  rw [p5, show v % 32 + v / 32 % 2 * 32 = v % 64 by omega] at s5
  rw [p6, show v % 64 + v / 64 % 2 * 64 = v % 128 by omega] at s6
  rw [p7, show v % 128 + v / 128 % 2 * 128 = v by omega] at s7
  simp only [MWriter.putAll]
  rw [putBit_new, s0, putBit_on xs _ _ 1 _ (by omega) (by omega) (by omega), s1, putBit_on xs _ _ 2 _ (by omega) (by omega) (by omega), s2, putBit_on xs _ _ 3 _ (by omega) (by omega) (by omega), s3, putBit_on xs _ _ 4 _ (by omega) (by omega) (by omega), s4,
    putBit_on xs _ _ 5 _ (by omega) (by omega) (by omega), s5, putBit_on xs _ _ 6 _ (by omega) (by omega) (by omega), s6, putBit_on xs _ _ 7 _ (by omega) (by omega) (by omega), s7]
theorem pbytes_is : ∀ (vs xs : List Int), (∀ v ∈ vs, 0 ≤ v ∧ v ≤ 255) → MStored.pbytes vs xs (8 * xs.length) = xs ++ vs
  | [], xs, _ => by rw [MStored.pbytes, List.append_nil]
  | v :: vs, xs, h => by
    obtain ⟨h0, h1⟩ := h v (List.mem_cons_self ..)
    have := pbytes_is vs (xs ++ [v]) (fun u hu => h u (List.mem_cons_of_mem _ hu))
    rw [List.length_append, List.length_singleton, show 8 * (xs.length + 1) = 8 * xs.length + 8 by omega] at this
    rw [MStored.pbytes, put_byte xs v h0 h1, this, List.append_assoc]
    rfl
theorem nums_app (xs : List Int) (t : ByteArray) : strOfNums (xs ++ bytesOf t) = strOfNums xs ++ t := by
  have h := str_back t
  have e : strOfNums (xs ++ bytesOf t) = strOfNums xs ++ strOfNums (bytesOf t) := by
    unfold strOfNums
    rw [List.map_append]
    apply ByteArray.ext
    simp
  rw [e, h]
theorem inv_full (xs : List Int) (h : ∀ x ∈ xs, 0 ≤ x ∧ x ≤ 255) : Inv xs (8 * xs.length) := ⟨by omega, h, fun hm => absurd (by omega) hm⟩
abbrev St := ByteArray × Int × Bool
def gPB (k : Nat) : ByteArray → Int → Int → Int → Option St := fun s c v n => spec_PutBits.f k s c v n
def failSt : St := (⟨#[]⟩, 0, false)
def g4 (t : ByteArray) (q4 : St) : Option St := if q4.2.2 = true then some (⟨#[]⟩, 0, false) else if q4.1.size > 1000000 then none else if (q4.1.size : Int) + (t.size : Int) > 12000 then some (⟨#[]⟩, 0, false) else if 0 ≤ q4.2.1 ∧ q4.2.1 ≤ 1000000 then some (q4.1 ++ t, q4.2.1 + 8 * (t.size : Int), true) else none
def g3 (t : ByteArray) (k : Nat) (q3 : St) : Option St := (MHead.l09PutF (gPB k) q3 (65535 - (t.size : Int)) 16).bind (g4 t)
def g2 (t : ByteArray) (k : Nat) (q2 : St) : Option St := (MHead.l09PutF (gPB k) q2 (t.size : Int) 16).bind (g3 t k)
def g1 (t : ByteArray) (k : Nat) (q1 : St) : Option St := (if q1.2.2 = true then some q1 else (spec_FillByte.f k q1.1 q1.2.1).bind fun x_ => some (x_.1, x_.2.1, false)).bind (g2 t k)
def g0 (s : ByteArray) (c : Int) (t : ByteArray) (last : Bool) (k : Nat) (b : Bool) : Option St := (MHead.l09HeadF (gPB k) s c 0 last b).bind (g1 t k)
theorem stored_f (s : ByteArray) (c : Int) (t : ByteArray) (last : Bool) (ht : ¬ (t.size : Int) > 2600) (k : Nat) : spec_StoredBlock.f k s c t last = (spec_OutOk.f k s c).bind (g0 s c t last k) := by
  unfold spec_StoredBlock.f
  rw [if_neg ht]
  rfl
theorem g3_bad (t s : ByteArray) (c : Int) : Ev (fun k => g3 t k (s, c, true)) failSt := ev_bind (l09put_bad s c _ _) (Ev.congr (fun k => rfl) (Ev.now _))
theorem g2_bad (t s : ByteArray) (c : Int) : Ev (fun k => g2 t k (s, c, true)) failSt := ev_bind (l09put_bad s c _ _) (g3_bad t s c)
theorem g1_bad (t s : ByteArray) (c : Int) : Ev (fun k => g1 t k (s, c, true)) failSt := ev_bind (Ev.congr (fun k => rfl) (Ev.now (s, c, true))) (g2_bad t s c)
theorem next_ok (xs : List Int) (C : Nat) (v : Int) (n : Nat) (h : C + n ≤ 96000) : nextSt xs C v n = (strOfNums (MWriter.putAll (lows v n) xs C), ((C + n : Nat) : Int), false) := if_pos h
theorem next_bad (xs : List Int) (C : Nat) (v : Int) (n : Nat) (h : ¬ C + n ≤ 96000) : nextSt xs C v n = (strOfNums xs, (C : Int), true) := if_neg h
theorem stored_both (s : ByteArray) (c : Int) (t : ByteArray) (last : Bool) (c0 : -9223372036854775808 ≤ c) (c1 : c ≤ 9223372036854775807) (hs : s.size ≤ 1048576) (hts : t.size ≤ 1048576) :
    ∃ r, Ev (fun k => spec_StoredBlock.f k s c t last) r ∧ impl_StoredBlock.f s c t last = some r := by
  have hi : impl_StoredBlock.f s c t last = MStored.storedF s c t last (okB s c) := by
    unfold impl_StoredBlock.f
    rw [ok_impl s c c0 c1 hs]
    rfl
  by_cases ht : (t.size : Int) > 2600
  · refine ⟨failSt, Ev.congr (fun k => by unfold spec_StoredBlock.f; rw [if_pos ht]; rfl) (Ev.now failSt), ?_⟩
    rw [hi]
    unfold MStored.storedF
    split
    · rw [if_neg (by omega)]
      rfl
    · rfl
  have hok := ok_spec s c c0 c1 hs
  cases hB : okB s c with
  | false =>
    rw [hB] at hok
    refine ⟨failSt, Ev.congr (fun k => stored_f s c t last ht k) (ev_bind hok ?_), by rw [hi, hB]; rfl⟩
    refine ev_bind (a := (s, c, true)) ?_ (g1_bad t s c)
    exact Ev.congr (fun k => rfl) (Ev.now (s, c, true))
  | true =>
    rw [hB] at hok hi
    obtain ⟨C, rfl, hC, hs2, hs3, hI⟩ := ok_inv s c hB
    obtain ⟨f, hf, hf1, hf2⟩ := flag_nat last
    have hT : t.size ≤ 2600 := by omega
    have eS : strOfNums (bytesOf s) = s := str_back s
    -- the bytes, one step after the other
    have I1 := put_inv (bytesOf s) C f 1 hI (by omega) hf1
    have E1 := l09put_at (bytesOf s) C f 1 hI hC (by omega) hf1
    rw [eS] at E1
    have I2 := put_inv _ (C + 1) 0 2 I1 (by omega) (by decide)
    have E2 := fun h => l09put_at _ (C + 1) 0 2 I1 h (by omega) (by decide)
    generalize hx1 : MWriter.putAll (lows (f : Int) 1) (bytesOf s) C = x1 at I1 I2 E2
    generalize hx2 : MWriter.putAll (lows ((0 : Nat) : Int) 2) x1 (C + 1) = x2 at I2
    have l2 := I2.len
    have I2f := inv_full x2 I2.rng
    have I3 := put_inv x2 (8 * x2.length) t.size 16 I2f (by omega) (by omega)
    have E3 := fun h => l09put_at x2 (8 * x2.length) t.size 16 I2f h (by omega) (by omega)
    generalize hx3 : MWriter.putAll (lows (t.size : Int) 16) x2 (8 * x2.length) = x3 at I3
    have e65 : (65535 - (t.size : Int)) = ((65535 - t.size : Nat) : Int) := by omega
    have I4 := put_inv x3 (8 * x2.length + 16) (65535 - t.size) 16 I3 (by omega) (by omega)
    have E4 := fun h => l09put_at x3 (8 * x2.length + 16) (65535 - t.size) 16 I3 h (by omega) (by omega)
    generalize hx4 : MWriter.putAll (lows ((65535 - t.size : Nat) : Int) 16) x3 (8 * x2.length + 16) = x4 at I4
    have l4 := I4.len
    have l4' : x4.length = x2.length + 4 := by omega
    have hp := pbytes_is (bytesOf t) x4 (bytesOf_rng t)
    rw [show 8 * x4.length = 8 * x2.length + 32 by omega] at hp
    have hsx : MStored.storedXs s C t last = (x4 ++ bytesOf t, 8 * x2.length + 32 + 8 * t.size) := by
      unfold MStored.storedXs MStored.headXs
      rw [hf, hx1, show (0 : Int) = ((0 : Nat) : Int) from rfl, hx2, e65]
      dsimp only
      rw [hx3, hx4, hp]
    have hr : impl_StoredBlock.f s (C : Int) t last = some (outF (x4 ++ bytesOf t) ((8 * x2.length + 32 + 8 * t.size : Nat) : Int)) := by
      rw [hi]
      unfold MStored.storedF
      rw [if_pos rfl, if_pos hT, if_pos ⟨by omega, by omega, by omega⟩, Int.toNat_natCast, hsx]
    have hL : (x4 ++ bytesOf t).length = x2.length + 4 + t.size := by rw [List.length_append, l4', bytesOf_length]
    have hfail : ¬ x2.length + 4 + t.size ≤ 12000 → outF (x4 ++ bytesOf t) ((8 * x2.length + 32 + 8 * t.size : Nat) : Int) = failSt := by
      intro h
      unfold outF failSt
      rw [hL, if_neg h]
    refine ⟨_, Ev.congr (fun k => stored_f s C t last ht k) (ev_bind hok ?_), hr⟩
    -- the head
    have hHead : ∀ q, (Ev (fun k => (MHead.l09PutF (gPB k) (s, (C : Int), false) (f : Int) 1).bind fun st => MHead.l09PutF (gPB k) st 0 2) q) → Ev (fun k => MHead.l09HeadF (gPB k) s (C : Int) 0 last true) q := by
      intro q h
      refine Ev.congr (fun k => ?_) h
      unfold MHead.l09HeadF
      rw [hf2]
      rfl
    by_cases a1 : C + 1 ≤ 96000
    · rw [next_ok _ _ _ _ a1, hx1] at E1
      by_cases a2 : C + 1 + 2 ≤ 96000
      · have E2 := E2 (by omega)
        rw [next_ok _ _ _ _ a2, hx2] at E2
        refine ev_bind (hHead _ (ev_bind E1 E2)) ?_
        have hfill : Ev (fun k => spec_FillByte.f k (strOfNums x2) ((C + 1 + 2 : Nat) : Int)) (strOfNums x2, ((8 * x2.length : Nat) : Int), true) := by
          refine ev_end (ok_spec (strOfNums x2) ((C + 1 + 2 : Nat) : Int) (by omega) (by omega) (by rw [nums_size]; omega)) (fun k hk => ?_)
          rw [inv_ok x2 _ I2 (by omega)] at hk
          unfold spec_FillByte.f
          rw [hk, Option.bind_some, if_pos rfl, nums_size, w64_id (by omega) (by omega)]
          rfl
        have hq2 : Ev (fun k => (if (strOfNums x2, ((C + 1 + 2 : Nat) : Int), false).2.2 = true then some (strOfNums x2, ((C + 1 + 2 : Nat) : Int), false) else (spec_FillByte.f k (strOfNums x2, ((C + 1 + 2 : Nat) : Int), false).1 (strOfNums x2, ((C + 1 + 2 : Nat) : Int), false).2.1).bind fun x_ => some (x_.1, x_.2.1, false))) (strOfNums x2, ((8 * x2.length : Nat) : Int), false) := by
          refine ev_end hfill (fun k hk => ?_)
          rw [if_neg (show ¬ (false = true) by decide)]
          show (spec_FillByte.f k (strOfNums x2) ((C + 1 + 2 : Nat) : Int)).bind _ = _
          rw [hk]
          rfl
        refine ev_bind hq2 ?_
        have E3 := E3 (by omega)
        by_cases a3 : 8 * x2.length + 16 ≤ 96000
        · rw [next_ok _ _ _ _ a3, hx3] at E3
          refine ev_bind E3 ?_
          have E4 := E4 (by omega)
          rw [← e65] at E4
          by_cases a4 : 8 * x2.length + 16 + 16 ≤ 96000
          · rw [next_ok _ _ _ _ a4] at E4
            rw [← e65] at hx4
            rw [hx4] at E4
            refine ev_bind E4 (Ev.congr (fun k => ?_) (Ev.now _))
            unfold g4
            rw [if_neg (show ¬ (false = true) by decide)]
            dsimp only
            rw [nums_size, if_neg (by omega)]
            by_cases a5 : x2.length + 4 + t.size ≤ 12000
            · rw [if_neg (by omega), if_pos ⟨by omega, by omega⟩]
              unfold outF
              rw [hL, if_pos a5, nums_app]
              have e : ((8 * x2.length + 16 + 16 : Nat) : Int) + 8 * (t.size : Int) = ((8 * x2.length + 32 + 8 * t.size : Nat) : Int) := by omega
              rw [e]
            · rw [if_pos (by omega), hfail a5]
              rfl
          · rw [next_bad _ _ _ _ a4] at E4
            rw [hfail (by omega)]
            exact ev_bind E4 (Ev.congr (fun k => rfl) (Ev.now _))
        · rw [next_bad _ _ _ _ a3] at E3
          rw [hfail (by omega)]
          exact ev_bind E3 (g3_bad t _ _)
      · have E2 := E2 (by omega)
        rw [next_bad _ _ _ _ a2] at E2
        rw [hfail (by omega)]
        exact ev_bind (hHead _ (ev_bind E1 E2)) (g1_bad t _ _)
    · rw [next_bad _ _ _ _ a1, eS] at E1
      rw [hfail (by omega)]
      exact ev_bind (hHead _ (ev_bind E1 (l09put_bad s C _ _))) (g1_bad t _ _)
theorem FnExactStoredBlock : laws_FnExactStoredBlock.Pure := by
  intro s c t last hs hc ht
  have hs' : s.size ≤ 9223372036854775807 := by unfold maxLen at hs; omega
  obtain ⟨c0, c1⟩ := wf64 hc
  have hw : wrap64 (1048576 - (s.size : Int)) = 1048576 - s.size := w64_id (by omega) (by omega)
  by_cases hb0 : (t.size : Int) > 1048576
  · exact ⟨0, by unfold laws_FnExactStoredBlock.f; rw [if_pos hb0]⟩
  by_cases hb : 1048576 - (s.size : Int) < 0
  · refine ⟨0, ?_⟩
    unfold laws_FnExactStoredBlock.f laws_szOut.f
    rw [if_neg hb0, hw, if_pos hb]
    simp
  · obtain ⟨r, h1, h2⟩ := stored_both s c t last c0 c1 (by omega) (by omega)
    obtain ⟨k, hk⟩ := h1.rounds
    refine ⟨k, ?_⟩
    unfold laws_FnExactStoredBlock.f laws_szOut.f laws_toOut.f
    rw [if_neg hb0, hw, if_neg hb]
    simp only [Option.bind_some]
    rw [if_neg hb, hk, h2]
    simp only [Option.bind_some]
    unfold laws_eqOut.f
    simp

end Go.Proofs.Ytfmdenifbbhmdaa.Pure
