/- The law FnExactPutCode: for every input within the row's bounds the printed function answers true: what the program's function tells is what the law asks. Conditions: only the bounds that the row itself gives (sizes of strings and slices, ranges of the number kinds). -/
import Derived.Test.YtfmdenifbbhmdaaPFnExactPutCodex2
namespace Go.Proofs.Ytfmdenifbbhmdaa.Pure
open Go.RowKit Go.Proofs.Ytfmdenifbbhmdaa.PFnExactPutCode Go.Proofs.YtfmdenifbbhmdaaW.PrintWords Go.Proofs.YtfmdenifbbhmdaaW.PrintLast Go.Proofs.YtfmdenifbbhmdaaW.PrintMore
set_option linter.unusedVariables false
set_option linter.unusedSimpArgs false

theorem w64_id {x : Int} (h0 : -9223372036854775808 ≤ x) (h1 : x ≤ 9223372036854775807) : wrap64 x = x := by unfold wrap64; omega
theorem tmod_nn {a : Int} (b : Int) (h : 0 ≤ a) : Int.tmod a b = a % b := Int.tmod_eq_emod_of_nonneg h
theorem tdiv_nn {a : Int} (b : Int) (h : 0 ≤ a) : Int.tdiv a b = a / b := Int.tdiv_eq_ediv_of_nonneg h
theorem wf64 {n : Int} (h : (Lit.int .i64 n).wf = true) : -9223372036854775808 ≤ n ∧ n ≤ 9223372036854775807 := by
  simp [Lit.wf, IntKind.min, IntKind.max, IntKind.signed, IntKind.bits] at h
  omega
theorem wfu32 {n : Int} (h : (Lit.int .u32 n).wf = true) : 0 ≤ n ∧ n ≤ 4294967295 := by
  simp [Lit.wf, IntKind.min, IntKind.max, IntKind.signed, IntKind.bits] at h
  omega
theorem wraps64 (n : Int) (h0 : 0 ≤ n) (h1 : n < 2 ^ 63) : IntKind.i64.wrap n = n := by rw [IntKind.wrap_i64]; omega
theorem wrapsu32 (n : Int) (h0 : 0 ≤ n) (h1 : n < 2 ^ 32) : IntKind.u32.wrap n = n := by rw [IntKind.wrap_u32]; omega
/-- a | b of parts that do not meet, of an int. -/
theorem or64 (i : Nat) (x y : Int) (hx0 : 0 ≤ x) (hx : x % 2 ^ i = 0) (hx1 : x < 2 ^ 63) (hy0 : 0 ≤ y) (hy : y < 2 ^ i) (hy1 : y < 2 ^ 63) : Go.bits .or .i64 x y = x + y :=
  bits_join .i64 63 (by decide) wraps64 i x y hx0 hx hx1 hy0 hy hy1
theorem ev_ite_pos {α : Type} {c : Prop} [Decidable c] {f g : Nat → Option α} {r : α} (h : c) (k : Ev f r) : Ev (fun n => if c then f n else g n) r := Ev.congr (fun n => if_pos h) k
theorem ev_ite_neg {α : Type} {c : Prop} [Decidable c] {f g : Nat → Option α} {r : α} (h : ¬ c) (k : Ev g r) : Ev (fun n => if c then f n else g n) r := Ev.congr (fun n => if_neg h) k
/-- A callee without rounds that answers. -/
theorem ev_bind0 {α β : Type} {o : Option α} {f : Nat → α → Option β} {a : α} {r : β} (h : o = some a) (k : Ev (fun n => f n a) r) : Ev (fun n => o.bind (f n)) r := Ev.congr (fun n => by rw [h]; rfl) k
theorem bt_lo (s : ByteArray) (i : Int) : 0 ≤ bt s i := (bt_range s i).1
theorem bt_hi (s : ByteArray) (i : Int) : bt s i ≤ 255 := (bt_range s i).2
/-- A callee that answers from some number of rounds on, used. -/
theorem ev_use {α β : Type} {g : Nat → Option α} {a : α} {F G : Nat → Option β} {r : β} (e : Ev g a) (h : ∀ k, g k = some a → F k = G k) (c : Ev G r) : Ev F r := by
  obtain ⟨K, e⟩ := e
  obtain ⟨K', c⟩ := c
  exact ⟨max K K', fun n hn => (h n (e n (by omega))).trans (c n (by omega))⟩
theorem ev_use_step {α β : Type} {g : Nat → Option α} {a : α} {F G : Nat → Option β} {r : β} (e : Ev g a) (h : ∀ k, g k = some a → F (k + 1) = G k) (c : Ev G r) : Ev F r := by
  obtain ⟨K, e⟩ := e
  obtain ⟨K', c⟩ := c
  refine ⟨max K K' + 1, fun n hn => ?_⟩
  obtain ⟨m, rfl⟩ : ∃ m, n = m + 1 := ⟨n - 1, by omega⟩
  exact (h m (e m (by omega))).trans (c m (by omega))
theorem ev_end {α β : Type} {g : Nat → Option α} {a : α} {F : Nat → Option β} {r : β} (e : Ev g a) (h : ∀ k, g k = some a → F k = some r) : Ev F r := by
  obtain ⟨K, e⟩ := e
  exact ⟨K, fun n hn => h n (e n hn)⟩
theorem ev_two {α β : Type} {g : Nat → Option α} {h : Nat → Option β} {a : α} {b : β} (e : Ev g a) (f : Ev h b) : ∃ k, g k = some a ∧ h k = some b := by
  obtain ⟨K, e⟩ := e
  obtain ⟨K', f⟩ := f
  exact ⟨max K K', e _ (by omega), f _ (by omega)⟩
theorem ev_ret {α : Type} {F : Nat → Option α} {r : α} (h : ∀ k, F (k + 1) = some r) : Ev F r := ⟨1, fun n hn => by obtain ⟨m, rfl⟩ : ∃ m, n = m + 1 := ⟨n - 1, by omega⟩; exact h m⟩

theorem in_spec (a b c : Int) : spec_l01In.f a b c = some (decide (b ≤ a ∧ a ≤ c)) := by
  unfold spec_l01In.f
  split
  · rename_i h
    have e : (decide (a ≤ c)) = decide (b ≤ a ∧ a ≤ c) := decide_eq_decide.mpr ⟨fun h' => ⟨h, h'⟩, fun h' => h'.2⟩
    rw [e]
  · rename_i h
    have e : (decide (b ≤ a ∧ a ≤ c)) = false := decide_eq_false fun h' => h h'.1
    rw [e]

theorem in_impl (a b c : Int) : impl_within.f a b c = some (decide (b ≤ a ∧ a ≤ c)) := by
  unfold impl_within.f
  split
  · rename_i h
    have e : (decide (a ≤ c)) = decide (b ≤ a ∧ a ≤ c) := decide_eq_decide.mpr ⟨fun h' => ⟨h, h'⟩, fun h' => h'.2⟩
    rw [e]
  · rename_i h
    have e : (decide (b ≤ a ∧ a ≤ c)) = false := decide_eq_false fun h' => h h'.1
    rw [e]

/-- 2^n, as the loop doubles it. -/
theorem pow_loop (n : Int) (d : Nat) : ∀ (x i : Int), 0 ≤ i → i + d = n → 0 ≤ x → x * 2 ^ d ≤ 4611686018427387904 → n ≤ 62 →
    Ev (fun k => spec_l01Pow.l0 k n x i) (x * 2 ^ d) := by
  induction d with
  | zero =>
    intro x i h0 h hx hb hn
    refine ev_ret (fun k => ?_)
    rw [spec_l01Pow.l0, if_neg (by omega)]
    simp
  | succ d ih =>
    intro x i h0 h hx hb hn
    have e : x * 2 ^ (d + 1) = 2 * x * 2 ^ d := by rw [Int.pow_succ, ← Int.mul_assoc, Int.mul_comm (x * 2 ^ d) 2, ← Int.mul_assoc]
    have hp : (1 : Int) ≤ 2 ^ d := by have : (0 : Int) < 2 ^ d := Int.pow_pos (by omega); omega
    have h2 : 2 * x ≤ 2 * x * 2 ^ d := by
      have := Int.mul_le_mul_of_nonneg_left hp (show 0 ≤ 2 * x by omega)
      omega
    have h3 := ih (2 * x) (i + 1) (by omega) (by omega) (by omega) (by omega) hn
    rw [e]
    refine Ev.step (fun k => ?_) h3
    rw [spec_l01Pow.l0, if_pos (by omega), w64_id (x := 2 * x) (by omega) (by omega), w64_id (x := i + 1) (by omega) (by omega)]
theorem pow_is (n : Nat) (hn : n ≤ 62) : Ev (fun k => spec_l01Pow.f k (n : Int)) (2 ^ n) := by
  have hb : (2 : Int) ^ n ≤ 2 ^ 62 := by exact_mod_cast Nat.pow_le_pow_right (n := 2) (by omega) hn
  have h := pow_loop n n 1 0 (by omega) (by omega) (by omega) (by rw [Int.one_mul]; exact hb) (by omega)
  rw [Int.one_mul] at h
  exact h
theorem pow_at (n : Int) (h0 : 0 ≤ n) (hn : n ≤ 62) : Ev (fun k => spec_l01Pow.f k n) (2 ^ n.toNat) := by
  have h := pow_is n.toNat (by omega)
  rw [Int.toNat_of_nonneg h0] at h
  exact h

/-- Is an Out right. -/
def okB (s : ByteArray) (n : Int) : Bool :=
  if s.size ≤ 12000 ∧ 0 ≤ n ∧ n ≤ 8 * (s.size : Int) ∧ (n + 7) / 8 = s.size then (if n % 8 = 0 then true else decide (bt s ((s.size : Int) - 1) < 2 ^ (n % 8).toNat)) else false
theorem ok_spec (s : ByteArray) (n : Int) (n0 : -9223372036854775808 ≤ n) (n1 : n ≤ 9223372036854775807) (hs : s.size ≤ 1048576) : Ev (fun k => spec_OutOk.f k s n) (okB s n) := by
  unfold okB
  by_cases h : s.size ≤ 12000 ∧ 0 ≤ n ∧ n ≤ 8 * (s.size : Int) ∧ (n + 7) / 8 = s.size
  · obtain ⟨h1, h2, h3, h4⟩ := h
    rw [if_pos ⟨h1, h2, h3, h4⟩]
    have w1 : wrap64 (8 * (s.size : Int)) = 8 * s.size := w64_id (by omega) (by omega)
    have w2 : wrap64 (n + 7) = n + 7 := w64_id (by omega) (by omega)
    have w3 : wrap64 ((n + 7) / 8) = (n + 7) / 8 := w64_id (by omega) (by omega)
    have w4 : wrap64 ((s.size : Int) - 1) = s.size - 1 := w64_id (by omega) (by omega)
    have t : Int.tmod n 8 = n % 8 := tmod_nn 8 h2
    by_cases h5 : n % 8 = 0
    · rw [if_pos h5]
      refine Ev.congr (fun k => ?_) (Ev.now true)
      unfold spec_OutOk.f
      rw [if_neg (by omega), if_neg (by omega), w1, if_neg (by omega), w2, tdiv_nn _ (by omega), w3, if_pos h4, t, if_pos h5]
    · rw [if_neg h5]
      have b0 := bt_lo s ((s.size : Int) - 1)
      have b1 := bt_hi s ((s.size : Int) - 1)
      refine ev_end (pow_at (n % 8) (by omega) (by omega)) (fun k hk => ?_)
      unfold spec_OutOk.f
      rw [if_neg (by omega), if_neg (by omega), w1, if_neg (by omega), w2, tdiv_nn _ (by omega), w3, if_pos h4, t, if_neg h5, w4, if_pos (by omega), if_pos (by omega), hk, w64_id (x := bt s ((s.size : Int) - 1)) (by omega) (by omega)]
      rfl
  · rw [if_neg h]
    refine Ev.congr (fun k => ?_) (Ev.now false)
    unfold spec_OutOk.f
    split
    · rfl
    · split
      · rfl
      · rw [w64_id (x := 8 * (s.size : Int)) (by omega) (by omega)]
        split
        · rfl
        · rw [w64_id (x := n + 7) (by omega) (by omega), tdiv_nn _ (by omega), w64_id (x := (n + 7) / 8) (by omega) (by omega), if_neg (by omega)]
theorem ok_impl (s : ByteArray) (n : Int) (n0 : -9223372036854775808 ≤ n) (n1 : n ≤ 9223372036854775807) (hs : s.size ≤ 1048576) : impl_OutOk.f s n = some (okB s n) := by
  unfold okB impl_OutOk.f impl_up.f
  rw [in_impl]
  simp only [Option.bind_some, decide_eq_true_eq]
  by_cases h : s.size ≤ 12000 ∧ 0 ≤ n ∧ n ≤ 8 * (s.size : Int) ∧ (n + 7) / 8 = s.size
  · obtain ⟨h1, h2, h3, h4⟩ := h
    have w2 : wrap64 (n + 7) = n + 7 := w64_id (by omega) (by omega)
    have w3 : wrap64 ((n + 7) / 8) = (n + 7) / 8 := w64_id (by omega) (by omega)
    have w4 : wrap64 ((s.size : Int) - 1) = s.size - 1 := w64_id (by omega) (by omega)
    rw [if_pos (show 0 ≤ n ∧ n ≤ 96000 from ⟨h2, by omega⟩), w2, tdiv_nn _ (by omega), w3, if_pos h4.symm, tmod_nn 8 h2, if_pos (show s.size ≤ 12000 ∧ 0 ≤ n ∧ n ≤ 8 * (s.size : Int) ∧ (n + 7) / 8 = s.size from ⟨h1, h2, h3, h4⟩)]
    by_cases h5 : n % 8 = 0
    · rw [if_pos h5, if_pos h5]
    · rw [if_neg h5, if_neg h5, w4, if_pos (by omega), if_pos (by omega), if_pos (by omega)]
      have b0 := bt_lo s ((s.size : Int) - 1)
      congr 1
      have e : shr .u8 (bt s ((s.size : Int) - 1)) (n % 8) = bt s ((s.size : Int) - 1) / 2 ^ (n % 8).toNat := shr_small rfl (by simp [IntKind.bits]; omega) |>.symm
      rw [e, Bool.eq_iff_iff]
      simp only [beq_iff_eq, decide_eq_true_eq]
      have hp : (0 : Int) < 2 ^ (n % 8).toNat := Int.pow_pos (by omega)
      constructor
      · intro hz
        have := Int.lt_mul_ediv_self_add (x := bt s ((s.size : Int) - 1)) hp
        rw [hz, Int.mul_zero, Int.zero_add] at this
        exact this
      · intro hz
        exact Int.ediv_eq_zero_of_lt b0 hz
  · rw [if_neg h]
    split
    · rw [w64_id (x := n + 7) (by omega) (by omega), tdiv_nn _ (by omega), w64_id (x := (n + 7) / 8) (by omega) (by omega), if_neg (by omega)]
    · rfl

open Go.Proofs.Ytfmdenifbbhmdaa.MWriter Go.Proofs.Ytfmdenifbbhmdaa.MPut Go.Proofs.Ytfmdenifbbhmdaa.MOut
theorem or8_swap (x y : Int) : Go.bits .or .u8 x y = Go.bits .or .u8 y x := by
  unfold Go.bits
  simp only []
  rw [BitVec.or_comm]
/-- A bit set behind those that are there: the sum. -/
theorem orBit_is (x n : Int) (r : Nat) (hr : r < 8) (x0 : 0 ≤ x) (x1 : x < 2 ^ r) (n0 : 0 ≤ n) (n1 : n < 2 ^ 63) : orBit x n r = x + n % 2 * 2 ^ r ∧ x + n % 2 * 2 ^ r < 2 ^ (r + 1) ∧ x + n % 2 * 2 ^ r ≤ 255 := by
  have e : Go.bits .and .i64 n 1 = n % 2 := bits_mask .i64 63 (by decide) wraps64 1 (by decide) n n0 n1
  have hb : n % 2 = 0 ∨ n % 2 = 1 := by omega
  unfold orBit
  rw [e]
  have hr' : r = 0 ∨ r = 1 ∨ r = 2 ∨ r = 3 ∨ r = 4 ∨ r = 5 ∨ r = 6 ∨ r = 7 := by omega
  have hp : (2 : Int) ^ r ≤ 128 ∧ (2 : Int) ^ (r + 1) = 2 * 2 ^ r ∧ 0 < (2 : Int) ^ r := by
    refine ⟨?_, by rw [Int.pow_succ]; omega, Int.pow_pos (by omega)⟩
    rcases hr' with h | h | h | h | h | h | h | h <;> subst h <;> decide
  obtain ⟨p1, p2, p3⟩ := hp
  have e2 : n % 2 % 256 * 2 ^ r % 256 = n % 2 * 2 ^ r := by
    rcases hb with h | h <;> rw [h]
    · simp
    · have : (1 : Int) % 256 = 1 := by decide
      rw [this]
      omega
  rw [e2]
  have e3 : Go.bits .or .u8 x (n % 2 * 2 ^ r) = x + n % 2 * 2 ^ r := by
    rw [or8_swap, bits_join .u8 8 (by decide) (fun n h0 h1 => by rw [IntKind.wrap_u8]; omega) r (n % 2 * 2 ^ r) x (by rcases hb with h | h <;> rw [h] <;> omega) (by simp) (by rcases hb with h | h <;> rw [h] <;> omega) x0 x1 (by omega)]
    omega
  refine ⟨e3, ?_, ?_⟩
  · rw [p2]
    rcases hb with h | h <;> rw [h] <;> omega
  · rcases hb with h | h <;> rw [h] <;> omega
/-- Bytes that hold c bits: all bits behind them are 0. -/
structure Inv (xs : List Int) (c : Nat) : Prop where
  len : xs.length = (c + 7) / 8
  rng : ∀ x ∈ xs, 0 ≤ x ∧ x ≤ 255
  low : c % 8 ≠ 0 → rd xs ((c / 8 : Nat) : Int) < 2 ^ (c % 8)
theorem rd_mem {xs : List Int} {i : Nat} (h : i < xs.length) : rd xs (i : Int) ∈ xs := by
  unfold rd
  rw [Int.toNat_natCast, List.getD_eq_getElem?_getD, List.getElem?_eq_getElem h]
  exact List.getElem_mem h
theorem rd_set {xs : List Int} {i : Nat} (h : i < xs.length) (a : Int) : rd (xs.set i a) (i : Int) = a := by
  unfold rd
  rw [Int.toNat_natCast, List.getD_eq_getElem?_getD, List.getElem?_set_self h]
  rfl
theorem rd_last (xs : List Int) (a : Int) : rd (xs ++ [a]) (xs.length : Int) = a := by
  unfold rd
  rw [Int.toNat_natCast, List.getD_eq_getElem?_getD]
  simp
theorem put_step (xs : List Int) (c : Nat) (n : Int) (hI : Inv xs c) (n0 : 0 ≤ n) (n1 : n < 2 ^ 63) : putAdd xs c (n % 2) = putBit xs c n ∧ Inv (putBit xs c n) (c + 1) := by
  by_cases hm : c % 8 = 0
  · obtain ⟨h1, h2, h3⟩ := orBit_is 0 n 0 (by omega) (by omega) (by decide) n0 n1
    have e : putBit xs c n = xs ++ [orBit 0 n 0] := by unfold putBit; rw [if_pos hm]
    have hl := hI.len
    refine ⟨?_, ?_⟩
    · rw [e]
      unfold putAdd
      rw [if_pos hm, addBit_eq, h1]
      congr 2
      omega
    · rw [e]
      refine ⟨by simp; omega, fun x hx => ?_, fun h => ?_⟩
      · rcases List.mem_append.1 hx with hx | hx
        · exact hI.rng x hx
        · rw [List.mem_singleton] at hx
          rw [hx, h1]
          omega
      · have e1 : (c + 1) / 8 = xs.length := by omega
        have e2 : (c + 1) % 8 = 1 := by omega
        rw [e1, e2, rd_last, h1]
        exact h2
  · have hl := hI.len
    have hj : c / 8 < xs.length := by omega
    have hx := hI.rng _ (rd_mem hj)
    obtain ⟨h1, h2, h3⟩ := orBit_is (rd xs ((c / 8 : Nat) : Int)) n (c % 8) (by omega) hx.1 (hI.low hm) n0 n1
    have e : putBit xs c n = xs.set (c / 8) (orBit (rd xs ((c / 8 : Nat) : Int)) n (c % 8)) := by unfold putBit; rw [if_neg hm]
    have p3 : (0 : Int) < 2 ^ (c % 8) := Int.pow_pos (by omega)
    have hb : n % 2 = 0 ∨ n % 2 = 1 := by omega
    have hpos : 0 ≤ rd xs ((c / 8 : Nat) : Int) + n % 2 * 2 ^ (c % 8) := by rcases hb with h | h <;> rw [h] <;> omega
    refine ⟨?_, ?_⟩
    · rw [e]
      unfold putAdd
      rw [if_neg hm, addBit_eq, h1]
      congr 1
      omega
    · rw [e]
      refine ⟨by rw [List.length_set]; omega, fun x hx => ?_, fun h => ?_⟩
      · rcases List.mem_or_eq_of_mem_set hx with hx | hx
        · exact hI.rng x hx
        · rw [hx, h1]
          exact ⟨hpos, h3⟩
      · have e1 : (c + 1) / 8 = c / 8 := by omega
        have e2 : (c + 1) % 8 = c % 8 + 1 := by omega
        rw [e1, e2, rd_set hj, h1]
        exact h2
theorem put_all : ∀ (ns xs : List Int) (c : Nat), Inv xs c → (∀ n ∈ ns, 0 ≤ n ∧ n < 2 ^ 63) → addAll (ns.map (· % 2)) xs c = MWriter.putAll ns xs c ∧ Inv (MWriter.putAll ns xs c) (c + ns.length)
  | [], xs, c, h, _ => ⟨rfl, h⟩
  | n :: ns, xs, c, h, hn => by
    obtain ⟨n0, n1⟩ := hn n (List.mem_cons_self ..)
    obtain ⟨h1, h2⟩ := put_step xs c n h n0 n1
    obtain ⟨h3, h4⟩ := put_all ns _ _ h2 (fun m hm => hn m (List.mem_cons_of_mem _ hm))
    rw [List.map_cons, addAll, h1, h3, MWriter.putAll, List.length_cons]
    exact ⟨rfl, by rw [show c + (ns.length + 1) = c + 1 + ns.length by omega]; exact h4⟩
theorem bytesOf_rd (s : ByteArray) (i : Nat) (h : i < s.size) : rd (bytesOf s) (i : Int) = bt s (i : Int) := by
  unfold rd bt
  rw [dif_pos (show (i : Int).toNat < s.size by rw [Int.toNat_natCast]; exact h)]
  simp only [Int.toNat_natCast]
  unfold bytesOf
  rw [List.getD_eq_getElem?_getD, List.getElem?_map]
  have hh : i < s.data.toList.length := h
  rw [List.getElem?_eq_getElem hh]
  rfl
theorem bytesOf_rng (s : ByteArray) : ∀ x ∈ bytesOf s, 0 ≤ x ∧ x ≤ 255 := by
  intro x hx
  unfold bytesOf at hx
  obtain ⟨b, _, rfl⟩ := List.mem_map.1 hx
  have := b.toNat_lt
  omega
/-- A right Out's bytes. -/
theorem ok_inv (s : ByteArray) (c : Int) (h : okB s c = true) : ∃ C : Nat, c = C ∧ C ≤ 96000 ∧ s.size ≤ 12000 ∧ s.size = (C + 7) / 8 ∧ Inv (bytesOf s) C := by
  unfold okB at h
  split at h
  · rename_i hc
    obtain ⟨h1, h2, h3, h4⟩ := hc
    obtain ⟨C, rfl⟩ := Int.eq_ofNat_of_zero_le h2
    have hs : s.size = (C + 7) / 8 := by omega
    refine ⟨C, rfl, by omega, h1, hs, ⟨by rw [bytesOf_length]; exact hs, bytesOf_rng s, fun hm => ?_⟩⟩
    rw [if_neg (by omega)] at h
    have h5 := of_decide_eq_true h
    rw [bytesOf_rd s _ (by omega)]
    have e1 : ((s.size : Int) - 1) = ((C / 8 : Nat) : Int) := by omega
    have e2 : ((C : Int) % 8).toNat = C % 8 := by omega
    rw [e1, e2] at h5
    exact h5
  · cases h

/-- May n bits of v be put. -/
def putB (v n : Int) : Bool := decide (0 ≤ n ∧ n ≤ 24) && decide (0 ≤ v ∧ v ≤ 2 ^ n.toNat - 1)
theorem pow24 (n : Int) (h0 : 0 ≤ n) (h1 : n ≤ 24) : (1 : Int) ≤ 2 ^ n.toNat ∧ (2 : Int) ^ n.toNat ≤ 16777216 := by
  have h2 : (2 : Nat) ^ n.toNat ≤ 2 ^ 24 := Nat.pow_le_pow_right (by decide) (by omega)
  have h3 : (0 : Nat) < 2 ^ n.toNat := Nat.pow_pos (by decide)
  have e : (2 : Int) ^ n.toNat = ((2 ^ n.toNat : Nat) : Int) := by push_cast; rfl
  have e2 : (2 : Nat) ^ 24 = 16777216 := by decide
  rw [e]
  omega
theorem may_spec (s : ByteArray) (c v n : Int) (c0 : -9223372036854775808 ≤ c) (c1 : c ≤ 9223372036854775807) (hs : s.size ≤ 1048576) :
    Ev (fun k => spec_l01May.f k s c v n) (okB s c && putB v n && decide (c ≤ 96000 - n)) := by
  refine ev_use (ok_spec s c c0 c1 hs) (fun k hk => by unfold spec_l01May.f; rw [hk]) ?_
  cases hB : okB s c with
  | false => exact Ev.now _
  | true =>
    simp only [if_true, Bool.true_and]
    rw [in_spec]
    simp only [Option.bind_some]
    by_cases hn : 0 ≤ n ∧ n ≤ 24
    · obtain ⟨p0, p1⟩ := pow24 n hn.1 hn.2
      refine ev_end (pow_at n hn.1 (by omega)) (fun k hk => ?_)
      rw [if_pos (decide_eq_true hn), hk]
      simp only [Option.bind_some]
      rw [w64_id (x := 2 ^ n.toNat - 1) (by omega) (by omega), in_spec]
      simp only [Option.bind_some]
      unfold putB
      rw [decide_eq_true hn, Bool.true_and, w64_id (x := 96000 - n) (by omega) (by omega)]
      by_cases hv : 0 ≤ v ∧ v ≤ 2 ^ n.toNat - 1
      · rw [decide_eq_true hv]; simp
      · rw [decide_eq_false hv]; simp
    · refine Ev.congr (fun k => ?_) (Ev.now _)
      unfold putB
      rw [decide_eq_false hn]
      rfl
theorem may_impl (s : ByteArray) (c v n : Int) (c0 : -9223372036854775808 ≤ c) (c1 : c ≤ 9223372036854775807) (hs : s.size ≤ 1048576) : impl_putOk.f s c v n = some (okB s c && putB v n) := by
  unfold impl_putOk.f impl_powerOf.f
  rw [ok_impl s c c0 c1 hs]
  simp only [Option.bind_some]
  cases hB : okB s c with
  | false => rfl
  | true =>
    simp only [if_true, Bool.true_and]
    rw [in_impl]
    simp only [Option.bind_some]
    by_cases hn : 0 ≤ n ∧ n ≤ 24
    · obtain ⟨p0, p1⟩ := pow24 n hn.1 hn.2
      rw [if_pos (decide_eq_true hn), in_impl]
      simp only [Option.bind_some]
      rw [if_pos (by simp; omega), if_pos hn.1]
      simp only [Option.bind_some]
      have e : shl .i64 1 n = 2 ^ n.toNat := by
        rw [← shl_small (j := shl .i64 1 n) rfl (by simp [IntKind.bits]; omega), Int.one_mul]
        exact wraps64 _ (by omega) (by omega)
      rw [e, w64_id (x := 2 ^ n.toNat - 1) (by omega) (by omega), in_impl]
      simp only [Option.bind_some]
      unfold putB
      rw [decide_eq_true hn, Bool.true_and]
    · unfold putB
      rw [decide_eq_false hn]
      rfl
/-- What both make of bits that may be put. -/
theorem put_made (s : ByteArray) (c v n : Int) (ps ns : List Int) (hok : okB s c = true) (hv : putB v n = true) (hc : c ≤ 96000 - n) (hl : ps.length = n.toNat) (hp : ∀ i : Nat, i < ps.length → 0 ≤ rd ps (i : Int) ∧ rd ps (i : Int) ≤ 62) (he : bitsAt v ps ps.length = ns.map (· % 2)) (hn : ∀ m ∈ ns, 0 ≤ m ∧ m < 2 ^ 63) (hnl : ns.length = n.toNat) :
    spec_l01Put.f s c v ps = some (strOfNums (MWriter.putAll ns (bytesOf s) c.toNat), c + n) ∧ outF (MWriter.putAll ns (bytesOf s) c.toNat) (c + n) = (strOfNums (MWriter.putAll ns (bytesOf s) c.toNat), c + n, true) ∧ putCond s c n := by
  obtain ⟨C, rfl, h1, h2, h3, h4⟩ := ok_inv s c hok
  unfold putB at hv
  rw [Bool.and_eq_true, decide_eq_true_eq, decide_eq_true_eq] at hv
  obtain ⟨⟨n0, n1⟩, v0, v1⟩ := hv
  obtain ⟨p0, p1⟩ := pow24 n n0 n1
  obtain ⟨e1, e2⟩ := put_all ns (bytesOf s) C h4 hn
  have e3 : ((ps.length : Nat) : Int) = n := by rw [hl]; omega
  refine ⟨?_, ?_, ?_⟩
  · unfold spec_l01Put.f l01PutF
    rw [if_pos ⟨by omega, by omega, by omega, v0, by omega, by omega, hp⟩, he, Int.toNat_natCast, e1, e3]
  · unfold outF
    rw [Int.toNat_natCast, if_pos (by rw [e2.len, hnl]; omega)]
  · exact ⟨n0, by omega, by omega, by omega, by omega⟩
theorem put_over (s : ByteArray) (c v n : Int) (ns : List Int) (hok : okB s c = true) (hv : putB v n = true) (hc : ¬ c ≤ 96000 - n) (hn : ∀ m ∈ ns, 0 ≤ m ∧ m < 2 ^ 63) (hnl : ns.length = n.toNat) :
    outF (MWriter.putAll ns (bytesOf s) c.toNat) (c + n) = (⟨#[]⟩, 0, false) ∧ putCond s c n := by
  obtain ⟨C, rfl, h1, h2, h3, h4⟩ := ok_inv s c hok
  unfold putB at hv
  rw [Bool.and_eq_true, decide_eq_true_eq, decide_eq_true_eq] at hv
  obtain ⟨⟨n0, n1⟩, v0, v1⟩ := hv
  obtain ⟨e1, e2⟩ := put_all ns (bytesOf s) C h4 hn
  refine ⟨?_, ?_⟩
  · unfold outF
    rw [Int.toNat_natCast, if_neg (by rw [e2.len, hnl]; omega)]
  · exact ⟨n0, by omega, by omega, by omega, by omega⟩

theorem cplaces_rd (n i : Nat) (h : i < n) : rd ((List.range n).map fun j : Nat => (n : Int) - 1 - (j : Int)) (i : Int) = (n : Int) - 1 - i := by
  unfold rd
  rw [Int.toNat_natCast, List.getD_eq_getElem?_getD, List.getElem?_map, List.getElem?_range h]
  rfl
theorem putcode_loop (s : ByteArray) (c v : Int) (n : Nat) (hn : n ≤ 24) (r : ByteArray × Int) (hr : spec_l01Put.f s c v ((List.range n).map fun j : Nat => (n : Int) - 1 - (j : Int)) = some r) (d : Nat) : ∀ i : Nat, i + d = n → Ev (fun k => spec_PutCode.l0 k v ((List.range i).map fun j : Nat => (n : Int) - 1 - (j : Int)) ((n : Int) - 1 - i) s c) (r.1, r.2, true) := by
  induction d with
  | zero =>
    intro i hi
    obtain rfl : i = n := by omega
    refine ev_ret (fun k => ?_)
    rw [spec_PutCode.l0, if_neg (by omega), hr]
    rfl
  | succ d ih =>
    intro i hi
    refine Ev.step (fun k => ?_) (ih (i + 1) (by omega))
    rw [spec_PutCode.l0, if_pos (by omega), if_pos (by rw [List.length_map, List.length_range]; omega), w64_id (x := (n : Int) - 1 - i - 1) (by omega) (by omega), List.range_succ, List.map_append, show (n : Int) - 1 - ((i + 1 : Nat) : Int) = (n : Int) - 1 - i - 1 by omega]
    rfl
theorem highs_rng (v : Int) (n i : Nat) (v0 : 0 ≤ v) (v1 : v ≤ 16777215) : ∀ m ∈ highs v n i, 0 ≤ m ∧ m < 2 ^ 63 := by
  intro m hm
  unfold highs at hm
  obtain ⟨j, _, rfl⟩ := List.mem_map.1 hm
  have h2 : v / 2 ^ (n - 1 - j) ≤ v := Int.ediv_le_self _ v0
  exact ⟨Int.ediv_nonneg v0 (Int.le_of_lt (Int.pow_pos (by omega))), by omega⟩
theorem highs_bits (v : Int) (n : Nat) : bitsAt v ((List.range n).map fun j : Nat => (n : Int) - 1 - (j : Int)) ((List.range n).map fun j : Nat => (n : Int) - 1 - (j : Int)).length = (highs v n n).map (· % 2) := by
  unfold bitsAt highs
  rw [List.take_length, List.map_map, List.map_map]
  refine List.map_congr_left (fun j hj => ?_)
  have := List.mem_range.1 hj
  simp only [Function.comp]
  rw [show ((n : Int) - 1 - (j : Int)).toNat = n - 1 - j by omega]
theorem putcode_both (s : ByteArray) (c v n : Int) (c0 : -9223372036854775808 ≤ c) (c1 : c ≤ 9223372036854775807) (hs : s.size ≤ 1048576) :
    ∃ r, Ev (fun k => spec_PutCode.f k s c v n) r ∧ impl_PutCode.f s c v n = some r := by
  have hm := may_spec s c v n c0 c1 hs
  have hi := may_impl s c v n c0 c1 hs
  cases hB : (okB s c && putB v n) with
  | false =>
    rw [hB] at hm hi
    refine ⟨(⟨#[]⟩, 0, false), ?_, ?_⟩
    · refine ev_end hm (fun k hk => ?_)
      unfold spec_PutCode.f
      rw [hk]
      rfl
    · unfold impl_PutCode.f
      rw [hi]
      rfl
  | true =>
    rw [hB] at hm hi
    rw [Bool.true_and] at hm
    rw [Bool.and_eq_true] at hB
    obtain ⟨hok, hv⟩ := hB
    have hv' := hv
    unfold putB at hv'
    rw [Bool.and_eq_true, decide_eq_true_eq, decide_eq_true_eq] at hv'
    obtain ⟨⟨n0, n1⟩, v0, v1⟩ := hv'
    obtain ⟨p0, p1⟩ := pow24 n n0 n1
    have hrng := highs_rng v n.toNat n.toNat v0 (by omega)
    by_cases hc : c ≤ 96000 - n
    · obtain ⟨h1, h2, h3⟩ := put_made s c v n ((List.range n.toNat).map fun j : Nat => ((n.toNat : Nat) : Int) - 1 - (j : Int)) (highs v n.toNat n.toNat) hok hv hc (by simp) (fun i hi => by
        have hi' : i < n.toNat := by simpa using hi
        rw [cplaces_rd _ _ hi']
        omega) (highs_bits v n.toNat) hrng (highs_len v n.toNat n.toNat)
      rw [decide_eq_true hc] at hm
      refine ⟨(strOfNums (MWriter.putAll (highs v n.toNat n.toNat) (bytesOf s) c.toNat), c + n, true), ?_, ?_⟩
      · have hl := putcode_loop s c v n.toNat (by omega) _ h1 n.toNat 0 (by omega)
        rw [show ((n.toNat : Nat) : Int) - 1 - ((0 : Nat) : Int) = wrap64 (n - 1) by rw [w64_id (by omega) (by omega)]; omega] at hl
        refine ev_use hm (fun k hk => ?_) hl
        unfold spec_PutCode.f
        rw [hk]
        rfl
      · unfold impl_PutCode.f
        rw [hi]
        simp only [Option.bind_some]
        unfold codeF
        rw [if_pos rfl, if_pos h3, h2]
    · obtain ⟨h2, h3⟩ := put_over s c v n (highs v n.toNat n.toNat) hok hv hc hrng (highs_len v n.toNat n.toNat)
      rw [decide_eq_false hc] at hm
      refine ⟨(⟨#[]⟩, 0, false), ?_, ?_⟩
      · refine ev_end hm (fun k hk => ?_)
        unfold spec_PutCode.f
        rw [hk]
        rfl
      · unfold impl_PutCode.f
        rw [hi]
        simp only [Option.bind_some]
        unfold codeF
        rw [if_pos rfl, if_pos h3, h2]

theorem FnExactPutCode : laws_FnExactPutCode.Pure := by
  intro s c v n hs hc hv hn
  have hs' : s.size ≤ 9223372036854775807 := by unfold maxLen at hs; omega
  obtain ⟨c0, c1⟩ := wf64 hc
  have hw : wrap64 (1048576 - (s.size : Int)) = 1048576 - s.size := w64_id (by omega) (by omega)
  by_cases hb : 1048576 - (s.size : Int) < 0
  · refine ⟨0, ?_⟩
    unfold laws_FnExactPutCode.f laws_szOut.f
    rw [hw, if_pos hb]
    simp
  · obtain ⟨r, h1, h2⟩ := putcode_both s c v n c0 c1 (by omega)
    obtain ⟨k, hk⟩ := h1.rounds
    refine ⟨k, ?_⟩
    unfold laws_FnExactPutCode.f laws_szOut.f laws_toOut.f
    rw [hw, if_neg hb]
    simp only [Option.bind_some]
    rw [if_neg hb, hk, h2]
    simp only [Option.bind_some]
    unfold laws_eqOut.f
    simp

end Go.Proofs.Ytfmdenifbbhmdaa.Pure
