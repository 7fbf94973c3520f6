/- The law FnExactPutSymbols: for every input within the row's bounds the printed function answers true: what the program's function tells is what the law asks. Conditions: only the bounds that the row itself gives (sizes of strings and slices, ranges of the number kinds). -/
import Derived.Test.YtimomemkbcidnaaPFnExactPutSymbolsx4
namespace Go.Proofs.Ytimomemkbcidnaa.Pure
open Go.RowKit Go.Proofs.Ytimomemkbcidnaa.PFnExactPutSymbols Go.Proofs.YtimomemkbcidnaaW.PrintWords Go.Proofs.YtimomemkbcidnaaW.PrintLast Go.Proofs.YtimomemkbcidnaaW.PrintMore
set_option linter.unusedVariables false
set_option linter.unusedSimpArgs false

theorem w64_id {x : Int} (h0 : -9223372036854775808 ≤ x) (h1 : x ≤ 9223372036854775807) : wrap64 x = x := by unfold wrap64; omega
theorem tmod_nn {a : Int} (b : Int) (h : 0 ≤ a) : Int.tmod a b = a % b := Int.tmod_eq_emod_of_nonneg h
theorem tdiv_nn {a : Int} (b : Int) (h : 0 ≤ a) : Int.tdiv a b = a / b := Int.tdiv_eq_ediv_of_nonneg h
theorem wf64 {n : Int} (h : (Lit.int .i64 n).wf = true) : -9223372036854775808 ≤ n ∧ n ≤ 9223372036854775807 := by
  simp [Lit.wf, IntKind.min, IntKind.max, IntKind.signed, IntKind.bits] at h
  omega
theorem wfu32 {n : Int} (h : (Lit.int .u32 n).wf = true) : 0 ≤ n ∧ n ≤ 4294967295 := by
  simp [Lit.wf, IntKind.min, IntKind.max, IntKind.signed, IntKind.bits] at h
  omega
theorem wraps64 (n : Int) (h0 : 0 ≤ n) (h1 : n < 2 ^ 63) : IntKind.i64.wrap n = n := by rw [IntKind.wrap_i64]; omega
theorem wrapsu32 (n : Int) (h0 : 0 ≤ n) (h1 : n < 2 ^ 32) : IntKind.u32.wrap n = n := by rw [IntKind.wrap_u32]; omega
/-- a | b of parts that do not meet, of an int. -/
theorem or64 (i : Nat) (x y : Int) (hx0 : 0 ≤ x) (hx : x % 2 ^ i = 0) (hx1 : x < 2 ^ 63) (hy0 : 0 ≤ y) (hy : y < 2 ^ i) (hy1 : y < 2 ^ 63) : Go.bits .or .i64 x y = x + y :=
  bits_join .i64 63 (by decide) wraps64 i x y hx0 hx hx1 hy0 hy hy1
theorem ev_ite_pos {α : Type} {c : Prop} [Decidable c] {f g : Nat → Option α} {r : α} (h : c) (k : Ev f r) : Ev (fun n => if c then f n else g n) r := Ev.congr (fun n => if_pos h) k
theorem ev_ite_neg {α : Type} {c : Prop} [Decidable c] {f g : Nat → Option α} {r : α} (h : ¬ c) (k : Ev g r) : Ev (fun n => if c then f n else g n) r := Ev.congr (fun n => if_neg h) k
/-- A callee without rounds that answers. -/
theorem ev_bind0 {α β : Type} {o : Option α} {f : Nat → α → Option β} {a : α} {r : β} (h : o = some a) (k : Ev (fun n => f n a) r) : Ev (fun n => o.bind (f n)) r := Ev.congr (fun n => by rw [h]; rfl) k
theorem bt_lo (s : ByteArray) (i : Int) : 0 ≤ bt s i := (bt_range s i).1
theorem bt_hi (s : ByteArray) (i : Int) : bt s i ≤ 255 := (bt_range s i).2
/-- A callee that answers from some number of rounds on, used. -/
theorem ev_use {α β : Type} {g : Nat → Option α} {a : α} {F G : Nat → Option β} {r : β} (e : Ev g a) (h : ∀ k, g k = some a → F k = G k) (c : Ev G r) : Ev F r := by
  obtain ⟨K, e⟩ := e
  obtain ⟨K', c⟩ := c
  exact ⟨max K K', fun n hn => (h n (e n (by omega))).trans (c n (by omega))⟩
theorem ev_use_step {α β : Type} {g : Nat → Option α} {a : α} {F G : Nat → Option β} {r : β} (e : Ev g a) (h : ∀ k, g k = some a → F (k + 1) = G k) (c : Ev G r) : Ev F r := by
  obtain ⟨K, e⟩ := e
  obtain ⟨K', c⟩ := c
  refine ⟨max K K' + 1, fun n hn => ?_⟩
  obtain ⟨m, rfl⟩ : ∃ m, n = m + 1 := ⟨n - 1, by omega⟩
  exact (h m (e m (by omega))).trans (c m (by omega))
theorem ev_end {α β : Type} {g : Nat → Option α} {a : α} {F : Nat → Option β} {r : β} (e : Ev g a) (h : ∀ k, g k = some a → F k = some r) : Ev F r := by
  obtain ⟨K, e⟩ := e
  exact ⟨K, fun n hn => h n (e n hn)⟩
theorem ev_two {α β : Type} {g : Nat → Option α} {h : Nat → Option β} {a : α} {b : β} (e : Ev g a) (f : Ev h b) : ∃ k, g k = some a ∧ h k = some b := by
  obtain ⟨K, e⟩ := e
  obtain ⟨K', f⟩ := f
  exact ⟨max K K', e _ (by omega), f _ (by omega)⟩
theorem ev_ret {α : Type} {F : Nat → Option α} {r : α} (h : ∀ k, F (k + 1) = some r) : Ev F r := ⟨1, fun n hn => by obtain ⟨m, rfl⟩ : ∃ m, n = m + 1 := ⟨n - 1, by omega⟩; exact h m⟩

theorem in_spec (a b c : Int) : spec_l01In.f a b c = some (decide (b ≤ a ∧ a ≤ c)) := by
  unfold spec_l01In.f
  split
  · rename_i h
    have e : (decide (a ≤ c)) = decide (b ≤ a ∧ a ≤ c) := decide_eq_decide.mpr ⟨fun h' => ⟨h, h'⟩, fun h' => h'.2⟩
    rw [e]
  · rename_i h
    have e : (decide (b ≤ a ∧ a ≤ c)) = false := decide_eq_false fun h' => h h'.1
    rw [e]

theorem in_impl (a b c : Int) : impl_within.f a b c = some (decide (b ≤ a ∧ a ≤ c)) := by
  unfold impl_within.f
  split
  · rename_i h
    have e : (decide (a ≤ c)) = decide (b ≤ a ∧ a ≤ c) := decide_eq_decide.mpr ⟨fun h' => ⟨h, h'⟩, fun h' => h'.2⟩
    rw [e]
  · rename_i h
    have e : (decide (b ≤ a ∧ a ≤ c)) = false := decide_eq_false fun h' => h h'.1
    rw [e]


/-- Two callees that answer, together. -/
theorem ev_pair {α β : Type} {g : Nat → Option α} {h : Nat → Option β} {a : α} {b : β} (e : Ev g a) (f : Ev h b) : Ev (fun k => (g k).bind fun x => (h k).bind fun y => some (x, y)) (a, b) := by
  obtain ⟨K, e⟩ := e
  obtain ⟨K', f⟩ := f
  exact ⟨max K K', fun n hn => by show ((g n).bind fun x => (h n).bind fun y => some (x, y)) = _; rw [e n (by omega), f n (by omega)]; rfl⟩
theorem pair_some {α β : Type} {g : Option α} {h : Option β} {a : α} {b : β} (e : (g.bind fun x => h.bind fun y => some (x, y)) = some (a, b)) : g = some a ∧ h = some b := by
  cases g with
  | none => cases e
  | some x =>
    cases h with
    | none => cases e
    | some y =>
      injection e with e
      injection e with e1 e2
      exact ⟨by rw [e1], by rw [e2]⟩

theorem rd_nat (l : List Int) (j : Nat) : rd l j = l.getD j 0 := by unfold rd; simp
theorem rd_getElem (l : List Int) (j : Nat) (h : j < l.length) : rd l j = l[j] := by rw [rd_nat, List.getD_eq_getElem?_getD, List.getElem?_eq_getElem h]; rfl
theorem rd_mem (l : List Int) (j : Nat) (h : j < l.length) : rd l j ∈ l := by rw [rd_getElem l j h]; exact List.getElem_mem h
theorem drop_rd (l : List Int) (j : Nat) (h : j < l.length) : l.drop j = rd l j :: l.drop (j + 1) := by rw [rd_getElem l j h]; exact List.drop_eq_getElem_cons h
theorem rd_set (l : List Int) (a : Nat) (v : Int) (j : Nat) (h : a < l.length) : rd (l.set a v) j = if j = a then v else rd l j := by
  rw [rd_nat, rd_nat, List.getD_eq_getElem?_getD, List.getD_eq_getElem?_getD, List.getElem?_set]
  by_cases e : j = a
  · subst e
    simp [h]
  · rw [if_neg (Ne.symm e), if_neg e]
theorem take_set_snoc (l : List Int) (j : Nat) (v : Int) (h : j < l.length) : (l.set j v).take (j + 1) = l.take j ++ [v] := by
  rw [List.take_succ_eq_append_getElem (by simpa using h)]
  simp [List.take_set_of_le]

theorem toIntS_loop (l : List Int) (hl : l.length ≤ 1048576) (d : Nat) : ∀ (j : Nat) (o : List Int), j + d = l.length → o.length = l.length → o.take j = l.take j → Ev (fun k => laws_toIntS.l0 k l o j) l := by
  induction d with
  | zero =>
    intro j o h ho hp
    refine ev_ret (fun k => ?_)
    rw [laws_toIntS.l0, if_neg (by omega)]
    have e1 : o.take j = o := List.take_of_length_le (by omega)
    have e2 : l.take j = l := List.take_of_length_le (by omega)
    rw [e1, e2] at hp
    rw [hp]
  | succ d ih =>
    intro j o h ho hp
    refine Ev.step (fun k => ?_) (ih (j + 1) (o.set j (rd l j)) (by omega) (by simpa using ho) ?_)
    · rw [laws_toIntS.l0, if_pos (by omega), if_pos (by omega), if_pos (by omega), w64_id (x := (j : Int) + 1) (by omega) (by omega), Int.toNat_natCast]
      rfl
    · rw [take_set_snoc o j _ (by omega), hp, rd_getElem l j (by omega), ← List.take_succ_eq_append_getElem (by omega)]
theorem toIntS_is (l : List Int) (hl : l.length ≤ 1048576) : Ev (fun k => laws_toIntS.f k l) l := by
  refine Ev.congr (fun k => ?_) (toIntS_loop l hl l.length 0 (List.replicate l.length 0) (by omega) (by simp) (by simp))
  unfold laws_toIntS.f
  rw [if_pos (by omega), Int.toNat_natCast, if_pos (by omega)]
  rfl
theorem eqIntS_loop (l : List Int) (hl : l.length ≤ 4611686018427387904) (d : Nat) : ∀ j : Nat, j + d = l.length → Ev (fun k => laws_eqIntS.l0 k l l j) true := by
  induction d with
  | zero => exact fun j h => ev_ret (fun k => by rw [laws_eqIntS.l0, if_neg (by omega)])
  | succ d ih =>
    intro j h
    refine Ev.step (fun k => ?_) (ih (j + 1) (by omega))
    rw [laws_eqIntS.l0, if_pos (by omega), if_pos (by omega), if_pos (by omega), if_pos rfl, w64_id (x := (j : Int) + 1) (by omega) (by omega)]
    rfl
theorem eqIntS_is (l : List Int) (hl : l.length ≤ 4611686018427387904) : Ev (fun k => laws_eqIntS.f k l l) true :=
  Ev.congr (fun k => by unfold laws_eqIntS.f; rw [if_pos rfl]; rfl) (eqIntS_loop l hl l.length 0 (by omega))
/-- 2^n, as the loop doubles it. -/
theorem pow_loop (n : Int) (d : Nat) : ∀ (x i : Int), 0 ≤ i → i + d = n → 0 ≤ x → x * 2 ^ d ≤ 4611686018427387904 → n ≤ 62 →
    Ev (fun k => spec_l01Pow.l0 k n x i) (x * 2 ^ d) := by
  induction d with
  | zero =>
    intro x i h0 h hx hb hn
    refine ev_ret (fun k => ?_)
    rw [spec_l01Pow.l0, if_neg (by omega)]
    simp
  | succ d ih =>
    intro x i h0 h hx hb hn
    have e : x * 2 ^ (d + 1) = 2 * x * 2 ^ d := by rw [Int.pow_succ, ← Int.mul_assoc, Int.mul_comm (x * 2 ^ d) 2, ← Int.mul_assoc]
    have hp : (1 : Int) ≤ 2 ^ d := by have : (0 : Int) < 2 ^ d := Int.pow_pos (by omega); omega
    have h2 : 2 * x ≤ 2 * x * 2 ^ d := by
      have := Int.mul_le_mul_of_nonneg_left hp (show 0 ≤ 2 * x by omega)
      omega
    have h3 := ih (2 * x) (i + 1) (by omega) (by omega) (by omega) (by omega) hn
    rw [e]
    refine Ev.step (fun k => ?_) h3
    rw [spec_l01Pow.l0, if_pos (by omega), w64_id (x := 2 * x) (by omega) (by omega), w64_id (x := i + 1) (by omega) (by omega)]
theorem pow_is (n : Nat) (hn : n ≤ 62) : Ev (fun k => spec_l01Pow.f k (n : Int)) (2 ^ n) := by
  have hb : (2 : Int) ^ n ≤ 2 ^ 62 := by exact_mod_cast Nat.pow_le_pow_right (n := 2) (by omega) hn
  have h := pow_loop n n 1 0 (by omega) (by omega) (by omega) (by rw [Int.one_mul]; exact hb) (by omega)
  rw [Int.one_mul] at h
  exact h
theorem pow_at (n : Int) (h0 : 0 ≤ n) (hn : n ≤ 62) : Ev (fun k => spec_l01Pow.f k n) (2 ^ n.toNat) := by
  have h := pow_is n.toNat (by omega)
  rw [Int.toNat_of_nonneg h0] at h
  exact h

/-- Is an Out right. -/
def okB (s : ByteArray) (n : Int) : Bool :=
  if s.size ≤ 12000 ∧ 0 ≤ n ∧ n ≤ 8 * (s.size : Int) ∧ (n + 7) / 8 = s.size then (if n % 8 = 0 then true else decide (bt s ((s.size : Int) - 1) < 2 ^ (n % 8).toNat)) else false
theorem ok_spec (s : ByteArray) (n : Int) (n0 : -9223372036854775808 ≤ n) (n1 : n ≤ 9223372036854775807) (hs : s.size ≤ 1048576) : Ev (fun k => spec_OutOk.f k s n) (okB s n) := by
  unfold okB
  by_cases h : s.size ≤ 12000 ∧ 0 ≤ n ∧ n ≤ 8 * (s.size : Int) ∧ (n + 7) / 8 = s.size
  · obtain ⟨h1, h2, h3, h4⟩ := h
    rw [if_pos ⟨h1, h2, h3, h4⟩]
    have w1 : wrap64 (8 * (s.size : Int)) = 8 * s.size := w64_id (by omega) (by omega)
    have w2 : wrap64 (n + 7) = n + 7 := w64_id (by omega) (by omega)
    have w3 : wrap64 ((n + 7) / 8) = (n + 7) / 8 := w64_id (by omega) (by omega)
    have w4 : wrap64 ((s.size : Int) - 1) = s.size - 1 := w64_id (by omega) (by omega)
    have t : Int.tmod n 8 = n % 8 := tmod_nn 8 h2
    by_cases h5 : n % 8 = 0
    · rw [if_pos h5]
      refine Ev.congr (fun k => ?_) (Ev.now true)
      unfold spec_OutOk.f
      rw [if_neg (by omega), if_neg (by omega), w1, if_neg (by omega), w2, tdiv_nn _ (by omega), w3, if_pos h4, t, if_pos h5]
    · rw [if_neg h5]
      have b0 := bt_lo s ((s.size : Int) - 1)
      have b1 := bt_hi s ((s.size : Int) - 1)
      refine ev_end (pow_at (n % 8) (by omega) (by omega)) (fun k hk => ?_)
      unfold spec_OutOk.f
      rw [if_neg (by omega), if_neg (by omega), w1, if_neg (by omega), w2, tdiv_nn _ (by omega), w3, if_pos h4, t, if_neg h5, w4, if_pos (by omega), if_pos (by omega), hk, w64_id (x := bt s ((s.size : Int) - 1)) (by omega) (by omega)]
      rfl
  · rw [if_neg h]
    refine Ev.congr (fun k => ?_) (Ev.now false)
    unfold spec_OutOk.f
    split
    · rfl
    · split
      · rfl
      · rw [w64_id (x := 8 * (s.size : Int)) (by omega) (by omega)]
        split
        · rfl
        · rw [w64_id (x := n + 7) (by omega) (by omega), tdiv_nn _ (by omega), w64_id (x := (n + 7) / 8) (by omega) (by omega), if_neg (by omega)]
theorem ok_impl (s : ByteArray) (n : Int) (n0 : -9223372036854775808 ≤ n) (n1 : n ≤ 9223372036854775807) (hs : s.size ≤ 1048576) : impl_OutOk.f s n = some (okB s n) := by
  unfold okB impl_OutOk.f impl_up.f
  rw [in_impl]
  simp only [Option.bind_some, decide_eq_true_eq]
  by_cases h : s.size ≤ 12000 ∧ 0 ≤ n ∧ n ≤ 8 * (s.size : Int) ∧ (n + 7) / 8 = s.size
  · obtain ⟨h1, h2, h3, h4⟩ := h
    have w2 : wrap64 (n + 7) = n + 7 := w64_id (by omega) (by omega)
    have w3 : wrap64 ((n + 7) / 8) = (n + 7) / 8 := w64_id (by omega) (by omega)
    have w4 : wrap64 ((s.size : Int) - 1) = s.size - 1 := w64_id (by omega) (by omega)
    rw [if_pos (show 0 ≤ n ∧ n ≤ 96000 from ⟨h2, by omega⟩), w2, tdiv_nn _ (by omega), w3, if_pos h4.symm, tmod_nn 8 h2, if_pos (show s.size ≤ 12000 ∧ 0 ≤ n ∧ n ≤ 8 * (s.size : Int) ∧ (n + 7) / 8 = s.size from ⟨h1, h2, h3, h4⟩)]
    by_cases h5 : n % 8 = 0
    · rw [if_pos h5, if_pos h5]
    · rw [if_neg h5, if_neg h5, w4, if_pos (by omega), if_pos (by omega), if_pos (by omega)]
      have b0 := bt_lo s ((s.size : Int) - 1)
      congr 1
      have e : shr .u8 (bt s ((s.size : Int) - 1)) (n % 8) = bt s ((s.size : Int) - 1) / 2 ^ (n % 8).toNat := shr_small rfl (by simp [IntKind.bits]; omega) |>.symm
      rw [e, Bool.eq_iff_iff]
      simp only [beq_iff_eq, decide_eq_true_eq]
      have hp : (0 : Int) < 2 ^ (n % 8).toNat := Int.pow_pos (by omega)
      constructor
      · intro hz
        have := Int.lt_mul_ediv_self_add (x := bt s ((s.size : Int) - 1)) hp
        rw [hz, Int.mul_zero, Int.zero_add] at this
        exact this
      · intro hz
        exact Int.ediv_eq_zero_of_lt b0 hz
  · rw [if_neg h]
    split
    · rw [w64_id (x := n + 7) (by omega) (by omega), tdiv_nn _ (by omega), w64_id (x := (n + 7) / 8) (by omega) (by omega), if_neg (by omega)]
    · rfl

open Go.Proofs.Ytimomemkbcidnaa.MWriter Go.Proofs.Ytimomemkbcidnaa.MPut Go.Proofs.Ytimomemkbcidnaa.MOut
theorem or8_swap (x y : Int) : Go.bits .or .u8 x y = Go.bits .or .u8 y x := by
  unfold Go.bits
  simp only []
  rw [BitVec.or_comm]
/-- A bit set behind those that are there: the sum. -/
theorem orBit_is (x n : Int) (r : Nat) (hr : r < 8) (x0 : 0 ≤ x) (x1 : x < 2 ^ r) (n0 : 0 ≤ n) (n1 : n < 2 ^ 63) : orBit x n r = x + n % 2 * 2 ^ r ∧ x + n % 2 * 2 ^ r < 2 ^ (r + 1) ∧ x + n % 2 * 2 ^ r ≤ 255 := by
  have e : Go.bits .and .i64 n 1 = n % 2 := bits_mask .i64 63 (by decide) wraps64 1 (by decide) n n0 n1
  have hb : n % 2 = 0 ∨ n % 2 = 1 := by omega
  unfold orBit
  rw [e]
  have hr' : r = 0 ∨ r = 1 ∨ r = 2 ∨ r = 3 ∨ r = 4 ∨ r = 5 ∨ r = 6 ∨ r = 7 := by omega
  have hp : (2 : Int) ^ r ≤ 128 ∧ (2 : Int) ^ (r + 1) = 2 * 2 ^ r ∧ 0 < (2 : Int) ^ r := by
    refine ⟨?_, by rw [Int.pow_succ]; omega, Int.pow_pos (by omega)⟩
    rcases hr' with h | h | h | h | h | h | h | h <;> subst h <;> decide
  obtain ⟨p1, p2, p3⟩ := hp
  have e2 : n % 2 % 256 * 2 ^ r % 256 = n % 2 * 2 ^ r := by
    rcases hb with h | h <;> rw [h]
    · simp
    · have : (1 : Int) % 256 = 1 := by decide
      rw [this]
      omega
  rw [e2]
  have e3 : Go.bits .or .u8 x (n % 2 * 2 ^ r) = x + n % 2 * 2 ^ r := by
    rw [or8_swap, bits_join .u8 8 (by decide) (fun n h0 h1 => by rw [IntKind.wrap_u8]; omega) r (n % 2 * 2 ^ r) x (by rcases hb with h | h <;> rw [h] <;> omega) (by simp) (by rcases hb with h | h <;> rw [h] <;> omega) x0 x1 (by omega)]
    omega
  refine ⟨e3, ?_, ?_⟩
  · rw [p2]
    rcases hb with h | h <;> rw [h] <;> omega
  · rcases hb with h | h <;> rw [h] <;> omega
/-- Bytes that hold c bits: all bits behind them are 0. -/
structure Inv (xs : List Int) (c : Nat) : Prop where
  len : xs.length = (c + 7) / 8
  rng : ∀ x ∈ xs, 0 ≤ x ∧ x ≤ 255
  low : c % 8 ≠ 0 → rd xs ((c / 8 : Nat) : Int) < 2 ^ (c % 8)
theorem rd_memI {xs : List Int} {i : Nat} (h : i < xs.length) : rd xs (i : Int) ∈ xs := by
  unfold rd
  rw [Int.toNat_natCast, List.getD_eq_getElem?_getD, List.getElem?_eq_getElem h]
  exact List.getElem_mem h
theorem rd_setJ {xs : List Int} {i : Nat} (h : i < xs.length) (a : Int) : rd (xs.set i a) (i : Int) = a := by
  unfold rd
  rw [Int.toNat_natCast, List.getD_eq_getElem?_getD, List.getElem?_set_self h]
  rfl
theorem rd_last (xs : List Int) (a : Int) : rd (xs ++ [a]) (xs.length : Int) = a := by
  unfold rd
  rw [Int.toNat_natCast, List.getD_eq_getElem?_getD]
  simp
theorem put_step (xs : List Int) (c : Nat) (n : Int) (hI : Inv xs c) (n0 : 0 ≤ n) (n1 : n < 2 ^ 63) : putAdd xs c (n % 2) = putBit xs c n ∧ Inv (putBit xs c n) (c + 1) := by
  by_cases hm : c % 8 = 0
  · obtain ⟨h1, h2, h3⟩ := orBit_is 0 n 0 (by omega) (by omega) (by decide) n0 n1
    have e : putBit xs c n = xs ++ [orBit 0 n 0] := by unfold putBit; rw [if_pos hm]
    have hl := hI.len
    refine ⟨?_, ?_⟩
    · rw [e]
      unfold putAdd
      rw [if_pos hm, addBit_eq, h1]
      congr 2
      omega
    · rw [e]
      refine ⟨by simp; omega, fun x hx => ?_, fun h => ?_⟩
      · rcases List.mem_append.1 hx with hx | hx
        · exact hI.rng x hx
        · rw [List.mem_singleton] at hx
          rw [hx, h1]
          omega
      · have e1 : (c + 1) / 8 = xs.length := by omega
        have e2 : (c + 1) % 8 = 1 := by omega
        rw [e1, e2, rd_last, h1]
        exact h2
  · have hl := hI.len
    have hj : c / 8 < xs.length := by omega
    have hx := hI.rng _ (rd_memI hj)
    obtain ⟨h1, h2, h3⟩ := orBit_is (rd xs ((c / 8 : Nat) : Int)) n (c % 8) (by omega) hx.1 (hI.low hm) n0 n1
    have e : putBit xs c n = xs.set (c / 8) (orBit (rd xs ((c / 8 : Nat) : Int)) n (c % 8)) := by unfold putBit; rw [if_neg hm]
    have p3 : (0 : Int) < 2 ^ (c % 8) := Int.pow_pos (by omega)
    have hb : n % 2 = 0 ∨ n % 2 = 1 := by omega
    have hpos : 0 ≤ rd xs ((c / 8 : Nat) : Int) + n % 2 * 2 ^ (c % 8) := by rcases hb with h | h <;> rw [h] <;> omega
    refine ⟨?_, ?_⟩
    · rw [e]
      unfold putAdd
      rw [if_neg hm, addBit_eq, h1]
      congr 1
      omega
    · rw [e]
      refine ⟨by rw [List.length_set]; omega, fun x hx => ?_, fun h => ?_⟩
      · rcases List.mem_or_eq_of_mem_set hx with hx | hx
        · exact hI.rng x hx
        · rw [hx, h1]
          exact ⟨hpos, h3⟩
      · have e1 : (c + 1) / 8 = c / 8 := by omega
        have e2 : (c + 1) % 8 = c % 8 + 1 := by omega
        rw [e1, e2, rd_setJ hj, h1]
        exact h2
theorem put_all : ∀ (ns xs : List Int) (c : Nat), Inv xs c → (∀ n ∈ ns, 0 ≤ n ∧ n < 2 ^ 63) → addAll (ns.map (· % 2)) xs c = MWriter.putAll ns xs c ∧ Inv (MWriter.putAll ns xs c) (c + ns.length)
  | [], xs, c, h, _ => ⟨rfl, h⟩
  | n :: ns, xs, c, h, hn => by
    obtain ⟨n0, n1⟩ := hn n (List.mem_cons_self ..)
    obtain ⟨h1, h2⟩ := put_step xs c n h n0 n1
    obtain ⟨h3, h4⟩ := put_all ns _ _ h2 (fun m hm => hn m (List.mem_cons_of_mem _ hm))
    rw [List.map_cons, addAll, h1, h3, MWriter.putAll, List.length_cons]
    exact ⟨rfl, by rw [show c + (ns.length + 1) = c + 1 + ns.length by omega]; exact h4⟩
theorem bytesOf_rd (s : ByteArray) (i : Nat) (h : i < s.size) : rd (bytesOf s) (i : Int) = bt s (i : Int) := by
  unfold rd bt
  rw [dif_pos (show (i : Int).toNat < s.size by rw [Int.toNat_natCast]; exact h)]
  simp only [Int.toNat_natCast]
  unfold bytesOf
  rw [List.getD_eq_getElem?_getD, List.getElem?_map]
  have hh : i < s.data.toList.length := h
  rw [List.getElem?_eq_getElem hh]
  rfl
theorem bytesOf_rng (s : ByteArray) : ∀ x ∈ bytesOf s, 0 ≤ x ∧ x ≤ 255 := by
  intro x hx
  unfold bytesOf at hx
  obtain ⟨b, _, rfl⟩ := List.mem_map.1 hx
  have := b.toNat_lt
  omega
/-- A right Out's bytes. -/
theorem ok_inv (s : ByteArray) (c : Int) (h : okB s c = true) : ∃ C : Nat, c = C ∧ C ≤ 96000 ∧ s.size ≤ 12000 ∧ s.size = (C + 7) / 8 ∧ Inv (bytesOf s) C := by
  unfold okB at h
  split at h
  · rename_i hc
    obtain ⟨h1, h2, h3, h4⟩ := hc
    obtain ⟨C, rfl⟩ := Int.eq_ofNat_of_zero_le h2
    have hs : s.size = (C + 7) / 8 := by omega
    refine ⟨C, rfl, by omega, h1, hs, ⟨by rw [bytesOf_length]; exact hs, bytesOf_rng s, fun hm => ?_⟩⟩
    rw [if_neg (by omega)] at h
    have h5 := of_decide_eq_true h
    rw [bytesOf_rd s _ (by omega)]
    have e1 : ((s.size : Int) - 1) = ((C / 8 : Nat) : Int) := by omega
    have e2 : ((C : Int) % 8).toNat = C % 8 := by omega
    rw [e1, e2] at h5
    exact h5
  · cases h

/-- May n bits of v be put. -/
def putB (v n : Int) : Bool := decide (0 ≤ n ∧ n ≤ 24) && decide (0 ≤ v ∧ v ≤ 2 ^ n.toNat - 1)
theorem pow24 (n : Int) (h0 : 0 ≤ n) (h1 : n ≤ 24) : (1 : Int) ≤ 2 ^ n.toNat ∧ (2 : Int) ^ n.toNat ≤ 16777216 := by
  have h2 : (2 : Nat) ^ n.toNat ≤ 2 ^ 24 := Nat.pow_le_pow_right (by decide) (by omega)
  have h3 : (0 : Nat) < 2 ^ n.toNat := Nat.pow_pos (by decide)
  have e : (2 : Int) ^ n.toNat = ((2 ^ n.toNat : Nat) : Int) := by push_cast; rfl
  have e2 : (2 : Nat) ^ 24 = 16777216 := by decide
  rw [e]
  omega
theorem may_spec (s : ByteArray) (c v n : Int) (c0 : -9223372036854775808 ≤ c) (c1 : c ≤ 9223372036854775807) (hs : s.size ≤ 1048576) :
    Ev (fun k => spec_l01May.f k s c v n) (okB s c && putB v n && decide (c ≤ 96000 - n)) := by
  refine ev_use (ok_spec s c c0 c1 hs) (fun k hk => by unfold spec_l01May.f; rw [hk]) ?_
  cases hB : okB s c with
  | false => exact Ev.now _
  | true =>
    simp only [if_true, Bool.true_and]
    rw [in_spec]
    simp only [Option.bind_some]
    by_cases hn : 0 ≤ n ∧ n ≤ 24
    · obtain ⟨p0, p1⟩ := pow24 n hn.1 hn.2
      refine ev_end (pow_at n hn.1 (by omega)) (fun k hk => ?_)
      rw [if_pos (decide_eq_true hn), hk]
      simp only [Option.bind_some]
      rw [w64_id (x := 2 ^ n.toNat - 1) (by omega) (by omega), in_spec]
      simp only [Option.bind_some]
      unfold putB
      rw [decide_eq_true hn, Bool.true_and, w64_id (x := 96000 - n) (by omega) (by omega)]
      by_cases hv : 0 ≤ v ∧ v ≤ 2 ^ n.toNat - 1
      · rw [decide_eq_true hv]; simp
      · rw [decide_eq_false hv]; simp
    · refine Ev.congr (fun k => ?_) (Ev.now _)
      unfold putB
      rw [decide_eq_false hn]
      rfl
theorem cplaces_rd (n i : Nat) (h : i < n) : rd ((List.range n).map fun j : Nat => (n : Int) - 1 - (j : Int)) (i : Int) = (n : Int) - 1 - i := by
  unfold rd
  rw [Int.toNat_natCast, List.getD_eq_getElem?_getD, List.getElem?_map, List.getElem?_range h]
  rfl
theorem putcode_loop (s : ByteArray) (c v : Int) (n : Nat) (hn : n ≤ 24) (r : ByteArray × Int) (hr : spec_l01Put.f s c v ((List.range n).map fun j : Nat => (n : Int) - 1 - (j : Int)) = some r) (d : Nat) : ∀ i : Nat, i + d = n → Ev (fun k => spec_PutCode.l0 k v ((List.range i).map fun j : Nat => (n : Int) - 1 - (j : Int)) ((n : Int) - 1 - i) s c) (r.1, r.2, true) := by
  induction d with
  | zero =>
    intro i hi
    obtain rfl : i = n := by omega
    refine ev_ret (fun k => ?_)
    rw [spec_PutCode.l0, if_neg (by omega), hr]
    rfl
  | succ d ih =>
    intro i hi
    refine Ev.step (fun k => ?_) (ih (i + 1) (by omega))
    rw [spec_PutCode.l0, if_pos (by omega), if_pos (by rw [List.length_map, List.length_range]; omega), w64_id (x := (n : Int) - 1 - i - 1) (by omega) (by omega), List.range_succ, List.map_append, show (n : Int) - 1 - ((i + 1 : Nat) : Int) = (n : Int) - 1 - i - 1 by omega]
    rfl
theorem highs_rng (v : Int) (n i : Nat) (v0 : 0 ≤ v) (v1 : v ≤ 16777215) : ∀ m ∈ highs v n i, 0 ≤ m ∧ m < 2 ^ 63 := by
  intro m hm
  unfold highs at hm
  obtain ⟨j, _, rfl⟩ := List.mem_map.1 hm
  have h2 : v / 2 ^ (n - 1 - j) ≤ v := Int.ediv_le_self _ v0
  exact ⟨Int.ediv_nonneg v0 (Int.le_of_lt (Int.pow_pos (by omega))), by omega⟩
theorem highs_bits (v : Int) (n : Nat) : bitsAt v ((List.range n).map fun j : Nat => (n : Int) - 1 - (j : Int)) ((List.range n).map fun j : Nat => (n : Int) - 1 - (j : Int)).length = (highs v n n).map (· % 2) := by
  unfold bitsAt highs
  rw [List.take_length, List.map_map, List.map_map]
  refine List.map_congr_left (fun j hj => ?_)
  have := List.mem_range.1 hj
  simp only [Function.comp]
  rw [show ((n : Int) - 1 - (j : Int)).toNat = n - 1 - j by omega]
theorem str_back (s : ByteArray) : strOfNums (bytesOf s) = s := by
  have e : bytesOf s = s.data.toList.map fun b => (b.toNat : Int) := by
    rfl
  rw [e]
  unfold strOfNums
  rw [List.map_map]
  have : ((fun n : Int => UInt8.ofNat n.toNat) ∘ fun b : UInt8 => (b.toNat : Int)) = id := by
    funext b
    simp
  rw [this, List.map_id]

open Go.Proofs.Ytimomemkbcidnaa.MBook Go.Proofs.Ytimomemkbcidnaa.MCode
/-- Are these lengths right. -/
def okL (l : List Int) : Bool := l.all fun x => decide (0 ≤ x ∧ x ≤ 15)
theorem okL_cons (x : Int) (l : List Int) : okL (x :: l) = (decide (0 ≤ x ∧ x ≤ 15) && okL l) := by unfold okL; rw [List.all_cons]
theorem okL_mem {l : List Int} (h : okL l = true) : ∀ x ∈ l, 0 ≤ x ∧ x ≤ 15 := by
  intro x hx
  unfold okL at h
  have := List.all_eq_true.1 h x hx
  exact of_decide_eq_true this
theorem roomF_loop (l : List Int) (hl : l.length ≤ 320) (d : Nat) : ∀ (j : Nat) (s : Int), j + d = l.length → 0 ≤ s → s ≤ 16384 * j → Ev (fun k => spec_l03Room.l0 k l s j) (if okL (l.drop j) = true then (s + (fullS (l.drop j) : Nat), true) else (0, false)) := by
  induction d with
  | zero =>
    intro j s h s0 s1
    rw [List.drop_of_length_le (by omega)]
    exact ev_ret (fun k => by rw [spec_l03Room.l0, if_neg (by omega)]; simp [okL, fullS])
  | succ d ih =>
    intro j s h s0 s1
    rw [drop_rd l j (by omega), okL_cons, fullS]
    by_cases c : 0 ≤ rd l j ∧ rd l j ≤ 15
    · rw [decide_eq_true c, Bool.true_and]
      by_cases c1 : rd l j > 0
      · have w : wrap64 (15 - rd l j) = 15 - rd l j := w64_id (by omega) (by omega)
        have P := pow_at (15 - rd l j) (by omega) (by omega)
        have e0 : (15 - rd l (j : Int)).toNat = 15 - (rd l (j : Int)).toNat := by omega
        rw [e0] at P
        have p0 : (0 : Int) < 2 ^ (15 - (rd l j).toNat) := Int.pow_pos (by omega)
        have p1 : (2 : Int) ^ (15 - (rd l j).toNat) ≤ 2 ^ 14 := by exact_mod_cast Nat.pow_le_pow_right (n := 2) (by omega) (show 15 - (rd l j).toNat ≤ 14 by omega)
        have g := ih (j + 1) (s + 2 ^ (15 - (rd l j).toNat)) (by omega) (by omega) (by omega)
        have e2 : (if 0 < rd l (j : Int) then 2 ^ (15 - (rd l (j : Int)).toNat) else 0) = 2 ^ (15 - (rd l (j : Int)).toNat) := if_pos c1
        have e3 : s + ((2 ^ (15 - (rd l (j : Int)).toNat) + fullS (l.drop (j + 1)) : Nat) : Int) = s + 2 ^ (15 - (rd l (j : Int)).toNat) + ((fullS (l.drop (j + 1)) : Nat) : Int) := by
          rw [Int.natCast_add, Int.natCast_pow, Int.add_assoc]
          rfl
        rw [e2, e3]
        refine ev_use_step P (fun k hk => ?_) g
        rw [spec_l03Room.l0, if_pos (by omega), if_pos (by omega), in_spec, decide_eq_true c, Option.bind_some, if_pos rfl, if_pos c1, w, hk, Option.bind_some, w64_id (x := s + 2 ^ (15 - (rd l j).toNat)) (by omega) (by omega), w64_id (x := (j : Int) + 1) (by omega) (by omega)]
        rfl
      · have g := ih (j + 1) s (by omega) (by omega) (by omega)
        have e2 : (if 0 < rd l (j : Int) then 2 ^ (15 - (rd l (j : Int)).toNat) else 0) = 0 := if_neg c1
        rw [e2, Nat.zero_add]
        refine Ev.step (fun k => ?_) g
        rw [spec_l03Room.l0, if_pos (by omega), if_pos (by omega), in_spec, decide_eq_true c, Option.bind_some, if_pos rfl, if_neg c1, w64_id (x := (j : Int) + 1) (by omega) (by omega)]
        rfl
    · rw [decide_eq_false c, Bool.false_and, if_neg (by decide)]
      refine ev_ret (fun k => ?_)
      rw [spec_l03Room.l0, if_pos (by omega), if_pos (by omega), in_spec, decide_eq_false c, Option.bind_some, if_neg (by decide)]
theorem roomF_is (l : List Int) : Ev (fun k => spec_l03Room.f k l 288) (if okL l = true ∧ l.length ≤ 288 then (((fullS l : Nat) : Int), true) else (0, false)) := by
  by_cases h : l.length ≤ 288
  · have g := roomF_loop l (by omega) l.length 0 0 (by omega) (by omega) (by omega)
    rw [List.drop_zero, Int.zero_add] at g
    have e : (if okL l = true ∧ l.length ≤ 288 then (((fullS l : Nat) : Int), true) else (0, false)) = (if okL l = true then (((fullS l : Nat) : Int), true) else (0, false)) := by
      by_cases h2 : okL l = true
      · rw [if_pos ⟨h2, h⟩, if_pos h2]
      · rw [if_neg (fun h3 => h2 h3.1), if_neg h2]
    rw [e]
    refine Ev.congr (fun k => ?_) g
    unfold spec_l03Room.f
    rw [if_neg (by omega)]
    rfl
  · rw [if_neg (fun h2 => h h2.2)]
    refine Ev.congr (fun k => ?_) (Ev.now (0, false))
    unfold spec_l03Room.f
    rw [if_pos (by omega)]
theorem lensOk_at (l : List Int) (hl : l.length ≤ 1048576) (m : Int) (d : Nat) : ∀ (j k : Nat), j + d = l.length → d < k → impl_lengthsOk.l0 k l m l (l.length : Int) j = some (okL (l.drop j) && decide ((l.length : Int) ≤ m)) := by
  induction d with
  | zero =>
    intro j k h hk
    obtain ⟨k, rfl⟩ : ∃ q, k = q + 1 := ⟨k - 1, by omega⟩
    rw [impl_lengthsOk.l0, if_neg (by omega), List.drop_of_length_le (by omega)]
    simp [okL]
  | succ d ih =>
    intro j k h hk
    obtain ⟨k, rfl⟩ : ∃ q, k = q + 1 := ⟨k - 1, by omega⟩
    rw [drop_rd l j (by omega), okL_cons, impl_lengthsOk.l0, if_pos (by omega), if_pos (by omega), if_pos (by omega), in_impl, Option.bind_some]
    by_cases c : 0 ≤ rd l j ∧ rd l j ≤ 15
    · rw [decide_eq_true c, if_pos rfl, Bool.true_and, w64_id (x := (j : Int) + 1) (by omega) (by omega)]
      exact ih (j + 1) k (by omega) (by omega)
    · rw [decide_eq_false c, if_neg (by decide), Bool.false_and, Bool.false_and]
theorem lensOk_k (l : List Int) (hl : l.length ≤ 1048576) (m : Int) : impl_lengthsOk.f (l.length + 10) l m = some (okL l && decide ((l.length : Int) ≤ m)) := lensOk_at l hl m l.length 0 _ (by omega) (by omega)
/-- How many are above 0. -/
def nzL : List Int → Nat
  | [] => 0
  | x :: l => (if 0 < x then 1 else 0) + nzL l
theorem nzL_le : ∀ l, nzL l ≤ l.length
  | [] => Nat.le_refl _
  | x :: l => by
    have := nzL_le l
    rw [nzL, List.length_cons]
    split <;> omega
/-- What the kind is, of how full and how many. -/
def kindS (F n : Nat) : Int := if n = 0 then 1 else if F = 32768 then 2 else if F > 32768 then 5 else if n = 1 then (if F = 16384 then 3 else 4) else 4
theorem kind_loop (l : List Int) (hl : l.length ≤ 320) (F : Nat) (d : Nat) : ∀ (j n : Nat), j + d = l.length → n ≤ j → Ev (fun k => spec_CodeKind.l0 k l (F : Int) (n : Int) j) (kindS F (n + nzL (l.drop j))) := by
  induction d with
  | zero =>
    intro j n h hn
    rw [List.drop_of_length_le (by omega)]
    refine ev_ret (fun k => ?_)
    rw [spec_CodeKind.l0, if_neg (by omega)]
    have q1 : ((n : Int) = 0) ↔ n = 0 := by omega
    have q2 : ((F : Int) = 32768) ↔ F = 32768 := by omega
    have q3 : ((F : Int) > 32768) ↔ F > 32768 := by omega
    have q4 : ((n : Int) = 1) ↔ n = 1 := by omega
    have q5 : ((F : Int) = 16384) ↔ F = 16384 := by omega
    simp only [nzL, Nat.add_zero, q1, q2, q3, q4, q5]
    unfold kindS
    repeat' split
    all_goals first | rfl | omega
  | succ d ih =>
    intro j n h hn
    rw [drop_rd l j (by omega), nzL]
    by_cases c : rd l j > 0
    · have e : (if 0 < rd l (j : Int) then 1 else 0) = 1 := if_pos c
      have g := ih (j + 1) (n + 1) (by omega) (by omega)
      rw [e, ← Nat.add_assoc]
      refine Ev.step (fun k => ?_) g
      rw [spec_CodeKind.l0, if_pos (by omega), if_pos (by omega), if_pos c, w64_id (x := (n : Int) + 1) (by omega) (by omega), w64_id (x := (j : Int) + 1) (by omega) (by omega)]
      rfl
    · have e : (if 0 < rd l (j : Int) then 1 else 0) = 0 := if_neg c
      have g := ih (j + 1) n (by omega) (by omega)
      rw [e, Nat.zero_add]
      refine Ev.step (fun k => ?_) g
      rw [spec_CodeKind.l0, if_pos (by omega), if_pos (by omega), if_neg c, w64_id (x := (j : Int) + 1) (by omega) (by omega)]
      rfl
/-- The kind of any lengths. -/
def kindL (l : List Int) : Int := if okL l = true ∧ l.length ≤ 288 then kindS (fullS l) (nzL l) else 0
theorem kind_spec (l : List Int) : Ev (fun k => spec_CodeKind.f k l) (kindL l) := by
  have g := roomF_is l
  unfold kindL
  by_cases h : okL l = true ∧ l.length ≤ 288
  · rw [if_pos h] at g ⊢
    have g2 := kind_loop l (by omega) (fullS l) l.length 0 0 (by omega) (Nat.le_refl _)
    rw [List.drop_zero, Nat.zero_add] at g2
    refine ev_use g (fun k hk => ?_) g2
    unfold spec_CodeKind.f
    have hk : spec_l03Room.f k l 288 = _ := hk
    rw [hk, Option.bind_some, if_pos rfl]
    rfl
  · rw [if_neg h] at g ⊢
    refine ev_end g (fun k hk => ?_)
    show spec_CodeKind.f k l = _
    have hk : spec_l03Room.f k l 288 = _ := hk
    unfold spec_CodeKind.f
    rw [hk, Option.bind_some, if_neg (by decide)]
theorem nzTo_cons (x : Int) (l : List Int) : ∀ m, (symsTo (x :: l) m).length = (symsTo l m).length + if 0 < x ∧ x ≤ (m : Int) then 1 else 0
  | 0 => by rw [symsTo, symsTo, if_neg (by omega)]; rfl
  | m + 1 => by
    have ih := nzTo_cons x l m
    have e1 := syms_split (x :: l) (m + 1) (by omega)
    have e2 := syms_split l (m + 1) (by omega)
    rw [Nat.add_sub_cancel] at e1 e2
    rw [e1, e2, ih, cntN_cons]
    by_cases h1 : x = ((m + 1 : Nat) : Int)
    · have q1 : (if 0 < x ∧ x ≤ (m : Int) then 1 else 0) = 0 := if_neg (by omega)
      have q2 : (if 0 < m + 1 ∧ x = ((m + 1 : Nat) : Int) then 1 else 0) = 1 := if_pos ⟨by omega, h1⟩
      have q3 : (if 0 < x ∧ x ≤ ((m + 1 : Nat) : Int) then 1 else 0) = 1 := if_pos (by omega)
      rw [q1, q2, q3]
      omega
    · have q2 : (if 0 < m + 1 ∧ x = ((m + 1 : Nat) : Int) then 1 else 0) = 0 := if_neg (fun h => h1 h.2)
      have q3 : (if 0 < x ∧ x ≤ ((m + 1 : Nat) : Int) then 1 else 0) = (if 0 < x ∧ x ≤ (m : Int) then 1 else 0) := by
        by_cases h2 : 0 < x ∧ x ≤ (m : Int)
        · rw [if_pos h2, if_pos (by omega)]
        · rw [if_neg h2, if_neg (by omega)]
      rw [q2, q3]
      omega
theorem nz_is : ∀ (l : List Int), okL l = true → (symsTo l 15).length = nzL l
  | [], _ => by decide
  | x :: l, h => by
    rw [okL_cons, Bool.and_eq_true] at h
    have hx := of_decide_eq_true h.1
    rw [nzTo_cons, nz_is l h.2, nzL]
    by_cases h0 : 0 < x
    · rw [if_pos h0, if_pos (by omega)]; omega
    · rw [if_neg h0, if_neg (by omega)]; omega
theorem full_zero : ∀ (l : List Int), okL l = true → (fullS l = 0 ↔ nzL l = 0) ∧ (nzL l = 0 → cntN l 1 = 0) ∧ (nzL l = 1 → (fullS l = 16384 ↔ cntN l 1 = 1))
  | [], _ => by decide
  | x :: l, h => by
    rw [okL_cons, Bool.and_eq_true] at h
    have hx := of_decide_eq_true h.1
    obtain ⟨i1, i2, i3⟩ := full_zero l h.2
    rw [fullS, nzL, cntN_cons]
    by_cases h0 : 0 < x
    · have p : 0 < 2 ^ (15 - x.toNat) := Nat.pos_of_ne_zero (by simp)
      rw [if_pos h0, if_pos h0]
      refine ⟨by omega, by omega, fun h1 => ?_⟩
      have z := i2 (by omega)
      have y := i1.2 (by omega)
      rw [z, y]
      by_cases hx1 : x = 1
      · subst hx1; decide
      · have q : (if 0 < 1 ∧ x = ((1 : Nat) : Int) then 1 else 0) = 0 := if_neg (fun h => hx1 h.2)
        have p2 : 2 ^ (15 - x.toNat) ≤ 2 ^ 13 := Nat.pow_le_pow_right (by omega) (by omega)
        rw [q]
        omega
    · have q : (if 0 < 1 ∧ x = ((1 : Nat) : Int) then 1 else 0) = 0 := if_neg (fun h => by have := h.2; omega)
      rw [if_neg h0, if_neg h0, q]
      refine ⟨by omega, by omega, fun h1 => ?_⟩
      have := i3 (by omega)
      omega
theorem kindI_is (l : List Int) (h : okL l = true) : kindI l = kindS (fullS l) (nzL l) := by
  obtain ⟨i1, i2, i3⟩ := full_zero l h
  unfold kindI kindS
  rw [fullS_is l (okL_mem h), nz_is l h]
  by_cases h1 : fullS l = 0
  · rw [if_pos h1, if_pos (i1.1 h1)]
  · rw [if_neg h1, if_neg (fun h2 => h1 (i1.2 h2))]
    by_cases h2 : fullS l = 32768
    · rw [if_pos h2, if_pos h2]
    · rw [if_neg h2, if_neg h2]
      by_cases h3 : 32768 < fullS l
      · rw [if_pos h3, if_pos h3]
      · rw [if_neg h3, if_neg h3]
        by_cases h4 : nzL l = 1
        · rw [if_pos h4]
          by_cases h5 : fullS l = 16384
          · rw [if_pos h5, if_pos ⟨h4, (i3 h4).1 h5⟩]
          · rw [if_neg h5, if_neg (fun h6 => h5 ((i3 h4).2 h6.2))]
        · rw [if_neg (fun h6 => h4 h6.1), if_neg h4]
theorem kind_impl (l : List Int) (hl : l.length ≤ 1048576) : impl_CodeKind.f l = some (kindL l) := by
  unfold impl_CodeKind.f kindL
  rw [lensOk_k l hl, Option.bind_some]
  unfold kindF
  by_cases h : okL l = true ∧ l.length ≤ 288
  · rw [h.1, decide_eq_true (show (l.length : Int) ≤ 288 by omega), Bool.and_true, if_pos rfl, if_pos (by omega), if_pos ⟨rfl, h.2⟩, kindI_is l h.1]
  · rw [if_neg h]
    have e : (okL l && decide ((l.length : Int) ≤ 288)) = false := by
      by_cases h1 : okL l = true
      · rw [h1, Bool.true_and]
        exact decide_eq_false (fun h2 => h ⟨h1, by omega⟩)
      · have : okL l = false := by simpa using h1
        rw [this, Bool.false_and]
    rw [e, if_neg (by decide)]

/-- Have these lengths codes. -/
def hasC (l : List Int) : Bool := kindL l != 0 && kindL l != 5
theorem hasC_impl (l : List Int) (hl : l.length ≤ 1048576) : impl_hasCodes.f l = some (hasC l) := by
  unfold impl_hasCodes.f hasC
  rw [kind_impl l hl, Option.bind_some]
  by_cases h : kindL l = 0
  · rw [if_pos h, h]; rfl
  · rw [if_neg h]
    have : (kindL l != 0) = true := by simpa using h
    rw [this, Bool.true_and]
theorem hasC_ok {l : List Int} (h : hasC l = true) : okL l = true ∧ l.length ≤ 288 ∧ fullS l ≤ 32768 := by
  unfold hasC kindL at h
  by_cases h1 : okL l = true ∧ l.length ≤ 288
  · rw [if_pos h1] at h
    refine ⟨h1.1, h1.2, ?_⟩
    unfold kindS at h
    by_cases h2 : nzL l = 0
    · have := ((full_zero l h1.1).1).2 h2
      omega
    · rw [if_neg h2] at h
      by_cases h3 : fullS l = 32768
      · omega
      · rw [if_neg h3] at h
        by_cases h4 : fullS l > 32768
        · rw [if_pos h4] at h
          simp at h
        · omega
  · rw [if_neg h1] at h
    simp at h
/-- The codes as far as told: of less than n bits, and of n bits of the first i symbols. -/
def outS (l : List Int) (n i : Nat) : List Int := (List.range l.length).map fun j : Nat => if 0 < rd l (j : Int) ∧ (rd l (j : Int) < (n : Int) ∨ (rd l (j : Int) = (n : Int) ∧ j < i)) then ((codeN l j : Nat) : Int) else 0
theorem outS_len (l : List Int) (n i : Nat) : (outS l n i).length = l.length := by unfold outS; simp
theorem outS_set (l : List Int) (n i : Nat) (hn : 0 < n) (hi : i < l.length) (e : rd l (i : Int) = (n : Int)) : (outS l n i).set i (((firstN l n + rankN l n i : Nat) : Int)) = outS l n (i + 1) := by
  unfold outS
  apply List.ext_getElem
  · simp
  · intro j h1 h2
    simp only [List.getElem_set, List.getElem_map, List.getElem_range]
    by_cases h : i = j
    · subst h
      rw [if_pos rfl, if_pos ⟨by omega, Or.inr ⟨e, by omega⟩⟩]
      unfold codeN
      rw [e, Int.toNat_natCast]
    · rw [if_neg h]
      by_cases c : 0 < rd l (j : Int) ∧ (rd l (j : Int) < (n : Int) ∨ (rd l (j : Int) = (n : Int) ∧ j < i))
      · rw [if_pos c, if_pos (by omega)]
      · rw [if_neg c, if_neg (by omega)]
theorem outS_same (l : List Int) (n i : Nat) (e : ¬ rd l (i : Int) = (n : Int)) : outS l n (i + 1) = outS l n i := by
  unfold outS
  apply List.map_congr_left
  intro j _
  by_cases h : i = j
  · subst h
    by_cases c : 0 < rd l (i : Int) ∧ rd l (i : Int) < (n : Int)
    · rw [if_pos ⟨c.1, Or.inl c.2⟩, if_pos ⟨c.1, Or.inl c.2⟩]
    · rw [if_neg (by omega), if_neg (by omega)]
  · by_cases c : 0 < rd l (j : Int) ∧ (rd l (j : Int) < (n : Int) ∨ (rd l (j : Int) = (n : Int) ∧ j < i))
    · rw [if_pos c, if_pos (by omega)]
    · rw [if_neg c, if_neg (by omega)]
theorem outS_next (l : List Int) (n : Nat) : outS l n l.length = outS l (n + 1) 0 := by
  unfold outS
  apply List.map_congr_left
  intro j hj
  have := List.mem_range.1 hj
  by_cases c : 0 < rd l (j : Int) ∧ rd l (j : Int) < ((n + 1 : Nat) : Int)
  · rw [if_pos (by omega), if_pos ⟨c.1, Or.inl c.2⟩]
  · rw [if_neg (by omega), if_neg (by omega)]
theorem outS_start (l : List Int) : outS l 1 0 = List.replicate l.length 0 := by
  unfold outS
  apply List.ext_getElem
  · simp
  · intro j h1 h2
    simp only [List.getElem_map, List.getElem_range, List.getElem_replicate]
    rw [if_neg (by omega)]
theorem outS_end (l : List Int) (h : okL l = true) : outS l 16 0 = codesI l l.length := by
  unfold outS codesI
  apply List.map_congr_left
  intro j hj
  have hj := List.mem_range.1 hj
  have hm := okL_mem h _ (rd_mem l j hj)
  by_cases c : 0 < rd l (j : Int)
  · rw [if_pos ⟨c, Or.inl (by omega)⟩, if_pos c]
  · rw [if_neg (fun h => c h.1), if_neg c]
theorem codes_inner (l : List Int) (hl : l.length ≤ 288) (n : Nat) (hn : 0 < n) (hn2 : n ≤ 15) (R : List Int × Bool) (hR : Ev (fun k => spec_CodesOf.l0 k l (outS l n l.length) ((firstN l n + cntN l n : Nat) : Int) ((n + 1 : Nat) : Int)) R) (d : Nat) : ∀ i : Nat, i + d = l.length →
    Ev (fun k => spec_CodesOf.l1 k l (outS l n i) ((firstN l n + rankN l n i : Nat) : Int) (n : Int) (i : Int)) R := by
  induction d with
  | zero =>
    intro i h
    obtain rfl : i = l.length := by omega
    rw [rankN_all, ← cntN_pos l n hn]
    refine Ev.step (fun k => ?_) hR
    rw [spec_CodesOf.l1, if_neg (by omega), w64_id (x := (n : Int) + 1) (by omega) (by omega)]
    rfl
  | succ d ih =>
    intro i h
    have g := ih (i + 1) (by omega)
    have hb := firstB l (by omega) n hn2
    have hr := rank_le l n i
    by_cases c : rd l (i : Int) = (n : Int)
    · rw [← outS_set l n i hn (by omega) c, rankN, if_pos c] at g
      refine Ev.step (fun k => ?_) g
      rw [spec_CodesOf.l1, if_pos (by omega), if_pos (by omega), if_pos c, if_pos (by rw [outS_len]; omega), Int.toNat_natCast, w64_id (x := ((firstN l n + rankN l n i : Nat) : Int) + 1) (by omega) (by omega), w64_id (x := (i : Int) + 1) (by omega) (by omega)]
      have e1 : ((firstN l n + rankN l n i : Nat) : Int) + 1 = ((firstN l n + (rankN l n i + 1) : Nat) : Int) := by omega
      rw [e1]
      rfl
    · rw [outS_same l n i c, rankN, if_neg c] at g
      refine Ev.step (fun k => ?_) g
      rw [spec_CodesOf.l1, if_pos (by omega), if_pos (by omega), if_neg c, w64_id (x := (i : Int) + 1) (by omega) (by omega)]
      rfl
theorem codes_outer (l : List Int) (hl : l.length ≤ 288) (ho : okL l = true) (d : Nat) : ∀ m : Nat, m + d = 15 →
    Ev (fun k => spec_CodesOf.l0 k l (outS l (m + 1) 0) ((firstN l m + cntN l m : Nat) : Int) ((m + 1 : Nat) : Int)) (codesI l l.length, true) := by
  induction d with
  | zero =>
    intro m h
    obtain rfl : m = 15 := by omega
    refine ev_ret (fun k => ?_)
    rw [spec_CodesOf.l0, if_neg (by omega), outS_end l ho]
  | succ d ih =>
    intro m h
    have g := ih (m + 1) (by omega)
    rw [← outS_next] at g
    have g2 := codes_inner l hl (m + 1) (by omega) (by omega) _ g l.length 0 (by omega)
    have hb := firstB l (by omega) m (by omega)
    have hc := cnt_le l m
    rw [rankN, Nat.add_zero, firstN] at g2
    refine Ev.step (fun k => ?_) g2
    rw [spec_CodesOf.l0, if_pos (by omega), w64_id (x := 2 * ((firstN l m + cntN l m : Nat) : Int)) (by omega) (by omega)]
    rfl
theorem codesI_rd (l : List Int) (i : Nat) (h : i < l.length) (h0 : 0 < rd l (i : Int)) : rd (codesI l l.length) (i : Int) = ((codeN l i : Nat) : Int) := by
  have e : (codesI l l.length)[i]? = some ((codeN l i : Nat) : Int) := by
    unfold codesI
    rw [List.getElem?_map, List.getElem?_range h]
    simp only [Option.map_some, if_pos h0]
  unfold rd
  rw [Int.toNat_natCast, List.getD_eq_getElem?_getD, e]
  rfl
/-- The codes of any lengths. -/
def codesR (l : List Int) : List Int × Bool := if hasC l = true then (codesI l l.length, true) else ([], false)
theorem codes_spec (l : List Int) : Ev (fun k => spec_CodesOf.f k l) (codesR l) := by
  have g := kind_spec l
  have hj : ∀ x : Bool, x = !hasC l → Ev (fun k => spec_CodesOf.j0 k l x) (codesR l) := by
    intro x hx
    unfold codesR
    by_cases h : hasC l = true
    · rw [if_pos h]
      obtain ⟨h1, h2, h3⟩ := hasC_ok h
      have e := codes_outer l h2 h1 15 0 (by omega)
      rw [show firstN l 0 + cntN l 0 = 0 by rfl, outS_start] at e
      have hx2 : x = false := by rw [hx, h]; rfl
      rw [hx2]
      refine Ev.step (fun k => ?_) e
      rw [spec_CodesOf.j0, if_neg (by decide), if_pos (by omega), Int.toNat_natCast, if_pos (by omega)]
      rfl
    · rw [if_neg h]
      have hx2 : x = true := by rw [hx]; simpa using h
      rw [hx2]
      exact ev_ret (fun k => by rw [spec_CodesOf.j0, if_pos rfl])
  by_cases h0 : kindL l = 0
  · have e := hj true (by unfold hasC; rw [h0]; rfl)
    refine ev_use g (fun k hk => ?_) e
    unfold spec_CodesOf.f
    have hk : spec_CodeKind.f k l = _ := hk
    rw [hk, Option.bind_some, if_pos h0]
  · have e := hj (kindL l == 5) (by
      unfold hasC
      have : (kindL l != 0) = true := by simpa using h0
      rw [this, Bool.true_and]
      cases h5 : (kindL l == 5) <;> simp [bne, h5])
    refine ev_use g (fun k hk => ?_) e
    unfold spec_CodesOf.f
    have hk : spec_CodeKind.f k l = _ := hk
    rw [hk, Option.bind_some, if_neg h0]
theorem codes_impl (l : List Int) (hl : l.length ≤ 1048576) : impl_CodesOf.f l = some (codesR l) := by
  unfold impl_CodesOf.f codesR
  rw [hasC_impl l hl, Option.bind_some]
  unfold codesF
  by_cases h : hasC l = true
  · obtain ⟨h1, h2, h3⟩ := hasC_ok h
    rw [if_pos h, if_pos h, if_pos ⟨by omega, okL_mem h1⟩]
  · rw [if_neg h, if_neg h]
theorem codesR_len (l : List Int) : (codesR l).1.length ≤ l.length := by
  unfold codesR
  split
  · rw [codesI_len]; exact Nat.le_refl _
  · exact Nat.zero_le _

theorem bytes_back (xs : List Int) (h : ∀ x ∈ xs, 0 ≤ x ∧ x ≤ 255) : bytesOf (strOfNums xs) = xs := by
  have e : bytesOf (strOfNums xs) = (strOfNums xs).data.toList.map fun b => (b.toNat : Int) := rfl
  rw [e]
  unfold strOfNums
  rw [List.map_map]
  have : ∀ x ∈ xs, ((fun b : UInt8 => (b.toNat : Int)) ∘ fun n : Int => UInt8.ofNat n.toNat) x = x := by
    intro x hx
    obtain ⟨h0, h1⟩ := h x hx
    simp only [Function.comp]
    have : (UInt8.ofNat x.toNat).toNat = x.toNat := by
      rw [UInt8.toNat_ofNat']
      omega
    rw [this]
    omega
  rw [List.map_congr_left this, List.map_id']
theorem nums_size (xs : List Int) : (strOfNums xs).size = xs.length := by simp [strOfNums, ByteArray.size]
/-- Bytes with a count make a right Out. -/
theorem inv_ok (xs : List Int) (C : Nat) (h : Inv xs C) (hC : C ≤ 96000) : okB (strOfNums xs) (C : Int) = true := by
  have hb := bytes_back xs h.rng
  have hs := nums_size xs
  have hl := h.len
  unfold okB
  rw [hs, if_pos (by omega)]
  by_cases hm : (C : Int) % 8 = 0
  · rw [if_pos hm]
  · rw [if_neg hm]
    have hlow := h.low (by omega)
    have e1 : ((xs.length : Int) - 1) = ((C / 8 : Nat) : Int) := by omega
    have e2 : ((C : Int) % 8).toNat = C % 8 := by omega
    have e3 := bytesOf_rd (strOfNums xs) (C / 8) (by omega)
    rw [hb] at e3
    rw [e1, e2, ← e3]
    exact decide_eq_true hlow
/-- The reference's PutCode, out of the bytes that are there. -/
theorem putcode_at (xs : List Int) (C : Nat) (v n : Nat) (h : Inv xs C) (hC : C ≤ 96000) (hn : n ≤ 24) (hv : v < 2 ^ n) :
    Ev (fun k => spec_PutCode.f k (strOfNums xs) (C : Int) (v : Int) (n : Int)) (if C + n ≤ 96000 then (strOfNums (putAll (highs (v : Int) n n) xs C), ((C + n : Nat) : Int), true) else (⟨#[]⟩, 0, false)) := by
  have hok := inv_ok xs C h hC
  have hsz := nums_size xs
  have hl := h.len
  have hp : 2 ^ n ≤ 2 ^ 24 := Nat.pow_le_pow_right (by omega) hn
  have hB : putB (v : Int) (n : Int) = true := by
    unfold putB
    rw [decide_eq_true (⟨by omega, by omega⟩ : (0 : Int) ≤ (n : Int) ∧ (n : Int) ≤ 24), Bool.true_and, Int.toNat_natCast]
    have e : (2 : Int) ^ n = ((2 ^ n : Nat) : Int) := by push_cast; rfl
    rw [e]
    exact decide_eq_true (by omega)
  have hm := may_spec (strOfNums xs) (C : Int) (v : Int) (n : Int) (by omega) (by omega) (by omega)
  rw [hok, hB, Bool.true_and, Bool.true_and] at hm
  by_cases hc : C + n ≤ 96000
  · rw [if_pos hc]
    rw [decide_eq_true (show (C : Int) ≤ 96000 - (n : Int) by omega)] at hm
    have hrng := highs_rng (v : Int) n n (by omega) (by omega)
    obtain ⟨e1, e2⟩ := put_all (highs (v : Int) n n) xs C h hrng
    have h1 : spec_l01Put.f (strOfNums xs) (C : Int) (v : Int) ((List.range n).map fun j : Nat => (n : Int) - 1 - (j : Int)) = some (strOfNums (putAll (highs (v : Int) n n) xs C), ((C + n : Nat) : Int)) := by
      unfold spec_l01Put.f l01PutF
      rw [if_pos ⟨by omega, by omega, by omega, by omega, by omega, by simp; omega, fun i hi => by
        have hi' : i < n := by simpa using hi
        rw [cplaces_rd _ _ hi']
        omega⟩, highs_bits, bytes_back xs h.rng, Int.toNat_natCast, e1]
      simp
    have hlp := putcode_loop (strOfNums xs) (C : Int) (v : Int) n hn _ h1 n 0 (by omega)
    rw [show (n : Int) - 1 - ((0 : Nat) : Int) = wrap64 ((n : Int) - 1) by rw [w64_id (by omega) (by omega)]; omega] at hlp
    refine ev_use hm (fun k hk => ?_) hlp
    unfold spec_PutCode.f
    rw [hk]
    rfl
  · rw [if_neg hc]
    rw [decide_eq_false (show ¬ (C : Int) ≤ 96000 - (n : Int) by omega)] at hm
    refine ev_end hm (fun k hk => ?_)
    unfold spec_PutCode.f
    rw [hk]
    rfl
open Go.Proofs.Ytimomemkbcidnaa.MSym
theorem over_fails (l codes : List Int) (xs : List Int) (c : Nat) (h : xs.length > 12000) : ∀ ys, putSymL l codes ys xs c = some (⟨#[]⟩, 0, false)
  | [] => by rw [putSymL]; unfold outF; rw [if_neg (by omega)]
  | y :: ys => by
    rw [putSymL]
    by_cases h1 : 0 ≤ y ∧ y ≤ (l.length : Int) - 1
    · rw [if_pos h1]
      by_cases h2 : rd l y = 0
      · rw [if_pos h2]
      · rw [if_neg h2, if_pos h]
    · rw [if_neg h1]
/-- A code fits in its bits. -/
theorem code_fits (l : List Int) (h : hasC l = true) (i : Nat) (hi : i < l.length) (h0 : 0 < rd l (i : Int)) : ∃ n : Nat, rd l (i : Int) = (n : Int) ∧ 0 < n ∧ n ≤ 15 ∧ codeN l i < 2 ^ n := by
  obtain ⟨ho, hl, hf⟩ := hasC_ok h
  have hm := okL_mem ho _ (rd_mem l i hi)
  obtain ⟨n, hn⟩ : ∃ n : Nat, rd l (i : Int) = (n : Int) := ⟨(rd l (i : Int)).toNat, by omega⟩
  have h1 := code_lt l i n hi (by omega) hn
  have h2 := first_fits l (by rw [fullS_is l (okL_mem ho)]; exact hf) n (by omega)
  exact ⟨n, hn, by omega, by omega, by omega⟩
theorem putsym_loop (l : List Int) (h : hasC l = true) (ys : List Int) (hy : ys.length ≤ 1048576) (d : Nat) : ∀ (i : Nat) (xs : List Int) (C : Nat), i + d = ys.length → Inv xs C → C ≤ 96000 →
    ∃ r, Ev (fun k => spec_PutSymbols.l0 k l ys (codesI l l.length) (i : Int) (strOfNums xs) (C : Int)) r ∧ putSymL l (codesI l l.length) (ys.drop i) xs C = some r := by
  obtain ⟨ho, hl, hf⟩ := hasC_ok h
  induction d with
  | zero =>
    intro i xs C hi hI hC
    refine ⟨(strOfNums xs, (C : Int), true), ev_ret (fun k => by rw [spec_PutSymbols.l0, if_neg (by omega)]), ?_⟩
    rw [List.drop_of_length_le (by omega), putSymL]
    unfold outF
    rw [if_pos (by have := hI.len; omega)]
  | succ d ih =>
    intro i xs C hi hI hC
    have hw : wrap64 ((l.length : Int) - 1) = (l.length : Int) - 1 := w64_id (by omega) (by omega)
    have hxl : ¬ xs.length > 12000 := by have := hI.len; omega
    rw [drop_rd ys i (by omega), putSymL]
    generalize hy0 : rd ys (i : Int) = y
    have j2T : Ev (fun k => spec_PutSymbols.j2 k l ys (codesI l l.length) (i : Int) y true (strOfNums xs) (C : Int)) (⟨#[]⟩, 0, false) := ev_ret (fun k => by rw [spec_PutSymbols.j2, if_pos rfl])
    by_cases hin : 0 ≤ y ∧ y ≤ (l.length : Int) - 1
    · rw [if_pos hin]
      obtain ⟨Y, rfl⟩ := Int.eq_ofNat_of_zero_le hin.1
      have up : ∀ (x : Bool) r, x = (rd l (Y : Int) == 0) → Ev (fun k => spec_PutSymbols.j2 k l ys (codesI l l.length) (i : Int) (Y : Int) x (strOfNums xs) (C : Int)) r → Ev (fun k => spec_PutSymbols.l0 k l ys (codesI l l.length) (i : Int) (strOfNums xs) (C : Int)) r := by
        intro x r hx g
        refine Ev.step (fun k => ?_) g
        rw [spec_PutSymbols.l0, if_pos (by omega), if_pos (by omega), hy0, hw, in_spec, decide_eq_true hin, Option.bind_some, if_pos rfl, if_pos (by omega), if_pos (by omega), ← hx]
      by_cases hz : rd l (Y : Int) = 0
      · rw [if_pos hz]
        exact ⟨_, up true _ (by rw [hz]; rfl) j2T, rfl⟩
      · rw [if_neg hz, if_neg hxl]
        have hm := okL_mem ho _ (rd_mem l Y (by omega))
        obtain ⟨n, hn, n0, n1, hfit⟩ := code_fits l h Y (by omega) (by omega)
        rw [if_pos (by omega), codesI_rd l Y (by omega) (by omega), hn, Int.toNat_natCast]
        have P := putcode_at xs C (codeN l Y) n hI hC (by omega) hfit
        have hw1 : wrap64 ((i : Int) + 1) = ((i + 1 : Nat) : Int) := w64_id (by omega) (by omega)
        have hrng := highs_rng ((codeN l Y : Nat) : Int) n n (by omega) (by
          have : 2 ^ n ≤ 2 ^ 24 := Nat.pow_le_pow_right (by omega) (by omega)
          omega)
        obtain ⟨_, hI2⟩ := put_all (highs ((codeN l Y : Nat) : Int) n n) xs C hI hrng
        rw [highs_len] at hI2
        by_cases hc : C + n ≤ 96000
        · rw [if_pos hc] at P
          obtain ⟨r, g1, g2⟩ := ih (i + 1) (putAll (highs ((codeN l Y : Nat) : Int) n n) xs C) (C + n) (by omega) hI2 hc
          refine ⟨r, up false r (by rw [hn]; symm; rw [beq_eq_false_iff_ne]; omega) (ev_use_step P (fun k hk => ?_) g1), g2⟩
          rw [spec_PutSymbols.j2, if_neg (by decide), if_pos (by omega), if_pos (by rw [codesI_len]; omega), if_pos (by omega), codesI_rd l Y (by omega) (by omega), hn, hk, Option.bind_some, if_pos rfl, hw1]
        · rw [if_neg hc] at P
          refine ⟨(⟨#[]⟩, 0, false), up false _ (by rw [hn]; symm; rw [beq_eq_false_iff_ne]; omega) (ev_use_step P (fun k hk => ?_) (Ev.now _)), over_fails l _ _ _ (by rw [hI2.len]; omega) _⟩
          rw [spec_PutSymbols.j2, if_neg (by decide), if_pos (by omega), if_pos (by rw [codesI_len]; omega), if_pos (by omega), codesI_rd l Y (by omega) (by omega), hn, hk, Option.bind_some, if_neg (by decide)]
    · rw [if_neg hin]
      refine ⟨(⟨#[]⟩, 0, false), Ev.step (fun k => ?_) j2T, rfl⟩
      rw [spec_PutSymbols.l0, if_pos (by omega), if_pos (by omega), hy0, hw, in_spec, decide_eq_false hin, Option.bind_some, if_neg (by decide)]
theorem putsym_both (s : ByteArray) (c : Int) (l ys : List Int) (hs : s.size ≤ 1048576) (c0 : -9223372036854775808 ≤ c) (c1 : c ≤ 9223372036854775807) (hl : l.length ≤ 1048576) (hy : ys.length ≤ 1048576) :
    ∃ r, Ev (fun k => spec_PutSymbols.f k s c l ys) r ∧ impl_PutSymbols.f s c l ys = some r := by
  have C := codes_spec l
  have O := ok_spec s c c0 c1 hs
  unfold impl_PutSymbols.f
  rw [codes_impl l hl, Option.bind_some, ok_impl s c c0 c1 hs, Option.bind_some]
  unfold putSymF
  unfold codesR at C ⊢
  by_cases h : hasC l = true
  · rw [if_pos h] at C ⊢
    rw [if_pos rfl]
    by_cases hok : okB s c = true
    · obtain ⟨N, rfl, h1, h2, h3, h4⟩ := ok_inv s c hok
      obtain ⟨ho, hl2, hf⟩ := hasC_ok h
      obtain ⟨r, g1, g2⟩ := putsym_loop l h ys hy ys.length 0 (bytesOf s) N (by omega) h4 h1
      rw [str_back] at g1
      rw [List.drop_zero] at g2
      rw [if_pos hok, if_pos ⟨by omega, by omega, by omega, codesI_len l _, by omega, by omega⟩, Int.toNat_natCast]
      have g3 : Ev (fun k => spec_PutSymbols.j0 k l ys (codesI l l.length) false s (N : Int)) r := Ev.step (fun k => by rw [spec_PutSymbols.j0, if_neg (by decide)]; rfl) g1
      refine ⟨r, ev_use (ev_pair C O) (fun k hk => ?_) g3, g2⟩
      obtain ⟨k1, k2⟩ := pair_some hk
      unfold spec_PutSymbols.f
      rw [k1, Option.bind_some, if_pos rfl, k2, Option.bind_some, hok]
      rfl
    · have hok' : okB s c = false := by simpa using hok
      rw [if_neg hok]
      have g3 : Ev (fun k => spec_PutSymbols.j0 k l ys (codesI l l.length) true s c) (⟨#[]⟩, 0, false) := ev_ret (fun k => by rw [spec_PutSymbols.j0, if_pos rfl])
      refine ⟨_, ev_use (ev_pair C O) (fun k hk => ?_) g3, rfl⟩
      obtain ⟨k1, k2⟩ := pair_some hk
      unfold spec_PutSymbols.f
      rw [k1, Option.bind_some, if_pos rfl, k2, Option.bind_some, hok']
      rfl
  · rw [if_neg h] at C ⊢
    have g3 : Ev (fun k => spec_PutSymbols.j0 k l ys [] true s c) (⟨#[]⟩, 0, false) := ev_ret (fun k => by rw [spec_PutSymbols.j0, if_pos rfl])
    refine ⟨_, ev_use C (fun k hk => ?_) g3, rfl⟩
    have hk : spec_CodesOf.f k l = _ := hk
    unfold spec_PutSymbols.f
    rw [hk, Option.bind_some, if_neg (by decide)]

theorem FnExactPutSymbols : laws_FnExactPutSymbols.Pure := by
  intro s c l ys hs hc h1 h2 hw h3 h4 hv
  have hs' : s.size ≤ 9223372036854775807 := by unfold maxLen at hs; omega
  obtain ⟨c0, c1⟩ := wf64 hc
  have w : wrap64 (1048576 - (s.size : Int)) = 1048576 - s.size := w64_id (by omega) (by omega)
  by_cases hb : (l.length : Int) > 1048576
  · exact ⟨0, by unfold laws_FnExactPutSymbols.f; rw [if_pos hb]⟩
  by_cases hb2 : (ys.length : Int) > 1048576
  · exact ⟨0, by unfold laws_FnExactPutSymbols.f; rw [if_neg hb, if_pos hb2]⟩
  by_cases hb3 : 1048576 - (s.size : Int) < 0
  · refine ⟨0, ?_⟩
    unfold laws_FnExactPutSymbols.f laws_szOut.f
    rw [if_neg hb, if_neg hb2, w, if_pos hb3, Option.bind_some, if_pos (by omega)]
  · obtain ⟨KT, T⟩ := toIntS_is l (by omega)
    obtain ⟨KU, U⟩ := toIntS_is ys (by omega)
    obtain ⟨⟨r1, r2, r3⟩, ⟨KS, S⟩, I⟩ := putsym_both s c l ys (by omega) c0 c1 (by omega) (by omega)
    obtain ⟨KL, EL⟩ := eqIntS_is l (by omega)
    obtain ⟨KC, EC⟩ := eqIntS_is ys (by omega)
    refine ⟨KT + KU + KS + KL + KC + 1, ?_⟩
    generalize hk : KT + KU + KS + KL + KC = K
    have bb : (r3 != r3) = false := by simp
    have t1 : laws_toIntS.f (K + 1) l = _ := T (K + 1) (by omega)
    have t0 : laws_toIntS.f K l = _ := T K (by omega)
    have u1 : laws_toIntS.f (K + 1) ys = _ := U (K + 1) (by omega)
    have u0 : laws_toIntS.f K ys = _ := U K (by omega)
    have s1 : spec_PutSymbols.f (K + 1) s c l ys = _ := S (K + 1) (by omega)
    have q0 : laws_eqIntS.f K l l = _ := EL K (by omega)
    have q1 : laws_eqIntS.f K ys ys = _ := EC K (by omega)
    unfold laws_FnExactPutSymbols.f laws_szOut.f laws_toOut.f
    rw [if_neg hb, if_neg hb2, w, if_neg hb3, Option.bind_some, if_neg hb3, Option.bind_some, t1, Option.bind_some, u1, Option.bind_some, s1, Option.bind_some, Option.bind_some, Option.bind_some, Option.bind_some, I, Option.bind_some]
    unfold laws_eqOut.f
    rw [if_pos rfl, if_pos rfl, Option.bind_some, if_pos rfl, bb, laws_FnExactPutSymbols.j0, if_neg (by decide), t0, Option.bind_some, q0, Option.bind_some, if_pos rfl, u0, Option.bind_some, q1, Option.bind_some, if_pos rfl]

end Go.Proofs.Ytimomemkbcidnaa.Pure
