/- The law FnBytes: for every input within the row's bounds the printed function answers true: what the program's function tells is what the law asks. Conditions: only the bounds that the row itself gives (sizes of strings and slices, ranges of the number kinds). -/
import Derived.Test.YtfmdenifbbhmdaaPFnBytesx4
namespace Go.Proofs.Ytfmdenifbbhmdaa.Pure
open Go.RowKit Go.Proofs.Ytfmdenifbbhmdaa.PFnBytes Go.Proofs.YtfmdenifbbhmdaaW.PrintWords Go.Proofs.YtfmdenifbbhmdaaW.PrintLast Go.Proofs.YtfmdenifbbhmdaaW.PrintMore
set_option linter.unusedVariables false
set_option linter.unusedSimpArgs false

theorem w64_id {x : Int} (h0 : -9223372036854775808 ≤ x) (h1 : x ≤ 9223372036854775807) : wrap64 x = x := by unfold wrap64; omega
theorem tmod_nn {a : Int} (b : Int) (h : 0 ≤ a) : Int.tmod a b = a % b := Int.tmod_eq_emod_of_nonneg h
theorem tdiv_nn {a : Int} (b : Int) (h : 0 ≤ a) : Int.tdiv a b = a / b := Int.tdiv_eq_ediv_of_nonneg h
theorem wf64 {n : Int} (h : (Lit.int .i64 n).wf = true) : -9223372036854775808 ≤ n ∧ n ≤ 9223372036854775807 := by
  simp [Lit.wf, IntKind.min, IntKind.max, IntKind.signed, IntKind.bits] at h
  omega
theorem wfu32 {n : Int} (h : (Lit.int .u32 n).wf = true) : 0 ≤ n ∧ n ≤ 4294967295 := by
  simp [Lit.wf, IntKind.min, IntKind.max, IntKind.signed, IntKind.bits] at h
  omega
theorem wraps64 (n : Int) (h0 : 0 ≤ n) (h1 : n < 2 ^ 63) : IntKind.i64.wrap n = n := by rw [IntKind.wrap_i64]; omega
theorem wrapsu32 (n : Int) (h0 : 0 ≤ n) (h1 : n < 2 ^ 32) : IntKind.u32.wrap n = n := by rw [IntKind.wrap_u32]; omega
/-- a | b of parts that do not meet, of an int. -/
theorem or64 (i : Nat) (x y : Int) (hx0 : 0 ≤ x) (hx : x % 2 ^ i = 0) (hx1 : x < 2 ^ 63) (hy0 : 0 ≤ y) (hy : y < 2 ^ i) (hy1 : y < 2 ^ 63) : Go.bits .or .i64 x y = x + y :=
  bits_join .i64 63 (by decide) wraps64 i x y hx0 hx hx1 hy0 hy hy1
theorem ev_ite_pos {α : Type} {c : Prop} [Decidable c] {f g : Nat → Option α} {r : α} (h : c) (k : Ev f r) : Ev (fun n => if c then f n else g n) r := Ev.congr (fun n => if_pos h) k
theorem ev_ite_neg {α : Type} {c : Prop} [Decidable c] {f g : Nat → Option α} {r : α} (h : ¬ c) (k : Ev g r) : Ev (fun n => if c then f n else g n) r := Ev.congr (fun n => if_neg h) k
/-- A callee without rounds that answers. -/
theorem ev_bind0 {α β : Type} {o : Option α} {f : Nat → α → Option β} {a : α} {r : β} (h : o = some a) (k : Ev (fun n => f n a) r) : Ev (fun n => o.bind (f n)) r := Ev.congr (fun n => by rw [h]; rfl) k
theorem bt_lo (s : ByteArray) (i : Int) : 0 ≤ bt s i := (bt_range s i).1
theorem bt_hi (s : ByteArray) (i : Int) : bt s i ≤ 255 := (bt_range s i).2
/-- A callee that answers from some number of rounds on, used. -/
theorem ev_use {α β : Type} {g : Nat → Option α} {a : α} {F G : Nat → Option β} {r : β} (e : Ev g a) (h : ∀ k, g k = some a → F k = G k) (c : Ev G r) : Ev F r := by
  obtain ⟨K, e⟩ := e
  obtain ⟨K', c⟩ := c
  exact ⟨max K K', fun n hn => (h n (e n (by omega))).trans (c n (by omega))⟩
theorem ev_use_step {α β : Type} {g : Nat → Option α} {a : α} {F G : Nat → Option β} {r : β} (e : Ev g a) (h : ∀ k, g k = some a → F (k + 1) = G k) (c : Ev G r) : Ev F r := by
  obtain ⟨K, e⟩ := e
  obtain ⟨K', c⟩ := c
  refine ⟨max K K' + 1, fun n hn => ?_⟩
  obtain ⟨m, rfl⟩ : ∃ m, n = m + 1 := ⟨n - 1, by omega⟩
  exact (h m (e m (by omega))).trans (c m (by omega))
theorem ev_end {α β : Type} {g : Nat → Option α} {a : α} {F : Nat → Option β} {r : β} (e : Ev g a) (h : ∀ k, g k = some a → F k = some r) : Ev F r := by
  obtain ⟨K, e⟩ := e
  exact ⟨K, fun n hn => h n (e n hn)⟩
theorem ev_two {α β : Type} {g : Nat → Option α} {h : Nat → Option β} {a : α} {b : β} (e : Ev g a) (f : Ev h b) : ∃ k, g k = some a ∧ h k = some b := by
  obtain ⟨K, e⟩ := e
  obtain ⟨K', f⟩ := f
  exact ⟨max K K', e _ (by omega), f _ (by omega)⟩
theorem ev_ret {α : Type} {F : Nat → Option α} {r : α} (h : ∀ k, F (k + 1) = some r) : Ev F r := ⟨1, fun n hn => by obtain ⟨m, rfl⟩ : ∃ m, n = m + 1 := ⟨n - 1, by omega⟩; exact h m⟩

theorem in_spec (a b c : Int) : spec_l01In.f a b c = some (decide (b ≤ a ∧ a ≤ c)) := by
  unfold spec_l01In.f
  split
  · rename_i h
    have e : (decide (a ≤ c)) = decide (b ≤ a ∧ a ≤ c) := decide_eq_decide.mpr ⟨fun h' => ⟨h, h'⟩, fun h' => h'.2⟩
    rw [e]
  · rename_i h
    have e : (decide (b ≤ a ∧ a ≤ c)) = false := decide_eq_false fun h' => h h'.1
    rw [e]

theorem in_impl (a b c : Int) : impl_within.f a b c = some (decide (b ≤ a ∧ a ≤ c)) := by
  unfold impl_within.f
  split
  · rename_i h
    have e : (decide (a ≤ c)) = decide (b ≤ a ∧ a ≤ c) := decide_eq_decide.mpr ⟨fun h' => ⟨h, h'⟩, fun h' => h'.2⟩
    rw [e]
  · rename_i h
    have e : (decide (b ≤ a ∧ a ≤ c)) = false := decide_eq_false fun h' => h h'.1
    rw [e]

/-- 2^n, as the loop doubles it. -/
theorem pow_loop (n : Int) (d : Nat) : ∀ (x i : Int), 0 ≤ i → i + d = n → 0 ≤ x → x * 2 ^ d ≤ 4611686018427387904 → n ≤ 62 →
    Ev (fun k => spec_l01Pow.l0 k n x i) (x * 2 ^ d) := by
  induction d with
  | zero =>
    intro x i h0 h hx hb hn
    refine ev_ret (fun k => ?_)
    rw [spec_l01Pow.l0, if_neg (by omega)]
    simp
  | succ d ih =>
    intro x i h0 h hx hb hn
    have e : x * 2 ^ (d + 1) = 2 * x * 2 ^ d := by rw [Int.pow_succ, ← Int.mul_assoc, Int.mul_comm (x * 2 ^ d) 2, ← Int.mul_assoc]
    have hp : (1 : Int) ≤ 2 ^ d := by have : (0 : Int) < 2 ^ d := Int.pow_pos (by omega); omega
    have h2 : 2 * x ≤ 2 * x * 2 ^ d := by
      have := Int.mul_le_mul_of_nonneg_left hp (show 0 ≤ 2 * x by omega)
      omega
    have h3 := ih (2 * x) (i + 1) (by omega) (by omega) (by omega) (by omega) hn
    rw [e]
    refine Ev.step (fun k => ?_) h3
    rw [spec_l01Pow.l0, if_pos (by omega), w64_id (x := 2 * x) (by omega) (by omega), w64_id (x := i + 1) (by omega) (by omega)]
theorem pow_is (n : Nat) (hn : n ≤ 62) : Ev (fun k => spec_l01Pow.f k (n : Int)) (2 ^ n) := by
  have hb : (2 : Int) ^ n ≤ 2 ^ 62 := by exact_mod_cast Nat.pow_le_pow_right (n := 2) (by omega) hn
  have h := pow_loop n n 1 0 (by omega) (by omega) (by omega) (by rw [Int.one_mul]; exact hb) (by omega)
  rw [Int.one_mul] at h
  exact h
theorem pow_at (n : Int) (h0 : 0 ≤ n) (hn : n ≤ 62) : Ev (fun k => spec_l01Pow.f k n) (2 ^ n.toNat) := by
  have h := pow_is n.toNat (by omega)
  rw [Int.toNat_of_nonneg h0] at h
  exact h

theorem nums_size (xs : List Int) : (strOfNums xs).size = xs.length := by simp [strOfNums, ByteArray.size]
theorem nums_join (xs ys : List Int) : strOfNums xs ++ strOfNums ys = strOfNums (xs ++ ys) := by
  apply ByteArray.ext
  simp [strOfNums]

theorem rd_nat (l : List Int) (j : Nat) : rd l j = l.getD j 0 := by unfold rd; simp
theorem rd_getElem (l : List Int) (j : Nat) (h : j < l.length) : rd l j = l[j] := by rw [rd_nat, List.getD_eq_getElem?_getD, List.getElem?_eq_getElem h]; rfl
theorem rd_mem (l : List Int) (j : Nat) (h : j < l.length) : rd l j ∈ l := by rw [rd_getElem l j h]; exact List.getElem_mem h
theorem drop_rd (l : List Int) (j : Nat) (h : j < l.length) : l.drop j = rd l j :: l.drop (j + 1) := by rw [rd_getElem l j h]; exact List.drop_eq_getElem_cons h
theorem rd_set (l : List Int) (a : Nat) (v : Int) (j : Nat) (h : a < l.length) : rd (l.set a v) j = if j = a then v else rd l j := by
  rw [rd_nat, rd_nat, List.getD_eq_getElem?_getD, List.getD_eq_getElem?_getD, List.getElem?_set]
  by_cases e : j = a
  · subst e
    simp [h]
  · rw [if_neg (Ne.symm e), if_neg e]
theorem take_set_snoc (l : List Int) (j : Nat) (v : Int) (h : j < l.length) : (l.set j v).take (j + 1) = l.take j ++ [v] := by
  rw [List.take_succ_eq_append_getElem (by simpa using h)]
  simp [List.take_set_of_le]

/-- x & 255 is a byte, whatever x is. -/
theorem and255 (x : Int) : 0 ≤ Go.bits .and .i64 x 255 ∧ Go.bits .and .i64 x 255 ≤ 255 := by
  have h : (BitVec.ofInt 64 x &&& BitVec.ofInt 64 255).toNat ≤ 255 := by
    rw [BitVec.toNat_and]
    exact Nat.le_trans Nat.and_le_right (by decide)
  have e : Go.bits .and .i64 x 255 = IntKind.i64.wrap ((BitVec.ofInt 64 x &&& BitVec.ofInt 64 255).toNat : Int) := rfl
  rw [e, wraps64 _ (by omega) (by omega)]
  omega
theorem new_ends (l : List Int) (d : Nat) : ∀ (h : Int) (i : Nat), i + d = 4000 → ∃ h', Ev (fun k => spec_l01New.l0 k l h i) (l, 0, h') := by
  induction d with
  | zero =>
    intro h i hi
    exact ⟨h, ev_ret (fun k => by
      rw [spec_l01New.l0]
      split
      · rw [if_neg (by omega)]
      · rfl)⟩
  | succ d ih =>
    intro h i hi
    by_cases c : (i : Int) < (l.length : Int)
    · obtain ⟨h', e⟩ := ih (Go.bits .and .i64 (wrap64 ((wrap64 ((wrap64 (h * 131)) + (wrap64 (rd l i)))) + 7)) 1073741823) (i + 1) (by omega)
      exact ⟨h', Ev.step (fun k => by rw [spec_l01New.l0, if_pos c, if_pos (by omega), if_pos (by omega), w64_id (x := (i : Int) + 1) (by omega) (by omega)]; rfl) e⟩
    · exact ⟨h, ev_ret (fun k => by rw [spec_l01New.l0, if_neg c])⟩
theorem new_is (l : List Int) : ∃ h, Ev (fun k => spec_l01New.f k l) (l, 0, h) := new_ends l 4000 _ 0 (by omega)
theorem byte_is (l : List Int) (hl : l.length ≤ 9223372036854775807) (i h : Int) (hi : 0 ≤ i) : ∃ x i' h', spec_l01Byte.f l i h = some (x, i', h') ∧ 0 ≤ x ∧ x ≤ 255 ∧ 0 ≤ i' := by
  unfold spec_l01Byte.f
  by_cases c : i < (l.length : Int)
  · rw [if_pos c, if_pos hi]
    have := and255 (wrap64 ((Go.bits .and .i64 (Go.bits .xor .i64 ((wrap64 ((wrap64 (h * 6364136223846793005)) + 1442695040888963407)) / 8589934592) ((wrap64 ((wrap64 (h * 6364136223846793005)) + 1442695040888963407)) / 35184372088832)) 255) + (wrap64 (rd l i))))
    exact ⟨_, _, _, rfl, this.1, this.2, by rw [w64_id (by omega) (by omega)]; omega⟩
  · rw [if_neg c]
    have := and255 (Go.bits .xor .i64 ((wrap64 ((wrap64 (h * 6364136223846793005)) + 1442695040888963407)) / 8589934592) ((wrap64 ((wrap64 (h * 6364136223846793005)) + 1442695040888963407)) / 35184372088832))
    exact ⟨_, _, _, rfl, this.1, this.2, hi⟩
theorem below_is (l : List Int) (hl : l.length ≤ 9223372036854775807) (i h n : Int) (hi : 0 ≤ i) : ∃ x i' h', spec_l01Below.f l i h n = some (x, i', h') ∧ 0 ≤ x ∧ (0 < n → x < n) ∧ 0 ≤ i' := by
  unfold spec_l01Below.f
  by_cases c0 : n ≤ 0
  · rw [if_pos c0]
    exact ⟨_, _, _, rfl, by omega, by omega, hi⟩
  · rw [if_neg c0]
    by_cases c1 : n ≤ 256
    · rw [if_pos c1]
      obtain ⟨x, i1, h1, e, x0, x1, hi1⟩ := byte_is l hl i h hi
      rw [e, Option.bind_some, if_neg (by omega)]
      refine ⟨_, _, _, rfl, ?_, fun _ => ?_, hi1⟩
      · rw [tmod_nn _ x0]; exact Int.emod_nonneg _ (by omega)
      · rw [tmod_nn _ x0]; exact Int.emod_lt_of_pos _ (by omega)
    · rw [if_neg c1]
      obtain ⟨x, i1, h1, e1, x0, x1, hi1⟩ := byte_is l hl i h hi
      obtain ⟨y, i2, h2, e2, y0, y1, hi2⟩ := byte_is l hl i1 h1 hi1
      obtain ⟨z, i3, h3, e3, z0, z1, hi3⟩ := byte_is l hl i2 h2 hi2
      obtain ⟨w, i4, h4, e4, w0, w1, hi4⟩ := byte_is l hl i3 h3 hi3
      simp only [e1, e2, e3, e4, Option.bind_some]
      rw [if_neg (by omega)]
      rw [w64_id (x := x * 16777216) (by omega) (by omega), w64_id (x := y * 65536) (by omega) (by omega), w64_id (x := z * 256) (by omega) (by omega), w64_id (x := x * 16777216 + y * 65536) (by omega) (by omega), w64_id (x := x * 16777216 + y * 65536 + z * 256) (by omega) (by omega), w64_id (x := x * 16777216 + y * 65536 + z * 256 + w) (by omega) (by omega)]
      refine ⟨_, _, _, rfl, ?_, fun _ => ?_, hi4⟩
      · rw [tmod_nn _ (by omega)]; exact Int.emod_nonneg _ (by omega)
      · rw [tmod_nn _ (by omega)]; exact Int.emod_lt_of_pos _ (by omega)

theorem pick_is (l : List Int) (hl : l.length ≤ 9223372036854775807) (i h : Int) (p : List Int) (hp : 0 < p.length) (hi : 0 ≤ i) : ∃ x i' h', spec_l01PickInt.f l i h p = some (x, i', h') ∧ x ∈ p ∧ 0 ≤ i' := by
  unfold spec_l01PickInt.f
  obtain ⟨x, i1, h1, e, x0, x1, hi1⟩ := below_is l hl i h p.length hi
  have x1 := x1 (by omega)
  rw [e]
  simp only [Option.bind_some]
  rw [if_pos x0, if_pos x1]
  obtain ⟨j, rfl⟩ := Int.eq_ofNat_of_zero_le x0
  exact ⟨_, _, _, rfl, rd_mem p j (by omega), hi1⟩

/-- Two callees that answer, together. -/
theorem ev_pair {α β : Type} {g : Nat → Option α} {h : Nat → Option β} {a : α} {b : β} (e : Ev g a) (f : Ev h b) : Ev (fun k => (g k).bind fun x => (h k).bind fun y => some (x, y)) (a, b) := by
  obtain ⟨K, e⟩ := e
  obtain ⟨K', f⟩ := f
  exact ⟨max K K', fun n hn => by show ((g n).bind fun x => (h n).bind fun y => some (x, y)) = _; rw [e n (by omega), f n (by omega)]; rfl⟩
theorem pair_some {α β : Type} {g : Option α} {h : Option β} {a : α} {b : β} (e : (g.bind fun x => h.bind fun y => some (x, y)) = some (a, b)) : g = some a ∧ h = some b := by
  cases g with
  | none => cases e
  | some x =>
    cases h with
    | none => cases e
    | some y =>
      injection e with e
      injection e with e1 e2
      exact ⟨by rw [e1], by rw [e2]⟩

/-- Is an Out right. -/
def okB (s : ByteArray) (n : Int) : Bool :=
  if s.size ≤ 12000 ∧ 0 ≤ n ∧ n ≤ 8 * (s.size : Int) ∧ (n + 7) / 8 = s.size then (if n % 8 = 0 then true else decide (bt s ((s.size : Int) - 1) < 2 ^ (n % 8).toNat)) else false
theorem ok_spec (s : ByteArray) (n : Int) (n0 : -9223372036854775808 ≤ n) (n1 : n ≤ 9223372036854775807) (hs : s.size ≤ 1048576) : Ev (fun k => spec_OutOk.f k s n) (okB s n) := by
  unfold okB
  by_cases h : s.size ≤ 12000 ∧ 0 ≤ n ∧ n ≤ 8 * (s.size : Int) ∧ (n + 7) / 8 = s.size
  · obtain ⟨h1, h2, h3, h4⟩ := h
    rw [if_pos ⟨h1, h2, h3, h4⟩]
    have w1 : wrap64 (8 * (s.size : Int)) = 8 * s.size := w64_id (by omega) (by omega)
    have w2 : wrap64 (n + 7) = n + 7 := w64_id (by omega) (by omega)
    have w3 : wrap64 ((n + 7) / 8) = (n + 7) / 8 := w64_id (by omega) (by omega)
    have w4 : wrap64 ((s.size : Int) - 1) = s.size - 1 := w64_id (by omega) (by omega)
    have t : Int.tmod n 8 = n % 8 := tmod_nn 8 h2
    by_cases h5 : n % 8 = 0
    · rw [if_pos h5]
      refine Ev.congr (fun k => ?_) (Ev.now true)
      unfold spec_OutOk.f
      rw [if_neg (by omega), if_neg (by omega), w1, if_neg (by omega), w2, tdiv_nn _ (by omega), w3, if_pos h4, t, if_pos h5]
    · rw [if_neg h5]
      have b0 := bt_lo s ((s.size : Int) - 1)
      have b1 := bt_hi s ((s.size : Int) - 1)
      refine ev_end (pow_at (n % 8) (by omega) (by omega)) (fun k hk => ?_)
      unfold spec_OutOk.f
      rw [if_neg (by omega), if_neg (by omega), w1, if_neg (by omega), w2, tdiv_nn _ (by omega), w3, if_pos h4, t, if_neg h5, w4, if_pos (by omega), if_pos (by omega), hk, w64_id (x := bt s ((s.size : Int) - 1)) (by omega) (by omega)]
      rfl
  · rw [if_neg h]
    refine Ev.congr (fun k => ?_) (Ev.now false)
    unfold spec_OutOk.f
    split
    · rfl
    · split
      · rfl
      · rw [w64_id (x := 8 * (s.size : Int)) (by omega) (by omega)]
        split
        · rfl
        · rw [w64_id (x := n + 7) (by omega) (by omega), tdiv_nn _ (by omega), w64_id (x := (n + 7) / 8) (by omega) (by omega), if_neg (by omega)]
theorem ok_impl (s : ByteArray) (n : Int) (n0 : -9223372036854775808 ≤ n) (n1 : n ≤ 9223372036854775807) (hs : s.size ≤ 1048576) : impl_OutOk.f s n = some (okB s n) := by
  unfold okB impl_OutOk.f impl_up.f
  rw [in_impl]
  simp only [Option.bind_some, decide_eq_true_eq]
  by_cases h : s.size ≤ 12000 ∧ 0 ≤ n ∧ n ≤ 8 * (s.size : Int) ∧ (n + 7) / 8 = s.size
  · obtain ⟨h1, h2, h3, h4⟩ := h
    have w2 : wrap64 (n + 7) = n + 7 := w64_id (by omega) (by omega)
    have w3 : wrap64 ((n + 7) / 8) = (n + 7) / 8 := w64_id (by omega) (by omega)
    have w4 : wrap64 ((s.size : Int) - 1) = s.size - 1 := w64_id (by omega) (by omega)
    rw [if_pos (show 0 ≤ n ∧ n ≤ 96000 from ⟨h2, by omega⟩), w2, tdiv_nn _ (by omega), w3, if_pos h4.symm, tmod_nn 8 h2, if_pos (show s.size ≤ 12000 ∧ 0 ≤ n ∧ n ≤ 8 * (s.size : Int) ∧ (n + 7) / 8 = s.size from ⟨h1, h2, h3, h4⟩)]
    by_cases h5 : n % 8 = 0
    · rw [if_pos h5, if_pos h5]
    · rw [if_neg h5, if_neg h5, w4, if_pos (by omega), if_pos (by omega), if_pos (by omega)]
      have b0 := bt_lo s ((s.size : Int) - 1)
      congr 1
      have e : shr .u8 (bt s ((s.size : Int) - 1)) (n % 8) = bt s ((s.size : Int) - 1) / 2 ^ (n % 8).toNat := shr_small rfl (by simp [IntKind.bits]; omega) |>.symm
      rw [e, Bool.eq_iff_iff]
      simp only [beq_iff_eq, decide_eq_true_eq]
      have hp : (0 : Int) < 2 ^ (n % 8).toNat := Int.pow_pos (by omega)
      constructor
      · intro hz
        have := Int.lt_mul_ediv_self_add (x := bt s ((s.size : Int) - 1)) hp
        rw [hz, Int.mul_zero, Int.zero_add] at this
        exact this
      · intro hz
        exact Int.ediv_eq_zero_of_lt b0 hz
  · rw [if_neg h]
    split
    · rw [w64_id (x := n + 7) (by omega) (by omega), tdiv_nn _ (by omega), w64_id (x := (n + 7) / 8) (by omega) (by omega), if_neg (by omega)]
    · rfl

theorem str_back (s : ByteArray) : strOfNums (bytesOf s) = s := by
  have e : bytesOf s = s.data.toList.map fun b => (b.toNat : Int) := by
    rfl
  rw [e]
  unfold strOfNums
  rw [List.map_map]
  have : ((fun n : Int => UInt8.ofNat n.toNat) ∘ fun b : UInt8 => (b.toNat : Int)) = id := by
    funext b
    simp
  rw [this, List.map_id]

theorem bytes_back (xs : List Int) (h : ∀ x ∈ xs, 0 ≤ x ∧ x ≤ 255) : bytesOf (strOfNums xs) = xs := by
  have e : bytesOf (strOfNums xs) = (strOfNums xs).data.toList.map fun b => (b.toNat : Int) := rfl
  rw [e]
  unfold strOfNums
  rw [List.map_map]
  have : ∀ x ∈ xs, ((fun b : UInt8 => (b.toNat : Int)) ∘ fun n : Int => UInt8.ofNat n.toNat) x = x := by
    intro x hx
    obtain ⟨h0, h1⟩ := h x hx
    simp only [Function.comp]
    have : (UInt8.ofNat x.toNat).toNat = x.toNat := by
      rw [UInt8.toNat_ofNat']
      omega
    rw [this]
    omega
  rw [List.map_congr_left this, List.map_id']

open Go.Proofs.Ytfmdenifbbhmdaa.MWriter Go.Proofs.Ytfmdenifbbhmdaa.MPut Go.Proofs.Ytfmdenifbbhmdaa.MOut
theorem or8_swap (x y : Int) : Go.bits .or .u8 x y = Go.bits .or .u8 y x := by
  unfold Go.bits
  simp only []
  rw [BitVec.or_comm]
/-- A bit set behind those that are there: the sum. -/
theorem orBit_is (x n : Int) (r : Nat) (hr : r < 8) (x0 : 0 ≤ x) (x1 : x < 2 ^ r) (n0 : 0 ≤ n) (n1 : n < 2 ^ 63) : orBit x n r = x + n % 2 * 2 ^ r ∧ x + n % 2 * 2 ^ r < 2 ^ (r + 1) ∧ x + n % 2 * 2 ^ r ≤ 255 := by
  have e : Go.bits .and .i64 n 1 = n % 2 := bits_mask .i64 63 (by decide) wraps64 1 (by decide) n n0 n1
  have hb : n % 2 = 0 ∨ n % 2 = 1 := by omega
  unfold orBit
  rw [e]
  have hr' : r = 0 ∨ r = 1 ∨ r = 2 ∨ r = 3 ∨ r = 4 ∨ r = 5 ∨ r = 6 ∨ r = 7 := by omega
  have hp : (2 : Int) ^ r ≤ 128 ∧ (2 : Int) ^ (r + 1) = 2 * 2 ^ r ∧ 0 < (2 : Int) ^ r := by
    refine ⟨?_, by rw [Int.pow_succ]; omega, Int.pow_pos (by omega)⟩
    rcases hr' with h | h | h | h | h | h | h | h <;> subst h <;> decide
  obtain ⟨p1, p2, p3⟩ := hp
  have e2 : n % 2 % 256 * 2 ^ r % 256 = n % 2 * 2 ^ r := by
    rcases hb with h | h <;> rw [h]
    · simp
    · have : (1 : Int) % 256 = 1 := by decide
      rw [this]
      omega
  rw [e2]
  have e3 : Go.bits .or .u8 x (n % 2 * 2 ^ r) = x + n % 2 * 2 ^ r := by
    rw [or8_swap, bits_join .u8 8 (by decide) (fun n h0 h1 => by rw [IntKind.wrap_u8]; omega) r (n % 2 * 2 ^ r) x (by rcases hb with h | h <;> rw [h] <;> omega) (by simp) (by rcases hb with h | h <;> rw [h] <;> omega) x0 x1 (by omega)]
    omega
  refine ⟨e3, ?_, ?_⟩
  · rw [p2]
    rcases hb with h | h <;> rw [h] <;> omega
  · rcases hb with h | h <;> rw [h] <;> omega
/-- Bytes that hold c bits: all bits behind them are 0. -/
structure Inv (xs : List Int) (c : Nat) : Prop where
  len : xs.length = (c + 7) / 8
  rng : ∀ x ∈ xs, 0 ≤ x ∧ x ≤ 255
  low : c % 8 ≠ 0 → rd xs ((c / 8 : Nat) : Int) < 2 ^ (c % 8)
theorem rd_memI {xs : List Int} {i : Nat} (h : i < xs.length) : rd xs (i : Int) ∈ xs := by
  unfold rd
  rw [Int.toNat_natCast, List.getD_eq_getElem?_getD, List.getElem?_eq_getElem h]
  exact List.getElem_mem h
theorem rd_setJ {xs : List Int} {i : Nat} (h : i < xs.length) (a : Int) : rd (xs.set i a) (i : Int) = a := by
  unfold rd
  rw [Int.toNat_natCast, List.getD_eq_getElem?_getD, List.getElem?_set_self h]
  rfl
theorem rd_last (xs : List Int) (a : Int) : rd (xs ++ [a]) (xs.length : Int) = a := by
  unfold rd
  rw [Int.toNat_natCast, List.getD_eq_getElem?_getD]
  simp
theorem put_step (xs : List Int) (c : Nat) (n : Int) (hI : Inv xs c) (n0 : 0 ≤ n) (n1 : n < 2 ^ 63) : putAdd xs c (n % 2) = putBit xs c n ∧ Inv (putBit xs c n) (c + 1) := by
  by_cases hm : c % 8 = 0
  · obtain ⟨h1, h2, h3⟩ := orBit_is 0 n 0 (by omega) (by omega) (by decide) n0 n1
    have e : putBit xs c n = xs ++ [orBit 0 n 0] := by unfold putBit; rw [if_pos hm]
    have hl := hI.len
    refine ⟨?_, ?_⟩
    · rw [e]
      unfold putAdd
      rw [if_pos hm, addBit_eq, h1]
      congr 2
      omega
    · rw [e]
      refine ⟨by simp; omega, fun x hx => ?_, fun h => ?_⟩
      · rcases List.mem_append.1 hx with hx | hx
        · exact hI.rng x hx
        · rw [List.mem_singleton] at hx
          rw [hx, h1]
          omega
      · have e1 : (c + 1) / 8 = xs.length := by omega
        have e2 : (c + 1) % 8 = 1 := by omega
        rw [e1, e2, rd_last, h1]
        exact h2
  · have hl := hI.len
    have hj : c / 8 < xs.length := by omega
    have hx := hI.rng _ (rd_memI hj)
    obtain ⟨h1, h2, h3⟩ := orBit_is (rd xs ((c / 8 : Nat) : Int)) n (c % 8) (by omega) hx.1 (hI.low hm) n0 n1
    have e : putBit xs c n = xs.set (c / 8) (orBit (rd xs ((c / 8 : Nat) : Int)) n (c % 8)) := by unfold putBit; rw [if_neg hm]
    have p3 : (0 : Int) < 2 ^ (c % 8) := Int.pow_pos (by omega)
    have hb : n % 2 = 0 ∨ n % 2 = 1 := by omega
    have hpos : 0 ≤ rd xs ((c / 8 : Nat) : Int) + n % 2 * 2 ^ (c % 8) := by rcases hb with h | h <;> rw [h] <;> omega
    refine ⟨?_, ?_⟩
    · rw [e]
      unfold putAdd
      rw [if_neg hm, addBit_eq, h1]
      congr 1
      omega
    · rw [e]
      refine ⟨by rw [List.length_set]; omega, fun x hx => ?_, fun h => ?_⟩
      · rcases List.mem_or_eq_of_mem_set hx with hx | hx
        · exact hI.rng x hx
        · rw [hx, h1]
          exact ⟨hpos, h3⟩
      · have e1 : (c + 1) / 8 = c / 8 := by omega
        have e2 : (c + 1) % 8 = c % 8 + 1 := by omega
        rw [e1, e2, rd_setJ hj, h1]
        exact h2
theorem put_all : ∀ (ns xs : List Int) (c : Nat), Inv xs c → (∀ n ∈ ns, 0 ≤ n ∧ n < 2 ^ 63) → addAll (ns.map (· % 2)) xs c = MWriter.putAll ns xs c ∧ Inv (MWriter.putAll ns xs c) (c + ns.length)
  | [], xs, c, h, _ => ⟨rfl, h⟩
  | n :: ns, xs, c, h, hn => by
    obtain ⟨n0, n1⟩ := hn n (List.mem_cons_self ..)
    obtain ⟨h1, h2⟩ := put_step xs c n h n0 n1
    obtain ⟨h3, h4⟩ := put_all ns _ _ h2 (fun m hm => hn m (List.mem_cons_of_mem _ hm))
    rw [List.map_cons, addAll, h1, h3, MWriter.putAll, List.length_cons]
    exact ⟨rfl, by rw [show c + (ns.length + 1) = c + 1 + ns.length by omega]; exact h4⟩
theorem bytesOf_rd (s : ByteArray) (i : Nat) (h : i < s.size) : rd (bytesOf s) (i : Int) = bt s (i : Int) := by
  unfold rd bt
  rw [dif_pos (show (i : Int).toNat < s.size by rw [Int.toNat_natCast]; exact h)]
  simp only [Int.toNat_natCast]
  unfold bytesOf
  rw [List.getD_eq_getElem?_getD, List.getElem?_map]
  have hh : i < s.data.toList.length := h
  rw [List.getElem?_eq_getElem hh]
  rfl
theorem bytesOf_rng (s : ByteArray) : ∀ x ∈ bytesOf s, 0 ≤ x ∧ x ≤ 255 := by
  intro x hx
  unfold bytesOf at hx
  obtain ⟨b, _, rfl⟩ := List.mem_map.1 hx
  have := b.toNat_lt
  omega
/-- A right Out's bytes. -/
theorem ok_inv (s : ByteArray) (c : Int) (h : okB s c = true) : ∃ C : Nat, c = C ∧ C ≤ 96000 ∧ s.size ≤ 12000 ∧ s.size = (C + 7) / 8 ∧ Inv (bytesOf s) C := by
  unfold okB at h
  split at h
  · rename_i hc
    obtain ⟨h1, h2, h3, h4⟩ := hc
    obtain ⟨C, rfl⟩ := Int.eq_ofNat_of_zero_le h2
    have hs : s.size = (C + 7) / 8 := by omega
    refine ⟨C, rfl, by omega, h1, hs, ⟨by rw [bytesOf_length]; exact hs, bytesOf_rng s, fun hm => ?_⟩⟩
    rw [if_neg (by omega)] at h
    have h5 := of_decide_eq_true h
    rw [bytesOf_rd s _ (by omega)]
    have e1 : ((s.size : Int) - 1) = ((C / 8 : Nat) : Int) := by omega
    have e2 : ((C : Int) % 8).toNat = C % 8 := by omega
    rw [e1, e2] at h5
    exact h5
  · cases h

/-- May n bits of v be put. -/
def putB (v n : Int) : Bool := decide (0 ≤ n ∧ n ≤ 24) && decide (0 ≤ v ∧ v ≤ 2 ^ n.toNat - 1)
theorem pow24 (n : Int) (h0 : 0 ≤ n) (h1 : n ≤ 24) : (1 : Int) ≤ 2 ^ n.toNat ∧ (2 : Int) ^ n.toNat ≤ 16777216 := by
  have h2 : (2 : Nat) ^ n.toNat ≤ 2 ^ 24 := Nat.pow_le_pow_right (by decide) (by omega)
  have h3 : (0 : Nat) < 2 ^ n.toNat := Nat.pow_pos (by decide)
  have e : (2 : Int) ^ n.toNat = ((2 ^ n.toNat : Nat) : Int) := by push_cast; rfl
  have e2 : (2 : Nat) ^ 24 = 16777216 := by decide
  rw [e]
  omega
theorem may_spec (s : ByteArray) (c v n : Int) (c0 : -9223372036854775808 ≤ c) (c1 : c ≤ 9223372036854775807) (hs : s.size ≤ 1048576) :
    Ev (fun k => spec_l01May.f k s c v n) (okB s c && putB v n && decide (c ≤ 96000 - n)) := by
  refine ev_use (ok_spec s c c0 c1 hs) (fun k hk => by unfold spec_l01May.f; rw [hk]) ?_
  cases hB : okB s c with
  | false => exact Ev.now _
  | true =>
    simp only [if_true, Bool.true_and]
    rw [in_spec]
    simp only [Option.bind_some]
    by_cases hn : 0 ≤ n ∧ n ≤ 24
    · obtain ⟨p0, p1⟩ := pow24 n hn.1 hn.2
      refine ev_end (pow_at n hn.1 (by omega)) (fun k hk => ?_)
      rw [if_pos (decide_eq_true hn), hk]
      simp only [Option.bind_some]
      rw [w64_id (x := 2 ^ n.toNat - 1) (by omega) (by omega), in_spec]
      simp only [Option.bind_some]
      unfold putB
      rw [decide_eq_true hn, Bool.true_and, w64_id (x := 96000 - n) (by omega) (by omega)]
      by_cases hv : 0 ≤ v ∧ v ≤ 2 ^ n.toNat - 1
      · rw [decide_eq_true hv]; simp
      · rw [decide_eq_false hv]; simp
    · refine Ev.congr (fun k => ?_) (Ev.now _)
      unfold putB
      rw [decide_eq_false hn]
      rfl
/-- What both make of bits that may be put. -/
theorem put_made (s : ByteArray) (c v n : Int) (ps ns : List Int) (hok : okB s c = true) (hv : putB v n = true) (hc : c ≤ 96000 - n) (hl : ps.length = n.toNat) (hp : ∀ i : Nat, i < ps.length → 0 ≤ rd ps (i : Int) ∧ rd ps (i : Int) ≤ 62) (he : bitsAt v ps ps.length = ns.map (· % 2)) (hn : ∀ m ∈ ns, 0 ≤ m ∧ m < 2 ^ 63) (hnl : ns.length = n.toNat) :
    spec_l01Put.f s c v ps = some (strOfNums (MWriter.putAll ns (bytesOf s) c.toNat), c + n) ∧ outF (MWriter.putAll ns (bytesOf s) c.toNat) (c + n) = (strOfNums (MWriter.putAll ns (bytesOf s) c.toNat), c + n, true) ∧ putCond s c n := by
  obtain ⟨C, rfl, h1, h2, h3, h4⟩ := ok_inv s c hok
  unfold putB at hv
  rw [Bool.and_eq_true, decide_eq_true_eq, decide_eq_true_eq] at hv
  obtain ⟨⟨n0, n1⟩, v0, v1⟩ := hv
  obtain ⟨p0, p1⟩ := pow24 n n0 n1
  obtain ⟨e1, e2⟩ := put_all ns (bytesOf s) C h4 hn
  have e3 : ((ps.length : Nat) : Int) = n := by rw [hl]; omega
  refine ⟨?_, ?_, ?_⟩
  · unfold spec_l01Put.f l01PutF
    rw [if_pos ⟨by omega, by omega, by omega, v0, by omega, by omega, hp⟩, he, Int.toNat_natCast, e1, e3]
  · unfold outF
    rw [Int.toNat_natCast, if_pos (by rw [e2.len, hnl]; omega)]
  · exact ⟨n0, by omega, by omega, by omega, by omega⟩
theorem put_over (s : ByteArray) (c v n : Int) (ns : List Int) (hok : okB s c = true) (hv : putB v n = true) (hc : ¬ c ≤ 96000 - n) (hn : ∀ m ∈ ns, 0 ≤ m ∧ m < 2 ^ 63) (hnl : ns.length = n.toNat) :
    outF (MWriter.putAll ns (bytesOf s) c.toNat) (c + n) = (⟨#[]⟩, 0, false) ∧ putCond s c n := by
  obtain ⟨C, rfl, h1, h2, h3, h4⟩ := ok_inv s c hok
  unfold putB at hv
  rw [Bool.and_eq_true, decide_eq_true_eq, decide_eq_true_eq] at hv
  obtain ⟨⟨n0, n1⟩, v0, v1⟩ := hv
  obtain ⟨e1, e2⟩ := put_all ns (bytesOf s) C h4 hn
  refine ⟨?_, ?_⟩
  · unfold outF
    rw [Int.toNat_natCast, if_neg (by rw [e2.len, hnl]; omega)]
  · exact ⟨n0, by omega, by omega, by omega, by omega⟩

theorem places_rd (n i : Nat) (h : i < n) : rd ((List.range n).map fun j : Nat => (j : Int)) (i : Int) = i := by
  unfold rd
  rw [Int.toNat_natCast, List.getD_eq_getElem?_getD, List.getElem?_map, List.getElem?_range h]
  rfl
theorem putbits_loop (s : ByteArray) (c v : Int) (n : Nat) (hn : n ≤ 24) (r : ByteArray × Int) (hr : spec_l01Put.f s c v ((List.range n).map fun j : Nat => (j : Int)) = some r) (d : Nat) : ∀ i : Nat, i + d = n → Ev (fun k => spec_PutBits.l0 k v n ((List.range i).map fun j : Nat => (j : Int)) i s c) (r.1, r.2, true) := by
  induction d with
  | zero =>
    intro i hi
    obtain rfl : i = n := by omega
    refine ev_ret (fun k => ?_)
    rw [spec_PutBits.l0, if_neg (by omega), hr]
    rfl
  | succ d ih =>
    intro i hi
    refine Ev.step (fun k => ?_) (ih (i + 1) (by omega))
    rw [spec_PutBits.l0, if_pos (by omega), if_pos (by rw [List.length_map, List.length_range]; omega), w64_id (x := (i : Int) + 1) (by omega) (by omega), List.range_succ, List.map_append]
    rfl
theorem lows_rng (v : Int) (n : Nat) (v0 : 0 ≤ v) (v1 : v ≤ 16777215) : ∀ m ∈ lows v n, 0 ≤ m ∧ m < 2 ^ 63 := by
  intro m hm
  unfold lows at hm
  obtain ⟨i, _, rfl⟩ := List.mem_map.1 hm
  have h2 : v / 2 ^ i ≤ v := Int.ediv_le_self _ v0
  exact ⟨Int.ediv_nonneg v0 (Int.le_of_lt (Int.pow_pos (by omega))), by omega⟩
theorem lows_bits (v : Int) (n : Nat) : bitsAt v ((List.range n).map fun j : Nat => (j : Int)) ((List.range n).map fun j : Nat => (j : Int)).length = (lows v n).map (· % 2) := by
  unfold bitsAt lows
  rw [List.take_length, List.map_map, List.map_map]
  rfl
/-- The bytes of a number, the highest first, ahead of some others. -/
def bigs : Nat → Int → List Int → List Int
  | 0, _, acc => acc
  | d + 1, n, acc => bigs d (n / 256) (n % 256 :: acc)
theorem bigs_len : ∀ (d : Nat) (n : Int) (acc : List Int), (bigs d n acc).length = d + acc.length
  | 0, _, _ => by simp [bigs]
  | d + 1, n, acc => by rw [bigs, bigs_len d]; simp; omega
theorem big_spec (s : Int) (hs : s ≤ 4) (d : Nat) : ∀ (n i : Int) (acc : List Int), 0 ≤ n → n < 4294967296 → 0 ≤ i → i + d = s → (acc.length : Int) = i →
    Ev (fun k => spec_l01Big.l0 k n s (strOfNums acc) i) (strOfNums (bigs d n acc)) := by
  induction d with
  | zero =>
    intro n i acc h0 h1 hi h hl
    exact ev_ret (fun k => by rw [spec_l01Big.l0, if_neg (by omega)]; rfl)
  | succ d ih =>
    intro n i acc h0 h1 hi h hl
    refine Ev.step (fun k => ?_) (ih (n / 256) (i + 1) (n % 256 :: acc) (by omega) (by omega) (by omega) (by omega) (by simp; omega))
    have e : n % 256 % 256 = n % 256 := by omega
    rw [spec_l01Big.l0, if_pos (by omega), Option.bind_some, if_pos (by rw [nums_size, nums_size]; simp; omega), tmod_nn _ h0, tdiv_nn _ h0, w64_id (x := n / 256) (by omega) (by omega), w64_id (x := i + 1) (by omega) (by omega), nums_join, e]
    rfl
theorem big_round (n : Int) (i : Nat) (hi : i ≤ 3) (xs : List Int) (hx : xs.length ≤ 4) (r : ByteArray × Bool) (h : Ev (fun k => impl_BigText.l0 k n (xs ++ [n / 256 ^ i % 256]) ((i : Int) - 1)) r) :
    Ev (fun k => impl_BigText.l0 k n xs i) r := by
  refine Ev.step (fun k => ?_) h
  have w1 : wrap64 (8 * (i : Int)) = 8 * i := w64_id (by omega) (by omega)
  have e : shr .i64 n (8 * (i : Int)) = n / 256 ^ i := by
    unfold shr
    have hm : min (8 * (i : Int)).toNat IntKind.i64.bits = 8 * i := by simp [IntKind.bits]; omega
    rw [hm, Int.pow_mul]
    rfl
  rw [impl_BigText.l0, if_pos (by omega), w1, if_pos (by omega), if_pos (by omega), e, w64_id (x := (i : Int) - 1) (by omega) (by omega)]
theorem big_end (n : Int) (xs : List Int) : Ev (fun k => impl_BigText.l0 k n xs (-1)) (strOfNums xs, true) := ev_ret (fun k => by rw [impl_BigText.l0, if_neg (by omega)])
theorem big_impl (n : Int) (s : Nat) (h0 : 1 ≤ s) (h1 : s ≤ 4) : Ev (fun k => impl_BigText.l0 k n [] ((s : Int) - 1)) (strOfNums (bigs s n []), true) := by
  have c : s = 1 ∨ s = 2 ∨ s = 3 ∨ s = 4 := by omega
  have d2 : n / 256 / 256 = n / 65536 := by rw [Int.ediv_ediv_of_nonneg (by omega)]; rfl
  have d3 : n / 65536 / 256 = n / 16777216 := by rw [Int.ediv_ediv_of_nonneg (by omega)]; rfl
  rcases c with rfl | rfl | rfl | rfl
  · refine big_round n 0 (by omega) [] (by simp) _ ?_
    have := big_end n [n % 256]
    simpa [bigs] using this
  · refine big_round n 1 (by omega) [] (by simp) _ (big_round n 0 (by omega) _ (by simp) _ ?_)
    have := big_end n [n / 256 % 256, n % 256]
    simpa [bigs] using this
  · refine big_round n 2 (by omega) [] (by simp) _ (big_round n 1 (by omega) _ (by simp) _ (big_round n 0 (by omega) _ (by simp) _ ?_))
    have := big_end n [n / 65536 % 256, n / 256 % 256, n % 256]
    simpa [bigs, d2] using this
  · refine big_round n 3 (by omega) [] (by simp) _ (big_round n 2 (by omega) _ (by simp) _ (big_round n 1 (by omega) _ (by simp) _ (big_round n 0 (by omega) _ (by simp) _ ?_)))
    have := big_end n [n / 16777216 % 256, n / 65536 % 256, n / 256 % 256, n % 256]
    simpa [bigs, d2, d3] using this
theorem pow_case (s : Nat) (h0 : 1 ≤ s) (h1 : s ≤ 4) : spec_l01Pow.f 64 (8 * (s : Int)) = some (256 ^ s) ∧ impl_powerOf.f (8 * (s : Int)) = some (256 ^ s) := by
  have c : s = 1 ∨ s = 2 ∨ s = 3 ∨ s = 4 := by omega
  rcases c with rfl | rfl | rfl | rfl <;> exact ⟨by decide +kernel, by decide +kernel⟩
/-- Both sides of BigText. -/
theorem big_both (n s : Int) : (1 ≤ s ∧ s ≤ 4 ∧ 0 ≤ n ∧ n < 256 ^ s.toNat → Ev (fun k => spec_BigText.f k n s) (strOfNums (bigs s.toNat n []), true) ∧ Ev (fun k => impl_BigText.f k n s) (strOfNums (bigs s.toNat n []), true)) ∧
    (¬ (1 ≤ s ∧ s ≤ 4 ∧ 0 ≤ n ∧ n < 256 ^ s.toNat) → Ev (fun k => spec_BigText.f k n s) ((⟨#[]⟩ : ByteArray), false) ∧ Ev (fun k => impl_BigText.f k n s) ((⟨#[]⟩ : ByteArray), false)) := by
  by_cases hs : 1 ≤ s ∧ s ≤ 4
  · obtain ⟨s, rfl⟩ := Int.eq_ofNat_of_zero_le (show 0 ≤ s by omega)
    rw [Int.toNat_natCast]
    obtain ⟨p1, p2⟩ := pow_case s (by omega) (by omega)
    have hp : (256 : Int) ^ s ≤ 4294967296 ∧ 1 ≤ (256 : Int) ^ s := by
      have c : s = 1 ∨ s = 2 ∨ s = 3 ∨ s = 4 := by omega
      rcases c with rfl | rfl | rfl | rfl <;> decide
    have w8 : wrap64 (8 * (s : Int)) = 8 * s := w64_id (by omega) (by omega)
    have wp : wrap64 ((256 : Int) ^ s - 1) = 256 ^ s - 1 := w64_id (by omega) (by omega)
    have P : Ev (fun k => spec_l01Pow.f k (8 * (s : Int))) (256 ^ s) := Ev.of (spec_l01Pow.mono _) p1
    have ht := decide_eq_true hs
    constructor
    · intro ⟨_, _, n0, n1⟩
      have hb : decide (0 ≤ n ∧ n ≤ (256 : Int) ^ s - 1) = true := decide_eq_true (by omega)
      constructor
      · have B : Ev (fun k => spec_l01Big.f k n s) (strOfNums (bigs s n [])) := big_spec s (by omega) s n 0 [] n0 (by omega) (by omega) (by omega) rfl
        obtain ⟨K1, P⟩ := P
        obtain ⟨K2, B⟩ := B
        refine ⟨max K1 K2, fun k hk => ?_⟩
        have P := P k (by omega)
        have B := B k (by omega)
        show spec_BigText.f k n s = _
        unfold spec_BigText.f
        simp only [in_spec, Option.bind_some, ht, if_true, w8, P, wp, hb, B]
      · have J : Ev (fun k => impl_BigText.j0 k n s false) (strOfNums (bigs s n []), true) :=
          Ev.step (fun k => by rw [impl_BigText.j0, if_neg (by decide), w64_id (x := (s : Int) - 1) (by omega) (by omega)]) (big_impl n s (by omega) (by omega))
        refine Ev.congr (fun k => ?_) J
        unfold impl_BigText.f
        simp only [in_impl, Option.bind_some, ht, if_true, w8, p2, wp, hb, Bool.not_true]
    · intro h
      have hb : decide (0 ≤ n ∧ n ≤ (256 : Int) ^ s - 1) = false := decide_eq_false (by omega)
      constructor
      · obtain ⟨K1, P⟩ := P
        refine ⟨K1, fun k hk => ?_⟩
        have P := P k (by omega)
        show spec_BigText.f k n s = _
        unfold spec_BigText.f
        simp only [in_spec, Option.bind_some, ht, if_true, w8, P, wp, hb, Bool.false_eq_true, if_false]
      · have J : Ev (fun k => impl_BigText.j0 k n s true) ((⟨#[]⟩ : ByteArray), false) := ev_ret (fun k => by rw [impl_BigText.j0, if_pos rfl])
        refine Ev.congr (fun k => ?_) J
        unfold impl_BigText.f
        simp only [in_impl, Option.bind_some, ht, if_true, w8, p2, wp, hb, Bool.not_false]
  · have ht := decide_eq_false hs
    constructor
    · intro h
      exact absurd ⟨h.1, h.2.1⟩ hs
    · intro _
      constructor
      · refine Ev.congr (fun k => ?_) (Ev.now _)
        unfold spec_BigText.f
        simp only [in_spec, Option.bind_some, ht, Bool.false_eq_true, if_false]
      · have J : Ev (fun k => impl_BigText.j0 k n s true) ((⟨#[]⟩ : ByteArray), false) := ev_ret (fun k => by rw [impl_BigText.j0, if_pos rfl])
        refine Ev.congr (fun k => ?_) J
        unfold impl_BigText.f
        simp only [in_impl, Option.bind_some, ht, Bool.false_eq_true, if_false]

theorem putbits_spec (s : ByteArray) (c v n : Int) (c0 : -9223372036854775808 ≤ c) (c1 : c ≤ 9223372036854775807) (hs : s.size ≤ 1048576) :
    ∃ r, Ev (fun k => spec_PutBits.f k s c v n) r ∧ r.1.size ≤ 12000 ∧ 0 ≤ r.2.1 ∧ r.2.1 ≤ 96000 := by
  have hm := may_spec s c v n c0 c1 hs
  cases hB : (okB s c && putB v n) with
  | false =>
    rw [hB] at hm
    refine ⟨(⟨#[]⟩, 0, false), ?_, by show (0 : Nat) ≤ 12000; omega, by show (0 : Int) ≤ 0; omega, by show (0 : Int) ≤ 96000; omega⟩
    refine ev_end hm (fun k hk => ?_)
    unfold spec_PutBits.f
    rw [hk]
    rfl
  | true =>
    rw [hB] at hm
    rw [Bool.true_and] at hm
    rw [Bool.and_eq_true] at hB
    obtain ⟨hok, hv⟩ := hB
    have hv' := hv
    unfold putB at hv'
    rw [Bool.and_eq_true, decide_eq_true_eq, decide_eq_true_eq] at hv'
    obtain ⟨⟨n0, n1⟩, v0, v1⟩ := hv'
    obtain ⟨p0, p1⟩ := pow24 n n0 n1
    have hrng := lows_rng v n.toNat v0 (by omega)
    by_cases hc : c ≤ 96000 - n
    · obtain ⟨h1, h2, h3⟩ := put_made s c v n ((List.range n.toNat).map fun j : Nat => (j : Int)) (lows v n.toNat) hok hv hc (by simp) (fun i hi => by
        have hi' : i < n.toNat := by simpa using hi
        rw [places_rd _ _ hi']
        omega) (lows_bits v n.toNat) hrng (lows_len v n.toNat)
      rw [decide_eq_true hc] at hm
      obtain ⟨C, rfl, q1, q2, q3, q4⟩ := ok_inv s c hok
      obtain ⟨q5, q6⟩ := put_all (lows v n.toNat) (bytesOf s) C q4 hrng
      have q7 := q6.len
      rw [lows_len] at q7
      refine ⟨(strOfNums (MWriter.putAll (lows v n.toNat) (bytesOf s) (C : Int).toNat), C + n, true), ?_, ?_, ?_, ?_⟩
      · have hl := putbits_loop s C v n.toNat (by omega) _ h1 n.toNat 0 (by omega)
        rw [show ((n.toNat : Nat) : Int) = n by omega] at hl
        refine ev_use hm (fun k hk => ?_) hl
        unfold spec_PutBits.f
        rw [hk]
        rfl
      · show (strOfNums (MWriter.putAll (lows v n.toNat) (bytesOf s) (C : Int).toNat)).size ≤ 12000
        rw [nums_size, Int.toNat_natCast, q7]
        omega
      · show (0 : Int) ≤ C + n
        omega
      · show (C + n : Int) ≤ 96000
        omega
    · rw [decide_eq_false hc] at hm
      refine ⟨(⟨#[]⟩, 0, false), ?_, by show (0 : Nat) ≤ 12000; omega, by show (0 : Int) ≤ 0; omega, by show (0 : Int) ≤ 96000; omega⟩
      refine ev_end hm (fun k hk => ?_)
      unfold spec_PutBits.f
      rw [hk]
      rfl
theorem long_ends (n v : Int) (hn : n ≤ 12001) (d : Nat) : ∀ (xs : List Int) (i : Int), 0 ≤ i → i + d = n → (xs.length : Int) = n → ∃ s, Ev (fun k => spec_l01Long.l0 k n v xs i) s ∧ (s.size : Int) = n := by
  induction d with
  | zero =>
    intro xs i h0 h hl
    refine ⟨_, ev_ret (fun k => by rw [spec_l01Long.l0, if_neg (by omega)]), ?_⟩
    rw [nums_size, hl]
  | succ d ih =>
    intro xs i h0 h hl
    obtain ⟨s, e, hs⟩ := ih (xs.set i.toNat v) (i + 1) (by omega) (by omega) (by rw [List.length_set]; exact hl)
    refine ⟨s, Ev.step (fun k => ?_) e, hs⟩
    rw [spec_l01Long.l0, if_pos (by omega), if_pos h0, if_pos (by omega), w64_id (x := i + 1) (by omega) (by omega)]
theorem long_is (n v : Int) (h0 : 0 ≤ n) (hn : n ≤ 12001) : ∃ s, Ev (fun k => spec_l01Long.f k n v) s ∧ (s.size : Int) = n := by
  obtain ⟨s, e, hs⟩ := long_ends n v hn n.toNat (List.replicate n.toNat 0) 0 (by omega) (by omega) (by rw [List.length_replicate]; omega)
  refine ⟨s, Ev.congr (fun k => ?_) e, hs⟩
  unfold spec_l01Long.f
  rw [if_pos h0, if_pos (by omega)]
theorem out_stop (l : List Int) (hl : l.length ≤ 9223372036854775807) (j p h : Int) (s : ByteArray) (c x p1 h1 : Int) (hp1 : 0 ≤ p1) (hs : s.size ≤ 12000) (c0 : 0 ≤ c) (c1 : c ≤ 96000) (e1 : spec_l01Below.f l p h 6 = some (x, p1, h1)) (hx : ¬ j < x) :
    ∃ r, Ev (fun k => spec_l01Out.l0 k j l p h s c) r ∧ r.1.size ≤ 12001 ∧ -9223372036854775808 ≤ r.2.1 ∧ r.2.1 ≤ 9223372036854775807 := by
  obtain ⟨y, p2, h2, e2, y0, y1, hp2⟩ := below_is l hl p1 h1 50 hp1
  by_cases y_0 : y = 0
  · obtain ⟨z, p3, h3, e3, z0, hp3⟩ := pick_is l hl p2 h2 [(-1), c + 1, c + 8, 9223372036854775807] (by simp) hp2
    have zr : -9223372036854775808 ≤ z ∧ z ≤ 9223372036854775807 := by
      simp only [List.mem_cons, List.not_mem_nil, or_false] at z0
      omega
    refine ⟨(s, z, p3, h3), ev_ret (fun k => ?_), by show s.size ≤ 12001; omega, zr.1, zr.2⟩
    rw [spec_l01Out.l0, e1, Option.bind_some, if_neg hx, e2, Option.bind_some, if_pos y_0, w64_id (x := c + 1) (by omega) (by omega), w64_id (x := c + 8) (by omega) (by omega), e3, Option.bind_some]
  · by_cases y_1 : y = 1
    · refine ⟨(s ++ (⟨#[255]⟩ : ByteArray), c, p2, h2), ev_ret (fun k => ?_), ?_, by show -9223372036854775808 ≤ c; omega, by show c ≤ 9223372036854775807; omega⟩
      · rw [spec_l01Out.l0, e1, Option.bind_some, if_neg hx, e2, Option.bind_some, if_neg y_0, if_pos y_1, if_pos (by omega)]
      · show (s ++ (⟨#[255]⟩ : ByteArray)).size ≤ 12001
        rw [ByteArray.size_append]
        show s.size + 1 ≤ 12001
        omega
    · by_cases y_2 : y = 2
      · obtain ⟨t, et, ht⟩ := long_is 12000 255 (by omega) (by omega)
        refine ⟨(t, 96000, p2, h2), ?_, by show t.size ≤ 12001; omega, by show (-9223372036854775808 : Int) ≤ 96000; omega, by show (96000 : Int) ≤ 9223372036854775807; omega⟩
        refine ev_use_step (G := fun _ => some (t, 96000, p2, h2)) et (fun k hk => ?_) (Ev.now _)
        rw [spec_l01Out.l0, e1, Option.bind_some, if_neg hx, e2, Option.bind_some, if_neg y_0, if_neg y_1, if_pos y_2, hk, Option.bind_some]
      · by_cases y_3 : y = 3
        · obtain ⟨t, et, ht⟩ := long_is 12000 1 (by omega) (by omega)
          obtain ⟨z, p3, h3, e3, z0, z1, hp3⟩ := below_is l hl p2 h2 7 hp2
          have z1 := z1 (by omega)
          refine ⟨(t, 95999 - z, p3, h3), ?_, by show t.size ≤ 12001; omega, by show -9223372036854775808 ≤ 95999 - z; omega, by show 95999 - z ≤ 9223372036854775807; omega⟩
          refine ev_use_step (G := fun _ => some (t, 95999 - z, p3, h3)) et (fun k hk => ?_) (Ev.now _)
          rw [spec_l01Out.l0, e1, Option.bind_some, if_neg hx, e2, Option.bind_some, if_neg y_0, if_neg y_1, if_neg y_2, if_pos y_3, hk, Option.bind_some, e3, Option.bind_some, w64_id (x := 95999 - z) (by omega) (by omega)]
        · by_cases y_4 : y = 4
          · obtain ⟨t, et, ht⟩ := long_is 12001 1 (by omega) (by omega)
            refine ⟨(t, 96008, p2, h2), ?_, by show t.size ≤ 12001; omega, by show (-9223372036854775808 : Int) ≤ 96008; omega, by show (96008 : Int) ≤ 9223372036854775807; omega⟩
            refine ev_use_step (G := fun _ => some (t, 96008, p2, h2)) et (fun k hk => ?_) (Ev.now _)
            rw [spec_l01Out.l0, e1, Option.bind_some, if_neg hx, e2, Option.bind_some, if_neg y_0, if_neg y_1, if_neg y_2, if_neg y_3, if_pos y_4, hk, Option.bind_some]
          · refine ⟨(s, c, p2, h2), ev_ret (fun k => ?_), by show s.size ≤ 12001; omega, by show -9223372036854775808 ≤ c; omega, by show c ≤ 9223372036854775807; omega⟩
            rw [spec_l01Out.l0, e1, Option.bind_some, if_neg hx, e2, Option.bind_some, if_neg y_0, if_neg y_1, if_neg y_2, if_neg y_3, if_neg y_4]
theorem out_ends (l : List Int) (hl : l.length ≤ 9223372036854775807) (d : Nat) : ∀ (j p h : Int) (s : ByteArray) (c : Int), 0 ≤ j → j + d = 6 → 0 ≤ p → s.size ≤ 12000 → 0 ≤ c → c ≤ 96000 →
    ∃ r, Ev (fun k => spec_l01Out.l0 k j l p h s c) r ∧ r.1.size ≤ 12001 ∧ -9223372036854775808 ≤ r.2.1 ∧ r.2.1 ≤ 9223372036854775807 := by
  induction d with
  | zero =>
    intro j p h s c hj hd hp hs c0 c1
    obtain ⟨x, p1, h1, e1, x0, x1, hp1⟩ := below_is l hl p h 6 hp
    exact out_stop l hl j p h s c x p1 h1 hp1 hs c0 c1 e1 (by omega)
  | succ d ih =>
    intro j p h s c hj hd hp hs c0 c1
    obtain ⟨x, p1, h1, e1, x0, x1, hp1⟩ := below_is l hl p h 6 hp
    by_cases hx : j < x
    · obtain ⟨n, p2, h2, e2, n0, n1, hp2⟩ := below_is l hl p1 h1 25 hp1
      have n1 := n1 (by omega)
      obtain ⟨v, p3, h3, e3, v0, v1, hp3⟩ := below_is l hl p2 h2 (2 ^ n.toNat) hp2
      obtain ⟨r1, g1, s1, k0, k1⟩ := putbits_spec s c v n (by omega) (by omega) (by omega)
      obtain ⟨r, g, gs, ga, gb⟩ := ih (j + 1) p3 h3 r1.1 r1.2.1 (by omega) (by omega) hp3 s1 k0 k1
      refine ⟨r, ?_, gs, ga, gb⟩
      refine ev_use_step (ev_pair (pow_at n n0 (by omega)) g1) (fun k hk => ?_) g
      obtain ⟨q1, q2⟩ := pair_some hk
      rw [spec_l01Out.l0, e1, Option.bind_some, if_pos hx, e2, Option.bind_some, q1, Option.bind_some, e3, Option.bind_some, q2, Option.bind_some, w64_id (x := j + 1) (by omega) (by omega)]
    · exact out_stop l hl j p h s c x p1 h1 hp1 hs c0 c1 e1 hx
/-- A drawn Out. -/
theorem out_is (l : List Int) (hl : l.length ≤ 9223372036854775807) (p h : Int) (hp : 0 ≤ p) :
    ∃ r, Ev (fun k => spec_l01Out.f k l p h) r ∧ r.1.size ≤ 12001 ∧ -9223372036854775808 ≤ r.2.1 ∧ r.2.1 ≤ 9223372036854775807 :=
  out_ends l hl 6 0 p h ⟨#[]⟩ 0 (by omega) (by omega) hp (by show (0 : Nat) ≤ 12000; omega) (by omega) (by omega)

theorem rb_step (s : ByteArray) (hs : s.size ≤ 1048576) (a n x i : Int) (b : Int) (hb : bt s (a + i) = b) (ha : 0 ≤ a) (hi : 0 ≤ i) (hin : i < n) (hn : n ≤ 4) (hm : a + n ≤ s.size) (hx : 0 ≤ x) (hx1 : x < 16777216) (r : Int × Bool) (h : Ev (fun k => impl_ReadBig.l0 k s a (256 * x + b) n (i + 1)) r) :
    Ev (fun k => impl_ReadBig.l0 k s a x n i) r := by
  have b0 := bt_lo s (a + i)
  have b1 := bt_hi s (a + i)
  have e0 : wrap64 (a + i) = a + i := w64_id (by omega) (by omega)
  refine Ev.step (fun k => ?_) h
  rw [impl_ReadBig.l0, e0, if_pos (by omega), if_pos (by omega), if_pos (by omega), w64_id (x := i + 1) (by omega) (by omega), w64_id (x := bt s (a + i)) (by omega) (by omega), w64_id (x := x * 256) (by omega) (by omega), or64 8 _ _ (by omega) (by omega) (by omega) (by omega) (by omega) (by omega), hb, Int.mul_comm x 256]
theorem rb_stop (s : ByteArray) (a n x : Int) : Ev (fun k => impl_ReadBig.l0 k s a x n n) (x, true) := ev_ret (fun k => by rw [impl_ReadBig.l0, if_neg (by omega)])
theorem bt_nums (xs : List Int) (h : ∀ x ∈ xs, 0 ≤ x ∧ x ≤ 255) (i : Nat) (hi : i < xs.length) : bt (strOfNums xs) (i : Int) = rd xs (i : Int) := by
  rw [← bytesOf_rd _ i (by rw [nums_size]; exact hi), bytes_back xs h]
/-- A number comes back from its bytes, between two others. -/
theorem rb_back (n : Int) (s : Nat) (h0 : 1 ≤ s) (h1 : s ≤ 4) (n0 : 0 ≤ n) (n1 : n < 256 ^ s) :
    Ev (fun k => impl_ReadBig.f k (strOfNums ([120] ++ bigs s n [] ++ [121])) 1 (s : Int)) (n, true) := by
  have hlen : ([120] ++ bigs s n [] ++ [121]).length = s + 2 := by
    rw [List.length_append, List.length_append, bigs_len]
    simp
    omega
  have hsz : (strOfNums ([120] ++ bigs s n [] ++ [121])).size = s + 2 := by rw [nums_size, hlen]
  have key : Ev (fun k => impl_ReadBig.l0 k (strOfNums ([120] ++ bigs s n [] ++ [121])) 1 0 (s : Int) 0) (n, true) := by
    have c : s = 1 ∨ s = 2 ∨ s = 3 ∨ s = 4 := by omega
    rcases c with rfl | rfl | rfl | rfl
    · have hr : ∀ x ∈ ([120] ++ bigs 1 n [] ++ [121]), 0 ≤ x ∧ x ≤ 255 := by
        intro x hx
        simp [bigs] at hx
        omega
      have B := bt_nums _ hr
      have n1 : n < 256 := n1
      refine rb_step _ (by omega) 1 _ 0 0 _ (B 1 (by omega)) (by omega) (by omega) (by omega) (by omega) (by omega) (by omega) (by omega) _ ?_
      have e : 256 * 0 + rd ([120] ++ bigs 1 n [] ++ [121]) ((1 : Nat) : Int) = n := by
        show 256 * 0 + n % 256 = n
        omega
      rw [e]
      exact rb_stop _ _ _ _
    · have hr : ∀ x ∈ ([120] ++ bigs 2 n [] ++ [121]), 0 ≤ x ∧ x ≤ 255 := by
        intro x hx
        simp [bigs] at hx
        omega
      have B := bt_nums _ hr
      have n1 : n < 65536 := n1
      refine rb_step _ (by omega) 1 _ 0 0 (n / 256) ((B 1 (by omega)).trans (by show n / 256 % 256 = n / 256; omega)) (by omega) (by omega) (by omega) (by omega) (by omega) (by omega) (by omega) _ ?_
      refine rb_step _ (by omega) 1 _ _ 1 (n % 256) (B 2 (by omega)) (by omega) (by omega) (by omega) (by omega) (by omega) (by omega) (by omega) _ ?_
      have e : 256 * (256 * 0 + n / 256) + n % 256 = n := by omega
      rw [e]
      exact rb_stop _ _ _ _
    · have hr : ∀ x ∈ ([120] ++ bigs 3 n [] ++ [121]), 0 ≤ x ∧ x ≤ 255 := by
        intro x hx
        simp [bigs] at hx
        omega
      have B := bt_nums _ hr
      have n1 : n < 16777216 := n1
      refine rb_step _ (by omega) 1 _ 0 0 (n / 65536) ((B 1 (by omega)).trans (by show n / 256 / 256 % 256 = n / 65536; omega)) (by omega) (by omega) (by omega) (by omega) (by omega) (by omega) (by omega) _ ?_
      refine rb_step _ (by omega) 1 _ _ 1 (n / 256 % 256) (B 2 (by omega)) (by omega) (by omega) (by omega) (by omega) (by omega) (by omega) (by omega) _ ?_
      refine rb_step _ (by omega) 1 _ _ 2 (n % 256) (B 3 (by omega)) (by omega) (by omega) (by omega) (by omega) (by omega) (by omega) (by omega) _ ?_
      have e : 256 * (256 * (256 * 0 + n / 65536) + n / 256 % 256) + n % 256 = n := by omega
      rw [e]
      exact rb_stop _ _ _ _
    · have hr : ∀ x ∈ ([120] ++ bigs 4 n [] ++ [121]), 0 ≤ x ∧ x ≤ 255 := by
        intro x hx
        simp [bigs] at hx
        omega
      have B := bt_nums _ hr
      have n1 : n < 4294967296 := n1
      refine rb_step _ (by omega) 1 _ 0 0 (n / 16777216) ((B 1 (by omega)).trans (by show n / 256 / 256 / 256 % 256 = n / 16777216; omega)) (by omega) (by omega) (by omega) (by omega) (by omega) (by omega) (by omega) _ ?_
      refine rb_step _ (by omega) 1 _ _ 1 (n / 65536 % 256) ((B 2 (by omega)).trans (by show n / 256 / 256 % 256 = n / 65536 % 256; omega)) (by omega) (by omega) (by omega) (by omega) (by omega) (by omega) (by omega) _ ?_
      refine rb_step _ (by omega) 1 _ _ 2 (n / 256 % 256) (B 3 (by omega)) (by omega) (by omega) (by omega) (by omega) (by omega) (by omega) (by omega) _ ?_
      refine rb_step _ (by omega) 1 _ _ 3 (n % 256) (B 4 (by omega)) (by omega) (by omega) (by omega) (by omega) (by omega) (by omega) (by omega) _ ?_
      have e : 256 * (256 * (256 * (256 * 0 + n / 16777216) + n / 65536 % 256) + n / 256 % 256) + n % 256 = n := by omega
      rw [e]
      exact rb_stop _ _ _ _
  have J : Ev (fun k => impl_ReadBig.j0 k (strOfNums ([120] ++ bigs s n [] ++ [121])) 1 (s : Int) false) (n, true) := Ev.step (fun k => by rw [impl_ReadBig.j0, if_neg (by decide)]) key
  refine Ev.congr (fun k => ?_) J
  have ht : decide (1 ≤ (s : Int) ∧ (s : Int) ≤ 4) = true := decide_eq_true ⟨by omega, by omega⟩
  unfold impl_ReadBig.f
  rw [in_impl, ht, Option.bind_some, if_pos rfl, if_neg (by omega), w64_id (by omega) (by omega), decide_eq_false (by omega)]
/-- It ends, whatever it is asked. -/
theorem rb_some (s : ByteArray) (hs : s.size ≤ 1048576) (a n : Int) (ha : 0 ≤ a) (hn : ¬ (1 ≤ n ∧ n ≤ 4)) : Ev (fun k => impl_ReadBig.f k s a n) (0, false) := by
  have J : Ev (fun k => impl_ReadBig.j0 k s a n true) (0, false) := Ev.step (f := fun _ => some (0, false)) (fun k => by rw [impl_ReadBig.j0, if_pos rfl]) (Ev.now _)
  refine Ev.congr (fun k => ?_) J
  unfold impl_ReadBig.f
  rw [in_impl, Option.bind_some, if_neg (by rw [decide_eq_false hn]; decide)]
theorem drawbig_is (l : List Int) (hl : l.length ≤ 9223372036854775807) : ∃ r, Ev (fun k => spec_DrawBigText.f k l) r := by
  obtain ⟨h, e⟩ := new_is l
  obtain ⟨s, p1, h1, e1, s0, s1, hp1⟩ := below_is l hl 0 h 6 (by omega)
  have s1 := s1 (by omega)
  obtain ⟨v, p2, h2, e2, v0, v1, hp2⟩ := below_is l hl p1 h1 (2 ^ (8 * s).toNat) hp1
  obtain ⟨x, p3, h3, e3, x0, x1, hp3⟩ := below_is l hl p2 h2 6 hp2
  have eo : spec_l01Once.f l p2 h2 6 = some ((x == 0), p3, h3) := by
    unfold spec_l01Once.f
    rw [e3]
    rfl
  obtain ⟨z, p4, h4, e4, z0, hp4⟩ := pick_is l hl p3 h3 [(-1), 0, 255, 256, 65535, 65536, 16777216, 4294967295, 4294967296, 9223372036854775807] (by simp) hp3
  cases hx : (x == 0) with
  | true =>
    refine ⟨(z, s), ev_end (ev_pair e (pow_at (8 * s) (by omega) (by omega))) (fun k hk => ?_)⟩
    obtain ⟨q1, q2⟩ := pair_some hk
    unfold spec_DrawBigText.f
    rw [q1, Option.bind_some, e1, Option.bind_some, w64_id (x := 8 * s) (by omega) (by omega), q2, Option.bind_some, e2, Option.bind_some, eo, Option.bind_some, hx, if_pos rfl, e4, Option.bind_some]
  | false =>
    refine ⟨(v, s), ev_end (ev_pair e (pow_at (8 * s) (by omega) (by omega))) (fun k hk => ?_)⟩
    obtain ⟨q1, q2⟩ := pair_some hk
    unfold spec_DrawBigText.f
    rw [q1, Option.bind_some, e1, Option.bind_some, w64_id (x := 8 * s) (by omega) (by omega), q2, Option.bind_some, e2, Option.bind_some, eo, Option.bind_some, hx, if_neg (by simp)]
theorem big_law (l : List Int) (hl : l.length ≤ 9223372036854775807) : Ev (fun k => laws_FnBytes.j0 k l false) true := by
  obtain ⟨⟨n, s⟩, D⟩ := drawbig_is l hl
  obtain ⟨g1, g2⟩ := big_both n s
  by_cases h : 1 ≤ s ∧ s ≤ 4 ∧ 0 ≤ n ∧ n < 256 ^ s.toNat
  · obtain ⟨e1, e2⟩ := g1 h
    obtain ⟨h1, h2, h3, h4⟩ := h
    have R := rb_back n s.toNat (by omega) (by omega) h3 h4
    rw [show ((s.toNat : Nat) : Int) = s by omega] at R
    have hz : (strOfNums (bigs s.toNat n [])).size = s.toNat := by rw [nums_size, bigs_len]; simp
    have hj : ((⟨#[120]⟩ : ByteArray) ++ strOfNums (bigs s.toNat n [])) ++ (⟨#[121]⟩ : ByteArray) = strOfNums ([120] ++ bigs s.toNat n [] ++ [121]) := by
      rw [show (⟨#[120]⟩ : ByteArray) = strOfNums [120] from rfl, show (⟨#[121]⟩ : ByteArray) = strOfNums [121] from rfl, nums_join, nums_join]
    have hz2 : ((⟨#[120]⟩ : ByteArray) ++ strOfNums (bigs s.toNat n [])).size = 1 + s.toNat := by
      rw [ByteArray.size_append, hz]
      rfl
    refine ev_use_step (G := fun _ => some true) (ev_pair D (ev_pair e2 (ev_pair e1 R))) (fun k hk => ?_) (Ev.now _)
    obtain ⟨q1, hk⟩ := pair_some hk
    obtain ⟨q2, hk⟩ := pair_some hk
    obtain ⟨q3, q4⟩ := pair_some hk
    rw [laws_FnBytes.j0, if_neg (by decide), q1, Option.bind_some]
    show (impl_BigText.f k n s).bind _ = _
    rw [q2, Option.bind_some]
    show (spec_BigText.f k n s).bind _ = _
    rw [q3, Option.bind_some, if_neg (by simp)]
    dsimp only
    rw [if_pos (by omega), if_pos (by omega), hj]
    show (impl_ReadBig.f k _ 1 s).bind _ = _
    rw [q4, Option.bind_some, if_pos rfl, if_pos rfl, if_pos rfl]
    congr 1
    rw [beq_iff_eq, hz]
    omega
  · obtain ⟨e1, e2⟩ := g2 h
    have hj : ((⟨#[120]⟩ : ByteArray) ++ (⟨#[]⟩ : ByteArray)) ++ (⟨#[121]⟩ : ByteArray) = (⟨#[120, 121]⟩ : ByteArray) := rfl
    have R : ∃ r, Ev (fun k => impl_ReadBig.f k (⟨#[120, 121]⟩ : ByteArray) 1 s) r := by
      by_cases hs : 1 ≤ s ∧ s ≤ 4
      · by_cases h1 : s = 1
        · subst h1
          exact ⟨_, Ev.of (impl_ReadBig.mono _ _ _) (k := 4) (r := (121, true)) (by decide +kernel)⟩
        · refine ⟨(0, false), ?_⟩
          have J : Ev (fun k => impl_ReadBig.j0 k (⟨#[120, 121]⟩ : ByteArray) 1 s true) (0, false) := Ev.step (f := fun _ => some (0, false)) (fun k => by rw [impl_ReadBig.j0, if_pos rfl]) (Ev.now _)
          refine Ev.congr (fun k => ?_) J
          have hz : ((⟨#[120, 121]⟩ : ByteArray).size : Int) = 2 := rfl
          unfold impl_ReadBig.f
          rw [in_impl, Option.bind_some, if_pos (by rw [decide_eq_true hs]), if_neg (by omega), hz, w64_id (x := 2 - s) (by omega) (by omega), decide_eq_true (by omega)]
      · exact ⟨_, rb_some _ (by show (2 : Nat) ≤ 1048576; omega) 1 s (by omega) hs⟩
    obtain ⟨⟨m, good⟩, R⟩ := R
    refine ev_use_step (G := fun _ => some true) (ev_pair D (ev_pair e2 (ev_pair e1 R))) (fun k hk => ?_) (Ev.now _)
    obtain ⟨q1, hk⟩ := pair_some hk
    obtain ⟨q2, hk⟩ := pair_some hk
    obtain ⟨q3, q4⟩ := pair_some hk
    rw [laws_FnBytes.j0, if_neg (by decide), q1, Option.bind_some]
    show (impl_BigText.f k n s).bind _ = _
    rw [q2, Option.bind_some]
    show (spec_BigText.f k n s).bind _ = _
    rw [q3, Option.bind_some, if_neg (by simp), if_pos (by show 1 + 0 ≤ 9223372036854775807; omega), if_pos (by show 1 + 1 ≤ 9223372036854775807; omega), hj]
    show (impl_ReadBig.f k _ 1 s).bind _ = _
    rw [q4, Option.bind_some, if_neg (by decide)]
theorem FnBytes : laws_FnBytes.Pure := by
  intro l hl hl1 hw
  by_cases hb : (l.length : Int) > 1048576
  · refine ⟨0, ?_⟩
    unfold laws_FnBytes.f laws_big.f
    rw [decide_eq_true hb]
    simp
  · obtain ⟨h, e⟩ := new_is l
    obtain ⟨⟨s, c, p1, h1⟩, g, gs, c0, c1⟩ := out_is l (by omega) 0 h (by omega)
    have gs : s.size ≤ 12001 := gs
    have c0 : -9223372036854775808 ≤ c := c0
    have c1 : c ≤ 9223372036854775807 := c1
    have D : Ev (fun k => spec_DrawFillByte.f k l) (s, c) := by
      refine ev_end (ev_pair e g) (fun k hk => ?_)
      obtain ⟨q1, q2⟩ := pair_some hk
      unfold spec_DrawFillByte.f
      rw [q1, Option.bind_some]
      show (spec_l01Out.f k l 0 h).bind _ = _
      rw [q2, Option.bind_some]
    have F : impl_FillByte.f s c = some (if okB s c = true then (s, wrap64 (8 * (s.size : Int)), true) else ((⟨#[]⟩ : ByteArray), 0, false)) := by
      unfold impl_FillByte.f
      rw [ok_impl s c c0 c1 (by omega)]
      cases hB : okB s c with
      | false => rfl
      | true =>
        have h1 : s.size ≤ 12000 := by
          unfold okB at hB
          split at hB
          · omega
          · cases hB
        unfold Go.Proofs.Ytfmdenifbbhmdaa.MOut.fillF Go.Proofs.Ytfmdenifbbhmdaa.MOut.outF
        simp only [Option.bind_some]
        simp only [if_true]
        rw [if_pos (by omega), bytesOf_length, if_pos h1, w64_id (by omega) (by omega), str_back]
        rfl
    obtain ⟨k, hk⟩ := (ev_pair D (ev_pair (ok_spec s c c0 c1 (by omega)) (big_law l (by omega)))).rounds
    refine ⟨k, ?_⟩
    obtain ⟨q1, hk⟩ := pair_some hk
    obtain ⟨q2, q3⟩ := pair_some hk
    unfold laws_FnBytes.f laws_big.f
    rw [Option.bind_some, if_neg (by rw [decide_eq_false hb]; decide), q1, Option.bind_some]
    show (impl_FillByte.f s c).bind _ = _
    rw [F, Option.bind_some]
    show (spec_OutOk.f k s c).bind _ = _
    rw [q2, Option.bind_some]
    cases hB : okB s c with
    | false =>
      simp
      exact q3
    | true =>
      simp
      exact q3

end Go.Proofs.Ytfmdenifbbhmdaa.Pure
