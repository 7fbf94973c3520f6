/- The law FnExactFillByte: for every input within the row's bounds the printed function answers true: what the program's function tells is what the law asks. Conditions: only the bounds that the row itself gives (sizes of strings and slices, ranges of the number kinds). -/
import Derived.Test.YtfmdenifbbhmdaaPFnExactFillBytex1
namespace Go.Proofs.Ytfmdenifbbhmdaa.Pure
open Go.RowKit Go.Proofs.Ytfmdenifbbhmdaa.PFnExactFillByte Go.Proofs.YtfmdenifbbhmdaaW.PrintWords Go.Proofs.YtfmdenifbbhmdaaW.PrintLast Go.Proofs.YtfmdenifbbhmdaaW.PrintMore
set_option linter.unusedVariables false
set_option linter.unusedSimpArgs false

theorem w64_id {x : Int} (h0 : -9223372036854775808 ≤ x) (h1 : x ≤ 9223372036854775807) : wrap64 x = x := by unfold wrap64; omega
theorem tmod_nn {a : Int} (b : Int) (h : 0 ≤ a) : Int.tmod a b = a % b := Int.tmod_eq_emod_of_nonneg h
theorem tdiv_nn {a : Int} (b : Int) (h : 0 ≤ a) : Int.tdiv a b = a / b := Int.tdiv_eq_ediv_of_nonneg h
theorem wf64 {n : Int} (h : (Lit.int .i64 n).wf = true) : -9223372036854775808 ≤ n ∧ n ≤ 9223372036854775807 := by
  simp [Lit.wf, IntKind.min, IntKind.max, IntKind.signed, IntKind.bits] at h
  omega
theorem wfu32 {n : Int} (h : (Lit.int .u32 n).wf = true) : 0 ≤ n ∧ n ≤ 4294967295 := by
  simp [Lit.wf, IntKind.min, IntKind.max, IntKind.signed, IntKind.bits] at h
  omega
theorem wraps64 (n : Int) (h0 : 0 ≤ n) (h1 : n < 2 ^ 63) : IntKind.i64.wrap n = n := by rw [IntKind.wrap_i64]; omega
theorem wrapsu32 (n : Int) (h0 : 0 ≤ n) (h1 : n < 2 ^ 32) : IntKind.u32.wrap n = n := by rw [IntKind.wrap_u32]; omega
/-- a | b of parts that do not meet, of an int. -/
theorem or64 (i : Nat) (x y : Int) (hx0 : 0 ≤ x) (hx : x % 2 ^ i = 0) (hx1 : x < 2 ^ 63) (hy0 : 0 ≤ y) (hy : y < 2 ^ i) (hy1 : y < 2 ^ 63) : Go.bits .or .i64 x y = x + y :=
  bits_join .i64 63 (by decide) wraps64 i x y hx0 hx hx1 hy0 hy hy1
theorem ev_ite_pos {α : Type} {c : Prop} [Decidable c] {f g : Nat → Option α} {r : α} (h : c) (k : Ev f r) : Ev (fun n => if c then f n else g n) r := Ev.congr (fun n => if_pos h) k
theorem ev_ite_neg {α : Type} {c : Prop} [Decidable c] {f g : Nat → Option α} {r : α} (h : ¬ c) (k : Ev g r) : Ev (fun n => if c then f n else g n) r := Ev.congr (fun n => if_neg h) k
/-- A callee without rounds that answers. -/
theorem ev_bind0 {α β : Type} {o : Option α} {f : Nat → α → Option β} {a : α} {r : β} (h : o = some a) (k : Ev (fun n => f n a) r) : Ev (fun n => o.bind (f n)) r := Ev.congr (fun n => by rw [h]; rfl) k
theorem bt_lo (s : ByteArray) (i : Int) : 0 ≤ bt s i := (bt_range s i).1
theorem bt_hi (s : ByteArray) (i : Int) : bt s i ≤ 255 := (bt_range s i).2
/-- A callee that answers from some number of rounds on, used. -/
theorem ev_use {α β : Type} {g : Nat → Option α} {a : α} {F G : Nat → Option β} {r : β} (e : Ev g a) (h : ∀ k, g k = some a → F k = G k) (c : Ev G r) : Ev F r := by
  obtain ⟨K, e⟩ := e
  obtain ⟨K', c⟩ := c
  exact ⟨max K K', fun n hn => (h n (e n (by omega))).trans (c n (by omega))⟩
theorem ev_use_step {α β : Type} {g : Nat → Option α} {a : α} {F G : Nat → Option β} {r : β} (e : Ev g a) (h : ∀ k, g k = some a → F (k + 1) = G k) (c : Ev G r) : Ev F r := by
  obtain ⟨K, e⟩ := e
  obtain ⟨K', c⟩ := c
  refine ⟨max K K' + 1, fun n hn => ?_⟩
  obtain ⟨m, rfl⟩ : ∃ m, n = m + 1 := ⟨n - 1, by omega⟩
  exact (h m (e m (by omega))).trans (c m (by omega))
theorem ev_end {α β : Type} {g : Nat → Option α} {a : α} {F : Nat → Option β} {r : β} (e : Ev g a) (h : ∀ k, g k = some a → F k = some r) : Ev F r := by
  obtain ⟨K, e⟩ := e
  exact ⟨K, fun n hn => h n (e n hn)⟩
theorem ev_two {α β : Type} {g : Nat → Option α} {h : Nat → Option β} {a : α} {b : β} (e : Ev g a) (f : Ev h b) : ∃ k, g k = some a ∧ h k = some b := by
  obtain ⟨K, e⟩ := e
  obtain ⟨K', f⟩ := f
  exact ⟨max K K', e _ (by omega), f _ (by omega)⟩
theorem ev_ret {α : Type} {F : Nat → Option α} {r : α} (h : ∀ k, F (k + 1) = some r) : Ev F r := ⟨1, fun n hn => by obtain ⟨m, rfl⟩ : ∃ m, n = m + 1 := ⟨n - 1, by omega⟩; exact h m⟩

theorem in_impl (a b c : Int) : impl_within.f a b c = some (decide (b ≤ a ∧ a ≤ c)) := by
  unfold impl_within.f
  split
  · rename_i h
    have e : (decide (a ≤ c)) = decide (b ≤ a ∧ a ≤ c) := decide_eq_decide.mpr ⟨fun h' => ⟨h, h'⟩, fun h' => h'.2⟩
    rw [e]
  · rename_i h
    have e : (decide (b ≤ a ∧ a ≤ c)) = false := decide_eq_false fun h' => h h'.1
    rw [e]

/-- 2^n, as the loop doubles it. -/
theorem pow_loop (n : Int) (d : Nat) : ∀ (x i : Int), 0 ≤ i → i + d = n → 0 ≤ x → x * 2 ^ d ≤ 4611686018427387904 → n ≤ 62 →
    Ev (fun k => spec_l01Pow.l0 k n x i) (x * 2 ^ d) := by
  induction d with
  | zero =>
    intro x i h0 h hx hb hn
    refine ev_ret (fun k => ?_)
    rw [spec_l01Pow.l0, if_neg (by omega)]
    simp
  | succ d ih =>
    intro x i h0 h hx hb hn
    have e : x * 2 ^ (d + 1) = 2 * x * 2 ^ d := by rw [Int.pow_succ, ← Int.mul_assoc, Int.mul_comm (x * 2 ^ d) 2, ← Int.mul_assoc]
    have hp : (1 : Int) ≤ 2 ^ d := by have : (0 : Int) < 2 ^ d := Int.pow_pos (by omega); omega
    have h2 : 2 * x ≤ 2 * x * 2 ^ d := by
      have := Int.mul_le_mul_of_nonneg_left hp (show 0 ≤ 2 * x by omega)
      omega
    have h3 := ih (2 * x) (i + 1) (by omega) (by omega) (by omega) (by omega) hn
    rw [e]
    refine Ev.step (fun k => ?_) h3
    rw [spec_l01Pow.l0, if_pos (by omega), w64_id (x := 2 * x) (by omega) (by omega), w64_id (x := i + 1) (by omega) (by omega)]
theorem pow_is (n : Nat) (hn : n ≤ 62) : Ev (fun k => spec_l01Pow.f k (n : Int)) (2 ^ n) := by
  have hb : (2 : Int) ^ n ≤ 2 ^ 62 := by exact_mod_cast Nat.pow_le_pow_right (n := 2) (by omega) hn
  have h := pow_loop n n 1 0 (by omega) (by omega) (by omega) (by rw [Int.one_mul]; exact hb) (by omega)
  rw [Int.one_mul] at h
  exact h
theorem pow_at (n : Int) (h0 : 0 ≤ n) (hn : n ≤ 62) : Ev (fun k => spec_l01Pow.f k n) (2 ^ n.toNat) := by
  have h := pow_is n.toNat (by omega)
  rw [Int.toNat_of_nonneg h0] at h
  exact h

/-- Is an Out right. -/
def okB (s : ByteArray) (n : Int) : Bool :=
  if s.size ≤ 12000 ∧ 0 ≤ n ∧ n ≤ 8 * (s.size : Int) ∧ (n + 7) / 8 = s.size then (if n % 8 = 0 then true else decide (bt s ((s.size : Int) - 1) < 2 ^ (n % 8).toNat)) else false
theorem ok_spec (s : ByteArray) (n : Int) (n0 : -9223372036854775808 ≤ n) (n1 : n ≤ 9223372036854775807) (hs : s.size ≤ 1048576) : Ev (fun k => spec_OutOk.f k s n) (okB s n) := by
  unfold okB
  by_cases h : s.size ≤ 12000 ∧ 0 ≤ n ∧ n ≤ 8 * (s.size : Int) ∧ (n + 7) / 8 = s.size
  · obtain ⟨h1, h2, h3, h4⟩ := h
    rw [if_pos ⟨h1, h2, h3, h4⟩]
    have w1 : wrap64 (8 * (s.size : Int)) = 8 * s.size := w64_id (by omega) (by omega)
    have w2 : wrap64 (n + 7) = n + 7 := w64_id (by omega) (by omega)
    have w3 : wrap64 ((n + 7) / 8) = (n + 7) / 8 := w64_id (by omega) (by omega)
    have w4 : wrap64 ((s.size : Int) - 1) = s.size - 1 := w64_id (by omega) (by omega)
    have t : Int.tmod n 8 = n % 8 := tmod_nn 8 h2
    by_cases h5 : n % 8 = 0
    · rw [if_pos h5]
      refine Ev.congr (fun k => ?_) (Ev.now true)
      unfold spec_OutOk.f
      rw [if_neg (by omega), if_neg (by omega), w1, if_neg (by omega), w2, tdiv_nn _ (by omega), w3, if_pos h4, t, if_pos h5]
    · rw [if_neg h5]
      have b0 := bt_lo s ((s.size : Int) - 1)
      have b1 := bt_hi s ((s.size : Int) - 1)
      refine ev_end (pow_at (n % 8) (by omega) (by omega)) (fun k hk => ?_)
      unfold spec_OutOk.f
      rw [if_neg (by omega), if_neg (by omega), w1, if_neg (by omega), w2, tdiv_nn _ (by omega), w3, if_pos h4, t, if_neg h5, w4, if_pos (by omega), if_pos (by omega), hk, w64_id (x := bt s ((s.size : Int) - 1)) (by omega) (by omega)]
      rfl
  · rw [if_neg h]
    refine Ev.congr (fun k => ?_) (Ev.now false)
    unfold spec_OutOk.f
    split
    · rfl
    · split
      · rfl
      · rw [w64_id (x := 8 * (s.size : Int)) (by omega) (by omega)]
        split
        · rfl
        · rw [w64_id (x := n + 7) (by omega) (by omega), tdiv_nn _ (by omega), w64_id (x := (n + 7) / 8) (by omega) (by omega), if_neg (by omega)]
theorem ok_impl (s : ByteArray) (n : Int) (n0 : -9223372036854775808 ≤ n) (n1 : n ≤ 9223372036854775807) (hs : s.size ≤ 1048576) : impl_OutOk.f s n = some (okB s n) := by
  unfold okB impl_OutOk.f impl_up.f
  rw [in_impl]
  simp only [Option.bind_some, decide_eq_true_eq]
  by_cases h : s.size ≤ 12000 ∧ 0 ≤ n ∧ n ≤ 8 * (s.size : Int) ∧ (n + 7) / 8 = s.size
  · obtain ⟨h1, h2, h3, h4⟩ := h
    have w2 : wrap64 (n + 7) = n + 7 := w64_id (by omega) (by omega)
    have w3 : wrap64 ((n + 7) / 8) = (n + 7) / 8 := w64_id (by omega) (by omega)
    have w4 : wrap64 ((s.size : Int) - 1) = s.size - 1 := w64_id (by omega) (by omega)
    rw [if_pos (show 0 ≤ n ∧ n ≤ 96000 from ⟨h2, by omega⟩), w2, tdiv_nn _ (by omega), w3, if_pos h4.symm, tmod_nn 8 h2, if_pos (show s.size ≤ 12000 ∧ 0 ≤ n ∧ n ≤ 8 * (s.size : Int) ∧ (n + 7) / 8 = s.size from ⟨h1, h2, h3, h4⟩)]
    by_cases h5 : n % 8 = 0
    · rw [if_pos h5, if_pos h5]
    · rw [if_neg h5, if_neg h5, w4, if_pos (by omega), if_pos (by omega), if_pos (by omega)]
      have b0 := bt_lo s ((s.size : Int) - 1)
      congr 1
      have e : shr .u8 (bt s ((s.size : Int) - 1)) (n % 8) = bt s ((s.size : Int) - 1) / 2 ^ (n % 8).toNat := shr_small rfl (by simp [IntKind.bits]; omega) |>.symm
      rw [e, Bool.eq_iff_iff]
      simp only [beq_iff_eq, decide_eq_true_eq]
      have hp : (0 : Int) < 2 ^ (n % 8).toNat := Int.pow_pos (by omega)
      constructor
      · intro hz
        have := Int.lt_mul_ediv_self_add (x := bt s ((s.size : Int) - 1)) hp
        rw [hz, Int.mul_zero, Int.zero_add] at this
        exact this
      · intro hz
        exact Int.ediv_eq_zero_of_lt b0 hz
  · rw [if_neg h]
    split
    · rw [w64_id (x := n + 7) (by omega) (by omega), tdiv_nn _ (by omega), w64_id (x := (n + 7) / 8) (by omega) (by omega), if_neg (by omega)]
    · rfl

theorem str_back (s : ByteArray) : strOfNums (bytesOf s) = s := by
  have e : bytesOf s = s.data.toList.map fun b => (b.toNat : Int) := by
    rfl
  rw [e]
  unfold strOfNums
  rw [List.map_map]
  have : ((fun n : Int => UInt8.ofNat n.toNat) ∘ fun b : UInt8 => (b.toNat : Int)) = id := by
    funext b
    simp
  rw [this, List.map_id]

theorem FnExactFillByte : laws_FnExactFillByte.Pure := by
  intro s n hs hn
  have hs' : s.size ≤ 9223372036854775807 := by unfold maxLen at hs; omega
  obtain ⟨n0, n1⟩ := wf64 hn
  have hw : wrap64 (1048576 - (s.size : Int)) = 1048576 - s.size := w64_id (by omega) (by omega)
  by_cases hb : 1048576 - (s.size : Int) < 0
  · refine ⟨0, ?_⟩
    unfold laws_FnExactFillByte.f laws_szOut.f
    rw [hw, if_pos hb]
    simp
  · obtain ⟨k, hk⟩ := (ok_spec s n n0 n1 (by omega)).rounds
    refine ⟨k, ?_⟩
    unfold laws_FnExactFillByte.f laws_szOut.f laws_toOut.f spec_FillByte.f impl_FillByte.f
    rw [hw, if_neg hb]
    simp only [Option.bind_some]
    rw [if_neg hb, hk, ok_impl s n n0 n1 (by omega)]
    simp only [Option.bind_some]
    cases hB : okB s n with
    | false =>
      unfold Go.Proofs.Ytfmdenifbbhmdaa.MOut.fillF laws_eqOut.f
      simp
    | true =>
      have h1 : s.size ≤ 12000 := by
        unfold okB at hB
        split at hB
        · omega
        · cases hB
      unfold Go.Proofs.Ytfmdenifbbhmdaa.MOut.fillF Go.Proofs.Ytfmdenifbbhmdaa.MOut.outF laws_eqOut.f
      rw [if_pos rfl, if_pos rfl, if_pos (by omega), bytesOf_length, if_pos h1, w64_id (by omega) (by omega), str_back]
      simp

end Go.Proofs.Ytfmdenifbbhmdaa.Pure
