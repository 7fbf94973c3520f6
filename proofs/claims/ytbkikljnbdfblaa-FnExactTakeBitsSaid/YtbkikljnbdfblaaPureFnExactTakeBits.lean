/- The law FnExactTakeBits: for every input within the row's bounds the printed function answers true: what the program's function tells is what the law asks. Conditions: only the bounds that the row itself gives (sizes of strings and slices, ranges of the number kinds). -/
import Derived.Test.YtbkikljnbdfblaaPFnExactTakeBitsx2
namespace Go.Proofs.Ytbkikljnbdfblaa.Pure
open Go.RowKit Go.Proofs.Ytbkikljnbdfblaa.PFnExactTakeBits Go.Proofs.YtbkikljnbdfblaaW.PrintWords Go.Proofs.YtbkikljnbdfblaaW.PrintLast Go.Proofs.YtbkikljnbdfblaaW.PrintMore
set_option linter.unusedVariables false
set_option linter.unusedSimpArgs false

theorem w64_id {x : Int} (h0 : -9223372036854775808 ≤ x) (h1 : x ≤ 9223372036854775807) : wrap64 x = x := by unfold wrap64; omega
theorem tmod_nn {a : Int} (b : Int) (h : 0 ≤ a) : Int.tmod a b = a % b := Int.tmod_eq_emod_of_nonneg h
theorem tdiv_nn {a : Int} (b : Int) (h : 0 ≤ a) : Int.tdiv a b = a / b := Int.tdiv_eq_ediv_of_nonneg h
theorem wf64 {n : Int} (h : (Lit.int .i64 n).wf = true) : -9223372036854775808 ≤ n ∧ n ≤ 9223372036854775807 := by
  simp [Lit.wf, IntKind.min, IntKind.max, IntKind.signed, IntKind.bits] at h
  omega
theorem wfu32 {n : Int} (h : (Lit.int .u32 n).wf = true) : 0 ≤ n ∧ n ≤ 4294967295 := by
  simp [Lit.wf, IntKind.min, IntKind.max, IntKind.signed, IntKind.bits] at h
  omega
theorem wraps64 (n : Int) (h0 : 0 ≤ n) (h1 : n < 2 ^ 63) : IntKind.i64.wrap n = n := by rw [IntKind.wrap_i64]; omega
theorem wrapsu32 (n : Int) (h0 : 0 ≤ n) (h1 : n < 2 ^ 32) : IntKind.u32.wrap n = n := by rw [IntKind.wrap_u32]; omega
/-- a | b of parts that do not meet, of an int. -/
theorem or64 (i : Nat) (x y : Int) (hx0 : 0 ≤ x) (hx : x % 2 ^ i = 0) (hx1 : x < 2 ^ 63) (hy0 : 0 ≤ y) (hy : y < 2 ^ i) (hy1 : y < 2 ^ 63) : Go.bits .or .i64 x y = x + y :=
  bits_join .i64 63 (by decide) wraps64 i x y hx0 hx hx1 hy0 hy hy1
theorem ev_ite_pos {α : Type} {c : Prop} [Decidable c] {f g : Nat → Option α} {r : α} (h : c) (k : Ev f r) : Ev (fun n => if c then f n else g n) r := Ev.congr (fun n => if_pos h) k
theorem ev_ite_neg {α : Type} {c : Prop} [Decidable c] {f g : Nat → Option α} {r : α} (h : ¬ c) (k : Ev g r) : Ev (fun n => if c then f n else g n) r := Ev.congr (fun n => if_neg h) k
/-- A callee without rounds that answers. -/
theorem ev_bind0 {α β : Type} {o : Option α} {f : Nat → α → Option β} {a : α} {r : β} (h : o = some a) (k : Ev (fun n => f n a) r) : Ev (fun n => o.bind (f n)) r := Ev.congr (fun n => by rw [h]; rfl) k
theorem bt_lo (s : ByteArray) (i : Int) : 0 ≤ bt s i := (bt_range s i).1
theorem bt_hi (s : ByteArray) (i : Int) : bt s i ≤ 255 := (bt_range s i).2
/-- A callee that answers from some number of rounds on, used. -/
theorem ev_use {α β : Type} {g : Nat → Option α} {a : α} {F G : Nat → Option β} {r : β} (e : Ev g a) (h : ∀ k, g k = some a → F k = G k) (c : Ev G r) : Ev F r := by
  obtain ⟨K, e⟩ := e
  obtain ⟨K', c⟩ := c
  exact ⟨max K K', fun n hn => (h n (e n (by omega))).trans (c n (by omega))⟩
theorem ev_use_step {α β : Type} {g : Nat → Option α} {a : α} {F G : Nat → Option β} {r : β} (e : Ev g a) (h : ∀ k, g k = some a → F (k + 1) = G k) (c : Ev G r) : Ev F r := by
  obtain ⟨K, e⟩ := e
  obtain ⟨K', c⟩ := c
  refine ⟨max K K' + 1, fun n hn => ?_⟩
  obtain ⟨m, rfl⟩ : ∃ m, n = m + 1 := ⟨n - 1, by omega⟩
  exact (h m (e m (by omega))).trans (c m (by omega))
theorem ev_end {α β : Type} {g : Nat → Option α} {a : α} {F : Nat → Option β} {r : β} (e : Ev g a) (h : ∀ k, g k = some a → F k = some r) : Ev F r := by
  obtain ⟨K, e⟩ := e
  exact ⟨K, fun n hn => h n (e n hn)⟩
theorem ev_two {α β : Type} {g : Nat → Option α} {h : Nat → Option β} {a : α} {b : β} (e : Ev g a) (f : Ev h b) : ∃ k, g k = some a ∧ h k = some b := by
  obtain ⟨K, e⟩ := e
  obtain ⟨K', f⟩ := f
  exact ⟨max K K', e _ (by omega), f _ (by omega)⟩
theorem ev_ret {α : Type} {F : Nat → Option α} {r : α} (h : ∀ k, F (k + 1) = some r) : Ev F r := ⟨1, fun n hn => by obtain ⟨m, rfl⟩ : ∃ m, n = m + 1 := ⟨n - 1, by omega⟩; exact h m⟩

theorem in_spec (a b c : Int) : spec_l01In.f a b c = some (decide (b ≤ a ∧ a ≤ c)) := by
  unfold spec_l01In.f
  split
  · rename_i h
    have e : (decide (a ≤ c)) = decide (b ≤ a ∧ a ≤ c) := decide_eq_decide.mpr ⟨fun h' => ⟨h, h'⟩, fun h' => h'.2⟩
    rw [e]
  · rename_i h
    have e : (decide (b ≤ a ∧ a ≤ c)) = false := decide_eq_false fun h' => h h'.1
    rw [e]

theorem in_impl (a b c : Int) : impl_within.f a b c = some (decide (b ≤ a ∧ a ≤ c)) := by
  unfold impl_within.f
  split
  · rename_i h
    have e : (decide (a ≤ c)) = decide (b ≤ a ∧ a ≤ c) := decide_eq_decide.mpr ⟨fun h' => ⟨h, h'⟩, fun h' => h'.2⟩
    rw [e]
  · rename_i h
    have e : (decide (b ≤ a ∧ a ≤ c)) = false := decide_eq_false fun h' => h h'.1
    rw [e]


/-- 2^n, as the loop doubles it. -/
theorem pow_loop (n : Int) (d : Nat) : ∀ (x i : Int), 0 ≤ i → i + d = n → 0 ≤ x → x * 2 ^ d ≤ 4611686018427387904 → n ≤ 62 →
    Ev (fun k => spec_l01Pow.l0 k n x i) (x * 2 ^ d) := by
  induction d with
  | zero =>
    intro x i h0 h hx hb hn
    refine ev_ret (fun k => ?_)
    rw [spec_l01Pow.l0, if_neg (by omega)]
    simp
  | succ d ih =>
    intro x i h0 h hx hb hn
    have e : x * 2 ^ (d + 1) = 2 * x * 2 ^ d := by rw [Int.pow_succ, ← Int.mul_assoc, Int.mul_comm (x * 2 ^ d) 2, ← Int.mul_assoc]
    have hp : (1 : Int) ≤ 2 ^ d := by have : (0 : Int) < 2 ^ d := Int.pow_pos (by omega); omega
    have h2 : 2 * x ≤ 2 * x * 2 ^ d := by
      have := Int.mul_le_mul_of_nonneg_left hp (show 0 ≤ 2 * x by omega)
      omega
    have h3 := ih (2 * x) (i + 1) (by omega) (by omega) (by omega) (by omega) hn
    rw [e]
    refine Ev.step (fun k => ?_) h3
    rw [spec_l01Pow.l0, if_pos (by omega), w64_id (x := 2 * x) (by omega) (by omega), w64_id (x := i + 1) (by omega) (by omega)]
theorem pow_is (n : Nat) (hn : n ≤ 62) : Ev (fun k => spec_l01Pow.f k (n : Int)) (2 ^ n) := by
  have hb : (2 : Int) ^ n ≤ 2 ^ 62 := by exact_mod_cast Nat.pow_le_pow_right (n := 2) (by omega) hn
  have h := pow_loop n n 1 0 (by omega) (by omega) (by omega) (by rw [Int.one_mul]; exact hb) (by omega)
  rw [Int.one_mul] at h
  exact h
theorem pow_at (n : Int) (h0 : 0 ≤ n) (hn : n ≤ 62) : Ev (fun k => spec_l01Pow.f k n) (2 ^ n.toNat) := by
  have h := pow_is n.toNat (by omega)
  rw [Int.toNat_of_nonneg h0] at h
  exact h

/-- Bit i of a text. -/
def bitB (s : ByteArray) (i : Int) : Int := bt s (i / 8) / 2 ^ (i % 8).toNat % 2
theorem bitB_01 (s : ByteArray) (i : Int) : bitB s i = 0 ∨ bitB s i = 1 := by unfold bitB; omega
theorem bitAt_is (s : ByteArray) (hs : s.size ≤ 1048576) (i : Int) (h0 : 0 ≤ i) (h1 : i < 8 * s.size) : impl_bitAt.f s i = some (bitB s i) := by
  unfold impl_bitAt.f bitB
  have b0 := bt_lo s (i / 8)
  have b1 := bt_hi s (i / 8)
  rw [tdiv_nn _ h0, tmod_nn _ h0, w64_id (x := i / 8) (by omega) (by omega), if_pos (by omega), if_pos (by omega), if_pos (by omega)]
  have e : shr .u8 (bt s (i / 8)) (i % 8) = bt s (i / 8) / 2 ^ (i % 8).toNat := (shr_small rfl (by simp [IntKind.bits]; omega)).symm
  have hp : (1 : Int) ≤ 2 ^ (i % 8).toNat := by have : (0 : Int) < 2 ^ (i % 8).toNat := Int.pow_pos (by omega); omega
  have q0 : 0 ≤ bt s (i / 8) / 2 ^ (i % 8).toNat := Int.ediv_nonneg b0 (by omega)
  have q1 : bt s (i / 8) / 2 ^ (i % 8).toNat ≤ bt s (i / 8) := Int.ediv_le_self _ b0
  have m : Go.bits .and .u8 (bt s (i / 8) / 2 ^ (i % 8).toNat) 1 = bt s (i / 8) / 2 ^ (i % 8).toNat % 2 := bits_mask .u8 8 (by decide) wraps_u8 1 (by decide) _ q0 (by omega)
  rw [e, m, w64_id (by omega) (by omega)]
theorem or_swap (x y : Int) : Go.bits .or .i64 x y = Go.bits .or .i64 y x := by
  unfold Go.bits
  simp only []
  rw [BitVec.or_comm]

theorem take_loops (s : ByteArray) (hs : s.size ≤ 12000) (p n : Int) (hp0 : 0 ≤ p) (hn : n ≤ 24) (hpn : p ≤ 8 * (s.size : Int) - n) (d : Nat) : ∀ (x : Int) (i : Nat), i + d = n → 0 ≤ x → x < 2 ^ i →
    ∃ r, Ev (fun k => spec_TakeBits.l0 k n x i s p) (r, s, p + n, true) ∧ Ev (fun k => impl_TakeBits.l0 k n x n i s p) (r, s, p + n, true) := by
  induction d with
  | zero =>
    intro x i h h0 h1
    refine ⟨x, ev_ret (fun k => ?_), ev_ret (fun k => ?_)⟩
    · rw [spec_TakeBits.l0, if_neg (by omega), w64_id (x := p + n) (by omega) (by omega)]
    · rw [impl_TakeBits.l0, if_neg (by omega), w64_id (x := p + n) (by omega) (by omega)]
  | succ d ih =>
    intro x i h h0 h1
    have hP : (2 : Int) ^ i ≤ 2 ^ 24 := by exact_mod_cast Nat.pow_le_pow_right (n := 2) (by omega) (show i ≤ 24 by omega)
    have hP0 : (1 : Int) ≤ 2 ^ i := by have : (0 : Int) < 2 ^ i := Int.pow_pos (by omega); omega
    have hS : (2 : Int) ^ (i + 1) = 2 * 2 ^ i := by rw [Int.pow_succ, Int.mul_comm]
    have hb := bitB_01 s (p + i)
    have hm : bitB s (p + i) * 2 ^ i = 0 ∨ bitB s (p + i) * 2 ^ i = 2 ^ i := by
      rcases hb with e | e <;> rw [e]
      · left; simp
      · right; simp
    have hmm : bitB s (p + i) * 2 ^ i % 2 ^ i = 0 := Int.mul_emod_left _ _
    obtain ⟨r, e1, e2⟩ := ih (x + bitB s (p + i) * 2 ^ i) (i + 1) (by omega) (by omega) (by omega)
    have w0 : wrap64 (p + i) = p + i := w64_id (by omega) (by omega)
    have w1 : wrap64 ((i : Int) + 1) = ((i + 1 : Nat) : Int) := w64_id (by omega) (by omega)
    refine ⟨r, ?_, ?_⟩
    · have b0 := bt_lo s ((p + i) / 8)
      have b1 := bt_hi s ((p + i) / 8)
      have A := pow_at ((p + i) % 8) (by omega) (by omega)
      have B := pow_is i (by omega)
      have hq : (1 : Int) ≤ 2 ^ ((p + i) % 8).toNat := by have : (0 : Int) < 2 ^ ((p + i) % 8).toNat := Int.pow_pos (by omega); omega
      have q0 : 0 ≤ bt s ((p + i) / 8) / 2 ^ ((p + i) % 8).toNat := Int.ediv_nonneg b0 (by omega)
      have q1 : bt s ((p + i) / 8) / 2 ^ ((p + i) % 8).toNat ≤ bt s ((p + i) / 8) := Int.ediv_le_self _ b0
      obtain ⟨K1, A⟩ := A
      obtain ⟨K2, B⟩ := B
      obtain ⟨K3, e1⟩ := e1
      refine ⟨max (max K1 K2) K3 + 1, fun k hk => ?_⟩
      obtain ⟨k, rfl⟩ : ∃ m, k = m + 1 := ⟨k - 1, by omega⟩
      have A := A k (by omega)
      have B := B k (by omega)
      have e1 := e1 k (by omega)
      show spec_TakeBits.l0 (k + 1) n x i s p = _
      rw [spec_TakeBits.l0, if_pos (by omega), w0, tdiv_nn _ (a := p + i) (by omega), tmod_nn _ (a := p + i) (by omega), w64_id (x := (p + i) / 8) (by omega) (by omega), if_pos (by omega), if_pos (by omega)]
      simp only [A, B, Option.bind_some]
      rw [if_neg (by omega), w64_id (x := bt s ((p + i) / 8)) (by omega) (by omega), tdiv_nn _ b0, w64_id (x := bt s ((p + i) / 8) / 2 ^ ((p + i) % 8).toNat) (by omega) (by omega), tmod_nn _ q0]
      show spec_TakeBits.l0 k n (wrap64 (x + wrap64 (bitB s (p + i) * 2 ^ i))) (wrap64 ((i : Int) + 1)) s p = _
      rw [w1, w64_id (x := bitB s (p + i) * 2 ^ i) (by omega) (by omega), w64_id (x := x + bitB s (p + i) * 2 ^ i) (by omega) (by omega)]
      exact e1
    · refine Ev.step (fun k => ?_) e2
      have sh : shl .i64 (bitB s (p + i)) (i : Int) = bitB s (p + i) * 2 ^ i := by
        unfold shl
        have hmin : min (i : Int).toNat IntKind.i64.bits = i := by simp [IntKind.bits]; omega
        rw [hmin, wraps64 _ (by omega) (by omega)]
      rw [impl_TakeBits.l0, if_pos (by omega), w0, bitAt_is s (by omega) (p + i) (by omega) (by omega), Option.bind_some, if_pos (by omega), w1, sh, or_swap, or64 i _ _ (by omega) hmm (by omega) h0 h1 (by omega), Int.add_comm]
/-- Both sides of TakeBits. -/
theorem take_both (s : ByteArray) (hs : s.size ≤ 1048576) (p n : Int) (p0 : -9223372036854775808 ≤ p) (p1 : p ≤ 9223372036854775807) (n0 : -9223372036854775808 ≤ n) (n1 : n ≤ 9223372036854775807) :
    (0 ≤ n ∧ n ≤ 24 ∧ s.size ≤ 12000 ∧ 0 ≤ p ∧ p ≤ 8 * (s.size : Int) - n → ∃ r, Ev (fun k => spec_TakeBits.f k s p n) (r, s, p + n, true) ∧ Ev (fun k => impl_TakeBits.f k s p n) (r, s, p + n, true)) ∧
    (¬ (0 ≤ n ∧ n ≤ 24 ∧ s.size ≤ 12000 ∧ 0 ≤ p ∧ p ≤ 8 * (s.size : Int) - n) → Ev (fun k => spec_TakeBits.f k s p n) (0, (⟨#[]⟩ : ByteArray), 0, false) ∧ Ev (fun k => impl_TakeBits.f k s p n) (0, (⟨#[]⟩ : ByteArray), 0, false)) := by
  have s1 : Ev (fun k => spec_TakeBits.j0 k n true s p) (0, (⟨#[]⟩ : ByteArray), 0, false) := ev_ret (fun k => by rw [spec_TakeBits.j0, if_pos rfl])
  have i1 : Ev (fun k => impl_TakeBits.j0 k n true s p) (0, (⟨#[]⟩ : ByteArray), 0, false) := ev_ret (fun k => by rw [impl_TakeBits.j0, if_pos rfl])
  have w8 : wrap64 (8 * (s.size : Int)) = 8 * s.size := w64_id (by omega) (by omega)
  constructor
  · intro ⟨h1, h2, h3, h4, h5⟩
    obtain ⟨r, e1, e2⟩ := take_loops s h3 p n h4 h2 h5 n.toNat 0 0 (by omega) (by omega) (by simp)
    have s2 : Ev (fun k => spec_TakeBits.j0 k n false s p) (r, s, p + n, true) := Ev.step (fun k => by rw [spec_TakeBits.j0, if_neg (by decide)]; rfl) e1
    have i2 : Ev (fun k => impl_TakeBits.j0 k n false s p) (r, s, p + n, true) := Ev.step (fun k => by rw [impl_TakeBits.j0, if_neg (by decide)]; rfl) e2
    have ht : decide (0 ≤ n ∧ n ≤ 24) = true := decide_eq_true ⟨h1, h2⟩
    have hw : wrap64 (8 * (s.size : Int) - n) = 8 * s.size - n := w64_id (by omega) (by omega)
    have hd : decide (p > 8 * (s.size : Int) - n) = false := decide_eq_false (by omega)
    refine ⟨r, Ev.congr (fun k => ?_) s2, Ev.congr (fun k => ?_) i2⟩
    · unfold spec_TakeBits.f
      rw [in_spec, ht, Option.bind_some, if_pos rfl, if_neg (by omega), if_neg (by omega), w8, hw, hd]
    · unfold impl_TakeBits.f
      rw [in_impl, ht, Option.bind_some, if_pos rfl, if_neg (by omega), if_neg (by omega), w8, hw, hd]
  · intro h
    refine ⟨Ev.congr (fun k => ?_) s1, Ev.congr (fun k => ?_) i1⟩
    · unfold spec_TakeBits.f
      rw [in_spec, Option.bind_some]
      split
      · rename_i h1
        have h2 := of_decide_eq_true h1
        split
        · rfl
        · split
          · rfl
          · have hw : wrap64 (8 * (s.size : Int) - n) = 8 * s.size - n := w64_id (by omega) (by omega)
            have hd : decide (p > 8 * (s.size : Int) - n) = true := decide_eq_true (by omega)
            rw [w8, hw, hd]
      · rfl
    · unfold impl_TakeBits.f
      rw [in_impl, Option.bind_some]
      split
      · rename_i h1
        have h2 := of_decide_eq_true h1
        split
        · rfl
        · split
          · rfl
          · have hw : wrap64 (8 * (s.size : Int) - n) = 8 * s.size - n := w64_id (by omega) (by omega)
            have hd : decide (p > 8 * (s.size : Int) - n) = true := decide_eq_true (by omega)
            rw [w8, hw, hd]
      · rfl

theorem FnExactTakeBits : laws_FnExactTakeBits.Pure := by
  intro s p n hs hp hn
  have hs' : s.size ≤ 9223372036854775807 := by unfold maxLen at hs; omega
  obtain ⟨p0, p1⟩ := wf64 hp
  obtain ⟨n0, n1⟩ := wf64 hn
  have hw : wrap64 (1048576 - (s.size : Int)) = 1048576 - s.size := w64_id (by omega) (by omega)
  by_cases hb : 1048576 - (s.size : Int) < 0
  · refine ⟨0, ?_⟩
    unfold laws_FnExactTakeBits.f laws_szBits.f
    rw [hw, if_pos hb]
    simp
  · have go : ∀ r : Int × ByteArray × Int × Bool, Ev (fun k => spec_TakeBits.f k s p n) r → Ev (fun k => impl_TakeBits.f k s p n) r → ∃ k, laws_FnExactTakeBits.f k s p n = some true := by
      intro r e1 e2
      obtain ⟨k, g1, g2⟩ := ev_two e1 e2
      refine ⟨k, ?_⟩
      unfold laws_FnExactTakeBits.f laws_szBits.f laws_toBits.f
      rw [hw, if_neg hb]
      simp only [Option.bind_some]
      rw [if_neg hb, g1]
      simp only [Option.bind_some]
      rw [g2]
      unfold laws_eqBits.f
      simp
    obtain ⟨g1, g2⟩ := take_both s (by omega) p n p0 p1 n0 n1
    by_cases h : 0 ≤ n ∧ n ≤ 24 ∧ s.size ≤ 12000 ∧ 0 ≤ p ∧ p ≤ 8 * (s.size : Int) - n
    · obtain ⟨r, e1, e2⟩ := g1 h
      exact go _ e1 e2
    · obtain ⟨e1, e2⟩ := g2 h
      exact go _ e1 e2

end Go.Proofs.Ytbkikljnbdfblaa.Pure
