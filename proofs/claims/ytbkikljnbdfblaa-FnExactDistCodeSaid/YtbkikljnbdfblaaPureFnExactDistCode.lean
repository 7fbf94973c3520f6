/- The law FnExactDistCode: for every input within the row's bounds the printed function answers true: what the program's function tells is what the law asks. Conditions: only the bounds that the row itself gives (sizes of strings and slices, ranges of the number kinds). -/
import Derived.Test.YtbkikljnbdfblaaPFnExactDistCodex1
namespace Go.Proofs.Ytbkikljnbdfblaa.Pure
open Go.RowKit Go.Proofs.Ytbkikljnbdfblaa.PFnExactDistCode Go.Proofs.YtbkikljnbdfblaaW.PrintWords Go.Proofs.YtbkikljnbdfblaaW.PrintLast Go.Proofs.YtbkikljnbdfblaaW.PrintMore
set_option linter.unusedVariables false
set_option linter.unusedSimpArgs false

theorem w64_id {x : Int} (h0 : -9223372036854775808 ≤ x) (h1 : x ≤ 9223372036854775807) : wrap64 x = x := by unfold wrap64; omega
theorem tmod_nn {a : Int} (b : Int) (h : 0 ≤ a) : Int.tmod a b = a % b := Int.tmod_eq_emod_of_nonneg h
theorem tdiv_nn {a : Int} (b : Int) (h : 0 ≤ a) : Int.tdiv a b = a / b := Int.tdiv_eq_ediv_of_nonneg h
theorem wf64 {n : Int} (h : (Lit.int .i64 n).wf = true) : -9223372036854775808 ≤ n ∧ n ≤ 9223372036854775807 := by
  simp [Lit.wf, IntKind.min, IntKind.max, IntKind.signed, IntKind.bits] at h
  omega
theorem wfu32 {n : Int} (h : (Lit.int .u32 n).wf = true) : 0 ≤ n ∧ n ≤ 4294967295 := by
  simp [Lit.wf, IntKind.min, IntKind.max, IntKind.signed, IntKind.bits] at h
  omega
theorem wraps64 (n : Int) (h0 : 0 ≤ n) (h1 : n < 2 ^ 63) : IntKind.i64.wrap n = n := by rw [IntKind.wrap_i64]; omega
theorem wrapsu32 (n : Int) (h0 : 0 ≤ n) (h1 : n < 2 ^ 32) : IntKind.u32.wrap n = n := by rw [IntKind.wrap_u32]; omega
/-- a | b of parts that do not meet, of an int. -/
theorem or64 (i : Nat) (x y : Int) (hx0 : 0 ≤ x) (hx : x % 2 ^ i = 0) (hx1 : x < 2 ^ 63) (hy0 : 0 ≤ y) (hy : y < 2 ^ i) (hy1 : y < 2 ^ 63) : Go.bits .or .i64 x y = x + y :=
  bits_join .i64 63 (by decide) wraps64 i x y hx0 hx hx1 hy0 hy hy1
theorem ev_ite_pos {α : Type} {c : Prop} [Decidable c] {f g : Nat → Option α} {r : α} (h : c) (k : Ev f r) : Ev (fun n => if c then f n else g n) r := Ev.congr (fun n => if_pos h) k
theorem ev_ite_neg {α : Type} {c : Prop} [Decidable c] {f g : Nat → Option α} {r : α} (h : ¬ c) (k : Ev g r) : Ev (fun n => if c then f n else g n) r := Ev.congr (fun n => if_neg h) k
/-- A callee without rounds that answers. -/
theorem ev_bind0 {α β : Type} {o : Option α} {f : Nat → α → Option β} {a : α} {r : β} (h : o = some a) (k : Ev (fun n => f n a) r) : Ev (fun n => o.bind (f n)) r := Ev.congr (fun n => by rw [h]; rfl) k
theorem bt_lo (s : ByteArray) (i : Int) : 0 ≤ bt s i := (bt_range s i).1
theorem bt_hi (s : ByteArray) (i : Int) : bt s i ≤ 255 := (bt_range s i).2
/-- A callee that answers from some number of rounds on, used. -/
theorem ev_use {α β : Type} {g : Nat → Option α} {a : α} {F G : Nat → Option β} {r : β} (e : Ev g a) (h : ∀ k, g k = some a → F k = G k) (c : Ev G r) : Ev F r := by
  obtain ⟨K, e⟩ := e
  obtain ⟨K', c⟩ := c
  exact ⟨max K K', fun n hn => (h n (e n (by omega))).trans (c n (by omega))⟩
theorem ev_use_step {α β : Type} {g : Nat → Option α} {a : α} {F G : Nat → Option β} {r : β} (e : Ev g a) (h : ∀ k, g k = some a → F (k + 1) = G k) (c : Ev G r) : Ev F r := by
  obtain ⟨K, e⟩ := e
  obtain ⟨K', c⟩ := c
  refine ⟨max K K' + 1, fun n hn => ?_⟩
  obtain ⟨m, rfl⟩ : ∃ m, n = m + 1 := ⟨n - 1, by omega⟩
  exact (h m (e m (by omega))).trans (c m (by omega))
theorem ev_end {α β : Type} {g : Nat → Option α} {a : α} {F : Nat → Option β} {r : β} (e : Ev g a) (h : ∀ k, g k = some a → F k = some r) : Ev F r := by
  obtain ⟨K, e⟩ := e
  exact ⟨K, fun n hn => h n (e n hn)⟩
theorem ev_two {α β : Type} {g : Nat → Option α} {h : Nat → Option β} {a : α} {b : β} (e : Ev g a) (f : Ev h b) : ∃ k, g k = some a ∧ h k = some b := by
  obtain ⟨K, e⟩ := e
  obtain ⟨K', f⟩ := f
  exact ⟨max K K', e _ (by omega), f _ (by omega)⟩
theorem ev_ret {α : Type} {F : Nat → Option α} {r : α} (h : ∀ k, F (k + 1) = some r) : Ev F r := ⟨1, fun n hn => by obtain ⟨m, rfl⟩ : ∃ m, n = m + 1 := ⟨n - 1, by omega⟩; exact h m⟩

theorem in_spec (a b c : Int) : spec_l01In.f a b c = some (decide (b ≤ a ∧ a ≤ c)) := by
  unfold spec_l01In.f
  split
  · rename_i h
    have e : (decide (a ≤ c)) = decide (b ≤ a ∧ a ≤ c) := decide_eq_decide.mpr ⟨fun h' => ⟨h, h'⟩, fun h' => h'.2⟩
    rw [e]
  · rename_i h
    have e : (decide (b ≤ a ∧ a ≤ c)) = false := decide_eq_false fun h' => h h'.1
    rw [e]

theorem in_impl (a b c : Int) : impl_within.f a b c = some (decide (b ≤ a ∧ a ≤ c)) := by
  unfold impl_within.f
  split
  · rename_i h
    have e : (decide (a ≤ c)) = decide (b ≤ a ∧ a ≤ c) := decide_eq_decide.mpr ⟨fun h' => ⟨h, h'⟩, fun h' => h'.2⟩
    rw [e]
  · rename_i h
    have e : (decide (b ≤ a ∧ a ≤ c)) = false := decide_eq_false fun h' => h h'.1
    rw [e]


/-- Symbol i: both sides tell the same first distance and the same number of extra bits. -/
def distOk (i : Nat) : Bool :=
  match spec_l06DistBits.f 64 i, impl_distSpan.f i with
  | some (b, m), some (m', b') => b == b' && m == m' && (0 ≤ b && b ≤ 13 && 1 ≤ m && m ≤ 32768)
  | _, _ => false
theorem dist_table : ∀ i, i < 30 → distOk i = true := by decide +kernel
theorem dist_row (i : Nat) (hi : i < 30) : ∃ b m, spec_l06DistBits.f 64 i = some (b, m) ∧ impl_distSpan.f i = some (m, b) ∧ 0 ≤ b ∧ b ≤ 13 ∧ 1 ≤ m ∧ m ≤ 32768 := by
  have h := dist_table i hi
  unfold distOk at h
  split at h
  · rename_i b m m' b' h1 h2
    simp only [Bool.and_eq_true, beq_iff_eq, decide_eq_true_eq] at h
    obtain ⟨⟨rfl, rfl⟩, h3⟩ := h
    exact ⟨b, m, h1, h2, h3.1.1.1, h3.1.1.2, h3.1.2, h3.2⟩
  · cases h
/-- The number of extra bits, and the first distance, of a symbol. -/
def dB (i : Nat) : Int := ((spec_l06DistBits.f 64 i).getD (0, 0)).1
def dM (i : Nat) : Int := ((spec_l06DistBits.f 64 i).getD (0, 0)).2
theorem dist_at (i : Nat) (hi : i < 30) : Ev (fun k => spec_l06DistBits.f k i) (dB i, dM i) ∧ impl_distSpan.f i = some (dM i, dB i) ∧ 1 ≤ dM i ∧ dM i ≤ 32768 := by
  obtain ⟨b, m, h1, h2, _, _, h5, h6⟩ := dist_row i hi
  have e1 : dB i = b := by unfold dB; rw [h1]; rfl
  have e2 : dM i = m := by unfold dM; rw [h1]; rfl
  rw [e1, e2]
  exact ⟨Ev.of (spec_l06DistBits.mono _) h1, h2, h5, h6⟩
theorem dist_find (n : Int) (hn : 1 ≤ n) (m : Nat) (hm : m < 30) : ∃ t, t ≤ m ∧ dM t ≤ n ∧ ∀ s, t < s → s ≤ m → n < dM s := by
  induction m with
  | zero => exact ⟨0, Nat.le_refl _, by have : dM 0 = 1 := by decide +kernel
                                        omega, fun s h1 h2 => by omega⟩
  | succ m ih =>
    by_cases h : dM (m + 1) ≤ n
    · exact ⟨m + 1, Nat.le_refl _, h, fun s h1 h2 => by omega⟩
    · obtain ⟨t, h1, h2, h3⟩ := ih (by omega)
      refine ⟨t, by omega, h2, fun s hs1 hs2 => ?_⟩
      by_cases e : s = m + 1
      · subst e; omega
      · exact h3 s hs1 (by omega)
theorem dist_tail (n : Int) (t : Nat) (ht : t < 30) (hall : ∀ s, t < s → s ≤ 29 → n < dM s) (d : Nat) : ∀ s : Nat, t < s → s + d = 30 →
    Ev (fun k => spec_DistCode.l0 k n t (dB t) (dM t) s) ((t : Int), dB t, wrap64 (n - dM t)) := by
  induction d with
  | zero =>
    intro s h1 h2
    exact ev_ret (fun k => by rw [spec_DistCode.l0, if_neg (by omega)])
  | succ d ih =>
    intro s h1 h2
    obtain ⟨e, _⟩ := dist_at s (by omega)
    refine ev_use_step e (fun k hk => ?_) (ih (s + 1) (by omega) (by omega))
    have hlt := hall s h1 (by omega)
    rw [spec_DistCode.l0, if_pos (by omega), hk, Option.bind_some, if_neg (by omega), w64_id (x := (s : Int) + 1) (by omega) (by omega)]
    rfl
theorem dist_head (n : Int) (t : Nat) (ht : t < 30) (hle : dM t ≤ n) (hall : ∀ s, t < s → s ≤ 29 → n < dM s) (d : Nat) : ∀ (s : Nat) (x y z : Int), s + d = t →
    Ev (fun k => spec_DistCode.l0 k n x y z s) ((t : Int), dB t, wrap64 (n - dM t)) := by
  induction d with
  | zero =>
    intro s x y z h
    obtain rfl : s = t := by omega
    obtain ⟨e, _⟩ := dist_at s ht
    refine ev_use_step e (fun k hk => ?_) (dist_tail n s ht hall (29 - s) (s + 1) (by omega) (by omega))
    rw [spec_DistCode.l0, if_pos (by omega), hk, Option.bind_some, if_pos hle, w64_id (x := (s : Int) + 1) (by omega) (by omega)]
    rfl
  | succ d ih =>
    intro s x y z h
    obtain ⟨e, _⟩ := dist_at s (by omega)
    by_cases c : dM s ≤ n
    · refine ev_use_step e (fun k hk => ?_) (ih (s + 1) s (dB s) (dM s) (by omega))
      rw [spec_DistCode.l0, if_pos (by omega), hk, Option.bind_some, if_pos c, w64_id (x := (s : Int) + 1) (by omega) (by omega)]
      rfl
    · refine ev_use_step e (fun k hk => ?_) (ih (s + 1) x y z (by omega))
      rw [spec_DistCode.l0, if_pos (by omega), hk, Option.bind_some, if_neg c, w64_id (x := (s : Int) + 1) (by omega) (by omega)]
      rfl
theorem dist_down (n : Int) (t : Nat) (ht : t < 30) (hle : dM t ≤ n) (hall : ∀ s, t < s → s ≤ 29 → n < dM s) (d : Nat) : ∀ s : Nat, s = t + d → s < 30 →
    Ev (fun k => impl_DistCode.l0 k n s (dM s) (dB s)) ((t : Int), dB t, wrap64 (n - dM t)) := by
  induction d with
  | zero =>
    intro s h hs
    obtain rfl : s = t := by omega
    exact ev_ret (fun k => by rw [impl_DistCode.l0, if_neg (by omega)])
  | succ d ih =>
    intro s h hs
    have hlt := hall s (by omega) (by omega)
    obtain ⟨_, e, _⟩ := dist_at (s - 1) (by omega)
    have hc : ((s : Int) - 1) = ((s - 1 : Nat) : Int) := by omega
    refine Ev.step (fun k => ?_) (ih (s - 1) (by omega) (by omega))
    rw [impl_DistCode.l0, if_pos (by omega), w64_id (x := (s : Int) - 1) (by omega) (by omega), hc, e]
    rfl
/-- What the code of a distance comes to, on both sides. -/
theorem dist_both (n : Int) (h0 : 1 ≤ n) (h1 : n ≤ 32768) : ∃ t : Nat, t < 30 ∧ dM t ≤ n ∧ (∀ s, t < s → s ≤ 29 → n < dM s) ∧
    Ev (fun k => spec_DistCode.f k n) ((t : Int), dB t, wrap64 (n - dM t)) ∧ Ev (fun k => impl_DistCode.f k n) ((t : Int), dB t, wrap64 (n - dM t)) := by
  obtain ⟨t, ht, hle, hall⟩ := dist_find n h0 29 (by omega)
  refine ⟨t, by omega, hle, hall, Ev.congr (fun k => ?_) (dist_head n t (by omega) hle hall t 0 0 0 1 (by omega)), Ev.congr (fun k => ?_) (dist_down n t (by omega) hle hall (29 - t) 29 (by omega) (by omega))⟩
  · unfold spec_DistCode.f
    rw [in_spec, decide_eq_true ⟨h0, h1⟩]
    rfl
  · unfold impl_DistCode.f
    rw [in_impl, decide_eq_true ⟨h0, h1⟩]
    obtain ⟨_, e, _⟩ := dist_at 29 (by omega)
    have e' : impl_distSpan.f 29 = some (dM 29, dB 29) := e
    simp only [Option.bind_some, if_true, e']
    rfl
theorem dist_out (n : Int) (h : ¬ (1 ≤ n ∧ n ≤ 32768)) : (∀ k, spec_DistCode.f k n = some (0, 0, 0)) ∧ (∀ k, impl_DistCode.f k n = some (0, 0, 0)) := by
  constructor
  · intro k
    unfold spec_DistCode.f
    rw [in_spec, decide_eq_false h]
    rfl
  · intro k
    unfold impl_DistCode.f
    rw [in_impl, decide_eq_false h]
    rfl

theorem FnExactDistCode : laws_FnExactDistCode.Pure := by
  intro n hn
  have go : ∀ r : Int × Int × Int, Ev (fun k => spec_DistCode.f k n) r → Ev (fun k => impl_DistCode.f k n) r → ∃ k, laws_FnExactDistCode.f k n = some true := by
    intro r e1 e2
    obtain ⟨k, g1, g2⟩ := ev_two e1 e2
    refine ⟨k, ?_⟩
    unfold laws_FnExactDistCode.f
    rw [g1, g2]
    simp
  by_cases h : 1 ≤ n ∧ n ≤ 32768
  · obtain ⟨t, _, _, _, e1, e2⟩ := dist_both n h.1 h.2
    exact go _ e1 e2
  · obtain ⟨e1, e2⟩ := dist_out n h
    exact go (0, 0, 0) (Ev.congr e1 (Ev.now _)) (Ev.congr e2 (Ev.now _))

end Go.Proofs.Ytbkikljnbdfblaa.Pure
