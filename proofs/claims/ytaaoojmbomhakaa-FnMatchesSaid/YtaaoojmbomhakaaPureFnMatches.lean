/- The law FnMatches: for every input within the row's bounds the printed function answers true: what the program's function tells is what the law asks. Conditions: only the bounds that the row itself gives (sizes of strings and slices, ranges of the number kinds). -/
import Derived.Test.YtaaoojmbomhakaaPFnMatchesx4
namespace Go.Proofs.Ytaaoojmbomhakaa.Pure
open Go.RowKit Go.Proofs.Ytaaoojmbomhakaa.PFnMatches Go.Proofs.YtaaoojmbomhakaaW.PrintWords Go.Proofs.YtaaoojmbomhakaaW.PrintLast Go.Proofs.YtaaoojmbomhakaaW.PrintMore
set_option linter.unusedVariables false
set_option linter.unusedSimpArgs false

theorem w64_id {x : Int} (h0 : -9223372036854775808 ≤ x) (h1 : x ≤ 9223372036854775807) : wrap64 x = x := by unfold wrap64; omega
theorem tmod_nn {a : Int} (b : Int) (h : 0 ≤ a) : Int.tmod a b = a % b := Int.tmod_eq_emod_of_nonneg h
theorem tdiv_nn {a : Int} (b : Int) (h : 0 ≤ a) : Int.tdiv a b = a / b := Int.tdiv_eq_ediv_of_nonneg h
theorem wf64 {n : Int} (h : (Lit.int .i64 n).wf = true) : -9223372036854775808 ≤ n ∧ n ≤ 9223372036854775807 := by
  simp [Lit.wf, IntKind.min, IntKind.max, IntKind.signed, IntKind.bits] at h
  omega
theorem wfu32 {n : Int} (h : (Lit.int .u32 n).wf = true) : 0 ≤ n ∧ n ≤ 4294967295 := by
  simp [Lit.wf, IntKind.min, IntKind.max, IntKind.signed, IntKind.bits] at h
  omega
theorem wraps64 (n : Int) (h0 : 0 ≤ n) (h1 : n < 2 ^ 63) : IntKind.i64.wrap n = n := by rw [IntKind.wrap_i64]; omega
theorem wrapsu32 (n : Int) (h0 : 0 ≤ n) (h1 : n < 2 ^ 32) : IntKind.u32.wrap n = n := by rw [IntKind.wrap_u32]; omega
/-- a | b of parts that do not meet, of an int. -/
theorem or64 (i : Nat) (x y : Int) (hx0 : 0 ≤ x) (hx : x % 2 ^ i = 0) (hx1 : x < 2 ^ 63) (hy0 : 0 ≤ y) (hy : y < 2 ^ i) (hy1 : y < 2 ^ 63) : Go.bits .or .i64 x y = x + y :=
  bits_join .i64 63 (by decide) wraps64 i x y hx0 hx hx1 hy0 hy hy1
theorem ev_ite_pos {α : Type} {c : Prop} [Decidable c] {f g : Nat → Option α} {r : α} (h : c) (k : Ev f r) : Ev (fun n => if c then f n else g n) r := Ev.congr (fun n => if_pos h) k
theorem ev_ite_neg {α : Type} {c : Prop} [Decidable c] {f g : Nat → Option α} {r : α} (h : ¬ c) (k : Ev g r) : Ev (fun n => if c then f n else g n) r := Ev.congr (fun n => if_neg h) k
/-- A callee without rounds that answers. -/
theorem ev_bind0 {α β : Type} {o : Option α} {f : Nat → α → Option β} {a : α} {r : β} (h : o = some a) (k : Ev (fun n => f n a) r) : Ev (fun n => o.bind (f n)) r := Ev.congr (fun n => by rw [h]; rfl) k
theorem bt_lo (s : ByteArray) (i : Int) : 0 ≤ bt s i := (bt_range s i).1
theorem bt_hi (s : ByteArray) (i : Int) : bt s i ≤ 255 := (bt_range s i).2
/-- A callee that answers from some number of rounds on, used. -/
theorem ev_use {α β : Type} {g : Nat → Option α} {a : α} {F G : Nat → Option β} {r : β} (e : Ev g a) (h : ∀ k, g k = some a → F k = G k) (c : Ev G r) : Ev F r := by
  obtain ⟨K, e⟩ := e
  obtain ⟨K', c⟩ := c
  exact ⟨max K K', fun n hn => (h n (e n (by omega))).trans (c n (by omega))⟩
theorem ev_use_step {α β : Type} {g : Nat → Option α} {a : α} {F G : Nat → Option β} {r : β} (e : Ev g a) (h : ∀ k, g k = some a → F (k + 1) = G k) (c : Ev G r) : Ev F r := by
  obtain ⟨K, e⟩ := e
  obtain ⟨K', c⟩ := c
  refine ⟨max K K' + 1, fun n hn => ?_⟩
  obtain ⟨m, rfl⟩ : ∃ m, n = m + 1 := ⟨n - 1, by omega⟩
  exact (h m (e m (by omega))).trans (c m (by omega))
theorem ev_end {α β : Type} {g : Nat → Option α} {a : α} {F : Nat → Option β} {r : β} (e : Ev g a) (h : ∀ k, g k = some a → F k = some r) : Ev F r := by
  obtain ⟨K, e⟩ := e
  exact ⟨K, fun n hn => h n (e n hn)⟩
theorem ev_two {α β : Type} {g : Nat → Option α} {h : Nat → Option β} {a : α} {b : β} (e : Ev g a) (f : Ev h b) : ∃ k, g k = some a ∧ h k = some b := by
  obtain ⟨K, e⟩ := e
  obtain ⟨K', f⟩ := f
  exact ⟨max K K', e _ (by omega), f _ (by omega)⟩
theorem ev_ret {α : Type} {F : Nat → Option α} {r : α} (h : ∀ k, F (k + 1) = some r) : Ev F r := ⟨1, fun n hn => by obtain ⟨m, rfl⟩ : ∃ m, n = m + 1 := ⟨n - 1, by omega⟩; exact h m⟩

/-- Two callees that answer, together. -/
theorem ev_pair {α β : Type} {g : Nat → Option α} {h : Nat → Option β} {a : α} {b : β} (e : Ev g a) (f : Ev h b) : Ev (fun k => (g k).bind fun x => (h k).bind fun y => some (x, y)) (a, b) := by
  obtain ⟨K, e⟩ := e
  obtain ⟨K', f⟩ := f
  exact ⟨max K K', fun n hn => by show ((g n).bind fun x => (h n).bind fun y => some (x, y)) = _; rw [e n (by omega), f n (by omega)]; rfl⟩
theorem pair_some {α β : Type} {g : Option α} {h : Option β} {a : α} {b : β} (e : (g.bind fun x => h.bind fun y => some (x, y)) = some (a, b)) : g = some a ∧ h = some b := by
  cases g with
  | none => cases e
  | some x =>
    cases h with
    | none => cases e
    | some y =>
      injection e with e
      injection e with e1 e2
      exact ⟨by rw [e1], by rw [e2]⟩

theorem in_spec (a b c : Int) : spec_l01In.f a b c = some (decide (b ≤ a ∧ a ≤ c)) := by
  unfold spec_l01In.f
  split
  · rename_i h
    have e : (decide (a ≤ c)) = decide (b ≤ a ∧ a ≤ c) := decide_eq_decide.mpr ⟨fun h' => ⟨h, h'⟩, fun h' => h'.2⟩
    rw [e]
  · rename_i h
    have e : (decide (b ≤ a ∧ a ≤ c)) = false := decide_eq_false fun h' => h h'.1
    rw [e]

theorem in_impl (a b c : Int) : impl_within.f a b c = some (decide (b ≤ a ∧ a ≤ c)) := by
  unfold impl_within.f
  split
  · rename_i h
    have e : (decide (a ≤ c)) = decide (b ≤ a ∧ a ≤ c) := decide_eq_decide.mpr ⟨fun h' => ⟨h, h'⟩, fun h' => h'.2⟩
    rw [e]
  · rename_i h
    have e : (decide (b ≤ a ∧ a ≤ c)) = false := decide_eq_false fun h' => h h'.1
    rw [e]

open Go.Proofs.Ytaaoojmbomhakaa.MChains
/-- How many bytes from a on are those from b on: from n of them on, at most d more. -/
def run (s : ByteArray) (a b : Nat) : Nat → Nat → Nat
  | 0, n => n
  | d + 1, n => if b + n < s.size ∧ bt s ((a + n : Nat) : Int) = bt s ((b + n : Nat) : Int) then run s a b d (n + 1) else n
def th (s : ByteArray) (a b : Nat) : Nat → Nat → Bool
  | 0, _ => true
  | d + 1, n => if b + n < s.size ∧ bt s ((a + n : Nat) : Int) = bt s ((b + n : Nat) : Int) then th s a b d (n + 1) else false
/-- The best repeat of the places ahead of k, of at most c of them. -/
def ref (s : ByteArray) (at_ : Nat) : Nat → Nat → Int → Int → Int × Int
  | 0, _, b, d => (b, d)
  | _ + 1, 0, b, d => (b, d)
  | k + 1, c + 1, b, d => if th s k at_ 3 0 = true then (if ((run s k at_ 258 0 : Nat) : Int) > b then ref s at_ k c ((run s k at_ 258 0 : Nat) : Int) ((at_ : Int) - k) else ref s at_ k c b d) else ref s at_ k (c + 1) b d
theorem ref_zero (s : ByteArray) (at_ : Nat) : ∀ (k : Nat) (b d : Int), ref s at_ k 0 b d = (b, d)
  | 0, _, _ => rfl
  | _ + 1, _, _ => rfl
theorem run_le (s : ByteArray) (a b : Nat) : ∀ d n, run s a b d n ≤ n + d
  | 0, n => by unfold run; omega
  | d + 1, n => by
    unfold run
    split
    · have := run_le s a b d (n + 1); omega
    · omega
theorem three_ev (s : ByteArray) (hs : s.size ≤ 100000) (a b : Nat) (hab : a < b) (hb : b ≤ s.size) (d : Nat) : ∀ n : Nat, n + d = 3 → Ev (fun k => spec_l07Three.l0 k s a b n) (th s a b d n) := by
  induction d with
  | zero =>
    intro n h
    refine ev_ret (fun k => ?_)
    rw [spec_l07Three.l0, if_neg (by omega)]
    rfl
  | succ d ih =>
    intro n h
    unfold th
    have wa : wrap64 ((a : Int) + n) = ((a + n : Nat) : Int) := by rw [w64_id (by omega) (by omega)]; omega
    have wb : wrap64 ((b : Int) + n) = ((b + n : Nat) : Int) := by rw [w64_id (by omega) (by omega)]; omega
    by_cases h1 : b + n < s.size
    · by_cases h2 : bt s ((a + n : Nat) : Int) = bt s ((b + n : Nat) : Int)
      · rw [if_pos ⟨h1, h2⟩]
        refine Ev.step (fun k => ?_) (ih (n + 1) (by omega))
        rw [spec_l07Three.l0, if_pos (by omega), wa, wb, if_neg (by omega), if_pos (by omega), if_pos (by omega), if_pos (by omega), if_pos (by omega), if_pos h2, w64_id (x := (n : Int) + 1) (by omega) (by omega)]
        rfl
      · rw [if_neg (fun h3 => h2 h3.2)]
        refine ev_ret (fun k => ?_)
        rw [spec_l07Three.l0, if_pos (by omega), wa, wb, if_neg (by omega), if_pos (by omega), if_pos (by omega), if_pos (by omega), if_pos (by omega), if_neg h2]
    · rw [if_neg (fun h3 => h1 h3.1)]
      refine ev_ret (fun k => ?_)
      rw [spec_l07Three.l0, if_pos (by omega), wb, if_pos (by omega)]
theorem alike_ev (s : ByteArray) (hs : s.size ≤ 100000) (a b : Nat) (hab : a < b) (hb : b ≤ s.size) (d : Nat) : ∀ n : Nat, n + d = 258 → Ev (fun k => impl_alike.l0 k s a b n) ((run s a b d n : Nat) : Int) := by
  induction d with
  | zero =>
    intro n h
    refine ev_ret (fun k => ?_)
    rw [impl_alike.l0, if_neg (by omega)]
    rfl
  | succ d ih =>
    intro n h
    unfold run
    have wa : wrap64 ((a : Int) + n) = ((a + n : Nat) : Int) := by rw [w64_id (by omega) (by omega)]; omega
    have wb : wrap64 ((b : Int) + n) = ((b + n : Nat) : Int) := by rw [w64_id (by omega) (by omega)]; omega
    by_cases h1 : b + n < s.size
    · by_cases h2 : bt s ((a + n : Nat) : Int) = bt s ((b + n : Nat) : Int)
      · rw [if_pos ⟨h1, h2⟩]
        refine Ev.step (fun k => ?_) (ih (n + 1) (by omega))
        rw [impl_alike.l0, if_pos (by omega), wa, wb, if_pos (by omega), if_pos (by omega), if_pos (by omega), if_pos (by omega), if_pos h2, w64_id (x := (n : Int) + 1) (by omega) (by omega)]
        rfl
      · rw [if_neg (fun h3 => h2 h3.2)]
        refine ev_ret (fun k => ?_)
        rw [impl_alike.l0, if_pos (by omega), wa, wb, if_pos (by omega), if_pos (by omega), if_pos (by omega), if_pos (by omega), if_neg h2]
    · rw [if_neg (fun h3 => h1 h3.1)]
      refine ev_ret (fun k => ?_)
      rw [impl_alike.l0, if_pos (by omega), wb, if_neg (by omega)]
theorem l1_ev (s : ByteArray) (hs : s.size ≤ 100000) (a b : Nat) (hab : a < b) (hb : b ≤ s.size) (c x y z : Int) (r : Int × Int) (d : Nat) : ∀ n : Nat, n + d = 258 →
    Ev (fun k => if ((run s a b d n : Nat) : Int) > x then spec_BestMatch.l0 k s b c ((run s a b d n : Nat) : Int) (wrap64 ((b : Int) - a)) z (wrap64 ((a : Int) - 1)) else spec_BestMatch.l0 k s b c x y z (wrap64 ((a : Int) - 1))) r → Ev (fun k => spec_BestMatch.l1 k s b c x y z a n) r := by
  induction d with
  | zero =>
    intro n h hr
    refine Ev.step (fun k => ?_) hr
    rw [spec_BestMatch.l1, if_neg (by omega)]
    rfl
  | succ d ih =>
    intro n h hr
    unfold run at hr
    have wa : wrap64 ((a : Int) + n) = ((a + n : Nat) : Int) := by rw [w64_id (by omega) (by omega)]; omega
    have wb : wrap64 ((b : Int) + n) = ((b + n : Nat) : Int) := by rw [w64_id (by omega) (by omega)]; omega
    by_cases h1 : b + n < s.size
    · by_cases h2 : bt s ((a + n : Nat) : Int) = bt s ((b + n : Nat) : Int)
      · rw [if_pos ⟨h1, h2⟩] at hr
        refine Ev.step (fun k => ?_) (ih (n + 1) (by omega) hr)
        rw [spec_BestMatch.l1, if_pos (by omega), wa, wb, if_pos (by omega), if_pos (by omega), if_pos (by omega), if_pos (by omega), if_pos h2, w64_id (x := (n : Int) + 1) (by omega) (by omega)]
        rfl
      · rw [if_neg (fun h3 => h2 h3.2)] at hr
        refine Ev.step (fun k => ?_) hr
        rw [spec_BestMatch.l1, if_pos (by omega), wa, wb, if_pos (by omega), if_pos (by omega), if_pos (by omega), if_pos (by omega), if_neg h2]
    · rw [if_neg (fun h3 => h1 h3.1)] at hr
      refine Ev.step (fun k => ?_) hr
      rw [spec_BestMatch.l1, if_pos (by omega), wb, if_neg (by omega)]
/-- The reference's loop. -/
theorem spec_best_loop (s : ByteArray) (hs : s.size ≤ 100000) (at_ : Nat) (hat : at_ ≤ s.size) (c : Nat) (hc : c ≤ 64) : ∀ (k : Nat) (seen : Nat) (x y : Int), k ≤ at_ → seen ≤ c →
    Ev (fun f => spec_BestMatch.l0 f s at_ c x y seen ((k : Int) - 1)) (ref s at_ k (c - seen) x y) := by
  intro k
  induction k with
  | zero =>
    intro seen x y hk hsn
    refine Ev.step (f := fun f => spec_BestMatch.j2 f s at_ c x y seen (((0 : Nat) : Int) - 1) false) (fun f => ?_) ?_
    · rw [spec_BestMatch.l0, if_neg (by omega)]
    · refine ev_ret (fun f => ?_)
      rw [spec_BestMatch.j2, if_neg (by decide)]
      rfl
  | succ k ih =>
    intro seen x y hk hsn
    refine Ev.step (f := fun f => spec_BestMatch.j2 f s at_ c x y seen (((k + 1 : Nat) : Int) - 1) (decide ((seen : Int) < c))) (fun f => ?_) ?_
    · rw [spec_BestMatch.l0, if_pos (by omega)]
    · by_cases hlt : seen < c
      · obtain ⟨m, hm⟩ : ∃ m, c - seen = m + 1 := ⟨c - seen - 1, by omega⟩
        rw [hm, ref, decide_eq_true (show (seen : Int) < c by omega), show ((k + 1 : Nat) : Int) - 1 = (k : Int) by omega]
        have w1 : wrap64 ((k : Int) - 1) = (k : Int) - 1 := w64_id (by omega) (by omega)
        have w2 : wrap64 ((seen : Int) + 1) = ((seen + 1 : Nat) : Int) := by rw [w64_id (by omega) (by omega)]; omega
        have w3 : wrap64 ((at_ : Int) - k) = (at_ : Int) - k := w64_id (by omega) (by omega)
        have ht := three_ev s hs k at_ (by omega) hat 3 0 (by omega)
        cases hth : th s k at_ 3 0 with
        | true =>
          rw [hth] at ht
          rw [if_pos rfl]
          refine ev_use_step (G := fun f => spec_BestMatch.l1 f s at_ c x y ((seen + 1 : Nat) : Int) k ((0 : Nat) : Int)) ht (fun f hf => ?_) ?_
          · rw [spec_BestMatch.j2, if_pos rfl]
            unfold spec_l07Three.f
            have hf' : spec_l07Three.l0 f s k at_ 0 = some true := hf
            rw [hf', Option.bind_some, if_pos rfl, w2]
            rfl
          · refine l1_ev s hs k at_ (by omega) hat c x y _ _ 258 0 (by omega) ?_
            rw [w1, w3]
            generalize ((run s k at_ 258 0 : Nat) : Int) = R
            by_cases hg : R > x
            · rw [if_pos hg]
              have h5 := ih (seen + 1) R ((at_ : Int) - k) (by omega) (by omega)
              rw [show c - (seen + 1) = m by omega] at h5
              exact Ev.congr (fun f => if_pos hg) h5
            · rw [if_neg hg]
              have h5 := ih (seen + 1) x y (by omega) (by omega)
              rw [show c - (seen + 1) = m by omega] at h5
              exact Ev.congr (fun f => if_neg hg) h5
        | false =>
          rw [hth] at ht
          rw [if_neg (by decide)]
          have h5 := ih seen x y (by omega) hsn
          rw [hm] at h5
          refine ev_use_step ht (fun f hf => ?_) h5
          rw [spec_BestMatch.j2, if_pos rfl]
          unfold spec_l07Three.f
          have hf' : spec_l07Three.l0 f s k at_ 0 = some false := hf
          rw [hf', Option.bind_some, if_neg (by decide), w1]
      · rw [show c - seen = 0 by omega, ref_zero, decide_eq_false (show ¬ (seen : Int) < c by omega)]
        refine ev_ret (fun f => ?_)
        rw [spec_BestMatch.j2, if_neg (by decide)]

def keyB (s : ByteArray) (i : Int) : Int := bt s i * 65536 + bt s (i + 1) * 256 + bt s (i + 2)
theorem key_some (s : ByteArray) (hs : s.size ≤ 100000) (i : Nat) (h : i + 3 ≤ s.size) : impl_ReadBig.f 10 s i 3 = some (keyB s i, true) := by
  have a0 := bt_lo s i
  have a1 := bt_hi s i
  have b0 := bt_lo s ((i : Int) + 1)
  have b1 := bt_hi s ((i : Int) + 1)
  have c0 := bt_lo s ((i : Int) + 2)
  have c1 := bt_hi s ((i : Int) + 2)
  have hw : wrap64 ((s.size : Int) - 3) = s.size - 3 := w64_id (by omega) (by omega)
  have w0 : wrap64 ((i : Int) + 0) = i := by rw [w64_id (by omega) (by omega)]; omega
  have w1 : wrap64 ((i : Int) + 1) = (i : Int) + 1 := w64_id (by omega) (by omega)
  have w2 : wrap64 ((i : Int) + 2) = (i : Int) + 2 := w64_id (by omega) (by omega)
  have o1 : Go.bits .or .i64 (wrap64 (0 * 256)) (wrap64 (bt s i)) = bt s i := by
    rw [w64_id (x := 0 * 256) (by omega) (by omega), w64_id (x := bt s i) (by omega) (by omega), or64 8 _ _ (by omega) (by omega) (by omega) (by omega) (by omega) (by omega)]
    omega
  have o2 : Go.bits .or .i64 (wrap64 (bt s i * 256)) (wrap64 (bt s ((i : Int) + 1))) = bt s i * 256 + bt s ((i : Int) + 1) := by
    rw [w64_id (x := bt s i * 256) (by omega) (by omega), w64_id (x := bt s ((i : Int) + 1)) (by omega) (by omega), or64 8 _ _ (by omega) (by omega) (by omega) (by omega) (by omega) (by omega)]
  have o3 : Go.bits .or .i64 (wrap64 ((bt s i * 256 + bt s ((i : Int) + 1)) * 256)) (wrap64 (bt s ((i : Int) + 2))) = keyB s i := by
    rw [w64_id (x := (bt s i * 256 + bt s ((i : Int) + 1)) * 256) (by omega) (by omega), w64_id (x := bt s ((i : Int) + 2)) (by omega) (by omega), or64 8 _ _ (by omega) (by omega) (by omega) (by omega) (by omega) (by omega)]
    unfold keyB
    omega
  unfold impl_ReadBig.f
  rw [in_impl, decide_eq_true (show (1 : Int) ≤ 3 ∧ (3 : Int) ≤ 4 by decide), Option.bind_some, if_pos rfl, if_neg (by omega), hw, decide_eq_false (show ¬ (i : Int) > (s.size : Int) - 3 by omega)]
  rw [impl_ReadBig.j0, if_neg (by decide)]
  rw [impl_ReadBig.l0, if_pos (by omega), w0, if_pos (by omega), if_pos (by omega), o1, w64_id (x := (0 : Int) + 1) (by omega) (by omega)]
  rw [impl_ReadBig.l0, if_pos (by omega), show (0 : Int) + 1 = 1 by rfl, w1, if_pos (by omega), if_pos (by omega), o2, w64_id (x := (1 : Int) + 1) (by omega) (by omega)]
  rw [impl_ReadBig.l0, if_pos (by omega), show (1 : Int) + 1 = 2 by rfl, w2, if_pos (by omega), if_pos (by omega), o3, w64_id (x := (2 : Int) + 1) (by omega) (by omega)]
  rw [impl_ReadBig.l0, if_neg (by omega)]
theorem key_none (s : ByteArray) (hs : s.size ≤ 100000) (i : Nat) (h : ¬ i + 3 ≤ s.size) : impl_ReadBig.f 10 s i 3 = some (0, false) := by
  have hw : wrap64 ((s.size : Int) - 3) = s.size - 3 := w64_id (by omega) (by omega)
  unfold impl_ReadBig.f
  rw [in_impl, decide_eq_true (show (1 : Int) ≤ 3 ∧ (3 : Int) ≤ 4 by decide), Option.bind_some, if_pos rfl, if_neg (by omega), hw, decide_eq_true (show (i : Int) > (s.size : Int) - 3 by omega)]
  rw [impl_ReadBig.j0, if_pos rfl]
def kvS (s : ByteArray) (i : Nat) : Int := if i + 3 ≤ s.size then keyB s i else 0
def koS (s : ByteArray) (i : Nat) : Bool := decide (i + 3 ≤ s.size)
theorem keyB_rng (s : ByteArray) (i : Int) : 0 ≤ keyB s i ∧ keyB s i ≤ 16777215 := by
  have a0 := bt_lo s i
  have a1 := bt_hi s i
  have b0 := bt_lo s (i + 1)
  have b1 := bt_hi s (i + 1)
  have c0 := bt_lo s (i + 2)
  have c1 := bt_hi s (i + 2)
  unfold keyB
  omega
theorem chains_is (s : ByteArray) (hs : s.size ≤ 100000) : impl_chainsOf.f s = some (chains (kvS s) (koS s) s.size) := by
  unfold impl_chainsOf.f chainsF
  have hk : ∀ i : Nat, impl_ReadBig.f 10 s i 3 = some (kvS s i, koS s i) := by
    intro i
    by_cases h : i + 3 ≤ s.size
    · rw [key_some s hs i h]
      unfold kvS koS
      rw [if_pos h, decide_eq_true h]
    · rw [key_none s hs i h]
      unfold kvS koS
      rw [if_neg h, decide_eq_false h]
  rw [if_pos]
  · have e1 : (fun i : Nat => kvOf (impl_ReadBig.f 10 s i 3)) = kvS s := by funext i; rw [hk]; rfl
    have e2 : (fun i : Nat => koOf (impl_ReadBig.f 10 s i 3)) = koS s := by funext i; rw [hk]; rfl
    rw [e1, e2]
  · refine ⟨hs, fun i _ => ?_⟩
    show okOf (impl_ReadBig.f 10 s i 3) = true
    rw [hk]
    show (Lit.int .i64 (kvS s i)).wf = true
    have := keyB_rng s i
    unfold kvS
    split
    · simp [Lit.wf, IntKind.min, IntKind.max, IntKind.signed, IntKind.bits]
      omega
    · rfl
theorem chains_rd (kv : Nat → Int) (ko : Nat → Bool) (n i : Nat) (h : i < n) : rd (chains kv ko n) (i : Int) = chainAt kv ko i := by
  unfold rd chains
  rw [Int.toNat_natCast, List.getD_eq_getElem?_getD, List.getElem?_map, List.getElem?_range h]
  rfl
/-- Where the search begins: the nearest place ahead of k with the key of 'at'. -/
def fromAt (s : ByteArray) (at_ k : Nat) : Int := if koS s at_ = true then (match prevKey (kvS s) (koS s) k (kvS s at_) with | some p => (p : Int) | none => -1) else -1
theorem same_iff (s : ByteArray) (k at_ : Nat) (h : k < at_) : (th s k at_ 3 0 = true) ↔ (koS s at_ = true ∧ koS s k = true ∧ kvS s k = kvS s at_) := by
  have e : (th s k at_ 3 0 = true) ↔ (at_ + 2 < s.size ∧ bt s k = bt s at_ ∧ bt s ((k : Int) + 1) = bt s ((at_ : Int) + 1) ∧ bt s ((k : Int) + 2) = bt s ((at_ : Int) + 2)) := by
    simp only [th, Nat.add_zero, Nat.zero_add]
    have e1 : ((k + 1 : Nat) : Int) = (k : Int) + 1 := by omega
    have e2 : ((at_ + 1 : Nat) : Int) = (at_ : Int) + 1 := by omega
    have e3 : ((k + (1 + 1) : Nat) : Int) = (k : Int) + 2 := by omega
    have e4 : ((at_ + (1 + 1) : Nat) : Int) = (at_ : Int) + 2 := by omega
    rw [e1, e2, e3, e4]
    constructor
    · intro h
      split at h
      · rename_i h1
        split at h
        · rename_i h2
          split at h
          · rename_i h3
            exact ⟨by omega, h1.2, h2.2, h3.2⟩
          · cases h
        · cases h
      · cases h
    · intro ⟨h1, h2, h3, h4⟩
      rw [if_pos ⟨by omega, h2⟩, if_pos ⟨by omega, h3⟩, if_pos ⟨by omega, h4⟩]
  rw [e]
  unfold koS kvS
  simp only [decide_eq_true_eq]
  have a0 := bt_lo s k
  have a1 := bt_hi s k
  have b0 := bt_lo s ((k : Int) + 1)
  have b1 := bt_hi s ((k : Int) + 1)
  have c0 := bt_lo s ((k : Int) + 2)
  have c1 := bt_hi s ((k : Int) + 2)
  have a0' := bt_lo s at_
  have a1' := bt_hi s at_
  have b0' := bt_lo s ((at_ : Int) + 1)
  have b1' := bt_hi s ((at_ : Int) + 1)
  have c0' := bt_lo s ((at_ : Int) + 2)
  have c1' := bt_hi s ((at_ : Int) + 2)
  constructor
  · intro ⟨h1, h2, h3, h4⟩
    refine ⟨by omega, by omega, ?_⟩
    rw [if_pos (by omega), if_pos (by omega)]
    unfold keyB
    rw [h2, h3, h4]
  · intro ⟨h1, h2, h3⟩
    rw [if_pos h2, if_pos h1] at h3
    unfold keyB at h3
    exact ⟨by omega, by omega, by omega, by omega⟩
theorem from_succ (s : ByteArray) (at_ k : Nat) (h : k < at_) : fromAt s at_ (k + 1) = if th s k at_ 3 0 = true then (k : Int) else fromAt s at_ k := by
  unfold fromAt
  by_cases h1 : koS s at_ = true
  · rw [if_pos h1, if_pos h1]
    by_cases h2 : koS s k = true ∧ kvS s k = kvS s at_
    · have e : prevKey (kvS s) (koS s) (k + 1) (kvS s at_) = some k := if_pos h2
      rw [e, if_pos ((same_iff s k at_ h).2 ⟨h1, h2.1, h2.2⟩)]
    · have e : prevKey (kvS s) (koS s) (k + 1) (kvS s at_) = prevKey (kvS s) (koS s) k (kvS s at_) := if_neg h2
      rw [e, if_neg (fun h3 => h2 ((same_iff s k at_ h).1 h3).2)]
  · rw [if_neg h1, if_neg h1, if_neg (fun h3 => h1 ((same_iff s k at_ h).1 h3).1)]
theorem from_neg (s : ByteArray) (at_ k : Nat) : fromAt s at_ k = -1 ∨ 0 ≤ fromAt s at_ k := by
  unfold fromAt
  split
  · split <;> omega
  · exact Or.inl rfl
/-- The program's loop. -/
theorem impl_best_loop (s : ByteArray) (hs : s.size ≤ 100000) (at_ : Nat) (hat : at_ < s.size) (c : Nat) (hc : c ≤ 64) : ∀ (k : Nat) (seen : Nat) (x y : Int), k ≤ at_ → seen ≤ c →
    Ev (fun f => impl_best.l0 f s (chains (kvS s) (koS s) s.size) at_ c x y (fromAt s at_ k) seen) (ref s at_ k (c - seen) x y) := by
  intro k
  induction k with
  | zero =>
    intro seen x y hk hsn
    have hf : fromAt s at_ 0 = -1 := by unfold fromAt; split <;> rfl
    rw [hf]
    refine Ev.step (f := fun f => impl_best.j1 f s (chains (kvS s) (koS s) s.size) at_ c x y (-1) seen false) (fun f => ?_) ?_
    · rw [impl_best.l0]
      split <;> rfl
    · refine ev_ret (fun f => ?_)
      rw [impl_best.j1, if_neg (by decide)]
      rfl
  | succ k ih =>
    intro seen x y hk hsn
    by_cases hlt : seen < c
    · obtain ⟨m, hm⟩ : ∃ m, c - seen = m + 1 := ⟨c - seen - 1, by omega⟩
      have e1 : (seen : Int) < (c : Int) := by omega
      have e2 : k ≤ at_ := by omega
      have e3 : seen + 1 ≤ c := by omega
      have e4 : c - (seen + 1) = m := by omega
      have e5 : (k : Int) ≥ 0 := by omega
      have e6 : k < at_ := by omega
      have e7 : at_ ≤ s.size := by omega
      have e8 : k < s.size := by omega
      have e9 : (k : Int) < ((chains (kvS s) (koS s) s.size).length : Int) := by rw [chains_len]; omega
      have w1 : wrap64 ((at_ : Int) - k) = (at_ : Int) - k := w64_id (by omega) (by omega)
      have w2 : wrap64 ((seen : Int) + 1) = ((seen + 1 : Nat) : Int) := by rw [w64_id (by omega) (by omega)]; omega
      rw [hm, ref, from_succ s at_ k e6]
      cases hth : th s k at_ 3 0 with
      | true =>
        rw [if_pos rfl, if_pos rfl]
        have ha := alike_ev s hs k at_ e6 e7 258 0 (by decide)
        generalize ((run s k at_ 258 0 : Nat) : Int) = R at ha ⊢
        have hch : chainAt (kvS s) (koS s) k = fromAt s at_ k := by
          have h3 := (same_iff s k at_ e6).1 hth
          unfold chainAt fromAt
          rw [if_pos h3.2.1, if_pos h3.1, h3.2.2]
          rfl
        have hrd : rd (chains (kvS s) (koS s) s.size) (k : Int) = fromAt s at_ k := by rw [chains_rd _ _ _ _ e8, hch]
        refine Ev.step (f := fun f => impl_best.j1 f s (chains (kvS s) (koS s) s.size) at_ c x y k seen true) (fun f => ?_) ?_
        · rw [impl_best.l0, if_pos e1, decide_eq_true e5]
        · by_cases hg : R > x
          · rw [if_pos hg]
            have h5 := ih (seen + 1) R ((at_ : Int) - k) e2 e3
            rw [e4] at h5
            refine ev_use_step ha (fun f hf => ?_) h5
            have hf' : impl_alike.l0 f s k at_ 0 = some R := hf
            rw [impl_best.j1, if_pos rfl]
            unfold impl_alike.f
            rw [hf', Option.bind_some, if_pos hg, if_pos e5, if_pos e9, hrd, w1, w2]
          · rw [if_neg hg]
            have h5 := ih (seen + 1) x y e2 e3
            rw [e4] at h5
            refine ev_use_step ha (fun f hf => ?_) h5
            have hf' : impl_alike.l0 f s k at_ 0 = some R := hf
            rw [impl_best.j1, if_pos rfl]
            unfold impl_alike.f
            rw [hf', Option.bind_some, if_neg hg, if_pos e5, if_pos e9, hrd, w2]
      | false =>
        rw [if_neg (by decide), if_neg (by decide)]
        have h5 := ih seen x y e2 hsn
        rw [hm] at h5
        exact h5
    · rw [show c - seen = 0 by omega, ref_zero]
      refine Ev.step (f := fun f => impl_best.j1 f s (chains (kvS s) (koS s) s.size) at_ c x y (fromAt s at_ (k + 1)) seen false) (fun f => ?_) ?_
      · rw [impl_best.l0, if_neg (by omega)]
      · refine ev_ret (fun f => ?_)
        rw [impl_best.j1, if_neg (by decide)]
theorem best_f (s : ByteArray) (hs : s.size ≤ 100000) (at_ : Nat) (hat : at_ < s.size) (c : Nat) (hc : c ≤ 64) : Ev (fun f => impl_best.f f s (chains (kvS s) (koS s) s.size) at_ c) (ref s at_ at_ c 0 0) := by
  have h := impl_best_loop s hs at_ hat c hc at_ 0 0 0 (Nat.le_refl _) (Nat.zero_le _)
  rw [Nat.sub_zero] at h
  refine Ev.congr (fun f => ?_) h
  have hch : rd (chains (kvS s) (koS s) s.size) (at_ : Int) = fromAt s at_ at_ := by
    rw [chains_rd _ _ _ _ hat]
    rfl
  unfold impl_best.f
  rw [if_neg (by omega), if_pos (by omega), if_pos (by rw [chains_len]; omega), hch]
  rfl

theorem run_props (s : ByteArray) (a b : Nat) : ∀ d n, b + n ≤ s.size → n ≤ run s a b d n ∧ run s a b d n ≤ n + d ∧ b + run s a b d n ≤ s.size ∧ (∀ k, n ≤ k → k < run s a b d n → bt s ((a + k : Nat) : Int) = bt s ((b + k : Nat) : Int)) ∧
    (run s a b d n = n + d ∨ b + run s a b d n = s.size ∨ bt s ((a + run s a b d n : Nat) : Int) ≠ bt s ((b + run s a b d n : Nat) : Int))
  | 0, n, h => ⟨Nat.le_refl _, Nat.le_refl _, h, fun k h1 h2 => by unfold run at h2; omega, Or.inl rfl⟩
  | d + 1, n, h => by
    by_cases hc : b + n < s.size ∧ bt s ((a + n : Nat) : Int) = bt s ((b + n : Nat) : Int)
    · obtain ⟨h1, h2, h3, h4, h5⟩ := run_props s a b d (n + 1) (by omega)
      have e : run s a b (d + 1) n = run s a b d (n + 1) := by rw [run, if_pos hc]
      rw [e]
      refine ⟨by omega, by omega, h3, fun k k1 k2 => ?_, ?_⟩
      · by_cases hk : k = n
        · rw [hk]; exact hc.2
        · exact h4 k (by omega) k2
      · rcases h5 with h5 | h5 | h5
        · exact Or.inl (by omega)
        · exact Or.inr (Or.inl h5)
        · exact Or.inr (Or.inr h5)
    · have e : run s a b (d + 1) n = n := by rw [run, if_neg hc]
      rw [e]
      refine ⟨Nat.le_refl _, by omega, h, fun k k1 k2 => by omega, ?_⟩
      by_cases h1 : b + n < s.size
      · exact Or.inr (Or.inr (fun h2 => hc ⟨h1, h2⟩))
      · exact Or.inr (Or.inl (by omega))
theorem th_run (s : ByteArray) (a b : Nat) : ∀ d n e, th s a b d n = true → n + d ≤ run s a b (d + e) n
  | 0, n, e, h => by
    by_cases hc : b + n ≤ s.size
    · have := (run_props s a b (0 + e) n hc).1; omega
    · have : ∀ q, run s a b q n = n := by
        intro q
        cases q with
        | zero => rfl
        | succ q => rw [run, if_neg (by omega)]
      rw [this]; omega
  | d + 1, n, e, h => by
    rw [th] at h
    split at h
    · rename_i hc
      have := th_run s a b d (n + 1) e h
      rw [show d + 1 + e = (d + e) + 1 by omega, run, if_pos hc]
      omega
    · cases h
/-- What a best repeat is: none, or one of the places ahead. -/
def RefOk (s : ByteArray) (at_ : Nat) (b d : Int) : Prop := (b = 0 ∧ d = 0) ∨ ∃ p n : Nat, p < at_ ∧ b = (n : Int) ∧ d = (at_ : Int) - p ∧ 3 ≤ n ∧ run s p at_ 258 0 = n
theorem ref_ok (s : ByteArray) (at_ : Nat) : ∀ (k c : Nat) (b d : Int), k ≤ at_ → RefOk s at_ b d → RefOk s at_ (ref s at_ k c b d).1 (ref s at_ k c b d).2
  | 0, c, b, d, hk, h => h
  | k + 1, 0, b, d, hk, h => h
  | k + 1, c + 1, b, d, hk, h => by
    rw [ref]
    split
    · rename_i ht
      split
      · exact ref_ok s at_ k c _ _ (by omega) (Or.inr ⟨k, run s k at_ 258 0, by omega, rfl, rfl, by have := th_run s k at_ 3 0 255 ht; omega, rfl⟩)
      · exact ref_ok s at_ k c _ _ (by omega) h
    · exact ref_ok s at_ k (c + 1) _ _ (by omega) h
/-- The best repeat at a place; none at or behind the end. -/
def bm (s : ByteArray) (c : Nat) (at_ : Nat) : Int × Int := if at_ < s.size then ref s at_ at_ c 0 0 else (0, 0)
theorem bm_ok (s : ByteArray) (c at_ : Nat) : RefOk s at_ (bm s c at_).1 (bm s c at_).2 := by
  unfold bm
  split
  · exact ref_ok s at_ at_ c 0 0 (Nat.le_refl _) (Or.inl ⟨rfl, rfl⟩)
  · exact Or.inl ⟨rfl, rfl⟩
theorem bm_rng (s : ByteArray) (c at_ : Nat) : 0 ≤ (bm s c at_).1 ∧ (bm s c at_).1 ≤ 258 ∧ ((bm s c at_).1 = 0 → (bm s c at_).2 = 0) ∧ ((bm s c at_).1 ≠ 0 → 3 ≤ (bm s c at_).1 ∧ (at_ : Int) + (bm s c at_).1 ≤ s.size ∧ 1 ≤ (bm s c at_).2 ∧ (bm s c at_).2 ≤ at_) := by
  have hs : (bm s c at_).1 ≠ 0 → at_ < s.size := by
    intro h
    unfold bm at h
    by_cases h1 : at_ < s.size
    · exact h1
    · rw [if_neg h1] at h; exact absurd rfl h
  rcases bm_ok s c at_ with ⟨h1, h2⟩ | ⟨p, n, h1, h2, h3, h4, h5⟩
  · exact ⟨by omega, by omega, fun _ => h2, fun h => absurd h1 h⟩
  · have h6 := run_le s p at_ 258 0
    refine ⟨by omega, by omega, fun h => by omega, fun h => ?_⟩
    have h7 := hs h
    have h8 := (run_props s p at_ 258 0 (by omega)).2.2.1
    omega

theorem spec_bm (s : ByteArray) (hs : s.size ≤ 2600) (C : Nat) (h4 : 1 ≤ C) (h5 : C ≤ 64) (A : Nat) (hA : A ≤ 100000) : Ev (fun k => spec_BestMatch.f k s (A : Int) (C : Int)) (bm s C A) := by
  have hw : wrap64 ((s.size : Int) - 1) = s.size - 1 := w64_id (by omega) (by omega)
  unfold bm
  by_cases h : A < s.size
  · rw [if_pos h]
    have e := spec_best_loop s (by omega) A (by omega) C (by omega) A 0 0 0 (Nat.le_refl _) (Nat.zero_le _)
    rw [Nat.sub_zero] at e
    have e2 : Ev (fun k => spec_BestMatch.j0 k s A C 0 0 false) (ref s A A C 0 0) := Ev.step (fun k => by rw [spec_BestMatch.j0, if_neg (by decide), w64_id (x := (A : Int) - 1) (by omega) (by omega)]; rfl) e
    refine Ev.congr (fun k => ?_) e2
    unfold spec_BestMatch.f
    rw [if_neg (by omega), hw, in_spec, decide_eq_true (⟨by omega, by omega⟩ : (0 : Int) ≤ (A : Int) ∧ (A : Int) ≤ (s.size : Int) - 1), Option.bind_some, if_pos rfl, in_spec, decide_eq_true (⟨by omega, by omega⟩ : (1 : Int) ≤ (C : Int) ∧ (C : Int) ≤ 64), Option.bind_some]
    rfl
  · rw [if_neg h]
    have e2 : Ev (fun k => spec_BestMatch.j0 k s A C 0 0 true) (0, 0) := ev_ret (fun k => by rw [spec_BestMatch.j0, if_pos rfl])
    refine Ev.congr (fun k => ?_) e2
    unfold spec_BestMatch.f
    rw [if_neg (by omega), hw, in_spec, Option.bind_some, decide_eq_false (show ¬ ((0 : Int) ≤ (A : Int) ∧ (A : Int) ≤ (s.size : Int) - 1) by omega), if_neg (by decide)]
theorem rd_nat (l : List Int) (j : Nat) : rd l j = l.getD j 0 := by unfold rd; simp
theorem rd_getElem (l : List Int) (j : Nat) (h : j < l.length) : rd l j = l[j] := by rw [rd_nat, List.getD_eq_getElem?_getD, List.getElem?_eq_getElem h]; rfl
theorem rd_mem (l : List Int) (j : Nat) (h : j < l.length) : rd l j ∈ l := by rw [rd_getElem l j h]; exact List.getElem_mem h
theorem drop_rd (l : List Int) (j : Nat) (h : j < l.length) : l.drop j = rd l j :: l.drop (j + 1) := by rw [rd_getElem l j h]; exact List.drop_eq_getElem_cons h
theorem rd_set (l : List Int) (a : Nat) (v : Int) (j : Nat) (h : a < l.length) : rd (l.set a v) j = if j = a then v else rd l j := by
  rw [rd_nat, rd_nat, List.getD_eq_getElem?_getD, List.getD_eq_getElem?_getD, List.getElem?_set]
  by_cases e : j = a
  · subst e
    simp [h]
  · rw [if_neg (Ne.symm e), if_neg e]
theorem take_set_snoc (l : List Int) (j : Nat) (v : Int) (h : j < l.length) : (l.set j v).take (j + 1) = l.take j ++ [v] := by
  rw [List.take_succ_eq_append_getElem (by simpa using h)]
  simp [List.take_set_of_le]

/-- x & 255 is a byte, whatever x is. -/
theorem and255 (x : Int) : 0 ≤ Go.bits .and .i64 x 255 ∧ Go.bits .and .i64 x 255 ≤ 255 := by
  have h : (BitVec.ofInt 64 x &&& BitVec.ofInt 64 255).toNat ≤ 255 := by
    rw [BitVec.toNat_and]
    exact Nat.le_trans Nat.and_le_right (by decide)
  have e : Go.bits .and .i64 x 255 = IntKind.i64.wrap ((BitVec.ofInt 64 x &&& BitVec.ofInt 64 255).toNat : Int) := rfl
  rw [e, wraps64 _ (by omega) (by omega)]
  omega
theorem new_ends (l : List Int) (d : Nat) : ∀ (h : Int) (i : Nat), i + d = 4000 → ∃ h', Ev (fun k => spec_l01New.l0 k l h i) (l, 0, h') := by
  induction d with
  | zero =>
    intro h i hi
    exact ⟨h, ev_ret (fun k => by
      rw [spec_l01New.l0]
      split
      · rw [if_neg (by omega)]
      · rfl)⟩
  | succ d ih =>
    intro h i hi
    by_cases c : (i : Int) < (l.length : Int)
    · obtain ⟨h', e⟩ := ih (Go.bits .and .i64 (wrap64 ((wrap64 ((wrap64 (h * 131)) + (wrap64 (rd l i)))) + 7)) 1073741823) (i + 1) (by omega)
      exact ⟨h', Ev.step (fun k => by rw [spec_l01New.l0, if_pos c, if_pos (by omega), if_pos (by omega), w64_id (x := (i : Int) + 1) (by omega) (by omega)]; rfl) e⟩
    · exact ⟨h, ev_ret (fun k => by rw [spec_l01New.l0, if_neg c])⟩
theorem new_is (l : List Int) : ∃ h, Ev (fun k => spec_l01New.f k l) (l, 0, h) := new_ends l 4000 _ 0 (by omega)
theorem byte_is (l : List Int) (hl : l.length ≤ 9223372036854775807) (i h : Int) (hi : 0 ≤ i) : ∃ x i' h', spec_l01Byte.f l i h = some (x, i', h') ∧ 0 ≤ x ∧ x ≤ 255 ∧ 0 ≤ i' := by
  unfold spec_l01Byte.f
  by_cases c : i < (l.length : Int)
  · rw [if_pos c, if_pos hi]
    have := and255 (wrap64 ((Go.bits .and .i64 (Go.bits .xor .i64 ((wrap64 ((wrap64 (h * 6364136223846793005)) + 1442695040888963407)) / 8589934592) ((wrap64 ((wrap64 (h * 6364136223846793005)) + 1442695040888963407)) / 35184372088832)) 255) + (wrap64 (rd l i))))
    exact ⟨_, _, _, rfl, this.1, this.2, by rw [w64_id (by omega) (by omega)]; omega⟩
  · rw [if_neg c]
    have := and255 (Go.bits .xor .i64 ((wrap64 ((wrap64 (h * 6364136223846793005)) + 1442695040888963407)) / 8589934592) ((wrap64 ((wrap64 (h * 6364136223846793005)) + 1442695040888963407)) / 35184372088832))
    exact ⟨_, _, _, rfl, this.1, this.2, hi⟩
theorem below_is (l : List Int) (hl : l.length ≤ 9223372036854775807) (i h n : Int) (hi : 0 ≤ i) : ∃ x i' h', spec_l01Below.f l i h n = some (x, i', h') ∧ 0 ≤ x ∧ (0 < n → x < n) ∧ 0 ≤ i' := by
  unfold spec_l01Below.f
  by_cases c0 : n ≤ 0
  · rw [if_pos c0]
    exact ⟨_, _, _, rfl, by omega, by omega, hi⟩
  · rw [if_neg c0]
    by_cases c1 : n ≤ 256
    · rw [if_pos c1]
      obtain ⟨x, i1, h1, e, x0, x1, hi1⟩ := byte_is l hl i h hi
      rw [e, Option.bind_some, if_neg (by omega)]
      refine ⟨_, _, _, rfl, ?_, fun _ => ?_, hi1⟩
      · rw [tmod_nn _ x0]; exact Int.emod_nonneg _ (by omega)
      · rw [tmod_nn _ x0]; exact Int.emod_lt_of_pos _ (by omega)
    · rw [if_neg c1]
      obtain ⟨x, i1, h1, e1, x0, x1, hi1⟩ := byte_is l hl i h hi
      obtain ⟨y, i2, h2, e2, y0, y1, hi2⟩ := byte_is l hl i1 h1 hi1
      obtain ⟨z, i3, h3, e3, z0, z1, hi3⟩ := byte_is l hl i2 h2 hi2
      obtain ⟨w, i4, h4, e4, w0, w1, hi4⟩ := byte_is l hl i3 h3 hi3
      simp only [e1, e2, e3, e4, Option.bind_some]
      rw [if_neg (by omega)]
      rw [w64_id (x := x * 16777216) (by omega) (by omega), w64_id (x := y * 65536) (by omega) (by omega), w64_id (x := z * 256) (by omega) (by omega), w64_id (x := x * 16777216 + y * 65536) (by omega) (by omega), w64_id (x := x * 16777216 + y * 65536 + z * 256) (by omega) (by omega), w64_id (x := x * 16777216 + y * 65536 + z * 256 + w) (by omega) (by omega)]
      refine ⟨_, _, _, rfl, ?_, fun _ => ?_, hi4⟩
      · rw [tmod_nn _ (by omega)]; exact Int.emod_nonneg _ (by omega)
      · rw [tmod_nn _ (by omega)]; exact Int.emod_lt_of_pos _ (by omega)

theorem pick_is (l : List Int) (hl : l.length ≤ 9223372036854775807) (i h : Int) (p : List Int) (hp : 0 < p.length) (hi : 0 ≤ i) : ∃ x i' h', spec_l01PickInt.f l i h p = some (x, i', h') ∧ x ∈ p ∧ 0 ≤ i' := by
  unfold spec_l01PickInt.f
  obtain ⟨x, i1, h1, e, x0, x1, hi1⟩ := below_is l hl i h p.length hi
  have x1 := x1 (by omega)
  rw [e]
  simp only [Option.bind_some]
  rw [if_pos x0, if_pos x1]
  obtain ⟨j, rfl⟩ := Int.eq_ofNat_of_zero_le x0
  exact ⟨_, _, _, rfl, rd_mem p j (by omega), hi1⟩

theorem text_inner (c : List Int) (hc : c.length ≤ 9223372036854775807) (want fr : Int) (n0 : Nat) (hn0 : n0 ≤ 300) (f0 : 0 ≤ fr) (f1 : fr < n0)
    (T : ∀ (o : List Int) (i h : Int), n0 < o.length → o.length ≤ 320 → 0 ≤ i → ∃ r, Ev (fun k => spec_l07Text.l0 k o want c i h) r ∧ r.1.size ≤ 320) (d : Nat) : ∀ (j : Nat) (o : List Int) (i h : Int), j + d = 14 → o.length = n0 + j → 0 ≤ i →
    ∃ r, Ev (fun k => spec_l07Text.l1 k o want fr (j : Int) c i h) r ∧ r.1.size ≤ 320 := by
  induction d with
  | zero =>
    intro j o i h hj ho hi
    obtain ⟨x, i', h', e, x0, x1, i0⟩ := below_is c hc i h 12 hi
    have x1 := x1 (by omega)
    obtain ⟨r, g, gs⟩ := T o i' h' (by omega) (by omega) i0
    refine ⟨r, Ev.step (fun k => ?_) g, gs⟩
    rw [spec_l07Text.l1, e, Option.bind_some, w64_id (x := 2 + x) (by omega) (by omega), if_neg (by omega)]
  | succ d ih =>
    intro j o i h hj ho hi
    obtain ⟨x, i', h', e, x0, x1, i0⟩ := below_is c hc i h 12 hi
    have x1 := x1 (by omega)
    have w1 : wrap64 ((j : Int) + 1) = ((j + 1 : Nat) : Int) := w64_id (by omega) (by omega)
    by_cases hx : (j : Int) < 2 + x
    · obtain ⟨r, g, gs⟩ := ih (j + 1) (o ++ [rd o (fr + j)]) i' h' (by omega) (by simp; omega) i0
      refine ⟨r, Ev.step (fun k => ?_) g, gs⟩
      rw [spec_l07Text.l1, e, Option.bind_some, w64_id (x := 2 + x) (by omega) (by omega), if_pos hx, w64_id (x := fr + j) (by omega) (by omega), if_pos (by omega), if_pos (by omega), if_pos (by omega), w1]
    · obtain ⟨r, g, gs⟩ := T o i' h' (by omega) (by omega) i0
      refine ⟨r, Ev.step (fun k => ?_) g, gs⟩
      rw [spec_l07Text.l1, e, Option.bind_some, w64_id (x := 2 + x) (by omega) (by omega), if_neg hx]
theorem text_ends (c : List Int) (hc : c.length ≤ 9223372036854775807) (want : Int) (hw : want ≤ 300) (m : Nat) : ∀ (o : List Int) (i h : Int), want - o.length ≤ m → o.length ≤ 320 → 0 ≤ i →
    ∃ r, Ev (fun k => spec_l07Text.l0 k o want c i h) r ∧ r.1.size ≤ 320 := by
  have hend : ∀ (o : List Int) (i h : Int), ¬ (o.length : Int) < want → o.length ≤ 320 → ∃ r, Ev (fun k => spec_l07Text.l0 k o want c i h) r ∧ r.1.size ≤ 320 := fun o i h hn ho =>
    ⟨(strOfNums o, i, h), ev_ret (fun k => by rw [spec_l07Text.l0, if_neg hn]), by simp [strOfNums, ByteArray.size]; exact ho⟩
  induction m with
  | zero => exact fun o i h hm ho hi => hend o i h (by omega) ho
  | succ m ih =>
    intro o i h hm ho hi
    by_cases hlt : (o.length : Int) < want
    · have lit : ∀ (i h : Int), 0 ≤ i → ∃ r, Ev (fun k => spec_l07Text.j1 k o want false c i h) r ∧ r.1.size ≤ 320 := by
        intro i h hi
        obtain ⟨x, i1, h1, e1, _, _, i10⟩ := byte_is c hc i h hi
        obtain ⟨y, i2, h2, e2, _, i20⟩ := pick_is c hc i1 h1 [97, 98, 99, 0, 200, x] (by simp) i10
        obtain ⟨r, g, gs⟩ := ih (o ++ [y % 256]) i2 h2 (by simp; omega) (by simp; omega) i20
        refine ⟨r, Ev.step (fun k => ?_) g, gs⟩
        rw [spec_l07Text.j1, if_neg (by decide), e1, Option.bind_some, e2, Option.bind_some, if_pos (by omega)]
      by_cases h3 : (o.length : Int) > 3
      · obtain ⟨x, i1, h1, e1, _, _, i10⟩ := below_is c hc i h 2 hi
        have eo : spec_l01Once.f c i h 2 = some ((x == 0), i1, h1) := by
          unfold spec_l01Once.f
          rw [e1]
          rfl
        cases hx : (x == 0) with
        | true =>
          rw [hx] at eo
          obtain ⟨f, i2, h2, e2, f0, f1, i20⟩ := below_is c hc i1 h1 (o.length : Int) i10
          have f1 := f1 (by omega)
          obtain ⟨r, g, gs⟩ := text_inner c hc want f o.length (by omega) f0 f1 (fun o' i h h1 h2 h3 => ih o' i h (by omega) h2 h3) 14 0 o i2 h2 (by omega) (by omega) i20
          have g2 : Ev (fun k => spec_l07Text.j1 k o want true c i1 h1) r := by
            refine Ev.step (fun k => ?_) g
            rw [spec_l07Text.j1, if_pos rfl, e2, Option.bind_some]
            rfl
          refine ⟨r, Ev.step (fun k => ?_) g2, gs⟩
          rw [spec_l07Text.l0, if_pos hlt, if_pos h3, eo, Option.bind_some]
        | false =>
          rw [hx] at eo
          obtain ⟨r, g, gs⟩ := lit i1 h1 i10
          refine ⟨r, Ev.step (fun k => ?_) g, gs⟩
          rw [spec_l07Text.l0, if_pos hlt, if_pos h3, eo, Option.bind_some]
      · obtain ⟨r, g, gs⟩ := lit i h hi
        refine ⟨r, Ev.step (fun k => ?_) g, gs⟩
        rw [spec_l07Text.l0, if_pos hlt, if_neg h3]
    · exact hend o i h hlt ho
theorem size_is (l : List Int) (hl : l.length ≤ 4611686018427387904) : ∃ n, spec_l07Size.f l = some n ∧ 30 ≤ n ∧ n ≤ 300 := by
  unfold spec_l07Size.f
  have w : wrap64 (30 + (l.length : Int)) = 30 + l.length := w64_id (by omega) (by omega)
  rw [w]
  by_cases h : 30 + (l.length : Int) > 300
  · exact ⟨300, by rw [if_pos h], by omega, by omega⟩
  · exact ⟨30 + l.length, by rw [if_neg h], by omega, by omega⟩
/-- A drawn text is short. -/
theorem data_is (l : List Int) (hl : l.length ≤ 4611686018427387904) : ∃ s : ByteArray, Ev (fun k => spec_DrawData.f k l) s ∧ s.size ≤ 320 := by
  obtain ⟨h, e⟩ := new_is l
  obtain ⟨n, en, n0, n1⟩ := size_is l hl
  obtain ⟨x, i1, h1, e1, x0, x1, i10⟩ := below_is l (by omega) 0 h (n + 1) (by omega)
  have x1 := x1 (by omega)
  obtain ⟨r, g, gs⟩ := text_ends l (by omega) x (by omega) x.toNat [] i1 h1 (by simp; omega) (by simp) i10
  have g2 : Ev (fun k => spec_l07Text.f k l 0 h n) r := by
    refine Ev.congr (fun k => ?_) g
    unfold spec_l07Text.f
    rw [w64_id (x := n + 1) (by omega) (by omega), e1, Option.bind_some]
  refine ⟨r.1, ev_end (ev_pair e g2) (fun k hk => ?_), gs⟩
  obtain ⟨k1, k2⟩ := pair_some hk
  unfold spec_DrawData.f
  rw [k1, Option.bind_some, en, Option.bind_some, k2, Option.bind_some]

theorem places_loop (l : List Int) (hl : l.length ≤ 9223372036854775807) (d : Nat) : ∀ (o : List Int) (j : Nat) (i h : Int), j + d = 12 → o.length = j → (∀ x ∈ o, 0 ≤ x ∧ x < 10000) → 0 ≤ i →
    ∃ p, Ev (fun k => spec_DrawPlaces.l0 k o j l i h) p ∧ p.length = 12 ∧ ∀ x ∈ p, 0 ≤ x ∧ x < 10000 := by
  induction d with
  | zero =>
    intro o j i h hj ho hb hi
    exact ⟨o, ev_ret (fun k => by rw [spec_DrawPlaces.l0, if_neg (by omega)]), by omega, hb⟩
  | succ d ih =>
    intro o j i h hj ho hb hi
    obtain ⟨x, i1, h1, e, x0, x1, hi1⟩ := below_is l hl i h 10000 hi
    have x1 := x1 (by omega)
    obtain ⟨p, e1, hp⟩ := ih (o ++ [x]) (j + 1) i1 h1 (by omega) (by simp [ho]) (fun y hy => by
      rcases List.mem_append.1 hy with hy | hy
      · exact hb y hy
      · simp at hy; omega) hi1
    refine ⟨p, Ev.step (fun k => ?_) e1, hp⟩
    rw [spec_DrawPlaces.l0, if_pos (by omega), e, Option.bind_some, if_pos (by omega), w64_id (x := (j : Int) + 1) (by omega) (by omega)]
    rfl
theorem places_is (l : List Int) (hl : l.length ≤ 9223372036854775807) : ∃ p, Ev (fun k => spec_DrawPlaces.f k l) p ∧ p.length = 12 ∧ ∀ x ∈ p, 0 ≤ x ∧ x < 10000 := by
  obtain ⟨h, e⟩ := new_is l
  obtain ⟨x, i1, h1, e1, _, _, hi1⟩ := byte_is l hl 0 h (by omega)
  obtain ⟨p, e2, hp⟩ := places_loop l hl 12 [] 0 i1 h1 (by omega) rfl (fun x hx => by simp at hx) hi1
  refine ⟨p, ev_use e (fun k hk => ?_) e2, hp⟩
  have hk' : spec_l01New.f k l = some (l, 0, h) := hk
  show spec_DrawPlaces.f k l = _
  unfold spec_DrawPlaces.f
  rw [hk', Option.bind_some, e1, Option.bind_some]
  rfl

theorem impl_match (s : ByteArray) (hs : s.size ≤ 2600) (C : Nat) (h4 : 1 ≤ C) (h5 : C ≤ 64) (A : Nat) (hA : A < s.size) : Ev (fun k => impl_BestMatch.f k s (A : Int) (C : Int)) (bm s C A) := by
  have hw : wrap64 ((s.size : Int) - 1) = s.size - 1 := w64_id (by omega) (by omega)
  have e := best_f s (by omega) A hA C h5
  unfold bm
  rw [if_pos hA]
  have e2 : Ev (fun k => impl_BestMatch.j0 k s A C false) (ref s A A C 0 0) := by
    refine ev_use_step e (fun k hk => ?_) (Ev.now _)
    rw [impl_BestMatch.j0, if_neg (by decide), chains_is s (by omega), Option.bind_some, hk]
    rfl
  refine Ev.congr (fun k => ?_) e2
  unfold impl_BestMatch.f impl_searchOk.f
  rw [if_pos (by omega), in_impl, decide_eq_true (⟨by omega, by omega⟩ : (1 : Int) ≤ (C : Int) ∧ (C : Int) ≤ 64), Option.bind_some, Option.bind_some, if_pos rfl, hw, in_impl, decide_eq_true (⟨by omega, by omega⟩ : (0 : Int) ≤ (A : Int) ∧ (A : Int) ≤ (s.size : Int) - 1), Option.bind_some]
  rfl
theorem match_loop (s : ByteArray) (hs : s.size ≤ 320) (A n p : Nat) (hp : p < A) (hn : 3 ≤ n) (hr : run s p A 258 0 = n) (hA : A < s.size) (d : Nat) : ∀ j : Nat, j + d = n → Ev (fun k => laws_FnMatches.l0 k s (A : Int) (n : Int) ((A : Int) - p) (j : Int)) true := by
  obtain ⟨_, h2, h3, h4, h5⟩ := run_props s p A 258 0 (by omega)
  rw [hr] at h2 h3 h4 h5
  induction d with
  | zero =>
    intro j h
    refine ev_ret (fun k => ?_)
    rw [laws_FnMatches.l0, if_neg (by omega), if_pos (by omega), if_pos (by omega)]
    by_cases q1 : n = 258
    · rw [if_pos (by omega)]
    · rw [if_neg (by omega), w64_id (x := (A : Int) + n) (by omega) (by omega)]
      by_cases q2 : A + n = s.size
      · rw [if_pos (by omega)]
      · rw [if_neg (by omega), if_pos (by omega), if_pos (by omega), w64_id (x := (A : Int) + n - ((A : Int) - p)) (by omega) (by omega), if_pos (by omega), if_pos (by omega)]
        have q3 : bt s ((p + n : Nat) : Int) ≠ bt s ((A + n : Nat) : Int) := by
          rcases h5 with h5 | h5 | h5
          · omega
          · omega
          · exact h5
        have e1 : (A : Int) + n - ((A : Int) - p) = ((p + n : Nat) : Int) := by omega
        have e2 : (A : Int) + n = ((A + n : Nat) : Int) := by omega
        rw [e1, e2]
        have : (bt s ((A + n : Nat) : Int) != bt s ((p + n : Nat) : Int)) = true := by
          rw [bne_iff_ne]
          exact fun h => q3 h.symm
        rw [this]
  | succ d ih =>
    intro j h
    refine Ev.step (fun k => ?_) (ih (j + 1) (by omega))
    have e1 : (A : Int) + j - ((A : Int) - p) = ((p + j : Nat) : Int) := by omega
    have e2 : (A : Int) + j = ((A + j : Nat) : Int) := by omega
    rw [laws_FnMatches.l0, if_pos (by omega), w64_id (x := (A : Int) + j) (by omega) (by omega), if_pos (by omega), if_pos (by omega), w64_id (x := (A : Int) + j - ((A : Int) - p)) (by omega) (by omega), if_pos (by omega), if_pos (by omega), e1, e2, if_pos (h4 j (Nat.zero_le _) (by omega)).symm, w64_id (x := (j : Int) + 1) (by omega) (by omega)]
    rfl
theorem FnMatches : laws_FnMatches.Pure := by
  intro l hm hl hw
  have hbig : laws_big.f l = some (decide ((l.length : Int) > 1048576)) := rfl
  by_cases hb : (l.length : Int) > 1048576
  · refine ⟨0, ?_⟩
    unfold laws_FnMatches.f
    rw [hbig, decide_eq_true hb, Option.bind_some, if_pos rfl]
  · obtain ⟨s, gD, hs⟩ := data_is l (by omega)
    by_cases h0 : s.size = 0
    · obtain ⟨K, gD⟩ := gD
      refine ⟨K, ?_⟩
      have d1 : spec_DrawData.f K l = some s := gD K (Nat.le_refl _)
      unfold laws_FnMatches.f
      rw [hbig, decide_eq_false hb, Option.bind_some, if_neg (by decide), d1, Option.bind_some, if_pos (by omega)]
    · obtain ⟨p, gP, hpl, hpr⟩ := places_is l (by omega)
      have p0 := hpr _ (rd_mem p 0 (by omega))
      have p1 := hpr _ (rd_mem p 1 (by omega))
      obtain ⟨A, hA⟩ : ∃ A : Nat, Int.tmod (rd p 0) (s.size : Int) = (A : Int) := ⟨(Int.tmod (rd p 0) (s.size : Int)).toNat, by
        have := Int.tmod_nonneg (s.size : Int) p0.1
        have e : rd p (0 : Int) = rd p ((0 : Nat) : Int) := rfl
        rw [e]; omega⟩
      have hA2 : A < s.size := by
        have := Int.tmod_lt_of_pos (rd p ((0 : Nat) : Int)) (show (0 : Int) < (s.size : Int) by omega)
        have e : rd p (0 : Int) = rd p ((0 : Nat) : Int) := rfl
        rw [e] at hA
        omega
      obtain ⟨C, hC, hC1, hC2⟩ : ∃ C : Nat, wrap64 (1 + Int.tmod (rd p 1) 64) = (C : Int) ∧ 1 ≤ C ∧ C ≤ 64 := by
        have e : rd p (1 : Int) = rd p ((1 : Nat) : Int) := rfl
        rw [e, tmod_nn _ p1.1, w64_id (by omega) (by omega)]
        exact ⟨(1 + rd p ((1 : Nat) : Int) % 64).toNat, by omega, by omega, by omega⟩
      have gS := spec_bm s (by omega) C hC1 hC2 A (by omega)
      have gI := impl_match s (by omega) C hC1 hC2 A hA2
      obtain ⟨n, d, hr⟩ : ∃ n d, bm s C A = (n, d) := ⟨_, _, rfl⟩
      have hok := bm_ok s C A
      rw [hr] at gS gI hok
      have gJ : Ev (fun k => laws_FnMatches.j0 k s (A : Int) n d (d != d)) true := by
        have dd : (d != d) = false := by simp
        rw [dd]
        rcases hok with ⟨h1, h2⟩ | ⟨q, m, h1, h2, h3, h4, h5⟩
        · refine ev_ret (fun k => ?_)
          have h1 : n = 0 := h1
          have h2 : d = 0 := h2
          rw [laws_FnMatches.j0, if_neg (by decide), if_pos h1, h2]
          rfl
        · have h2 : n = (m : Int) := h2
          have h3 : d = (A : Int) - q := h3
          rw [h2, h3]
          refine Ev.step (fun k => ?_) (match_loop s hs A m q h1 h4 h5 hA2 m 0 (by omega))
          rw [laws_FnMatches.j0, if_neg (by decide), if_neg (by omega)]
          rfl
      obtain ⟨K1, gD⟩ := gD
      obtain ⟨K2, gP⟩ := gP
      obtain ⟨K3, gS⟩ := gS
      obtain ⟨K4, gI⟩ := gI
      obtain ⟨K5, gJ⟩ := gJ
      refine ⟨K1 + K2 + K3 + K4 + K5, ?_⟩
      generalize hK : K1 + K2 + K3 + K4 + K5 = K
      have d1 : spec_DrawData.f K l = some s := gD K (by omega)
      have d2 : spec_DrawPlaces.f K l = some p := gP K (by omega)
      have d3 : spec_BestMatch.f K s A C = some (n, d) := gS K (by omega)
      have d4 : impl_BestMatch.f K s A C = some (n, d) := gI K (by omega)
      have d5 : laws_FnMatches.j0 K s (A : Int) n d (d != d) = some true := gJ K (by omega)
      unfold laws_FnMatches.f
      rw [hbig, decide_eq_false hb, Option.bind_some, if_neg (by decide), d1, Option.bind_some, if_neg (by omega), d2, Option.bind_some, if_pos (by omega), if_pos (by omega), hA, hC, d4, Option.bind_some, d3, Option.bind_some, if_pos rfl]
      exact d5

end Go.Proofs.Ytaaoojmbomhakaa.Pure
