/- The law FnLengths: for every input within the row's bounds the printed function answers true: what the program's function tells is what the law asks. Conditions: only the bounds that the row itself gives (sizes of strings and slices, ranges of the number kinds). -/
import Derived.Test.YtbkikljnbdfblaaPFnLengthsx2
namespace Go.Proofs.Ytbkikljnbdfblaa.Pure
open Go.RowKit Go.Proofs.Ytbkikljnbdfblaa.PFnLengths Go.Proofs.YtbkikljnbdfblaaW.PrintWords Go.Proofs.YtbkikljnbdfblaaW.PrintLast Go.Proofs.YtbkikljnbdfblaaW.PrintMore
set_option linter.unusedVariables false
set_option linter.unusedSimpArgs false

theorem w64_id {x : Int} (h0 : -9223372036854775808 ≤ x) (h1 : x ≤ 9223372036854775807) : wrap64 x = x := by unfold wrap64; omega
theorem tmod_nn {a : Int} (b : Int) (h : 0 ≤ a) : Int.tmod a b = a % b := Int.tmod_eq_emod_of_nonneg h
theorem tdiv_nn {a : Int} (b : Int) (h : 0 ≤ a) : Int.tdiv a b = a / b := Int.tdiv_eq_ediv_of_nonneg h
theorem wf64 {n : Int} (h : (Lit.int .i64 n).wf = true) : -9223372036854775808 ≤ n ∧ n ≤ 9223372036854775807 := by
  simp [Lit.wf, IntKind.min, IntKind.max, IntKind.signed, IntKind.bits] at h
  omega
theorem wfu32 {n : Int} (h : (Lit.int .u32 n).wf = true) : 0 ≤ n ∧ n ≤ 4294967295 := by
  simp [Lit.wf, IntKind.min, IntKind.max, IntKind.signed, IntKind.bits] at h
  omega
theorem wraps64 (n : Int) (h0 : 0 ≤ n) (h1 : n < 2 ^ 63) : IntKind.i64.wrap n = n := by rw [IntKind.wrap_i64]; omega
theorem wrapsu32 (n : Int) (h0 : 0 ≤ n) (h1 : n < 2 ^ 32) : IntKind.u32.wrap n = n := by rw [IntKind.wrap_u32]; omega
/-- a | b of parts that do not meet, of an int. -/
theorem or64 (i : Nat) (x y : Int) (hx0 : 0 ≤ x) (hx : x % 2 ^ i = 0) (hx1 : x < 2 ^ 63) (hy0 : 0 ≤ y) (hy : y < 2 ^ i) (hy1 : y < 2 ^ 63) : Go.bits .or .i64 x y = x + y :=
  bits_join .i64 63 (by decide) wraps64 i x y hx0 hx hx1 hy0 hy hy1
theorem ev_ite_pos {α : Type} {c : Prop} [Decidable c] {f g : Nat → Option α} {r : α} (h : c) (k : Ev f r) : Ev (fun n => if c then f n else g n) r := Ev.congr (fun n => if_pos h) k
theorem ev_ite_neg {α : Type} {c : Prop} [Decidable c] {f g : Nat → Option α} {r : α} (h : ¬ c) (k : Ev g r) : Ev (fun n => if c then f n else g n) r := Ev.congr (fun n => if_neg h) k
/-- A callee without rounds that answers. -/
theorem ev_bind0 {α β : Type} {o : Option α} {f : Nat → α → Option β} {a : α} {r : β} (h : o = some a) (k : Ev (fun n => f n a) r) : Ev (fun n => o.bind (f n)) r := Ev.congr (fun n => by rw [h]; rfl) k
theorem bt_lo (s : ByteArray) (i : Int) : 0 ≤ bt s i := (bt_range s i).1
theorem bt_hi (s : ByteArray) (i : Int) : bt s i ≤ 255 := (bt_range s i).2
/-- A callee that answers from some number of rounds on, used. -/
theorem ev_use {α β : Type} {g : Nat → Option α} {a : α} {F G : Nat → Option β} {r : β} (e : Ev g a) (h : ∀ k, g k = some a → F k = G k) (c : Ev G r) : Ev F r := by
  obtain ⟨K, e⟩ := e
  obtain ⟨K', c⟩ := c
  exact ⟨max K K', fun n hn => (h n (e n (by omega))).trans (c n (by omega))⟩
theorem ev_use_step {α β : Type} {g : Nat → Option α} {a : α} {F G : Nat → Option β} {r : β} (e : Ev g a) (h : ∀ k, g k = some a → F (k + 1) = G k) (c : Ev G r) : Ev F r := by
  obtain ⟨K, e⟩ := e
  obtain ⟨K', c⟩ := c
  refine ⟨max K K' + 1, fun n hn => ?_⟩
  obtain ⟨m, rfl⟩ : ∃ m, n = m + 1 := ⟨n - 1, by omega⟩
  exact (h m (e m (by omega))).trans (c m (by omega))
theorem ev_end {α β : Type} {g : Nat → Option α} {a : α} {F : Nat → Option β} {r : β} (e : Ev g a) (h : ∀ k, g k = some a → F k = some r) : Ev F r := by
  obtain ⟨K, e⟩ := e
  exact ⟨K, fun n hn => h n (e n hn)⟩
theorem ev_two {α β : Type} {g : Nat → Option α} {h : Nat → Option β} {a : α} {b : β} (e : Ev g a) (f : Ev h b) : ∃ k, g k = some a ∧ h k = some b := by
  obtain ⟨K, e⟩ := e
  obtain ⟨K', f⟩ := f
  exact ⟨max K K', e _ (by omega), f _ (by omega)⟩
theorem ev_ret {α : Type} {F : Nat → Option α} {r : α} (h : ∀ k, F (k + 1) = some r) : Ev F r := ⟨1, fun n hn => by obtain ⟨m, rfl⟩ : ∃ m, n = m + 1 := ⟨n - 1, by omega⟩; exact h m⟩

theorem in_impl (a b c : Int) : impl_within.f a b c = some (decide (b ≤ a ∧ a ≤ c)) := by
  unfold impl_within.f
  split
  · rename_i h
    have e : (decide (a ≤ c)) = decide (b ≤ a ∧ a ≤ c) := decide_eq_decide.mpr ⟨fun h' => ⟨h, h'⟩, fun h' => h'.2⟩
    rw [e]
  · rename_i h
    have e : (decide (b ≤ a ∧ a ≤ c)) = false := decide_eq_false fun h' => h h'.1
    rw [e]

theorem rd_nat (l : List Int) (j : Nat) : rd l j = l.getD j 0 := by unfold rd; simp
theorem rd_getElem (l : List Int) (j : Nat) (h : j < l.length) : rd l j = l[j] := by rw [rd_nat, List.getD_eq_getElem?_getD, List.getElem?_eq_getElem h]; rfl
theorem rd_mem (l : List Int) (j : Nat) (h : j < l.length) : rd l j ∈ l := by rw [rd_getElem l j h]; exact List.getElem_mem h
theorem drop_rd (l : List Int) (j : Nat) (h : j < l.length) : l.drop j = rd l j :: l.drop (j + 1) := by rw [rd_getElem l j h]; exact List.drop_eq_getElem_cons h
theorem rd_set (l : List Int) (a : Nat) (v : Int) (j : Nat) (h : a < l.length) : rd (l.set a v) j = if j = a then v else rd l j := by
  rw [rd_nat, rd_nat, List.getD_eq_getElem?_getD, List.getD_eq_getElem?_getD, List.getElem?_set]
  by_cases e : j = a
  · subst e
    simp [h]
  · rw [if_neg (Ne.symm e), if_neg e]
theorem take_set_snoc (l : List Int) (j : Nat) (v : Int) (h : j < l.length) : (l.set j v).take (j + 1) = l.take j ++ [v] := by
  rw [List.take_succ_eq_append_getElem (by simpa using h)]
  simp [List.take_set_of_le]

/-- Symbol i of the program's own table: its first value, its extra bits, how many values it has, and where the next one begins. -/
def distOk (i : Nat) : Bool :=
  match impl_distSpan.f i with
  | some (m, b) => (match impl_powerOf.f b with
    | some p => shl .i64 1 b == p && decide (0 ≤ b) && decide (1 ≤ p) && decide (p ≤ 8192) && decide (1 ≤ m) && decide (m ≤ 32768) && (if i = 29 then decide (32768 < m + p) else (match impl_distSpan.f (i + 1 : Nat) with | some (m', _) => decide (m < m') && decide (m' ≤ m + p) | none => false))
    | none => false)
  | none => false
theorem dist_table : ∀ j, j < 30 → distOk (0 + j) = true := by decide +kernel
def distM (i : Nat) : Int := ((impl_distSpan.f i).getD (0, 0)).1
def distB (i : Nat) : Int := ((impl_distSpan.f i).getD (0, 0)).2
def distP (i : Nat) : Int := ((impl_powerOf.f (distB i)).getD 0)
theorem dist_row (i : Nat) (h0 : 0 ≤ i) (h1 : i ≤ 29) : impl_distSpan.f i = some (distM i, distB i) ∧ impl_powerOf.f (distB i) = some (distP i) ∧ shl .i64 1 (distB i) = distP i ∧ 0 ≤ distB i ∧ 1 ≤ distP i ∧ distP i ≤ 8192 ∧ 1 ≤ distM i ∧ distM i ≤ 32768 ∧
    (i = 29 → 32768 < distM i + distP i) ∧ (i < 29 → distM i < distM (i + 1) ∧ distM (i + 1) ≤ distM i + distP i) := by
  obtain ⟨j, rfl⟩ : ∃ j, i = 0 + j := ⟨i - 0, by omega⟩
  have h := dist_table j (by omega)
  unfold distOk at h
  cases e : impl_distSpan.f ((0 + j : Nat) : Int) with
  | none => rw [e] at h; cases h
  | some mb =>
    obtain ⟨m, b⟩ := mb
    rw [e] at h
    dsimp only at h
    cases e2 : impl_powerOf.f b with
    | none => rw [e2] at h; cases h
    | some p =>
      rw [e2] at h
      dsimp only at h
      have eM : distM (0 + j) = m := by unfold distM; rw [e]; rfl
      have eB : distB (0 + j) = b := by unfold distB; rw [e]; rfl
      have eP : distP (0 + j) = p := by unfold distP; rw [eB, e2]; rfl
      rw [eM, eB, eP]
      simp only [Bool.and_eq_true, beq_iff_eq, decide_eq_true_eq] at h
      obtain ⟨⟨⟨⟨⟨⟨a1, a2⟩, a3⟩, a4⟩, a5⟩, a6⟩, a7⟩ := h
      refine ⟨rfl, e2, a1, a2, a3, a4, a5, a6, fun hi => ?_, fun hi => ?_⟩
      · rw [if_pos hi, decide_eq_true_eq] at a7
        exact a7
      · rw [if_neg (by omega)] at a7
        cases e3 : impl_distSpan.f ((0 + j + 1 : Nat) : Int) with
        | none => rw [e3] at a7; cases a7
        | some mb' =>
          obtain ⟨m', b'⟩ := mb'
          rw [e3] at a7
          simp only [Bool.and_eq_true, decide_eq_true_eq] at a7
          have eM' : distM (0 + j + 1) = m' := by unfold distM; rw [e3]; rfl
          rw [eM']
          exact a7
theorem dist_first : distM 0 = 1 := by decide +kernel
attribute [irreducible] distM distB distP
theorem dist_mono (s : Nat) (h0 : 0 ≤ s) (d : Nat) : s + d ≤ 29 → distM s ≤ distM (s + d) := by
  induction d with
  | zero => exact fun _ => Int.le_refl _
  | succ d ih =>
    intro h
    have a := ih (by omega)
    obtain ⟨_, _, _, _, _, _, _, _, _, r⟩ := dist_row (s + d) (by omega) (by omega)
    have b := (r (by omega)).1
    rw [← Nat.add_assoc]
    omega
theorem dist_find (n : Int) (hn : 1 ≤ n) (m : Nat) : 0 + m ≤ 29 → ∃ t, 0 ≤ t ∧ t ≤ 0 + m ∧ distM t ≤ n ∧ ∀ s, t < s → s ≤ 0 + m → n < distM s := by
  induction m with
  | zero => exact fun _ => ⟨0, by omega, by omega, by rw [dist_first]; exact hn, fun s h1 h2 => by omega⟩
  | succ m ih =>
    intro hm
    by_cases h : distM (0 + (m + 1)) ≤ n
    · exact ⟨0 + (m + 1), by omega, Nat.le_refl _, h, fun s h1 h2 => by omega⟩
    · obtain ⟨t, h0, h1, h2, h3⟩ := ih (by omega)
      refine ⟨t, h0, by omega, h2, fun s hs1 hs2 => ?_⟩
      by_cases e : s = 0 + (m + 1)
      · subst e; omega
      · exact h3 s hs1 (by omega)
theorem dist_down (n : Int) (n0 : 1 ≤ n) (n1 : n ≤ 32768) (t : Nat) (ht0 : 0 ≤ t) (ht : t ≤ 29) (hle : distM t ≤ n) (hall : ∀ s, t < s → s ≤ 29 → n < distM s) (d : Nat) : ∀ s : Nat, s = t + d → s ≤ 29 →
    Ev (fun k => impl_DistCode.l0 k n s (distM s) (distB s)) ((t : Int), distB t, n - distM t) := by
  induction d with
  | zero =>
    intro s h hs
    obtain rfl : s = t := by omega
    have r := dist_row s ht0 ht
    exact ev_ret (fun k => by rw [impl_DistCode.l0, if_neg (by omega), w64_id (x := n - distM s) (by omega) (by omega)])
  | succ d ih =>
    intro s h hs
    have hlt := hall s (by omega) (by omega)
    have e := (dist_row (s - 1) (by omega) (by omega)).1
    have hc : ((s : Int) - 1) = ((s - 1 : Nat) : Int) := by omega
    refine Ev.step (fun k => ?_) (ih (s - 1) (by omega) (by omega))
    rw [impl_DistCode.l0, if_pos (by omega), w64_id (x := (s : Int) - 1) (by omega) (by omega), hc, e]
    rfl
/-- What the code of a value comes to, and its way back. -/
theorem dist_code (n : Int) (h0 : 1 ≤ n) (h1 : n ≤ 32768) : ∃ t : Nat, 0 ≤ t ∧ t ≤ 29 ∧ distM t ≤ n ∧ (∀ s, t < s → s ≤ 29 → n < distM s) ∧ n < distM t + distP t ∧
    Ev (fun k => impl_DistCode.f k n) ((t : Int), distB t, n - distM t) ∧ impl_DistOf.f t (n - distM t) = some (n, true) := by
  obtain ⟨t, ht0, ht, hle, hall⟩ := dist_find n h0 (29 - 0) (by omega)
  have hall' : ∀ s, t < s → s ≤ 29 → n < distM s := fun s a b => hall s a (by omega)
  obtain ⟨r1, r2, r3, r4, r5, r6, r7, r8, r9, r10⟩ := dist_row t ht0 (by omega)
  have hlt : n < distM t + distP t := by
    by_cases e : t = 29
    · have := r9 e; omega
    · have := r10 (by omega)
      have := hall' (t + 1) (by omega) (by omega)
      omega
  refine ⟨t, ht0, by omega, hle, hall', hlt, ?_, ?_⟩
  · have hd := dist_down n h0 h1 t ht0 (by omega) hle hall' (29 - t) 29 (by omega) (by omega)
    rw [show ((29 : Nat) : Int) = 29 by omega] at hd
    refine Ev.congr (fun k => ?_) hd
    unfold impl_DistCode.f
    have e := (dist_row 29 (by omega) (by omega)).1
    rw [show ((29 : Nat) : Int) = 29 by omega] at e
    rw [in_impl, decide_eq_true ⟨h0, h1⟩]
    simp only [Option.bind_some, if_true, e]
  · unfold impl_DistOf.f
    rw [in_impl, decide_eq_true (by omega)]
    simp only [Option.bind_some, if_true, r1, r2]
    rw [in_impl, w64_id (x := distP t - 1) (by omega) (by omega), decide_eq_true (by omega), w64_id (x := distM t + (n - distM t)) (by omega) (by omega)]
    simp only [Option.bind_some, if_true]
    congr 2
    omega
/-- The next value's symbol is the same or the next one. -/
theorem dist_next (n : Int) (h0 : 1 ≤ n) (h1 : n + 1 ≤ 32768) (t u : Nat) (ht0 : 0 ≤ t) (ht : t ≤ 29) (hu : u ≤ 29) (a : distM t ≤ n) (b : ∀ s, t < s → s ≤ 29 → n < distM s) (c : distM u ≤ n + 1) (d : ∀ s, u < s → s ≤ 29 → n + 1 < distM s) : u = t ∨ u = t + 1 := by
  have l : t ≤ u := by
    rcases Nat.lt_or_ge u t with h | h
    · have := d t h ht; omega
    · exact h
  rcases Nat.lt_or_ge (t + 1) u with h | h
  · exfalso
    have b1 := b (t + 1) (by omega) (by omega)
    obtain ⟨_, _, _, _, _, _, _, _, _, r⟩ := dist_row (t + 1) (by omega) (by omega)
    have b2 := (r (by omega)).1
    have b3 := dist_mono (t + 1 + 1) (by omega) (u - (t + 1 + 1)) (by omega)
    rw [show t + 1 + 1 + (u - (t + 1 + 1)) = u by omega] at b3
    omega
  · omega
theorem dist_some (n : Int) : ∃ r, Ev (fun k => impl_DistCode.f k n) r := by
  by_cases h : 1 ≤ n ∧ n ≤ 32768
  · obtain ⟨t, _, _, _, _, _, e, _⟩ := dist_code n h.1 h.2
    exact ⟨_, e⟩
  · refine ⟨(0, 0, 0), Ev.congr (fun k => ?_) (Ev.now _)⟩
    unfold impl_DistCode.f
    rw [in_impl, decide_eq_false h]
    rfl

/-- Symbol i of the program's own table: its first value, its extra bits, how many values it has, and where the next one begins. -/
def lenOk (i : Nat) : Bool :=
  match impl_lengthSpan.f i with
  | some (m, b) => (match impl_powerOf.f b with
    | some p => shl .i64 1 b == p && decide (0 ≤ b) && decide (1 ≤ p) && decide (p ≤ 8192) && decide (3 ≤ m) && decide (m ≤ 258) && (if i = 285 then decide (258 < m + p) else (match impl_lengthSpan.f (i + 1 : Nat) with | some (m', _) => decide (m < m') && decide (m' ≤ m + p) | none => false))
    | none => false)
  | none => false
theorem len_table : ∀ j, j < 29 → lenOk (257 + j) = true := by decide +kernel
def lenM (i : Nat) : Int := ((impl_lengthSpan.f i).getD (0, 0)).1
def lenB (i : Nat) : Int := ((impl_lengthSpan.f i).getD (0, 0)).2
def lenP (i : Nat) : Int := ((impl_powerOf.f (lenB i)).getD 0)
theorem len_row (i : Nat) (h0 : 257 ≤ i) (h1 : i ≤ 285) : impl_lengthSpan.f i = some (lenM i, lenB i) ∧ impl_powerOf.f (lenB i) = some (lenP i) ∧ shl .i64 1 (lenB i) = lenP i ∧ 0 ≤ lenB i ∧ 1 ≤ lenP i ∧ lenP i ≤ 8192 ∧ 3 ≤ lenM i ∧ lenM i ≤ 258 ∧
    (i = 285 → 258 < lenM i + lenP i) ∧ (i < 285 → lenM i < lenM (i + 1) ∧ lenM (i + 1) ≤ lenM i + lenP i) := by
  obtain ⟨j, rfl⟩ : ∃ j, i = 257 + j := ⟨i - 257, by omega⟩
  have h := len_table j (by omega)
  unfold lenOk at h
  cases e : impl_lengthSpan.f ((257 + j : Nat) : Int) with
  | none => rw [e] at h; cases h
  | some mb =>
    obtain ⟨m, b⟩ := mb
    rw [e] at h
    dsimp only at h
    cases e2 : impl_powerOf.f b with
    | none => rw [e2] at h; cases h
    | some p =>
      rw [e2] at h
      dsimp only at h
      have eM : lenM (257 + j) = m := by unfold lenM; rw [e]; rfl
      have eB : lenB (257 + j) = b := by unfold lenB; rw [e]; rfl
      have eP : lenP (257 + j) = p := by unfold lenP; rw [eB, e2]; rfl
      rw [eM, eB, eP]
      simp only [Bool.and_eq_true, beq_iff_eq, decide_eq_true_eq] at h
      obtain ⟨⟨⟨⟨⟨⟨a1, a2⟩, a3⟩, a4⟩, a5⟩, a6⟩, a7⟩ := h
      refine ⟨rfl, e2, a1, a2, a3, a4, a5, a6, fun hi => ?_, fun hi => ?_⟩
      · rw [if_pos hi, decide_eq_true_eq] at a7
        exact a7
      · rw [if_neg (by omega)] at a7
        cases e3 : impl_lengthSpan.f ((257 + j + 1 : Nat) : Int) with
        | none => rw [e3] at a7; cases a7
        | some mb' =>
          obtain ⟨m', b'⟩ := mb'
          rw [e3] at a7
          simp only [Bool.and_eq_true, decide_eq_true_eq] at a7
          have eM' : lenM (257 + j + 1) = m' := by unfold lenM; rw [e3]; rfl
          rw [eM']
          exact a7
theorem len_first : lenM 257 = 3 := by decide +kernel
attribute [irreducible] lenM lenB lenP
theorem len_mono (s : Nat) (h0 : 257 ≤ s) (d : Nat) : s + d ≤ 285 → lenM s ≤ lenM (s + d) := by
  induction d with
  | zero => exact fun _ => Int.le_refl _
  | succ d ih =>
    intro h
    have a := ih (by omega)
    obtain ⟨_, _, _, _, _, _, _, _, _, r⟩ := len_row (s + d) (by omega) (by omega)
    have b := (r (by omega)).1
    rw [← Nat.add_assoc]
    omega
theorem len_find (n : Int) (hn : 3 ≤ n) (m : Nat) : 257 + m ≤ 285 → ∃ t, 257 ≤ t ∧ t ≤ 257 + m ∧ lenM t ≤ n ∧ ∀ s, t < s → s ≤ 257 + m → n < lenM s := by
  induction m with
  | zero => exact fun _ => ⟨257, by omega, by omega, by rw [len_first]; exact hn, fun s h1 h2 => by omega⟩
  | succ m ih =>
    intro hm
    by_cases h : lenM (257 + (m + 1)) ≤ n
    · exact ⟨257 + (m + 1), by omega, Nat.le_refl _, h, fun s h1 h2 => by omega⟩
    · obtain ⟨t, h0, h1, h2, h3⟩ := ih (by omega)
      refine ⟨t, h0, by omega, h2, fun s hs1 hs2 => ?_⟩
      by_cases e : s = 257 + (m + 1)
      · subst e; omega
      · exact h3 s hs1 (by omega)
theorem len_down (n : Int) (n0 : 3 ≤ n) (n1 : n ≤ 258) (t : Nat) (ht0 : 257 ≤ t) (ht : t ≤ 285) (hle : lenM t ≤ n) (hall : ∀ s, t < s → s ≤ 285 → n < lenM s) (d : Nat) : ∀ s : Nat, s = t + d → s ≤ 285 →
    Ev (fun k => impl_LengthCode.l0 k n s (lenM s) (lenB s)) ((t : Int), lenB t, n - lenM t) := by
  induction d with
  | zero =>
    intro s h hs
    obtain rfl : s = t := by omega
    have r := len_row s ht0 ht
    exact ev_ret (fun k => by rw [impl_LengthCode.l0, if_neg (by omega), w64_id (x := n - lenM s) (by omega) (by omega)])
  | succ d ih =>
    intro s h hs
    have hlt := hall s (by omega) (by omega)
    have e := (len_row (s - 1) (by omega) (by omega)).1
    have hc : ((s : Int) - 1) = ((s - 1 : Nat) : Int) := by omega
    refine Ev.step (fun k => ?_) (ih (s - 1) (by omega) (by omega))
    rw [impl_LengthCode.l0, if_pos (by omega), w64_id (x := (s : Int) - 1) (by omega) (by omega), hc, e]
    rfl
/-- What the code of a value comes to, and its way back. -/
theorem len_code (n : Int) (h0 : 3 ≤ n) (h1 : n ≤ 258) : ∃ t : Nat, 257 ≤ t ∧ t ≤ 285 ∧ lenM t ≤ n ∧ (∀ s, t < s → s ≤ 285 → n < lenM s) ∧ n < lenM t + lenP t ∧
    Ev (fun k => impl_LengthCode.f k n) ((t : Int), lenB t, n - lenM t) ∧ impl_LengthOf.f t (n - lenM t) = some (n, true) := by
  obtain ⟨t, ht0, ht, hle, hall⟩ := len_find n h0 (285 - 257) (by omega)
  have hall' : ∀ s, t < s → s ≤ 285 → n < lenM s := fun s a b => hall s a (by omega)
  obtain ⟨r1, r2, r3, r4, r5, r6, r7, r8, r9, r10⟩ := len_row t ht0 (by omega)
  have hlt : n < lenM t + lenP t := by
    by_cases e : t = 285
    · have := r9 e; omega
    · have := r10 (by omega)
      have := hall' (t + 1) (by omega) (by omega)
      omega
  refine ⟨t, ht0, by omega, hle, hall', hlt, ?_, ?_⟩
  · have hd := len_down n h0 h1 t ht0 (by omega) hle hall' (285 - t) 285 (by omega) (by omega)
    rw [show ((285 : Nat) : Int) = 285 by omega] at hd
    refine Ev.congr (fun k => ?_) hd
    unfold impl_LengthCode.f
    have e := (len_row 285 (by omega) (by omega)).1
    rw [show ((285 : Nat) : Int) = 285 by omega] at e
    rw [in_impl, decide_eq_true ⟨h0, h1⟩]
    simp only [Option.bind_some, if_true, e]
  · unfold impl_LengthOf.f
    rw [in_impl, decide_eq_true (by omega)]
    simp only [Option.bind_some, if_true, r1, r2]
    rw [in_impl, w64_id (x := lenP t - 1) (by omega) (by omega), decide_eq_true (by omega), w64_id (x := lenM t + (n - lenM t)) (by omega) (by omega)]
    simp only [Option.bind_some, if_true]
    congr 2
    omega
/-- The next value's symbol is the same or the next one. -/
theorem len_next (n : Int) (h0 : 3 ≤ n) (h1 : n + 1 ≤ 258) (t u : Nat) (ht0 : 257 ≤ t) (ht : t ≤ 285) (hu : u ≤ 285) (a : lenM t ≤ n) (b : ∀ s, t < s → s ≤ 285 → n < lenM s) (c : lenM u ≤ n + 1) (d : ∀ s, u < s → s ≤ 285 → n + 1 < lenM s) : u = t ∨ u = t + 1 := by
  have l : t ≤ u := by
    rcases Nat.lt_or_ge u t with h | h
    · have := d t h ht; omega
    · exact h
  rcases Nat.lt_or_ge (t + 1) u with h | h
  · exfalso
    have b1 := b (t + 1) (by omega) (by omega)
    obtain ⟨_, _, _, _, _, _, _, _, _, r⟩ := len_row (t + 1) (by omega) (by omega)
    have b2 := (r (by omega)).1
    have b3 := len_mono (t + 1 + 1) (by omega) (u - (t + 1 + 1)) (by omega)
    rw [show t + 1 + 1 + (u - (t + 1 + 1)) = u by omega] at b3
    omega
  · omega
theorem len_some (n : Int) : ∃ r, Ev (fun k => impl_LengthCode.f k n) r := by
  by_cases h : 3 ≤ n ∧ n ≤ 258
  · obtain ⟨t, _, _, _, _, _, e, _⟩ := len_code n h.1 h.2
    exact ⟨_, e⟩
  · refine ⟨(0, 0, 0), Ev.congr (fun k => ?_) (Ev.now _)⟩
    unfold impl_LengthCode.f
    rw [in_impl, decide_eq_false h]
    rfl

/-- x & 255 is a byte, whatever x is. -/
theorem and255 (x : Int) : 0 ≤ Go.bits .and .i64 x 255 ∧ Go.bits .and .i64 x 255 ≤ 255 := by
  have h : (BitVec.ofInt 64 x &&& BitVec.ofInt 64 255).toNat ≤ 255 := by
    rw [BitVec.toNat_and]
    exact Nat.le_trans Nat.and_le_right (by decide)
  have e : Go.bits .and .i64 x 255 = IntKind.i64.wrap ((BitVec.ofInt 64 x &&& BitVec.ofInt 64 255).toNat : Int) := rfl
  rw [e, wraps64 _ (by omega) (by omega)]
  omega
theorem new_ends (l : List Int) (d : Nat) : ∀ (h : Int) (i : Nat), i + d = 4000 → ∃ h', Ev (fun k => spec_l01New.l0 k l h i) (l, 0, h') := by
  induction d with
  | zero =>
    intro h i hi
    exact ⟨h, ev_ret (fun k => by
      rw [spec_l01New.l0]
      split
      · rw [if_neg (by omega)]
      · rfl)⟩
  | succ d ih =>
    intro h i hi
    by_cases c : (i : Int) < (l.length : Int)
    · obtain ⟨h', e⟩ := ih (Go.bits .and .i64 (wrap64 ((wrap64 ((wrap64 (h * 131)) + (wrap64 (rd l i)))) + 7)) 1073741823) (i + 1) (by omega)
      exact ⟨h', Ev.step (fun k => by rw [spec_l01New.l0, if_pos c, if_pos (by omega), if_pos (by omega), w64_id (x := (i : Int) + 1) (by omega) (by omega)]; rfl) e⟩
    · exact ⟨h, ev_ret (fun k => by rw [spec_l01New.l0, if_neg c])⟩
theorem new_is (l : List Int) : ∃ h, Ev (fun k => spec_l01New.f k l) (l, 0, h) := new_ends l 4000 _ 0 (by omega)
theorem byte_is (l : List Int) (hl : l.length ≤ 9223372036854775807) (i h : Int) (hi : 0 ≤ i) : ∃ x i' h', spec_l01Byte.f l i h = some (x, i', h') ∧ 0 ≤ x ∧ x ≤ 255 ∧ 0 ≤ i' := by
  unfold spec_l01Byte.f
  by_cases c : i < (l.length : Int)
  · rw [if_pos c, if_pos hi]
    have := and255 (wrap64 ((Go.bits .and .i64 (Go.bits .xor .i64 ((wrap64 ((wrap64 (h * 6364136223846793005)) + 1442695040888963407)) / 8589934592) ((wrap64 ((wrap64 (h * 6364136223846793005)) + 1442695040888963407)) / 35184372088832)) 255) + (wrap64 (rd l i))))
    exact ⟨_, _, _, rfl, this.1, this.2, by rw [w64_id (by omega) (by omega)]; omega⟩
  · rw [if_neg c]
    have := and255 (Go.bits .xor .i64 ((wrap64 ((wrap64 (h * 6364136223846793005)) + 1442695040888963407)) / 8589934592) ((wrap64 ((wrap64 (h * 6364136223846793005)) + 1442695040888963407)) / 35184372088832))
    exact ⟨_, _, _, rfl, this.1, this.2, hi⟩
theorem below_is (l : List Int) (hl : l.length ≤ 9223372036854775807) (i h n : Int) (hi : 0 ≤ i) : ∃ x i' h', spec_l01Below.f l i h n = some (x, i', h') ∧ 0 ≤ x ∧ (0 < n → x < n) ∧ 0 ≤ i' := by
  unfold spec_l01Below.f
  by_cases c0 : n ≤ 0
  · rw [if_pos c0]
    exact ⟨_, _, _, rfl, by omega, by omega, hi⟩
  · rw [if_neg c0]
    by_cases c1 : n ≤ 256
    · rw [if_pos c1]
      obtain ⟨x, i1, h1, e, x0, x1, hi1⟩ := byte_is l hl i h hi
      rw [e, Option.bind_some, if_neg (by omega)]
      refine ⟨_, _, _, rfl, ?_, fun _ => ?_, hi1⟩
      · rw [tmod_nn _ x0]; exact Int.emod_nonneg _ (by omega)
      · rw [tmod_nn _ x0]; exact Int.emod_lt_of_pos _ (by omega)
    · rw [if_neg c1]
      obtain ⟨x, i1, h1, e1, x0, x1, hi1⟩ := byte_is l hl i h hi
      obtain ⟨y, i2, h2, e2, y0, y1, hi2⟩ := byte_is l hl i1 h1 hi1
      obtain ⟨z, i3, h3, e3, z0, z1, hi3⟩ := byte_is l hl i2 h2 hi2
      obtain ⟨w, i4, h4, e4, w0, w1, hi4⟩ := byte_is l hl i3 h3 hi3
      simp only [e1, e2, e3, e4, Option.bind_some]
      rw [if_neg (by omega)]
      rw [w64_id (x := x * 16777216) (by omega) (by omega), w64_id (x := y * 65536) (by omega) (by omega), w64_id (x := z * 256) (by omega) (by omega), w64_id (x := x * 16777216 + y * 65536) (by omega) (by omega), w64_id (x := x * 16777216 + y * 65536 + z * 256) (by omega) (by omega), w64_id (x := x * 16777216 + y * 65536 + z * 256 + w) (by omega) (by omega)]
      refine ⟨_, _, _, rfl, ?_, fun _ => ?_, hi4⟩
      · rw [tmod_nn _ (by omega)]; exact Int.emod_nonneg _ (by omega)
      · rw [tmod_nn _ (by omega)]; exact Int.emod_lt_of_pos _ (by omega)

theorem places_loop (l : List Int) (hl : l.length ≤ 9223372036854775807) (d : Nat) : ∀ (o : List Int) (j : Nat) (i h : Int), j + d = 12 → o.length = j → (∀ x ∈ o, 0 ≤ x ∧ x < 10000) → 0 ≤ i →
    ∃ p, Ev (fun k => spec_DrawPlaces.l0 k o j l i h) p ∧ p.length = 12 ∧ ∀ x ∈ p, 0 ≤ x ∧ x < 10000 := by
  induction d with
  | zero =>
    intro o j i h hj ho hb hi
    exact ⟨o, ev_ret (fun k => by rw [spec_DrawPlaces.l0, if_neg (by omega)]), by omega, hb⟩
  | succ d ih =>
    intro o j i h hj ho hb hi
    obtain ⟨x, i1, h1, e, x0, x1, hi1⟩ := below_is l hl i h 10000 hi
    have x1 := x1 (by omega)
    obtain ⟨p, e1, hp⟩ := ih (o ++ [x]) (j + 1) i1 h1 (by omega) (by simp [ho]) (fun y hy => by
      rcases List.mem_append.1 hy with hy | hy
      · exact hb y hy
      · simp at hy; omega) hi1
    refine ⟨p, Ev.step (fun k => ?_) e1, hp⟩
    rw [spec_DrawPlaces.l0, if_pos (by omega), e, Option.bind_some, if_pos (by omega), w64_id (x := (j : Int) + 1) (by omega) (by omega)]
    rfl
theorem places_is (l : List Int) (hl : l.length ≤ 9223372036854775807) : ∃ p, Ev (fun k => spec_DrawPlaces.f k l) p ∧ p.length = 12 ∧ ∀ x ∈ p, 0 ≤ x ∧ x < 10000 := by
  obtain ⟨h, e⟩ := new_is l
  obtain ⟨x, i1, h1, e1, _, _, hi1⟩ := byte_is l hl 0 h (by omega)
  obtain ⟨p, e2, hp⟩ := places_loop l hl 12 [] 0 i1 h1 (by omega) rfl (fun x hx => by simp at hx) hi1
  refine ⟨p, ev_use e (fun k hk => ?_) e2, hp⟩
  have hk' : spec_l01New.f k l = some (l, 0, h) := hk
  show spec_DrawPlaces.f k l = _
  unfold spec_DrawPlaces.f
  rw [hk', Option.bind_some, e1, Option.bind_some]
  rfl

theorem FnLengths : laws_FnLengths.Pure := by
  intro l hl _ hw
  have hl' : l.length ≤ 9223372036854775807 := by unfold maxLen at hl; omega
  obtain ⟨p, eD, hp, hb⟩ := places_is l hl'
  have b0 := hb _ (rd_mem p 0 (by omega))
  have b1 := hb _ (rd_mem p 1 (by omega))
  have b2 := hb _ (rd_mem p 2 (by omega))
  have i0 : ((0 : Nat) : Int) = 0 := rfl
  have i1 : ((1 : Nat) : Int) = 1 := rfl
  have i2 : ((2 : Nat) : Int) = 2 := rfl
  rw [i0] at b0
  rw [i1] at b1
  rw [i2] at b2
  generalize h0 : rd p 0 = q0 at b0
  generalize h1 : rd p 1 = q1 at b1
  generalize h2 : rd p 2 = q2 at b2
  have n0 : wrap64 (3 + Int.tmod q0 256) = 3 + q0 % 256 := by rw [tmod_nn _ b0.1, w64_id (by omega) (by omega)]
  have d0 : wrap64 (1 + Int.tmod (wrap64 (wrap64 (q1 * 10000) + q2)) 32768) = 1 + (q1 * 10000 + q2) % 32768 := by
    rw [w64_id (x := q1 * 10000) (by omega) (by omega), w64_id (x := q1 * 10000 + q2) (by omega) (by omega), tmod_nn _ (by omega), w64_id (by omega) (by omega)]
  generalize hn : 3 + q0 % 256 = n at n0
  generalize hd : 1 + (q1 * 10000 + q2) % 32768 = dd at d0
  have nb : 3 ≤ n ∧ n ≤ 258 := by omega
  have db : 1 ≤ dd ∧ dd ≤ 32768 := by omega
  obtain ⟨t, t0, t1, tm, ta, tl, te, tof⟩ := len_code n nb.1 nb.2
  obtain ⟨s, s0, s1, sm, sa, sl, se, sof⟩ := dist_code dd db.1 db.2
  obtain ⟨_, _, tsh, tb, _, _, _, _, _, _⟩ := len_row t t0 t1
  obtain ⟨_, _, ssh, sb, _, _, _, _, _, _⟩ := dist_row s s0 s1
  obtain ⟨u, eu⟩ := len_some (n + 1)
  obtain ⟨v, ev⟩ := dist_some (dd + 1)
  have nu : n = 258 ∨ u.1 = t ∨ u.1 = t + 1 := by
    by_cases c : n = 258
    · exact Or.inl c
    · right
      obtain ⟨t', _, t1', tm', ta', _, te', _⟩ := len_code (n + 1) (by omega) (by omega)
      obtain ⟨k, g1, g2⟩ := ev_two eu te'
      rw [g1] at g2
      obtain rfl := Option.some.inj g2
      have := len_next n nb.1 (by omega) t t' t0 t1 t1' tm ta tm' ta'
      dsimp only
      omega
  have nv : dd = 32768 ∨ v.1 = s ∨ v.1 = s + 1 := by
    by_cases c : dd = 32768
    · exact Or.inl c
    · right
      obtain ⟨s', _, s1', sm', sa', _, se', _⟩ := dist_code (dd + 1) (by omega) (by omega)
      obtain ⟨k, g1, g2⟩ := ev_two ev se'
      rw [g1] at g2
      obtain rfl := Option.some.inj g2
      have := dist_next dd db.1 (by omega) s s' s0 s1 s1' sm sa sm' sa'
      dsimp only
      omega
  obtain ⟨K1, eD⟩ := eD
  obtain ⟨K2, te⟩ := te
  obtain ⟨K3, se⟩ := se
  obtain ⟨K4, eu⟩ := eu
  obtain ⟨K5, ev⟩ := ev
  refine ⟨K1 + K2 + K3 + K4 + K5 + 1, ?_⟩
  generalize hk : K1 + K2 + K3 + K4 + K5 = K
  have wn : wrap64 (n + 1) = n + 1 := w64_id (by omega) (by omega)
  have wd : wrap64 (dd + 1) = dd + 1 := w64_id (by omega) (by omega)
  have wt : wrap64 ((t : Int) + 1) = t + 1 := w64_id (by omega) (by omega)
  have ws : wrap64 ((s : Int) + 1) = s + 1 := w64_id (by omega) (by omega)
  have fin : laws_FnLengths.j0 (K + 1) n dd t s false = some true := by
    rw [laws_FnLengths.j0, if_neg (by decide), wn, wd]
    simp only [eu K (by omega), ev K (by omega), Option.bind_some, wt, ws]
    by_cases c1 : n = 258
    · rw [if_pos c1]
      by_cases c2 : dd = 32768
      · rw [if_pos c2]
      · rw [if_neg c2]
        rcases nv with h | h | h
        · exact absurd h c2
        · rw [if_pos h]
        · rw [h, if_neg (by omega)]; simp
    · rw [if_neg c1]
      rcases nu with h' | h' | h'
      · exact absurd h' c1
      · rw [if_pos h']
        by_cases c2 : dd = 32768
        · rw [if_pos c2]
        · rw [if_neg c2]
          rcases nv with h | h | h
          · exact absurd h c2
          · rw [if_pos h]
          · rw [h, if_neg (by omega)]; simp
      · rw [h', if_neg (by omega), if_pos rfl]
        by_cases c2 : dd = 32768
        · rw [if_pos c2]
        · rw [if_neg c2]
          rcases nv with h | h | h
          · exact absurd h c2
          · rw [if_pos h]
          · rw [h, if_neg (by omega)]; simp
  have eD' : spec_DrawPlaces.f (K + 1) l = some p := eD (K + 1) (by omega)
  have te' : impl_LengthCode.f (K + 1) n = some ((t : Int), lenB t, n - lenM t) := te (K + 1) (by omega)
  have se' : impl_DistCode.f (K + 1) dd = some ((s : Int), distB s, dd - distM s) := se (K + 1) (by omega)
  unfold laws_FnLengths.f laws_big.f
  rw [Option.bind_some]
  by_cases big : decide ((l.length : Int) > 1048576) = true
  · rw [if_pos big]
  · rw [if_neg big, eD', Option.bind_some, if_pos (by omega), if_pos (by omega), if_pos (by omega), h0, h1, h2, n0, d0, te', Option.bind_some]
    dsimp only
    rw [tof, Option.bind_some, se', Option.bind_some]
    dsimp only
    rw [sof, Option.bind_some]
    dsimp only
    rw [if_pos rfl, if_pos rfl, if_pos rfl, if_pos rfl, if_neg (by omega), if_pos tb, tsh, if_neg (by omega), if_neg (by omega), if_pos sb, ssh, decide_eq_false (by omega)]
    exact fin

end Go.Proofs.Ytbkikljnbdfblaa.Pure
