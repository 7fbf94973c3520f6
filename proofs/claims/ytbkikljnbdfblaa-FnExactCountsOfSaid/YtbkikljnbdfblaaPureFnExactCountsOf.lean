/- The law FnExactCountsOf: for every input within the row's bounds the printed function answers true: what the program's function tells is what the law asks. Conditions: only the bounds that the row itself gives (sizes of strings and slices, ranges of the number kinds). -/
import Derived.Test.YtbkikljnbdfblaaPFnExactCountsOfx3
namespace Go.Proofs.Ytbkikljnbdfblaa.Pure
open Go.RowKit Go.Proofs.Ytbkikljnbdfblaa.PFnExactCountsOf Go.Proofs.YtbkikljnbdfblaaW.PrintWords Go.Proofs.YtbkikljnbdfblaaW.PrintLast Go.Proofs.YtbkikljnbdfblaaW.PrintMore
set_option linter.unusedVariables false
set_option linter.unusedSimpArgs false

theorem w64_id {x : Int} (h0 : -9223372036854775808 ≤ x) (h1 : x ≤ 9223372036854775807) : wrap64 x = x := by unfold wrap64; omega
theorem tmod_nn {a : Int} (b : Int) (h : 0 ≤ a) : Int.tmod a b = a % b := Int.tmod_eq_emod_of_nonneg h
theorem tdiv_nn {a : Int} (b : Int) (h : 0 ≤ a) : Int.tdiv a b = a / b := Int.tdiv_eq_ediv_of_nonneg h
theorem wf64 {n : Int} (h : (Lit.int .i64 n).wf = true) : -9223372036854775808 ≤ n ∧ n ≤ 9223372036854775807 := by
  simp [Lit.wf, IntKind.min, IntKind.max, IntKind.signed, IntKind.bits] at h
  omega
theorem wfu32 {n : Int} (h : (Lit.int .u32 n).wf = true) : 0 ≤ n ∧ n ≤ 4294967295 := by
  simp [Lit.wf, IntKind.min, IntKind.max, IntKind.signed, IntKind.bits] at h
  omega
theorem wraps64 (n : Int) (h0 : 0 ≤ n) (h1 : n < 2 ^ 63) : IntKind.i64.wrap n = n := by rw [IntKind.wrap_i64]; omega
theorem wrapsu32 (n : Int) (h0 : 0 ≤ n) (h1 : n < 2 ^ 32) : IntKind.u32.wrap n = n := by rw [IntKind.wrap_u32]; omega
/-- a | b of parts that do not meet, of an int. -/
theorem or64 (i : Nat) (x y : Int) (hx0 : 0 ≤ x) (hx : x % 2 ^ i = 0) (hx1 : x < 2 ^ 63) (hy0 : 0 ≤ y) (hy : y < 2 ^ i) (hy1 : y < 2 ^ 63) : Go.bits .or .i64 x y = x + y :=
  bits_join .i64 63 (by decide) wraps64 i x y hx0 hx hx1 hy0 hy hy1
theorem ev_ite_pos {α : Type} {c : Prop} [Decidable c] {f g : Nat → Option α} {r : α} (h : c) (k : Ev f r) : Ev (fun n => if c then f n else g n) r := Ev.congr (fun n => if_pos h) k
theorem ev_ite_neg {α : Type} {c : Prop} [Decidable c] {f g : Nat → Option α} {r : α} (h : ¬ c) (k : Ev g r) : Ev (fun n => if c then f n else g n) r := Ev.congr (fun n => if_neg h) k
/-- A callee without rounds that answers. -/
theorem ev_bind0 {α β : Type} {o : Option α} {f : Nat → α → Option β} {a : α} {r : β} (h : o = some a) (k : Ev (fun n => f n a) r) : Ev (fun n => o.bind (f n)) r := Ev.congr (fun n => by rw [h]; rfl) k
theorem bt_lo (s : ByteArray) (i : Int) : 0 ≤ bt s i := (bt_range s i).1
theorem bt_hi (s : ByteArray) (i : Int) : bt s i ≤ 255 := (bt_range s i).2
/-- A callee that answers from some number of rounds on, used. -/
theorem ev_use {α β : Type} {g : Nat → Option α} {a : α} {F G : Nat → Option β} {r : β} (e : Ev g a) (h : ∀ k, g k = some a → F k = G k) (c : Ev G r) : Ev F r := by
  obtain ⟨K, e⟩ := e
  obtain ⟨K', c⟩ := c
  exact ⟨max K K', fun n hn => (h n (e n (by omega))).trans (c n (by omega))⟩
theorem ev_use_step {α β : Type} {g : Nat → Option α} {a : α} {F G : Nat → Option β} {r : β} (e : Ev g a) (h : ∀ k, g k = some a → F (k + 1) = G k) (c : Ev G r) : Ev F r := by
  obtain ⟨K, e⟩ := e
  obtain ⟨K', c⟩ := c
  refine ⟨max K K' + 1, fun n hn => ?_⟩
  obtain ⟨m, rfl⟩ : ∃ m, n = m + 1 := ⟨n - 1, by omega⟩
  exact (h m (e m (by omega))).trans (c m (by omega))
theorem ev_end {α β : Type} {g : Nat → Option α} {a : α} {F : Nat → Option β} {r : β} (e : Ev g a) (h : ∀ k, g k = some a → F k = some r) : Ev F r := by
  obtain ⟨K, e⟩ := e
  exact ⟨K, fun n hn => h n (e n hn)⟩
theorem ev_two {α β : Type} {g : Nat → Option α} {h : Nat → Option β} {a : α} {b : β} (e : Ev g a) (f : Ev h b) : ∃ k, g k = some a ∧ h k = some b := by
  obtain ⟨K, e⟩ := e
  obtain ⟨K', f⟩ := f
  exact ⟨max K K', e _ (by omega), f _ (by omega)⟩
theorem ev_ret {α : Type} {F : Nat → Option α} {r : α} (h : ∀ k, F (k + 1) = some r) : Ev F r := ⟨1, fun n hn => by obtain ⟨m, rfl⟩ : ∃ m, n = m + 1 := ⟨n - 1, by omega⟩; exact h m⟩

theorem in_spec (a b c : Int) : spec_l01In.f a b c = some (decide (b ≤ a ∧ a ≤ c)) := by
  unfold spec_l01In.f
  split
  · rename_i h
    have e : (decide (a ≤ c)) = decide (b ≤ a ∧ a ≤ c) := decide_eq_decide.mpr ⟨fun h' => ⟨h, h'⟩, fun h' => h'.2⟩
    rw [e]
  · rename_i h
    have e : (decide (b ≤ a ∧ a ≤ c)) = false := decide_eq_false fun h' => h h'.1
    rw [e]

theorem in_impl (a b c : Int) : impl_within.f a b c = some (decide (b ≤ a ∧ a ≤ c)) := by
  unfold impl_within.f
  split
  · rename_i h
    have e : (decide (a ≤ c)) = decide (b ≤ a ∧ a ≤ c) := decide_eq_decide.mpr ⟨fun h' => ⟨h, h'⟩, fun h' => h'.2⟩
    rw [e]
  · rename_i h
    have e : (decide (b ≤ a ∧ a ≤ c)) = false := decide_eq_false fun h' => h h'.1
    rw [e]


theorem rd_nat (l : List Int) (j : Nat) : rd l j = l.getD j 0 := by unfold rd; simp
theorem rd_getElem (l : List Int) (j : Nat) (h : j < l.length) : rd l j = l[j] := by rw [rd_nat, List.getD_eq_getElem?_getD, List.getElem?_eq_getElem h]; rfl
theorem rd_mem (l : List Int) (j : Nat) (h : j < l.length) : rd l j ∈ l := by rw [rd_getElem l j h]; exact List.getElem_mem h
theorem drop_rd (l : List Int) (j : Nat) (h : j < l.length) : l.drop j = rd l j :: l.drop (j + 1) := by rw [rd_getElem l j h]; exact List.drop_eq_getElem_cons h
theorem rd_set (l : List Int) (a : Nat) (v : Int) (j : Nat) (h : a < l.length) : rd (l.set a v) j = if j = a then v else rd l j := by
  rw [rd_nat, rd_nat, List.getD_eq_getElem?_getD, List.getD_eq_getElem?_getD, List.getElem?_set]
  by_cases e : j = a
  · subst e
    simp [h]
  · rw [if_neg (Ne.symm e), if_neg e]
theorem take_set_snoc (l : List Int) (j : Nat) (v : Int) (h : j < l.length) : (l.set j v).take (j + 1) = l.take j ++ [v] := by
  rw [List.take_succ_eq_append_getElem (by simpa using h)]
  simp [List.take_set_of_le]

theorem toIntS_loop (l : List Int) (hl : l.length ≤ 1048576) (d : Nat) : ∀ (j : Nat) (o : List Int), j + d = l.length → o.length = l.length → o.take j = l.take j → Ev (fun k => laws_toIntS.l0 k l o j) l := by
  induction d with
  | zero =>
    intro j o h ho hp
    refine ev_ret (fun k => ?_)
    rw [laws_toIntS.l0, if_neg (by omega)]
    have e1 : o.take j = o := List.take_of_length_le (by omega)
    have e2 : l.take j = l := List.take_of_length_le (by omega)
    rw [e1, e2] at hp
    rw [hp]
  | succ d ih =>
    intro j o h ho hp
    refine Ev.step (fun k => ?_) (ih (j + 1) (o.set j (rd l j)) (by omega) (by simpa using ho) ?_)
    · rw [laws_toIntS.l0, if_pos (by omega), if_pos (by omega), if_pos (by omega), w64_id (x := (j : Int) + 1) (by omega) (by omega), Int.toNat_natCast]
      rfl
    · rw [take_set_snoc o j _ (by omega), hp, rd_getElem l j (by omega), ← List.take_succ_eq_append_getElem (by omega)]
theorem toIntS_is (l : List Int) (hl : l.length ≤ 1048576) : Ev (fun k => laws_toIntS.f k l) l := by
  refine Ev.congr (fun k => ?_) (toIntS_loop l hl l.length 0 (List.replicate l.length 0) (by omega) (by simp) (by simp))
  unfold laws_toIntS.f
  rw [if_pos (by omega), Int.toNat_natCast, if_pos (by omega)]
  rfl
theorem eqIntS_loop (l : List Int) (hl : l.length ≤ 4611686018427387904) (d : Nat) : ∀ j : Nat, j + d = l.length → Ev (fun k => laws_eqIntS.l0 k l l j) true := by
  induction d with
  | zero => exact fun j h => ev_ret (fun k => by rw [laws_eqIntS.l0, if_neg (by omega)])
  | succ d ih =>
    intro j h
    refine Ev.step (fun k => ?_) (ih (j + 1) (by omega))
    rw [laws_eqIntS.l0, if_pos (by omega), if_pos (by omega), if_pos (by omega), if_pos rfl, w64_id (x := (j : Int) + 1) (by omega) (by omega)]
    rfl
theorem eqIntS_is (l : List Int) (hl : l.length ≤ 4611686018427387904) : Ev (fun k => laws_eqIntS.f k l l) true :=
  Ev.congr (fun k => by unfold laws_eqIntS.f; rw [if_pos rfl]; rfl) (eqIntS_loop l hl l.length 0 (by omega))
/-- Marks from a on. -/
def marks : Nat → Int → List Int
  | 0, _ => []
  | n + 1, a => a :: marks n (a + 1)
theorem marks_len : ∀ (n : Nat) (a : Int), (marks n a).length = n
  | 0, _ => rfl
  | n + 1, a => by simp [marks, marks_len n]
theorem marks_snoc : ∀ (n : Nat) (a : Int), marks (n + 1) a = marks n a ++ [a + n]
  | 0, a => by simp [marks]
  | n + 1, a => by
    rw [marks, marks_snoc n (a + 1), marks]
    simp
    omega
theorem marks_at (n : Nat) (a : Int) (j : Nat) (h : j < n) : rd (marks n a) j = a + j := by
  induction n generalizing a j with
  | zero => omega
  | succ n ih =>
    cases j with
    | zero => simp [rd, marks]
    | succ j =>
      have := ih (a + 1) j (by omega)
      rw [rd_nat] at this ⊢
      simp only [marks, List.getD_cons_succ]
      rw [this]
      omega
theorem mark_loop (n : Nat) (hn : n ≤ 4611686018427387904) (a : Int) (a0 : 0 ≤ a) (a1 : a ≤ 1048576) (d : Nat) : ∀ (j : Nat) (o : List Int), j + d = n → o.length = n → o.take j = marks j a →
    Ev (fun k => laws_markIntS.l0 k o (a + j) j) (a + n, marks n a) := by
  induction d with
  | zero =>
    intro j o h ho hp
    refine ev_ret (fun k => ?_)
    rw [laws_markIntS.l0, if_neg (by omega)]
    obtain rfl : j = n := by omega
    rw [List.take_of_length_le (by omega)] at hp
    rw [hp]
  | succ d ih =>
    intro j o h ho hp
    refine Ev.step (fun k => ?_) (ih (j + 1) (o.set j (a + j)) (by omega) (by simpa using ho) ?_)
    · rw [laws_markIntS.l0, if_pos (by omega), if_pos (by omega), w64_id (x := a + j + 1) (by omega) (by omega), w64_id (x := (j : Int) + 1) (by omega) (by omega), Int.toNat_natCast, Int.add_assoc]
      rfl
    · rw [take_set_snoc o j _ (by omega), hp, marks_snoc]
theorem mark_is (l : List Int) (hl : l.length ≤ 4611686018427387904) : Ev (fun k => laws_markIntS.f k l 1) (1 + (l.length : Int), marks l.length 1) := by
  have h := mark_loop l.length hl 1 (by omega) (by omega) l.length 0 l (by omega) rfl (by simp [marks])
  rw [show (1 : Int) + ((0 : Nat) : Int) = 1 by omega] at h
  exact h
theorem held_loop (n : Nat) (hn : n ≤ 4611686018427387904) (a : Int) (a0 : 0 ≤ a) (a1 : a ≤ 1048576) (d : Nat) : ∀ (j : Nat), j + d = n →
    Ev (fun k => laws_heldIntS.l0 k (marks n a) (a + j) j) (a + n) := by
  induction d with
  | zero =>
    intro j h
    refine ev_ret (fun k => ?_)
    rw [laws_heldIntS.l0, if_neg (by rw [marks_len]; omega)]
    obtain rfl : j = n := by omega
    rfl
  | succ d ih =>
    intro j h
    refine Ev.step (fun k => ?_) (ih (j + 1) (by omega))
    rw [laws_heldIntS.l0, if_pos (by rw [marks_len]; omega), if_pos (by omega), marks_at n a j (by omega), if_pos rfl, w64_id (x := a + j + 1) (by omega) (by omega), w64_id (x := (j : Int) + 1) (by omega) (by omega), Int.add_assoc]
    rfl
theorem held_is (n : Nat) (hn : n ≤ 4611686018427387904) : Ev (fun k => laws_heldIntS.f k (marks n 1) 1) (1 + (n : Int)) := by
  have h := held_loop n hn 1 (by omega) (by omega) n 0 (by omega)
  rw [show (1 : Int) + ((0 : Nat) : Int) = 1 by omega] at h
  exact h

/-- The counts of a list, behind some; false where a number is out of range. -/
def cnts (n : Int) : List Int → List Int → List Int × Bool
  | [], c => (c, true)
  | x :: xs, c => if 0 ≤ x ∧ x ≤ n - 1 then cnts n xs (c.set x.toNat (rd c x + 1)) else ([], false)
theorem cnts_len (n : Int) : ∀ (l c : List Int), (cnts n l c).1.length ≤ c.length
  | [], c => Nat.le_refl _
  | x :: xs, c => by
    unfold cnts
    split
    · have := cnts_len n xs (c.set x.toNat (rd c x + 1))
      rwa [List.length_set] at this
    · simp
theorem counts_loops (l : List Int) (hl : l.length ≤ 12000) (n : Int) (h1 : 1 ≤ n) (hn : n ≤ 288) (d : Nat) : ∀ (j : Nat) (c : List Int), j + d = l.length → (c.length : Int) = n → (∀ i : Nat, 0 ≤ rd c i ∧ rd c i ≤ j) →
    Ev (fun k => spec_CountsOf.l0 k l n c j) (cnts n (l.drop j) c) ∧ Ev (fun k => impl_CountsOf.l0 k n c l (l.length : Int) j) (cnts n (l.drop j) c) := by
  induction d with
  | zero =>
    intro j c h hc hb
    have e : l.drop j = [] := List.drop_of_length_le (by omega)
    rw [e]
    exact ⟨ev_ret (fun k => by rw [spec_CountsOf.l0, if_neg (by omega)]; rfl), ev_ret (fun k => by rw [impl_CountsOf.l0, if_neg (by omega)]; rfl)⟩
  | succ d ih =>
    intro j c h hc hb
    have wn : wrap64 (n - 1) = n - 1 := w64_id (by omega) (by omega)
    rw [drop_rd l j (by omega), cnts]
    by_cases c0 : 0 ≤ rd l j ∧ rd l j ≤ n - 1
    · rw [if_pos c0]
      obtain ⟨x, hx⟩ := Int.eq_ofNat_of_zero_le c0.1
      have hbx := hb x
      have hx' : x < c.length := by omega
      obtain ⟨e1, e2⟩ := ih (j + 1) (c.set x (rd c x + 1)) (by omega) (by simpa using hc) (fun i => by
        rw [rd_set c x _ i hx']
        have := hb i
        split <;> omega)
      rw [hx, Int.toNat_natCast]
      constructor
      · refine Ev.step (fun k => ?_) e1
        rw [spec_CountsOf.l0, if_pos (by omega), if_pos (by omega), in_spec, wn, decide_eq_true c0, Option.bind_some, if_pos rfl, hx, if_pos (by omega), if_pos (by omega), Int.toNat_natCast, w64_id (x := rd c x + 1) (by omega) (by omega), w64_id (x := (j : Int) + 1) (by omega) (by omega)]
        rfl
      · refine Ev.step (fun k => ?_) e2
        rw [impl_CountsOf.l0, if_pos (by omega), if_pos (by omega), if_pos (by omega), in_impl, wn, decide_eq_true c0, Option.bind_some, if_pos rfl, hx, if_pos (by omega), if_pos (by omega), Int.toNat_natCast, w64_id (x := rd c x + 1) (by omega) (by omega), w64_id (x := (j : Int) + 1) (by omega) (by omega)]
        rfl
    · rw [if_neg c0]
      constructor
      · refine ev_ret (fun k => ?_)
        rw [spec_CountsOf.l0, if_pos (by omega), if_pos (by omega), in_spec, wn, decide_eq_false c0, Option.bind_some, if_neg (by decide)]
      · refine ev_ret (fun k => ?_)
        rw [impl_CountsOf.l0, if_pos (by omega), if_pos (by omega), if_pos (by omega), in_impl, wn, decide_eq_false c0, Option.bind_some, if_neg (by decide)]
/-- What CountsOf comes to, on both sides. -/
def countsOf (l : List Int) (n : Int) : List Int × Bool := if 1 ≤ n ∧ n ≤ 288 ∧ l.length ≤ 12000 then cnts n l (List.replicate n.toNat 0) else ([], false)
theorem countsOf_len (l : List Int) (n : Int) : (countsOf l n).1.length ≤ 288 := by
  unfold countsOf
  split
  · have := cnts_len n l (List.replicate n.toNat 0)
    simp at this
    omega
  · simp
theorem counts_both (l : List Int) (n : Int) : Ev (fun k => spec_CountsOf.f k l n) (countsOf l n) ∧ Ev (fun k => impl_CountsOf.f k l n) (countsOf l n) := by
  have s1 : Ev (fun k => spec_CountsOf.j0 k l n true) ([], false) := ev_ret (fun k => by rw [spec_CountsOf.j0, if_pos rfl])
  have i1 : Ev (fun k => impl_CountsOf.j0 k l n true) ([], false) := ev_ret (fun k => by rw [impl_CountsOf.j0, if_pos rfl])
  unfold countsOf
  by_cases h : 1 ≤ n ∧ n ≤ 288 ∧ l.length ≤ 12000
  · rw [if_pos h]
    obtain ⟨h0, h1, h2⟩ := h
    have hd : decide ((l.length : Int) > 12000) = false := decide_eq_false (by omega)
    have ht : decide (1 ≤ n ∧ n ≤ 288) = true := decide_eq_true ⟨h0, h1⟩
    obtain ⟨e1, e2⟩ := counts_loops l h2 n h0 h1 l.length 0 (List.replicate n.toNat 0) (by omega) (by simp; omega) (fun i => by
      rw [rd_nat, List.getD_eq_getElem?_getD, List.getElem?_replicate]
      split <;> simp)
    constructor
    · refine Ev.congr (fun k => ?_) (Ev.step (g := fun k => spec_CountsOf.j0 k l n false) (fun k => ?_) e1)
      · unfold spec_CountsOf.f
        rw [in_spec, ht, hd, Option.bind_some, if_pos rfl]
      · rw [spec_CountsOf.j0, if_neg (by decide), if_pos (by omega), if_pos (by omega)]
        rfl
    · refine Ev.congr (fun k => ?_) (Ev.step (g := fun k => impl_CountsOf.j0 k l n false) (fun k => ?_) e2)
      · unfold impl_CountsOf.f
        rw [in_impl, ht, hd, Option.bind_some, if_pos rfl]
      · rw [impl_CountsOf.j0, if_neg (by decide), if_pos (by omega), if_pos (by omega)]
        rfl
  · rw [if_neg h]
    constructor
    · refine Ev.congr (fun k => ?_) s1
      unfold spec_CountsOf.f
      rw [in_spec, Option.bind_some]
      split
      · rename_i h1
        have h2 := of_decide_eq_true h1
        rw [decide_eq_true (by omega)]
      · rfl
    · refine Ev.congr (fun k => ?_) i1
      unfold impl_CountsOf.f
      rw [in_impl, Option.bind_some]
      split
      · rename_i h1
        have h2 := of_decide_eq_true h1
        rw [decide_eq_true (by omega)]
      · rfl

theorem FnExactCountsOf : laws_FnExactCountsOf.Pure := by
  intro l n h1 h2 hw hn
  by_cases hb : (l.length : Int) > 1048576
  · exact ⟨0, by unfold laws_FnExactCountsOf.f; rw [if_pos hb]⟩
  · obtain ⟨KT, T⟩ := toIntS_is l (by omega)
    obtain ⟨eS, eI⟩ := counts_both l n
    have hc := countsOf_len l n
    generalize countsOf l n = r at eS eI hc
    obtain ⟨c, b⟩ := r
    dsimp only at hc
    obtain ⟨KS, S⟩ := eS
    obtain ⟨KI, I⟩ := eI
    obtain ⟨KL, EL⟩ := eqIntS_is l (by omega)
    obtain ⟨KC, EC⟩ := eqIntS_is c (by omega)
    obtain ⟨KM, M⟩ := mark_is l (by omega)
    obtain ⟨KN, N⟩ := mark_is c (by omega)
    obtain ⟨KH, HH⟩ := held_is c.length (by omega)
    refine ⟨KT + KS + KI + KL + KC + KM + KN + KH + 3, ?_⟩
    generalize hk : KT + KS + KI + KL + KC + KM + KN + KH = K
    have bb : (b != b) = false := by simp
    unfold laws_FnExactCountsOf.f
    rw [if_neg hb]
    simp only [T _ (show KT ≤ K + 3 by omega), S _ (show KS ≤ K + 3 by omega), I _ (show KI ≤ K + 3 by omega), EC _ (show KC ≤ K + 3 by omega), Option.bind_some, if_true, bb]
    rw [laws_FnExactCountsOf.j0, if_neg (by decide)]
    simp only [T _ (show KT ≤ K + 2 by omega), EL _ (show KL ≤ K + 2 by omega), M _ (show KM ≤ K + 2 by omega), EC _ (show KC ≤ K + 2 by omega), Option.bind_some, if_true, bb]
    rw [if_neg (by omega), laws_FnExactCountsOf.j1, if_neg (by decide)]
    simp only [N _ (show KN ≤ K + 1 by omega), HH _ (show KH ≤ K + 1 by omega), T _ (show KT ≤ K + 1 by omega), I _ (show KI ≤ K + 1 by omega), EC _ (show KC ≤ K + 1 by omega), Option.bind_some, if_true, bb]
    rw [if_neg (by omega), laws_FnExactCountsOf.j2, if_neg (by decide)]
    simp only [HH _ (show KH ≤ K by omega), Option.bind_some]
    rw [if_neg (by omega)]
    all_goals simp

end Go.Proofs.Ytbkikljnbdfblaa.Pure
