/- The law FnCounts: for every input within the row's bounds the printed function answers true: what the program's function tells is what the law asks. Conditions: only the bounds that the row itself gives (sizes of strings and slices, ranges of the number kinds). -/
import Derived.Test.YtbkikljnbdfblaaPFnCountsx2
namespace Go.Proofs.Ytbkikljnbdfblaa.Pure
open Go.RowKit Go.Proofs.Ytbkikljnbdfblaa.PFnCounts Go.Proofs.YtbkikljnbdfblaaW.PrintWords Go.Proofs.YtbkikljnbdfblaaW.PrintLast Go.Proofs.YtbkikljnbdfblaaW.PrintMore
set_option linter.unusedVariables false
set_option linter.unusedSimpArgs false

theorem w64_id {x : Int} (h0 : -9223372036854775808 ≤ x) (h1 : x ≤ 9223372036854775807) : wrap64 x = x := by unfold wrap64; omega
theorem tmod_nn {a : Int} (b : Int) (h : 0 ≤ a) : Int.tmod a b = a % b := Int.tmod_eq_emod_of_nonneg h
theorem tdiv_nn {a : Int} (b : Int) (h : 0 ≤ a) : Int.tdiv a b = a / b := Int.tdiv_eq_ediv_of_nonneg h
theorem wf64 {n : Int} (h : (Lit.int .i64 n).wf = true) : -9223372036854775808 ≤ n ∧ n ≤ 9223372036854775807 := by
  simp [Lit.wf, IntKind.min, IntKind.max, IntKind.signed, IntKind.bits] at h
  omega
theorem wfu32 {n : Int} (h : (Lit.int .u32 n).wf = true) : 0 ≤ n ∧ n ≤ 4294967295 := by
  simp [Lit.wf, IntKind.min, IntKind.max, IntKind.signed, IntKind.bits] at h
  omega
theorem wraps64 (n : Int) (h0 : 0 ≤ n) (h1 : n < 2 ^ 63) : IntKind.i64.wrap n = n := by rw [IntKind.wrap_i64]; omega
theorem wrapsu32 (n : Int) (h0 : 0 ≤ n) (h1 : n < 2 ^ 32) : IntKind.u32.wrap n = n := by rw [IntKind.wrap_u32]; omega
/-- a | b of parts that do not meet, of an int. -/
theorem or64 (i : Nat) (x y : Int) (hx0 : 0 ≤ x) (hx : x % 2 ^ i = 0) (hx1 : x < 2 ^ 63) (hy0 : 0 ≤ y) (hy : y < 2 ^ i) (hy1 : y < 2 ^ 63) : Go.bits .or .i64 x y = x + y :=
  bits_join .i64 63 (by decide) wraps64 i x y hx0 hx hx1 hy0 hy hy1
theorem ev_ite_pos {α : Type} {c : Prop} [Decidable c] {f g : Nat → Option α} {r : α} (h : c) (k : Ev f r) : Ev (fun n => if c then f n else g n) r := Ev.congr (fun n => if_pos h) k
theorem ev_ite_neg {α : Type} {c : Prop} [Decidable c] {f g : Nat → Option α} {r : α} (h : ¬ c) (k : Ev g r) : Ev (fun n => if c then f n else g n) r := Ev.congr (fun n => if_neg h) k
/-- A callee without rounds that answers. -/
theorem ev_bind0 {α β : Type} {o : Option α} {f : Nat → α → Option β} {a : α} {r : β} (h : o = some a) (k : Ev (fun n => f n a) r) : Ev (fun n => o.bind (f n)) r := Ev.congr (fun n => by rw [h]; rfl) k
theorem bt_lo (s : ByteArray) (i : Int) : 0 ≤ bt s i := (bt_range s i).1
theorem bt_hi (s : ByteArray) (i : Int) : bt s i ≤ 255 := (bt_range s i).2
/-- A callee that answers from some number of rounds on, used. -/
theorem ev_use {α β : Type} {g : Nat → Option α} {a : α} {F G : Nat → Option β} {r : β} (e : Ev g a) (h : ∀ k, g k = some a → F k = G k) (c : Ev G r) : Ev F r := by
  obtain ⟨K, e⟩ := e
  obtain ⟨K', c⟩ := c
  exact ⟨max K K', fun n hn => (h n (e n (by omega))).trans (c n (by omega))⟩
theorem ev_use_step {α β : Type} {g : Nat → Option α} {a : α} {F G : Nat → Option β} {r : β} (e : Ev g a) (h : ∀ k, g k = some a → F (k + 1) = G k) (c : Ev G r) : Ev F r := by
  obtain ⟨K, e⟩ := e
  obtain ⟨K', c⟩ := c
  refine ⟨max K K' + 1, fun n hn => ?_⟩
  obtain ⟨m, rfl⟩ : ∃ m, n = m + 1 := ⟨n - 1, by omega⟩
  exact (h m (e m (by omega))).trans (c m (by omega))
theorem ev_end {α β : Type} {g : Nat → Option α} {a : α} {F : Nat → Option β} {r : β} (e : Ev g a) (h : ∀ k, g k = some a → F k = some r) : Ev F r := by
  obtain ⟨K, e⟩ := e
  exact ⟨K, fun n hn => h n (e n hn)⟩
theorem ev_two {α β : Type} {g : Nat → Option α} {h : Nat → Option β} {a : α} {b : β} (e : Ev g a) (f : Ev h b) : ∃ k, g k = some a ∧ h k = some b := by
  obtain ⟨K, e⟩ := e
  obtain ⟨K', f⟩ := f
  exact ⟨max K K', e _ (by omega), f _ (by omega)⟩
theorem ev_ret {α : Type} {F : Nat → Option α} {r : α} (h : ∀ k, F (k + 1) = some r) : Ev F r := ⟨1, fun n hn => by obtain ⟨m, rfl⟩ : ∃ m, n = m + 1 := ⟨n - 1, by omega⟩; exact h m⟩

theorem in_spec (a b c : Int) : spec_l01In.f a b c = some (decide (b ≤ a ∧ a ≤ c)) := by
  unfold spec_l01In.f
  split
  · rename_i h
    have e : (decide (a ≤ c)) = decide (b ≤ a ∧ a ≤ c) := decide_eq_decide.mpr ⟨fun h' => ⟨h, h'⟩, fun h' => h'.2⟩
    rw [e]
  · rename_i h
    have e : (decide (b ≤ a ∧ a ≤ c)) = false := decide_eq_false fun h' => h h'.1
    rw [e]

theorem in_impl (a b c : Int) : impl_within.f a b c = some (decide (b ≤ a ∧ a ≤ c)) := by
  unfold impl_within.f
  split
  · rename_i h
    have e : (decide (a ≤ c)) = decide (b ≤ a ∧ a ≤ c) := decide_eq_decide.mpr ⟨fun h' => ⟨h, h'⟩, fun h' => h'.2⟩
    rw [e]
  · rename_i h
    have e : (decide (b ≤ a ∧ a ≤ c)) = false := decide_eq_false fun h' => h h'.1
    rw [e]


theorem rd_nat (l : List Int) (j : Nat) : rd l j = l.getD j 0 := by unfold rd; simp
theorem rd_getElem (l : List Int) (j : Nat) (h : j < l.length) : rd l j = l[j] := by rw [rd_nat, List.getD_eq_getElem?_getD, List.getElem?_eq_getElem h]; rfl
theorem rd_mem (l : List Int) (j : Nat) (h : j < l.length) : rd l j ∈ l := by rw [rd_getElem l j h]; exact List.getElem_mem h
theorem drop_rd (l : List Int) (j : Nat) (h : j < l.length) : l.drop j = rd l j :: l.drop (j + 1) := by rw [rd_getElem l j h]; exact List.drop_eq_getElem_cons h
theorem rd_set (l : List Int) (a : Nat) (v : Int) (j : Nat) (h : a < l.length) : rd (l.set a v) j = if j = a then v else rd l j := by
  rw [rd_nat, rd_nat, List.getD_eq_getElem?_getD, List.getD_eq_getElem?_getD, List.getElem?_set]
  by_cases e : j = a
  · subst e
    simp [h]
  · rw [if_neg (Ne.symm e), if_neg e]
theorem take_set_snoc (l : List Int) (j : Nat) (v : Int) (h : j < l.length) : (l.set j v).take (j + 1) = l.take j ++ [v] := by
  rw [List.take_succ_eq_append_getElem (by simpa using h)]
  simp [List.take_set_of_le]

/-- x & 255 is a byte, whatever x is. -/
theorem and255 (x : Int) : 0 ≤ Go.bits .and .i64 x 255 ∧ Go.bits .and .i64 x 255 ≤ 255 := by
  have h : (BitVec.ofInt 64 x &&& BitVec.ofInt 64 255).toNat ≤ 255 := by
    rw [BitVec.toNat_and]
    exact Nat.le_trans Nat.and_le_right (by decide)
  have e : Go.bits .and .i64 x 255 = IntKind.i64.wrap ((BitVec.ofInt 64 x &&& BitVec.ofInt 64 255).toNat : Int) := rfl
  rw [e, wraps64 _ (by omega) (by omega)]
  omega
theorem new_ends (l : List Int) (d : Nat) : ∀ (h : Int) (i : Nat), i + d = 4000 → ∃ h', Ev (fun k => spec_l01New.l0 k l h i) (l, 0, h') := by
  induction d with
  | zero =>
    intro h i hi
    exact ⟨h, ev_ret (fun k => by
      rw [spec_l01New.l0]
      split
      · rw [if_neg (by omega)]
      · rfl)⟩
  | succ d ih =>
    intro h i hi
    by_cases c : (i : Int) < (l.length : Int)
    · obtain ⟨h', e⟩ := ih (Go.bits .and .i64 (wrap64 ((wrap64 ((wrap64 (h * 131)) + (wrap64 (rd l i)))) + 7)) 1073741823) (i + 1) (by omega)
      exact ⟨h', Ev.step (fun k => by rw [spec_l01New.l0, if_pos c, if_pos (by omega), if_pos (by omega), w64_id (x := (i : Int) + 1) (by omega) (by omega)]; rfl) e⟩
    · exact ⟨h, ev_ret (fun k => by rw [spec_l01New.l0, if_neg c])⟩
theorem new_is (l : List Int) : ∃ h, Ev (fun k => spec_l01New.f k l) (l, 0, h) := new_ends l 4000 _ 0 (by omega)
theorem byte_is (l : List Int) (hl : l.length ≤ 9223372036854775807) (i h : Int) (hi : 0 ≤ i) : ∃ x i' h', spec_l01Byte.f l i h = some (x, i', h') ∧ 0 ≤ x ∧ x ≤ 255 ∧ 0 ≤ i' := by
  unfold spec_l01Byte.f
  by_cases c : i < (l.length : Int)
  · rw [if_pos c, if_pos hi]
    have := and255 (wrap64 ((Go.bits .and .i64 (Go.bits .xor .i64 ((wrap64 ((wrap64 (h * 6364136223846793005)) + 1442695040888963407)) / 8589934592) ((wrap64 ((wrap64 (h * 6364136223846793005)) + 1442695040888963407)) / 35184372088832)) 255) + (wrap64 (rd l i))))
    exact ⟨_, _, _, rfl, this.1, this.2, by rw [w64_id (by omega) (by omega)]; omega⟩
  · rw [if_neg c]
    have := and255 (Go.bits .xor .i64 ((wrap64 ((wrap64 (h * 6364136223846793005)) + 1442695040888963407)) / 8589934592) ((wrap64 ((wrap64 (h * 6364136223846793005)) + 1442695040888963407)) / 35184372088832))
    exact ⟨_, _, _, rfl, this.1, this.2, hi⟩
theorem below_is (l : List Int) (hl : l.length ≤ 9223372036854775807) (i h n : Int) (hi : 0 ≤ i) : ∃ x i' h', spec_l01Below.f l i h n = some (x, i', h') ∧ 0 ≤ x ∧ (0 < n → x < n) ∧ 0 ≤ i' := by
  unfold spec_l01Below.f
  by_cases c0 : n ≤ 0
  · rw [if_pos c0]
    exact ⟨_, _, _, rfl, by omega, by omega, hi⟩
  · rw [if_neg c0]
    by_cases c1 : n ≤ 256
    · rw [if_pos c1]
      obtain ⟨x, i1, h1, e, x0, x1, hi1⟩ := byte_is l hl i h hi
      rw [e, Option.bind_some, if_neg (by omega)]
      refine ⟨_, _, _, rfl, ?_, fun _ => ?_, hi1⟩
      · rw [tmod_nn _ x0]; exact Int.emod_nonneg _ (by omega)
      · rw [tmod_nn _ x0]; exact Int.emod_lt_of_pos _ (by omega)
    · rw [if_neg c1]
      obtain ⟨x, i1, h1, e1, x0, x1, hi1⟩ := byte_is l hl i h hi
      obtain ⟨y, i2, h2, e2, y0, y1, hi2⟩ := byte_is l hl i1 h1 hi1
      obtain ⟨z, i3, h3, e3, z0, z1, hi3⟩ := byte_is l hl i2 h2 hi2
      obtain ⟨w, i4, h4, e4, w0, w1, hi4⟩ := byte_is l hl i3 h3 hi3
      simp only [e1, e2, e3, e4, Option.bind_some]
      rw [if_neg (by omega)]
      rw [w64_id (x := x * 16777216) (by omega) (by omega), w64_id (x := y * 65536) (by omega) (by omega), w64_id (x := z * 256) (by omega) (by omega), w64_id (x := x * 16777216 + y * 65536) (by omega) (by omega), w64_id (x := x * 16777216 + y * 65536 + z * 256) (by omega) (by omega), w64_id (x := x * 16777216 + y * 65536 + z * 256 + w) (by omega) (by omega)]
      refine ⟨_, _, _, rfl, ?_, fun _ => ?_, hi4⟩
      · rw [tmod_nn _ (by omega)]; exact Int.emod_nonneg _ (by omega)
      · rw [tmod_nn _ (by omega)]; exact Int.emod_lt_of_pos _ (by omega)

theorem pick_is (l : List Int) (hl : l.length ≤ 9223372036854775807) (i h : Int) (p : List Int) (hp : 0 < p.length) (hi : 0 ≤ i) : ∃ x i' h', spec_l01PickInt.f l i h p = some (x, i', h') ∧ x ∈ p ∧ 0 ≤ i' := by
  unfold spec_l01PickInt.f
  obtain ⟨x, i1, h1, e, x0, x1, hi1⟩ := below_is l hl i h p.length hi
  have x1 := x1 (by omega)
  rw [e]
  simp only [Option.bind_some]
  rw [if_pos x0, if_pos x1]
  obtain ⟨j, rfl⟩ := Int.eq_ofNat_of_zero_le x0
  exact ⟨_, _, _, rfl, rd_mem p j (by omega), hi1⟩

/-- The counts of a list, behind some; false where a number is out of range. -/
def cnts (n : Int) : List Int → List Int → List Int × Bool
  | [], c => (c, true)
  | x :: xs, c => if 0 ≤ x ∧ x ≤ n - 1 then cnts n xs (c.set x.toNat (rd c x + 1)) else ([], false)
theorem cnts_len (n : Int) : ∀ (l c : List Int), (cnts n l c).1.length ≤ c.length
  | [], c => Nat.le_refl _
  | x :: xs, c => by
    unfold cnts
    split
    · have := cnts_len n xs (c.set x.toNat (rd c x + 1))
      rwa [List.length_set] at this
    · simp
theorem counts_loops (l : List Int) (hl : l.length ≤ 12000) (n : Int) (h1 : 1 ≤ n) (hn : n ≤ 288) (d : Nat) : ∀ (j : Nat) (c : List Int), j + d = l.length → (c.length : Int) = n → (∀ i : Nat, 0 ≤ rd c i ∧ rd c i ≤ j) →
    Ev (fun k => spec_CountsOf.l0 k l n c j) (cnts n (l.drop j) c) ∧ Ev (fun k => impl_CountsOf.l0 k n c l (l.length : Int) j) (cnts n (l.drop j) c) := by
  induction d with
  | zero =>
    intro j c h hc hb
    have e : l.drop j = [] := List.drop_of_length_le (by omega)
    rw [e]
    exact ⟨ev_ret (fun k => by rw [spec_CountsOf.l0, if_neg (by omega)]; rfl), ev_ret (fun k => by rw [impl_CountsOf.l0, if_neg (by omega)]; rfl)⟩
  | succ d ih =>
    intro j c h hc hb
    have wn : wrap64 (n - 1) = n - 1 := w64_id (by omega) (by omega)
    rw [drop_rd l j (by omega), cnts]
    by_cases c0 : 0 ≤ rd l j ∧ rd l j ≤ n - 1
    · rw [if_pos c0]
      obtain ⟨x, hx⟩ := Int.eq_ofNat_of_zero_le c0.1
      have hbx := hb x
      have hx' : x < c.length := by omega
      obtain ⟨e1, e2⟩ := ih (j + 1) (c.set x (rd c x + 1)) (by omega) (by simpa using hc) (fun i => by
        rw [rd_set c x _ i hx']
        have := hb i
        split <;> omega)
      rw [hx, Int.toNat_natCast]
      constructor
      · refine Ev.step (fun k => ?_) e1
        rw [spec_CountsOf.l0, if_pos (by omega), if_pos (by omega), in_spec, wn, decide_eq_true c0, Option.bind_some, if_pos rfl, hx, if_pos (by omega), if_pos (by omega), Int.toNat_natCast, w64_id (x := rd c x + 1) (by omega) (by omega), w64_id (x := (j : Int) + 1) (by omega) (by omega)]
        rfl
      · refine Ev.step (fun k => ?_) e2
        rw [impl_CountsOf.l0, if_pos (by omega), if_pos (by omega), if_pos (by omega), in_impl, wn, decide_eq_true c0, Option.bind_some, if_pos rfl, hx, if_pos (by omega), if_pos (by omega), Int.toNat_natCast, w64_id (x := rd c x + 1) (by omega) (by omega), w64_id (x := (j : Int) + 1) (by omega) (by omega)]
        rfl
    · rw [if_neg c0]
      constructor
      · refine ev_ret (fun k => ?_)
        rw [spec_CountsOf.l0, if_pos (by omega), if_pos (by omega), in_spec, wn, decide_eq_false c0, Option.bind_some, if_neg (by decide)]
      · refine ev_ret (fun k => ?_)
        rw [impl_CountsOf.l0, if_pos (by omega), if_pos (by omega), if_pos (by omega), in_impl, wn, decide_eq_false c0, Option.bind_some, if_neg (by decide)]
/-- What CountsOf comes to, on both sides. -/
def countsOf (l : List Int) (n : Int) : List Int × Bool := if 1 ≤ n ∧ n ≤ 288 ∧ l.length ≤ 12000 then cnts n l (List.replicate n.toNat 0) else ([], false)
theorem countsOf_len (l : List Int) (n : Int) : (countsOf l n).1.length ≤ 288 := by
  unfold countsOf
  split
  · have := cnts_len n l (List.replicate n.toNat 0)
    simp at this
    omega
  · simp
theorem counts_both (l : List Int) (n : Int) : Ev (fun k => spec_CountsOf.f k l n) (countsOf l n) ∧ Ev (fun k => impl_CountsOf.f k l n) (countsOf l n) := by
  have s1 : Ev (fun k => spec_CountsOf.j0 k l n true) ([], false) := ev_ret (fun k => by rw [spec_CountsOf.j0, if_pos rfl])
  have i1 : Ev (fun k => impl_CountsOf.j0 k l n true) ([], false) := ev_ret (fun k => by rw [impl_CountsOf.j0, if_pos rfl])
  unfold countsOf
  by_cases h : 1 ≤ n ∧ n ≤ 288 ∧ l.length ≤ 12000
  · rw [if_pos h]
    obtain ⟨h0, h1, h2⟩ := h
    have hd : decide ((l.length : Int) > 12000) = false := decide_eq_false (by omega)
    have ht : decide (1 ≤ n ∧ n ≤ 288) = true := decide_eq_true ⟨h0, h1⟩
    obtain ⟨e1, e2⟩ := counts_loops l h2 n h0 h1 l.length 0 (List.replicate n.toNat 0) (by omega) (by simp; omega) (fun i => by
      rw [rd_nat, List.getD_eq_getElem?_getD, List.getElem?_replicate]
      split <;> simp)
    constructor
    · refine Ev.congr (fun k => ?_) (Ev.step (g := fun k => spec_CountsOf.j0 k l n false) (fun k => ?_) e1)
      · unfold spec_CountsOf.f
        rw [in_spec, ht, hd, Option.bind_some, if_pos rfl]
      · rw [spec_CountsOf.j0, if_neg (by decide), if_pos (by omega), if_pos (by omega)]
        rfl
    · refine Ev.congr (fun k => ?_) (Ev.step (g := fun k => impl_CountsOf.j0 k l n false) (fun k => ?_) e2)
      · unfold impl_CountsOf.f
        rw [in_impl, ht, hd, Option.bind_some, if_pos rfl]
      · rw [impl_CountsOf.j0, if_neg (by decide), if_pos (by omega), if_pos (by omega)]
        rfl
  · rw [if_neg h]
    constructor
    · refine Ev.congr (fun k => ?_) s1
      unfold spec_CountsOf.f
      rw [in_spec, Option.bind_some]
      split
      · rename_i h1
        have h2 := of_decide_eq_true h1
        rw [decide_eq_true (by omega)]
      · rfl
    · refine Ev.congr (fun k => ?_) i1
      unfold impl_CountsOf.f
      rw [in_impl, Option.bind_some]
      split
      · rename_i h1
        have h2 := of_decide_eq_true h1
        rw [decide_eq_true (by omega)]
      · rfl

theorem draw_loop (l : List Int) (hl : l.length ≤ 9223372036854775807) (n : Int) (d : Nat) : ∀ (o : List Int) (j : Nat) (i h : Int), j + d = 30 → o.length = j → 0 ≤ i →
    ∃ p, Ev (fun k => spec_DrawCountsOf.l0 k n o j l i h) p ∧ p.1.length ≤ 31 := by
  induction d with
  | zero =>
    intro o j i h hj ho hi
    obtain ⟨x, i1, h1, e, x0, x1, hi1⟩ := below_is l hl i h 30 hi
    have x1 := x1 (by omega)
    obtain ⟨y, i2, h2, e2, y0, y1, hi2⟩ := below_is l hl i1 h1 20 hi1
    obtain ⟨u, i3, h3, e3, _, hi3⟩ := pick_is l hl i2 h2 [(-1), n] (by simp) hi2
    obtain ⟨v, i4, h4, e4, _, hi4⟩ := pick_is l hl i2 h2 [0, (-1), 288, 289] (by simp) hi2
    by_cases c : y = 0
    · exact ⟨(o ++ [u], n), ev_ret (fun k => by rw [spec_DrawCountsOf.l0, e, Option.bind_some, if_neg (by omega), e2, Option.bind_some, if_pos c, e3, Option.bind_some, if_pos (by omega)]), by simp; omega⟩
    · by_cases c1 : y = 1
      · exact ⟨(o, v), ev_ret (fun k => by rw [spec_DrawCountsOf.l0, e, Option.bind_some, if_neg (by omega), e2, Option.bind_some, if_neg c, if_pos c1, e4, Option.bind_some]), by simp; omega⟩
      · exact ⟨(o, n), ev_ret (fun k => by rw [spec_DrawCountsOf.l0, e, Option.bind_some, if_neg (by omega), e2, Option.bind_some, if_neg c, if_neg c1]), by simp; omega⟩
  | succ d ih =>
    intro o j i h hj ho hi
    obtain ⟨x, i1, h1, e, x0, x1, hi1⟩ := below_is l hl i h 30 hi
    by_cases cx : (j : Int) < x
    · obtain ⟨w, i5, h5, e5, _, _, hi5⟩ := below_is l hl i1 h1 n hi1
      obtain ⟨p, e1, hp⟩ := ih (o ++ [w]) (j + 1) i5 h5 (by omega) (by simp [ho]) hi5
      refine ⟨p, Ev.step (fun k => ?_) e1, hp⟩
      rw [spec_DrawCountsOf.l0, e, Option.bind_some, if_pos cx, e5, Option.bind_some, if_pos (by omega), w64_id (x := (j : Int) + 1) (by omega) (by omega)]
      rfl
    · obtain ⟨y, i2, h2, e2, y0, y1, hi2⟩ := below_is l hl i1 h1 20 hi1
      obtain ⟨u, i3, h3, e3, _, hi3⟩ := pick_is l hl i2 h2 [(-1), n] (by simp) hi2
      obtain ⟨v, i4, h4, e4, _, hi4⟩ := pick_is l hl i2 h2 [0, (-1), 288, 289] (by simp) hi2
      by_cases c : y = 0
      · exact ⟨(o ++ [u], n), ev_ret (fun k => by rw [spec_DrawCountsOf.l0, e, Option.bind_some, if_neg cx, e2, Option.bind_some, if_pos c, e3, Option.bind_some, if_pos (by omega)]), by simp; omega⟩
      · by_cases c1 : y = 1
        · exact ⟨(o, v), ev_ret (fun k => by rw [spec_DrawCountsOf.l0, e, Option.bind_some, if_neg cx, e2, Option.bind_some, if_neg c, if_pos c1, e4, Option.bind_some]), by simp; omega⟩
        · exact ⟨(o, n), ev_ret (fun k => by rw [spec_DrawCountsOf.l0, e, Option.bind_some, if_neg cx, e2, Option.bind_some, if_neg c, if_neg c1]), by simp; omega⟩
theorem draw_is (l : List Int) (hl : l.length ≤ 9223372036854775807) : ∃ p, Ev (fun k => spec_DrawCountsOf.f k l) p ∧ p.1.length ≤ 31 := by
  obtain ⟨h, e⟩ := new_is l
  obtain ⟨x, i1, h1, e1, _, _, hi1⟩ := below_is l hl 0 h 12 (by omega)
  obtain ⟨p, e2, hp⟩ := draw_loop l hl (wrap64 (1 + x)) 30 [] 0 i1 h1 (by omega) rfl hi1
  refine ⟨p, ev_use e (fun k hk => ?_) e2, hp⟩
  have hk' : spec_l01New.f k l = some (l, 0, h) := hk
  show spec_DrawCountsOf.f k l = _
  unfold spec_DrawCountsOf.f
  rw [hk', Option.bind_some, e1, Option.bind_some]
  rfl
/-- How often a number is in a list. -/
def occ (i : Int) : List Int → Int
  | [] => 0
  | x :: xs => (if x = i then 1 else 0) + occ i xs
theorem occ_bound (i : Int) : ∀ l : List Int, 0 ≤ occ i l ∧ occ i l ≤ l.length
  | [] => by simp [occ]
  | x :: xs => by
    have := occ_bound i xs
    simp only [occ, List.length_cons]
    split <;> omega
/-- What the counts of a right list are. -/
theorem cnts_tell (n : Int) : ∀ (l c c' : List Int), (c.length : Int) = n → cnts n l c = (c', true) → c'.length = c.length ∧ (∀ i : Nat, i < c.length → rd c' i = rd c i + occ i l) ∧ ∀ x ∈ l, 0 ≤ x ∧ x < n
  | [], c, c', hc, h => by
    simp only [cnts, Prod.mk.injEq] at h
    obtain ⟨rfl, _⟩ := h
    exact ⟨rfl, fun i hi => by simp [occ], fun x hx => by simp at hx⟩
  | x :: xs, c, c', hc, h => by
    unfold cnts at h
    split at h
    · rename_i c0
      obtain ⟨y, hy⟩ := Int.eq_ofNat_of_zero_le c0.1
      subst hy
      rw [Int.toNat_natCast] at h
      obtain ⟨h1, h2, h3⟩ := cnts_tell n xs _ c' (by simpa using hc) h
      refine ⟨by simpa using h1, fun i hi => ?_, fun z hz => ?_⟩
      · rw [h2 i (by simpa using hi), rd_set c y _ i (by omega)]
        simp only [occ]
        by_cases e : i = y
        · subst e; simp; omega
        · rw [if_neg e, if_neg (by omega)]; omega
      · rcases List.mem_cons.1 hz with rfl | hz
        · omega
        · exact h3 z hz
    · simp at h
/-- The sum of the occurrences of 0 .. n-1. -/
def total (l : List Int) : Nat → Int
  | 0 => 0
  | n + 1 => total l n + occ n l
theorem total_nil : ∀ n, total [] n = 0
  | 0 => rfl
  | n + 1 => by simp [total, total_nil n, occ]
theorem total_cons (x : Int) (xs : List Int) : ∀ n : Nat, total (x :: xs) n = total xs n + if 0 ≤ x ∧ x < n then 1 else 0
  | 0 => by
    simp only [total]
    rw [if_neg (by omega)]
    omega
  | n + 1 => by
    simp only [total, total_cons x xs n, occ]
    by_cases e : x = n
    · subst e
      rw [if_neg (by omega), if_pos rfl, if_pos (by omega)]
      omega
    · rw [if_neg e]
      by_cases c : 0 ≤ x ∧ x < n
      · rw [if_pos c, if_pos (by omega)]; omega
      · rw [if_neg c, if_neg (by omega)]; omega
theorem total_all (n : Nat) : ∀ l : List Int, (∀ x ∈ l, 0 ≤ x ∧ x < n) → total l n = l.length
  | [], _ => total_nil n
  | x :: xs, h => by
    rw [total_cons, total_all n xs (fun y hy => h y (List.mem_cons_of_mem _ hy)), if_pos (h x List.mem_cons_self)]
    simp
theorem inner (l c : List Int) (n : Int) (b : Bool) (hl : l.length ≤ 31) (s : Int) (i : Nat) (hi : i < c.length) (hb : rd c i = occ i l) (r : Bool) (hr : Ev (fun k => laws_FnCounts.l0 k l n c b (wrap64 (s + occ i l)) (wrap64 ((i : Int) + 1))) r) (d : Nat) :
    ∀ (j : Nat) (m : Int), j + d = l.length → m + occ i (l.drop j) = occ i l → 0 ≤ m → Ev (fun k => laws_FnCounts.l1 k l n c b s i m j) r := by
  have ob := occ_bound i l
  induction d with
  | zero =>
    intro j m h hm hm0
    refine Ev.step (fun k => ?_) hr
    have e : l.drop j = [] := List.drop_of_length_le (by omega)
    rw [e] at hm
    simp only [occ] at hm
    rw [laws_FnCounts.l1, if_neg (by omega), if_pos (by omega), if_pos (by omega), hb, if_pos (by omega), show m = occ i l by omega]
  | succ d ih =>
    intro j m h hm hm0
    rw [drop_rd l j (by omega)] at hm
    simp only [occ] at hm
    have ob2 := occ_bound i (l.drop (j + 1))
    by_cases e : rd l j = i
    · rw [if_pos e] at hm
      refine Ev.step (fun k => ?_) (ih (j + 1) (m + 1) (by omega) (by omega) (by omega))
      rw [laws_FnCounts.l1, if_pos (by omega), if_pos (by omega), if_pos e, w64_id (x := m + 1) (by omega) (by omega), w64_id (x := (j : Int) + 1) (by omega) (by omega)]
      rfl
    · rw [if_neg e] at hm
      refine Ev.step (fun k => ?_) (ih (j + 1) m (by omega) (by omega) (by omega))
      rw [laws_FnCounts.l1, if_pos (by omega), if_pos (by omega), if_neg e, w64_id (x := (j : Int) + 1) (by omega) (by omega)]
      rfl
theorem total_bound (l : List Int) (hl : l.length ≤ 31) : ∀ n : Nat, 0 ≤ total l n ∧ total l n ≤ 31 * n
  | 0 => by simp [total]
  | n + 1 => by
    have := total_bound l hl n
    have := occ_bound n l
    simp only [total]
    omega
theorem outer (l c : List Int) (hl : l.length ≤ 31) (hc : c.length ≤ 288) (hb : ∀ i : Nat, i < c.length → rd c i = occ i l) (ht : total l c.length = l.length) (d : Nat) : ∀ i : Nat, i + d = c.length →
    Ev (fun k => laws_FnCounts.l0 k l (c.length : Int) c true (total l i) i) true := by
  induction d with
  | zero =>
    intro i h
    obtain rfl : i = c.length := by omega
    refine ev_ret (fun k => ?_)
    rw [laws_FnCounts.l0, if_neg (by omega), if_pos rfl, if_pos ht]
    simp
  | succ d ih =>
    intro i h
    have t0 := total_bound l hl i
    have ob := occ_bound i l
    have e := ih (i + 1) (by omega)
    refine Ev.step (fun k => ?_) (inner l c c.length true hl (total l i) i (by omega) (hb i (by omega)) true ?_ l.length 0 0 (by omega) (by simp) (by omega))
    · rw [laws_FnCounts.l0, if_pos (by omega)]
      rfl
    · rw [w64_id (x := total l i + occ i l) (by omega) (by omega), w64_id (x := (i : Int) + 1) (by omega) (by omega)]
      exact e
theorem FnCounts : laws_FnCounts.Pure := by
  intro l hl _ hw
  have hl' : l.length ≤ 9223372036854775807 := by unfold maxLen at hl; omega
  obtain ⟨p, eD, hp⟩ := draw_is l hl'
  obtain ⟨xs, n⟩ := p
  dsimp only at hp
  obtain ⟨eS, eI⟩ := counts_both xs n
  have fin : Ev (fun k => laws_FnCounts.l0 k xs n (countsOf xs n).1 (countsOf xs n).2 0 0) true := by
    unfold countsOf
    split
    · rename_i h
      obtain ⟨h0, h1, h2⟩ := h
      obtain ⟨m, rfl⟩ := Int.eq_ofNat_of_zero_le (show 0 ≤ n by omega)
      rw [Int.toNat_natCast]
      cases hr : cnts m xs (List.replicate m 0) with
      | mk c b =>
        cases b with
        | true =>
          obtain ⟨t1, t2, t3⟩ := cnts_tell m xs (List.replicate m 0) c (by simp) hr
          simp only [List.length_replicate] at t1 t2
          have ht : total xs c.length = xs.length := by
            rw [t1]
            exact total_all m xs t3
          have := outer xs c hp (by omega) (fun i hi => by
            rw [t2 i (by omega), rd_nat, List.getD_eq_getElem?_getD, List.getElem?_replicate]
            split <;> simp) ht c.length 0 (by omega)
          rw [t1] at this
          exact this
        | false =>
          have hc : c = [] := by
            have key : ∀ (l c c' : List Int), cnts m l c = (c', false) → c' = [] := by
              intro l
              induction l with
              | nil => intro c c' h; simp [cnts] at h
              | cons x xs ih =>
                intro c c' h
                unfold cnts at h
                split at h
                · exact ih _ _ h
                · simp at h; exact h
            exact key _ _ _ hr
          subst hc
          exact ev_ret (fun k => by rw [laws_FnCounts.l0, if_neg (by simp), if_neg (by simp)])
    · exact ev_ret (fun k => by rw [laws_FnCounts.l0, if_neg (by simp), if_neg (by simp)])
  obtain ⟨K1, eD⟩ := eD
  obtain ⟨K2, eS⟩ := eS
  obtain ⟨K3, eI⟩ := eI
  obtain ⟨K4, fin⟩ := fin
  refine ⟨K1 + K2 + K3 + K4, ?_⟩
  generalize hk : K1 + K2 + K3 + K4 = K
  unfold laws_FnCounts.f laws_big.f
  simp only [Option.bind_some]
  split
  · rfl
  · have f := fin K (by omega)
    simp only [eD K (by omega), eS K (by omega), eI K (by omega), Option.bind_some]
    simpa using f

end Go.Proofs.Ytbkikljnbdfblaa.Pure
