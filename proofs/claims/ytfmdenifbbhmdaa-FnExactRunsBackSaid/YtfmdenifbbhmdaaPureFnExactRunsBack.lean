/- The law FnExactRunsBack: for every input within the row's bounds the printed function answers true: what the program's function tells is what the law asks. Conditions: only the bounds that the row itself gives (sizes of strings and slices, ranges of the number kinds). -/
import Derived.Test.YtfmdenifbbhmdaaPFnExactRunsBackx4
namespace Go.Proofs.Ytfmdenifbbhmdaa.Pure
open Go.RowKit Go.Proofs.Ytfmdenifbbhmdaa.PFnExactRunsBack Go.Proofs.YtfmdenifbbhmdaaW.PrintWords Go.Proofs.YtfmdenifbbhmdaaW.PrintLast Go.Proofs.YtfmdenifbbhmdaaW.PrintMore
set_option linter.unusedVariables false
set_option linter.unusedSimpArgs false

theorem w64_id {x : Int} (h0 : -9223372036854775808 ≤ x) (h1 : x ≤ 9223372036854775807) : wrap64 x = x := by unfold wrap64; omega
theorem tmod_nn {a : Int} (b : Int) (h : 0 ≤ a) : Int.tmod a b = a % b := Int.tmod_eq_emod_of_nonneg h
theorem tdiv_nn {a : Int} (b : Int) (h : 0 ≤ a) : Int.tdiv a b = a / b := Int.tdiv_eq_ediv_of_nonneg h
theorem wf64 {n : Int} (h : (Lit.int .i64 n).wf = true) : -9223372036854775808 ≤ n ∧ n ≤ 9223372036854775807 := by
  simp [Lit.wf, IntKind.min, IntKind.max, IntKind.signed, IntKind.bits] at h
  omega
theorem wfu32 {n : Int} (h : (Lit.int .u32 n).wf = true) : 0 ≤ n ∧ n ≤ 4294967295 := by
  simp [Lit.wf, IntKind.min, IntKind.max, IntKind.signed, IntKind.bits] at h
  omega
theorem wraps64 (n : Int) (h0 : 0 ≤ n) (h1 : n < 2 ^ 63) : IntKind.i64.wrap n = n := by rw [IntKind.wrap_i64]; omega
theorem wrapsu32 (n : Int) (h0 : 0 ≤ n) (h1 : n < 2 ^ 32) : IntKind.u32.wrap n = n := by rw [IntKind.wrap_u32]; omega
/-- a | b of parts that do not meet, of an int. -/
theorem or64 (i : Nat) (x y : Int) (hx0 : 0 ≤ x) (hx : x % 2 ^ i = 0) (hx1 : x < 2 ^ 63) (hy0 : 0 ≤ y) (hy : y < 2 ^ i) (hy1 : y < 2 ^ 63) : Go.bits .or .i64 x y = x + y :=
  bits_join .i64 63 (by decide) wraps64 i x y hx0 hx hx1 hy0 hy hy1
theorem ev_ite_pos {α : Type} {c : Prop} [Decidable c] {f g : Nat → Option α} {r : α} (h : c) (k : Ev f r) : Ev (fun n => if c then f n else g n) r := Ev.congr (fun n => if_pos h) k
theorem ev_ite_neg {α : Type} {c : Prop} [Decidable c] {f g : Nat → Option α} {r : α} (h : ¬ c) (k : Ev g r) : Ev (fun n => if c then f n else g n) r := Ev.congr (fun n => if_neg h) k
/-- A callee without rounds that answers. -/
theorem ev_bind0 {α β : Type} {o : Option α} {f : Nat → α → Option β} {a : α} {r : β} (h : o = some a) (k : Ev (fun n => f n a) r) : Ev (fun n => o.bind (f n)) r := Ev.congr (fun n => by rw [h]; rfl) k
theorem bt_lo (s : ByteArray) (i : Int) : 0 ≤ bt s i := (bt_range s i).1
theorem bt_hi (s : ByteArray) (i : Int) : bt s i ≤ 255 := (bt_range s i).2
/-- A callee that answers from some number of rounds on, used. -/
theorem ev_use {α β : Type} {g : Nat → Option α} {a : α} {F G : Nat → Option β} {r : β} (e : Ev g a) (h : ∀ k, g k = some a → F k = G k) (c : Ev G r) : Ev F r := by
  obtain ⟨K, e⟩ := e
  obtain ⟨K', c⟩ := c
  exact ⟨max K K', fun n hn => (h n (e n (by omega))).trans (c n (by omega))⟩
theorem ev_use_step {α β : Type} {g : Nat → Option α} {a : α} {F G : Nat → Option β} {r : β} (e : Ev g a) (h : ∀ k, g k = some a → F (k + 1) = G k) (c : Ev G r) : Ev F r := by
  obtain ⟨K, e⟩ := e
  obtain ⟨K', c⟩ := c
  refine ⟨max K K' + 1, fun n hn => ?_⟩
  obtain ⟨m, rfl⟩ : ∃ m, n = m + 1 := ⟨n - 1, by omega⟩
  exact (h m (e m (by omega))).trans (c m (by omega))
theorem ev_end {α β : Type} {g : Nat → Option α} {a : α} {F : Nat → Option β} {r : β} (e : Ev g a) (h : ∀ k, g k = some a → F k = some r) : Ev F r := by
  obtain ⟨K, e⟩ := e
  exact ⟨K, fun n hn => h n (e n hn)⟩
theorem ev_two {α β : Type} {g : Nat → Option α} {h : Nat → Option β} {a : α} {b : β} (e : Ev g a) (f : Ev h b) : ∃ k, g k = some a ∧ h k = some b := by
  obtain ⟨K, e⟩ := e
  obtain ⟨K', f⟩ := f
  exact ⟨max K K', e _ (by omega), f _ (by omega)⟩
theorem ev_ret {α : Type} {F : Nat → Option α} {r : α} (h : ∀ k, F (k + 1) = some r) : Ev F r := ⟨1, fun n hn => by obtain ⟨m, rfl⟩ : ∃ m, n = m + 1 := ⟨n - 1, by omega⟩; exact h m⟩

theorem in_spec (a b c : Int) : spec_l01In.f a b c = some (decide (b ≤ a ∧ a ≤ c)) := by
  unfold spec_l01In.f
  split
  · rename_i h
    have e : (decide (a ≤ c)) = decide (b ≤ a ∧ a ≤ c) := decide_eq_decide.mpr ⟨fun h' => ⟨h, h'⟩, fun h' => h'.2⟩
    rw [e]
  · rename_i h
    have e : (decide (b ≤ a ∧ a ≤ c)) = false := decide_eq_false fun h' => h h'.1
    rw [e]

theorem in_impl (a b c : Int) : impl_within.f a b c = some (decide (b ≤ a ∧ a ≤ c)) := by
  unfold impl_within.f
  split
  · rename_i h
    have e : (decide (a ≤ c)) = decide (b ≤ a ∧ a ≤ c) := decide_eq_decide.mpr ⟨fun h' => ⟨h, h'⟩, fun h' => h'.2⟩
    rw [e]
  · rename_i h
    have e : (decide (b ≤ a ∧ a ≤ c)) = false := decide_eq_false fun h' => h h'.1
    rw [e]


theorem rd_nat (l : List Int) (j : Nat) : rd l j = l.getD j 0 := by unfold rd; simp
theorem rd_getElem (l : List Int) (j : Nat) (h : j < l.length) : rd l j = l[j] := by rw [rd_nat, List.getD_eq_getElem?_getD, List.getElem?_eq_getElem h]; rfl
theorem rd_mem (l : List Int) (j : Nat) (h : j < l.length) : rd l j ∈ l := by rw [rd_getElem l j h]; exact List.getElem_mem h
theorem drop_rd (l : List Int) (j : Nat) (h : j < l.length) : l.drop j = rd l j :: l.drop (j + 1) := by rw [rd_getElem l j h]; exact List.drop_eq_getElem_cons h
theorem rd_set (l : List Int) (a : Nat) (v : Int) (j : Nat) (h : a < l.length) : rd (l.set a v) j = if j = a then v else rd l j := by
  rw [rd_nat, rd_nat, List.getD_eq_getElem?_getD, List.getD_eq_getElem?_getD, List.getElem?_set]
  by_cases e : j = a
  · subst e
    simp [h]
  · rw [if_neg (Ne.symm e), if_neg e]
theorem take_set_snoc (l : List Int) (j : Nat) (v : Int) (h : j < l.length) : (l.set j v).take (j + 1) = l.take j ++ [v] := by
  rw [List.take_succ_eq_append_getElem (by simpa using h)]
  simp [List.take_set_of_le]

theorem eqIntS_loop (l : List Int) (hl : l.length ≤ 4611686018427387904) (d : Nat) : ∀ j : Nat, j + d = l.length → Ev (fun k => laws_eqIntS.l0 k l l j) true := by
  induction d with
  | zero => exact fun j h => ev_ret (fun k => by rw [laws_eqIntS.l0, if_neg (by omega)])
  | succ d ih =>
    intro j h
    refine Ev.step (fun k => ?_) (ih (j + 1) (by omega))
    rw [laws_eqIntS.l0, if_pos (by omega), if_pos (by omega), if_pos (by omega), if_pos rfl, w64_id (x := (j : Int) + 1) (by omega) (by omega)]
    rfl
theorem eqIntS_is (l : List Int) (hl : l.length ≤ 4611686018427387904) : Ev (fun k => laws_eqIntS.f k l l) true :=
  Ev.congr (fun k => by unfold laws_eqIntS.f; rw [if_pos rfl]; rfl) (eqIntS_loop l hl l.length 0 (by omega))
/-- Marks from a on. -/
def marks : Nat → Int → List Int
  | 0, _ => []
  | n + 1, a => a :: marks n (a + 1)
theorem marks_len : ∀ (n : Nat) (a : Int), (marks n a).length = n
  | 0, _ => rfl
  | n + 1, a => by simp [marks, marks_len n]
theorem marks_snoc : ∀ (n : Nat) (a : Int), marks (n + 1) a = marks n a ++ [a + n]
  | 0, a => by simp [marks]
  | n + 1, a => by
    rw [marks, marks_snoc n (a + 1), marks]
    simp
    omega
theorem marks_at (n : Nat) (a : Int) (j : Nat) (h : j < n) : rd (marks n a) j = a + j := by
  induction n generalizing a j with
  | zero => omega
  | succ n ih =>
    cases j with
    | zero => simp [rd, marks]
    | succ j =>
      have := ih (a + 1) j (by omega)
      rw [rd_nat] at this ⊢
      simp only [marks, List.getD_cons_succ]
      rw [this]
      omega
theorem mark_loop (n : Nat) (hn : n ≤ 4611686018427387904) (a : Int) (a0 : 0 ≤ a) (a1 : a ≤ 1048576) (d : Nat) : ∀ (j : Nat) (o : List Int), j + d = n → o.length = n → o.take j = marks j a →
    Ev (fun k => laws_markIntS.l0 k o (a + j) j) (a + n, marks n a) := by
  induction d with
  | zero =>
    intro j o h ho hp
    refine ev_ret (fun k => ?_)
    rw [laws_markIntS.l0, if_neg (by omega)]
    obtain rfl : j = n := by omega
    rw [List.take_of_length_le (by omega)] at hp
    rw [hp]
  | succ d ih =>
    intro j o h ho hp
    refine Ev.step (fun k => ?_) (ih (j + 1) (o.set j (a + j)) (by omega) (by simpa using ho) ?_)
    · rw [laws_markIntS.l0, if_pos (by omega), if_pos (by omega), w64_id (x := a + j + 1) (by omega) (by omega), w64_id (x := (j : Int) + 1) (by omega) (by omega), Int.toNat_natCast, Int.add_assoc]
      rfl
    · rw [take_set_snoc o j _ (by omega), hp, marks_snoc]
theorem mark_is (l : List Int) (hl : l.length ≤ 4611686018427387904) : Ev (fun k => laws_markIntS.f k l 1) (1 + (l.length : Int), marks l.length 1) := by
  have h := mark_loop l.length hl 1 (by omega) (by omega) l.length 0 l (by omega) rfl (by simp [marks])
  rw [show (1 : Int) + ((0 : Nat) : Int) = 1 by omega] at h
  exact h
theorem held_loop (n : Nat) (hn : n ≤ 4611686018427387904) (a : Int) (a0 : 0 ≤ a) (a1 : a ≤ 1048576) (d : Nat) : ∀ (j : Nat), j + d = n →
    Ev (fun k => laws_heldIntS.l0 k (marks n a) (a + j) j) (a + n) := by
  induction d with
  | zero =>
    intro j h
    refine ev_ret (fun k => ?_)
    rw [laws_heldIntS.l0, if_neg (by rw [marks_len]; omega)]
    obtain rfl : j = n := by omega
    rfl
  | succ d ih =>
    intro j h
    refine Ev.step (fun k => ?_) (ih (j + 1) (by omega))
    rw [laws_heldIntS.l0, if_pos (by rw [marks_len]; omega), if_pos (by omega), marks_at n a j (by omega), if_pos rfl, w64_id (x := a + j + 1) (by omega) (by omega), w64_id (x := (j : Int) + 1) (by omega) (by omega), Int.add_assoc]
    rfl
theorem held_is (n : Nat) (hn : n ≤ 4611686018427387904) : Ev (fun k => laws_heldIntS.f k (marks n 1) 1) (1 + (n : Int)) := by
  have h := held_loop n hn 1 (by omega) (by omega) n 0 (by omega)
  rw [show (1 : Int) + ((0 : Nat) : Int) = 1 by omega] at h
  exact h

theorem gd_at {α : Type} (l : List α) (z : α) (j : Nat) (h : j < l.length) : l.getD (j : Int).toNat z = l[j] := by rw [Int.toNat_natCast, List.getD_eq_getElem?_getD, List.getElem?_eq_getElem h]; rfl
theorem gd_drop {α : Type} (l : List α) (z : α) (j : Nat) (h : j < l.length) : l.drop j = l.getD (j : Int).toNat z :: l.drop (j + 1) := by rw [gd_at l z j h]; exact List.drop_eq_getElem_cons h
theorem g_take_set {α : Type} (l : List α) (j : Nat) (v : α) (h : j < l.length) : (l.set j v).take (j + 1) = l.take j ++ [v] := by
  rw [List.take_succ_eq_append_getElem (by simpa using h)]
  simp [List.take_set_of_le]

theorem eqRunS_loop (l : List S42) (hl : l.length ≤ 4611686018427387904) (d : Nat) : ∀ j : Nat, j + d = l.length → Ev (fun k => laws_eqRunS.l0 k l l j) true := by
  induction d with
  | zero => exact fun j h => ev_ret (fun k => by rw [laws_eqRunS.l0, if_neg (by omega)])
  | succ d ih =>
    intro j h
    refine Ev.step (fun k => ?_) (ih (j + 1) (by omega))
    rw [laws_eqRunS.l0, if_pos (by omega), if_pos (by omega), if_pos (by omega)]
    unfold laws_eqRun.f
    rw [if_pos rfl, if_pos rfl, Option.bind_some, if_pos rfl, w64_id (x := (j : Int) + 1) (by omega) (by omega)]
    rfl
theorem eqRunS_is (l : List S42) (hl : l.length ≤ 4611686018427387904) : Ev (fun k => laws_eqRunS.f k l l) true :=
  Ev.congr (fun k => by unfold laws_eqRunS.f; rw [if_pos rfl]; rfl) (eqRunS_loop l hl l.length 0 (by omega))
/-- Marks from a on, two a run. -/
def rmarks : Nat → Int → List S42
  | 0, _ => []
  | n + 1, a => ⟨a, a + 1⟩ :: rmarks n (a + 2)
theorem rmarks_len : ∀ (n : Nat) (a : Int), (rmarks n a).length = n
  | 0, _ => rfl
  | n + 1, a => by simp [rmarks, rmarks_len n]
theorem rmarks_snoc : ∀ (n : Nat) (a : Int), rmarks (n + 1) a = rmarks n a ++ [⟨a + 2 * n, a + 2 * n + 1⟩]
  | 0, a => by simp [rmarks]
  | n + 1, a => by
    rw [rmarks, rmarks_snoc n (a + 2), rmarks]
    have e : a + 2 + 2 * (n : Int) = a + 2 * ((n + 1 : Nat) : Int) := by omega
    rw [e]
    rfl
theorem rmarks_at (n : Nat) (a : Int) (j : Nat) (h : j < n) : rd_T42 (rmarks n a) j = ⟨a + 2 * j, a + 2 * j + 1⟩ := by
  induction n generalizing a j with
  | zero => omega
  | succ n ih =>
    cases j with
    | zero => simp [rd_T42, rmarks]
    | succ j =>
      have := ih (a + 2) j (by omega)
      unfold rd_T42 at this ⊢
      rw [Int.toNat_natCast] at this ⊢
      simp only [rmarks, List.getD_cons_succ]
      rw [this]
      have e : a + 2 + 2 * (j : Int) = a + 2 * ((j + 1 : Nat) : Int) := by omega
      rw [e]
theorem rmark_loop (n : Nat) (hn : n ≤ 1048576) (a : Int) (a0 : 0 ≤ a) (a1 : a ≤ 1048576) (d : Nat) : ∀ (j : Nat) (o : List S42), j + d = n → o.length = n → o.take j = rmarks j a →
    Ev (fun k => laws_markRunS.l0 k o (a + 2 * j) j) (a + 2 * n, rmarks n a) := by
  induction d with
  | zero =>
    intro j o h ho hp
    refine ev_ret (fun k => ?_)
    rw [laws_markRunS.l0, if_neg (by omega)]
    obtain rfl : j = n := by omega
    rw [List.take_of_length_le (by omega)] at hp
    rw [hp]
  | succ d ih =>
    intro j o h ho hp
    have hj : j < o.length := by omega
    refine Ev.step (fun k => ?_) (ih (j + 1) (o.set j ⟨a + 2 * j, a + 2 * j + 1⟩) (by omega) (by simpa using ho) ?_)
    · rw [laws_markRunS.l0, if_pos (by omega), if_pos (by omega), Option.bind_some, Int.toNat_natCast, w64_id (x := a + 2 * j + 1) (by omega) (by omega), w64_id (x := a + 2 * j + 1 + 1) (by omega) (by omega), w64_id (x := (j : Int) + 1) (by omega) (by omega), List.set_set]
      have e : rd_T42 (o.set j ⟨a + 2 * j, (rd_T42 o j).f1⟩) j = ⟨a + 2 * j, (rd_T42 o j).f1⟩ := by
        have := gd_at (o.set j ⟨a + 2 * j, (rd_T42 o j).f1⟩) z42 j (by simpa using hj)
        rw [List.getElem_set_self] at this
        exact this
      rw [e]
      have e2 : a + 2 * (j : Int) + 1 + 1 = a + 2 * ((j + 1 : Nat) : Int) := by omega
      rw [e2]
      rfl
    · rw [g_take_set o j _ hj, hp, rmarks_snoc]
theorem rmark_is (l : List S42) (hl : l.length ≤ 1048576) : Ev (fun k => laws_markRunS.f k l 1) (1 + 2 * (l.length : Int), rmarks l.length 1) := by
  have h := rmark_loop l.length hl 1 (by omega) (by omega) l.length 0 l (by omega) rfl (by simp [rmarks])
  rw [show (1 : Int) + 2 * ((0 : Nat) : Int) = 1 by omega] at h
  exact h
/-- The law's own run, as the program's. -/
def runOf (x : S81) : S42 := ⟨x.f0, x.f1⟩
theorem toRunS_loop (l : List S81) (hl : l.length ≤ 1048576) (d : Nat) : ∀ (j : Nat) (o : List S42), j + d = l.length → o.length = l.length → o.take j = (l.map runOf).take j → Ev (fun k => laws_toRunS.l0 k l o j) (l.map runOf) := by
  induction d with
  | zero =>
    intro j o h ho hp
    refine ev_ret (fun k => ?_)
    rw [laws_toRunS.l0, if_neg (by omega)]
    have e1 : o.take j = o := List.take_of_length_le (by omega)
    have e2 : (l.map runOf).take j = l.map runOf := List.take_of_length_le (by rw [List.length_map]; omega)
    rw [e1, e2] at hp
    rw [hp]
  | succ d ih =>
    intro j o h ho hp
    have hj : j < l.length := by omega
    refine Ev.step (fun k => ?_) (ih (j + 1) (o.set j (runOf l[j])) (by omega) (by simpa using ho) ?_)
    · have e : rd_T81 l (j : Int) = l[j] := gd_at l _ j hj
      rw [laws_toRunS.l0, if_pos (by omega), if_pos (by omega), e]
      unfold laws_toRun.f
      rw [Option.bind_some, if_pos (by omega), w64_id (x := (j : Int) + 1) (by omega) (by omega), Int.toNat_natCast]
      rfl
    · rw [g_take_set o j _ (by omega), hp, List.take_succ_eq_append_getElem (by rw [List.length_map]; exact hj), List.getElem_map]
theorem toRunS_is (l : List S81) (hl : l.length ≤ 1048576) : Ev (fun k => laws_toRunS.f k l) (l.map runOf) := by
  refine Ev.congr (fun k => ?_) (toRunS_loop l hl l.length 0 (List.replicate l.length z42) (by omega) (by simp) (by simp))
  unfold laws_toRunS.f
  rw [if_pos (by omega), Int.toNat_natCast, if_pos (by omega)]
  rfl

/-- What a run tells behind some lengths; none: it is none. -/
def tellR (o : List Int) (s e : Int) : Option (List Int) :=
  if s = 16 then (if 0 ≤ e ∧ e ≤ 3 ∧ 0 < o.length then some (List.replicate (3 + e).toNat (rd o ((o.length - 1 : Nat) : Int))) else none)
  else if s = 17 then (if 0 ≤ e ∧ e ≤ 7 then some (List.replicate (3 + e).toNat 0) else none)
  else if s = 18 then (if 0 ≤ e ∧ e ≤ 127 then some (List.replicate (11 + e).toNat 0) else none)
  else if 0 ≤ s ∧ s ≤ 15 ∧ e = 0 then some [s] else none
theorem tellR_len (o : List Int) (s e : Int) (m : List Int) (h : tellR o s e = some m) : 1 ≤ m.length ∧ m.length ≤ 138 := by
  unfold tellR at h
  split at h
  · split at h
    · rename_i c
      obtain rfl := Option.some.inj h
      rw [List.length_replicate]
      omega
    · cases h
  · split at h
    · split at h
      · rename_i c
        obtain rfl := Option.some.inj h
        rw [List.length_replicate]
        omega
      · cases h
    · split at h
      · split at h
        · rename_i c
          obtain rfl := Option.some.inj h
          rw [List.length_replicate]
          omega
        · cases h
      · split at h
        · obtain rfl := Option.some.inj h
          simp
        · cases h
theorem told_loop (x : Int) (n : Nat) (hn : n ≤ 138) (d : Nat) : ∀ (j : Nat) (o : List Int), j + d = n → o.length ≤ 1048576 + j → Ev (fun k => impl_told.l0 k o x n j) (o ++ List.replicate (n - j) x) := by
  induction d with
  | zero =>
    intro j o h ho
    refine ev_ret (fun k => ?_)
    rw [impl_told.l0, if_neg (by omega), show n - j = 0 by omega]
    simp
  | succ d ih =>
    intro j o h ho
    have g := ih (j + 1) (o ++ [x]) (by omega) (by simp; omega)
    rw [List.append_assoc, List.singleton_append, ← List.replicate_succ, show n - (j + 1) + 1 = n - j by omega] at g
    refine Ev.step (fun k => ?_) g
    rw [impl_told.l0, if_pos (by omega), if_pos (by omega), w64_id (x := (j : Int) + 1) (by omega) (by omega)]
    rfl
theorem told_is (o : List Int) (ho : o.length ≤ 1048576) (s e : Int) (m : List Int) (h : tellR o s e = some m) : Ev (fun k => impl_told.f k o s e) (o ++ m) := by
  have J : ∀ (x : Int) (n : Int) (_ : 0 ≤ n) (_ : n ≤ 138), Ev (fun k => impl_told.j0 k o x n) (o ++ List.replicate n.toNat x) := by
    intro x n h0 h1
    obtain ⟨n, rfl⟩ := Int.eq_ofNat_of_zero_le h0
    have g := told_loop x n (by omega) n 0 o (by omega) (by omega)
    exact Ev.step (fun k => by rw [impl_told.j0]; rfl) g
  unfold tellR at h
  split at h
  · rename_i c16
    split at h
    · rename_i c
      obtain rfl := Option.some.inj h
      refine Ev.congr (fun k => ?_) (J (rd o ((o.length - 1 : Nat) : Int)) (3 + e) (by omega) (by omega))
      have w : wrap64 ((o.length : Int) - 1) = ((o.length - 1 : Nat) : Int) := by rw [w64_id (by omega) (by omega)]; omega
      unfold impl_told.f
      rw [if_pos c16, w, if_pos (by omega), if_pos (by omega), w64_id (by omega) (by omega)]
    · cases h
  · rename_i c16
    split at h
    · rename_i c17
      split at h
      · rename_i c
        obtain rfl := Option.some.inj h
        refine Ev.congr (fun k => ?_) (J 0 (3 + e) (by omega) (by omega))
        unfold impl_told.f
        rw [if_neg c16, if_pos c17, w64_id (by omega) (by omega)]
      · cases h
    · rename_i c17
      split at h
      · rename_i c18
        split at h
        · rename_i c
          obtain rfl := Option.some.inj h
          refine Ev.congr (fun k => ?_) (J 0 (11 + e) (by omega) (by omega))
          unfold impl_told.f
          rw [if_neg c16, if_neg c17, if_pos c18, w64_id (by omega) (by omega)]
        · cases h
      · rename_i c18
        split at h
        · obtain rfl := Option.some.inj h
          refine Ev.congr (fun k => ?_) (J s 1 (by omega) (by omega))
          unfold impl_told.f
          rw [if_neg c16, if_neg c17, if_neg c18]
        · cases h
theorem extra_pow (s : Int) : ∃ b, impl_ExtraBits.f s = some b ∧ impl_powerOf.f b = some (if s = 16 then 4 else if s = 17 then 8 else if s = 18 then 128 else 1) ∧ shl .i64 1 b = (if s = 16 then 4 else if s = 17 then 8 else if s = 18 then 128 else 1) ∧ 0 ≤ b := by
  unfold impl_ExtraBits.f
  by_cases c16 : s = 16
  · rw [if_pos c16, if_pos c16]
    exact ⟨2, rfl, by decide +kernel, by decide +kernel, by decide⟩
  · rw [if_neg c16, if_neg c16]
    by_cases c17 : s = 17
    · rw [if_pos c17, if_pos c17]
      exact ⟨3, rfl, by decide +kernel, by decide +kernel, by decide⟩
    · rw [if_neg c17, if_neg c17]
      by_cases c18 : s = 18
      · rw [if_pos c18, if_pos c18]
        exact ⟨7, rfl, by decide +kernel, by decide +kernel, by decide⟩
      · rw [if_neg c18, if_neg c18]
        exact ⟨0, rfl, by decide +kernel, by decide +kernel, by decide⟩
theorem runOk_is (s e : Int) : impl_runOk.f s e = some (decide (0 ≤ s ∧ s ≤ 18 ∧ 0 ≤ e ∧ e ≤ (if s = 16 then 4 else if s = 17 then 8 else if s = 18 then 128 else 1) - 1)) := by
  obtain ⟨b, h1, h2, _, _⟩ := extra_pow s
  unfold impl_runOk.f
  rw [in_impl, Option.bind_some]
  by_cases c : 0 ≤ s ∧ s ≤ 18
  · rw [if_pos (decide_eq_true c), h1, Option.bind_some, h2, Option.bind_some, in_impl, Option.bind_some]
    congr 1
    rw [decide_eq_decide, w64_id (by split <;> (try split) <;> (try split) <;> omega) (by split <;> (try split) <;> (try split) <;> omega)]
    constructor
    · intro h; exact ⟨c.1, c.2, h.1, h.2⟩
    · intro h; exact ⟨h.2.2.1, h.2.2.2⟩
  · rw [if_neg (by simpa using c)]
    congr 1
    symm
    exact decide_eq_false (fun h => c ⟨h.1, h.2.1⟩)
/-- A run is right where it tells something behind lengths that are there. -/
theorem runOk_tell (o : List Int) (s e : Int) (ho : 0 < o.length ∨ s ≠ 16) : impl_runOk.f s e = some (tellR o s e).isSome := by
  rw [runOk_is]
  congr 1
  unfold tellR
  by_cases c16 : s = 16
  · rw [if_pos c16, if_pos c16]
    by_cases c : 0 ≤ e ∧ e ≤ 3 ∧ 0 < o.length
    · rw [if_pos c]; exact decide_eq_true (by omega)
    · rw [if_neg c]; exact decide_eq_false (by omega)
  · rw [if_neg c16, if_neg c16]
    by_cases c17 : s = 17
    · rw [if_pos c17, if_pos c17]
      by_cases c : 0 ≤ e ∧ e ≤ 7
      · rw [if_pos c]; exact decide_eq_true (by omega)
      · rw [if_neg c]; exact decide_eq_false (by omega)
    · rw [if_neg c17, if_neg c17]
      by_cases c18 : s = 18
      · rw [if_pos c18, if_pos c18]
        by_cases c : 0 ≤ e ∧ e ≤ 127
        · rw [if_pos c]; exact decide_eq_true (by omega)
        · rw [if_neg c]; exact decide_eq_false (by omega)
      · rw [if_neg c18, if_neg c18]
        by_cases c : 0 ≤ s ∧ s ≤ 15 ∧ e = 0
        · rw [if_pos c]; exact decide_eq_true (by omega)
        · rw [if_neg c]; exact decide_eq_false (by omega)
/-- Runs, told one behind the other. -/
def backR (n : Int) : List S42 → List Int → List Int × Bool
  | [], o => if (o.length : Int) = n then (o, true) else ([], false)
  | r :: rs, o => match tellR o r.f0 r.f1 with
    | none => ([], false)
    | some m => if ((o ++ m).length : Int) > n then ([], false) else backR n rs (o ++ m)
theorem backR_len (n : Int) (h0 : 0 ≤ n) : ∀ (l : List S42) (o : List Int), ((backR n l o).1.length : Int) ≤ n
  | [], o => by
    unfold backR
    split
    · rename_i h; dsimp only; omega
    · simpa using h0
  | r :: rs, o => by
    unfold backR
    split
    · simpa using h0
    · split
      · simpa using h0
      · exact backR_len n h0 rs _
theorem back_impl (l : List S42) (hl : l.length ≤ 1048576) (n : Int) (hn : n ≤ 320) (d : Nat) : ∀ (j : Nat) (o : List Int), j + d = l.length → o.length ≤ 320 → (o = [] ↔ j = 0) →
    Ev (fun k => impl_RunsBack.l0 k n o l (l.length : Int) j) (backR n (l.drop j) o) := by
  induction d with
  | zero =>
    intro j o h ho hz
    rw [List.drop_of_length_le (by omega), backR]
    refine ev_ret (fun k => ?_)
    rw [impl_RunsBack.l0, if_neg (by omega)]
    split <;> rfl
  | succ d ih =>
    intro j o h ho hz
    have hj : j < l.length := by omega
    have dr : l.drop j = rd_T42 l j :: l.drop (j + 1) := gd_drop l _ j hj
    rw [dr, backR]
    generalize hr : rd_T42 l j = r
    have go : ∀ m, tellR o r.f0 r.f1 = some m → Ev (fun k => impl_RunsBack.j1 k n o l (l.length : Int) j false r.f0 r.f1) (if ((o ++ m).length : Int) > n then ([], false) else backR n (l.drop (j + 1)) (o ++ m)) := by
      intro m hm
      have hml := tellR_len o _ _ m hm
      by_cases c : ((o ++ m).length : Int) > n
      · rw [if_pos c]
        refine ev_use_step (told_is o (by omega) _ _ m hm) (fun k hk => ?_) (Ev.now _)
        rw [impl_RunsBack.j1, if_neg (by decide), hk, Option.bind_some, if_pos c]
      · rw [if_neg c]
        refine ev_use_step (told_is o (by omega) _ _ m hm) (fun k hk => ?_) (ih (j + 1) (o ++ m) (by omega) (by omega) ?_)
        · rw [impl_RunsBack.j1, if_neg (by decide), hk, Option.bind_some, if_neg c, w64_id (x := (j : Int) + 1) (by omega) (by omega)]
          rfl
        · constructor
          · intro h1
            have := congrArg List.length h1
            simp at this
            have := this.2
            subst this
            simp at hml
          · intro h1; omega
    have no : Ev (fun k => impl_RunsBack.j1 k n o l (l.length : Int) j true r.f0 r.f1) ([], false) := ev_ret (fun k => by rw [impl_RunsBack.j1, if_pos rfl])
    by_cases h16 : j = 0 ∧ r.f0 = 16
    · obtain ⟨h0, h16⟩ := h16
      have ho0 := hz.2 h0
      have t : tellR o r.f0 r.f1 = none := by
        unfold tellR
        rw [if_pos h16, if_neg (by rw [ho0]; simp)]
      rw [t]
      dsimp only
      refine Ev.step (fun k => ?_) no
      rw [impl_RunsBack.l0, if_pos (by omega), if_pos (by omega), if_pos (by omega), hr, runOk_is, Option.bind_some]
      have e0 : (j : Int) = 0 := by omega
      have e1 : (r.f0 == 16) = true := by rw [h16]; rfl
      rw [if_pos e0, e1, ite_self]
    · have hok : impl_runOk.f r.f0 r.f1 = some (tellR o r.f0 r.f1).isSome := runOk_tell o _ _ (by
        by_cases c : j = 0
        · right; intro h; exact h16 ⟨c, h⟩
        · left
          rcases Nat.eq_zero_or_pos o.length with h | h
          · exact absurd (hz.1 (List.eq_nil_of_length_eq_zero h)) c
          · exact h)
      have e16 : ¬ ((j : Int) = 0 ∧ r.f0 = 16) := fun h => h16 ⟨by omega, h.2⟩
      cases hm : tellR o r.f0 r.f1 with
      | none =>
        dsimp only
        rw [hm] at hok
        refine Ev.step (fun k => ?_) no
        rw [impl_RunsBack.l0, if_pos (by omega), if_pos (by omega), if_pos (by omega), hr, hok, Option.bind_some, if_neg (by decide)]
      | some m =>
        dsimp only
        rw [hm] at hok
        refine Ev.step (fun k => ?_) (go m hm)
        rw [impl_RunsBack.l0, if_pos (by omega), if_pos (by omega), if_pos (by omega), hr, hok, Option.bind_some, if_pos (show (some m).isSome = true from rfl)]
        split
        · rename_i h0
          have : (r.f0 == 16) = false := by
            rw [beq_eq_false_iff_ne]
            exact fun h => e16 ⟨h0, h⟩
          rw [this]
        · rfl
theorem back_impl_is (l : List S42) (hl : l.length ≤ 1048576) (n : Int) : Ev (fun k => impl_RunsBack.f k l n) (if 0 ≤ n ∧ n ≤ 320 then backR n l [] else ([], false)) := by
  by_cases c : 0 ≤ n ∧ n ≤ 320
  · rw [if_pos c]
    refine Ev.congr (fun k => ?_) (back_impl l hl n c.2 l.length 0 [] (by omega) (by simp) (by simp))
    unfold impl_RunsBack.f
    rw [in_impl, decide_eq_true c, Option.bind_some, if_pos rfl]
    rfl
  · rw [if_neg c]
    refine Ev.congr (fun k => ?_) (Ev.now _)
    unfold impl_RunsBack.f
    rw [in_impl, decide_eq_false c, Option.bind_some, if_neg (by decide)]

theorem tells_loop (x : Int) (n : Nat) (hn : n ≤ 138) (d : Nat) : ∀ (j : Nat) (o : List Int), j + d = n → o.length = j → Ev (fun k => spec_l05Tells.l0 k n x true o j) (o ++ List.replicate (n - j) x, true) := by
  induction d with
  | zero =>
    intro j o h ho
    refine ev_ret (fun k => ?_)
    rw [spec_l05Tells.l0, if_neg (by omega), show n - j = 0 by omega]
    simp
  | succ d ih =>
    intro j o h ho
    have g := ih (j + 1) (o ++ [x]) (by omega) (by simp; omega)
    rw [List.append_assoc, List.singleton_append, ← List.replicate_succ, show n - (j + 1) + 1 = n - j by omega] at g
    refine Ev.step (fun k => ?_) g
    rw [spec_l05Tells.l0, if_pos (by omega), if_pos rfl, if_pos (by omega), w64_id (x := (j : Int) + 1) (by omega) (by omega)]
    rfl
theorem tells_yes (x : Int) (n : Int) (h0 : 0 ≤ n) (h1 : n ≤ 138) : Ev (fun k => spec_l05Tells.j1 k n x true) (List.replicate n.toNat x, true) := by
  obtain ⟨n, rfl⟩ := Int.eq_ofNat_of_zero_le h0
  have g := tells_loop x n (by omega) n 0 [] (by omega) rfl
  exact Ev.step (fun k => by rw [spec_l05Tells.j1]; rfl) g
theorem tells_no (x n : Int) : Ev (fun k => spec_l05Tells.j1 k n x false) ([], false) := by
  refine Ev.step (f := fun k => spec_l05Tells.l0 k n x false [] 0) (fun k => by rw [spec_l05Tells.j1]) (ev_ret (fun k => ?_))
  rw [spec_l05Tells.l0]
  split
  · rw [if_neg (by decide)]
  · rfl
theorem tells_is (o : List Int) (ho : o.length ≤ 1048576) (s e : Int) : Ev (fun k => spec_l05Tells.f k o s e) (match tellR o s e with | some m => (m, true) | none => ([], false)) := by
  have J : ∀ b : Bool, (b = true → 0 ≤ s ∧ s ≤ 15 ∧ e = 0) → (s ≤ 15 → 0 ≤ s → e = 0 → b = true) → Ev (fun k => spec_l05Tells.j0 k o 1 s b s e) (match tellR o s e with | some m => (m, true) | none => ([], false)) := by
    intro b hb1 hb2
    unfold tellR
    by_cases c16 : s = 16
    · rw [if_pos c16]
      by_cases c : 0 ≤ e ∧ e ≤ 3 ∧ 0 < o.length
      · rw [if_pos c]
        have w : wrap64 ((o.length : Int) - 1) = ((o.length - 1 : Nat) : Int) := by rw [w64_id (by omega) (by omega)]; omega
        refine Ev.step (fun k => ?_) (tells_yes (rd o ((o.length - 1 : Nat) : Int)) (3 + e) (by omega) (by omega))
        rw [spec_l05Tells.j0, if_pos c16, in_spec, decide_eq_true ⟨c.1, c.2.1⟩, Option.bind_some, if_pos rfl, if_pos (by omega), w, if_pos (by omega), if_pos (by omega), w64_id (x := 3 + e) (by omega) (by omega), decide_eq_true (by omega)]
      · rw [if_neg c]
        by_cases c1 : 0 ≤ e ∧ e ≤ 3
        · refine Ev.step (fun k => ?_) (tells_no s (wrap64 (3 + e)))
          rw [spec_l05Tells.j0, if_pos c16, in_spec, decide_eq_true c1, Option.bind_some, if_pos rfl, if_neg (by omega), decide_eq_false (by omega)]
        · refine Ev.step (fun k => ?_) (tells_no s (wrap64 (3 + e)))
          rw [spec_l05Tells.j0, if_pos c16, in_spec, decide_eq_false c1, Option.bind_some, if_neg (by decide)]
    · rw [if_neg c16]
      by_cases c17 : s = 17
      · rw [if_pos c17]
        by_cases c : 0 ≤ e ∧ e ≤ 7
        · rw [if_pos c]
          refine Ev.step (fun k => ?_) (tells_yes 0 (3 + e) (by omega) (by omega))
          rw [spec_l05Tells.j0, if_neg c16, if_pos c17, in_spec, decide_eq_true c, Option.bind_some, w64_id (x := 3 + e) (by omega) (by omega)]
        · rw [if_neg c]
          refine Ev.step (fun k => ?_) (tells_no 0 (wrap64 (3 + e)))
          rw [spec_l05Tells.j0, if_neg c16, if_pos c17, in_spec, decide_eq_false c, Option.bind_some]
      · rw [if_neg c17]
        by_cases c18 : s = 18
        · rw [if_pos c18]
          by_cases c : 0 ≤ e ∧ e ≤ 127
          · rw [if_pos c]
            refine Ev.step (fun k => ?_) (tells_yes 0 (11 + e) (by omega) (by omega))
            rw [spec_l05Tells.j0, if_neg c16, if_neg c17, if_pos c18, in_spec, decide_eq_true c, Option.bind_some, w64_id (x := 11 + e) (by omega) (by omega)]
          · rw [if_neg c]
            refine Ev.step (fun k => ?_) (tells_no 0 (wrap64 (11 + e)))
            rw [spec_l05Tells.j0, if_neg c16, if_neg c17, if_pos c18, in_spec, decide_eq_false c, Option.bind_some]
        · rw [if_neg c18]
          by_cases c : 0 ≤ s ∧ s ≤ 15 ∧ e = 0
          · rw [if_pos c]
            have hb := hb2 c.2.1 c.1 c.2.2
            refine Ev.step (fun k => ?_) (tells_yes s 1 (by omega) (by omega))
            rw [spec_l05Tells.j0, if_neg c16, if_neg c17, if_neg c18, hb]
          · rw [if_neg c]
            have hb : b = false := by
              cases b with
              | false => rfl
              | true => exact absurd (hb1 rfl) c
            refine Ev.step (fun k => ?_) (tells_no s 1)
            rw [spec_l05Tells.j0, if_neg c16, if_neg c17, if_neg c18, hb]
  by_cases c : 0 ≤ s ∧ s ≤ 15
  · refine Ev.congr (fun k => ?_) (J (e == 0) (fun h => ⟨c.1, c.2, by simpa using h⟩) (fun _ _ h => by simpa using h))
    unfold spec_l05Tells.f
    rw [in_spec, decide_eq_true c, Option.bind_some, if_pos rfl]
  · refine Ev.congr (fun k => ?_) (J false (fun h => by cases h) (fun h1 h0 _ => absurd ⟨h0, h1⟩ c))
    unfold spec_l05Tells.f
    rw [in_spec, decide_eq_false c, Option.bind_some, if_neg (by decide)]
theorem back_spec (l : List S42) (hl : l.length ≤ 1048576) (n : Int) (hn : n ≤ 320) (d : Nat) : ∀ (j : Nat) (o : List Int), j + d = l.length → o.length ≤ 320 →
    Ev (fun k => spec_RunsBack.l0 k l n o j) (backR n (l.drop j) o) := by
  induction d with
  | zero =>
    intro j o h ho
    rw [List.drop_of_length_le (by omega), backR]
    refine ev_ret (fun k => ?_)
    rw [spec_RunsBack.l0, if_neg (by omega)]
    split <;> rfl
  | succ d ih =>
    intro j o h ho
    have hj : j < l.length := by omega
    have dr : l.drop j = rd_T42 l j :: l.drop (j + 1) := gd_drop l _ j hj
    rw [dr, backR]
    generalize hr : rd_T42 l j = r
    have t := tells_is o (by omega) r.f0 r.f1
    cases hm : tellR o r.f0 r.f1 with
    | none =>
      rw [hm] at t
      dsimp only at t ⊢
      refine ev_use_step t (fun k hk => ?_) (Ev.now _)
      rw [spec_RunsBack.l0, if_pos (by omega), if_pos (by omega), hr, hk, Option.bind_some]
      dsimp only
      rw [if_pos (by simp; omega), Option.bind_some, if_neg (by decide)]
    | some m =>
      rw [hm] at t
      dsimp only at t ⊢
      have hml := tellR_len o _ _ m hm
      by_cases c : ((o ++ m).length : Int) > n
      · rw [if_pos c]
        refine ev_use_step t (fun k hk => ?_) (Ev.now _)
        rw [spec_RunsBack.l0, if_pos (by omega), if_pos (by omega), hr, hk, Option.bind_some]
        dsimp only
        rw [if_pos (by omega), Option.bind_some, if_pos rfl, if_pos c]
      · rw [if_neg c]
        refine ev_use_step t (fun k hk => ?_) (ih (j + 1) (o ++ m) (by omega) (by omega))
        rw [spec_RunsBack.l0, if_pos (by omega), if_pos (by omega), hr, hk, Option.bind_some]
        dsimp only
        rw [if_pos (by omega), Option.bind_some, if_pos rfl, if_neg c, w64_id (x := (j : Int) + 1) (by omega) (by omega)]
        rfl
theorem back_spec_is (l : List S42) (hl : l.length ≤ 1048576) (n : Int) : Ev (fun k => spec_RunsBack.f k l n) (if 0 ≤ n ∧ n ≤ 320 then backR n l [] else ([], false)) := by
  by_cases c : 0 ≤ n ∧ n ≤ 320
  · rw [if_pos c]
    refine Ev.congr (fun k => ?_) (back_spec l hl n c.2 l.length 0 [] (by omega) (by simp))
    unfold spec_RunsBack.f
    rw [Option.bind_some, in_spec, decide_eq_true c, Option.bind_some, if_pos rfl]
    rfl
  · rw [if_neg c]
    refine Ev.congr (fun k => ?_) (Ev.now _)
    unfold spec_RunsBack.f
    rw [Option.bind_some, in_spec, decide_eq_false c, Option.bind_some, if_neg (by decide)]

theorem FnExactRunsBack : laws_FnExactRunsBack.Pure := by
  intro l n hl hw hn
  have hl' : l.length ≤ 9223372036854775807 := by unfold maxLen at hl; omega
  have w : wrap64 (1048576 - (l.length : Int)) = 1048576 - l.length := w64_id (by omega) (by omega)
  by_cases hb : 1048576 - (l.length : Int) < 0
  · refine ⟨0, ?_⟩
    unfold laws_FnExactRunsBack.f laws_szRunS.f
    rw [w, if_pos hb, Option.bind_some, if_pos (by omega)]
  · obtain ⟨KT, T⟩ := toRunS_is l (by omega)
    have ll : (l.map runOf).length ≤ 1048576 := by rw [List.length_map]; omega
    have eS := back_spec_is (l.map runOf) ll n
    have eI := back_impl_is (l.map runOf) ll n
    have hc : ((if 0 ≤ n ∧ n ≤ 320 then backR n (l.map runOf) [] else ([], false)).1.length : Int) ≤ 320 := by
      split
      · rename_i h
        have := backR_len n h.1 (l.map runOf) []
        omega
      · simp
    generalize (if 0 ≤ n ∧ n ≤ 320 then backR n (l.map runOf) [] else ([], false)) = r at eS eI hc
    obtain ⟨c, b⟩ := r
    dsimp only at hc
    obtain ⟨KS, S⟩ := eS
    obtain ⟨KI, I⟩ := eI
    obtain ⟨KL, EL⟩ := eqRunS_is (l.map runOf) (by omega)
    obtain ⟨KC, EC⟩ := eqIntS_is c (by omega)
    obtain ⟨KM, M⟩ := rmark_is (l.map runOf) ll
    obtain ⟨KN, N⟩ := mark_is c (by omega)
    obtain ⟨KH, HH⟩ := held_is c.length (by omega)
    refine ⟨KT + KS + KI + KL + KC + KM + KN + KH + 3, ?_⟩
    generalize hk : KT + KS + KI + KL + KC + KM + KN + KH = K
    have bb : (b != b) = false := by simp
    unfold laws_FnExactRunsBack.f laws_szRunS.f
    rw [w, if_neg hb, Option.bind_some, if_neg hb]
    simp only [T _ (show KT ≤ K + 3 by omega), S _ (show KS ≤ K + 3 by omega), I _ (show KI ≤ K + 3 by omega), EC _ (show KC ≤ K + 3 by omega), Option.bind_some, if_true, bb]
    rw [laws_FnExactRunsBack.j0, if_neg (by decide)]
    simp only [T _ (show KT ≤ K + 2 by omega), EL _ (show KL ≤ K + 2 by omega), M _ (show KM ≤ K + 2 by omega), EC _ (show KC ≤ K + 2 by omega), Option.bind_some, if_true, bb]
    rw [if_neg (by omega), laws_FnExactRunsBack.j1, if_neg (by decide)]
    simp only [N _ (show KN ≤ K + 1 by omega), HH _ (show KH ≤ K + 1 by omega), T _ (show KT ≤ K + 1 by omega), I _ (show KI ≤ K + 1 by omega), EC _ (show KC ≤ K + 1 by omega), Option.bind_some, if_true, bb]
    rw [if_neg (by omega), laws_FnExactRunsBack.j2, if_neg (by decide)]
    simp only [HH _ (show KH ≤ K by omega), Option.bind_some]
    rw [if_neg (by omega)]
    all_goals simp

end Go.Proofs.Ytfmdenifbbhmdaa.Pure
