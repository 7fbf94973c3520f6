/- The law FnCheapest: for every input within the row's bounds the printed function answers true: what the program's function tells is what the law asks. Conditions: only the bounds that the row itself gives (sizes of strings and slices, ranges of the number kinds). -/
import Derived.Test.YtaaoojmbomhakaaPFnCheapestx6
namespace Go.Proofs.Ytaaoojmbomhakaa.Pure
open Go.RowKit Go.Proofs.Ytaaoojmbomhakaa.PFnCheapest Go.Proofs.YtaaoojmbomhakaaW.PrintWords Go.Proofs.YtaaoojmbomhakaaW.PrintLast Go.Proofs.YtaaoojmbomhakaaW.PrintMore
set_option linter.unusedVariables false
set_option linter.unusedSimpArgs false

theorem w64_id {x : Int} (h0 : -9223372036854775808 ≤ x) (h1 : x ≤ 9223372036854775807) : wrap64 x = x := by unfold wrap64; omega
theorem tmod_nn {a : Int} (b : Int) (h : 0 ≤ a) : Int.tmod a b = a % b := Int.tmod_eq_emod_of_nonneg h
theorem tdiv_nn {a : Int} (b : Int) (h : 0 ≤ a) : Int.tdiv a b = a / b := Int.tdiv_eq_ediv_of_nonneg h
theorem wf64 {n : Int} (h : (Lit.int .i64 n).wf = true) : -9223372036854775808 ≤ n ∧ n ≤ 9223372036854775807 := by
  simp [Lit.wf, IntKind.min, IntKind.max, IntKind.signed, IntKind.bits] at h
  omega
theorem wfu32 {n : Int} (h : (Lit.int .u32 n).wf = true) : 0 ≤ n ∧ n ≤ 4294967295 := by
  simp [Lit.wf, IntKind.min, IntKind.max, IntKind.signed, IntKind.bits] at h
  omega
theorem wraps64 (n : Int) (h0 : 0 ≤ n) (h1 : n < 2 ^ 63) : IntKind.i64.wrap n = n := by rw [IntKind.wrap_i64]; omega
theorem wrapsu32 (n : Int) (h0 : 0 ≤ n) (h1 : n < 2 ^ 32) : IntKind.u32.wrap n = n := by rw [IntKind.wrap_u32]; omega
/-- a | b of parts that do not meet, of an int. -/
theorem or64 (i : Nat) (x y : Int) (hx0 : 0 ≤ x) (hx : x % 2 ^ i = 0) (hx1 : x < 2 ^ 63) (hy0 : 0 ≤ y) (hy : y < 2 ^ i) (hy1 : y < 2 ^ 63) : Go.bits .or .i64 x y = x + y :=
  bits_join .i64 63 (by decide) wraps64 i x y hx0 hx hx1 hy0 hy hy1
theorem ev_ite_pos {α : Type} {c : Prop} [Decidable c] {f g : Nat → Option α} {r : α} (h : c) (k : Ev f r) : Ev (fun n => if c then f n else g n) r := Ev.congr (fun n => if_pos h) k
theorem ev_ite_neg {α : Type} {c : Prop} [Decidable c] {f g : Nat → Option α} {r : α} (h : ¬ c) (k : Ev g r) : Ev (fun n => if c then f n else g n) r := Ev.congr (fun n => if_neg h) k
/-- A callee without rounds that answers. -/
theorem ev_bind0 {α β : Type} {o : Option α} {f : Nat → α → Option β} {a : α} {r : β} (h : o = some a) (k : Ev (fun n => f n a) r) : Ev (fun n => o.bind (f n)) r := Ev.congr (fun n => by rw [h]; rfl) k
theorem bt_lo (s : ByteArray) (i : Int) : 0 ≤ bt s i := (bt_range s i).1
theorem bt_hi (s : ByteArray) (i : Int) : bt s i ≤ 255 := (bt_range s i).2
/-- A callee that answers from some number of rounds on, used. -/
theorem ev_use {α β : Type} {g : Nat → Option α} {a : α} {F G : Nat → Option β} {r : β} (e : Ev g a) (h : ∀ k, g k = some a → F k = G k) (c : Ev G r) : Ev F r := by
  obtain ⟨K, e⟩ := e
  obtain ⟨K', c⟩ := c
  exact ⟨max K K', fun n hn => (h n (e n (by omega))).trans (c n (by omega))⟩
theorem ev_use_step {α β : Type} {g : Nat → Option α} {a : α} {F G : Nat → Option β} {r : β} (e : Ev g a) (h : ∀ k, g k = some a → F (k + 1) = G k) (c : Ev G r) : Ev F r := by
  obtain ⟨K, e⟩ := e
  obtain ⟨K', c⟩ := c
  refine ⟨max K K' + 1, fun n hn => ?_⟩
  obtain ⟨m, rfl⟩ : ∃ m, n = m + 1 := ⟨n - 1, by omega⟩
  exact (h m (e m (by omega))).trans (c m (by omega))
theorem ev_end {α β : Type} {g : Nat → Option α} {a : α} {F : Nat → Option β} {r : β} (e : Ev g a) (h : ∀ k, g k = some a → F k = some r) : Ev F r := by
  obtain ⟨K, e⟩ := e
  exact ⟨K, fun n hn => h n (e n hn)⟩
theorem ev_two {α β : Type} {g : Nat → Option α} {h : Nat → Option β} {a : α} {b : β} (e : Ev g a) (f : Ev h b) : ∃ k, g k = some a ∧ h k = some b := by
  obtain ⟨K, e⟩ := e
  obtain ⟨K', f⟩ := f
  exact ⟨max K K', e _ (by omega), f _ (by omega)⟩
theorem ev_ret {α : Type} {F : Nat → Option α} {r : α} (h : ∀ k, F (k + 1) = some r) : Ev F r := ⟨1, fun n hn => by obtain ⟨m, rfl⟩ : ∃ m, n = m + 1 := ⟨n - 1, by omega⟩; exact h m⟩

theorem gd_at {α : Type} (l : List α) (z : α) (j : Nat) (h : j < l.length) : l.getD (j : Int).toNat z = l[j] := by rw [Int.toNat_natCast, List.getD_eq_getElem?_getD, List.getElem?_eq_getElem h]; rfl
theorem gd_drop {α : Type} (l : List α) (z : α) (j : Nat) (h : j < l.length) : l.drop j = l.getD (j : Int).toNat z :: l.drop (j + 1) := by rw [gd_at l z j h]; exact List.drop_eq_getElem_cons h
theorem g_take_set {α : Type} (l : List α) (j : Nat) (v : α) (h : j < l.length) : (l.set j v).take (j + 1) = l.take j ++ [v] := by
  rw [List.take_succ_eq_append_getElem (by simpa using h)]
  simp [List.take_set_of_le]

theorem in_spec (a b c : Int) : spec_l01In.f a b c = some (decide (b ≤ a ∧ a ≤ c)) := by
  unfold spec_l01In.f
  split
  · rename_i h
    have e : (decide (a ≤ c)) = decide (b ≤ a ∧ a ≤ c) := decide_eq_decide.mpr ⟨fun h' => ⟨h, h'⟩, fun h' => h'.2⟩
    rw [e]
  · rename_i h
    have e : (decide (b ≤ a ∧ a ≤ c)) = false := decide_eq_false fun h' => h h'.1
    rw [e]

theorem in_impl (a b c : Int) : impl_within.f a b c = some (decide (b ≤ a ∧ a ≤ c)) := by
  unfold impl_within.f
  split
  · rename_i h
    have e : (decide (a ≤ c)) = decide (b ≤ a ∧ a ≤ c) := decide_eq_decide.mpr ⟨fun h' => ⟨h, h'⟩, fun h' => h'.2⟩
    rw [e]
  · rename_i h
    have e : (decide (b ≤ a ∧ a ≤ c)) = false := decide_eq_false fun h' => h h'.1
    rw [e]

/-- Two callees that answer, together. -/
theorem ev_pair {α β : Type} {g : Nat → Option α} {h : Nat → Option β} {a : α} {b : β} (e : Ev g a) (f : Ev h b) : Ev (fun k => (g k).bind fun x => (h k).bind fun y => some (x, y)) (a, b) := by
  obtain ⟨K, e⟩ := e
  obtain ⟨K', f⟩ := f
  exact ⟨max K K', fun n hn => by show ((g n).bind fun x => (h n).bind fun y => some (x, y)) = _; rw [e n (by omega), f n (by omega)]; rfl⟩
theorem pair_some {α β : Type} {g : Option α} {h : Option β} {a : α} {b : β} (e : (g.bind fun x => h.bind fun y => some (x, y)) = some (a, b)) : g = some a ∧ h = some b := by
  cases g with
  | none => cases e
  | some x =>
    cases h with
    | none => cases e
    | some y =>
      injection e with e
      injection e with e1 e2
      exact ⟨by rw [e1], by rw [e2]⟩

theorem rd_nat (l : List Int) (j : Nat) : rd l j = l.getD j 0 := by unfold rd; simp
theorem rd_getElem (l : List Int) (j : Nat) (h : j < l.length) : rd l j = l[j] := by rw [rd_nat, List.getD_eq_getElem?_getD, List.getElem?_eq_getElem h]; rfl
theorem rd_mem (l : List Int) (j : Nat) (h : j < l.length) : rd l j ∈ l := by rw [rd_getElem l j h]; exact List.getElem_mem h
theorem drop_rd (l : List Int) (j : Nat) (h : j < l.length) : l.drop j = rd l j :: l.drop (j + 1) := by rw [rd_getElem l j h]; exact List.drop_eq_getElem_cons h
theorem rd_set (l : List Int) (a : Nat) (v : Int) (j : Nat) (h : a < l.length) : rd (l.set a v) j = if j = a then v else rd l j := by
  rw [rd_nat, rd_nat, List.getD_eq_getElem?_getD, List.getD_eq_getElem?_getD, List.getElem?_set]
  by_cases e : j = a
  · subst e
    simp [h]
  · rw [if_neg (Ne.symm e), if_neg e]
theorem take_set_snoc (l : List Int) (j : Nat) (v : Int) (h : j < l.length) : (l.set j v).take (j + 1) = l.take j ++ [v] := by
  rw [List.take_succ_eq_append_getElem (by simpa using h)]
  simp [List.take_set_of_le]

/-- Is a token right. -/
def tokB (a b c : Int) : Bool := if b = 0 then decide (0 ≤ a ∧ a ≤ 255 ∧ c = 0) else decide (a = 0 ∧ 3 ≤ b ∧ b ≤ 258 ∧ 1 ≤ c ∧ c ≤ 32768)
theorem tok_spec (a b c : Int) : spec_TokenOk.f a b c = some (tokB a b c) := by
  unfold spec_TokenOk.f tokB
  simp only [in_spec, Option.bind_some]
  split
  · split
    · rename_i h
      have h := of_decide_eq_true h
      congr 1
      rw [Bool.eq_iff_iff]
      simp
      omega
    · rename_i h
      simp at h
      congr 1
      symm
      simp
      omega
  · split
    · split
      · rename_i h1 h
        have h := of_decide_eq_true h
        congr 1
        rw [Bool.eq_iff_iff]
        simp
        omega
      · rename_i h1 h
        simp at h
        congr 1
        symm
        simp
        omega
    · congr 1
      symm
      simp
      omega
theorem tok_impl1 (k : Nat) (a b c : Int) : impl_TokenOk.f (k + 1) a b c = some (tokB a b c) := by
  have j : ∀ x, impl_TokenOk.j0 (k + 1) x a b c = some (if x = true then decide (0 ≤ a ∧ a ≤ 255) else decide (a = 0 ∧ 3 ≤ b ∧ b ≤ 258 ∧ 1 ≤ c ∧ c ≤ 32768)) := by
    intro x
    rw [impl_TokenOk.j0]
    simp only [in_impl, Option.bind_some]
    split
    · rfl
    · split
      · split
        · rename_i h
          have h := of_decide_eq_true h
          congr 1
          rw [Bool.eq_iff_iff]
          simp
          omega
        · rename_i h
          simp at h
          congr 1
          symm
          simp
          omega
      · congr 1
        symm
        simp
        omega
  unfold tokB
  by_cases hb : b = 0
  · rw [if_pos hb]
    have e : (if (c == 0) = true then decide (0 ≤ a ∧ a ≤ 255) else decide (a = 0 ∧ 3 ≤ b ∧ b ≤ 258 ∧ 1 ≤ c ∧ c ≤ 32768)) = decide (0 ≤ a ∧ a ≤ 255 ∧ c = 0) := by
      split
      · rename_i h
        simp at h
        rw [Bool.eq_iff_iff]
        simp
        omega
      · rename_i h
        simp at h
        rw [Bool.eq_iff_iff]
        simp
        omega
    rw [← e]
    unfold impl_TokenOk.f
    rw [if_pos hb]
    exact j (c == 0)
  · rw [if_neg hb]
    unfold impl_TokenOk.f
    rw [if_neg hb]
    exact j false
theorem tok_impl (a b c : Int) : Ev (fun k => impl_TokenOk.f k a b c) (tokB a b c) := ev_ret (fun k => tok_impl1 k a b c)

/-- Symbol i of the program's own tables: its extra bits and its first value. -/
def distRowOk (i : Nat) : Bool :=
  match impl_distSpan.f i with
  | some (m, b) => decide (0 ≤ b) && decide (b ≤ 20) && decide (1 ≤ m) && decide (m ≤ 40000) && (if i = 0 then decide (m = 1) else true)
  | none => false
theorem distRows : ∀ i, i < 30 → distRowOk i = true := by decide +kernel
theorem distRow (i : Nat) (hi : i < 30) : ∃ m b, impl_distSpan.f i = some (m, b) ∧ 0 ≤ b ∧ b ≤ 20 ∧ 1 ≤ m ∧ m ≤ 40000 ∧ (i = 0 → m = 1) := by
  have h := distRows i hi
  unfold distRowOk at h
  cases e : impl_distSpan.f i with
  | none => rw [e] at h; cases h
  | some mb =>
    obtain ⟨m, b⟩ := mb
    rw [e] at h
    simp only [Bool.and_eq_true, decide_eq_true_eq] at h
    obtain ⟨⟨⟨⟨a1, a2⟩, a3⟩, a4⟩, a5⟩ := h
    refine ⟨m, b, rfl, a1, a2, a3, a4, fun h0 => ?_⟩
    rw [if_pos h0, decide_eq_true_eq] at a5
    exact a5
theorem distI_loop (n : Int) (h0 : 1 ≤ n) (h1 : n ≤ 32768) : ∀ (i : Nat) (m b : Int), i < 30 → 0 ≤ b → b ≤ 20 → (i = 0 → m = 1) → ∃ r : Int × Int × Int, Ev (fun k => impl_DistCode.l0 k n (i : Int) m b) r ∧ 0 ≤ r.2.1 ∧ r.2.1 ≤ 20
  | 0, m, b, hi, b0, b1, hm => by
    have hm := hm rfl
    refine ⟨((0 : Nat), b, wrap64 (n - m)), ev_ret (fun k => ?_), b0, b1⟩
    rw [impl_DistCode.l0, if_neg (by omega)]
  | i + 1, m, b, hi, b0, b1, hm => by
    by_cases hc : m > n
    · obtain ⟨m', b', e, c0, c1, c2, c3, c4⟩ := distRow i (by omega)
      obtain ⟨r, g, g0, g1⟩ := distI_loop n h0 h1 i m' b' (by omega) c0 c1 c4
      refine ⟨r, Ev.step (fun k => ?_) g, g0, g1⟩
      have w : wrap64 (((i + 1 : Nat) : Int) - 1) = (i : Int) := by rw [w64_id (by omega) (by omega)]; omega
      rw [impl_DistCode.l0, if_pos hc, w, e, Option.bind_some]
    · refine ⟨(((i + 1 : Nat) : Int), b, wrap64 (n - m)), ev_ret (fun k => ?_), b0, b1⟩
      rw [impl_DistCode.l0, if_neg hc]
theorem distI_some (n : Int) (h0 : 1 ≤ n) (h1 : n ≤ 32768) : ∃ r : Int × Int × Int, Ev (fun k => impl_DistCode.f k n) r ∧ 0 ≤ r.2.1 ∧ r.2.1 ≤ 20 := by
  obtain ⟨m, b, e, c0, c1, c2, c3, c4⟩ := distRow 29 (by omega)
  obtain ⟨r, g, g0, g1⟩ := distI_loop n h0 h1 29 m b (by omega) c0 c1 c4
  refine ⟨r, Ev.congr (fun k => ?_) g, g0, g1⟩
  have e : impl_distSpan.f 29 = some (m, b) := e
  unfold impl_DistCode.f
  rw [in_impl, Option.bind_some, decide_eq_true ⟨h0, h1⟩, if_pos rfl, e, Option.bind_some]
  rfl
def lenRowOk (i : Nat) : Bool :=
  match impl_lengthSpan.f (257 + i : Nat) with
  | some (m, b) => decide (0 ≤ b) && decide (b ≤ 20) && decide (1 ≤ m) && decide (m ≤ 40000) && (if i = 0 then decide (m = 3) else true)
  | none => false
theorem lenRows : ∀ i, i < 29 → lenRowOk i = true := by decide +kernel
theorem lenRow (i : Nat) (hi : i < 29) : ∃ m b, impl_lengthSpan.f (257 + i : Nat) = some (m, b) ∧ 0 ≤ b ∧ b ≤ 20 ∧ 1 ≤ m ∧ m ≤ 40000 ∧ (i = 0 → m = 3) := by
  have h := lenRows i hi
  unfold lenRowOk at h
  cases e : impl_lengthSpan.f (257 + i : Nat) with
  | none => rw [e] at h; cases h
  | some mb =>
    obtain ⟨m, b⟩ := mb
    rw [e] at h
    simp only [Bool.and_eq_true, decide_eq_true_eq] at h
    obtain ⟨⟨⟨⟨a1, a2⟩, a3⟩, a4⟩, a5⟩ := h
    refine ⟨m, b, rfl, a1, a2, a3, a4, fun h0 => ?_⟩
    rw [if_pos h0, decide_eq_true_eq] at a5
    exact a5
theorem lenI_loop (n : Int) (h0 : 3 ≤ n) (h1 : n ≤ 258) : ∀ (i : Nat) (m b : Int), i < 29 → 0 ≤ b → b ≤ 20 → (i = 0 → m = 3) → ∃ r : Int × Int × Int, Ev (fun k => impl_LengthCode.l0 k n ((257 + i : Nat) : Int) m b) r ∧ 0 ≤ r.2.1 ∧ r.2.1 ≤ 20
  | 0, m, b, hi, b0, b1, hm => by
    have hm := hm rfl
    refine ⟨(((257 + 0 : Nat) : Int), b, wrap64 (n - m)), ev_ret (fun k => ?_), b0, b1⟩
    rw [impl_LengthCode.l0, if_neg (by omega)]
  | i + 1, m, b, hi, b0, b1, hm => by
    by_cases hc : m > n
    · obtain ⟨m', b', e, c0, c1, c2, c3, c4⟩ := lenRow i (by omega)
      obtain ⟨r, g, g0, g1⟩ := lenI_loop n h0 h1 i m' b' (by omega) c0 c1 c4
      refine ⟨r, Ev.step (fun k => ?_) g, g0, g1⟩
      have w : wrap64 (((257 + (i + 1) : Nat) : Int) - 1) = ((257 + i : Nat) : Int) := by rw [w64_id (by omega) (by omega)]; omega
      rw [impl_LengthCode.l0, if_pos hc, w, e, Option.bind_some]
    · refine ⟨(((257 + (i + 1) : Nat) : Int), b, wrap64 (n - m)), ev_ret (fun k => ?_), b0, b1⟩
      rw [impl_LengthCode.l0, if_neg hc]
theorem lenI_some (n : Int) (h0 : 3 ≤ n) (h1 : n ≤ 258) : ∃ r : Int × Int × Int, Ev (fun k => impl_LengthCode.f k n) r ∧ 0 ≤ r.2.1 ∧ r.2.1 ≤ 20 := by
  obtain ⟨m, b, e, c0, c1, c2, c3, c4⟩ := lenRow 28 (by omega)
  obtain ⟨r, g, g0, g1⟩ := lenI_loop n h0 h1 28 m b (by omega) c0 c1 c4
  refine ⟨r, Ev.congr (fun k => ?_) g, g0, g1⟩
  have e : impl_lengthSpan.f 285 = some (m, b) := e
  unfold impl_LengthCode.f
  rw [in_impl, Option.bind_some, decide_eq_true ⟨h0, h1⟩, if_pos rfl, e, Option.bind_some]
  rfl
/-- Is a token right. -/
def okT (t : S44) : Bool := tokB t.f0 t.f1 t.f2
theorem cost_some (t : S44) (h : okT t = true) : ∃ c, 0 ≤ c ∧ c ≤ 100 ∧ Ev (fun k => impl_costOf.f k t.f0 t.f1 t.f2) c := by
  unfold okT tokB at h
  by_cases c0 : t.f1 = 0
  · by_cases c1 : t.f0 < 144
    · exact ⟨8, by omega, by omega, Ev.congr (fun k => by unfold impl_costOf.f; rw [if_pos c0, if_pos c1]) (Ev.now _)⟩
    · exact ⟨9, by omega, by omega, Ev.congr (fun k => by unfold impl_costOf.f; rw [if_pos c0, if_neg c1]) (Ev.now _)⟩
  · rw [if_neg c0, decide_eq_true_eq] at h
    obtain ⟨_, h1, h2, h3, h4⟩ := h
    obtain ⟨⟨u, ub, ue⟩, i1, u0, u1⟩ := lenI_some t.f1 h1 h2
    obtain ⟨⟨v, vb, ve⟩, i2, v0, v1⟩ := distI_some t.f2 h3 h4
    dsimp only at u0 u1 v0 v1
    refine ⟨(if u < 280 then 7 else 8) + ub + 5 + vb, by split <;> omega, by split <;> omega, ev_end (ev_pair i1 i2) (fun k hk => ?_)⟩
    obtain ⟨k1, k2⟩ := pair_some hk
    unfold impl_costOf.f
    rw [if_neg c0, k1, Option.bind_some, k2, Option.bind_some]
    dsimp only
    by_cases c1 : u < 280
    · rw [if_pos c1, if_pos c1, w64_id (x := 7 + ub) (by omega) (by omega), w64_id (x := 7 + ub + 5) (by omega) (by omega), w64_id (by omega) (by omega)]
    · rw [if_neg c1, if_neg c1, w64_id (x := 8 + ub) (by omega) (by omega), w64_id (x := 8 + ub + 5) (by omega) (by omega), w64_id (by omega) (by omega)]

theorem tokensOk_loop (l : List S44) (hl : l.length ≤ 1048576) (d : Nat) : ∀ j : Nat, j + d = l.length → Ev (fun k => impl_tokensOk.l0 k l l (l.length : Int) j) ((l.drop j).all okT && decide ((l.length : Int) ≤ 12000)) := by
  induction d with
  | zero =>
    intro j h
    refine ev_ret (fun k => ?_)
    rw [impl_tokensOk.l0, if_neg (by omega), List.drop_of_length_le (by omega)]
    simp
  | succ d ih =>
    intro j h
    have hj : j < l.length := by omega
    have e : Ev (fun k => impl_TokenOk.f k (rd_T44 l j).f0 (rd_T44 l j).f1 (rd_T44 l j).f2) (okT (rd_T44 l j)) := tok_impl _ _ _
    have dr : l.drop j = rd_T44 l j :: l.drop (j + 1) := gd_drop l _ j hj
    rw [dr, List.all_cons]
    by_cases c : okT (rd_T44 l j) = true
    · rw [c, Bool.true_and]
      refine ev_use_step e (fun k hk => ?_) (ih (j + 1) (by omega))
      rw [impl_tokensOk.l0, if_pos (by omega), if_pos (by omega), if_pos (by omega), hk, Option.bind_some, if_pos c, w64_id (x := (j : Int) + 1) (by omega) (by omega)]
      rfl
    · have c' : okT (rd_T44 l j) = false := by simpa using c
      rw [c', Bool.false_and, Bool.false_and]
      refine ev_use_step e (fun k hk => ?_) (Ev.now false)
      rw [impl_tokensOk.l0, if_pos (by omega), if_pos (by omega), if_pos (by omega), hk, Option.bind_some, if_neg c]
theorem tokensOk_is (l : List S44) (hl : l.length ≤ 1048576) : Ev (fun k => impl_tokensOk.f k l) (l.all okT && decide ((l.length : Int) ≤ 12000)) := tokensOk_loop l hl l.length 0 (by omega)

theorem str_back (s : ByteArray) : strOfNums (bytesOf s) = s := by
  have e : bytesOf s = s.data.toList.map fun b => (b.toNat : Int) := by
    rfl
  rw [e]
  unfold strOfNums
  rw [List.map_map]
  have : ((fun n : Int => UInt8.ofNat n.toNat) ∘ fun b : UInt8 => (b.toNat : Int)) = id := by
    funext b
    simp
  rw [this, List.map_id]

open Go.Proofs.Ytaaoojmbomhakaa.MChains
/-- How many bytes from a on are those from b on: from n of them on, at most d more. -/
def run (s : ByteArray) (a b : Nat) : Nat → Nat → Nat
  | 0, n => n
  | d + 1, n => if b + n < s.size ∧ bt s ((a + n : Nat) : Int) = bt s ((b + n : Nat) : Int) then run s a b d (n + 1) else n
def th (s : ByteArray) (a b : Nat) : Nat → Nat → Bool
  | 0, _ => true
  | d + 1, n => if b + n < s.size ∧ bt s ((a + n : Nat) : Int) = bt s ((b + n : Nat) : Int) then th s a b d (n + 1) else false
/-- The best repeat of the places ahead of k, of at most c of them. -/
def ref (s : ByteArray) (at_ : Nat) : Nat → Nat → Int → Int → Int × Int
  | 0, _, b, d => (b, d)
  | _ + 1, 0, b, d => (b, d)
  | k + 1, c + 1, b, d => if th s k at_ 3 0 = true then (if ((run s k at_ 258 0 : Nat) : Int) > b then ref s at_ k c ((run s k at_ 258 0 : Nat) : Int) ((at_ : Int) - k) else ref s at_ k c b d) else ref s at_ k (c + 1) b d
theorem ref_zero (s : ByteArray) (at_ : Nat) : ∀ (k : Nat) (b d : Int), ref s at_ k 0 b d = (b, d)
  | 0, _, _ => rfl
  | _ + 1, _, _ => rfl
theorem run_le (s : ByteArray) (a b : Nat) : ∀ d n, run s a b d n ≤ n + d
  | 0, n => by unfold run; omega
  | d + 1, n => by
    unfold run
    split
    · have := run_le s a b d (n + 1); omega
    · omega
theorem alike_ev (s : ByteArray) (hs : s.size ≤ 100000) (a b : Nat) (hab : a < b) (hb : b ≤ s.size) (d : Nat) : ∀ n : Nat, n + d = 258 → Ev (fun k => impl_alike.l0 k s a b n) ((run s a b d n : Nat) : Int) := by
  induction d with
  | zero =>
    intro n h
    refine ev_ret (fun k => ?_)
    rw [impl_alike.l0, if_neg (by omega)]
    rfl
  | succ d ih =>
    intro n h
    unfold run
    have wa : wrap64 ((a : Int) + n) = ((a + n : Nat) : Int) := by rw [w64_id (by omega) (by omega)]; omega
    have wb : wrap64 ((b : Int) + n) = ((b + n : Nat) : Int) := by rw [w64_id (by omega) (by omega)]; omega
    by_cases h1 : b + n < s.size
    · by_cases h2 : bt s ((a + n : Nat) : Int) = bt s ((b + n : Nat) : Int)
      · rw [if_pos ⟨h1, h2⟩]
        refine Ev.step (fun k => ?_) (ih (n + 1) (by omega))
        rw [impl_alike.l0, if_pos (by omega), wa, wb, if_pos (by omega), if_pos (by omega), if_pos (by omega), if_pos (by omega), if_pos h2, w64_id (x := (n : Int) + 1) (by omega) (by omega)]
        rfl
      · rw [if_neg (fun h3 => h2 h3.2)]
        refine ev_ret (fun k => ?_)
        rw [impl_alike.l0, if_pos (by omega), wa, wb, if_pos (by omega), if_pos (by omega), if_pos (by omega), if_pos (by omega), if_neg h2]
    · rw [if_neg (fun h3 => h1 h3.1)]
      refine ev_ret (fun k => ?_)
      rw [impl_alike.l0, if_pos (by omega), wb, if_neg (by omega)]
def keyB (s : ByteArray) (i : Int) : Int := bt s i * 65536 + bt s (i + 1) * 256 + bt s (i + 2)
theorem key_some (s : ByteArray) (hs : s.size ≤ 100000) (i : Nat) (h : i + 3 ≤ s.size) : impl_ReadBig.f 10 s i 3 = some (keyB s i, true) := by
  have a0 := bt_lo s i
  have a1 := bt_hi s i
  have b0 := bt_lo s ((i : Int) + 1)
  have b1 := bt_hi s ((i : Int) + 1)
  have c0 := bt_lo s ((i : Int) + 2)
  have c1 := bt_hi s ((i : Int) + 2)
  have hw : wrap64 ((s.size : Int) - 3) = s.size - 3 := w64_id (by omega) (by omega)
  have w0 : wrap64 ((i : Int) + 0) = i := by rw [w64_id (by omega) (by omega)]; omega
  have w1 : wrap64 ((i : Int) + 1) = (i : Int) + 1 := w64_id (by omega) (by omega)
  have w2 : wrap64 ((i : Int) + 2) = (i : Int) + 2 := w64_id (by omega) (by omega)
  have o1 : Go.bits .or .i64 (wrap64 (0 * 256)) (wrap64 (bt s i)) = bt s i := by
    rw [w64_id (x := 0 * 256) (by omega) (by omega), w64_id (x := bt s i) (by omega) (by omega), or64 8 _ _ (by omega) (by omega) (by omega) (by omega) (by omega) (by omega)]
    omega
  have o2 : Go.bits .or .i64 (wrap64 (bt s i * 256)) (wrap64 (bt s ((i : Int) + 1))) = bt s i * 256 + bt s ((i : Int) + 1) := by
    rw [w64_id (x := bt s i * 256) (by omega) (by omega), w64_id (x := bt s ((i : Int) + 1)) (by omega) (by omega), or64 8 _ _ (by omega) (by omega) (by omega) (by omega) (by omega) (by omega)]
  have o3 : Go.bits .or .i64 (wrap64 ((bt s i * 256 + bt s ((i : Int) + 1)) * 256)) (wrap64 (bt s ((i : Int) + 2))) = keyB s i := by
    rw [w64_id (x := (bt s i * 256 + bt s ((i : Int) + 1)) * 256) (by omega) (by omega), w64_id (x := bt s ((i : Int) + 2)) (by omega) (by omega), or64 8 _ _ (by omega) (by omega) (by omega) (by omega) (by omega) (by omega)]
    unfold keyB
    omega
  unfold impl_ReadBig.f
  rw [in_impl, decide_eq_true (show (1 : Int) ≤ 3 ∧ (3 : Int) ≤ 4 by decide), Option.bind_some, if_pos rfl, if_neg (by omega), hw, decide_eq_false (show ¬ (i : Int) > (s.size : Int) - 3 by omega)]
  rw [impl_ReadBig.j0, if_neg (by decide)]
  rw [impl_ReadBig.l0, if_pos (by omega), w0, if_pos (by omega), if_pos (by omega), o1, w64_id (x := (0 : Int) + 1) (by omega) (by omega)]
  rw [impl_ReadBig.l0, if_pos (by omega), show (0 : Int) + 1 = 1 by rfl, w1, if_pos (by omega), if_pos (by omega), o2, w64_id (x := (1 : Int) + 1) (by omega) (by omega)]
  rw [impl_ReadBig.l0, if_pos (by omega), show (1 : Int) + 1 = 2 by rfl, w2, if_pos (by omega), if_pos (by omega), o3, w64_id (x := (2 : Int) + 1) (by omega) (by omega)]
  rw [impl_ReadBig.l0, if_neg (by omega)]
theorem key_none (s : ByteArray) (hs : s.size ≤ 100000) (i : Nat) (h : ¬ i + 3 ≤ s.size) : impl_ReadBig.f 10 s i 3 = some (0, false) := by
  have hw : wrap64 ((s.size : Int) - 3) = s.size - 3 := w64_id (by omega) (by omega)
  unfold impl_ReadBig.f
  rw [in_impl, decide_eq_true (show (1 : Int) ≤ 3 ∧ (3 : Int) ≤ 4 by decide), Option.bind_some, if_pos rfl, if_neg (by omega), hw, decide_eq_true (show (i : Int) > (s.size : Int) - 3 by omega)]
  rw [impl_ReadBig.j0, if_pos rfl]
def kvS (s : ByteArray) (i : Nat) : Int := if i + 3 ≤ s.size then keyB s i else 0
def koS (s : ByteArray) (i : Nat) : Bool := decide (i + 3 ≤ s.size)
theorem keyB_rng (s : ByteArray) (i : Int) : 0 ≤ keyB s i ∧ keyB s i ≤ 16777215 := by
  have a0 := bt_lo s i
  have a1 := bt_hi s i
  have b0 := bt_lo s (i + 1)
  have b1 := bt_hi s (i + 1)
  have c0 := bt_lo s (i + 2)
  have c1 := bt_hi s (i + 2)
  unfold keyB
  omega
theorem chains_is (s : ByteArray) (hs : s.size ≤ 100000) : impl_chainsOf.f s = some (chains (kvS s) (koS s) s.size) := by
  unfold impl_chainsOf.f chainsF
  have hk : ∀ i : Nat, impl_ReadBig.f 10 s i 3 = some (kvS s i, koS s i) := by
    intro i
    by_cases h : i + 3 ≤ s.size
    · rw [key_some s hs i h]
      unfold kvS koS
      rw [if_pos h, decide_eq_true h]
    · rw [key_none s hs i h]
      unfold kvS koS
      rw [if_neg h, decide_eq_false h]
  rw [if_pos]
  · have e1 : (fun i : Nat => kvOf (impl_ReadBig.f 10 s i 3)) = kvS s := by funext i; rw [hk]; rfl
    have e2 : (fun i : Nat => koOf (impl_ReadBig.f 10 s i 3)) = koS s := by funext i; rw [hk]; rfl
    rw [e1, e2]
  · refine ⟨hs, fun i _ => ?_⟩
    show okOf (impl_ReadBig.f 10 s i 3) = true
    rw [hk]
    show (Lit.int .i64 (kvS s i)).wf = true
    have := keyB_rng s i
    unfold kvS
    split
    · simp [Lit.wf, IntKind.min, IntKind.max, IntKind.signed, IntKind.bits]
      omega
    · rfl
theorem chains_rd (kv : Nat → Int) (ko : Nat → Bool) (n i : Nat) (h : i < n) : rd (chains kv ko n) (i : Int) = chainAt kv ko i := by
  unfold rd chains
  rw [Int.toNat_natCast, List.getD_eq_getElem?_getD, List.getElem?_map, List.getElem?_range h]
  rfl
/-- Where the search begins: the nearest place ahead of k with the key of 'at'. -/
def fromAt (s : ByteArray) (at_ k : Nat) : Int := if koS s at_ = true then (match prevKey (kvS s) (koS s) k (kvS s at_) with | some p => (p : Int) | none => -1) else -1
theorem same_iff (s : ByteArray) (k at_ : Nat) (h : k < at_) : (th s k at_ 3 0 = true) ↔ (koS s at_ = true ∧ koS s k = true ∧ kvS s k = kvS s at_) := by
  have e : (th s k at_ 3 0 = true) ↔ (at_ + 2 < s.size ∧ bt s k = bt s at_ ∧ bt s ((k : Int) + 1) = bt s ((at_ : Int) + 1) ∧ bt s ((k : Int) + 2) = bt s ((at_ : Int) + 2)) := by
    simp only [th, Nat.add_zero, Nat.zero_add]
    have e1 : ((k + 1 : Nat) : Int) = (k : Int) + 1 := by omega
    have e2 : ((at_ + 1 : Nat) : Int) = (at_ : Int) + 1 := by omega
    have e3 : ((k + (1 + 1) : Nat) : Int) = (k : Int) + 2 := by omega
    have e4 : ((at_ + (1 + 1) : Nat) : Int) = (at_ : Int) + 2 := by omega
    rw [e1, e2, e3, e4]
    constructor
    · intro h
      split at h
      · rename_i h1
        split at h
        · rename_i h2
          split at h
          · rename_i h3
            exact ⟨by omega, h1.2, h2.2, h3.2⟩
          · cases h
        · cases h
      · cases h
    · intro ⟨h1, h2, h3, h4⟩
      rw [if_pos ⟨by omega, h2⟩, if_pos ⟨by omega, h3⟩, if_pos ⟨by omega, h4⟩]
  rw [e]
  unfold koS kvS
  simp only [decide_eq_true_eq]
  have a0 := bt_lo s k
  have a1 := bt_hi s k
  have b0 := bt_lo s ((k : Int) + 1)
  have b1 := bt_hi s ((k : Int) + 1)
  have c0 := bt_lo s ((k : Int) + 2)
  have c1 := bt_hi s ((k : Int) + 2)
  have a0' := bt_lo s at_
  have a1' := bt_hi s at_
  have b0' := bt_lo s ((at_ : Int) + 1)
  have b1' := bt_hi s ((at_ : Int) + 1)
  have c0' := bt_lo s ((at_ : Int) + 2)
  have c1' := bt_hi s ((at_ : Int) + 2)
  constructor
  · intro ⟨h1, h2, h3, h4⟩
    refine ⟨by omega, by omega, ?_⟩
    rw [if_pos (by omega), if_pos (by omega)]
    unfold keyB
    rw [h2, h3, h4]
  · intro ⟨h1, h2, h3⟩
    rw [if_pos h2, if_pos h1] at h3
    unfold keyB at h3
    exact ⟨by omega, by omega, by omega, by omega⟩
theorem from_succ (s : ByteArray) (at_ k : Nat) (h : k < at_) : fromAt s at_ (k + 1) = if th s k at_ 3 0 = true then (k : Int) else fromAt s at_ k := by
  unfold fromAt
  by_cases h1 : koS s at_ = true
  · rw [if_pos h1, if_pos h1]
    by_cases h2 : koS s k = true ∧ kvS s k = kvS s at_
    · have e : prevKey (kvS s) (koS s) (k + 1) (kvS s at_) = some k := if_pos h2
      rw [e, if_pos ((same_iff s k at_ h).2 ⟨h1, h2.1, h2.2⟩)]
    · have e : prevKey (kvS s) (koS s) (k + 1) (kvS s at_) = prevKey (kvS s) (koS s) k (kvS s at_) := if_neg h2
      rw [e, if_neg (fun h3 => h2 ((same_iff s k at_ h).1 h3).2)]
  · rw [if_neg h1, if_neg h1, if_neg (fun h3 => h1 ((same_iff s k at_ h).1 h3).1)]
theorem from_neg (s : ByteArray) (at_ k : Nat) : fromAt s at_ k = -1 ∨ 0 ≤ fromAt s at_ k := by
  unfold fromAt
  split
  · split <;> omega
  · exact Or.inl rfl
/-- The program's loop. -/
theorem impl_best_loop (s : ByteArray) (hs : s.size ≤ 100000) (at_ : Nat) (hat : at_ < s.size) (c : Nat) (hc : c ≤ 64) : ∀ (k : Nat) (seen : Nat) (x y : Int), k ≤ at_ → seen ≤ c →
    Ev (fun f => impl_best.l0 f s (chains (kvS s) (koS s) s.size) at_ c x y (fromAt s at_ k) seen) (ref s at_ k (c - seen) x y) := by
  intro k
  induction k with
  | zero =>
    intro seen x y hk hsn
    have hf : fromAt s at_ 0 = -1 := by unfold fromAt; split <;> rfl
    rw [hf]
    refine Ev.step (f := fun f => impl_best.j1 f s (chains (kvS s) (koS s) s.size) at_ c x y (-1) seen false) (fun f => ?_) ?_
    · rw [impl_best.l0]
      split <;> rfl
    · refine ev_ret (fun f => ?_)
      rw [impl_best.j1, if_neg (by decide)]
      rfl
  | succ k ih =>
    intro seen x y hk hsn
    by_cases hlt : seen < c
    · obtain ⟨m, hm⟩ : ∃ m, c - seen = m + 1 := ⟨c - seen - 1, by omega⟩
      have e1 : (seen : Int) < (c : Int) := by omega
      have e2 : k ≤ at_ := by omega
      have e3 : seen + 1 ≤ c := by omega
      have e4 : c - (seen + 1) = m := by omega
      have e5 : (k : Int) ≥ 0 := by omega
      have e6 : k < at_ := by omega
      have e7 : at_ ≤ s.size := by omega
      have e8 : k < s.size := by omega
      have e9 : (k : Int) < ((chains (kvS s) (koS s) s.size).length : Int) := by rw [chains_len]; omega
      have w1 : wrap64 ((at_ : Int) - k) = (at_ : Int) - k := w64_id (by omega) (by omega)
      have w2 : wrap64 ((seen : Int) + 1) = ((seen + 1 : Nat) : Int) := by rw [w64_id (by omega) (by omega)]; omega
      rw [hm, ref, from_succ s at_ k e6]
      cases hth : th s k at_ 3 0 with
      | true =>
        rw [if_pos rfl, if_pos rfl]
        have ha := alike_ev s hs k at_ e6 e7 258 0 (by decide)
        generalize ((run s k at_ 258 0 : Nat) : Int) = R at ha ⊢
        have hch : chainAt (kvS s) (koS s) k = fromAt s at_ k := by
          have h3 := (same_iff s k at_ e6).1 hth
          unfold chainAt fromAt
          rw [if_pos h3.2.1, if_pos h3.1, h3.2.2]
          rfl
        have hrd : rd (chains (kvS s) (koS s) s.size) (k : Int) = fromAt s at_ k := by rw [chains_rd _ _ _ _ e8, hch]
        refine Ev.step (f := fun f => impl_best.j1 f s (chains (kvS s) (koS s) s.size) at_ c x y k seen true) (fun f => ?_) ?_
        · rw [impl_best.l0, if_pos e1, decide_eq_true e5]
        · by_cases hg : R > x
          · rw [if_pos hg]
            have h5 := ih (seen + 1) R ((at_ : Int) - k) e2 e3
            rw [e4] at h5
            refine ev_use_step ha (fun f hf => ?_) h5
            have hf' : impl_alike.l0 f s k at_ 0 = some R := hf
            rw [impl_best.j1, if_pos rfl]
            unfold impl_alike.f
            rw [hf', Option.bind_some, if_pos hg, if_pos e5, if_pos e9, hrd, w1, w2]
          · rw [if_neg hg]
            have h5 := ih (seen + 1) x y e2 e3
            rw [e4] at h5
            refine ev_use_step ha (fun f hf => ?_) h5
            have hf' : impl_alike.l0 f s k at_ 0 = some R := hf
            rw [impl_best.j1, if_pos rfl]
            unfold impl_alike.f
            rw [hf', Option.bind_some, if_neg hg, if_pos e5, if_pos e9, hrd, w2]
      | false =>
        rw [if_neg (by decide), if_neg (by decide)]
        have h5 := ih seen x y e2 hsn
        rw [hm] at h5
        exact h5
    · rw [show c - seen = 0 by omega, ref_zero]
      refine Ev.step (f := fun f => impl_best.j1 f s (chains (kvS s) (koS s) s.size) at_ c x y (fromAt s at_ (k + 1)) seen false) (fun f => ?_) ?_
      · rw [impl_best.l0, if_neg (by omega)]
      · refine ev_ret (fun f => ?_)
        rw [impl_best.j1, if_neg (by decide)]
theorem best_f (s : ByteArray) (hs : s.size ≤ 100000) (at_ : Nat) (hat : at_ < s.size) (c : Nat) (hc : c ≤ 64) : Ev (fun f => impl_best.f f s (chains (kvS s) (koS s) s.size) at_ c) (ref s at_ at_ c 0 0) := by
  have h := impl_best_loop s hs at_ hat c hc at_ 0 0 0 (Nat.le_refl _) (Nat.zero_le _)
  rw [Nat.sub_zero] at h
  refine Ev.congr (fun f => ?_) h
  have hch : rd (chains (kvS s) (koS s) s.size) (at_ : Int) = fromAt s at_ at_ := by
    rw [chains_rd _ _ _ _ hat]
    rfl
  unfold impl_best.f
  rw [if_neg (by omega), if_pos (by omega), if_pos (by rw [chains_len]; omega), hch]
  rfl

theorem run_props (s : ByteArray) (a b : Nat) : ∀ d n, b + n ≤ s.size → n ≤ run s a b d n ∧ run s a b d n ≤ n + d ∧ b + run s a b d n ≤ s.size ∧ (∀ k, n ≤ k → k < run s a b d n → bt s ((a + k : Nat) : Int) = bt s ((b + k : Nat) : Int)) ∧
    (run s a b d n = n + d ∨ b + run s a b d n = s.size ∨ bt s ((a + run s a b d n : Nat) : Int) ≠ bt s ((b + run s a b d n : Nat) : Int))
  | 0, n, h => ⟨Nat.le_refl _, Nat.le_refl _, h, fun k h1 h2 => by unfold run at h2; omega, Or.inl rfl⟩
  | d + 1, n, h => by
    by_cases hc : b + n < s.size ∧ bt s ((a + n : Nat) : Int) = bt s ((b + n : Nat) : Int)
    · obtain ⟨h1, h2, h3, h4, h5⟩ := run_props s a b d (n + 1) (by omega)
      have e : run s a b (d + 1) n = run s a b d (n + 1) := by rw [run, if_pos hc]
      rw [e]
      refine ⟨by omega, by omega, h3, fun k k1 k2 => ?_, ?_⟩
      · by_cases hk : k = n
        · rw [hk]; exact hc.2
        · exact h4 k (by omega) k2
      · rcases h5 with h5 | h5 | h5
        · exact Or.inl (by omega)
        · exact Or.inr (Or.inl h5)
        · exact Or.inr (Or.inr h5)
    · have e : run s a b (d + 1) n = n := by rw [run, if_neg hc]
      rw [e]
      refine ⟨Nat.le_refl _, by omega, h, fun k k1 k2 => by omega, ?_⟩
      by_cases h1 : b + n < s.size
      · exact Or.inr (Or.inr (fun h2 => hc ⟨h1, h2⟩))
      · exact Or.inr (Or.inl (by omega))
theorem th_run (s : ByteArray) (a b : Nat) : ∀ d n e, th s a b d n = true → n + d ≤ run s a b (d + e) n
  | 0, n, e, h => by
    by_cases hc : b + n ≤ s.size
    · have := (run_props s a b (0 + e) n hc).1; omega
    · have : ∀ q, run s a b q n = n := by
        intro q
        cases q with
        | zero => rfl
        | succ q => rw [run, if_neg (by omega)]
      rw [this]; omega
  | d + 1, n, e, h => by
    rw [th] at h
    split at h
    · rename_i hc
      have := th_run s a b d (n + 1) e h
      rw [show d + 1 + e = (d + e) + 1 by omega, run, if_pos hc]
      omega
    · cases h
/-- What a best repeat is: none, or one of the places ahead. -/
def RefOk (s : ByteArray) (at_ : Nat) (b d : Int) : Prop := (b = 0 ∧ d = 0) ∨ ∃ p n : Nat, p < at_ ∧ b = (n : Int) ∧ d = (at_ : Int) - p ∧ 3 ≤ n ∧ run s p at_ 258 0 = n
theorem ref_ok (s : ByteArray) (at_ : Nat) : ∀ (k c : Nat) (b d : Int), k ≤ at_ → RefOk s at_ b d → RefOk s at_ (ref s at_ k c b d).1 (ref s at_ k c b d).2
  | 0, c, b, d, hk, h => h
  | k + 1, 0, b, d, hk, h => h
  | k + 1, c + 1, b, d, hk, h => by
    rw [ref]
    split
    · rename_i ht
      split
      · exact ref_ok s at_ k c _ _ (by omega) (Or.inr ⟨k, run s k at_ 258 0, by omega, rfl, rfl, by have := th_run s k at_ 3 0 255 ht; omega, rfl⟩)
      · exact ref_ok s at_ k c _ _ (by omega) h
    · exact ref_ok s at_ k (c + 1) _ _ (by omega) h
/-- The best repeat at a place; none at or behind the end. -/
def bm (s : ByteArray) (c : Nat) (at_ : Nat) : Int × Int := if at_ < s.size then ref s at_ at_ c 0 0 else (0, 0)
theorem bm_ok (s : ByteArray) (c at_ : Nat) : RefOk s at_ (bm s c at_).1 (bm s c at_).2 := by
  unfold bm
  split
  · exact ref_ok s at_ at_ c 0 0 (Nat.le_refl _) (Or.inl ⟨rfl, rfl⟩)
  · exact Or.inl ⟨rfl, rfl⟩
theorem bm_rng (s : ByteArray) (c at_ : Nat) : 0 ≤ (bm s c at_).1 ∧ (bm s c at_).1 ≤ 258 ∧ ((bm s c at_).1 = 0 → (bm s c at_).2 = 0) ∧ ((bm s c at_).1 ≠ 0 → 3 ≤ (bm s c at_).1 ∧ (at_ : Int) + (bm s c at_).1 ≤ s.size ∧ 1 ≤ (bm s c at_).2 ∧ (bm s c at_).2 ≤ at_) := by
  have hs : (bm s c at_).1 ≠ 0 → at_ < s.size := by
    intro h
    unfold bm at h
    by_cases h1 : at_ < s.size
    · exact h1
    · rw [if_neg h1] at h; exact absurd rfl h
  rcases bm_ok s c at_ with ⟨h1, h2⟩ | ⟨p, n, h1, h2, h3, h4, h5⟩
  · exact ⟨by omega, by omega, fun _ => h2, fun h => absurd h1 h⟩
  · have h6 := run_le s p at_ 258 0
    refine ⟨by omega, by omega, fun h => by omega, fun h => ?_⟩
    have h7 := hs h
    have h8 := (run_props s p at_ 258 0 (by omega)).2.2.1
    omega

theorem impl_bm (s : ByteArray) (hs : s.size ≤ 2600) (C : Nat) (h5 : C ≤ 64) (A : Nat) : Ev (fun k => impl_best.f k s (chains (kvS s) (koS s) s.size) (A : Int) (C : Int)) (bm s C A) := by
  unfold bm
  by_cases h : A < s.size
  · rw [if_pos h]
    exact best_f s (by omega) A h C h5
  · rw [if_neg h]
    refine Ev.congr (fun k => ?_) (Ev.now (0, 0))
    unfold impl_best.f
    rw [if_pos (by omega)]
/-- The tokens of a text from a place on, d rounds at most. -/
def searchR (s : ByteArray) (c : Nat) (lazy : Bool) : Nat → Nat → List S44 → List S44
  | 0, _, o => o
  | d + 1, i, o => if i < s.size then (if (bm s c i).1 = 0 ∨ (lazy = true ∧ (bm s c (i + 1)).1 > (bm s c i).1) then searchR s c lazy d (i + 1) (o ++ [⟨bt s (i : Int), 0, 0⟩]) else searchR s c lazy d (i + (bm s c i).1.toNat) (o ++ [⟨0, (bm s c i).1, (bm s c i).2⟩])) else o
theorem searchR_len (s : ByteArray) (c : Nat) (lazy : Bool) : ∀ d i o, (searchR s c lazy d i o).length ≤ o.length + d
  | 0, i, o => Nat.le_refl _
  | d + 1, i, o => by
    unfold searchR
    split
    · split
      · have := searchR_len s c lazy d (i + 1) (o ++ [⟨bt s (i : Int), 0, 0⟩]); simp at this; omega
      · have := searchR_len s c lazy d (i + (bm s c i).1.toNat) (o ++ [⟨0, (bm s c i).1, (bm s c i).2⟩]); simp at this; omega
    · omega
theorem wbt (s : ByteArray) (i : Int) : wrap64 (bt s i) = bt s i := by
  have := bt_lo s i
  have := bt_hi s i
  exact w64_id (by omega) (by omega)
theorem search_loop (s : ByteArray) (hs : s.size ≤ 2600) (C : Nat) (h5 : C ≤ 64) (lazy : Bool) : ∀ (d i : Nat) (o : List S44), s.size < i + d → i ≤ 3000 → o.length ≤ i →
    Ev (fun k => impl_search.l0 k s (C : Int) lazy (chains (kvS s) (koS s) s.size) o (i : Int)) (searchR s C lazy d i o, true) := by
  intro d
  induction d with
  | zero =>
    intro i o h hi ho
    refine ev_ret (fun k => ?_)
    rw [impl_search.l0, if_neg (by omega)]
    rfl
  | succ d ih =>
    intro i o h hi ho
    by_cases hlt : i < s.size
    · have e := impl_bm s hs C h5 i
      have e1 := impl_bm s hs C h5 (i + 1)
      obtain ⟨b0, b1, b2, b3⟩ := bm_rng s C i
      rw [searchR, if_pos hlt]
      have hw1 : wrap64 ((i : Int) + 1) = ((i + 1 : Nat) : Int) := by rw [w64_id (by omega) (by omega)]; omega
      have hw2 : wrap64 ((i : Int) + (bm s C i).1) = ((i + (bm s C i).1.toNat : Nat) : Int) := by rw [w64_id (by omega) (by omega)]; omega
      have hlit := ih (i + 1) (o ++ [⟨bt s (i : Int), 0, 0⟩]) (by omega) (by omega) (by simp; omega)
      have hj : ∀ x : Bool, x = (lazy && decide ((bm s C i).1 > 0)) → Ev (fun k => impl_search.j1 k s (C : Int) lazy (chains (kvS s) (koS s) s.size) o (i : Int) (bm s C i).1 (bm s C i).2 x)
          (if (bm s C i).1 = 0 ∨ (lazy = true ∧ (bm s C (i + 1)).1 > (bm s C i).1) then searchR s C lazy d (i + 1) (o ++ [⟨bt s (i : Int), 0, 0⟩]) else searchR s C lazy d (i + (bm s C i).1.toNat) (o ++ [⟨0, (bm s C i).1, (bm s C i).2⟩]), true) := by
        intro x hx
        by_cases hz : (bm s C i).1 = 0
        · have hx2 : x = false := by rw [hx, hz]; simp
          rw [if_pos (Or.inl hz), hx2]
          refine Ev.step (fun k => ?_) hlit
          rw [impl_search.j1, if_neg (by decide), if_pos hz, if_pos (by omega), if_pos (by omega), if_pos (by omega), hw1, wbt]
        · have hnz := ih (i + (bm s C i).1.toNat) (o ++ [⟨0, (bm s C i).1, (bm s C i).2⟩]) (by omega) (by omega) (by simp; omega)
          cases lazy with
          | false =>
            have hx2 : x = false := by rw [hx]; rfl
            rw [if_neg (by simp; exact hz), hx2]
            refine Ev.step (fun k => ?_) hnz
            rw [impl_search.j1, if_neg (by decide), if_neg hz, if_pos (by omega), hw2]
          | true =>
            have hx2 : x = true := by rw [hx, decide_eq_true (by omega)]; rfl
            rw [hx2]
            by_cases hg : (bm s C (i + 1)).1 > (bm s C i).1
            · rw [if_pos (Or.inr ⟨rfl, hg⟩)]
              refine ev_use_step e1 (fun k hk => ?_) hlit
              rw [impl_search.j1, if_pos rfl, hw1, hk, Option.bind_some, if_pos hg, if_pos rfl, if_pos (by omega), if_pos (by omega), if_pos (by omega), wbt]
            · rw [if_neg (by simp [hz, hg])]
              refine ev_use_step e1 (fun k hk => ?_) hnz
              rw [impl_search.j1, if_pos rfl, hw1, hk, Option.bind_some, if_neg hg, if_neg hz, if_pos (by omega), hw2]
      cases lazy with
      | false =>
        refine ev_use_step e (fun k hk => ?_) (hj false rfl)
        rw [impl_search.l0, if_pos (by omega), hk, Option.bind_some, if_neg (by decide)]
      | true =>
        refine ev_use_step e (fun k hk => ?_) (hj (decide ((bm s C i).1 > 0)) rfl)
        rw [impl_search.l0, if_pos (by omega), hk, Option.bind_some, if_pos rfl]
    · refine ev_ret (fun k => ?_)
      rw [impl_search.l0, if_neg (by omega), searchR, if_neg hlt]
theorem search_is (s : ByteArray) (hs : s.size ≤ 2600) (C : Nat) (h4 : 1 ≤ C) (h5 : C ≤ 64) (lazy : Bool) : Ev (fun k => impl_search.f k s (C : Int) lazy) (searchR s C lazy (s.size + 1) 0 [], true) := by
  refine Ev.congr (fun k => ?_) (search_loop s hs C h5 lazy (s.size + 1) 0 [] (by omega) (by omega) (by simp))
  unfold impl_search.f impl_searchOk.f
  rw [if_pos (by omega), in_impl, decide_eq_true (⟨by omega, by omega⟩ : (1 : Int) ≤ (C : Int) ∧ (C : Int) ≤ 64), Option.bind_some, Option.bind_some, if_pos rfl, chains_is s (by omega), Option.bind_some]
  rfl
theorem search_no (s : ByteArray) (c : Int) (lazy : Bool) (h : ¬ (s.size ≤ 2600 ∧ 1 ≤ c ∧ c ≤ 64)) : Ev (fun k => impl_search.f k s c lazy) ([], false) := by
  refine Ev.congr (fun k => ?_) (Ev.now ([], false))
  unfold impl_search.f impl_searchOk.f
  by_cases h1 : (s.size : Int) ≤ 2600
  · rw [if_pos h1, in_impl, Option.bind_some, Option.bind_some, decide_eq_false (by omega)]
    rfl
  · rw [if_neg h1, Option.bind_some]
    rfl
theorem way_set (ways : List S44) (j : Nat) (v : S44) (h : j < ways.length) : rd_T44 (ways.set j v) (j : Int) = v := by
  unfold rd_T44
  rw [Int.toNat_natCast, List.getD_eq_getElem?_getD, List.getElem?_set_self h]
  rfl
open Go.Proofs.Ytaaoojmbomhakaa.MExpand
theorem spec_expand_is (s : ByteArray) (l : List S44) (hl : l.length ≤ 2000000) : spec_Expand.f s l = expandF s l.length (fun i => ((rd_T44 l (i : Int)).f0, (rd_T44 l (i : Int)).f1, (rd_T44 l (i : Int)).f2)) (fun i => tokB (rd_T44 l (i : Int)).f0 (rd_T44 l (i : Int)).f1 (rd_T44 l (i : Int)).f2) := by
  unfold spec_Expand.f
  simp only [tok_spec, Option.isSome_some, implies_true, and_true, Option.getD_some]
  rw [if_pos hl]
open Go.Proofs.Ytaaoojmbomhakaa.MBytes in
theorem bytesOf_rdP (s : ByteArray) (i : Nat) (h : i < s.size) : rd (bytesOf s) (i : Int) = bt s (i : Int) := by
  unfold rd bytesOf bt
  rw [Int.toNat_natCast, dif_pos h, List.getD_eq_getElem?_getD, List.getElem?_map, List.getElem?_eq_getElem (by simpa using h)]
  rfl
open Go.Proofs.Ytaaoojmbomhakaa.MBytes in
theorem bytesLenP (s : ByteArray) : (bytesOf s).length = s.size := bytesOf_length s
abbrev Tok := S44
def stepT (t : Tok) : Nat := if t.f1 = 0 then 1 else t.f1.toNat
/-- A token that may stand at a place: its byte, or a beginning of its best repeat. -/
def Fits (s : ByteArray) (c i : Nat) (t : Tok) : Prop := t = ⟨bt s (i : Int), 0, 0⟩ ∨ ∃ n : Nat, 3 ≤ n ∧ (n : Int) ≤ (bm s c i).1 ∧ t = ⟨0, (n : Int), (bm s c i).2⟩
def Path (s : ByteArray) (c : Nat) : Nat → List Tok → Prop
  | i, [] => i = s.size
  | i, t :: l => i < s.size ∧ Fits s c i t ∧ Path s c (i + stepT t) l
def tot (cf : Tok → Int) : List Tok → Int
  | [] => 0
  | t :: l => cf t + tot cf l
theorem fits_step (s : ByteArray) (c i : Nat) (t : Tok) (hi : i < s.size) (h : Fits s c i t) : 1 ≤ stepT t ∧ i + stepT t ≤ s.size := by
  rcases h with h | ⟨n, h1, h2, h3⟩
  · rw [h]
    unfold stepT
    rw [if_pos rfl]
    omega
  · obtain ⟨r0, r1, r2, r3⟩ := bm_rng s c i
    have := r3 (by omega)
    rw [h3]
    unfold stepT
    rw [if_neg (show ¬ ((n : Int) = 0) by omega)]
    show 1 ≤ ((n : Int)).toNat ∧ i + ((n : Int)).toNat ≤ s.size
    omega
theorem fits_ok (s : ByteArray) (hs : s.size ≤ 2600) (c i : Nat) (t : Tok) (hi : i < s.size) (h : Fits s c i t) : okT t = true := by
  rcases h with h | ⟨n, h1, h2, h3⟩
  · have b0 := bt_lo s (i : Int)
    have b1 := bt_hi s (i : Int)
    rw [h]
    show tokB (bt s (i : Int)) 0 0 = true
    unfold tokB
    rw [if_pos rfl]
    exact decide_eq_true ⟨b0, b1, rfl⟩
  · obtain ⟨r0, r1, r2, r3⟩ := bm_rng s c i
    have := r3 (by omega)
    rw [h3]
    show tokB 0 (n : Int) (bm s c i).2 = true
    unfold tokB
    rw [if_neg (by omega)]
    exact decide_eq_true ⟨rfl, by omega, by omega, by omega, by omega⟩
theorem path_ok (s : ByteArray) (hs : s.size ≤ 2600) (c : Nat) : ∀ (l : List Tok) (i : Nat), Path s c i l → l.all okT = true ∧ i + l.length ≤ s.size
  | [], i, h => ⟨rfl, by have h : i = s.size := h; simp; omega⟩
  | t :: l, i, h => by
    obtain ⟨h1, h2, h3⟩ := h
    obtain ⟨a1, a2⟩ := path_ok s hs c l _ h3
    have := fits_step s c i t h1 h2
    refine ⟨by rw [List.all_cons, fits_ok s hs c i t h1 h2, a1]; rfl, ?_⟩
    rw [List.length_cons]
    omega
theorem take_rd (xs : List Int) (i : Nat) (h : i < xs.length) : xs.take i ++ [rd xs (i : Int)] = xs.take (i + 1) := by
  rw [rd_getElem xs i h, List.take_succ_eq_append_getElem h]
theorem rd_take (xs : List Int) (p j : Nat) (h : j < p) : rd (xs.take p) (j : Int) = rd xs (j : Int) := by
  unfold rd
  rw [Int.toNat_natCast, List.getD_eq_getElem?_getD, List.getD_eq_getElem?_getD, List.getElem?_take, if_pos h]
theorem copy_take (s : ByteArray) (hs : s.size ≤ 2600) (D : Nat) (h1 : 1 ≤ D) : ∀ (k p : Nat), D ≤ p → p + k ≤ s.size → (∀ j, j < k → bt s ((p + j - D : Nat) : Int) = bt s ((p + j : Nat) : Int)) → copyF k (D : Int) ((bytesOf s).take p) = some ((bytesOf s).take (p + k))
  | 0, p, hd, hp, hb => rfl
  | k + 1, p, hd, hp, hb => by
    have hl := bytesLenP s
    have hlt : ((bytesOf s).take p).length = p := by rw [List.length_take]; omega
    have e1 : rd ((bytesOf s).take p) ((((bytesOf s).take p).length : Int) - (D : Int)) = rd (bytesOf s) (p : Int) := by
      rw [hlt, show (p : Int) - (D : Int) = ((p - D : Nat) : Int) by omega, rd_take _ _ _ (by omega), bytesOf_rdP s _ (by omega), bytesOf_rdP s _ (by omega)]
      exact hb 0 (by omega)
    rw [copyF, if_pos (by rw [hlt]; omega), e1, take_rd _ _ (by omega), copy_take s hs D h1 k (p + 1) (by omega) (by omega) (fun j hj => by
      have := hb (j + 1) (by omega)
      rw [show p + 1 + j - D = p + (j + 1) - D by omega, show p + 1 + j = p + (j + 1) by omega]
      exact this), show p + 1 + k = p + (k + 1) by omega]
theorem fits_tok (s : ByteArray) (hs : s.size ≤ 2600) (c i : Nat) (t : Tok) (hi : i < s.size) (h : Fits s c i t) : t.f2 ≤ i ∧ tokF ((bytesOf s).take i) (t.f0, t.f1, t.f2) = some ((bytesOf s).take (i + stepT t)) := by
  have hl := bytesLenP s
  rcases h with h | ⟨n, h1, h2, h3⟩
  · have b0 := bt_lo s (i : Int)
    have b1 := bt_hi s (i : Int)
    rw [h]
    refine ⟨by show (0 : Int) ≤ i; omega, ?_⟩
    unfold tokF stepT
    rw [if_pos rfl, if_pos rfl]
    show some ((bytesOf s).take i ++ [bt s (i : Int) % 256]) = _
    rw [show bt s (i : Int) % 256 = bt s (i : Int) by omega, ← bytesOf_rdP s i hi, take_rd _ _ (by omega)]
  · obtain ⟨r0, r1, r2, r3⟩ := bm_rng s c i
    have hr := r3 (by omega)
    rcases bm_ok s c i with ⟨z1, z2⟩ | ⟨p, m, q1, q2, q3, q4, q5⟩
    · omega
    · obtain ⟨_, g2, g3, g4, g5⟩ := run_props s p i 258 0 (by omega)
      rw [q5] at g2 g3 g4 g5
      rw [h3]
      refine ⟨by show (bm s c i).2 ≤ i; omega, ?_⟩
      unfold tokF stepT
      rw [if_neg (show ¬ ((n : Int) = 0) by omega), if_neg (show ¬ ((n : Int) = 0) by omega)]
      show (if (0 : Int) ≤ (n : Int) ∧ (n : Int) ≤ 1000000 then copyF ((n : Int)).toNat (bm s c i).2 ((bytesOf s).take i) else none) = some ((bytesOf s).take (i + ((n : Int)).toNat))
      rw [if_pos (by omega), Int.toNat_natCast, q3, show (i : Int) - (p : Int) = ((i - p : Nat) : Int) by omega]
      refine copy_take s hs (i - p) (by omega) n i (by omega) (by omega) (fun j hj => ?_)
      have := g4 j (Nat.zero_le _) (by omega)
      rw [show i + j - (i - p) = p + j by omega]
      exact this
/-- A path's tokens make the text. -/
theorem path_exp (s : ByteArray) (hs : s.size ≤ 2600) (c : Nat) (L : List Tok) : ∀ (d j i : Nat), j + d = L.length → i ≤ s.size → Path s c i (L.drop j) →
    expF 0 (fun i => ((rd_T44 L (i : Int)).f0, (rd_T44 L (i : Int)).f1, (rd_T44 L (i : Int)).f2)) (fun i => tokB (rd_T44 L (i : Int)).f0 (rd_T44 L (i : Int)).f1 (rd_T44 L (i : Int)).f2) d j ((bytesOf s).take i) = some (s, true)
  | 0, j, i, hj, hi, h => by
    have hl := bytesLenP s
    rw [List.drop_of_length_le (by omega)] at h
    have h : i = s.size := h
    rw [expF, List.drop_zero, List.take_of_length_le (by omega), str_back]
  | d + 1, j, i, hj, hi, h => by
    have hl := bytesLenP s
    have dr : L.drop j = rd_T44 L (j : Int) :: L.drop (j + 1) := gd_drop L _ j (by omega)
    rw [dr] at h
    obtain ⟨h1, h2, h3⟩ := h
    have ok := fits_ok s hs c i _ h1 h2
    have st := fits_step s c i _ h1 h2
    obtain ⟨f1, f2⟩ := fits_tok s hs c i _ h1 h2
    have ok : tokB (rd_T44 L (j : Int)).f0 (rd_T44 L (j : Int)).f1 (rd_T44 L (j : Int)).f2 = true := ok
    rw [expF, if_pos ok, if_neg (by rw [List.length_take]; dsimp only; omega), f2, Option.bind_some, if_neg (by rw [List.length_take]; omega)]
    exact path_exp s hs c L d (j + 1) _ (by omega) (by omega) h3
theorem path_expand (s : ByteArray) (hs : s.size ≤ 2600) (c : Nat) (L : List Tok) (h : Path s c 0 L) : spec_Expand.f ⟨#[]⟩ L = some (s, true) := by
  have hl := (path_ok s hs c L 0 h).2
  rw [spec_expand_is ⟨#[]⟩ L (by omega)]
  unfold expandF
  rw [if_neg (by show ¬ ((0 : Nat) : Int) > 12000; omega)]
  exact path_exp s hs c L L.length 0 0 (by omega) (Nat.zero_le _) h
/-- What the program's costOf tells. -/
def CostFn (cf : Tok → Int) : Prop := ∀ t, okT t = true → 0 ≤ cf t ∧ cf t ≤ 100 ∧ Ev (fun k => impl_costOf.f k t.f0 t.f1 t.f2) (cf t)
theorem cost_fn : ∃ cf, CostFn cf := by
  have : ∀ t : Tok, ∃ c : Int, okT t = true → 0 ≤ c ∧ c ≤ 100 ∧ Ev (fun k => impl_costOf.f k t.f0 t.f1 t.f2) c := by
    intro t
    by_cases h : okT t = true
    · obtain ⟨c, h0, h1, e⟩ := cost_some t h
      exact ⟨c, fun _ => ⟨h0, h1, e⟩⟩
    · exact ⟨0, fun h2 => absurd h2 h⟩
  exact Classical.skolem.1 this
theorem cost_lit (cf : Tok → Int) (hcf : CostFn cf) (s : ByteArray) (i : Nat) : cf ⟨bt s (i : Int), 0, 0⟩ ≤ 9 := by
  have b0 := bt_lo s (i : Int)
  have b1 := bt_hi s (i : Int)
  have ok : okT (⟨bt s (i : Int), 0, 0⟩ : Tok) = true := by
    show tokB (bt s (i : Int)) 0 0 = true
    unfold tokB
    rw [if_pos rfl]
    exact decide_eq_true ⟨b0, b1, rfl⟩
  obtain ⟨_, _, K, e⟩ := hcf _ ok
  have e : impl_costOf.f K (bt s (i : Int)) 0 0 = some _ := e K (Nat.le_refl _)
  unfold impl_costOf.f at e
  rw [if_pos rfl] at e
  split at e
  · injection e with e; omega
  · injection e with e; omega
theorem path_cost (cf : Tok → Int) (hcf : CostFn cf) (s : ByteArray) (hs : s.size ≤ 2600) (c : Nat) (L : List Tok) (hL : L.length ≤ 12000) : ∀ (d j i : Nat) (sum : Int), j + d = L.length → 0 ≤ sum → sum ≤ 100 * j → Path s c i (L.drop j) → Ev (fun k => impl_TokensCost.l0 k sum L (L.length : Int) (j : Int)) (sum + tot cf (L.drop j), true) := by
  intro d
  induction d with
  | zero =>
    intro j i sum hj s0 s1 h
    refine ev_ret (fun k => ?_)
    rw [impl_TokensCost.l0, if_neg (by omega), List.drop_of_length_le (by omega)]
    show some (sum, true) = some (sum + 0, true)
    rw [Int.add_zero]
  | succ d ih =>
    intro j i sum hj s0 s1 h
    have dr : L.drop j = rd_T44 L (j : Int) :: L.drop (j + 1) := gd_drop L _ j (by omega)
    rw [dr] at h ⊢
    obtain ⟨h1, h2, h3⟩ := h
    obtain ⟨c0, c1, e⟩ := hcf _ (fits_ok s hs c i _ h1 h2)
    have g := ih (j + 1) _ (sum + cf (rd_T44 L (j : Int))) (by omega) (by omega) (by omega) h3
    rw [Int.add_assoc] at g
    refine ev_use_step e (fun k hk => ?_) g
    rw [impl_TokensCost.l0, if_pos (by omega), if_pos (by omega), if_pos (by omega), hk, Option.bind_some, w64_id (x := sum + _) (by omega) (by omega), w64_id (x := (j : Int) + 1) (by omega) (by omega)]
    rfl
theorem path_total (cf : Tok → Int) (hcf : CostFn cf) (s : ByteArray) (hs : s.size ≤ 2600) (c : Nat) (L : List Tok) (h : Path s c 0 L) : Ev (fun k => impl_TokensCost.f k L) (tot cf L, true) := by
  obtain ⟨ha, hl⟩ := path_ok s hs c L 0 h
  have eo := tokensOk_is L (by omega)
  rw [ha, Bool.true_and, decide_eq_true (by omega)] at eo
  have g := path_cost cf hcf s hs c L (by omega) L.length 0 0 0 (by omega) (by omega) (by omega) h
  rw [List.drop_zero, Int.zero_add] at g
  refine ev_use eo (fun k hk => ?_) g
  have hk' : impl_tokensOk.f k L = some true := hk
  show impl_TokensCost.f k L = _
  unfold impl_TokensCost.f
  rw [hk', Option.bind_some, if_pos rfl]
  rfl
theorem search_path (s : ByteArray) (c : Nat) (lazy : Bool) : ∀ (d i : Nat) (o : List Tok), s.size < i + d → i ≤ s.size → ∃ l, searchR s c lazy d i o = o ++ l ∧ Path s c i l
  | 0, i, o, h, hi => by omega
  | d + 1, i, o, h, hi => by
    unfold searchR
    by_cases hlt : i < s.size
    · rw [if_pos hlt]
      obtain ⟨r0, r1, r2, r3⟩ := bm_rng s c i
      by_cases hc : (bm s c i).1 = 0 ∨ (lazy = true ∧ (bm s c (i + 1)).1 > (bm s c i).1)
      · rw [if_pos hc]
        obtain ⟨l, e, hp⟩ := search_path s c lazy d (i + 1) (o ++ [⟨bt s (i : Int), 0, 0⟩]) (by omega) (by omega)
        exact ⟨⟨bt s (i : Int), 0, 0⟩ :: l, by rw [e, List.append_assoc]; rfl, hlt, Or.inl rfl, hp⟩
      · rw [if_neg hc]
        have hz : (bm s c i).1 ≠ 0 := fun h => hc (Or.inl h)
        have hr := r3 hz
        obtain ⟨l, e, hp⟩ := search_path s c lazy d (i + (bm s c i).1.toNat) (o ++ [⟨0, (bm s c i).1, (bm s c i).2⟩]) (by omega) (by omega)
        refine ⟨⟨0, (bm s c i).1, (bm s c i).2⟩ :: l, by rw [e, List.append_assoc]; rfl, hlt, Or.inr ⟨(bm s c i).1.toNat, by omega, by omega, ?_⟩, ?_⟩
        · rw [show (((bm s c i).1.toNat : Nat) : Int) = (bm s c i).1 by omega]
        · unfold stepT
          rw [if_neg hz]
          exact hp
    · rw [if_neg hlt]
      exact ⟨[], by rw [List.append_nil], show i = s.size by omega⟩
/-- From place a on the costs are the least, and the ways tell tokens that cost that. -/
def Dp (cf : Tok → Int) (s : ByteArray) (C a : Nat) (cost : List Int) (ways : List Tok) : Prop := ∀ j : Nat, a ≤ j → j ≤ s.size →
  (0 ≤ rd cost (j : Int) ∧ rd cost (j : Int) + 100 * j ≤ 100 * s.size) ∧ (∀ l, Path s C j l → rd cost (j : Int) ≤ tot cf l) ∧ (j = s.size → rd cost (j : Int) = 0) ∧
  (j < s.size → Fits s C j (rd_T44 ways (j : Int)) ∧ rd cost (j : Int) = cf (rd_T44 ways (j : Int)) + rd cost ((j + stepT (rd_T44 ways (j : Int)) : Nat) : Int))
theorem rdT_ne (ways : List Tok) (i : Nat) (v : Tok) (j : Nat) (e : j ≠ i) : rd_T44 (ways.set i v) (j : Int) = rd_T44 ways (j : Int) := by
  unfold rd_T44
  rw [Int.toNat_natCast, List.getD_eq_getElem?_getD, List.getD_eq_getElem?_getD, List.getElem?_set_ne (Ne.symm e)]
theorem dp_set (cf : Tok → Int) (s : ByteArray) (C a : Nat) (cost : List Int) (ways : List Tok) (ha : a < s.size) (hc : cost.length = s.size + 1) (hw : ways.length = s.size) (h : Dp cf s C (a + 1) cost ways) (x : Int) (t : Tok) : Dp cf s C (a + 1) (cost.set a x) (ways.set a t) := by
  intro j h1 h2
  obtain ⟨g1, g2, g3, g4⟩ := h j h1 h2
  have e : ∀ k : Nat, a < k → rd (cost.set a x) (k : Int) = rd cost (k : Int) := fun k hk => by rw [rd_set _ _ _ _ (by omega), if_neg (by omega)]
  rw [e j (by omega)]
  refine ⟨g1, g2, g3, fun hj => ?_⟩
  rw [rdT_ne ways a t j (by omega), e _ (by omega)]
  exact g4 hj
theorem tail_path (cf : Tok → Int) (s : ByteArray) (hs : s.size ≤ 2600) (C : Nat) (cost : List Int) (ways : List Tok) (hw : ways.length = s.size) (hd : Dp cf s C 0 cost ways) : ∀ (d i : Nat) (o : List Tok), s.size < i + d → i ≤ s.size → o.length ≤ i →
    ∃ l, Ev (fun k => impl_Cheapest.l2 k s ways o (i : Int)) (o ++ l, true) ∧ Path s C i l ∧ tot cf l = rd cost (i : Int) := by
  intro d
  induction d with
  | zero => intro i o h hi; omega
  | succ d ih =>
    intro i o h hi ho
    obtain ⟨_, _, g3, g4⟩ := hd i (Nat.zero_le _) hi
    by_cases hlt : i < s.size
    · obtain ⟨q1, q2⟩ := g4 hlt
      generalize ht : rd_T44 ways (i : Int) = t at q1 q2
      have st := fits_step s C i t hlt q1
      obtain ⟨l, e, hp, hl⟩ := ih (i + stepT t) (o ++ [t]) (by omega) (by omega) (by simp; omega)
      refine ⟨t :: l, ?_, ⟨hlt, q1, hp⟩, by rw [tot, hl, q2]⟩
      rw [List.append_assoc] at e
      refine Ev.step (fun k => ?_) e
      have hm : mx 1 t.f1 = (stepT t : Int) := by
        unfold mx stepT
        rcases q1 with q | ⟨n, n1, n2, q⟩
        · rw [q]
          rfl
        · rw [q]
          rw [if_pos (show (1 : Int) < (n : Int) by omega), if_neg (show ¬ ((n : Int) = 0) by omega)]
          show (n : Int) = (((n : Int).toNat : Nat) : Int)
          omega
      rw [impl_Cheapest.l2, if_pos (by omega), if_pos (by omega), if_pos (by omega), if_pos (by omega), ht, hm, w64_id (by omega) (by omega)]
      rfl
    · refine ⟨[], ev_ret (fun k => by rw [impl_Cheapest.l2, if_neg (by omega), List.append_nil]), show i = s.size by omega, ?_⟩
      rw [g3 (by omega)]
      rfl
/-- The program's Cheapest goes on to the least from place a. -/
def Best0 (cf : Tok → Int) (s : ByteArray) (C : Nat) (cost : List Int) (ways : List Tok) (a : Int) : Prop := ∃ L, Ev (fun k => impl_Cheapest.l0 k s (C : Int) (chains (kvS s) (koS s) s.size) cost ways a) (L, true) ∧ Path s C 0 L ∧ ∀ l, Path s C 0 l → tot cf L ≤ tot cf l
theorem best_inner (cf : Tok → Int) (hcf : CostFn cf) (s : ByteArray) (hs : s.size ≤ 2600) (C A : Nat) (hA : A < s.size)
    (Next : ∀ (cost : List Int) (ways : List Tok), cost.length = s.size + 1 → ways.length = s.size → Dp cf s C A cost ways → Best0 cf s C cost ways ((A : Int) - 1)) : ∀ (e K : Nat) (cost : List Int) (ways : List Tok), (bm s C A).1 < (K : Int) + e → 3 ≤ K → cost.length = s.size + 1 → ways.length = s.size → Dp cf s C (A + 1) cost ways →
    (0 ≤ rd cost (A : Int) ∧ rd cost (A : Int) + 100 * A ≤ 100 * s.size) → Fits s C A (rd_T44 ways (A : Int)) → rd cost (A : Int) = cf (rd_T44 ways (A : Int)) + rd cost ((A + stepT (rd_T44 ways (A : Int)) : Nat) : Int) →
    rd cost (A : Int) ≤ cf ⟨bt s (A : Int), 0, 0⟩ + rd cost ((A + 1 : Nat) : Int) → (∀ n : Nat, 3 ≤ n → n < K → (n : Int) ≤ (bm s C A).1 → rd cost (A : Int) ≤ cf ⟨0, (n : Int), (bm s C A).2⟩ + rd cost ((A + n : Nat) : Int)) →
    ∃ L, Ev (fun k => impl_Cheapest.l1 k s (C : Int) (chains (kvS s) (koS s) s.size) cost ways (A : Int) (bm s C A).1 (bm s C A).2 (K : Int)) (L, true) ∧ Path s C 0 L ∧ ∀ l, Path s C 0 l → tot cf L ≤ tot cf l := by
  obtain ⟨r0, r1, r2, r3⟩ := bm_rng s C A
  have done : ∀ (K : Nat) (cost : List Int) (ways : List Tok), ¬ (K : Int) ≤ (bm s C A).1 → cost.length = s.size + 1 → ways.length = s.size → Dp cf s C (A + 1) cost ways →
      (0 ≤ rd cost (A : Int) ∧ rd cost (A : Int) + 100 * A ≤ 100 * s.size) → Fits s C A (rd_T44 ways (A : Int)) → rd cost (A : Int) = cf (rd_T44 ways (A : Int)) + rd cost ((A + stepT (rd_T44 ways (A : Int)) : Nat) : Int) →
      rd cost (A : Int) ≤ cf ⟨bt s (A : Int), 0, 0⟩ + rd cost ((A + 1 : Nat) : Int) → (∀ n : Nat, 3 ≤ n → n < K → (n : Int) ≤ (bm s C A).1 → rd cost (A : Int) ≤ cf ⟨0, (n : Int), (bm s C A).2⟩ + rd cost ((A + n : Nat) : Int)) →
      ∃ L, Ev (fun k => impl_Cheapest.l1 k s (C : Int) (chains (kvS s) (koS s) s.size) cost ways (A : Int) (bm s C A).1 (bm s C A).2 (K : Int)) (L, true) ∧ Path s C 0 L ∧ ∀ l, Path s C 0 l → tot cf L ≤ tot cf l := by
    intro K cost ways hK hc hw hd hb hf he hl hn
    obtain ⟨L, g1, g2, g3⟩ := Next cost ways hc hw (by
      intro j h1 h2
      by_cases hj : j = A
      · subst hj
        refine ⟨hb, fun l hp => ?_, fun h => by omega, fun _ => ⟨hf, he⟩⟩
        cases l with
        | nil => have hp : j = s.size := hp; omega
        | cons t l =>
          obtain ⟨p1, p2, p3⟩ := hp
          have st := fits_step s C j t p1 p2
          have hq := (hd (j + stepT t) (by omega) (by omega)).2.1 l p3
          show _ ≤ cf t + tot cf l
          rcases p2 with p | ⟨n, n1, n2, p⟩
          · rw [p] at hq ⊢
            have e1 : j + stepT (⟨bt s (j : Int), 0, 0⟩ : Tok) = j + 1 := by unfold stepT; rw [if_pos rfl]
            rw [e1] at hq
            omega
          · rw [p] at hq ⊢
            have e1 : j + stepT (⟨0, (n : Int), (bm s C j).2⟩ : Tok) = j + n := by
              unfold stepT
              rw [if_neg (show ¬ ((n : Int) = 0) by omega)]
              show j + ((n : Int)).toNat = j + n
              omega
            rw [e1] at hq
            have := hn n n1 (by omega) n2
            omega
      · exact hd j (by omega) h2)
    have w1 : wrap64 ((A : Int) - 1) = (A : Int) - 1 := w64_id (by omega) (by omega)
    refine ⟨L, Ev.step (fun k => ?_) g1, g2, g3⟩
    rw [impl_Cheapest.l1, if_neg hK, w1]
  intro e
  induction e with
  | zero =>
    intro K cost ways h h3 hc hw hd hb hf he hl hn
    exact done K cost ways (by omega) hc hw hd hb hf he hl hn
  | succ e ih =>
    intro K cost ways h h3 hc hw hd hb hf he hl hn
    by_cases hK : (K : Int) ≤ (bm s C A).1
    · obtain ⟨q1, q2, q3, q4⟩ := r3 (by omega)
      have hfit : Fits s C A ⟨0, (K : Int), (bm s C A).2⟩ := Or.inr ⟨K, h3, hK, rfl⟩
      obtain ⟨c0, c1, i1⟩ := hcf _ (fits_ok s hs C A _ hA hfit)
      generalize hu : cf ⟨0, (K : Int), (bm s C A).2⟩ = u at c0 c1 i1
      have i1 : Ev (fun k => impl_costOf.f k 0 (K : Int) (bm s C A).2) u := i1
      have hdk := (hd (A + K) (by omega) (by omega)).1
      have f1 : 0 ≤ (A : Int) + K := by omega
      have f2 : (A : Int) + K < (cost.length : Int) := by omega
      have f3 : 0 ≤ (A : Int) := by omega
      have f4 : (A : Int) < (cost.length : Int) := by omega
      have f5 : (A : Int) < (ways.length : Int) := by omega
      have f6 : (bm s C A).1 < ((K + 1 : Nat) : Int) + e := by omega
      have f7 : 3 ≤ K + 1 := by omega
      have ek : (A : Int) + K = ((A + K : Nat) : Int) := by omega
      have f8 : u + rd cost ((A : Int) + K) = u + rd cost ((A + K : Nat) : Int) := by rw [ek]
      have f9 : 0 ≤ u + rd cost ((A : Int) + K) ∧ u + rd cost ((A : Int) + K) + 100 * A ≤ 100 * s.size ∧ u + rd cost ((A : Int) + K) ≤ 260000 := by rw [f8]; omega
      have e1 : stepT (⟨0, (K : Int), (bm s C A).2⟩ : Tok) = K := by
        unfold stepT
        rw [if_neg (show ¬ ((K : Int) = 0) by omega)]
        exact Int.toNat_natCast K
      generalize hx : u + rd cost ((A : Int) + K) = x at f9
      rw [f8] at hx
      by_cases hlt : x < rd cost (A : Int)
      · have es : ∀ k : Nat, A < k → rd (cost.set A x) (k : Int) = rd cost (k : Int) := fun k hk => by rw [rd_set _ _ _ _ (by omega), if_neg (by omega)]
        have ea : rd (cost.set A x) (A : Int) = x := by rw [rd_set _ _ _ _ (by omega), if_pos rfl]
        have et : rd_T44 (ways.set A ⟨0, (K : Int), (bm s C A).2⟩) (A : Int) = ⟨0, (K : Int), (bm s C A).2⟩ := way_set ways A _ (by omega)
        obtain ⟨L, g1, g2, g3⟩ := ih (K + 1) (cost.set A x) (ways.set A ⟨0, (K : Int), (bm s C A).2⟩) f6 f7 (by rw [List.length_set]; exact hc) (by rw [List.length_set]; exact hw) (dp_set cf s C A cost ways hA hc hw hd x _)
          (by rw [ea]; omega) (by rw [et]; exact hfit) (by rw [ea, et, hu, e1, es _ (by omega), hx]) (by rw [ea, es _ (by omega)]; omega) (fun n n1 n2 n3 => by
            rw [ea, es _ (by omega)]
            by_cases hn2 : n = K
            · subst hn2
              rw [hu]
              omega
            · have := hn n n1 (by omega) n3
              omega)
        obtain ⟨w1, w2, w3⟩ : wrap64 ((A : Int) + K) = (A : Int) + K ∧ wrap64 ((K : Int) + 1) = ((K + 1 : Nat) : Int) ∧ wrap64 x = x := ⟨w64_id (by omega) (by omega), by rw [w64_id (by omega) (by omega)]; omega, w64_id (by omega) (by omega)⟩
        refine ⟨L, ev_use_step i1 (fun k hk => ?_) g1, g2, g3⟩
        rw [impl_Cheapest.l1, if_pos hK, hk, Option.bind_some, w1, f8, hx, w3, if_pos f1, if_pos f2, if_pos f3, if_pos f4, if_pos hlt, if_pos f5, w2, Int.toNat_natCast]
      · obtain ⟨L, g1, g2, g3⟩ := ih (K + 1) cost ways f6 f7 hc hw hd hb hf he hl (fun n n1 n2 n3 => by
          by_cases hn2 : n = K
          · subst hn2
            rw [hu]
            omega
          · exact hn n n1 (by omega) n3)
        obtain ⟨w1, w2, w3⟩ : wrap64 ((A : Int) + K) = (A : Int) + K ∧ wrap64 ((K : Int) + 1) = ((K + 1 : Nat) : Int) ∧ wrap64 x = x := ⟨w64_id (by omega) (by omega), by rw [w64_id (by omega) (by omega)]; omega, w64_id (by omega) (by omega)⟩
        refine ⟨L, ev_use_step i1 (fun k hk => ?_) g1, g2, g3⟩
        rw [impl_Cheapest.l1, if_pos hK, hk, Option.bind_some, w1, f8, hx, w3, if_pos f1, if_pos f2, if_pos f3, if_pos f4, if_neg hlt, w2]
    · exact done K cost ways hK hc hw hd hb hf he hl hn
theorem best_outer (cf : Tok → Int) (hcf : CostFn cf) (s : ByteArray) (hs : s.size ≤ 2600) (C : Nat) (h4 : 1 ≤ C) (h5 : C ≤ 64) : ∀ (a : Nat) (cost : List Int) (ways : List Tok), a ≤ s.size → cost.length = s.size + 1 → ways.length = s.size → Dp cf s C a cost ways → Best0 cf s C cost ways ((a : Int) - 1) := by
  intro a
  induction a with
  | zero =>
    intro cost ways _ hc hw hd
    obtain ⟨L, g1, g2, g3⟩ := tail_path cf s hs C cost ways hw hd (s.size + 1) 0 [] (by omega) (Nat.zero_le _) (Nat.le_refl _)
    refine ⟨L, Ev.step (fun k => ?_) g1, g2, fun l hl => by rw [g3]; exact (hd 0 (Nat.le_refl _) (Nat.zero_le _)).2.1 l hl⟩
    rw [impl_Cheapest.l0, if_neg (by omega)]
    rfl
  | succ a ih =>
    intro cost ways ha hc hw hd
    have ea : ((a + 1 : Nat) : Int) - 1 = (a : Int) := by omega
    rw [ea]
    have hfit : Fits s C a ⟨bt s (a : Int), 0, 0⟩ := Or.inl rfl
    obtain ⟨u0, u1, i1⟩ := hcf _ (fits_ok s hs C a _ (by omega) hfit)
    generalize hu : cf ⟨bt s (a : Int), 0, 0⟩ = u at u0 u1 i1
    have i1 : Ev (fun k => impl_costOf.f k (bt s (a : Int)) 0 0) u := i1
    have e2 := impl_bm s hs C h5 a
    have hda := (hd (a + 1) (Nat.le_refl _) ha).1
    have hget := way_set ways a ⟨bt s (a : Int), 0, 0⟩ (by omega)
    have es : ∀ (x : Int) (k : Nat), a < k → rd (cost.set a x) (k : Int) = rd cost (k : Int) := fun x k hk => by rw [rd_set _ _ _ _ (by omega), if_neg (by omega)]
    have e0 : ∀ x : Int, rd (cost.set a x) (a : Int) = x := fun x => by rw [rd_set _ _ _ _ (by omega), if_pos rfl]
    have e1 : stepT (⟨bt s (a : Int), 0, 0⟩ : Tok) = 1 := by unfold stepT; rw [if_pos rfl]
    obtain ⟨r0, r1, r2, r3⟩ := bm_rng s C a
    obtain ⟨L, g1, g2, g3⟩ := best_inner cf hcf s hs C a (by omega) (fun c2 w2 x1 x2 x3 => ih c2 w2 (by omega) x1 x2 x3) 260 3 (cost.set a (u + rd cost ((a + 1 : Nat) : Int))) (ways.set a ⟨bt s (a : Int), 0, 0⟩) (by omega) (by omega) (by rw [List.length_set]; exact hc) (by rw [List.length_set]; exact hw) (dp_set cf s C a cost ways (by omega) hc hw hd _ _)
      (by rw [e0]; omega) (by rw [hget]; exact hfit) (by rw [e0, hget, hu, e1, es _ _ (by omega)]) (by rw [e0, hu, es _ _ (by omega)]; omega) (fun n n1 n2 => by omega)
    obtain ⟨w1, w3⟩ : Aside0 (wrap64 ((a : Int) + 1) = ((a + 1 : Nat) : Int)) ∧ Aside0 (wrap64 (u + rd cost ((a + 1 : Nat) : Int)) = u + rd cost ((a + 1 : Nat) : Int)) := ⟨⟨by rw [w64_id (by omega) (by omega)]; omega⟩, ⟨w64_id (by omega) (by omega)⟩⟩
    refine ⟨L, ev_use_step (ev_pair i1 e2) (fun k hk => ?_) g1, g2, g3⟩
    obtain ⟨k1, k2⟩ := pair_some hk
    rw [impl_Cheapest.l0, if_pos (by omega), if_pos (by omega), if_pos (by omega), if_pos (by omega), Option.bind_some, wbt, Int.toNat_natCast, hget]
    show (impl_costOf.f k (bt s (a : Int)) 0 0).bind _ = _
    rw [k1, Option.bind_some, w1.out, if_pos (by omega), if_pos (by omega), if_pos (by omega), k2, Option.bind_some, w3.out]
    rfl
theorem rd_repl (n : Nat) (j : Nat) : rd (List.replicate n 0) (j : Int) = 0 := by
  unfold rd
  rw [Int.toNat_natCast, List.getD_eq_getElem?_getD, List.getElem?_replicate]
  split <;> rfl
theorem cheapest_path (cf : Tok → Int) (hcf : CostFn cf) (s : ByteArray) (h1 : s.size ≤ 2600) (C : Nat) (h4 : 1 ≤ C) (h5 : C ≤ 64) : ∃ L, Ev (fun k => impl_Cheapest.f k s (C : Int)) (L, true) ∧ Path s C 0 L ∧ ∀ l, Path s C 0 l → tot cf L ≤ tot cf l := by
  have w1 : wrap64 ((s.size : Int) + 1) = ((s.size + 1 : Nat) : Int) := by rw [w64_id (by omega) (by omega)]; omega
  have w2 : wrap64 ((s.size : Int) - 1) = (s.size : Int) - 1 := w64_id (by omega) (by omega)
  obtain ⟨L, g2, g3, g4⟩ := best_outer cf hcf s h1 C h4 h5 s.size (List.replicate (s.size + 1) 0) (List.replicate s.size z44) (Nat.le_refl _) (by simp) (by simp) (by
    intro j j1 j2
    obtain rfl : j = s.size := by omega
    rw [rd_repl]
    refine ⟨by omega, fun l hl => ?_, fun _ => rfl, fun h => by omega⟩
    cases l with
    | nil => exact Int.le_refl _
    | cons t l => exact absurd hl.1 (by omega))
  refine ⟨L, ?_, g3, g4⟩
  refine Ev.congr (fun k => ?_) g2
  unfold impl_Cheapest.f impl_searchOk.f
  rw [if_pos (by omega), in_impl, decide_eq_true (⟨by omega, by omega⟩ : (1 : Int) ≤ (C : Int) ∧ (C : Int) ≤ 64), Option.bind_some, Option.bind_some, if_pos rfl, chains_is s (by omega), Option.bind_some, w1, if_pos (by omega), if_pos (by omega), if_pos (by omega), if_pos (by omega), w2, Int.toNat_natCast, Int.toNat_natCast]
/-- The path of bytes alone. -/
def lits (s : ByteArray) : Nat → Nat → List Tok
  | 0, _ => []
  | d + 1, i => ⟨bt s (i : Int), 0, 0⟩ :: lits s d (i + 1)
theorem lits_path (cf : Tok → Int) (hcf : CostFn cf) (s : ByteArray) (C : Nat) : ∀ d i : Nat, i + d = s.size → Path s C i (lits s d i) ∧ tot cf (lits s d i) ≤ 9 * d
  | 0, i, h => ⟨show i = s.size by omega, by show (0 : Int) ≤ 9 * ((0 : Nat) : Int); omega⟩
  | d + 1, i, h => by
    obtain ⟨a, b⟩ := lits_path cf hcf s C d (i + 1) (by omega)
    have := cost_lit cf hcf s i
    refine ⟨⟨by omega, Or.inl rfl, ?_⟩, ?_⟩
    · have e1 : stepT (⟨bt s (i : Int), 0, 0⟩ : Tok) = 1 := by unfold stepT; rw [if_pos rfl]
      rw [e1]
      exact a
    · show cf _ + tot cf _ ≤ _
      omega

/-- x & 255 is a byte, whatever x is. -/
theorem and255 (x : Int) : 0 ≤ Go.bits .and .i64 x 255 ∧ Go.bits .and .i64 x 255 ≤ 255 := by
  have h : (BitVec.ofInt 64 x &&& BitVec.ofInt 64 255).toNat ≤ 255 := by
    rw [BitVec.toNat_and]
    exact Nat.le_trans Nat.and_le_right (by decide)
  have e : Go.bits .and .i64 x 255 = IntKind.i64.wrap ((BitVec.ofInt 64 x &&& BitVec.ofInt 64 255).toNat : Int) := rfl
  rw [e, wraps64 _ (by omega) (by omega)]
  omega
theorem new_ends (l : List Int) (d : Nat) : ∀ (h : Int) (i : Nat), i + d = 4000 → ∃ h', Ev (fun k => spec_l01New.l0 k l h i) (l, 0, h') := by
  induction d with
  | zero =>
    intro h i hi
    exact ⟨h, ev_ret (fun k => by
      rw [spec_l01New.l0]
      split
      · rw [if_neg (by omega)]
      · rfl)⟩
  | succ d ih =>
    intro h i hi
    by_cases c : (i : Int) < (l.length : Int)
    · obtain ⟨h', e⟩ := ih (Go.bits .and .i64 (wrap64 ((wrap64 ((wrap64 (h * 131)) + (wrap64 (rd l i)))) + 7)) 1073741823) (i + 1) (by omega)
      exact ⟨h', Ev.step (fun k => by rw [spec_l01New.l0, if_pos c, if_pos (by omega), if_pos (by omega), w64_id (x := (i : Int) + 1) (by omega) (by omega)]; rfl) e⟩
    · exact ⟨h, ev_ret (fun k => by rw [spec_l01New.l0, if_neg c])⟩
theorem new_is (l : List Int) : ∃ h, Ev (fun k => spec_l01New.f k l) (l, 0, h) := new_ends l 4000 _ 0 (by omega)
theorem byte_is (l : List Int) (hl : l.length ≤ 9223372036854775807) (i h : Int) (hi : 0 ≤ i) : ∃ x i' h', spec_l01Byte.f l i h = some (x, i', h') ∧ 0 ≤ x ∧ x ≤ 255 ∧ 0 ≤ i' := by
  unfold spec_l01Byte.f
  by_cases c : i < (l.length : Int)
  · rw [if_pos c, if_pos hi]
    have := and255 (wrap64 ((Go.bits .and .i64 (Go.bits .xor .i64 ((wrap64 ((wrap64 (h * 6364136223846793005)) + 1442695040888963407)) / 8589934592) ((wrap64 ((wrap64 (h * 6364136223846793005)) + 1442695040888963407)) / 35184372088832)) 255) + (wrap64 (rd l i))))
    exact ⟨_, _, _, rfl, this.1, this.2, by rw [w64_id (by omega) (by omega)]; omega⟩
  · rw [if_neg c]
    have := and255 (Go.bits .xor .i64 ((wrap64 ((wrap64 (h * 6364136223846793005)) + 1442695040888963407)) / 8589934592) ((wrap64 ((wrap64 (h * 6364136223846793005)) + 1442695040888963407)) / 35184372088832))
    exact ⟨_, _, _, rfl, this.1, this.2, hi⟩
theorem below_is (l : List Int) (hl : l.length ≤ 9223372036854775807) (i h n : Int) (hi : 0 ≤ i) : ∃ x i' h', spec_l01Below.f l i h n = some (x, i', h') ∧ 0 ≤ x ∧ (0 < n → x < n) ∧ 0 ≤ i' := by
  unfold spec_l01Below.f
  by_cases c0 : n ≤ 0
  · rw [if_pos c0]
    exact ⟨_, _, _, rfl, by omega, by omega, hi⟩
  · rw [if_neg c0]
    by_cases c1 : n ≤ 256
    · rw [if_pos c1]
      obtain ⟨x, i1, h1, e, x0, x1, hi1⟩ := byte_is l hl i h hi
      rw [e, Option.bind_some, if_neg (by omega)]
      refine ⟨_, _, _, rfl, ?_, fun _ => ?_, hi1⟩
      · rw [tmod_nn _ x0]; exact Int.emod_nonneg _ (by omega)
      · rw [tmod_nn _ x0]; exact Int.emod_lt_of_pos _ (by omega)
    · rw [if_neg c1]
      obtain ⟨x, i1, h1, e1, x0, x1, hi1⟩ := byte_is l hl i h hi
      obtain ⟨y, i2, h2, e2, y0, y1, hi2⟩ := byte_is l hl i1 h1 hi1
      obtain ⟨z, i3, h3, e3, z0, z1, hi3⟩ := byte_is l hl i2 h2 hi2
      obtain ⟨w, i4, h4, e4, w0, w1, hi4⟩ := byte_is l hl i3 h3 hi3
      simp only [e1, e2, e3, e4, Option.bind_some]
      rw [if_neg (by omega)]
      rw [w64_id (x := x * 16777216) (by omega) (by omega), w64_id (x := y * 65536) (by omega) (by omega), w64_id (x := z * 256) (by omega) (by omega), w64_id (x := x * 16777216 + y * 65536) (by omega) (by omega), w64_id (x := x * 16777216 + y * 65536 + z * 256) (by omega) (by omega), w64_id (x := x * 16777216 + y * 65536 + z * 256 + w) (by omega) (by omega)]
      refine ⟨_, _, _, rfl, ?_, fun _ => ?_, hi4⟩
      · rw [tmod_nn _ (by omega)]; exact Int.emod_nonneg _ (by omega)
      · rw [tmod_nn _ (by omega)]; exact Int.emod_lt_of_pos _ (by omega)

theorem pick_is (l : List Int) (hl : l.length ≤ 9223372036854775807) (i h : Int) (p : List Int) (hp : 0 < p.length) (hi : 0 ≤ i) : ∃ x i' h', spec_l01PickInt.f l i h p = some (x, i', h') ∧ x ∈ p ∧ 0 ≤ i' := by
  unfold spec_l01PickInt.f
  obtain ⟨x, i1, h1, e, x0, x1, hi1⟩ := below_is l hl i h p.length hi
  have x1 := x1 (by omega)
  rw [e]
  simp only [Option.bind_some]
  rw [if_pos x0, if_pos x1]
  obtain ⟨j, rfl⟩ := Int.eq_ofNat_of_zero_le x0
  exact ⟨_, _, _, rfl, rd_mem p j (by omega), hi1⟩

theorem text_inner (c : List Int) (hc : c.length ≤ 9223372036854775807) (want fr : Int) (n0 : Nat) (hn0 : n0 ≤ 300) (f0 : 0 ≤ fr) (f1 : fr < n0)
    (T : ∀ (o : List Int) (i h : Int), n0 < o.length → o.length ≤ 320 → 0 ≤ i → ∃ r, Ev (fun k => spec_l07Text.l0 k o want c i h) r ∧ r.1.size ≤ 320) (d : Nat) : ∀ (j : Nat) (o : List Int) (i h : Int), j + d = 14 → o.length = n0 + j → 0 ≤ i →
    ∃ r, Ev (fun k => spec_l07Text.l1 k o want fr (j : Int) c i h) r ∧ r.1.size ≤ 320 := by
  induction d with
  | zero =>
    intro j o i h hj ho hi
    obtain ⟨x, i', h', e, x0, x1, i0⟩ := below_is c hc i h 12 hi
    have x1 := x1 (by omega)
    obtain ⟨r, g, gs⟩ := T o i' h' (by omega) (by omega) i0
    refine ⟨r, Ev.step (fun k => ?_) g, gs⟩
    rw [spec_l07Text.l1, e, Option.bind_some, w64_id (x := 2 + x) (by omega) (by omega), if_neg (by omega)]
  | succ d ih =>
    intro j o i h hj ho hi
    obtain ⟨x, i', h', e, x0, x1, i0⟩ := below_is c hc i h 12 hi
    have x1 := x1 (by omega)
    have w1 : wrap64 ((j : Int) + 1) = ((j + 1 : Nat) : Int) := w64_id (by omega) (by omega)
    by_cases hx : (j : Int) < 2 + x
    · obtain ⟨r, g, gs⟩ := ih (j + 1) (o ++ [rd o (fr + j)]) i' h' (by omega) (by simp; omega) i0
      refine ⟨r, Ev.step (fun k => ?_) g, gs⟩
      rw [spec_l07Text.l1, e, Option.bind_some, w64_id (x := 2 + x) (by omega) (by omega), if_pos hx, w64_id (x := fr + j) (by omega) (by omega), if_pos (by omega), if_pos (by omega), if_pos (by omega), w1]
    · obtain ⟨r, g, gs⟩ := T o i' h' (by omega) (by omega) i0
      refine ⟨r, Ev.step (fun k => ?_) g, gs⟩
      rw [spec_l07Text.l1, e, Option.bind_some, w64_id (x := 2 + x) (by omega) (by omega), if_neg hx]
theorem text_ends (c : List Int) (hc : c.length ≤ 9223372036854775807) (want : Int) (hw : want ≤ 300) (m : Nat) : ∀ (o : List Int) (i h : Int), want - o.length ≤ m → o.length ≤ 320 → 0 ≤ i →
    ∃ r, Ev (fun k => spec_l07Text.l0 k o want c i h) r ∧ r.1.size ≤ 320 := by
  have hend : ∀ (o : List Int) (i h : Int), ¬ (o.length : Int) < want → o.length ≤ 320 → ∃ r, Ev (fun k => spec_l07Text.l0 k o want c i h) r ∧ r.1.size ≤ 320 := fun o i h hn ho =>
    ⟨(strOfNums o, i, h), ev_ret (fun k => by rw [spec_l07Text.l0, if_neg hn]), by simp [strOfNums, ByteArray.size]; exact ho⟩
  induction m with
  | zero => exact fun o i h hm ho hi => hend o i h (by omega) ho
  | succ m ih =>
    intro o i h hm ho hi
    by_cases hlt : (o.length : Int) < want
    · have lit : ∀ (i h : Int), 0 ≤ i → ∃ r, Ev (fun k => spec_l07Text.j1 k o want false c i h) r ∧ r.1.size ≤ 320 := by
        intro i h hi
        obtain ⟨x, i1, h1, e1, _, _, i10⟩ := byte_is c hc i h hi
        obtain ⟨y, i2, h2, e2, _, i20⟩ := pick_is c hc i1 h1 [97, 98, 99, 0, 200, x] (by simp) i10
        obtain ⟨r, g, gs⟩ := ih (o ++ [y % 256]) i2 h2 (by simp; omega) (by simp; omega) i20
        refine ⟨r, Ev.step (fun k => ?_) g, gs⟩
        rw [spec_l07Text.j1, if_neg (by decide), e1, Option.bind_some, e2, Option.bind_some, if_pos (by omega)]
      by_cases h3 : (o.length : Int) > 3
      · obtain ⟨x, i1, h1, e1, _, _, i10⟩ := below_is c hc i h 2 hi
        have eo : spec_l01Once.f c i h 2 = some ((x == 0), i1, h1) := by
          unfold spec_l01Once.f
          rw [e1]
          rfl
        cases hx : (x == 0) with
        | true =>
          rw [hx] at eo
          obtain ⟨f, i2, h2, e2, f0, f1, i20⟩ := below_is c hc i1 h1 (o.length : Int) i10
          have f1 := f1 (by omega)
          obtain ⟨r, g, gs⟩ := text_inner c hc want f o.length (by omega) f0 f1 (fun o' i h h1 h2 h3 => ih o' i h (by omega) h2 h3) 14 0 o i2 h2 (by omega) (by omega) i20
          have g2 : Ev (fun k => spec_l07Text.j1 k o want true c i1 h1) r := by
            refine Ev.step (fun k => ?_) g
            rw [spec_l07Text.j1, if_pos rfl, e2, Option.bind_some]
            rfl
          refine ⟨r, Ev.step (fun k => ?_) g2, gs⟩
          rw [spec_l07Text.l0, if_pos hlt, if_pos h3, eo, Option.bind_some]
        | false =>
          rw [hx] at eo
          obtain ⟨r, g, gs⟩ := lit i1 h1 i10
          refine ⟨r, Ev.step (fun k => ?_) g, gs⟩
          rw [spec_l07Text.l0, if_pos hlt, if_pos h3, eo, Option.bind_some]
      · obtain ⟨r, g, gs⟩ := lit i h hi
        refine ⟨r, Ev.step (fun k => ?_) g, gs⟩
        rw [spec_l07Text.l0, if_pos hlt, if_neg h3]
    · exact hend o i h hlt ho
theorem size_is (l : List Int) (hl : l.length ≤ 4611686018427387904) : ∃ n, spec_l07Size.f l = some n ∧ 30 ≤ n ∧ n ≤ 300 := by
  unfold spec_l07Size.f
  have w : wrap64 (30 + (l.length : Int)) = 30 + l.length := w64_id (by omega) (by omega)
  rw [w]
  by_cases h : 30 + (l.length : Int) > 300
  · exact ⟨300, by rw [if_pos h], by omega, by omega⟩
  · exact ⟨30 + l.length, by rw [if_neg h], by omega, by omega⟩
/-- A drawn text is short. -/
theorem data_is (l : List Int) (hl : l.length ≤ 4611686018427387904) : ∃ s : ByteArray, Ev (fun k => spec_DrawData.f k l) s ∧ s.size ≤ 320 := by
  obtain ⟨h, e⟩ := new_is l
  obtain ⟨n, en, n0, n1⟩ := size_is l hl
  obtain ⟨x, i1, h1, e1, x0, x1, i10⟩ := below_is l (by omega) 0 h (n + 1) (by omega)
  have x1 := x1 (by omega)
  obtain ⟨r, g, gs⟩ := text_ends l (by omega) x (by omega) x.toNat [] i1 h1 (by simp; omega) (by simp) i10
  have g2 : Ev (fun k => spec_l07Text.f k l 0 h n) r := by
    refine Ev.congr (fun k => ?_) g
    unfold spec_l07Text.f
    rw [w64_id (x := n + 1) (by omega) (by omega), e1, Option.bind_some]
  refine ⟨r.1, ev_end (ev_pair e g2) (fun k hk => ?_), gs⟩
  obtain ⟨k1, k2⟩ := pair_some hk
  unfold spec_DrawData.f
  rw [k1, Option.bind_some, en, Option.bind_some, k2, Option.bind_some]

theorem places_loop (l : List Int) (hl : l.length ≤ 9223372036854775807) (d : Nat) : ∀ (o : List Int) (j : Nat) (i h : Int), j + d = 12 → o.length = j → (∀ x ∈ o, 0 ≤ x ∧ x < 10000) → 0 ≤ i →
    ∃ p, Ev (fun k => spec_DrawPlaces.l0 k o j l i h) p ∧ p.length = 12 ∧ ∀ x ∈ p, 0 ≤ x ∧ x < 10000 := by
  induction d with
  | zero =>
    intro o j i h hj ho hb hi
    exact ⟨o, ev_ret (fun k => by rw [spec_DrawPlaces.l0, if_neg (by omega)]), by omega, hb⟩
  | succ d ih =>
    intro o j i h hj ho hb hi
    obtain ⟨x, i1, h1, e, x0, x1, hi1⟩ := below_is l hl i h 10000 hi
    have x1 := x1 (by omega)
    obtain ⟨p, e1, hp⟩ := ih (o ++ [x]) (j + 1) i1 h1 (by omega) (by simp [ho]) (fun y hy => by
      rcases List.mem_append.1 hy with hy | hy
      · exact hb y hy
      · simp at hy; omega) hi1
    refine ⟨p, Ev.step (fun k => ?_) e1, hp⟩
    rw [spec_DrawPlaces.l0, if_pos (by omega), e, Option.bind_some, if_pos (by omega), w64_id (x := (j : Int) + 1) (by omega) (by omega)]
    rfl
theorem places_is (l : List Int) (hl : l.length ≤ 9223372036854775807) : ∃ p, Ev (fun k => spec_DrawPlaces.f k l) p ∧ p.length = 12 ∧ ∀ x ∈ p, 0 ≤ x ∧ x < 10000 := by
  obtain ⟨h, e⟩ := new_is l
  obtain ⟨x, i1, h1, e1, _, _, hi1⟩ := byte_is l hl 0 h (by omega)
  obtain ⟨p, e2, hp⟩ := places_loop l hl 12 [] 0 i1 h1 (by omega) rfl (fun x hx => by simp at hx) hi1
  refine ⟨p, ev_use e (fun k hk => ?_) e2, hp⟩
  have hk' : spec_l01New.f k l = some (l, 0, h) := hk
  show spec_DrawPlaces.f k l = _
  unfold spec_DrawPlaces.f
  rw [hk', Option.bind_some, e1, Option.bind_some]
  rfl

theorem FnCheapest : laws_FnCheapest.Pure := by
  intro l hm hl hw
  have hbig : laws_big.f l = some (decide ((l.length : Int) > 1048576)) := rfl
  by_cases hb : (l.length : Int) > 1048576
  · refine ⟨0, ?_⟩
    unfold laws_FnCheapest.f
    rw [hbig, decide_eq_true hb, Option.bind_some, if_pos rfl]
  · obtain ⟨s, gD, hs⟩ := data_is l (by omega)
    obtain ⟨p, gP, hpl, hpr⟩ := places_is l (by omega)
    have p0 := hpr _ (rd_mem p 0 (by omega))
    obtain ⟨C, hC, hC1, hC2⟩ : ∃ C : Nat, wrap64 (1 + Int.tmod (rd p 0) 64) = (C : Int) ∧ 1 ≤ C ∧ C ≤ 64 := by
      have e : rd p (0 : Int) = rd p ((0 : Nat) : Int) := rfl
      rw [e, tmod_nn _ p0.1, w64_id (by omega) (by omega)]
      exact ⟨(1 + rd p ((0 : Nat) : Int) % 64).toNat, by omega, by omega, by omega⟩
    obtain ⟨cf, hcf⟩ := cost_fn
    have hs2 : s.size ≤ 2600 := by omega
    obtain ⟨a, ea, pa⟩ := search_path s C false (s.size + 1) 0 [] (by omega) (by omega)
    obtain ⟨b, eb, pb⟩ := search_path s C true (s.size + 1) 0 [] (by omega) (by omega)
    rw [List.nil_append] at ea eb
    have ga := search_is s hs2 C hC1 hC2 false
    have gb := search_is s hs2 C hC1 hC2 true
    rw [ea] at ga
    rw [eb] at gb
    have ga : Ev (fun k => impl_Greedy.f k s (C : Int)) (a, true) := ev_end ga (fun k hk => by unfold impl_Greedy.f; rw [hk]; rfl)
    have gb : Ev (fun k => impl_Lazy.f k s (C : Int)) (b, true) := ev_end gb (fun k hk => by unfold impl_Lazy.f; rw [hk]; rfl)
    obtain ⟨c, gc, pc, hc⟩ := cheapest_path cf hcf s hs2 C hC1 hC2
    have xa := path_expand s hs2 C a pa
    have xb := path_expand s hs2 C b pb
    have xc := path_expand s hs2 C c pc
    have ta := path_total cf hcf s hs2 C a pa
    have tb := path_total cf hcf s hs2 C b pb
    have tc := path_total cf hcf s hs2 C c pc
    have ha := hc a pa
    have hb2 := hc b pb
    obtain ⟨q1, q2⟩ := lits_path cf hcf s C s.size 0 (by omega)
    have hll := hc _ q1
    have hw9 : wrap64 (9 * (s.size : Int)) = 9 * (s.size : Int) := w64_id (by omega) (by omega)
    clear hc q1 pa pb pc ea eb hcf
    obtain ⟨K1, gD⟩ := gD
    obtain ⟨K2, gP⟩ := gP
    obtain ⟨K3, ga⟩ := ga
    obtain ⟨K4, gb⟩ := gb
    obtain ⟨K5, gc⟩ := gc
    obtain ⟨K6, ta⟩ := ta
    obtain ⟨K7, tb⟩ := tb
    obtain ⟨K8, tc⟩ := tc
    refine ⟨K1 + K2 + K3 + K4 + K5 + K6 + K7 + K8 + 1, ?_⟩
    generalize hK : K1 + K2 + K3 + K4 + K5 + K6 + K7 + K8 = K
    have d1 : spec_DrawData.f (K + 1) l = some s := gD (K + 1) (by omega)
    have d2 : spec_DrawPlaces.f (K + 1) l = some p := gP (K + 1) (by omega)
    have d3 : impl_Greedy.f (K + 1) s (C : Int) = some (a, true) := ga (K + 1) (by omega)
    have d4 : impl_Lazy.f (K + 1) s (C : Int) = some (b, true) := gb (K + 1) (by omega)
    have d5 : impl_Cheapest.f (K + 1) s (C : Int) = some (c, true) := gc (K + 1) (by omega)
    have d6 : impl_TokensCost.f K a = some (tot cf a, true) := ta K (by omega)
    have d7 : impl_TokensCost.f K b = some (tot cf b, true) := tb K (by omega)
    have d8 : impl_TokensCost.f K c = some (tot cf c, true) := tc K (by omega)
    clear ga gb gc gD gP ta tb tc
    have nn : (s.toList != s.toList) = false := by simp
    unfold laws_FnCheapest.f
    rw [hbig, decide_eq_false hb, Option.bind_some, if_neg (by decide), d1, Option.bind_some, d2, Option.bind_some, if_pos (by omega), hC, d3, Option.bind_some, d4, Option.bind_some, d5, Option.bind_some]
    dsimp only
    rw [xa, Option.bind_some, xb, Option.bind_some, xc, Option.bind_some]
    dsimp only
    rw [if_pos rfl, if_pos rfl, if_pos rfl, if_pos rfl, if_pos rfl, if_pos rfl, if_pos rfl, if_pos rfl, nn, laws_FnCheapest.j0, if_neg (by decide), d6, Option.bind_some, d7, Option.bind_some, d8, Option.bind_some]
    dsimp only
    rw [if_pos rfl, if_pos ha, if_pos hb2, hw9, decide_eq_true (by omega)]

end Go.Proofs.Ytaaoojmbomhakaa.Pure
