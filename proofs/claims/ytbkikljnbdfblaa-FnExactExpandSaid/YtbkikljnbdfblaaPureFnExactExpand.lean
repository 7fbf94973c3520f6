/- The law FnExactExpand: for every input within the row's bounds the printed function answers true: what the program's function tells is what the law asks. Conditions: only the bounds that the row itself gives (sizes of strings and slices, ranges of the number kinds). -/
import Derived.Test.YtbkikljnbdfblaaPFnExactExpandx2
namespace Go.Proofs.Ytbkikljnbdfblaa.Pure
open Go.RowKit Go.Proofs.Ytbkikljnbdfblaa.PFnExactExpand Go.Proofs.YtbkikljnbdfblaaW.PrintWords Go.Proofs.YtbkikljnbdfblaaW.PrintLast Go.Proofs.YtbkikljnbdfblaaW.PrintMore
set_option linter.unusedVariables false
set_option linter.unusedSimpArgs false

theorem w64_id {x : Int} (h0 : -9223372036854775808 ≤ x) (h1 : x ≤ 9223372036854775807) : wrap64 x = x := by unfold wrap64; omega
theorem tmod_nn {a : Int} (b : Int) (h : 0 ≤ a) : Int.tmod a b = a % b := Int.tmod_eq_emod_of_nonneg h
theorem tdiv_nn {a : Int} (b : Int) (h : 0 ≤ a) : Int.tdiv a b = a / b := Int.tdiv_eq_ediv_of_nonneg h
theorem wf64 {n : Int} (h : (Lit.int .i64 n).wf = true) : -9223372036854775808 ≤ n ∧ n ≤ 9223372036854775807 := by
  simp [Lit.wf, IntKind.min, IntKind.max, IntKind.signed, IntKind.bits] at h
  omega
theorem wfu32 {n : Int} (h : (Lit.int .u32 n).wf = true) : 0 ≤ n ∧ n ≤ 4294967295 := by
  simp [Lit.wf, IntKind.min, IntKind.max, IntKind.signed, IntKind.bits] at h
  omega
theorem wraps64 (n : Int) (h0 : 0 ≤ n) (h1 : n < 2 ^ 63) : IntKind.i64.wrap n = n := by rw [IntKind.wrap_i64]; omega
theorem wrapsu32 (n : Int) (h0 : 0 ≤ n) (h1 : n < 2 ^ 32) : IntKind.u32.wrap n = n := by rw [IntKind.wrap_u32]; omega
/-- a | b of parts that do not meet, of an int. -/
theorem or64 (i : Nat) (x y : Int) (hx0 : 0 ≤ x) (hx : x % 2 ^ i = 0) (hx1 : x < 2 ^ 63) (hy0 : 0 ≤ y) (hy : y < 2 ^ i) (hy1 : y < 2 ^ 63) : Go.bits .or .i64 x y = x + y :=
  bits_join .i64 63 (by decide) wraps64 i x y hx0 hx hx1 hy0 hy hy1
theorem ev_ite_pos {α : Type} {c : Prop} [Decidable c] {f g : Nat → Option α} {r : α} (h : c) (k : Ev f r) : Ev (fun n => if c then f n else g n) r := Ev.congr (fun n => if_pos h) k
theorem ev_ite_neg {α : Type} {c : Prop} [Decidable c] {f g : Nat → Option α} {r : α} (h : ¬ c) (k : Ev g r) : Ev (fun n => if c then f n else g n) r := Ev.congr (fun n => if_neg h) k
/-- A callee without rounds that answers. -/
theorem ev_bind0 {α β : Type} {o : Option α} {f : Nat → α → Option β} {a : α} {r : β} (h : o = some a) (k : Ev (fun n => f n a) r) : Ev (fun n => o.bind (f n)) r := Ev.congr (fun n => by rw [h]; rfl) k
theorem bt_lo (s : ByteArray) (i : Int) : 0 ≤ bt s i := (bt_range s i).1
theorem bt_hi (s : ByteArray) (i : Int) : bt s i ≤ 255 := (bt_range s i).2
/-- A callee that answers from some number of rounds on, used. -/
theorem ev_use {α β : Type} {g : Nat → Option α} {a : α} {F G : Nat → Option β} {r : β} (e : Ev g a) (h : ∀ k, g k = some a → F k = G k) (c : Ev G r) : Ev F r := by
  obtain ⟨K, e⟩ := e
  obtain ⟨K', c⟩ := c
  exact ⟨max K K', fun n hn => (h n (e n (by omega))).trans (c n (by omega))⟩
theorem ev_use_step {α β : Type} {g : Nat → Option α} {a : α} {F G : Nat → Option β} {r : β} (e : Ev g a) (h : ∀ k, g k = some a → F (k + 1) = G k) (c : Ev G r) : Ev F r := by
  obtain ⟨K, e⟩ := e
  obtain ⟨K', c⟩ := c
  refine ⟨max K K' + 1, fun n hn => ?_⟩
  obtain ⟨m, rfl⟩ : ∃ m, n = m + 1 := ⟨n - 1, by omega⟩
  exact (h m (e m (by omega))).trans (c m (by omega))
theorem ev_end {α β : Type} {g : Nat → Option α} {a : α} {F : Nat → Option β} {r : β} (e : Ev g a) (h : ∀ k, g k = some a → F k = some r) : Ev F r := by
  obtain ⟨K, e⟩ := e
  exact ⟨K, fun n hn => h n (e n hn)⟩
theorem ev_two {α β : Type} {g : Nat → Option α} {h : Nat → Option β} {a : α} {b : β} (e : Ev g a) (f : Ev h b) : ∃ k, g k = some a ∧ h k = some b := by
  obtain ⟨K, e⟩ := e
  obtain ⟨K', f⟩ := f
  exact ⟨max K K', e _ (by omega), f _ (by omega)⟩
theorem ev_ret {α : Type} {F : Nat → Option α} {r : α} (h : ∀ k, F (k + 1) = some r) : Ev F r := ⟨1, fun n hn => by obtain ⟨m, rfl⟩ : ∃ m, n = m + 1 := ⟨n - 1, by omega⟩; exact h m⟩

theorem in_spec (a b c : Int) : spec_l01In.f a b c = some (decide (b ≤ a ∧ a ≤ c)) := by
  unfold spec_l01In.f
  split
  · rename_i h
    have e : (decide (a ≤ c)) = decide (b ≤ a ∧ a ≤ c) := decide_eq_decide.mpr ⟨fun h' => ⟨h, h'⟩, fun h' => h'.2⟩
    rw [e]
  · rename_i h
    have e : (decide (b ≤ a ∧ a ≤ c)) = false := decide_eq_false fun h' => h h'.1
    rw [e]

theorem in_impl (a b c : Int) : impl_within.f a b c = some (decide (b ≤ a ∧ a ≤ c)) := by
  unfold impl_within.f
  split
  · rename_i h
    have e : (decide (a ≤ c)) = decide (b ≤ a ∧ a ≤ c) := decide_eq_decide.mpr ⟨fun h' => ⟨h, h'⟩, fun h' => h'.2⟩
    rw [e]
  · rename_i h
    have e : (decide (b ≤ a ∧ a ≤ c)) = false := decide_eq_false fun h' => h h'.1
    rw [e]


/-- Is a token right. -/
def tokB (a b c : Int) : Bool := if b = 0 then decide (0 ≤ a ∧ a ≤ 255 ∧ c = 0) else decide (a = 0 ∧ 3 ≤ b ∧ b ≤ 258 ∧ 1 ≤ c ∧ c ≤ 32768)
theorem tok_spec (a b c : Int) : spec_TokenOk.f a b c = some (tokB a b c) := by
  unfold spec_TokenOk.f tokB
  simp only [in_spec, Option.bind_some]
  split
  · split
    · rename_i h
      have h := of_decide_eq_true h
      congr 1
      rw [Bool.eq_iff_iff]
      simp
      omega
    · rename_i h
      simp at h
      congr 1
      symm
      simp
      omega
  · split
    · split
      · rename_i h1 h
        have h := of_decide_eq_true h
        congr 1
        rw [Bool.eq_iff_iff]
        simp
        omega
      · rename_i h1 h
        simp at h
        congr 1
        symm
        simp
        omega
    · congr 1
      symm
      simp
      omega
theorem tok_impl1 (k : Nat) (a b c : Int) : impl_TokenOk.f (k + 1) a b c = some (tokB a b c) := by
  have j : ∀ x, impl_TokenOk.j0 (k + 1) x a b c = some (if x = true then decide (0 ≤ a ∧ a ≤ 255) else decide (a = 0 ∧ 3 ≤ b ∧ b ≤ 258 ∧ 1 ≤ c ∧ c ≤ 32768)) := by
    intro x
    rw [impl_TokenOk.j0]
    simp only [in_impl, Option.bind_some]
    split
    · rfl
    · split
      · split
        · rename_i h
          have h := of_decide_eq_true h
          congr 1
          rw [Bool.eq_iff_iff]
          simp
          omega
        · rename_i h
          simp at h
          congr 1
          symm
          simp
          omega
      · congr 1
        symm
        simp
        omega
  unfold tokB
  by_cases hb : b = 0
  · rw [if_pos hb]
    have e : (if (c == 0) = true then decide (0 ≤ a ∧ a ≤ 255) else decide (a = 0 ∧ 3 ≤ b ∧ b ≤ 258 ∧ 1 ≤ c ∧ c ≤ 32768)) = decide (0 ≤ a ∧ a ≤ 255 ∧ c = 0) := by
      split
      · rename_i h
        simp at h
        rw [Bool.eq_iff_iff]
        simp
        omega
      · rename_i h
        simp at h
        rw [Bool.eq_iff_iff]
        simp
        omega
    rw [← e]
    unfold impl_TokenOk.f
    rw [if_pos hb]
    exact j (c == 0)
  · rw [if_neg hb]
    unfold impl_TokenOk.f
    rw [if_neg hb]
    exact j false
theorem tok_impl (a b c : Int) : Ev (fun k => impl_TokenOk.f k a b c) (tokB a b c) := ev_ret (fun k => tok_impl1 k a b c)

open Go.Proofs.Ytbkikljnbdfblaa.MExpand
open Go.Proofs.Ytbkikljnbdfblaa.MBytes in
theorem bytesLen (s : ByteArray) : (bytesOf s).length = s.size := bytesOf_length s
theorem copyF_some : ∀ (k : Nat) (d : Int) (xs : List Int), 1 ≤ d → d ≤ xs.length → xs.length + k ≤ 1000000 → ∃ ys, copyF k d xs = some ys ∧ ys.length = xs.length + k
  | 0, d, xs, h1, h2, h3 => ⟨xs, rfl, by omega⟩
  | k + 1, d, xs, h1, h2, h3 => by
    obtain ⟨ys, e, hl⟩ := copyF_some k d (xs ++ [rd xs ((xs.length : Int) - d)]) h1 (by simp; omega) (by simp; omega)
    refine ⟨ys, ?_, by rw [hl]; simp; omega⟩
    rw [copyF, if_pos (by omega)]
    exact e
theorem tokB_len {a b c : Int} (h : tokB a b c = true) : (b = 0 ∧ 0 ≤ a ∧ a ≤ 255 ∧ c = 0) ∨ (b ≠ 0 ∧ a = 0 ∧ 3 ≤ b ∧ b ≤ 258 ∧ 1 ≤ c ∧ c ≤ 32768) := by
  unfold tokB at h
  by_cases hb : b = 0
  · rw [if_pos hb] at h
    have := of_decide_eq_true h
    exact Or.inl ⟨hb, this⟩
  · rw [if_neg hb] at h
    have := of_decide_eq_true h
    exact Or.inr ⟨hb, this⟩
theorem tokF_some (t : Int × Int × Int) (xs : List Int) (h : tokB t.1 t.2.1 t.2.2 = true) (hd : t.2.2 ≤ xs.length) (hl : xs.length ≤ 30000) : ∃ ys, tokF xs t = some ys ∧ (ys.length : Int) = xs.length + (if t.2.1 > 1 then t.2.1 else 1) := by
  rcases tokB_len h with ⟨h1, h2⟩ | ⟨h1, h2⟩
  · refine ⟨xs ++ [t.1 % 256], by unfold tokF; rw [if_pos h1], ?_⟩
    rw [if_neg (by omega)]
    simp
  · obtain ⟨ys, e, hy⟩ := copyF_some t.2.1.toNat t.2.2 xs (by omega) hd (by omega)
    refine ⟨ys, by unfold tokF; rw [if_neg h1, if_pos (by omega)]; exact e, ?_⟩
    rw [if_pos (by omega), hy]
    omega
theorem exp_both (n0 : Nat) (h0 : n0 ≤ 12000) (L : Nat → Int × Int × Int) (ok : Nat → Bool) (hok : ∀ i, ok i = true → tokB (L i).1 (L i).2.1 (L i).2.2 = true) : ∀ (d i : Nat) (xs : List Int), n0 ≤ xs.length → xs.length ≤ n0 + 12000 → ∃ r, expF n0 L ok d i xs = some r ∧ expI n0 L ok d i xs = some r
  | 0, i, xs, h1, h2 => ⟨_, rfl, rfl⟩
  | d + 1, i, xs, h1, h2 => by
    by_cases ho : ok i = true
    · have ht := hok i ho
      by_cases hd : (L i).2.2 > xs.length
      · exact ⟨(⟨#[]⟩, false), by rw [expF, if_pos ho, if_pos hd], by rw [expI, if_pos ho, if_pos hd]⟩
      · obtain ⟨ys, e, hy⟩ := tokF_some (L i) xs ht (by omega) (by omega)
        have hb : ¬ ¬ (-1000000 ≤ (L i).2.1 ∧ (L i).2.1 ≤ 1000000) := by
          rcases tokB_len ht with h | h <;> omega
        by_cases hv : (xs.length : Int) - n0 + (if (L i).2.1 > 1 then (L i).2.1 else 1) > 12000
        · refine ⟨(⟨#[]⟩, false), ?_, ?_⟩
          · rw [expF, if_pos ho, if_neg hd, e, Option.bind_some, if_pos (by omega)]
          · rw [expI, if_pos ho, if_neg hd, if_neg hb, if_pos hv]
        · obtain ⟨r, e1, e2⟩ := exp_both n0 h0 L ok hok d (i + 1) ys (by split at hy <;> omega) (by omega)
          refine ⟨r, ?_, ?_⟩
          · rw [expF, if_pos ho, if_neg hd, e, Option.bind_some, if_neg (by omega)]
            exact e1
          · rw [expI, if_pos ho, if_neg hd, if_neg hb, if_neg hv, e, Option.bind_some, if_pos (by omega)]
            exact e2
    · exact ⟨(⟨#[]⟩, false), by rw [expF, if_neg ho], by rw [expI, if_neg ho]⟩
theorem expand_both (s : ByteArray) (n : Nat) (L : Nat → Int × Int × Int) (ok : Nat → Bool) (hok : ∀ i, ok i = true → tokB (L i).1 (L i).2.1 (L i).2.2 = true) : ∃ r, expandF s n L ok = some r ∧ expandI s n L ok = some r := by
  unfold expandF expandI
  by_cases hs : (s.size : Int) > 12000
  · exact ⟨(⟨#[]⟩, false), by rw [if_pos hs], by rw [if_pos hs]⟩
  · rw [if_neg hs, if_neg hs]
    have hl := bytesLen s
    exact exp_both s.size (by omega) L ok hok n 0 (bytesOf s) (by omega) (by omega)

theorem spec_expand_is (s : ByteArray) (l : List S72) (hl : l.length ≤ 2000000) : spec_Expand.f s l = expandF s l.length (fun i => ((rd_T72 l (i : Int)).f0, (rd_T72 l (i : Int)).f1, (rd_T72 l (i : Int)).f2)) (fun i => tokB (rd_T72 l (i : Int)).f0 (rd_T72 l (i : Int)).f1 (rd_T72 l (i : Int)).f2) := by
  unfold spec_Expand.f
  simp only [tok_spec, Option.isSome_some, implies_true, and_true, Option.getD_some]
  rw [if_pos hl]
theorem impl_expand_is (s : ByteArray) (l : List S72) (hl : l.length ≤ 2000000) : impl_Expand.f s l = expandI s l.length (fun i => ((rd_T72 l (i : Int)).f0, (rd_T72 l (i : Int)).f1, (rd_T72 l (i : Int)).f2)) (fun i => tokB (rd_T72 l (i : Int)).f0 (rd_T72 l (i : Int)).f1 (rd_T72 l (i : Int)).f2) := by
  have e : ∀ a b c, impl_TokenOk.f 10 a b c = some (tokB a b c) := fun a b c => tok_impl1 9 a b c
  unfold impl_Expand.f
  simp only [e, Option.isSome_some, implies_true, and_true, Option.getD_some]
  rw [if_pos hl]
theorem expand_law (s : ByteArray) (l : List S72) (hl : l.length ≤ 2000000) : ∃ r, spec_Expand.f s l = some r ∧ impl_Expand.f s l = some r := by
  rw [spec_expand_is s l hl, impl_expand_is s l hl]
  exact expand_both s l.length _ _ (fun i h => h)

theorem gd_at {α : Type} (l : List α) (z : α) (j : Nat) (h : j < l.length) : l.getD (j : Int).toNat z = l[j] := by rw [Int.toNat_natCast, List.getD_eq_getElem?_getD, List.getElem?_eq_getElem h]; rfl
theorem gd_drop {α : Type} (l : List α) (z : α) (j : Nat) (h : j < l.length) : l.drop j = l.getD (j : Int).toNat z :: l.drop (j + 1) := by rw [gd_at l z j h]; exact List.drop_eq_getElem_cons h
theorem g_take_set {α : Type} (l : List α) (j : Nat) (v : α) (h : j < l.length) : (l.set j v).take (j + 1) = l.take j ++ [v] := by
  rw [List.take_succ_eq_append_getElem (by simpa using h)]
  simp [List.take_set_of_le]

/-- The law's own token, as the program's. -/
def tokOf (x : S75) : S72 := ⟨x.f0, x.f1, x.f2⟩
theorem toTokenS_loop (l : List S75) (hl : l.length ≤ 1048576) (d : Nat) : ∀ (j : Nat) (o : List S72), j + d = l.length → o.length = l.length → o.take j = (l.map tokOf).take j → Ev (fun k => laws_toTokenS.l0 k l o j) (l.map tokOf) := by
  induction d with
  | zero =>
    intro j o h ho hp
    refine ev_ret (fun k => ?_)
    rw [laws_toTokenS.l0, if_neg (by omega)]
    have e1 : o.take j = o := List.take_of_length_le (by omega)
    have e2 : (l.map tokOf).take j = l.map tokOf := List.take_of_length_le (by rw [List.length_map]; omega)
    rw [e1, e2] at hp
    rw [hp]
  | succ d ih =>
    intro j o h ho hp
    have hj : j < l.length := by omega
    refine Ev.step (fun k => ?_) (ih (j + 1) (o.set j (tokOf l[j])) (by omega) (by simpa using ho) ?_)
    · have e : rd_T75 l (j : Int) = l[j] := gd_at l _ j hj
      rw [laws_toTokenS.l0, if_pos (by omega), if_pos (by omega), e]
      unfold laws_toToken.f
      rw [Option.bind_some, if_pos (by omega), w64_id (x := (j : Int) + 1) (by omega) (by omega), Int.toNat_natCast]
      rfl
    · rw [g_take_set o j _ (by omega), hp, List.take_succ_eq_append_getElem (by rw [List.length_map]; exact hj), List.getElem_map]
theorem toTokenS_is (l : List S75) (hl : l.length ≤ 1048576) : Ev (fun k => laws_toTokenS.f k l) (l.map tokOf) := by
  refine Ev.congr (fun k => ?_) (toTokenS_loop l hl l.length 0 (List.replicate l.length z72) (by omega) (by simp) (by simp))
  unfold laws_toTokenS.f
  rw [if_pos (by omega), Int.toNat_natCast, if_pos (by omega)]
  rfl

theorem eqTokenS_loop (l : List S72) (hl : l.length ≤ 4611686018427387904) (d : Nat) : ∀ j : Nat, j + d = l.length → Ev (fun k => laws_eqTokenS.l0 k l l j) true := by
  induction d with
  | zero => exact fun j h => ev_ret (fun k => by rw [laws_eqTokenS.l0, if_neg (by omega)])
  | succ d ih =>
    intro j h
    refine Ev.step (fun k => ?_) (ih (j + 1) (by omega))
    rw [laws_eqTokenS.l0, if_pos (by omega), if_pos (by omega), if_pos (by omega)]
    unfold laws_eqToken.f
    rw [if_pos rfl, if_pos rfl, if_pos rfl, Option.bind_some, if_pos rfl, w64_id (x := (j : Int) + 1) (by omega) (by omega)]
    rfl
theorem eqTokenS_is (l : List S72) (hl : l.length ≤ 4611686018427387904) : Ev (fun k => laws_eqTokenS.f k l l) true :=
  Ev.congr (fun k => by unfold laws_eqTokenS.f; rw [if_pos rfl]; rfl) (eqTokenS_loop l hl l.length 0 (by omega))

theorem FnExactExpand : laws_FnExactExpand.Pure := by
  intro s l hs hl hw
  have hl' : l.length ≤ 9223372036854775807 := by unfold maxLen at hl; omega
  have w : wrap64 (1048576 - (l.length : Int)) = 1048576 - l.length := w64_id (by omega) (by omega)
  by_cases hb0 : (s.size : Int) > 1048576
  · exact ⟨0, by unfold laws_FnExactExpand.f; rw [if_pos hb0]⟩
  by_cases hb : 1048576 - (l.length : Int) < 0
  · refine ⟨0, ?_⟩
    unfold laws_FnExactExpand.f laws_szTokenS.f
    rw [if_neg hb0, w, if_pos hb, Option.bind_some, if_pos (by omega)]
  · obtain ⟨r, eS, eI⟩ := expand_law s (l.map tokOf) (by rw [List.length_map]; omega)
    obtain ⟨K1, eT⟩ := toTokenS_is l (by omega)
    obtain ⟨K2, eE⟩ := eqTokenS_is (l.map tokOf) (by rw [List.length_map]; omega)
    refine ⟨K1 + K2 + 1, ?_⟩
    generalize hk : K1 + K2 = K
    have t1 : laws_toTokenS.f (K + 1) l = _ := eT (K + 1) (by omega)
    have t0 : laws_toTokenS.f K l = _ := eT K (by omega)
    have q0 : laws_eqTokenS.f K _ _ = _ := eE K (by omega)
    unfold laws_FnExactExpand.f laws_szTokenS.f
    rw [if_neg hb0, w, if_neg hb, Option.bind_some, if_neg hb, t1, Option.bind_some, eS, Option.bind_some, Option.bind_some, eI, Option.bind_some, if_pos rfl, bne_self_eq_false, laws_FnExactExpand.j0, if_neg (by decide), t0, Option.bind_some, q0, Option.bind_some, if_pos rfl]

end Go.Proofs.Ytbkikljnbdfblaa.Pure
