/- The law FnExactBigText: for every input within the row's bounds the printed function answers true: what the program's function tells is what the law asks. Conditions: only the bounds that the row itself gives (sizes of strings and slices, ranges of the number kinds). -/
import Derived.Test.YtbkikljnbdfblaaPFnExactBigTextx1
namespace Go.Proofs.Ytbkikljnbdfblaa.Pure
open Go.RowKit Go.Proofs.Ytbkikljnbdfblaa.PFnExactBigText Go.Proofs.YtbkikljnbdfblaaW.PrintWords Go.Proofs.YtbkikljnbdfblaaW.PrintLast Go.Proofs.YtbkikljnbdfblaaW.PrintMore
set_option linter.unusedVariables false
set_option linter.unusedSimpArgs false

theorem w64_id {x : Int} (h0 : -9223372036854775808 ≤ x) (h1 : x ≤ 9223372036854775807) : wrap64 x = x := by unfold wrap64; omega
theorem tmod_nn {a : Int} (b : Int) (h : 0 ≤ a) : Int.tmod a b = a % b := Int.tmod_eq_emod_of_nonneg h
theorem tdiv_nn {a : Int} (b : Int) (h : 0 ≤ a) : Int.tdiv a b = a / b := Int.tdiv_eq_ediv_of_nonneg h
theorem wf64 {n : Int} (h : (Lit.int .i64 n).wf = true) : -9223372036854775808 ≤ n ∧ n ≤ 9223372036854775807 := by
  simp [Lit.wf, IntKind.min, IntKind.max, IntKind.signed, IntKind.bits] at h
  omega
theorem wfu32 {n : Int} (h : (Lit.int .u32 n).wf = true) : 0 ≤ n ∧ n ≤ 4294967295 := by
  simp [Lit.wf, IntKind.min, IntKind.max, IntKind.signed, IntKind.bits] at h
  omega
theorem wraps64 (n : Int) (h0 : 0 ≤ n) (h1 : n < 2 ^ 63) : IntKind.i64.wrap n = n := by rw [IntKind.wrap_i64]; omega
theorem wrapsu32 (n : Int) (h0 : 0 ≤ n) (h1 : n < 2 ^ 32) : IntKind.u32.wrap n = n := by rw [IntKind.wrap_u32]; omega
/-- a | b of parts that do not meet, of an int. -/
theorem or64 (i : Nat) (x y : Int) (hx0 : 0 ≤ x) (hx : x % 2 ^ i = 0) (hx1 : x < 2 ^ 63) (hy0 : 0 ≤ y) (hy : y < 2 ^ i) (hy1 : y < 2 ^ 63) : Go.bits .or .i64 x y = x + y :=
  bits_join .i64 63 (by decide) wraps64 i x y hx0 hx hx1 hy0 hy hy1
theorem ev_ite_pos {α : Type} {c : Prop} [Decidable c] {f g : Nat → Option α} {r : α} (h : c) (k : Ev f r) : Ev (fun n => if c then f n else g n) r := Ev.congr (fun n => if_pos h) k
theorem ev_ite_neg {α : Type} {c : Prop} [Decidable c] {f g : Nat → Option α} {r : α} (h : ¬ c) (k : Ev g r) : Ev (fun n => if c then f n else g n) r := Ev.congr (fun n => if_neg h) k
/-- A callee without rounds that answers. -/
theorem ev_bind0 {α β : Type} {o : Option α} {f : Nat → α → Option β} {a : α} {r : β} (h : o = some a) (k : Ev (fun n => f n a) r) : Ev (fun n => o.bind (f n)) r := Ev.congr (fun n => by rw [h]; rfl) k
theorem bt_lo (s : ByteArray) (i : Int) : 0 ≤ bt s i := (bt_range s i).1
theorem bt_hi (s : ByteArray) (i : Int) : bt s i ≤ 255 := (bt_range s i).2
/-- A callee that answers from some number of rounds on, used. -/
theorem ev_use {α β : Type} {g : Nat → Option α} {a : α} {F G : Nat → Option β} {r : β} (e : Ev g a) (h : ∀ k, g k = some a → F k = G k) (c : Ev G r) : Ev F r := by
  obtain ⟨K, e⟩ := e
  obtain ⟨K', c⟩ := c
  exact ⟨max K K', fun n hn => (h n (e n (by omega))).trans (c n (by omega))⟩
theorem ev_use_step {α β : Type} {g : Nat → Option α} {a : α} {F G : Nat → Option β} {r : β} (e : Ev g a) (h : ∀ k, g k = some a → F (k + 1) = G k) (c : Ev G r) : Ev F r := by
  obtain ⟨K, e⟩ := e
  obtain ⟨K', c⟩ := c
  refine ⟨max K K' + 1, fun n hn => ?_⟩
  obtain ⟨m, rfl⟩ : ∃ m, n = m + 1 := ⟨n - 1, by omega⟩
  exact (h m (e m (by omega))).trans (c m (by omega))
theorem ev_end {α β : Type} {g : Nat → Option α} {a : α} {F : Nat → Option β} {r : β} (e : Ev g a) (h : ∀ k, g k = some a → F k = some r) : Ev F r := by
  obtain ⟨K, e⟩ := e
  exact ⟨K, fun n hn => h n (e n hn)⟩
theorem ev_two {α β : Type} {g : Nat → Option α} {h : Nat → Option β} {a : α} {b : β} (e : Ev g a) (f : Ev h b) : ∃ k, g k = some a ∧ h k = some b := by
  obtain ⟨K, e⟩ := e
  obtain ⟨K', f⟩ := f
  exact ⟨max K K', e _ (by omega), f _ (by omega)⟩
theorem ev_ret {α : Type} {F : Nat → Option α} {r : α} (h : ∀ k, F (k + 1) = some r) : Ev F r := ⟨1, fun n hn => by obtain ⟨m, rfl⟩ : ∃ m, n = m + 1 := ⟨n - 1, by omega⟩; exact h m⟩

theorem in_spec (a b c : Int) : spec_l01In.f a b c = some (decide (b ≤ a ∧ a ≤ c)) := by
  unfold spec_l01In.f
  split
  · rename_i h
    have e : (decide (a ≤ c)) = decide (b ≤ a ∧ a ≤ c) := decide_eq_decide.mpr ⟨fun h' => ⟨h, h'⟩, fun h' => h'.2⟩
    rw [e]
  · rename_i h
    have e : (decide (b ≤ a ∧ a ≤ c)) = false := decide_eq_false fun h' => h h'.1
    rw [e]

theorem in_impl (a b c : Int) : impl_within.f a b c = some (decide (b ≤ a ∧ a ≤ c)) := by
  unfold impl_within.f
  split
  · rename_i h
    have e : (decide (a ≤ c)) = decide (b ≤ a ∧ a ≤ c) := decide_eq_decide.mpr ⟨fun h' => ⟨h, h'⟩, fun h' => h'.2⟩
    rw [e]
  · rename_i h
    have e : (decide (b ≤ a ∧ a ≤ c)) = false := decide_eq_false fun h' => h h'.1
    rw [e]


theorem nums_size (xs : List Int) : (strOfNums xs).size = xs.length := by simp [strOfNums, ByteArray.size]
theorem nums_join (xs ys : List Int) : strOfNums xs ++ strOfNums ys = strOfNums (xs ++ ys) := by
  apply ByteArray.ext
  simp [strOfNums]

/-- The bytes of a number, the highest first, ahead of some others. -/
def bigs : Nat → Int → List Int → List Int
  | 0, _, acc => acc
  | d + 1, n, acc => bigs d (n / 256) (n % 256 :: acc)
theorem bigs_len : ∀ (d : Nat) (n : Int) (acc : List Int), (bigs d n acc).length = d + acc.length
  | 0, _, _ => by simp [bigs]
  | d + 1, n, acc => by rw [bigs, bigs_len d]; simp; omega
theorem big_spec (s : Int) (hs : s ≤ 4) (d : Nat) : ∀ (n i : Int) (acc : List Int), 0 ≤ n → n < 4294967296 → 0 ≤ i → i + d = s → (acc.length : Int) = i →
    Ev (fun k => spec_l01Big.l0 k n s (strOfNums acc) i) (strOfNums (bigs d n acc)) := by
  induction d with
  | zero =>
    intro n i acc h0 h1 hi h hl
    exact ev_ret (fun k => by rw [spec_l01Big.l0, if_neg (by omega)]; rfl)
  | succ d ih =>
    intro n i acc h0 h1 hi h hl
    refine Ev.step (fun k => ?_) (ih (n / 256) (i + 1) (n % 256 :: acc) (by omega) (by omega) (by omega) (by omega) (by simp; omega))
    have e : n % 256 % 256 = n % 256 := by omega
    rw [spec_l01Big.l0, if_pos (by omega), Option.bind_some, if_pos (by rw [nums_size, nums_size]; simp; omega), tmod_nn _ h0, tdiv_nn _ h0, w64_id (x := n / 256) (by omega) (by omega), w64_id (x := i + 1) (by omega) (by omega), nums_join, e]
    rfl
theorem big_round (n : Int) (i : Nat) (hi : i ≤ 3) (xs : List Int) (hx : xs.length ≤ 4) (r : ByteArray × Bool) (h : Ev (fun k => impl_BigText.l0 k n (xs ++ [n / 256 ^ i % 256]) ((i : Int) - 1)) r) :
    Ev (fun k => impl_BigText.l0 k n xs i) r := by
  refine Ev.step (fun k => ?_) h
  have w1 : wrap64 (8 * (i : Int)) = 8 * i := w64_id (by omega) (by omega)
  have e : shr .i64 n (8 * (i : Int)) = n / 256 ^ i := by
    unfold shr
    have hm : min (8 * (i : Int)).toNat IntKind.i64.bits = 8 * i := by simp [IntKind.bits]; omega
    rw [hm, Int.pow_mul]
    rfl
  rw [impl_BigText.l0, if_pos (by omega), w1, if_pos (by omega), if_pos (by omega), e, w64_id (x := (i : Int) - 1) (by omega) (by omega)]
theorem big_end (n : Int) (xs : List Int) : Ev (fun k => impl_BigText.l0 k n xs (-1)) (strOfNums xs, true) := ev_ret (fun k => by rw [impl_BigText.l0, if_neg (by omega)])
theorem big_impl (n : Int) (s : Nat) (h0 : 1 ≤ s) (h1 : s ≤ 4) : Ev (fun k => impl_BigText.l0 k n [] ((s : Int) - 1)) (strOfNums (bigs s n []), true) := by
  have c : s = 1 ∨ s = 2 ∨ s = 3 ∨ s = 4 := by omega
  have d2 : n / 256 / 256 = n / 65536 := by rw [Int.ediv_ediv_of_nonneg (by omega)]; rfl
  have d3 : n / 65536 / 256 = n / 16777216 := by rw [Int.ediv_ediv_of_nonneg (by omega)]; rfl
  rcases c with rfl | rfl | rfl | rfl
  · refine big_round n 0 (by omega) [] (by simp) _ ?_
    have := big_end n [n % 256]
    simpa [bigs] using this
  · refine big_round n 1 (by omega) [] (by simp) _ (big_round n 0 (by omega) _ (by simp) _ ?_)
    have := big_end n [n / 256 % 256, n % 256]
    simpa [bigs] using this
  · refine big_round n 2 (by omega) [] (by simp) _ (big_round n 1 (by omega) _ (by simp) _ (big_round n 0 (by omega) _ (by simp) _ ?_))
    have := big_end n [n / 65536 % 256, n / 256 % 256, n % 256]
    simpa [bigs, d2] using this
  · refine big_round n 3 (by omega) [] (by simp) _ (big_round n 2 (by omega) _ (by simp) _ (big_round n 1 (by omega) _ (by simp) _ (big_round n 0 (by omega) _ (by simp) _ ?_)))
    have := big_end n [n / 16777216 % 256, n / 65536 % 256, n / 256 % 256, n % 256]
    simpa [bigs, d2, d3] using this
theorem pow_case (s : Nat) (h0 : 1 ≤ s) (h1 : s ≤ 4) : spec_l01Pow.f 64 (8 * (s : Int)) = some (256 ^ s) ∧ impl_powerOf.f (8 * (s : Int)) = some (256 ^ s) := by
  have c : s = 1 ∨ s = 2 ∨ s = 3 ∨ s = 4 := by omega
  rcases c with rfl | rfl | rfl | rfl <;> exact ⟨by decide +kernel, by decide +kernel⟩
/-- Both sides of BigText. -/
theorem big_both (n s : Int) : (1 ≤ s ∧ s ≤ 4 ∧ 0 ≤ n ∧ n < 256 ^ s.toNat → Ev (fun k => spec_BigText.f k n s) (strOfNums (bigs s.toNat n []), true) ∧ Ev (fun k => impl_BigText.f k n s) (strOfNums (bigs s.toNat n []), true)) ∧
    (¬ (1 ≤ s ∧ s ≤ 4 ∧ 0 ≤ n ∧ n < 256 ^ s.toNat) → Ev (fun k => spec_BigText.f k n s) ((⟨#[]⟩ : ByteArray), false) ∧ Ev (fun k => impl_BigText.f k n s) ((⟨#[]⟩ : ByteArray), false)) := by
  by_cases hs : 1 ≤ s ∧ s ≤ 4
  · obtain ⟨s, rfl⟩ := Int.eq_ofNat_of_zero_le (show 0 ≤ s by omega)
    rw [Int.toNat_natCast]
    obtain ⟨p1, p2⟩ := pow_case s (by omega) (by omega)
    have hp : (256 : Int) ^ s ≤ 4294967296 ∧ 1 ≤ (256 : Int) ^ s := by
      have c : s = 1 ∨ s = 2 ∨ s = 3 ∨ s = 4 := by omega
      rcases c with rfl | rfl | rfl | rfl <;> decide
    have w8 : wrap64 (8 * (s : Int)) = 8 * s := w64_id (by omega) (by omega)
    have wp : wrap64 ((256 : Int) ^ s - 1) = 256 ^ s - 1 := w64_id (by omega) (by omega)
    have P : Ev (fun k => spec_l01Pow.f k (8 * (s : Int))) (256 ^ s) := Ev.of (spec_l01Pow.mono _) p1
    have ht := decide_eq_true hs
    constructor
    · intro ⟨_, _, n0, n1⟩
      have hb : decide (0 ≤ n ∧ n ≤ (256 : Int) ^ s - 1) = true := decide_eq_true (by omega)
      constructor
      · have B : Ev (fun k => spec_l01Big.f k n s) (strOfNums (bigs s n [])) := big_spec s (by omega) s n 0 [] n0 (by omega) (by omega) (by omega) rfl
        obtain ⟨K1, P⟩ := P
        obtain ⟨K2, B⟩ := B
        refine ⟨max K1 K2, fun k hk => ?_⟩
        have P := P k (by omega)
        have B := B k (by omega)
        show spec_BigText.f k n s = _
        unfold spec_BigText.f
        simp only [in_spec, Option.bind_some, ht, if_true, w8, P, wp, hb, B]
      · have J : Ev (fun k => impl_BigText.j0 k n s false) (strOfNums (bigs s n []), true) :=
          Ev.step (fun k => by rw [impl_BigText.j0, if_neg (by decide), w64_id (x := (s : Int) - 1) (by omega) (by omega)]) (big_impl n s (by omega) (by omega))
        refine Ev.congr (fun k => ?_) J
        unfold impl_BigText.f
        simp only [in_impl, Option.bind_some, ht, if_true, w8, p2, wp, hb, Bool.not_true]
    · intro h
      have hb : decide (0 ≤ n ∧ n ≤ (256 : Int) ^ s - 1) = false := decide_eq_false (by omega)
      constructor
      · obtain ⟨K1, P⟩ := P
        refine ⟨K1, fun k hk => ?_⟩
        have P := P k (by omega)
        show spec_BigText.f k n s = _
        unfold spec_BigText.f
        simp only [in_spec, Option.bind_some, ht, if_true, w8, P, wp, hb, Bool.false_eq_true, if_false]
      · have J : Ev (fun k => impl_BigText.j0 k n s true) ((⟨#[]⟩ : ByteArray), false) := ev_ret (fun k => by rw [impl_BigText.j0, if_pos rfl])
        refine Ev.congr (fun k => ?_) J
        unfold impl_BigText.f
        simp only [in_impl, Option.bind_some, ht, if_true, w8, p2, wp, hb, Bool.not_false]
  · have ht := decide_eq_false hs
    constructor
    · intro h
      exact absurd ⟨h.1, h.2.1⟩ hs
    · intro _
      constructor
      · refine Ev.congr (fun k => ?_) (Ev.now _)
        unfold spec_BigText.f
        simp only [in_spec, Option.bind_some, ht, Bool.false_eq_true, if_false]
      · have J : Ev (fun k => impl_BigText.j0 k n s true) ((⟨#[]⟩ : ByteArray), false) := ev_ret (fun k => by rw [impl_BigText.j0, if_pos rfl])
        refine Ev.congr (fun k => ?_) J
        unfold impl_BigText.f
        simp only [in_impl, Option.bind_some, ht, Bool.false_eq_true, if_false]

theorem FnExactBigText : laws_FnExactBigText.Pure := by
  intro n s hn hs
  have go : ∀ r : ByteArray × Bool, Ev (fun k => spec_BigText.f k n s) r → Ev (fun k => impl_BigText.f k n s) r → ∃ k, laws_FnExactBigText.f k n s = some true := by
    intro r e1 e2
    obtain ⟨k, g1, g2⟩ := ev_two e1 e2
    refine ⟨k, ?_⟩
    unfold laws_FnExactBigText.f
    rw [g1, g2]
    simp
  obtain ⟨g1, g2⟩ := big_both n s
  by_cases h : 1 ≤ s ∧ s ≤ 4 ∧ 0 ≤ n ∧ n < 256 ^ s.toNat
  · obtain ⟨e1, e2⟩ := g1 h
    exact go _ e1 e2
  · obtain ⟨e1, e2⟩ := g2 h
    exact go _ e1 e2

end Go.Proofs.Ytbkikljnbdfblaa.Pure
