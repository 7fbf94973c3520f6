/- The law FnExpands: for every input within the row's bounds the printed function answers true: what the program's function tells is what the law asks. Conditions: only the bounds that the row itself gives (sizes of strings and slices, ranges of the number kinds). -/
import Derived.Test.YtbkikljnbdfblaaPFnExpandsx2
namespace Go.Proofs.Ytbkikljnbdfblaa.Pure
open Go.RowKit Go.Proofs.Ytbkikljnbdfblaa.PFnExpands Go.Proofs.YtbkikljnbdfblaaW.PrintWords Go.Proofs.YtbkikljnbdfblaaW.PrintLast Go.Proofs.YtbkikljnbdfblaaW.PrintMore
set_option linter.unusedVariables false
set_option linter.unusedSimpArgs false

theorem w64_id {x : Int} (h0 : -9223372036854775808 ≤ x) (h1 : x ≤ 9223372036854775807) : wrap64 x = x := by unfold wrap64; omega
theorem tmod_nn {a : Int} (b : Int) (h : 0 ≤ a) : Int.tmod a b = a % b := Int.tmod_eq_emod_of_nonneg h
theorem tdiv_nn {a : Int} (b : Int) (h : 0 ≤ a) : Int.tdiv a b = a / b := Int.tdiv_eq_ediv_of_nonneg h
theorem wf64 {n : Int} (h : (Lit.int .i64 n).wf = true) : -9223372036854775808 ≤ n ∧ n ≤ 9223372036854775807 := by
  simp [Lit.wf, IntKind.min, IntKind.max, IntKind.signed, IntKind.bits] at h
  omega
theorem wfu32 {n : Int} (h : (Lit.int .u32 n).wf = true) : 0 ≤ n ∧ n ≤ 4294967295 := by
  simp [Lit.wf, IntKind.min, IntKind.max, IntKind.signed, IntKind.bits] at h
  omega
theorem wraps64 (n : Int) (h0 : 0 ≤ n) (h1 : n < 2 ^ 63) : IntKind.i64.wrap n = n := by rw [IntKind.wrap_i64]; omega
theorem wrapsu32 (n : Int) (h0 : 0 ≤ n) (h1 : n < 2 ^ 32) : IntKind.u32.wrap n = n := by rw [IntKind.wrap_u32]; omega
/-- a | b of parts that do not meet, of an int. -/
theorem or64 (i : Nat) (x y : Int) (hx0 : 0 ≤ x) (hx : x % 2 ^ i = 0) (hx1 : x < 2 ^ 63) (hy0 : 0 ≤ y) (hy : y < 2 ^ i) (hy1 : y < 2 ^ 63) : Go.bits .or .i64 x y = x + y :=
  bits_join .i64 63 (by decide) wraps64 i x y hx0 hx hx1 hy0 hy hy1
theorem ev_ite_pos {α : Type} {c : Prop} [Decidable c] {f g : Nat → Option α} {r : α} (h : c) (k : Ev f r) : Ev (fun n => if c then f n else g n) r := Ev.congr (fun n => if_pos h) k
theorem ev_ite_neg {α : Type} {c : Prop} [Decidable c] {f g : Nat → Option α} {r : α} (h : ¬ c) (k : Ev g r) : Ev (fun n => if c then f n else g n) r := Ev.congr (fun n => if_neg h) k
/-- A callee without rounds that answers. -/
theorem ev_bind0 {α β : Type} {o : Option α} {f : Nat → α → Option β} {a : α} {r : β} (h : o = some a) (k : Ev (fun n => f n a) r) : Ev (fun n => o.bind (f n)) r := Ev.congr (fun n => by rw [h]; rfl) k
theorem bt_lo (s : ByteArray) (i : Int) : 0 ≤ bt s i := (bt_range s i).1
theorem bt_hi (s : ByteArray) (i : Int) : bt s i ≤ 255 := (bt_range s i).2
/-- A callee that answers from some number of rounds on, used. -/
theorem ev_use {α β : Type} {g : Nat → Option α} {a : α} {F G : Nat → Option β} {r : β} (e : Ev g a) (h : ∀ k, g k = some a → F k = G k) (c : Ev G r) : Ev F r := by
  obtain ⟨K, e⟩ := e
  obtain ⟨K', c⟩ := c
  exact ⟨max K K', fun n hn => (h n (e n (by omega))).trans (c n (by omega))⟩
theorem ev_use_step {α β : Type} {g : Nat → Option α} {a : α} {F G : Nat → Option β} {r : β} (e : Ev g a) (h : ∀ k, g k = some a → F (k + 1) = G k) (c : Ev G r) : Ev F r := by
  obtain ⟨K, e⟩ := e
  obtain ⟨K', c⟩ := c
  refine ⟨max K K' + 1, fun n hn => ?_⟩
  obtain ⟨m, rfl⟩ : ∃ m, n = m + 1 := ⟨n - 1, by omega⟩
  exact (h m (e m (by omega))).trans (c m (by omega))
theorem ev_end {α β : Type} {g : Nat → Option α} {a : α} {F : Nat → Option β} {r : β} (e : Ev g a) (h : ∀ k, g k = some a → F k = some r) : Ev F r := by
  obtain ⟨K, e⟩ := e
  exact ⟨K, fun n hn => h n (e n hn)⟩
theorem ev_two {α β : Type} {g : Nat → Option α} {h : Nat → Option β} {a : α} {b : β} (e : Ev g a) (f : Ev h b) : ∃ k, g k = some a ∧ h k = some b := by
  obtain ⟨K, e⟩ := e
  obtain ⟨K', f⟩ := f
  exact ⟨max K K', e _ (by omega), f _ (by omega)⟩
theorem ev_ret {α : Type} {F : Nat → Option α} {r : α} (h : ∀ k, F (k + 1) = some r) : Ev F r := ⟨1, fun n hn => by obtain ⟨m, rfl⟩ : ∃ m, n = m + 1 := ⟨n - 1, by omega⟩; exact h m⟩

theorem in_impl (a b c : Int) : impl_within.f a b c = some (decide (b ≤ a ∧ a ≤ c)) := by
  unfold impl_within.f
  split
  · rename_i h
    have e : (decide (a ≤ c)) = decide (b ≤ a ∧ a ≤ c) := decide_eq_decide.mpr ⟨fun h' => ⟨h, h'⟩, fun h' => h'.2⟩
    rw [e]
  · rename_i h
    have e : (decide (b ≤ a ∧ a ≤ c)) = false := decide_eq_false fun h' => h h'.1
    rw [e]

/-- Is a token right. -/
def tokB (a b c : Int) : Bool := if b = 0 then decide (0 ≤ a ∧ a ≤ 255 ∧ c = 0) else decide (a = 0 ∧ 3 ≤ b ∧ b ≤ 258 ∧ 1 ≤ c ∧ c ≤ 32768)
theorem tok_impl1 (k : Nat) (a b c : Int) : impl_TokenOk.f (k + 1) a b c = some (tokB a b c) := by
  have j : ∀ x, impl_TokenOk.j0 (k + 1) x a b c = some (if x = true then decide (0 ≤ a ∧ a ≤ 255) else decide (a = 0 ∧ 3 ≤ b ∧ b ≤ 258 ∧ 1 ≤ c ∧ c ≤ 32768)) := by
    intro x
    rw [impl_TokenOk.j0]
    simp only [in_impl, Option.bind_some]
    split
    · rfl
    · split
      · split
        · rename_i h
          have h := of_decide_eq_true h
          congr 1
          rw [Bool.eq_iff_iff]
          simp
          omega
        · rename_i h
          simp at h
          congr 1
          symm
          simp
          omega
      · congr 1
        symm
        simp
        omega
  unfold tokB
  by_cases hb : b = 0
  · rw [if_pos hb]
    have e : (if (c == 0) = true then decide (0 ≤ a ∧ a ≤ 255) else decide (a = 0 ∧ 3 ≤ b ∧ b ≤ 258 ∧ 1 ≤ c ∧ c ≤ 32768)) = decide (0 ≤ a ∧ a ≤ 255 ∧ c = 0) := by
      split
      · rename_i h
        simp at h
        rw [Bool.eq_iff_iff]
        simp
        omega
      · rename_i h
        simp at h
        rw [Bool.eq_iff_iff]
        simp
        omega
    rw [← e]
    unfold impl_TokenOk.f
    rw [if_pos hb]
    exact j (c == 0)
  · rw [if_neg hb]
    unfold impl_TokenOk.f
    rw [if_neg hb]
    exact j false
theorem tok_impl (a b c : Int) : Ev (fun k => impl_TokenOk.f k a b c) (tokB a b c) := ev_ret (fun k => tok_impl1 k a b c)

theorem nums_size (xs : List Int) : (strOfNums xs).size = xs.length := by simp [strOfNums, ByteArray.size]
theorem nums_join (xs ys : List Int) : strOfNums xs ++ strOfNums ys = strOfNums (xs ++ ys) := by
  apply ByteArray.ext
  simp [strOfNums]

theorem bytes_back (xs : List Int) (h : ∀ x ∈ xs, 0 ≤ x ∧ x ≤ 255) : bytesOf (strOfNums xs) = xs := by
  have e : bytesOf (strOfNums xs) = (strOfNums xs).data.toList.map fun b => (b.toNat : Int) := rfl
  rw [e]
  unfold strOfNums
  rw [List.map_map]
  have : ∀ x ∈ xs, ((fun b : UInt8 => (b.toNat : Int)) ∘ fun n : Int => UInt8.ofNat n.toNat) x = x := by
    intro x hx
    obtain ⟨h0, h1⟩ := h x hx
    simp only [Function.comp]
    have : (UInt8.ofNat x.toNat).toNat = x.toNat := by
      rw [UInt8.toNat_ofNat']
      omega
    rw [this]
    omega
  rw [List.map_congr_left this, List.map_id']

/-- x & 255 is a byte, whatever x is. -/
theorem and255 (x : Int) : 0 ≤ Go.bits .and .i64 x 255 ∧ Go.bits .and .i64 x 255 ≤ 255 := by
  have h : (BitVec.ofInt 64 x &&& BitVec.ofInt 64 255).toNat ≤ 255 := by
    rw [BitVec.toNat_and]
    exact Nat.le_trans Nat.and_le_right (by decide)
  have e : Go.bits .and .i64 x 255 = IntKind.i64.wrap ((BitVec.ofInt 64 x &&& BitVec.ofInt 64 255).toNat : Int) := rfl
  rw [e, wraps64 _ (by omega) (by omega)]
  omega
theorem new_ends (l : List Int) (d : Nat) : ∀ (h : Int) (i : Nat), i + d = 4000 → ∃ h', Ev (fun k => spec_l01New.l0 k l h i) (l, 0, h') := by
  induction d with
  | zero =>
    intro h i hi
    exact ⟨h, ev_ret (fun k => by
      rw [spec_l01New.l0]
      split
      · rw [if_neg (by omega)]
      · rfl)⟩
  | succ d ih =>
    intro h i hi
    by_cases c : (i : Int) < (l.length : Int)
    · obtain ⟨h', e⟩ := ih (Go.bits .and .i64 (wrap64 ((wrap64 ((wrap64 (h * 131)) + (wrap64 (rd l i)))) + 7)) 1073741823) (i + 1) (by omega)
      exact ⟨h', Ev.step (fun k => by rw [spec_l01New.l0, if_pos c, if_pos (by omega), if_pos (by omega), w64_id (x := (i : Int) + 1) (by omega) (by omega)]; rfl) e⟩
    · exact ⟨h, ev_ret (fun k => by rw [spec_l01New.l0, if_neg c])⟩
theorem new_is (l : List Int) : ∃ h, Ev (fun k => spec_l01New.f k l) (l, 0, h) := new_ends l 4000 _ 0 (by omega)
theorem byte_is (l : List Int) (hl : l.length ≤ 9223372036854775807) (i h : Int) (hi : 0 ≤ i) : ∃ x i' h', spec_l01Byte.f l i h = some (x, i', h') ∧ 0 ≤ x ∧ x ≤ 255 ∧ 0 ≤ i' := by
  unfold spec_l01Byte.f
  by_cases c : i < (l.length : Int)
  · rw [if_pos c, if_pos hi]
    have := and255 (wrap64 ((Go.bits .and .i64 (Go.bits .xor .i64 ((wrap64 ((wrap64 (h * 6364136223846793005)) + 1442695040888963407)) / 8589934592) ((wrap64 ((wrap64 (h * 6364136223846793005)) + 1442695040888963407)) / 35184372088832)) 255) + (wrap64 (rd l i))))
    exact ⟨_, _, _, rfl, this.1, this.2, by rw [w64_id (by omega) (by omega)]; omega⟩
  · rw [if_neg c]
    have := and255 (Go.bits .xor .i64 ((wrap64 ((wrap64 (h * 6364136223846793005)) + 1442695040888963407)) / 8589934592) ((wrap64 ((wrap64 (h * 6364136223846793005)) + 1442695040888963407)) / 35184372088832))
    exact ⟨_, _, _, rfl, this.1, this.2, hi⟩
theorem below_is (l : List Int) (hl : l.length ≤ 9223372036854775807) (i h n : Int) (hi : 0 ≤ i) : ∃ x i' h', spec_l01Below.f l i h n = some (x, i', h') ∧ 0 ≤ x ∧ (0 < n → x < n) ∧ 0 ≤ i' := by
  unfold spec_l01Below.f
  by_cases c0 : n ≤ 0
  · rw [if_pos c0]
    exact ⟨_, _, _, rfl, by omega, by omega, hi⟩
  · rw [if_neg c0]
    by_cases c1 : n ≤ 256
    · rw [if_pos c1]
      obtain ⟨x, i1, h1, e, x0, x1, hi1⟩ := byte_is l hl i h hi
      rw [e, Option.bind_some, if_neg (by omega)]
      refine ⟨_, _, _, rfl, ?_, fun _ => ?_, hi1⟩
      · rw [tmod_nn _ x0]; exact Int.emod_nonneg _ (by omega)
      · rw [tmod_nn _ x0]; exact Int.emod_lt_of_pos _ (by omega)
    · rw [if_neg c1]
      obtain ⟨x, i1, h1, e1, x0, x1, hi1⟩ := byte_is l hl i h hi
      obtain ⟨y, i2, h2, e2, y0, y1, hi2⟩ := byte_is l hl i1 h1 hi1
      obtain ⟨z, i3, h3, e3, z0, z1, hi3⟩ := byte_is l hl i2 h2 hi2
      obtain ⟨w, i4, h4, e4, w0, w1, hi4⟩ := byte_is l hl i3 h3 hi3
      simp only [e1, e2, e3, e4, Option.bind_some]
      rw [if_neg (by omega)]
      rw [w64_id (x := x * 16777216) (by omega) (by omega), w64_id (x := y * 65536) (by omega) (by omega), w64_id (x := z * 256) (by omega) (by omega), w64_id (x := x * 16777216 + y * 65536) (by omega) (by omega), w64_id (x := x * 16777216 + y * 65536 + z * 256) (by omega) (by omega), w64_id (x := x * 16777216 + y * 65536 + z * 256 + w) (by omega) (by omega)]
      refine ⟨_, _, _, rfl, ?_, fun _ => ?_, hi4⟩
      · rw [tmod_nn _ (by omega)]; exact Int.emod_nonneg _ (by omega)
      · rw [tmod_nn _ (by omega)]; exact Int.emod_lt_of_pos _ (by omega)

theorem rd_nat (l : List Int) (j : Nat) : rd l j = l.getD j 0 := by unfold rd; simp
theorem rd_getElem (l : List Int) (j : Nat) (h : j < l.length) : rd l j = l[j] := by rw [rd_nat, List.getD_eq_getElem?_getD, List.getElem?_eq_getElem h]; rfl
theorem rd_mem (l : List Int) (j : Nat) (h : j < l.length) : rd l j ∈ l := by rw [rd_getElem l j h]; exact List.getElem_mem h
theorem drop_rd (l : List Int) (j : Nat) (h : j < l.length) : l.drop j = rd l j :: l.drop (j + 1) := by rw [rd_getElem l j h]; exact List.drop_eq_getElem_cons h
theorem rd_set (l : List Int) (a : Nat) (v : Int) (j : Nat) (h : a < l.length) : rd (l.set a v) j = if j = a then v else rd l j := by
  rw [rd_nat, rd_nat, List.getD_eq_getElem?_getD, List.getD_eq_getElem?_getD, List.getElem?_set]
  by_cases e : j = a
  · subst e
    simp [h]
  · rw [if_neg (Ne.symm e), if_neg e]
theorem take_set_snoc (l : List Int) (j : Nat) (v : Int) (h : j < l.length) : (l.set j v).take (j + 1) = l.take j ++ [v] := by
  rw [List.take_succ_eq_append_getElem (by simpa using h)]
  simp [List.take_set_of_le]

theorem pick_is (l : List Int) (hl : l.length ≤ 9223372036854775807) (i h : Int) (p : List Int) (hp : 0 < p.length) (hi : 0 ≤ i) : ∃ x i' h', spec_l01PickInt.f l i h p = some (x, i', h') ∧ x ∈ p ∧ 0 ≤ i' := by
  unfold spec_l01PickInt.f
  obtain ⟨x, i1, h1, e, x0, x1, hi1⟩ := below_is l hl i h p.length hi
  have x1 := x1 (by omega)
  rw [e]
  simp only [Option.bind_some]
  rw [if_pos x0, if_pos x1]
  obtain ⟨j, rfl⟩ := Int.eq_ofNat_of_zero_le x0
  exact ⟨_, _, _, rfl, rd_mem p j (by omega), hi1⟩

theorem places_loop (l : List Int) (hl : l.length ≤ 9223372036854775807) (d : Nat) : ∀ (o : List Int) (j : Nat) (i h : Int), j + d = 12 → o.length = j → (∀ x ∈ o, 0 ≤ x ∧ x < 10000) → 0 ≤ i →
    ∃ p, Ev (fun k => spec_DrawPlaces.l0 k o j l i h) p ∧ p.length = 12 ∧ ∀ x ∈ p, 0 ≤ x ∧ x < 10000 := by
  induction d with
  | zero =>
    intro o j i h hj ho hb hi
    exact ⟨o, ev_ret (fun k => by rw [spec_DrawPlaces.l0, if_neg (by omega)]), by omega, hb⟩
  | succ d ih =>
    intro o j i h hj ho hb hi
    obtain ⟨x, i1, h1, e, x0, x1, hi1⟩ := below_is l hl i h 10000 hi
    have x1 := x1 (by omega)
    obtain ⟨p, e1, hp⟩ := ih (o ++ [x]) (j + 1) i1 h1 (by omega) (by simp [ho]) (fun y hy => by
      rcases List.mem_append.1 hy with hy | hy
      · exact hb y hy
      · simp at hy; omega) hi1
    refine ⟨p, Ev.step (fun k => ?_) e1, hp⟩
    rw [spec_DrawPlaces.l0, if_pos (by omega), e, Option.bind_some, if_pos (by omega), w64_id (x := (j : Int) + 1) (by omega) (by omega)]
    rfl
theorem places_is (l : List Int) (hl : l.length ≤ 9223372036854775807) : ∃ p, Ev (fun k => spec_DrawPlaces.f k l) p ∧ p.length = 12 ∧ ∀ x ∈ p, 0 ≤ x ∧ x < 10000 := by
  obtain ⟨h, e⟩ := new_is l
  obtain ⟨x, i1, h1, e1, _, _, hi1⟩ := byte_is l hl 0 h (by omega)
  obtain ⟨p, e2, hp⟩ := places_loop l hl 12 [] 0 i1 h1 (by omega) rfl (fun x hx => by simp at hx) hi1
  refine ⟨p, ev_use e (fun k hk => ?_) e2, hp⟩
  have hk' : spec_l01New.f k l = some (l, 0, h) := hk
  show spec_DrawPlaces.f k l = _
  unfold spec_DrawPlaces.f
  rw [hk', Option.bind_some, e1, Option.bind_some]
  rfl

/-- Two callees that answer, together. -/
theorem ev_pair {α β : Type} {g : Nat → Option α} {h : Nat → Option β} {a : α} {b : β} (e : Ev g a) (f : Ev h b) : Ev (fun k => (g k).bind fun x => (h k).bind fun y => some (x, y)) (a, b) := by
  obtain ⟨K, e⟩ := e
  obtain ⟨K', f⟩ := f
  exact ⟨max K K', fun n hn => by show ((g n).bind fun x => (h n).bind fun y => some (x, y)) = _; rw [e n (by omega), f n (by omega)]; rfl⟩
theorem pair_some {α β : Type} {g : Option α} {h : Option β} {a : α} {b : β} (e : (g.bind fun x => h.bind fun y => some (x, y)) = some (a, b)) : g = some a ∧ h = some b := by
  cases g with
  | none => cases e
  | some x =>
    cases h with
    | none => cases e
    | some y =>
      injection e with e
      injection e with e1 e2
      exact ⟨by rw [e1], by rw [e2]⟩

open Go.Proofs.Ytbkikljnbdfblaa.MExpand
theorem rd_preE (p xs : List Int) (i : Nat) : rd (p ++ xs) ((p.length + i : Nat) : Int) = rd xs (i : Int) := by
  unfold rd
  rw [Int.toNat_natCast, Int.toNat_natCast, List.getD_eq_getElem?_getD, List.getD_eq_getElem?_getD, List.getElem?_append_right (by omega), Nat.add_sub_cancel_left]
theorem copy_all : ∀ (k : Nat) (d : Int) (xs : List Int), 1 ≤ d → d ≤ xs.length → xs.length + k ≤ 20000 → (∀ x ∈ xs, 0 ≤ x ∧ x ≤ 255) → ∃ zs : List Int, zs.length = k ∧ (∀ p : List Int, p.length ≤ 20000 → copyF k d (p ++ xs) = some (p ++ (xs ++ zs))) ∧ ∀ x ∈ xs ++ zs, 0 ≤ x ∧ x ≤ 255
  | 0, d, xs, h1, h2, h3, hb => ⟨[], rfl, fun p _ => by rw [List.append_nil]; rfl, by rw [List.append_nil]; exact hb⟩
  | k + 1, d, xs, h1, h2, h3, hb => by
    obtain ⟨D, rfl⟩ := Int.eq_ofNat_of_zero_le (show 0 ≤ d by omega)
    have hr := hb _ (rd_mem xs (xs.length - D) (by omega))
    have hb2 : ∀ x ∈ xs ++ [rd xs ((xs.length - D : Nat) : Int)], 0 ≤ x ∧ x ≤ 255 := by
      intro x hx
      rcases List.mem_append.1 hx with h | h
      · exact hb x h
      · rw [List.mem_singleton.1 h]
        exact hr
    obtain ⟨zs, e, hl, hz⟩ := copy_all k D (xs ++ [rd xs ((xs.length - D : Nat) : Int)]) h1 (by simp; omega) (by simp; omega) hb2
    refine ⟨rd xs ((xs.length - D : Nat) : Int) :: zs, by simp [e], fun p hp => ?_, ?_⟩
    · have e1 : rd (p ++ xs) (((p ++ xs).length : Int) - (D : Int)) = rd xs ((xs.length - D : Nat) : Int) := by
        rw [← rd_preE p xs (xs.length - D), List.length_append]
        congr 1
        omega
      rw [copyF, if_pos (by rw [List.length_append]; omega), e1, List.append_assoc, hl p hp, List.append_assoc]
      rfl
    · have : xs ++ rd xs ((xs.length - D : Nat) : Int) :: zs = (xs ++ [rd xs ((xs.length - D : Nat) : Int)]) ++ zs := by rw [List.append_assoc]; rfl
      rw [this]
      exact hz
theorem tokB_lenE {a b c : Int} (h : tokB a b c = true) : (b = 0 ∧ 0 ≤ a ∧ a ≤ 255 ∧ c = 0) ∨ (b ≠ 0 ∧ a = 0 ∧ 3 ≤ b ∧ b ≤ 258 ∧ 1 ≤ c ∧ c ≤ 32768) := by
  unfold tokB at h
  by_cases hb : b = 0
  · rw [if_pos hb] at h
    have := of_decide_eq_true h
    exact Or.inl ⟨hb, this⟩
  · rw [if_neg hb] at h
    have := of_decide_eq_true h
    exact Or.inr ⟨hb, this⟩
def stepL (t : Int × Int × Int) : Nat := if t.2.1 > 1 then t.2.1.toNat else 1
theorem tok_all (t : Int × Int × Int) (xs : List Int) (h : tokB t.1 t.2.1 t.2.2 = true) (hd : t.2.2 ≤ xs.length) (hl : xs.length ≤ 10000) (hb : ∀ x ∈ xs, 0 ≤ x ∧ x ≤ 255) :
    ∃ zs : List Int, zs.length = stepL t ∧ (∀ p : List Int, p.length ≤ 20000 → tokF (p ++ xs) t = some (p ++ (xs ++ zs))) ∧ ∀ x ∈ xs ++ zs, 0 ≤ x ∧ x ≤ 255 := by
  unfold stepL
  rcases tokB_lenE h with ⟨h1, h2, h3, h4⟩ | ⟨h1, h2, h3, h4, h5, h6⟩
  · refine ⟨[t.1 % 256], by rw [if_neg (by omega)]; rfl, fun p hp => ?_, fun x hx => ?_⟩
    · unfold tokF
      rw [if_pos h1, List.append_assoc]
    · rcases List.mem_append.1 hx with h | h
      · exact hb x h
      · rw [List.mem_singleton.1 h]
        omega
  · obtain ⟨zs, e1, e2, e3⟩ := copy_all t.2.1.toNat t.2.2 xs h5 hd (by omega) hb
    refine ⟨zs, by rw [if_pos (by omega)]; exact e1, fun p hp => ?_, e3⟩
    unfold tokF
    rw [if_neg h1, if_pos (by omega)]
    exact e2 p hp
/-- What the tokens make, from token i on. -/
def runX (L : Nat → Int × Int × Int) : Nat → Nat → List Int → List Int
  | 0, _, xs => xs
  | d + 1, i, xs => runX L d (i + 1) ((tokF xs (L i)).getD [])
theorem runX_add (L : Nat → Int × Int × Int) (b : Nat) : ∀ (a i : Nat) (xs : List Int), runX L (a + b) i xs = runX L b (i + a) (runX L a i xs)
  | 0, i, xs => by rw [Nat.zero_add]; rfl
  | a + 1, i, xs => by
    rw [show a + 1 + b = (a + b) + 1 by omega, runX, runX_add L b a, runX, show i + 1 + a = i + (a + 1) by omega]
def szL (L : Nat → Int × Int × Int) : Nat → Nat
  | 0 => 0
  | i + 1 => szL L i + stepL (L i)
theorem szL_up (L : Nat → Int × Int × Int) (i : Nat) : ∀ d, szL L i + d ≤ szL L (i + d)
  | 0 => Nat.le_refl _
  | d + 1 => by
    have := szL_up L i d
    have h1 : 1 ≤ stepL (L (i + d)) := by
      unfold stepL
      split <;> omega
    show szL L i + (d + 1) ≤ szL L (i + d) + stepL (L (i + d))
    omega
theorem szL_congr (L M : Nat → Int × Int × Int) : ∀ i, (∀ j, j < i → L j = M j) → szL L i = szL M i
  | 0, _ => rfl
  | i + 1, h => by rw [szL, szL, szL_congr L M i (fun j hj => h j (by omega)), h i (by omega)]
theorem exp_all (L : Nat → Int × Int × Int) (n : Nat) (fit : ∀ j, j < n → tokB (L j).1 (L j).2.1 (L j).2.2 = true ∧ (L j).2.2 ≤ szL L j) (hn : szL L n ≤ 9700) (M : Nat → Int × Int × Int) (ok : Nat → Bool) (k : Nat) : ∀ (d i : Nat) (xs : List Int), k + i + d ≤ n → (∀ j, i ≤ j → j < i + d → M j = L (k + j) ∧ ok j = true) → xs.length = szL L (k + i) → (∀ x ∈ xs, 0 ≤ x ∧ x ≤ 255) →
    ∃ zs, runX L d (k + i) xs = xs ++ zs ∧ (∀ x ∈ xs ++ zs, 0 ≤ x ∧ x ≤ 255) ∧ (xs ++ zs).length = szL L (k + i + d) ∧ ∀ (p : List Int) (n0 : Nat), p.length ≤ 100 → n0 ≤ p.length + xs.length → expI n0 M ok d i (p ++ xs) = some (strOfNums ((p ++ (xs ++ zs)).drop n0), true)
  | 0, i, xs, h1, h2, h3, h4 => ⟨[], by rw [List.append_nil]; rfl, by rw [List.append_nil]; exact h4, by rw [List.append_nil]; exact h3, fun p n0 _ _ => by rw [List.append_nil]; rfl⟩
  | d + 1, i, xs, h1, h2, h3, h4 => by
    obtain ⟨m1, m2⟩ := h2 i (Nat.le_refl _) (by omega)
    obtain ⟨f1, f2⟩ := fit (k + i) (by omega)
    have u1 := szL_up L (k + i + 1) (n - (k + i + 1))
    rw [show k + i + 1 + (n - (k + i + 1)) = n by omega] at u1
    have u0 : szL L (k + i + 1) = szL L (k + i) + stepL (L (k + i)) := rfl
    obtain ⟨zs, e1, e2, e3⟩ := tok_all (L (k + i)) xs f1 (by rw [h3]; exact f2) (by omega) h4
    have e0 := e2 [] (by simp)
    rw [List.nil_append, List.nil_append] at e0
    obtain ⟨ws, g1, g2, g3, g4⟩ := exp_all L n fit hn M ok k d (i + 1) (xs ++ zs) (by omega) (fun j a b => h2 j (by omega) (by omega)) (by rw [List.length_append, e1, h3]; exact u0.symm) e3
    refine ⟨zs ++ ws, ?_, ?_, ?_, fun p n0 hp hn0 => ?_⟩
    · rw [runX, e0, Option.getD_some, show k + i + 1 = k + (i + 1) by omega, g1, List.append_assoc]
    · rw [← List.append_assoc]
      exact g2
    · rw [← List.append_assoc, g3]
      congr 1
      omega
    · have hstep : (if (M i).2.1 > 1 then (M i).2.1 else 1) = ((stepL (L (k + i)) : Nat) : Int) := by
        rw [m1]
        unfold stepL
        rcases tokB_lenE f1 with h | h
        · rw [if_neg (by omega), if_neg (by omega)]
          rfl
        · rw [if_pos (by omega), if_pos (by omega)]
          omega
      have hg : ¬ ¬ (-1000000 ≤ (M i).2.1 ∧ (M i).2.1 ≤ 1000000) := by
        rw [m1]
        rcases tokB_lenE f1 with h | h <;> omega
      have hpx : (p ++ xs).length = p.length + xs.length := List.length_append
      have hpz : (p ++ (xs ++ zs)).length = p.length + xs.length + zs.length := by rw [List.length_append, List.length_append, Nat.add_assoc]
      rw [expI, if_pos m2, if_neg (by rw [m1]; omega), if_neg hg, hstep, if_neg (by omega), m1, e2 p (by omega), Option.bind_some, if_pos (by omega), g4 p n0 hp (by rw [List.length_append]; omega), List.append_assoc]
abbrev LT (l : List S72) : Nat → Int × Int × Int := fun i => ((rd_T72 l (i : Int)).f0, (rd_T72 l (i : Int)).f1, (rd_T72 l (i : Int)).f2)
def FitL (l : List S72) : Prop := ∀ j, j < l.length → tokB (LT l j).1 (LT l j).2.1 (LT l j).2.2 = true ∧ (LT l j).2.2 ≤ szL (LT l) j
theorem impl_expand_isE (s : ByteArray) (l : List S72) (hl : l.length ≤ 2000000) : impl_Expand.f s l = expandI s l.length (LT l) (fun i => tokB (LT l i).1 (LT l i).2.1 (LT l i).2.2) := by
  have e : ∀ a b c, impl_TokenOk.f 10 a b c = some (tokB a b c) := fun a b c => tok_impl1 9 a b c
  unfold impl_Expand.f
  simp only [e, Option.isSome_some, implies_true, and_true, Option.getD_some]
  rw [if_pos hl]
theorem LT_app (l : List S72) (t : S72) (j : Nat) (h : j < l.length) : LT (l ++ [t]) j = LT l j := by
  unfold LT rd_T72
  rw [Int.toNat_natCast, List.getD_eq_getElem?_getD, List.getD_eq_getElem?_getD, List.getElem?_append_left h]
theorem LT_end (l : List S72) (t : S72) : LT (l ++ [t]) l.length = (t.f0, t.f1, t.f2) := by
  unfold LT rd_T72
  rw [Int.toNat_natCast, List.getD_eq_getElem?_getD, List.getElem?_append_right (Nat.le_refl _), Nat.sub_self]
  rfl
theorem LT_take (l : List S72) (k j : Nat) (h : j < k) : LT (l.take k) j = LT l j := by
  unfold LT rd_T72
  rw [Int.toNat_natCast, List.getD_eq_getElem?_getD, List.getD_eq_getElem?_getD, List.getElem?_take_of_lt h]
theorem LT_drop (l : List S72) (k j : Nat) : LT (l.drop k) j = LT l (k + j) := by
  unfold LT rd_T72
  rw [Int.toNat_natCast, Int.toNat_natCast, List.getD_eq_getElem?_getD, List.getD_eq_getElem?_getD, List.getElem?_drop]
/-- All four answers. -/
theorem four (l : List S72) (hl : l.length ≤ 37) (hf : FitL l) (hn : szL (LT l) l.length ≤ 9700) (k : Nat) (hk : k ≤ l.length) :
    ∃ xs zs : List Int, impl_Expand.f (⟨#[]⟩ : ByteArray) l = some (strOfNums (xs ++ zs), true) ∧ impl_Expand.f (⟨#[]⟩ : ByteArray) (l.take k) = some (strOfNums xs, true) ∧ impl_Expand.f (strOfNums xs) (l.drop k) = some (strOfNums zs, true) ∧ impl_Expand.f (⟨#[98, 101, 102, 111, 114, 101]⟩ : ByteArray) l = some (strOfNums (xs ++ zs), true) ∧ l.length ≤ (xs ++ zs).length ∧ (xs ++ zs).length ≤ 9700 := by
  have hb0 : ∀ x ∈ ([] : List Int), 0 ≤ x ∧ x ≤ 255 := fun x hx => by cases hx
  have okl : ∀ j, 0 ≤ j → j < 0 + l.length → LT l j = LT l (0 + j) ∧ tokB (LT l j).1 (LT l j).2.1 (LT l j).2.2 = true := fun j _ hj => ⟨by rw [Nat.zero_add], (hf j (by omega)).1⟩
  obtain ⟨z, a1, a2, a3, a4⟩ := exp_all (LT l) l.length hf hn (LT l) (fun i => tokB (LT l i).1 (LT l i).2.1 (LT l i).2.2) 0 l.length 0 [] (by omega) okl rfl hb0
  obtain ⟨xs, b1, b2, b3, b4⟩ := exp_all (LT l) l.length hf hn (LT (l.take k)) (fun i => tokB (LT (l.take k) i).1 (LT (l.take k) i).2.1 (LT (l.take k) i).2.2) 0 k 0 [] (by omega) (fun j _ hj => by
    have e := LT_take l k j (by omega)
    rw [e, Nat.zero_add]
    exact ⟨rfl, (hf j (by omega)).1⟩) rfl hb0
  rw [List.nil_append] at a1 a2 a3 b1 b2 b3
  rw [Nat.zero_add] at b3
  obtain ⟨zs, c1, c2, c3, c4⟩ := exp_all (LT l) l.length hf hn (LT (l.drop k)) (fun i => tokB (LT (l.drop k) i).1 (LT (l.drop k) i).2.1 (LT (l.drop k) i).2.2) k (l.length - k) 0 xs (by omega) (fun j _ hj => by
    have e := LT_drop l k j
    rw [e]
    exact ⟨rfl, (hf (k + j) (by omega)).1⟩) (by rw [b3]; simp) b2
  have hz : z = xs ++ zs := by
    have h := runX_add (LT l) (l.length - k) k 0 []
    rw [show k + (l.length - k) = l.length by omega, show 0 + k = k + 0 by omega] at h
    have b1' : runX (LT l) k 0 [] = xs := b1
    have a1' : runX (LT l) l.length 0 [] = z := a1
    rw [b1', c1, a1'] at h
    exact h
  subst hz
  have u0 : szL (LT l) (0 + 0 + l.length) = szL (LT l) l.length := by simp
  have u1 := szL_up (LT l) 0 l.length
  have z0 : szL (LT l) 0 = 0 := rfl
  rw [Nat.zero_add, z0] at u1
  have hxl : xs.length ≤ 9700 := by
    have : xs.length + zs.length = szL (LT l) l.length := by rw [← List.length_append, a3, u0]
    omega
  refine ⟨xs, zs, ?_, ?_, ?_, ?_, by rw [a3, u0]; omega, by rw [a3, u0]; exact hn⟩
  · rw [impl_expand_isE _ _ (by omega)]
    have := a4 [] 0 (by simp) (by simp)
    unfold expandI
    rw [if_neg (by show ¬ ((0 : Nat) : Int) > 12000; omega)]
    exact this
  · rw [impl_expand_isE _ _ (by rw [List.length_take]; omega)]
    have := b4 [] 0 (by simp) (by simp)
    unfold expandI
    rw [if_neg (by show ¬ ((0 : Nat) : Int) > 12000; omega), List.length_take, Nat.min_eq_left hk]
    exact this
  · rw [impl_expand_isE _ _ (by rw [List.length_drop]; omega)]
    have := c4 [] xs.length (by simp) (by simp)
    rw [List.nil_append, List.nil_append, List.drop_left] at this
    unfold expandI
    rw [if_neg (by rw [nums_size]; omega), List.length_drop, nums_size, bytes_back xs b2]
    exact this
  · rw [impl_expand_isE _ _ (by omega)]
    have := a4 [98, 101, 102, 111, 114, 101] 6 (by simp) (by simp)
    rw [List.nil_append] at this
    unfold expandI
    rw [if_neg (by show ¬ ((6 : Nat) : Int) > 12000; omega)]
    exact this
theorem szL_app (l : List S72) (t : S72) (j : Nat) (h : j ≤ l.length) : szL (LT (l ++ [t])) j = szL (LT l) j := szL_congr _ _ j (fun i hi => LT_app l t i (by omega))
theorem fit_app (l : List S72) (t : S72) (hf : FitL l) (ht : tokB t.f0 t.f1 t.f2 = true) (hd : t.f2 ≤ szL (LT l) l.length) : FitL (l ++ [t]) ∧ szL (LT (l ++ [t])) (l ++ [t]).length = szL (LT l) l.length + stepL (t.f0, t.f1, t.f2) := by
  constructor
  · intro j hj
    rw [List.length_append, List.length_singleton] at hj
    by_cases h : j < l.length
    · rw [LT_app l t j h, szL_app l t j (by omega)]
      exact hf j h
    · obtain rfl : j = l.length := by omega
      rw [LT_end, szL_app l t l.length (Nat.le_refl _)]
      exact ⟨ht, hd⟩
  · rw [List.length_append, List.length_singleton, szL, szL_app l t l.length (Nat.le_refl _), LT_end]
theorem step_lit (a c : Int) : stepL (a, 0, c) = 1 := by
  unfold stepL
  rw [if_neg (by show ¬ (0 : Int) > 1; omega)]
theorem step_len (a b c : Int) (h : 3 ≤ b) : ((stepL (a, b, c) : Nat) : Int) = b := by
  unfold stepL
  rw [if_pos (by show b > 1; omega)]
  show ((b.toNat : Nat) : Int) = b
  omega
theorem tokens_ends (C : List Int) (hC : C.length ≤ 9223372036854775807) (n : Nat) (hn : n ≤ 37) (d : Nat) : ∀ (l : List S72) (p h : Int), l.length + d = n → FitL l → szL (LT l) l.length ≤ 258 * l.length → 0 ≤ p →
    ∃ r, Ev (fun k => spec_l06Tokens.l0 k n l (szL (LT l) l.length) (l.length : Int) C p h) r ∧ FitL r.1 ∧ r.1.length = n ∧ szL (LT r.1) r.1.length ≤ 258 * r.1.length := by
  induction d with
  | zero =>
    intro l p h hl hf hs hp
    exact ⟨(l, p, h), ev_ret (fun k => by rw [spec_l06Tokens.l0, if_neg (by omega)]), hf, by show l.length = n; omega, hs⟩
  | succ d ih =>
    intro l p h hl hf hs hp
    obtain ⟨z, p1, h1, e1, z0, hp1⟩ := pick_is C hC p h [97, 98, 0, 255, 143, 144] (by simp) hp
    have hz : 0 ≤ z ∧ z ≤ 255 := by
      simp only [List.mem_cons, List.not_mem_nil, or_false] at z0
      omega
    -- the literal
    have lit : ∀ (q g : Int), 0 ≤ q → ∃ r, Ev (fun k => spec_l06Tokens.j1 k n l (szL (LT l) l.length) (l.length : Int) false C q g z 0 0) r ∧ FitL r.1 ∧ r.1.length = n ∧ szL (LT r.1) r.1.length ≤ 258 * r.1.length := by
      intro q g hq
      have ht : tokB z 0 0 = true := by
        unfold tokB
        rw [if_pos rfl]
        exact decide_eq_true ⟨hz.1, hz.2, rfl⟩
      obtain ⟨f1, f2⟩ := fit_app l ⟨z, 0, 0⟩ hf ht (by show (0 : Int) ≤ _; omega)
      have f2 : szL (LT (l ++ [(⟨z, 0, 0⟩ : S72)])) (l ++ [(⟨z, 0, 0⟩ : S72)]).length = szL (LT l) l.length + 1 := by rw [f2, step_lit]
      have fl : (l ++ [(⟨z, 0, 0⟩ : S72)]).length = l.length + 1 := by simp
      obtain ⟨r, ev, hr⟩ := ih (l ++ [⟨z, 0, 0⟩]) q g (by omega) f1 (by omega) hq
      rw [f2, fl] at ev
      refine ⟨r, Ev.step (fun k => ?_) ev, hr⟩
      rw [spec_l06Tokens.j1, if_neg (by decide), if_pos rfl, if_pos (by omega), w64_id (x := ((szL (LT l) l.length : Nat) : Int) + 0) (by omega) (by omega), w64_id (x := ((szL (LT l) l.length : Nat) : Int) + 0 + 1) (by omega) (by omega), w64_id (x := ((l.length : Nat) : Int) + 1) (by omega) (by omega)]
      congr 1
    by_cases hpos : ((szL (LT l) l.length : Nat) : Int) > 0
    · obtain ⟨x, p2, h2, e2, x0, x1, hp2⟩ := below_is C hC p1 h1 3 hp1
      have eo : spec_l01Once.f C p1 h1 3 = some ((x == 0), p2, h2) := by
        unfold spec_l01Once.f
        rw [e2]
        rfl
      cases hx : (x == 0) with
      | false =>
        rw [hx] at eo
        obtain ⟨r, ev, hr⟩ := lit p2 h2 hp2
        refine ⟨r, Ev.step (fun k => ?_) ev, hr⟩
        rw [spec_l06Tokens.l0, if_pos (by omega), e1, Option.bind_some, if_pos hpos, eo, Option.bind_some]
      | true =>
        rw [hx] at eo
        obtain ⟨b, p3, h3, e3, b0, b1, hp3⟩ := below_is C hC p2 h2 9 hp2
        have b1 := b1 (by omega)
        obtain ⟨y, p4, h4, e4, y0, y1, hp4⟩ := below_is C hC p3 h3 (szL (LT l) l.length : Nat) hp3
        have y1 := y1 hpos
        obtain ⟨u, p5, h5, e5, u0, u1, hp5⟩ := below_is C hC p4 h4 6 hp4
        have eo2 : spec_l01Once.f C p4 h4 6 = some ((u == 0), p5, h5) := by
          unfold spec_l01Once.f
          rw [e5]
          rfl
        -- the repeat
        have rep : ∀ (q g m : Int), 0 ≤ q → 3 ≤ m → m ≤ 258 → ∃ r, Ev (fun k => spec_l06Tokens.j2 k n l (szL (LT l) l.length) (l.length : Int) C q g 0 m (1 + y)) r ∧ FitL r.1 ∧ r.1.length = n ∧ szL (LT r.1) r.1.length ≤ 258 * r.1.length := by
          intro q g m hq m0 m1
          have ht : tokB 0 m (1 + y) = true := by
            unfold tokB
            rw [if_neg (by omega)]
            exact decide_eq_true ⟨rfl, m0, m1, by omega, by omega⟩
          obtain ⟨f1, f2⟩ := fit_app l ⟨0, m, 1 + y⟩ hf ht (by show 1 + y ≤ _; omega)
          have f3 := step_len 0 m (1 + y) m0
          have f2 : szL (LT (l ++ [(⟨0, m, 1 + y⟩ : S72)])) (l ++ [(⟨0, m, 1 + y⟩ : S72)]).length = szL (LT l) l.length + stepL (0, m, 1 + y) := f2
          have fl : (l ++ [(⟨0, m, 1 + y⟩ : S72)]).length = l.length + 1 := by simp
          obtain ⟨r, ev, hr⟩ := ih (l ++ [⟨0, m, 1 + y⟩]) q g (by omega) f1 (by omega) hq
          have f4 : ((szL (LT (l ++ [(⟨0, m, 1 + y⟩ : S72)])) (l ++ [(⟨0, m, 1 + y⟩ : S72)]).length : Nat) : Int) = ((szL (LT l) l.length : Nat) : Int) + m := by omega
          rw [f4, fl] at ev
          refine ⟨r, Ev.step (fun k => ?_) ev, hr⟩
          rw [spec_l06Tokens.j2, if_neg (by omega), if_neg (by omega), if_pos (by omega), w64_id (x := ((szL (LT l) l.length : Nat) : Int) + m) (by omega) (by omega), w64_id (x := ((l.length : Nat) : Int) + 1) (by omega) (by omega)]
          rfl
        have j1 : ∃ r, Ev (fun k => spec_l06Tokens.j1 k n l (szL (LT l) l.length) (l.length : Int) true C p2 h2 z 0 0) r ∧ FitL r.1 ∧ r.1.length = n ∧ szL (LT r.1) r.1.length ≤ 258 * r.1.length := by
          cases hu : (u == 0) with
          | false =>
            rw [hu] at eo2
            obtain ⟨r, ev, hr⟩ := rep p5 h5 (3 + b) hp5 (by omega) (by omega)
            refine ⟨r, Ev.step (fun k => ?_) ev, hr⟩
            rw [spec_l06Tokens.j1, if_pos rfl, e3, Option.bind_some, e4, Option.bind_some, eo2, Option.bind_some, if_neg (by simp), w64_id (x := 3 + b) (by omega) (by omega), w64_id (x := 1 + y) (by omega) (by omega)]
          | true =>
            rw [hu] at eo2
            obtain ⟨m, p6, h6, e6, m0, hp6⟩ := pick_is C hC p5 h5 [3, 10, 11, 257, 258, 130] (by simp) hp5
            have hm : 3 ≤ m ∧ m ≤ 258 := by
              simp only [List.mem_cons, List.not_mem_nil, or_false] at m0
              omega
            obtain ⟨r, ev, hr⟩ := rep p6 h6 m hp6 hm.1 hm.2
            refine ⟨r, Ev.step (fun k => ?_) ev, hr⟩
            rw [spec_l06Tokens.j1, if_pos rfl, e3, Option.bind_some, e4, Option.bind_some, eo2, Option.bind_some, if_pos rfl, e6, Option.bind_some, w64_id (x := 1 + y) (by omega) (by omega)]
        obtain ⟨r, ev, hr⟩ := j1
        refine ⟨r, Ev.step (fun k => ?_) ev, hr⟩
        rw [spec_l06Tokens.l0, if_pos (by omega), e1, Option.bind_some, if_pos hpos, eo, Option.bind_some]
    · obtain ⟨r, ev, hr⟩ := lit p1 h1 hp1
      refine ⟨r, Ev.step (fun k => ?_) ev, hr⟩
      rw [spec_l06Tokens.l0, if_pos (by omega), e1, Option.bind_some, if_neg hpos]
theorem tokens_is (l : List Int) (hl : l.length ≤ 4611686018427387904) : ∃ r, Ev (fun k => spec_DrawTokens.f k l) r ∧ FitL r ∧ r.length ≤ 37 ∧ szL (LT r) r.length ≤ 258 * r.length := by
  obtain ⟨h, e⟩ := new_is l
  have hsz : ∃ n, spec_l07Size.f l = some n ∧ 30 ≤ n ∧ n ≤ 300 := by
    unfold spec_l07Size.f
    have w : wrap64 (30 + (l.length : Int)) = 30 + l.length := w64_id (by omega) (by omega)
    rw [w]
    by_cases h : 30 + (l.length : Int) > 300
    · exact ⟨300, by rw [if_pos h], by omega, by omega⟩
    · exact ⟨30 + l.length, by rw [if_neg h], by omega, by omega⟩
  obtain ⟨z, ez, z0, z1⟩ := hsz
  have t1 : Int.tdiv z 12 = z / 12 := tdiv_nn _ (by omega)
  obtain ⟨x, p1, h1, e1, x0, x1, hp1⟩ := below_is l (by omega) 0 h (12 + z / 12) (by omega)
  have x1 := x1 (by omega)
  obtain ⟨N, rfl⟩ := Int.eq_ofNat_of_zero_le x0
  obtain ⟨r, g, r1, r2, r3⟩ := tokens_ends l (by omega) (1 + N) (by omega) (1 + N) [] p1 h1 (by simp) (fun j hj => absurd hj (Nat.not_lt_zero _)) (by simp [szL]) hp1
  refine ⟨r.1, ev_end (ev_pair e g) (fun k hk => ?_), r1, by omega, r3⟩
  obtain ⟨k1, k2⟩ := pair_some hk
  have k2 : spec_l06Tokens.l0 k ((1 + N : Nat) : Int) [] 0 0 l p1 h1 = some r := k2
  unfold spec_DrawTokens.f
  rw [k1, Option.bind_some, ez, Option.bind_some, t1, w64_id (x := z / 12) (by omega) (by omega), w64_id (x := 12 + z / 12) (by omega) (by omega), e1, Option.bind_some, w64_id (x := 1 + (N : Int)) (by omega) (by omega)]
  unfold spec_l06Tokens.f
  rw [show (1 + (N : Int)) = ((1 + N : Nat) : Int) by omega, k2, Option.bind_some]
theorem FnExpands : laws_FnExpands.Pure := by
  intro l hl hl1 hw
  by_cases hb : (l.length : Int) > 1048576
  · refine ⟨0, ?_⟩
    unfold laws_FnExpands.f laws_big.f
    rw [decide_eq_true hb]
    simp
  · obtain ⟨r, e1, f1, f2, f3⟩ := tokens_is l (by omega)
    obtain ⟨p, e2, p1, p2⟩ := places_is l (by omega)
    have hq := p2 _ (rd_mem p 0 (by omega))
    have hq : 0 ≤ rd p 0 ∧ rd p 0 < 10000 := hq
    obtain ⟨K, hK⟩ : ∃ K : Nat, (K : Int) = rd p 0 % ((r.length : Int) + 1) := ⟨(rd p 0 % ((r.length : Int) + 1)).toNat, by
      have := Int.emod_nonneg (rd p 0) (show (r.length : Int) + 1 ≠ 0 by omega)
      omega⟩
    have hK1 : (K : Int) < (r.length : Int) + 1 := by
      rw [hK]
      exact Int.emod_lt_of_pos _ (by omega)
    obtain ⟨xs, zs, a1, a2, a3, a4, a5, a6⟩ := four r f2 f1 (by omega) K (by omega)
    obtain ⟨k, hk⟩ := (ev_pair e1 e2).rounds
    obtain ⟨q1, q2⟩ := pair_some hk
    refine ⟨k, ?_⟩
    have hlx : (xs ++ zs).length = xs.length + zs.length := List.length_append
    have hs1 : (strOfNums xs).size = xs.length := nums_size xs
    have hs2 : (strOfNums zs).size = zs.length := nums_size zs
    have hs3 : (strOfNums (xs ++ zs)).size = xs.length + zs.length := by rw [nums_size, hlx]
    unfold laws_FnExpands.f laws_big.f
    rw [Option.bind_some, if_neg (by rw [decide_eq_false hb]; decide), q1, Option.bind_some, a1, Option.bind_some, q2, Option.bind_some, if_pos (by omega), w64_id (x := (r.length : Int) + 1) (by omega) (by omega), if_neg (by omega), tmod_nn _ hq.1, ← hK, if_pos (by omega), if_pos (by omega), Int.toNat_natCast, a2, Option.bind_some]
    show (impl_Expand.f (strOfNums xs) (r.drop K)).bind _ = _
    rw [a3, Option.bind_some, a4, Option.bind_some, if_pos rfl, if_pos rfl, if_pos rfl, if_pos rfl]
    dsimp only
    rw [if_pos (by omega), nums_join, if_pos rfl, if_pos rfl, decide_eq_true (by omega)]

end Go.Proofs.Ytbkikljnbdfblaa.Pure
