/- The law FnSymbols: for every input within the row's bounds the printed function answers true: what the program's function tells is what the law asks. Conditions: only the bounds that the row itself gives (sizes of strings and slices, ranges of the number kinds). -/
import Derived.Test.YtimomemkbcidnaaPFnSymbolsx3
import Derived.Test.YtimomemkbcidnaaMPut
namespace Go.Proofs.Ytimomemkbcidnaa.Pure
open Go.RowKit Go.Proofs.Ytimomemkbcidnaa.PFnSymbols Go.Proofs.YtimomemkbcidnaaW.PrintWords Go.Proofs.YtimomemkbcidnaaW.PrintLast Go.Proofs.YtimomemkbcidnaaW.PrintMore
set_option linter.unusedVariables false
set_option linter.unusedSimpArgs false

theorem w64_id {x : Int} (h0 : -9223372036854775808 ≤ x) (h1 : x ≤ 9223372036854775807) : wrap64 x = x := by unfold wrap64; omega
theorem tmod_nn {a : Int} (b : Int) (h : 0 ≤ a) : Int.tmod a b = a % b := Int.tmod_eq_emod_of_nonneg h
theorem tdiv_nn {a : Int} (b : Int) (h : 0 ≤ a) : Int.tdiv a b = a / b := Int.tdiv_eq_ediv_of_nonneg h
theorem wf64 {n : Int} (h : (Lit.int .i64 n).wf = true) : -9223372036854775808 ≤ n ∧ n ≤ 9223372036854775807 := by
  simp [Lit.wf, IntKind.min, IntKind.max, IntKind.signed, IntKind.bits] at h
  omega
theorem wfu32 {n : Int} (h : (Lit.int .u32 n).wf = true) : 0 ≤ n ∧ n ≤ 4294967295 := by
  simp [Lit.wf, IntKind.min, IntKind.max, IntKind.signed, IntKind.bits] at h
  omega
theorem wraps64 (n : Int) (h0 : 0 ≤ n) (h1 : n < 2 ^ 63) : IntKind.i64.wrap n = n := by rw [IntKind.wrap_i64]; omega
theorem wrapsu32 (n : Int) (h0 : 0 ≤ n) (h1 : n < 2 ^ 32) : IntKind.u32.wrap n = n := by rw [IntKind.wrap_u32]; omega
/-- a | b of parts that do not meet, of an int. -/
theorem or64 (i : Nat) (x y : Int) (hx0 : 0 ≤ x) (hx : x % 2 ^ i = 0) (hx1 : x < 2 ^ 63) (hy0 : 0 ≤ y) (hy : y < 2 ^ i) (hy1 : y < 2 ^ 63) : Go.bits .or .i64 x y = x + y :=
  bits_join .i64 63 (by decide) wraps64 i x y hx0 hx hx1 hy0 hy hy1
theorem ev_ite_pos {α : Type} {c : Prop} [Decidable c] {f g : Nat → Option α} {r : α} (h : c) (k : Ev f r) : Ev (fun n => if c then f n else g n) r := Ev.congr (fun n => if_pos h) k
theorem ev_ite_neg {α : Type} {c : Prop} [Decidable c] {f g : Nat → Option α} {r : α} (h : ¬ c) (k : Ev g r) : Ev (fun n => if c then f n else g n) r := Ev.congr (fun n => if_neg h) k
/-- A callee without rounds that answers. -/
theorem ev_bind0 {α β : Type} {o : Option α} {f : Nat → α → Option β} {a : α} {r : β} (h : o = some a) (k : Ev (fun n => f n a) r) : Ev (fun n => o.bind (f n)) r := Ev.congr (fun n => by rw [h]; rfl) k
theorem bt_lo (s : ByteArray) (i : Int) : 0 ≤ bt s i := (bt_range s i).1
theorem bt_hi (s : ByteArray) (i : Int) : bt s i ≤ 255 := (bt_range s i).2
/-- A callee that answers from some number of rounds on, used. -/
theorem ev_use {α β : Type} {g : Nat → Option α} {a : α} {F G : Nat → Option β} {r : β} (e : Ev g a) (h : ∀ k, g k = some a → F k = G k) (c : Ev G r) : Ev F r := by
  obtain ⟨K, e⟩ := e
  obtain ⟨K', c⟩ := c
  exact ⟨max K K', fun n hn => (h n (e n (by omega))).trans (c n (by omega))⟩
theorem ev_use_step {α β : Type} {g : Nat → Option α} {a : α} {F G : Nat → Option β} {r : β} (e : Ev g a) (h : ∀ k, g k = some a → F (k + 1) = G k) (c : Ev G r) : Ev F r := by
  obtain ⟨K, e⟩ := e
  obtain ⟨K', c⟩ := c
  refine ⟨max K K' + 1, fun n hn => ?_⟩
  obtain ⟨m, rfl⟩ : ∃ m, n = m + 1 := ⟨n - 1, by omega⟩
  exact (h m (e m (by omega))).trans (c m (by omega))
theorem ev_end {α β : Type} {g : Nat → Option α} {a : α} {F : Nat → Option β} {r : β} (e : Ev g a) (h : ∀ k, g k = some a → F k = some r) : Ev F r := by
  obtain ⟨K, e⟩ := e
  exact ⟨K, fun n hn => h n (e n hn)⟩
theorem ev_two {α β : Type} {g : Nat → Option α} {h : Nat → Option β} {a : α} {b : β} (e : Ev g a) (f : Ev h b) : ∃ k, g k = some a ∧ h k = some b := by
  obtain ⟨K, e⟩ := e
  obtain ⟨K', f⟩ := f
  exact ⟨max K K', e _ (by omega), f _ (by omega)⟩
theorem ev_ret {α : Type} {F : Nat → Option α} {r : α} (h : ∀ k, F (k + 1) = some r) : Ev F r := ⟨1, fun n hn => by obtain ⟨m, rfl⟩ : ∃ m, n = m + 1 := ⟨n - 1, by omega⟩; exact h m⟩

theorem in_impl (a b c : Int) : impl_within.f a b c = some (decide (b ≤ a ∧ a ≤ c)) := by
  unfold impl_within.f
  split
  · rename_i h
    have e : (decide (a ≤ c)) = decide (b ≤ a ∧ a ≤ c) := decide_eq_decide.mpr ⟨fun h' => ⟨h, h'⟩, fun h' => h'.2⟩
    rw [e]
  · rename_i h
    have e : (decide (b ≤ a ∧ a ≤ c)) = false := decide_eq_false fun h' => h h'.1
    rw [e]

/-- Two callees that answer, together. -/
theorem ev_pair {α β : Type} {g : Nat → Option α} {h : Nat → Option β} {a : α} {b : β} (e : Ev g a) (f : Ev h b) : Ev (fun k => (g k).bind fun x => (h k).bind fun y => some (x, y)) (a, b) := by
  obtain ⟨K, e⟩ := e
  obtain ⟨K', f⟩ := f
  exact ⟨max K K', fun n hn => by show ((g n).bind fun x => (h n).bind fun y => some (x, y)) = _; rw [e n (by omega), f n (by omega)]; rfl⟩
theorem pair_some {α β : Type} {g : Option α} {h : Option β} {a : α} {b : β} (e : (g.bind fun x => h.bind fun y => some (x, y)) = some (a, b)) : g = some a ∧ h = some b := by
  cases g with
  | none => cases e
  | some x =>
    cases h with
    | none => cases e
    | some y =>
      injection e with e
      injection e with e1 e2
      exact ⟨by rw [e1], by rw [e2]⟩

theorem rd_nat (l : List Int) (j : Nat) : rd l j = l.getD j 0 := by unfold rd; simp
theorem rd_getElem (l : List Int) (j : Nat) (h : j < l.length) : rd l j = l[j] := by rw [rd_nat, List.getD_eq_getElem?_getD, List.getElem?_eq_getElem h]; rfl
theorem rd_mem (l : List Int) (j : Nat) (h : j < l.length) : rd l j ∈ l := by rw [rd_getElem l j h]; exact List.getElem_mem h
theorem drop_rd (l : List Int) (j : Nat) (h : j < l.length) : l.drop j = rd l j :: l.drop (j + 1) := by rw [rd_getElem l j h]; exact List.drop_eq_getElem_cons h
theorem rd_set (l : List Int) (a : Nat) (v : Int) (j : Nat) (h : a < l.length) : rd (l.set a v) j = if j = a then v else rd l j := by
  rw [rd_nat, rd_nat, List.getD_eq_getElem?_getD, List.getD_eq_getElem?_getD, List.getElem?_set]
  by_cases e : j = a
  · subst e
    simp [h]
  · rw [if_neg (Ne.symm e), if_neg e]
theorem take_set_snoc (l : List Int) (j : Nat) (v : Int) (h : j < l.length) : (l.set j v).take (j + 1) = l.take j ++ [v] := by
  rw [List.take_succ_eq_append_getElem (by simpa using h)]
  simp [List.take_set_of_le]

/-- Is an Out right. -/
def okB (s : ByteArray) (n : Int) : Bool :=
  if s.size ≤ 12000 ∧ 0 ≤ n ∧ n ≤ 8 * (s.size : Int) ∧ (n + 7) / 8 = s.size then (if n % 8 = 0 then true else decide (bt s ((s.size : Int) - 1) < 2 ^ (n % 8).toNat)) else false
theorem ok_impl (s : ByteArray) (n : Int) (n0 : -9223372036854775808 ≤ n) (n1 : n ≤ 9223372036854775807) (hs : s.size ≤ 1048576) : impl_OutOk.f s n = some (okB s n) := by
  unfold okB impl_OutOk.f impl_up.f
  rw [in_impl]
  simp only [Option.bind_some, decide_eq_true_eq]
  by_cases h : s.size ≤ 12000 ∧ 0 ≤ n ∧ n ≤ 8 * (s.size : Int) ∧ (n + 7) / 8 = s.size
  · obtain ⟨h1, h2, h3, h4⟩ := h
    have w2 : wrap64 (n + 7) = n + 7 := w64_id (by omega) (by omega)
    have w3 : wrap64 ((n + 7) / 8) = (n + 7) / 8 := w64_id (by omega) (by omega)
    have w4 : wrap64 ((s.size : Int) - 1) = s.size - 1 := w64_id (by omega) (by omega)
    rw [if_pos (show 0 ≤ n ∧ n ≤ 96000 from ⟨h2, by omega⟩), w2, tdiv_nn _ (by omega), w3, if_pos h4.symm, tmod_nn 8 h2, if_pos (show s.size ≤ 12000 ∧ 0 ≤ n ∧ n ≤ 8 * (s.size : Int) ∧ (n + 7) / 8 = s.size from ⟨h1, h2, h3, h4⟩)]
    by_cases h5 : n % 8 = 0
    · rw [if_pos h5, if_pos h5]
    · rw [if_neg h5, if_neg h5, w4, if_pos (by omega), if_pos (by omega), if_pos (by omega)]
      have b0 := bt_lo s ((s.size : Int) - 1)
      congr 1
      have e : shr .u8 (bt s ((s.size : Int) - 1)) (n % 8) = bt s ((s.size : Int) - 1) / 2 ^ (n % 8).toNat := shr_small rfl (by simp [IntKind.bits]; omega) |>.symm
      rw [e, Bool.eq_iff_iff]
      simp only [beq_iff_eq, decide_eq_true_eq]
      have hp : (0 : Int) < 2 ^ (n % 8).toNat := Int.pow_pos (by omega)
      constructor
      · intro hz
        have := Int.lt_mul_ediv_self_add (x := bt s ((s.size : Int) - 1)) hp
        rw [hz, Int.mul_zero, Int.zero_add] at this
        exact this
      · intro hz
        exact Int.ediv_eq_zero_of_lt b0 hz
  · rw [if_neg h]
    split
    · rw [w64_id (x := n + 7) (by omega) (by omega), tdiv_nn _ (by omega), w64_id (x := (n + 7) / 8) (by omega) (by omega), if_neg (by omega)]
    · rfl

open Go.Proofs.Ytimomemkbcidnaa.MWriter Go.Proofs.Ytimomemkbcidnaa.MPut Go.Proofs.Ytimomemkbcidnaa.MOut
theorem or8_swap (x y : Int) : Go.bits .or .u8 x y = Go.bits .or .u8 y x := by
  unfold Go.bits
  simp only []
  rw [BitVec.or_comm]
/-- A bit set behind those that are there: the sum. -/
theorem orBit_is (x n : Int) (r : Nat) (hr : r < 8) (x0 : 0 ≤ x) (x1 : x < 2 ^ r) (n0 : 0 ≤ n) (n1 : n < 2 ^ 63) : orBit x n r = x + n % 2 * 2 ^ r ∧ x + n % 2 * 2 ^ r < 2 ^ (r + 1) ∧ x + n % 2 * 2 ^ r ≤ 255 := by
  have e : Go.bits .and .i64 n 1 = n % 2 := bits_mask .i64 63 (by decide) wraps64 1 (by decide) n n0 n1
  have hb : n % 2 = 0 ∨ n % 2 = 1 := by omega
  unfold orBit
  rw [e]
  have hr' : r = 0 ∨ r = 1 ∨ r = 2 ∨ r = 3 ∨ r = 4 ∨ r = 5 ∨ r = 6 ∨ r = 7 := by omega
  have hp : (2 : Int) ^ r ≤ 128 ∧ (2 : Int) ^ (r + 1) = 2 * 2 ^ r ∧ 0 < (2 : Int) ^ r := by
    refine ⟨?_, by rw [Int.pow_succ]; omega, Int.pow_pos (by omega)⟩
    rcases hr' with h | h | h | h | h | h | h | h <;> subst h <;> decide
  obtain ⟨p1, p2, p3⟩ := hp
  have e2 : n % 2 % 256 * 2 ^ r % 256 = n % 2 * 2 ^ r := by
    rcases hb with h | h <;> rw [h]
    · simp
    · have : (1 : Int) % 256 = 1 := by decide
      rw [this]
      omega
  rw [e2]
  have e3 : Go.bits .or .u8 x (n % 2 * 2 ^ r) = x + n % 2 * 2 ^ r := by
    rw [or8_swap, bits_join .u8 8 (by decide) (fun n h0 h1 => by rw [IntKind.wrap_u8]; omega) r (n % 2 * 2 ^ r) x (by rcases hb with h | h <;> rw [h] <;> omega) (by simp) (by rcases hb with h | h <;> rw [h] <;> omega) x0 x1 (by omega)]
    omega
  refine ⟨e3, ?_, ?_⟩
  · rw [p2]
    rcases hb with h | h <;> rw [h] <;> omega
  · rcases hb with h | h <;> rw [h] <;> omega
/-- Bytes that hold c bits: all bits behind them are 0. -/
structure Inv (xs : List Int) (c : Nat) : Prop where
  len : xs.length = (c + 7) / 8
  rng : ∀ x ∈ xs, 0 ≤ x ∧ x ≤ 255
  low : c % 8 ≠ 0 → rd xs ((c / 8 : Nat) : Int) < 2 ^ (c % 8)
theorem rd_memI {xs : List Int} {i : Nat} (h : i < xs.length) : rd xs (i : Int) ∈ xs := by
  unfold rd
  rw [Int.toNat_natCast, List.getD_eq_getElem?_getD, List.getElem?_eq_getElem h]
  exact List.getElem_mem h
theorem rd_setJ {xs : List Int} {i : Nat} (h : i < xs.length) (a : Int) : rd (xs.set i a) (i : Int) = a := by
  unfold rd
  rw [Int.toNat_natCast, List.getD_eq_getElem?_getD, List.getElem?_set_self h]
  rfl
theorem rd_last (xs : List Int) (a : Int) : rd (xs ++ [a]) (xs.length : Int) = a := by
  unfold rd
  rw [Int.toNat_natCast, List.getD_eq_getElem?_getD]
  simp
theorem put_step (xs : List Int) (c : Nat) (n : Int) (hI : Inv xs c) (n0 : 0 ≤ n) (n1 : n < 2 ^ 63) : putAdd xs c (n % 2) = putBit xs c n ∧ Inv (putBit xs c n) (c + 1) := by
  by_cases hm : c % 8 = 0
  · obtain ⟨h1, h2, h3⟩ := orBit_is 0 n 0 (by omega) (by omega) (by decide) n0 n1
    have e : putBit xs c n = xs ++ [orBit 0 n 0] := by unfold putBit; rw [if_pos hm]
    have hl := hI.len
    refine ⟨?_, ?_⟩
    · rw [e]
      unfold putAdd
      rw [if_pos hm, addBit_eq, h1]
      congr 2
      omega
    · rw [e]
      refine ⟨by simp; omega, fun x hx => ?_, fun h => ?_⟩
      · rcases List.mem_append.1 hx with hx | hx
        · exact hI.rng x hx
        · rw [List.mem_singleton] at hx
          rw [hx, h1]
          omega
      · have e1 : (c + 1) / 8 = xs.length := by omega
        have e2 : (c + 1) % 8 = 1 := by omega
        rw [e1, e2, rd_last, h1]
        exact h2
  · have hl := hI.len
    have hj : c / 8 < xs.length := by omega
    have hx := hI.rng _ (rd_memI hj)
    obtain ⟨h1, h2, h3⟩ := orBit_is (rd xs ((c / 8 : Nat) : Int)) n (c % 8) (by omega) hx.1 (hI.low hm) n0 n1
    have e : putBit xs c n = xs.set (c / 8) (orBit (rd xs ((c / 8 : Nat) : Int)) n (c % 8)) := by unfold putBit; rw [if_neg hm]
    have p3 : (0 : Int) < 2 ^ (c % 8) := Int.pow_pos (by omega)
    have hb : n % 2 = 0 ∨ n % 2 = 1 := by omega
    have hpos : 0 ≤ rd xs ((c / 8 : Nat) : Int) + n % 2 * 2 ^ (c % 8) := by rcases hb with h | h <;> rw [h] <;> omega
    refine ⟨?_, ?_⟩
    · rw [e]
      unfold putAdd
      rw [if_neg hm, addBit_eq, h1]
      congr 1
      omega
    · rw [e]
      refine ⟨by rw [List.length_set]; omega, fun x hx => ?_, fun h => ?_⟩
      · rcases List.mem_or_eq_of_mem_set hx with hx | hx
        · exact hI.rng x hx
        · rw [hx, h1]
          exact ⟨hpos, h3⟩
      · have e1 : (c + 1) / 8 = c / 8 := by omega
        have e2 : (c + 1) % 8 = c % 8 + 1 := by omega
        rw [e1, e2, rd_setJ hj, h1]
        exact h2
theorem put_all : ∀ (ns xs : List Int) (c : Nat), Inv xs c → (∀ n ∈ ns, 0 ≤ n ∧ n < 2 ^ 63) → addAll (ns.map (· % 2)) xs c = MWriter.putAll ns xs c ∧ Inv (MWriter.putAll ns xs c) (c + ns.length)
  | [], xs, c, h, _ => ⟨rfl, h⟩
  | n :: ns, xs, c, h, hn => by
    obtain ⟨n0, n1⟩ := hn n (List.mem_cons_self ..)
    obtain ⟨h1, h2⟩ := put_step xs c n h n0 n1
    obtain ⟨h3, h4⟩ := put_all ns _ _ h2 (fun m hm => hn m (List.mem_cons_of_mem _ hm))
    rw [List.map_cons, addAll, h1, h3, MWriter.putAll, List.length_cons]
    exact ⟨rfl, by rw [show c + (ns.length + 1) = c + 1 + ns.length by omega]; exact h4⟩
theorem bytesOf_rd (s : ByteArray) (i : Nat) (h : i < s.size) : rd (bytesOf s) (i : Int) = bt s (i : Int) := by
  unfold rd bt
  rw [dif_pos (show (i : Int).toNat < s.size by rw [Int.toNat_natCast]; exact h)]
  simp only [Int.toNat_natCast]
  unfold bytesOf
  rw [List.getD_eq_getElem?_getD, List.getElem?_map]
  have hh : i < s.data.toList.length := h
  rw [List.getElem?_eq_getElem hh]
  rfl
theorem bytesOf_rng (s : ByteArray) : ∀ x ∈ bytesOf s, 0 ≤ x ∧ x ≤ 255 := by
  intro x hx
  unfold bytesOf at hx
  obtain ⟨b, _, rfl⟩ := List.mem_map.1 hx
  have := b.toNat_lt
  omega
/-- A right Out's bytes. -/
theorem ok_inv (s : ByteArray) (c : Int) (h : okB s c = true) : ∃ C : Nat, c = C ∧ C ≤ 96000 ∧ s.size ≤ 12000 ∧ s.size = (C + 7) / 8 ∧ Inv (bytesOf s) C := by
  unfold okB at h
  split at h
  · rename_i hc
    obtain ⟨h1, h2, h3, h4⟩ := hc
    obtain ⟨C, rfl⟩ := Int.eq_ofNat_of_zero_le h2
    have hs : s.size = (C + 7) / 8 := by omega
    refine ⟨C, rfl, by omega, h1, hs, ⟨by rw [bytesOf_length]; exact hs, bytesOf_rng s, fun hm => ?_⟩⟩
    rw [if_neg (by omega)] at h
    have h5 := of_decide_eq_true h
    rw [bytesOf_rd s _ (by omega)]
    have e1 : ((s.size : Int) - 1) = ((C / 8 : Nat) : Int) := by omega
    have e2 : ((C : Int) % 8).toNat = C % 8 := by omega
    rw [e1, e2] at h5
    exact h5
  · cases h

theorem str_back (s : ByteArray) : strOfNums (bytesOf s) = s := by
  have e : bytesOf s = s.data.toList.map fun b => (b.toNat : Int) := by
    rfl
  rw [e]
  unfold strOfNums
  rw [List.map_map]
  have : ((fun n : Int => UInt8.ofNat n.toNat) ∘ fun b : UInt8 => (b.toNat : Int)) = id := by
    funext b
    simp
  rw [this, List.map_id]

open Go.Proofs.Ytimomemkbcidnaa.MBook Go.Proofs.Ytimomemkbcidnaa.MCode
/-- Are these lengths right. -/
def okL (l : List Int) : Bool := l.all fun x => decide (0 ≤ x ∧ x ≤ 15)
theorem okL_cons (x : Int) (l : List Int) : okL (x :: l) = (decide (0 ≤ x ∧ x ≤ 15) && okL l) := by unfold okL; rw [List.all_cons]
theorem okL_mem {l : List Int} (h : okL l = true) : ∀ x ∈ l, 0 ≤ x ∧ x ≤ 15 := by
  intro x hx
  unfold okL at h
  have := List.all_eq_true.1 h x hx
  exact of_decide_eq_true this
theorem lensOk_at (l : List Int) (hl : l.length ≤ 1048576) (m : Int) (d : Nat) : ∀ (j k : Nat), j + d = l.length → d < k → impl_lengthsOk.l0 k l m l (l.length : Int) j = some (okL (l.drop j) && decide ((l.length : Int) ≤ m)) := by
  induction d with
  | zero =>
    intro j k h hk
    obtain ⟨k, rfl⟩ : ∃ q, k = q + 1 := ⟨k - 1, by omega⟩
    rw [impl_lengthsOk.l0, if_neg (by omega), List.drop_of_length_le (by omega)]
    simp [okL]
  | succ d ih =>
    intro j k h hk
    obtain ⟨k, rfl⟩ : ∃ q, k = q + 1 := ⟨k - 1, by omega⟩
    rw [drop_rd l j (by omega), okL_cons, impl_lengthsOk.l0, if_pos (by omega), if_pos (by omega), if_pos (by omega), in_impl, Option.bind_some]
    by_cases c : 0 ≤ rd l j ∧ rd l j ≤ 15
    · rw [decide_eq_true c, if_pos rfl, Bool.true_and, w64_id (x := (j : Int) + 1) (by omega) (by omega)]
      exact ih (j + 1) k (by omega) (by omega)
    · rw [decide_eq_false c, if_neg (by decide), Bool.false_and, Bool.false_and]
theorem lensOk_k (l : List Int) (hl : l.length ≤ 1048576) (m : Int) : impl_lengthsOk.f (l.length + 10) l m = some (okL l && decide ((l.length : Int) ≤ m)) := lensOk_at l hl m l.length 0 _ (by omega) (by omega)
/-- How many are above 0. -/
def nzL : List Int → Nat
  | [] => 0
  | x :: l => (if 0 < x then 1 else 0) + nzL l
theorem nzL_le : ∀ l, nzL l ≤ l.length
  | [] => Nat.le_refl _
  | x :: l => by
    have := nzL_le l
    rw [nzL, List.length_cons]
    split <;> omega
/-- What the kind is, of how full and how many. -/
def kindS (F n : Nat) : Int := if n = 0 then 1 else if F = 32768 then 2 else if F > 32768 then 5 else if n = 1 then (if F = 16384 then 3 else 4) else 4
/-- The kind of any lengths. -/
def kindL (l : List Int) : Int := if okL l = true ∧ l.length ≤ 288 then kindS (fullS l) (nzL l) else 0
theorem nzTo_cons (x : Int) (l : List Int) : ∀ m, (symsTo (x :: l) m).length = (symsTo l m).length + if 0 < x ∧ x ≤ (m : Int) then 1 else 0
  | 0 => by rw [symsTo, symsTo, if_neg (by omega)]; rfl
  | m + 1 => by
    have ih := nzTo_cons x l m
    have e1 := syms_split (x :: l) (m + 1) (by omega)
    have e2 := syms_split l (m + 1) (by omega)
    rw [Nat.add_sub_cancel] at e1 e2
    rw [e1, e2, ih, cntN_cons]
    by_cases h1 : x = ((m + 1 : Nat) : Int)
    · have q1 : (if 0 < x ∧ x ≤ (m : Int) then 1 else 0) = 0 := if_neg (by omega)
      have q2 : (if 0 < m + 1 ∧ x = ((m + 1 : Nat) : Int) then 1 else 0) = 1 := if_pos ⟨by omega, h1⟩
      have q3 : (if 0 < x ∧ x ≤ ((m + 1 : Nat) : Int) then 1 else 0) = 1 := if_pos (by omega)
      rw [q1, q2, q3]
      omega
    · have q2 : (if 0 < m + 1 ∧ x = ((m + 1 : Nat) : Int) then 1 else 0) = 0 := if_neg (fun h => h1 h.2)
      have q3 : (if 0 < x ∧ x ≤ ((m + 1 : Nat) : Int) then 1 else 0) = (if 0 < x ∧ x ≤ (m : Int) then 1 else 0) := by
        by_cases h2 : 0 < x ∧ x ≤ (m : Int)
        · rw [if_pos h2, if_pos (by omega)]
        · rw [if_neg h2, if_neg (by omega)]
      rw [q2, q3]
      omega
theorem nz_is : ∀ (l : List Int), okL l = true → (symsTo l 15).length = nzL l
  | [], _ => by decide
  | x :: l, h => by
    rw [okL_cons, Bool.and_eq_true] at h
    have hx := of_decide_eq_true h.1
    rw [nzTo_cons, nz_is l h.2, nzL]
    by_cases h0 : 0 < x
    · rw [if_pos h0, if_pos (by omega)]; omega
    · rw [if_neg h0, if_neg (by omega)]; omega
theorem full_zero : ∀ (l : List Int), okL l = true → (fullS l = 0 ↔ nzL l = 0) ∧ (nzL l = 0 → cntN l 1 = 0) ∧ (nzL l = 1 → (fullS l = 16384 ↔ cntN l 1 = 1))
  | [], _ => by decide
  | x :: l, h => by
    rw [okL_cons, Bool.and_eq_true] at h
    have hx := of_decide_eq_true h.1
    obtain ⟨i1, i2, i3⟩ := full_zero l h.2
    rw [fullS, nzL, cntN_cons]
    by_cases h0 : 0 < x
    · have p : 0 < 2 ^ (15 - x.toNat) := Nat.pos_of_ne_zero (by simp)
      rw [if_pos h0, if_pos h0]
      refine ⟨by omega, by omega, fun h1 => ?_⟩
      have z := i2 (by omega)
      have y := i1.2 (by omega)
      rw [z, y]
      by_cases hx1 : x = 1
      · subst hx1; decide
      · have q : (if 0 < 1 ∧ x = ((1 : Nat) : Int) then 1 else 0) = 0 := if_neg (fun h => hx1 h.2)
        have p2 : 2 ^ (15 - x.toNat) ≤ 2 ^ 13 := Nat.pow_le_pow_right (by omega) (by omega)
        rw [q]
        omega
    · have q : (if 0 < 1 ∧ x = ((1 : Nat) : Int) then 1 else 0) = 0 := if_neg (fun h => by have := h.2; omega)
      rw [if_neg h0, if_neg h0, q]
      refine ⟨by omega, by omega, fun h1 => ?_⟩
      have := i3 (by omega)
      omega
theorem kindI_is (l : List Int) (h : okL l = true) : kindI l = kindS (fullS l) (nzL l) := by
  obtain ⟨i1, i2, i3⟩ := full_zero l h
  unfold kindI kindS
  rw [fullS_is l (okL_mem h), nz_is l h]
  by_cases h1 : fullS l = 0
  · rw [if_pos h1, if_pos (i1.1 h1)]
  · rw [if_neg h1, if_neg (fun h2 => h1 (i1.2 h2))]
    by_cases h2 : fullS l = 32768
    · rw [if_pos h2, if_pos h2]
    · rw [if_neg h2, if_neg h2]
      by_cases h3 : 32768 < fullS l
      · rw [if_pos h3, if_pos h3]
      · rw [if_neg h3, if_neg h3]
        by_cases h4 : nzL l = 1
        · rw [if_pos h4]
          by_cases h5 : fullS l = 16384
          · rw [if_pos h5, if_pos ⟨h4, (i3 h4).1 h5⟩]
          · rw [if_neg h5, if_neg (fun h6 => h5 ((i3 h4).2 h6.2))]
        · rw [if_neg (fun h6 => h4 h6.1), if_neg h4]
theorem kind_impl (l : List Int) (hl : l.length ≤ 1048576) : impl_CodeKind.f l = some (kindL l) := by
  unfold impl_CodeKind.f kindL
  rw [lensOk_k l hl, Option.bind_some]
  unfold kindF
  by_cases h : okL l = true ∧ l.length ≤ 288
  · rw [h.1, decide_eq_true (show (l.length : Int) ≤ 288 by omega), Bool.and_true, if_pos rfl, if_pos (by omega), if_pos ⟨rfl, h.2⟩, kindI_is l h.1]
  · rw [if_neg h]
    have e : (okL l && decide ((l.length : Int) ≤ 288)) = false := by
      by_cases h1 : okL l = true
      · rw [h1, Bool.true_and]
        exact decide_eq_false (fun h2 => h ⟨h1, by omega⟩)
      · have : okL l = false := by simpa using h1
        rw [this, Bool.false_and]
    rw [e, if_neg (by decide)]
/-- What counts cost, from a symbol on. -/
def costL (l c : List Int) : Nat → Nat → Int → Int × Bool
  | 0, _, s => (s, true)
  | d + 1, j, s => if 0 ≤ rd c (j : Int) ∧ rd c (j : Int) ≤ 12000 then (if rd c (j : Int) > 0 ∧ rd l (j : Int) = 0 then (0, false) else costL l c d (j + 1) (s + rd c (j : Int) * rd l (j : Int))) else (0, false)
theorem prod_rng {a b : Int} (a0 : 0 ≤ a) (a1 : a ≤ 12000) (b0 : 0 ≤ b) (b1 : b ≤ 15) : 0 ≤ a * b ∧ a * b ≤ 180000 := by
  refine ⟨Int.mul_nonneg a0 b0, ?_⟩
  have h1 : a * b ≤ 12000 * b := Int.mul_le_mul_of_nonneg_right a1 b0
  omega
/-- What counts cost. -/
def costR (l c : List Int) : Int × Bool := if kindL l = 0 ∨ c.length ≠ l.length then (0, false) else costL l c c.length 0 0
theorem kindL_ok {l : List Int} (h : kindL l ≠ 0) : okL l = true ∧ l.length ≤ 288 := by
  unfold kindL at h
  by_cases h1 : okL l = true ∧ l.length ≤ 288
  · exact h1
  · rw [if_neg h1] at h
    exact absurd rfl h
theorem cost_impl_loop (l c : List Int) (hl : l.length ≤ 288) (ho : okL l = true) (he : c.length = l.length) (d : Nat) : ∀ (j : Nat) (s : Int), j + d = c.length → 0 ≤ s → s ≤ 180000 * j →
    Ev (fun k => impl_CostOf.l0 k l s c (c.length : Int) (j : Int)) (costL l c d j s) := by
  induction d with
  | zero =>
    intro j s h s0 s1
    exact ev_ret (fun k => by rw [impl_CostOf.l0, if_neg (by omega)]; rfl)
  | succ d ih =>
    intro j s h s0 s1
    rw [costL]
    by_cases c0 : 0 ≤ rd c (j : Int) ∧ rd c (j : Int) ≤ 12000
    · rw [if_pos c0]
      have hm := okL_mem ho _ (rd_mem l j (by omega))
      obtain ⟨p0, p1⟩ := prod_rng c0.1 c0.2 hm.1 hm.2
      by_cases c1 : rd c (j : Int) > 0
      · by_cases c2 : rd l (j : Int) = 0
        · rw [if_pos ⟨c1, c2⟩]
          refine ev_ret (fun k => ?_)
          rw [impl_CostOf.l0, if_pos (by omega), if_pos (by omega), if_pos (by omega), in_impl, decide_eq_true c0, Option.bind_some, if_pos rfl, if_pos c1, if_pos (by omega), if_pos c2]
        · rw [if_neg (fun h => c2 h.2)]
          have g1 := ih (j + 1) (s + rd c (j : Int) * rd l (j : Int)) (by omega) (by omega) (by omega)
          refine Ev.step (fun k => ?_) g1
          rw [impl_CostOf.l0, if_pos (by omega), if_pos (by omega), if_pos (by omega), in_impl, decide_eq_true c0, Option.bind_some, if_pos rfl, if_pos c1, if_pos (by omega), if_neg c2, w64_id (x := rd c (j : Int) * rd l (j : Int)) (by omega) (by omega), w64_id (x := s + rd c (j : Int) * rd l (j : Int)) (by omega) (by omega), w64_id (x := (j : Int) + 1) (by omega) (by omega)]
          rfl
      · rw [if_neg (fun h => c1 h.1)]
        have g1 := ih (j + 1) (s + rd c (j : Int) * rd l (j : Int)) (by omega) (by omega) (by omega)
        refine Ev.step (fun k => ?_) g1
        rw [impl_CostOf.l0, if_pos (by omega), if_pos (by omega), if_pos (by omega), in_impl, decide_eq_true c0, Option.bind_some, if_pos rfl, if_neg c1, if_pos (by omega), w64_id (x := rd c (j : Int) * rd l (j : Int)) (by omega) (by omega), w64_id (x := s + rd c (j : Int) * rd l (j : Int)) (by omega) (by omega), w64_id (x := (j : Int) + 1) (by omega) (by omega)]
        rfl
    · rw [if_neg c0]
      refine ev_ret (fun k => ?_)
      rw [impl_CostOf.l0, if_pos (by omega), if_pos (by omega), if_pos (by omega), in_impl, decide_eq_false c0, Option.bind_some, if_neg (by decide)]
theorem cost_impl (l c : List Int) (hl : l.length ≤ 1048576) : Ev (fun k => impl_CostOf.f k l c) (costR l c) := by
  have gk := kind_impl l hl
  have js : ∀ x : Bool, x = decide (kindL l = 0 ∨ c.length ≠ l.length) → Ev (fun k => impl_CostOf.j0 k l c x) (costR l c) := by
    intro x hx
    unfold costR
    by_cases h : kindL l = 0 ∨ c.length ≠ l.length
    · rw [if_pos h]
      rw [decide_eq_true h] at hx
      subst hx
      exact ev_ret (fun k => by rw [impl_CostOf.j0, if_pos rfl])
    · rw [if_neg h]
      rw [decide_eq_false h] at hx
      subst hx
      obtain ⟨h1, h2⟩ := kindL_ok (fun e => h (Or.inl e))
      have g1 := cost_impl_loop l c h2 h1 (by omega) c.length 0 0 (by omega) (by omega) (by omega)
      exact Ev.step (fun k => by rw [impl_CostOf.j0, if_neg (by decide)]; rfl) g1
  by_cases h0 : kindL l = 0
  · have g1 := js true (by rw [decide_eq_true (Or.inl h0)])
    refine Ev.congr (fun k => ?_) g1
    unfold impl_CostOf.f
    rw [gk, Option.bind_some, if_pos h0]
  · have g1 := js ((l.length : Int) != (c.length : Int)) (by
      rw [Bool.eq_iff_iff]
      simp [h0]
      omega)
    refine Ev.congr (fun k => ?_) g1
    unfold impl_CostOf.f
    rw [gk, Option.bind_some, if_neg h0]
/-- Have these lengths codes. -/
def hasC (l : List Int) : Bool := kindL l != 0 && kindL l != 5
theorem hasC_impl (l : List Int) (hl : l.length ≤ 1048576) : impl_hasCodes.f l = some (hasC l) := by
  unfold impl_hasCodes.f hasC
  rw [kind_impl l hl, Option.bind_some]
  by_cases h : kindL l = 0
  · rw [if_pos h, h]; rfl
  · rw [if_neg h]
    have : (kindL l != 0) = true := by simpa using h
    rw [this, Bool.true_and]
theorem hasC_ok {l : List Int} (h : hasC l = true) : okL l = true ∧ l.length ≤ 288 ∧ fullS l ≤ 32768 := by
  unfold hasC kindL at h
  by_cases h1 : okL l = true ∧ l.length ≤ 288
  · rw [if_pos h1] at h
    refine ⟨h1.1, h1.2, ?_⟩
    unfold kindS at h
    by_cases h2 : nzL l = 0
    · have := ((full_zero l h1.1).1).2 h2
      omega
    · rw [if_neg h2] at h
      by_cases h3 : fullS l = 32768
      · omega
      · rw [if_neg h3] at h
        by_cases h4 : fullS l > 32768
        · rw [if_pos h4] at h
          simp at h
        · omega
  · rw [if_neg h1] at h
    simp at h
theorem codesI_rd (l : List Int) (i : Nat) (h : i < l.length) (h0 : 0 < rd l (i : Int)) : rd (codesI l l.length) (i : Int) = ((codeN l i : Nat) : Int) := by
  have e : (codesI l l.length)[i]? = some ((codeN l i : Nat) : Int) := by
    unfold codesI
    rw [List.getElem?_map, List.getElem?_range h]
    simp only [Option.map_some, if_pos h0]
  unfold rd
  rw [Int.toNat_natCast, List.getD_eq_getElem?_getD, e]
  rfl
/-- The codes of any lengths. -/
def codesR (l : List Int) : List Int × Bool := if hasC l = true then (codesI l l.length, true) else ([], false)
theorem codes_impl (l : List Int) (hl : l.length ≤ 1048576) : impl_CodesOf.f l = some (codesR l) := by
  unfold impl_CodesOf.f codesR
  rw [hasC_impl l hl, Option.bind_some]
  unfold codesF
  by_cases h : hasC l = true
  · obtain ⟨h1, h2, h3⟩ := hasC_ok h
    rw [if_pos h, if_pos h, if_pos ⟨by omega, okL_mem h1⟩]
  · rw [if_neg h, if_neg h]
theorem codesR_len (l : List Int) : (codesR l).1.length ≤ l.length := by
  unfold codesR
  split
  · rw [codesI_len]; exact Nat.le_refl _
  · exact Nat.zero_le _

theorem bytes_back (xs : List Int) (h : ∀ x ∈ xs, 0 ≤ x ∧ x ≤ 255) : bytesOf (strOfNums xs) = xs := by
  have e : bytesOf (strOfNums xs) = (strOfNums xs).data.toList.map fun b => (b.toNat : Int) := rfl
  rw [e]
  unfold strOfNums
  rw [List.map_map]
  have : ∀ x ∈ xs, ((fun b : UInt8 => (b.toNat : Int)) ∘ fun n : Int => UInt8.ofNat n.toNat) x = x := by
    intro x hx
    obtain ⟨h0, h1⟩ := h x hx
    simp only [Function.comp]
    have : (UInt8.ofNat x.toNat).toNat = x.toNat := by
      rw [UInt8.toNat_ofNat']
      omega
    rw [this]
    omega
  rw [List.map_congr_left this, List.map_id']
theorem nums_size (xs : List Int) : (strOfNums xs).size = xs.length := by simp [strOfNums, ByteArray.size]
/-- Bytes with a count make a right Out. -/
theorem inv_ok (xs : List Int) (C : Nat) (h : Inv xs C) (hC : C ≤ 96000) : okB (strOfNums xs) (C : Int) = true := by
  have hb := bytes_back xs h.rng
  have hs := nums_size xs
  have hl := h.len
  unfold okB
  rw [hs, if_pos (by omega)]
  by_cases hm : (C : Int) % 8 = 0
  · rw [if_pos hm]
  · rw [if_neg hm]
    have hlow := h.low (by omega)
    have e1 : ((xs.length : Int) - 1) = ((C / 8 : Nat) : Int) := by omega
    have e2 : ((C : Int) % 8).toNat = C % 8 := by omega
    have e3 := bytesOf_rd (strOfNums xs) (C / 8) (by omega)
    rw [hb] at e3
    rw [e1, e2, ← e3]
    exact decide_eq_true hlow

/-- Bit i of a text. -/
def bitB (s : ByteArray) (i : Int) : Int := bt s (i / 8) / 2 ^ (i % 8).toNat % 2
theorem bitB_01 (s : ByteArray) (i : Int) : bitB s i = 0 ∨ bitB s i = 1 := by unfold bitB; omega
theorem bitAt_is (s : ByteArray) (hs : s.size ≤ 1048576) (i : Int) (h0 : 0 ≤ i) (h1 : i < 8 * s.size) : impl_bitAt.f s i = some (bitB s i) := by
  unfold impl_bitAt.f bitB
  have b0 := bt_lo s (i / 8)
  have b1 := bt_hi s (i / 8)
  rw [tdiv_nn _ h0, tmod_nn _ h0, w64_id (x := i / 8) (by omega) (by omega), if_pos (by omega), if_pos (by omega), if_pos (by omega)]
  have e : shr .u8 (bt s (i / 8)) (i % 8) = bt s (i / 8) / 2 ^ (i % 8).toNat := (shr_small rfl (by simp [IntKind.bits]; omega)).symm
  have hp : (1 : Int) ≤ 2 ^ (i % 8).toNat := by have : (0 : Int) < 2 ^ (i % 8).toNat := Int.pow_pos (by omega); omega
  have q0 : 0 ≤ bt s (i / 8) / 2 ^ (i % 8).toNat := Int.ediv_nonneg b0 (by omega)
  have q1 : bt s (i / 8) / 2 ^ (i % 8).toNat ≤ bt s (i / 8) := Int.ediv_le_self _ b0
  have m : Go.bits .and .u8 (bt s (i / 8) / 2 ^ (i % 8).toNat) 1 = bt s (i / 8) / 2 ^ (i % 8).toNat % 2 := bits_mask .u8 8 (by decide) wraps_u8 1 (by decide) _ q0 (by omega)
  rw [e, m, w64_id (by omega) (by omega)]
theorem or_swap (x y : Int) : Go.bits .or .i64 x y = Go.bits .or .i64 y x := by
  unfold Go.bits
  simp only []
  rw [BitVec.or_comm]

/-- Bit a of bytes. -/
def bitX (xs : List Int) (a : Nat) : Int := rd xs ((a / 8 : Nat) : Int) / 2 ^ (a % 8) % 2
theorem rd_out (xs : List Int) (i : Nat) (h : xs.length ≤ i) : rd xs (i : Int) = 0 := by
  unfold rd
  rw [Int.toNat_natCast, List.getD_eq_getElem?_getD, List.getElem?_eq_none h]
  rfl
theorem rd_app (xs : List Int) (v : Int) (i : Nat) (h : i < xs.length) : rd (xs ++ [v]) (i : Int) = rd xs (i : Int) := by
  unfold rd
  rw [Int.toNat_natCast, List.getD_eq_getElem?_getD, List.getD_eq_getElem?_getD, List.getElem?_append_left h]
theorem rd_setNe (xs : List Int) (i j : Nat) (v : Int) (h : i ≠ j) : rd (xs.set j v) (i : Int) = rd xs (i : Int) := by
  unfold rd
  rw [Int.toNat_natCast, List.getD_eq_getElem?_getD, List.getD_eq_getElem?_getD, List.getElem?_set_ne (fun e => h e.symm)]
/-- A sum's low bits. -/
theorem low_bit (x b : Int) (r q : Nat) (hq : q < r) (x0 : 0 ≤ x) (b0 : 0 ≤ b) : (x + b * 2 ^ r) / 2 ^ q % 2 = x / 2 ^ q % 2 := by
  obtain ⟨d, rfl⟩ : ∃ d, r = q + 1 + d := ⟨r - q - 1, by omega⟩
  have e : b * 2 ^ (q + 1 + d) = (b * 2 ^ d * 2) * 2 ^ q := by
    rw [Int.pow_add, Int.pow_succ]
    ac_rfl
  have hp : (2 : Int) ^ q ≠ 0 := by
    have : (0 : Int) < 2 ^ q := Int.pow_pos (by omega)
    omega
  rw [e, Int.add_mul_ediv_right _ _ hp]
  omega
theorem top_bit (x b : Int) (r : Nat) (x0 : 0 ≤ x) (x1 : x < 2 ^ r) (b0 : 0 ≤ b) (b1 : b ≤ 1) : (x + b * 2 ^ r) / 2 ^ r % 2 = b := by
  have hp : (2 : Int) ^ r ≠ 0 := by
    have : (0 : Int) < 2 ^ r := Int.pow_pos (by omega)
    omega
  rw [Int.add_mul_ediv_right _ _ hp, Int.ediv_eq_zero_of_lt x0 x1]
  omega
theorem put_bit (xs : List Int) (c : Nat) (n : Int) (hI : Inv xs c) (n0 : 0 ≤ n) (n1 : n < 2 ^ 63) : (∀ a, a < c → bitX (putBit xs c n) a = bitX xs a) ∧ bitX (putBit xs c n) c = n % 2 := by
  have hl := hI.len
  unfold putBit
  by_cases hm : c % 8 = 0
  · rw [if_pos hm]
    have ho := orBit_is 0 n 0 (by omega) (by omega) (by omega) n0 n1
    rw [ho.1]
    constructor
    · intro a ha
      unfold bitX
      rw [rd_app xs _ (a / 8) (by omega)]
    · unfold bitX
      have e : c / 8 = xs.length := by omega
      rw [e, rd_last, hm]
      simp
  · rw [if_neg hm]
    have hj : c / 8 < xs.length := by omega
    have hr := hI.rng _ (rd_memI hj)
    have hlow := hI.low hm
    have ho := orBit_is (rd xs ((c / 8 : Nat) : Int)) n (c % 8) (by omega) hr.1 hlow n0 n1
    rw [ho.1]
    constructor
    · intro a ha
      unfold bitX
      by_cases he : a / 8 = c / 8
      · rw [he, rd_setJ hj]
        exact low_bit _ _ _ _ (by omega) hr.1 (by omega)
      · rw [rd_setNe xs _ _ _ he]
    · unfold bitX
      rw [rd_setJ hj]
      exact top_bit _ _ _ hr.1 hlow (by omega) (by omega)
/-- All bits that were put are there, in their order. -/
theorem putAll_bit : ∀ (ns xs : List Int) (c : Nat), Inv xs c → (∀ n ∈ ns, 0 ≤ n ∧ n < 2 ^ 63) → (∀ a, a < c → bitX (MWriter.putAll ns xs c) a = bitX xs a) ∧ ∀ j, j < ns.length → bitX (MWriter.putAll ns xs c) (c + j) = rd ns (j : Int) % 2
  | [], xs, c, hI, _ => ⟨fun a _ => rfl, fun j h => absurd h (Nat.not_lt_zero _)⟩
  | n :: ns, xs, c, hI, hn => by
    obtain ⟨n0, n1⟩ := hn n List.mem_cons_self
    obtain ⟨_, h2⟩ := put_step xs c n hI n0 n1
    obtain ⟨p1, p2⟩ := put_bit xs c n hI n0 n1
    obtain ⟨q1, q2⟩ := putAll_bit ns _ _ h2 (fun m hm => hn m (List.mem_cons_of_mem _ hm))
    rw [MWriter.putAll]
    refine ⟨fun a ha => by rw [q1 a (by omega), p1 a ha], fun j hj => ?_⟩
    cases j with
    | zero =>
      show bitX (MWriter.putAll ns (putBit xs c n) (c + 1)) c = _
      rw [q1 c (by omega), p2]
      rfl
    | succ j =>
      have := q2 j (by simpa using hj)
      rw [show c + (j + 1) = c + 1 + j by omega, this]
      unfold rd
      rw [Int.toNat_natCast, Int.toNat_natCast, List.getD_cons_succ]
theorem bitB_X (xs : List Int) (h : ∀ x ∈ xs, 0 ≤ x ∧ x ≤ 255) (a : Nat) (ha : a < 8 * xs.length) : bitB (strOfNums xs) (a : Int) = bitX xs a := by
  have hs := nums_size xs
  have e := bytesOf_rd (strOfNums xs) (a / 8) (by omega)
  rw [bytes_back xs h] at e
  unfold bitB bitX
  have e1 : (a : Int) / 8 = ((a / 8 : Nat) : Int) := by omega
  have e2 : ((a : Int) % 8).toNat = a % 8 := by omega
  rw [e1, e2, ← e]

/-- A code fits in its bits. -/
theorem code_fits (l : List Int) (h : hasC l = true) (i : Nat) (hi : i < l.length) (h0 : 0 < rd l (i : Int)) : ∃ n : Nat, rd l (i : Int) = (n : Int) ∧ 0 < n ∧ n ≤ 15 ∧ codeN l i < 2 ^ n := by
  obtain ⟨ho, hl, hf⟩ := hasC_ok h
  have hm := okL_mem ho _ (rd_mem l i hi)
  obtain ⟨n, hn⟩ : ∃ n : Nat, rd l (i : Int) = (n : Int) := ⟨(rd l (i : Int)).toNat, by omega⟩
  have h1 := code_lt l i n hi (by omega) hn
  have h2 := first_fits l (by rw [fullS_is l (okL_mem ho)]; exact hf) n (by omega)
  exact ⟨n, hn, by omega, by omega, by omega⟩

theorem syms_pre (l : List Int) (m : Nat) : ∀ d, ∃ t, symsTo l (m + d) = symsTo l m ++ t
  | 0 => ⟨[], by simp⟩
  | d + 1 => by
    obtain ⟨t, e⟩ := syms_pre l m d
    exact ⟨t ++ symsAt l (m + d + 1) l.length, by rw [show m + (d + 1) = m + d + 1 by omega, symsTo, e, List.append_assoc]⟩
/-- The symbol of a code that is there. -/
theorem match_sym (l : List Int) (n x : Nat) (h0 : 0 < n) (hn : n ≤ 15) (h1 : firstN l n ≤ x) (h2 : x < firstN l n + cntN l n) :
    ∃ i, i < l.length ∧ rd l (i : Int) = (n : Int) ∧ codeN l i = x ∧ rd (symsTo l 15) (((symsTo l (n - 1)).length + (x - firstN l n) : Nat) : Int) = (i : Int) := by
  rw [cntN_pos l n h0, ← rankN_all, ← symsAt_len] at h2
  obtain ⟨i, i1, i2, i3, i4⟩ := symsAt_get l n l.length (x - firstN l n) (by omega)
  refine ⟨i, i1, i2, ?_, ?_⟩
  · unfold codeN
    rw [i2, Int.toNat_natCast, i3]
    omega
  · obtain ⟨t, e⟩ := syms_pre l n (15 - n)
    rw [show n + (15 - n) = 15 by omega] at e
    obtain ⟨m, rfl⟩ : ∃ m, n = m + 1 := ⟨n - 1, by omega⟩
    have e5 : symsTo l (m + 1) = symsTo l m ++ symsAt l (m + 1) l.length := rfl
    rw [e5] at e
    unfold rd
    rw [Int.toNat_natCast, e, Nat.add_sub_cancel, List.getD_eq_getElem?_getD, List.append_assoc, List.getElem?_append_right (by omega), Nat.add_sub_cancel_left, List.getElem?_append_left (by omega), List.getElem?_eq_getElem (by omega), i4]
    rfl
theorem code_inj (l : List Int) (i j n : Nat) (hi : i < l.length) (hj : j < l.length) (h0 : 0 < n) (ei : rd l (i : Int) = (n : Int)) (ej : rd l (j : Int) = (n : Int)) (h : codeN l i = codeN l j) : i = j := by
  by_cases hne : i = j
  · exact hne
  · have := code_apart l i j n n hi hj h0 (Nat.le_refl _) ei ej hne
    rw [Nat.sub_self, Nat.pow_zero, Nat.div_one] at this
    exact absurd h.symm this

theorem div_pow_succ (v d : Nat) : v / 2 ^ d = 2 * (v / 2 ^ (d + 1)) + v / 2 ^ d % 2 := by
  rw [Nat.pow_succ, ← Nat.div_div_eq_div_mul]
  omega
/-- A code's bits are taken as its symbol. -/
theorem take_code (l : List Int) (hl : l.length ≤ 288) (k n : Nat) (hk : k < l.length) (n0 : 0 < n) (n15 : n ≤ 15) (ek : rd l (k : Int) = (n : Int)) (hfit : codeN l k < 2 ^ n) (s : ByteArray) (hs : s.size ≤ 12000) (a : Nat) (ha : a + n ≤ 8 * s.size)
    (hb : ∀ t, t < n → bitB s ((a + t : Nat) : Int) = ((codeN l k / 2 ^ (n - 1 - t) % 2 : Nat) : Int)) (d : Nat) : ∀ t : Nat, t + d = n → 0 < d →
    takeI l s (fun a_ => impl_bitAt.f s a_) (15 - t) (t + 1) (codeN l k / 2 ^ (n - t)) (symsTo l t).length (a + t) = some ((k : Int), s, ((a + n : Nat) : Int), true) := by
  induction d with
  | zero => intro t h h0; omega
  | succ d ih =>
    intro t h h0
    have e15 : 15 - t = (15 - (t + 1)) + 1 := by omega
    have hlt : a + t < 8 * s.size := by omega
    have hbit : impl_bitAt.f s ((a + t : Nat) : Int) = some ((codeN l k / 2 ^ (n - 1 - t) % 2 : Nat) : Int) := by rw [bitAt_is s (by omega) _ (by omega) (by omega), hb t (by omega)]
    have hx : 2 * (codeN l k / 2 ^ (n - t)) + codeN l k / 2 ^ (n - 1 - t) % 2 = codeN l k / 2 ^ (n - (t + 1)) := by
      have e := div_pow_succ (codeN l k) (n - (t + 1))
      rw [show n - (t + 1) + 1 = n - t by omega] at e
      rw [show n - 1 - t = n - (t + 1) by omega]
      exact e.symm
    have hy : (symsTo l t).length + cntN l (t + 1) = (symsTo l (t + 1)).length := by rw [syms_split l (t + 1) (by omega), Nat.add_sub_cancel]
    have hmod : codeN l k / 2 ^ (n - 1 - t) % 2 < 2 := Nat.mod_lt _ (by omega)
    rw [e15, takeI, if_pos hlt, hbit, Option.bind_some, if_pos ⟨by omega, by omega⟩, Int.toNat_natCast, hx]
    by_cases hd : d = 0
    · subst hd
      have et : t + 1 = n := by omega
      rw [et, Nat.sub_self, Nat.pow_zero, Nat.div_one]
      have hcl := code_lt l k n hk n0 ek
      rw [if_pos hcl]
      obtain ⟨i, i1, i2, i3, i4⟩ := match_sym l n _ n0 n15 hcl.1 hcl.2
      obtain rfl : i = k := code_inj l i k n i1 hk n0 i2 ek i3
      have e2 : t = n - 1 := by omega
      rw [e2, i4, show a + (n - 1) + 1 = a + n by omega]
    · have hno : ¬ (firstN l (t + 1) ≤ codeN l k / 2 ^ (n - (t + 1)) ∧ codeN l k / 2 ^ (n - (t + 1)) < firstN l (t + 1) + cntN l (t + 1)) := by
        intro hm
        obtain ⟨i, i1, i2, i3, _⟩ := match_sym l (t + 1) _ (by omega) (by omega) hm.1 hm.2
        by_cases hik : i = k
        · subst hik
          rw [ek] at i2
          omega
        · exact code_apart l i k (t + 1) n i1 hk (by omega) (by omega) i2 ek hik i3.symm
      rw [if_neg hno, hy]
      have := ih (t + 1) (by omega) (by omega)
      rw [show a + t + 1 = a + (t + 1) by omega]
      exact this
theorem takeSymbol_code (l : List Int) (hl0 : l.length ≤ 1048576) (h : hasC l = true) (k n : Nat) (hk : k < l.length) (n0 : 0 < n) (n15 : n ≤ 15) (ek : rd l (k : Int) = (n : Int)) (hfit : codeN l k < 2 ^ n) (s : ByteArray) (hs : s.size ≤ 12000) (a : Nat) (ha : a + n ≤ 8 * s.size)
    (hb : ∀ t, t < n → bitB s ((a + t : Nat) : Int) = ((codeN l k / 2 ^ (n - 1 - t) % 2 : Nat) : Int)) : impl_TakeSymbol.f l s (a : Int) = some ((k : Int), s, ((a + n : Nat) : Int), true) := by
  obtain ⟨ho, hl, hf⟩ := hasC_ok h
  unfold impl_TakeSymbol.f
  rw [hasC_impl l hl0, Option.bind_some, h]
  unfold takeF
  rw [if_pos rfl, if_neg (by omega), if_pos (by omega), Int.toNat_natCast]
  have := take_code l hl k n hk n0 n15 ek hfit s hs a ha hb n 0 (by omega) n0
  rw [Nat.sub_zero, Nat.sub_zero, Nat.div_eq_of_lt hfit] at this
  exact this

theorem highs_rng (v : Int) (n i : Nat) (v0 : 0 ≤ v) (v1 : v ≤ 16777215) : ∀ m ∈ highs v n i, 0 ≤ m ∧ m < 2 ^ 63 := by
  intro m hm
  unfold highs at hm
  obtain ⟨j, _, rfl⟩ := List.mem_map.1 hm
  have h2 : v / 2 ^ (n - 1 - j) ≤ v := Int.ediv_le_self _ v0
  exact ⟨Int.ediv_nonneg v0 (Int.le_of_lt (Int.pow_pos (by omega))), by omega⟩

/-- x & 255 is a byte, whatever x is. -/
theorem and255 (x : Int) : 0 ≤ Go.bits .and .i64 x 255 ∧ Go.bits .and .i64 x 255 ≤ 255 := by
  have h : (BitVec.ofInt 64 x &&& BitVec.ofInt 64 255).toNat ≤ 255 := by
    rw [BitVec.toNat_and]
    exact Nat.le_trans Nat.and_le_right (by decide)
  have e : Go.bits .and .i64 x 255 = IntKind.i64.wrap ((BitVec.ofInt 64 x &&& BitVec.ofInt 64 255).toNat : Int) := rfl
  rw [e, wraps64 _ (by omega) (by omega)]
  omega
theorem new_ends (l : List Int) (d : Nat) : ∀ (h : Int) (i : Nat), i + d = 4000 → ∃ h', Ev (fun k => spec_l01New.l0 k l h i) (l, 0, h') := by
  induction d with
  | zero =>
    intro h i hi
    exact ⟨h, ev_ret (fun k => by
      rw [spec_l01New.l0]
      split
      · rw [if_neg (by omega)]
      · rfl)⟩
  | succ d ih =>
    intro h i hi
    by_cases c : (i : Int) < (l.length : Int)
    · obtain ⟨h', e⟩ := ih (Go.bits .and .i64 (wrap64 ((wrap64 ((wrap64 (h * 131)) + (wrap64 (rd l i)))) + 7)) 1073741823) (i + 1) (by omega)
      exact ⟨h', Ev.step (fun k => by rw [spec_l01New.l0, if_pos c, if_pos (by omega), if_pos (by omega), w64_id (x := (i : Int) + 1) (by omega) (by omega)]; rfl) e⟩
    · exact ⟨h, ev_ret (fun k => by rw [spec_l01New.l0, if_neg c])⟩
theorem new_is (l : List Int) : ∃ h, Ev (fun k => spec_l01New.f k l) (l, 0, h) := new_ends l 4000 _ 0 (by omega)
theorem byte_is (l : List Int) (hl : l.length ≤ 9223372036854775807) (i h : Int) (hi : 0 ≤ i) : ∃ x i' h', spec_l01Byte.f l i h = some (x, i', h') ∧ 0 ≤ x ∧ x ≤ 255 ∧ 0 ≤ i' := by
  unfold spec_l01Byte.f
  by_cases c : i < (l.length : Int)
  · rw [if_pos c, if_pos hi]
    have := and255 (wrap64 ((Go.bits .and .i64 (Go.bits .xor .i64 ((wrap64 ((wrap64 (h * 6364136223846793005)) + 1442695040888963407)) / 8589934592) ((wrap64 ((wrap64 (h * 6364136223846793005)) + 1442695040888963407)) / 35184372088832)) 255) + (wrap64 (rd l i))))
    exact ⟨_, _, _, rfl, this.1, this.2, by rw [w64_id (by omega) (by omega)]; omega⟩
  · rw [if_neg c]
    have := and255 (Go.bits .xor .i64 ((wrap64 ((wrap64 (h * 6364136223846793005)) + 1442695040888963407)) / 8589934592) ((wrap64 ((wrap64 (h * 6364136223846793005)) + 1442695040888963407)) / 35184372088832))
    exact ⟨_, _, _, rfl, this.1, this.2, hi⟩
theorem below_is (l : List Int) (hl : l.length ≤ 9223372036854775807) (i h n : Int) (hi : 0 ≤ i) : ∃ x i' h', spec_l01Below.f l i h n = some (x, i', h') ∧ 0 ≤ x ∧ (0 < n → x < n) ∧ 0 ≤ i' := by
  unfold spec_l01Below.f
  by_cases c0 : n ≤ 0
  · rw [if_pos c0]
    exact ⟨_, _, _, rfl, by omega, by omega, hi⟩
  · rw [if_neg c0]
    by_cases c1 : n ≤ 256
    · rw [if_pos c1]
      obtain ⟨x, i1, h1, e, x0, x1, hi1⟩ := byte_is l hl i h hi
      rw [e, Option.bind_some, if_neg (by omega)]
      refine ⟨_, _, _, rfl, ?_, fun _ => ?_, hi1⟩
      · rw [tmod_nn _ x0]; exact Int.emod_nonneg _ (by omega)
      · rw [tmod_nn _ x0]; exact Int.emod_lt_of_pos _ (by omega)
    · rw [if_neg c1]
      obtain ⟨x, i1, h1, e1, x0, x1, hi1⟩ := byte_is l hl i h hi
      obtain ⟨y, i2, h2, e2, y0, y1, hi2⟩ := byte_is l hl i1 h1 hi1
      obtain ⟨z, i3, h3, e3, z0, z1, hi3⟩ := byte_is l hl i2 h2 hi2
      obtain ⟨w, i4, h4, e4, w0, w1, hi4⟩ := byte_is l hl i3 h3 hi3
      simp only [e1, e2, e3, e4, Option.bind_some]
      rw [if_neg (by omega)]
      rw [w64_id (x := x * 16777216) (by omega) (by omega), w64_id (x := y * 65536) (by omega) (by omega), w64_id (x := z * 256) (by omega) (by omega), w64_id (x := x * 16777216 + y * 65536) (by omega) (by omega), w64_id (x := x * 16777216 + y * 65536 + z * 256) (by omega) (by omega), w64_id (x := x * 16777216 + y * 65536 + z * 256 + w) (by omega) (by omega)]
      refine ⟨_, _, _, rfl, ?_, fun _ => ?_, hi4⟩
      · rw [tmod_nn _ (by omega)]; exact Int.emod_nonneg _ (by omega)
      · rw [tmod_nn _ (by omega)]; exact Int.emod_lt_of_pos _ (by omega)

theorem places_loop (l : List Int) (hl : l.length ≤ 9223372036854775807) (d : Nat) : ∀ (o : List Int) (j : Nat) (i h : Int), j + d = 12 → o.length = j → (∀ x ∈ o, 0 ≤ x ∧ x < 10000) → 0 ≤ i →
    ∃ p, Ev (fun k => spec_DrawPlaces.l0 k o j l i h) p ∧ p.length = 12 ∧ ∀ x ∈ p, 0 ≤ x ∧ x < 10000 := by
  induction d with
  | zero =>
    intro o j i h hj ho hb hi
    exact ⟨o, ev_ret (fun k => by rw [spec_DrawPlaces.l0, if_neg (by omega)]), by omega, hb⟩
  | succ d ih =>
    intro o j i h hj ho hb hi
    obtain ⟨x, i1, h1, e, x0, x1, hi1⟩ := below_is l hl i h 10000 hi
    have x1 := x1 (by omega)
    obtain ⟨p, e1, hp⟩ := ih (o ++ [x]) (j + 1) i1 h1 (by omega) (by simp [ho]) (fun y hy => by
      rcases List.mem_append.1 hy with hy | hy
      · exact hb y hy
      · simp at hy; omega) hi1
    refine ⟨p, Ev.step (fun k => ?_) e1, hp⟩
    rw [spec_DrawPlaces.l0, if_pos (by omega), e, Option.bind_some, if_pos (by omega), w64_id (x := (j : Int) + 1) (by omega) (by omega)]
    rfl
theorem places_is (l : List Int) (hl : l.length ≤ 9223372036854775807) : ∃ p, Ev (fun k => spec_DrawPlaces.f k l) p ∧ p.length = 12 ∧ ∀ x ∈ p, 0 ≤ x ∧ x < 10000 := by
  obtain ⟨h, e⟩ := new_is l
  obtain ⟨x, i1, h1, e1, _, _, hi1⟩ := byte_is l hl 0 h (by omega)
  obtain ⟨p, e2, hp⟩ := places_loop l hl 12 [] 0 i1 h1 (by omega) rfl (fun x hx => by simp at hx) hi1
  refine ⟨p, ev_use e (fun k hk => ?_) e2, hp⟩
  have hk' : spec_l01New.f k l = some (l, 0, h) := hk
  show spec_DrawPlaces.f k l = _
  unfold spec_DrawPlaces.f
  rw [hk', Option.bind_some, e1, Option.bind_some]
  rfl

/-- What a length is worth. -/
def wortN (x : Int) : Nat := if 0 < x then 2 ^ (15 - x.toNat) else 0
theorem fullS_set : ∀ (l : List Int) (i : Nat) (v : Int), i < l.length → fullS (l.set i v) + wortN (rd l (i : Int)) = fullS l + wortN v
  | [], i, v, h => absurd h (Nat.not_lt_zero _)
  | x :: l, 0, v, h => by
    rw [List.set_cons_zero, fullS, fullS]
    have e : rd (x :: l) ((0 : Nat) : Int) = x := rfl
    rw [e]
    unfold wortN
    omega
  | x :: l, i + 1, v, h => by
    have ih := fullS_set l i v (by simpa using h)
    have e : rd (x :: l) ((i + 1 : Nat) : Int) = rd l (i : Int) := by unfold rd; rw [Int.toNat_natCast, Int.toNat_natCast, List.getD_cons_succ]
    rw [List.set_cons_succ, fullS, fullS, e]
    omega
theorem fullS_snoc : ∀ (l : List Int) (v : Int), fullS (l ++ [v]) = fullS l + wortN v
  | [], v => by
    show fullS [v] = fullS [] + wortN v
    simp [fullS, wortN]
  | x :: l, v => by
    rw [List.cons_append, fullS, fullS_snoc l v, fullS]
    omega
def rngL (l : List Int) : Prop := ∀ x ∈ l, 1 ≤ x ∧ x ≤ 15
theorem rngL_set (l : List Int) (i : Nat) (v : Int) (h : rngL l) (hv : 1 ≤ v ∧ v ≤ 15) : rngL (l.set i v) := by
  intro x hx
  rcases List.mem_or_eq_of_mem_set hx with h1 | h1
  · exact h x h1
  · rw [h1]; exact hv
theorem whole1 (c : List Int) (hc : c.length ≤ 9223372036854775807) (d : Nat) : ∀ (j : Nat) (o : List Int) (i h : Int), j + d = o.length → 2 ≤ o.length → o.length ≤ 100 → 0 ≤ i → rngL o → fullS o = 32768 →
    ∃ r, Ev (fun k => spec_DrawWhole.l1 k o (j : Int) c i h) r ∧ 2 ≤ r.length ∧ r.length ≤ 100 ∧ rngL r ∧ fullS r = 32768 := by
  induction d with
  | zero =>
    intro j o i h hj h0 ho hi hr hf
    exact ⟨o, ev_ret (fun k => by rw [spec_DrawWhole.l1, if_neg (by omega)]), h0, ho, hr, hf⟩
  | succ d ih =>
    intro j o i h hj h0 ho hi hr hf
    obtain ⟨y, i2, h2, e2, y0, y1, i20⟩ := below_is c hc i h (o.length : Int) hi
    have y1 := y1 (by omega)
    obtain ⟨Y, rfl⟩ := Int.eq_ofNat_of_zero_le y0
    have rj := hr _ (rd_mem o j (by omega))
    have rY := hr _ (rd_mem o Y (by omega))
    have s1 := fullS_set o j (rd o (Y : Int)) (by omega)
    have s2 := fullS_set (o.set j (rd o (Y : Int))) Y (rd o (j : Int)) (by simp; omega)
    have e3 : rd (o.set j (rd o (Y : Int))) (Y : Int) = rd o (Y : Int) := by
      rw [rd_set o j _ Y (by omega)]
      split
      · rfl
      · rfl
    rw [e3] at s2
    obtain ⟨r, g, gs⟩ := ih (j + 1) ((o.set j (rd o (Y : Int))).set Y (rd o (j : Int))) i2 h2 (by simp; omega) (by simp; omega) (by simp; omega) i20 (rngL_set _ _ _ (rngL_set _ _ _ hr rY) rj) (by omega)
    refine ⟨r, Ev.step (fun k => ?_) g, gs⟩
    rw [spec_DrawWhole.l1, if_pos (by omega), e2, Option.bind_some, if_pos (by omega), if_pos (by omega), if_pos y1, w64_id (x := (j : Int) + 1) (by omega) (by omega), Int.toNat_natCast]
    rfl
theorem whole0 (c : List Int) (hc : c.length ≤ 9223372036854775807) (d : Nat) : ∀ (j : Nat) (o : List Int) (i h : Int), j + d = 14 → 2 ≤ o.length → o.length ≤ 2 + j → 0 ≤ i → rngL o → fullS o = 32768 →
    ∃ r, Ev (fun k => spec_DrawWhole.l0 k o (j : Int) c i h) r ∧ 2 ≤ r.length ∧ r.length ≤ 100 ∧ rngL r ∧ fullS r = 32768 := by
  have endL : ∀ (o : List Int) (i h : Int), 2 ≤ o.length → o.length ≤ 100 → 0 ≤ i → rngL o → fullS o = 32768 → ∃ r, Ev (fun k => spec_DrawWhole.l1 k o 0 c i h) r ∧ 2 ≤ r.length ∧ r.length ≤ 100 ∧ rngL r ∧ fullS r = 32768 := fun o i h h0 ho hi hr hf => whole1 c hc o.length 0 o i h (by omega) h0 ho hi hr hf
  induction d with
  | zero =>
    intro j o i h hj h0 ho hi hr hf
    obtain ⟨x, i1, h1, e1, x0, x1, i10⟩ := below_is c hc i h 14 hi
    have x1 := x1 (by omega)
    obtain ⟨r, g, gs⟩ := endL o i1 h1 h0 (by omega) i10 hr hf
    refine ⟨r, Ev.step (fun k => ?_) g, gs⟩
    rw [spec_DrawWhole.l0, e1, Option.bind_some, if_neg (by omega)]
  | succ d ih =>
    intro j o i h hj h0 ho hi hr hf
    obtain ⟨x, i1, h1, e1, x0, x1, i10⟩ := below_is c hc i h 14 hi
    have w1 : wrap64 ((j : Int) + 1) = ((j + 1 : Nat) : Int) := w64_id (by omega) (by omega)
    by_cases hx : (j : Int) < x
    · obtain ⟨y, i2, h2, e2, y0, y1, i20⟩ := below_is c hc i1 h1 (o.length : Int) i10
      have y1 := y1 (by omega)
      obtain ⟨Y, rfl⟩ := Int.eq_ofNat_of_zero_le y0
      have rY := hr _ (rd_mem o Y (by omega))
      by_cases h15 : rd o (Y : Int) < 15
      · have hw : wrap64 (rd o (Y : Int) + 1) = rd o (Y : Int) + 1 := w64_id (by omega) (by omega)
        have s1 := fullS_set o Y (rd o (Y : Int) + 1) (by omega)
        have e3 : rd (o.set Y (rd o (Y : Int) + 1)) (Y : Int) = rd o (Y : Int) + 1 := by rw [rd_set o Y _ Y (by omega), if_pos rfl]
        have s2 := fullS_snoc (o.set Y (rd o (Y : Int) + 1)) (rd o (Y : Int) + 1)
        have hhalf : wortN (rd o (Y : Int)) = 2 * wortN (rd o (Y : Int) + 1) := by
          unfold wortN
          rw [if_pos (by omega), if_pos (by omega), show (rd o (Y : Int) + 1).toNat = (rd o (Y : Int)).toNat + 1 by omega, show 15 - (rd o (Y : Int)).toNat = (15 - ((rd o (Y : Int)).toNat + 1)) + 1 by omega, Nat.pow_succ]
          omega
        obtain ⟨r, g, gs⟩ := ih (j + 1) (o.set Y (rd o (Y : Int) + 1) ++ [rd o (Y : Int) + 1]) i2 h2 (by omega) (by simp; omega) (by simp; omega) i20 (by
          intro z hz
          rcases List.mem_append.1 hz with h5 | h5
          · exact rngL_set _ _ _ hr (by omega) z h5
          · rw [List.mem_singleton.1 h5]; omega) (by omega)
        refine ⟨r, Ev.step (fun k => ?_) g, gs⟩
        rw [spec_DrawWhole.l0, e1, Option.bind_some, if_pos hx, e2, Option.bind_some, if_pos (by omega), if_pos y1, if_pos h15, Option.bind_some, hw, Int.toNat_natCast, if_pos (by rw [List.length_set]; omega), w1, e3]
      · obtain ⟨r, g, gs⟩ := ih (j + 1) o i2 h2 (by omega) h0 (by omega) i20 hr hf
        refine ⟨r, Ev.step (fun k => ?_) g, gs⟩
        rw [spec_DrawWhole.l0, e1, Option.bind_some, if_pos hx, e2, Option.bind_some, if_pos (by omega), if_pos y1, if_neg h15, w1]
    · obtain ⟨r, g, gs⟩ := endL o i1 h1 h0 (by omega) i10 hr hf
      refine ⟨r, Ev.step (fun k => ?_) g, gs⟩
      rw [spec_DrawWhole.l0, e1, Option.bind_some, if_neg hx]
/-- Drawn whole lengths. -/
theorem drawWhole_is (l : List Int) (hl : l.length ≤ 9223372036854775807) : ∃ r, Ev (fun k => spec_DrawWhole.f k l) r ∧ 2 ≤ r.length ∧ r.length ≤ 100 ∧ rngL r ∧ fullS r = 32768 := by
  obtain ⟨h, e⟩ := new_is l
  obtain ⟨r, g, gs⟩ := whole0 l hl 14 0 [1, 1] 0 h (by omega) (by simp) (by simp) (by omega) (by intro x hx; simp at hx; omega) (by decide)
  refine ⟨r, ev_end (ev_pair e g) (fun k hk => ?_), gs⟩
  obtain ⟨k1, k2⟩ := pair_some hk
  have k2 : spec_DrawWhole.l0 k l.toArray.toList 0 l 0 h = spec_DrawWhole.l0 k l.toArray.toList 0 l 0 h → spec_DrawWhole.l0 k [1, 1] 0 l 0 h = some r := fun _ => k2
  unfold spec_DrawWhole.f
  rw [k1, Option.bind_some]
  exact k2 rfl
theorem whole_kind (q : List Int) (hr : rngL q) (hf : fullS q = 32768) (hl : q.length ≤ 288) : kindL q = 2 ∧ hasC q = true := by
  have ho : okL q = true := by
    unfold okL
    rw [List.all_eq_true]
    intro x hx
    have := hr x hx
    exact decide_eq_true (by omega)
  have hk : kindL q = 2 := by
    unfold kindL
    rw [if_pos ⟨ho, hl⟩]
    unfold kindS
    have h0 : nzL q ≠ 0 := by
      intro h
      have := ((full_zero q ho).1).2 h
      omega
    rw [if_neg h0, if_pos hf]
  refine ⟨hk, ?_⟩
  unfold hasC
  rw [hk]
  rfl

open Go.Proofs.Ytimomemkbcidnaa.MSym
/-- The bits of symbols. -/
def allB (q : List Int) : List Int → List Int
  | [] => []
  | y :: ys => highs ((codeN q y.toNat : Nat) : Int) (rd q y).toNat (rd q y).toNat ++ allB q ys
def totN (q : List Int) : List Int → Nat
  | [] => 0
  | y :: ys => (rd q y).toNat + totN q ys
theorem allB_len (q : List Int) : ∀ ys, (allB q ys).length = totN q ys
  | [] => rfl
  | y :: ys => by rw [allB, List.length_append, highs_len, allB_len q ys, totN]
theorem totN_snoc (q : List Int) : ∀ (ys : List Int) (y : Int), totN q (ys ++ [y]) = totN q ys + (rd q y).toNat
  | [], y => by simp [totN]
  | z :: ys, y => by
    rw [List.cons_append, totN, totN_snoc q ys y, totN]
    omega
theorem totN_le (q : List Int) (hq : rngL q) : ∀ ys, (∀ y ∈ ys, 0 ≤ y ∧ y < (q.length : Int)) → totN q ys ≤ 15 * ys.length
  | [], _ => by simp [totN]
  | y :: ys, h => by
    have ih := totN_le q hq ys (fun z hz => h z (List.mem_cons_of_mem _ hz))
    obtain ⟨y0, y1⟩ := h y List.mem_cons_self
    obtain ⟨Y, rfl⟩ := Int.eq_ofNat_of_zero_le y0
    have := hq _ (rd_mem q Y (by omega))
    rw [totN, List.length_cons]
    omega
theorem allB_rng (q : List Int) (hc : hasC q = true) (hq : rngL q) : ∀ ys, (∀ y ∈ ys, 0 ≤ y ∧ y < (q.length : Int)) → ∀ n ∈ allB q ys, 0 ≤ n ∧ n < 2 ^ 63
  | [], _, n, hn => by simp [allB] at hn
  | y :: ys, h, n, hn => by
    obtain ⟨y0, y1⟩ := h y List.mem_cons_self
    obtain ⟨Y, rfl⟩ := Int.eq_ofNat_of_zero_le y0
    have hr := hq _ (rd_mem q Y (by omega))
    obtain ⟨m, e1, e2, e3, e4⟩ := code_fits q hc Y (by omega) (by omega)
    have hp : 2 ^ m ≤ 2 ^ 15 := Nat.pow_le_pow_right (by omega) e3
    rw [allB] at hn
    rcases List.mem_append.1 hn with h1 | h1
    · exact highs_rng _ _ _ (by omega) (by rw [Int.toNat_natCast]; omega) n h1
    · exact allB_rng q hc hq ys (fun z hz => h z (List.mem_cons_of_mem _ hz)) n h1
theorem put_list (q : List Int) (hc : hasC q = true) (hq : rngL q) : ∀ (ys xs : List Int) (c : Nat), xs.length ≤ 12000 → xs.length = (c + 7) / 8 → (∀ y ∈ ys, 0 ≤ y ∧ y < (q.length : Int)) → c + totN q ys ≤ 90000 →
    putSymL q (codesI q q.length) ys xs c = some (outF (putAll (allB q ys) xs c) ((c + totN q ys : Nat) : Int))
  | [], xs, c, h1, h2, h3, h4 => by rw [putSymL]; rfl
  | y :: ys, xs, c, h1, h2, h3, h4 => by
    obtain ⟨y0, y1⟩ := h3 y List.mem_cons_self
    obtain ⟨Y, rfl⟩ := Int.eq_ofNat_of_zero_le y0
    have hr := hq _ (rd_mem q Y (by omega))
    obtain ⟨n, hn⟩ : ∃ n : Nat, rd q (Y : Int) = (n : Int) := ⟨(rd q (Y : Int)).toNat, by omega⟩
    rw [totN] at h4
    have hl := putAll_len (highs ((codeN q Y : Nat) : Int) n n) xs c h2
    rw [highs_len] at hl
    rw [hn, Int.toNat_natCast] at h4
    have ih := put_list q hc hq ys (putAll (highs ((codeN q Y : Nat) : Int) n n) xs c) (c + n) (by rw [hl]; omega) hl (fun z hz => h3 z (List.mem_cons_of_mem _ hz)) (by omega)
    rw [putSymL, if_pos (by omega), if_neg (by omega), if_neg (by omega), if_pos (by omega), codesI_rd q Y (by omega) (by omega), hn, Int.toNat_natCast, ih, allB, Int.toNat_natCast, hn, Int.toNat_natCast, putAll_append, highs_len, totN, hn, Int.toNat_natCast, Nat.add_assoc]
/-- These bits stand from a on. -/
def bitsAtB (XS : List Int) (a : Nat) (ns : List Int) : Prop := ∀ j, j < ns.length → bitX XS (a + j) = rd ns (j : Int) % 2
theorem bitsAtB_app (XS : List Int) (a : Nat) (ns ms : List Int) (h : bitsAtB XS a (ns ++ ms)) : bitsAtB XS a ns ∧ bitsAtB XS (a + ns.length) ms := by
  constructor
  · intro j hj
    have := h j (by rw [List.length_append]; omega)
    rw [this]
    unfold rd
    rw [Int.toNat_natCast, List.getD_eq_getElem?_getD, List.getD_eq_getElem?_getD, List.getElem?_append_left hj]
  · intro j hj
    have := h (ns.length + j) (by rw [List.length_append]; omega)
    rw [Nat.add_assoc, this]
    unfold rd
    rw [Int.toNat_natCast, Int.toNat_natCast, List.getD_eq_getElem?_getD, List.getD_eq_getElem?_getD, List.getElem?_append_right (by omega), Nat.add_sub_cancel_left]
theorem take_list (q : List Int) (hc : hasC q = true) (hq : rngL q) (hl : q.length ≤ 288) (XS : List Int) (hX : ∀ x ∈ XS, 0 ≤ x ∧ x ≤ 255) (hs : XS.length ≤ 12000) (N : Nat) (hN : N ≤ 8 * XS.length) (ys : List Int) (hy : ∀ y ∈ ys, 0 ≤ y ∧ y < (q.length : Int)) (hyl : ys.length ≤ 1000) (d : Nat) : ∀ (j a : Nat), j + d = ys.length → a + totN q (ys.drop j) = N → bitsAtB XS a (allB q (ys.drop j)) →
    Ev (fun k => laws_FnSymbols.l1 k q ys (j : Int) (strOfNums XS) (N : Int) (strOfNums XS) (a : Int)) true := by
  have hsz := nums_size XS
  induction d with
  | zero =>
    intro j a h ha hb
    rw [List.drop_of_length_le (by omega), totN] at ha
    refine ev_ret (fun k => ?_)
    rw [laws_FnSymbols.l1, if_neg (by omega)]
    have : ((a : Int) == (N : Int)) = true := by rw [beq_iff_eq]; omega
    rw [this]
  | succ d ih =>
    intro j a h ha hb
    rw [drop_rd ys j (by omega)] at ha hb
    obtain ⟨y0, y1⟩ := hy _ (rd_mem ys j (by omega))
    obtain ⟨Y, eY⟩ := Int.eq_ofNat_of_zero_le y0
    rw [eY] at ha hb y1
    have hr := hq _ (rd_mem q Y (by omega))
    obtain ⟨n, hn, n0, n15, hfit⟩ := code_fits q hc Y (by omega) (by omega)
    rw [totN, hn, Int.toNat_natCast] at ha
    rw [allB, Int.toNat_natCast, hn, Int.toNat_natCast] at hb
    obtain ⟨b1, b2⟩ := bitsAtB_app XS a _ _ hb
    rw [highs_len] at b2
    have T := takeSymbol_code q (by omega) hc Y n (by omega) n0 n15 hn hfit (strOfNums XS) (by omega) a (by omega) (fun t ht => by
      rw [bitB_X XS hX (a + t) (by omega), b1 t (by rw [highs_len]; exact ht)]
      have e : rd (highs ((codeN q Y : Nat) : Int) n n) (t : Int) = ((codeN q Y / 2 ^ (n - 1 - t) : Nat) : Int) := by
        unfold rd highs
        rw [Int.toNat_natCast, List.getD_eq_getElem?_getD, List.getElem?_map, List.getElem?_range ht, Int.natCast_ediv, Int.natCast_pow]
        rfl
      rw [e]
      omega)
    refine Ev.step (fun k => ?_) (ih (j + 1) (a + n) (by omega) (by omega) b2)
    rw [laws_FnSymbols.l1, if_pos (by omega), T, Option.bind_some, if_pos rfl, if_pos (by omega), if_pos eY.symm, w64_id (x := (j : Int) + 1) (by omega) (by omega)]
    rfl
/-- What counts weigh, from a symbol on. -/
def dotL (l c : List Int) : Nat → Nat → Int
  | 0, _ => 0
  | d + 1, j => rd c (j : Int) * rd l (j : Int) + dotL l c d (j + 1)
theorem costL_dot (l c : List Int) (hl : rngL l) (h : ∀ x ∈ c, 0 ≤ x ∧ x ≤ 12000) (he : c.length = l.length) (d : Nat) : ∀ (j : Nat) (s : Int), j + d = c.length → costL l c d j s = (s + dotL l c d j, true) := by
  induction d with
  | zero => intro j s hj; rw [costL, dotL, Int.add_zero]
  | succ d ih =>
    intro j s hj
    have h1 := h _ (rd_mem c j (by omega))
    have h2 := hl _ (rd_mem l j (by omega))
    rw [costL, if_pos h1, if_neg (by omega), ih (j + 1) _ (by omega), dotL, Int.add_assoc]
theorem dotL_set (l c : List Int) (Y : Nat) (hY : Y < c.length) (d : Nat) : ∀ j : Nat, j + d = c.length → dotL l (c.set Y (rd c (Y : Int) + 1)) d j = dotL l c d j + if j ≤ Y then rd l (Y : Int) else 0 := by
  induction d with
  | zero => intro j hj; rw [dotL, dotL, if_neg (by omega)]; rfl
  | succ d ih =>
    intro j hj
    rw [dotL, dotL, ih (j + 1) (by omega), rd_set c Y _ j hY]
    by_cases h1 : j = Y
    · subst h1
      rw [if_pos rfl, if_neg (by omega), if_pos (Nat.le_refl _), Int.add_mul]
      omega
    · rw [if_neg h1]
      by_cases h2 : j ≤ Y
      · rw [if_pos (by omega), if_pos h2]
        omega
      · rw [if_neg (by omega), if_neg h2]
        omega
theorem dotL_zero (l : List Int) (n d : Nat) : ∀ j : Nat, dotL l (List.replicate n 0) d j = 0 := by
  induction d with
  | zero => intro j; rfl
  | succ d ih =>
    intro j
    have e : rd (List.replicate n 0) (j : Int) = 0 := by
      unfold rd
      rw [Int.toNat_natCast, List.getD_eq_getElem?_getD, List.getElem?_replicate]
      split <;> rfl
    rw [dotL, e, ih (j + 1)]
    omega
theorem sym_end (q : List Int) (h2 : 2 ≤ q.length) (hl : q.length ≤ 100) (hq : rngL q) (hf : fullS q = 32768) (p : List Int) (ys cs : List Int) (hy : ∀ y ∈ ys, 0 ≤ y ∧ y < (q.length : Int)) (hyl : ys.length ≤ 12) (hcl : cs.length = q.length) (hcr : ∀ x ∈ cs, 0 ≤ x ∧ x ≤ 12000) (hdot : dotL q cs cs.length 0 = (totN q ys : Int)) (hp : p.length = 12) :
    Ev (fun k => laws_FnSymbols.l0 k q p ys cs ((12 : Nat) : Int)) true := by
  obtain ⟨hk, hc⟩ := whole_kind q hq hf (by omega)
  have htot := totN_le q hq ys hy
  have hI0 : Inv ([] : List Int) 0 := ⟨rfl, by simp, fun h => absurd rfl h⟩
  have hrng := allB_rng q hc hq ys hy
  obtain ⟨_, hI⟩ := put_all (allB q ys) [] 0 hI0 hrng
  rw [allB_len, Nat.zero_add] at hI
  have hput := put_list q hc hq ys [] 0 (by simp) (by simp) hy (by omega)
  rw [Nat.zero_add] at hput
  have hXl := hI.len
  have hP : impl_PutSymbols.f (⟨#[]⟩ : ByteArray) 0 q ys = some (strOfNums (putAll (allB q ys) [] 0), (totN q ys : Int), true) := by
    unfold impl_PutSymbols.f
    rw [codes_impl q (by omega), Option.bind_some, ok_impl (⟨#[]⟩ : ByteArray) 0 (by omega) (by omega) (by decide), Option.bind_some]
    unfold putSymF codesR
    rw [if_pos hc, if_pos rfl]
    have e0 : okB (⟨#[]⟩ : ByteArray) 0 = true := by decide
    have e1 : bytesOf (⟨#[]⟩ : ByteArray) = [] := rfl
    rw [if_pos e0, if_pos ⟨by omega, by omega, by decide, codesI_len q _, by omega, by omega⟩, e1]
    show putSymL q (codesI q q.length) ys [] 0 = _
    rw [hput]
    unfold outF
    rw [if_pos (by omega)]
  have hC := cost_impl q cs (by omega)
  have hcr2 : costR q cs = ((totN q ys : Int), true) := by
    unfold costR
    rw [if_neg (by rw [hk]; omega), costL_dot q cs hq hcr hcl cs.length 0 0 (by omega), hdot, Int.zero_add]
  rw [hcr2] at hC
  have hb : bitsAtB (putAll (allB q ys) [] 0) 0 (allB q ys) := by
    intro j hj
    exact (putAll_bit (allB q ys) [] 0 hI0 hrng).2 j hj
  have g1 := take_list q hc hq (by omega) (putAll (allB q ys) [] 0) hI.rng (by omega) (totN q ys) (by omega) ys hy (by omega) ys.length 0 0 (by omega) (by rw [List.drop_zero]; omega) (by rw [List.drop_zero]; exact hb)
  have g2 : Ev (fun k => laws_FnSymbols.j1 k q ys false (strOfNums (putAll (allB q ys) [] 0)) (totN q ys : Int)) true := Ev.step (fun k => by rw [laws_FnSymbols.j1, if_neg (by decide)]; rfl) g1
  have gk := kind_impl q (by omega)
  rw [hk] at gk
  refine ev_use_step hC (fun k hkk => ?_) g2
  rw [laws_FnSymbols.l0, if_neg (by omega), hP, Option.bind_some, hkk, Option.bind_some, if_pos rfl, if_pos rfl, if_pos rfl, gk, Option.bind_some]
  rfl
theorem sym_loop (q : List Int) (h2 : 2 ≤ q.length) (hl : q.length ≤ 100) (hq : rngL q) (hf : fullS q = 32768) (p : List Int) (hp : p.length = 12) (hpr : ∀ x ∈ p, 0 ≤ x ∧ x < 10000) (d : Nat) : ∀ (j : Nat) (ys cs : List Int), j + d = 12 → (∀ y ∈ ys, 0 ≤ y ∧ y < (q.length : Int)) → ys.length = j → cs.length = q.length → (∀ x ∈ cs, 0 ≤ x ∧ x ≤ j) → dotL q cs cs.length 0 = (totN q ys : Int) →
    Ev (fun k => laws_FnSymbols.l0 k q p ys cs (j : Int)) true := by
  induction d with
  | zero =>
    intro j ys cs h hy hyl hcl hcr hdot
    obtain rfl : j = 12 := by omega
    exact sym_end q h2 hl hq hf p ys cs hy (by omega) hcl (fun x hx => by have := hcr x hx; omega) hdot hp
  | succ d ih =>
    intro j ys cs h hy hyl hcl hcr hdot
    have pr := hpr _ (rd_mem p j (by omega))
    obtain ⟨Y, eY, hYl⟩ : ∃ Y : Nat, Int.tmod (rd p (j : Int)) (q.length : Int) = (Y : Int) ∧ Y < q.length := by
      rw [tmod_nn _ pr.1]
      have h1 := Int.emod_nonneg (rd p (j : Int)) (show (q.length : Int) ≠ 0 by omega)
      have h3 := Int.emod_lt_of_pos (rd p (j : Int)) (show (0 : Int) < (q.length : Int) by omega)
      exact ⟨(rd p (j : Int) % (q.length : Int)).toNat, by omega, by omega⟩
    have hcY := hcr _ (rd_mem cs Y (by omega))
    have hqY := hq _ (rd_mem q Y hYl)
    have hds := dotL_set q cs Y (by omega) cs.length 0 (by omega)
    rw [if_pos (Nat.zero_le _)] at hds
    refine Ev.step (fun k => ?_) (ih (j + 1) (ys ++ [(Y : Int)]) (cs.set Y (rd cs (Y : Int) + 1)) (by omega) (fun y hym => ?_) (by simp; omega) (by simp; exact hcl) (fun x hx => ?_) ?_)
    · rw [laws_FnSymbols.l0, if_pos (by omega), if_pos (by omega), if_neg (by omega), if_pos (by omega), eY, if_pos (by omega), if_pos (by omega), w64_id (x := rd cs (Y : Int) + 1) (by omega) (by omega), w64_id (x := (j : Int) + 1) (by omega) (by omega), Int.toNat_natCast]
      rfl
    · rcases List.mem_append.1 hym with h5 | h5
      · exact hy y h5
      · rw [List.mem_singleton.1 h5]; omega
    · rcases List.mem_or_eq_of_mem_set hx with h5 | h5
      · have := hcr x h5; omega
      · rw [h5]; omega
    · rw [List.length_set, hds, hdot, totN_snoc]
      omega
theorem FnSymbols : laws_FnSymbols.Pure := by
  intro l hm hl hw
  have hbig : laws_big.f l = some (decide ((l.length : Int) > 1048576)) := rfl
  by_cases hb : (l.length : Int) > 1048576
  · refine ⟨0, ?_⟩
    unfold laws_FnSymbols.f
    rw [hbig, decide_eq_true hb, Option.bind_some, if_pos rfl]
  · obtain ⟨q, gW, q2, q100, hq, hf⟩ := drawWhole_is l (by omega)
    obtain ⟨p, gP, hpl, hpr⟩ := places_is l (by omega)
    have gJ := sym_loop q q2 q100 hq hf p hpl hpr 12 0 [] (List.replicate q.length 0) (by omega) (by simp) rfl (by simp) (by
      intro x hx
      have := List.eq_of_mem_replicate hx
      omega) (by rw [dotL_zero]; rfl)
    obtain ⟨K1, gW⟩ := gW
    obtain ⟨K2, gP⟩ := gP
    obtain ⟨K3, gJ⟩ := gJ
    refine ⟨K1 + K2 + K3, ?_⟩
    generalize hK : K1 + K2 + K3 = K
    have d1 : spec_DrawWhole.f K l = some q := gW K (by omega)
    have d2 : spec_DrawPlaces.f K l = some p := gP K (by omega)
    have d3 : laws_FnSymbols.l0 K q p [] (List.replicate q.length 0) ((0 : Nat) : Int) = some true := gJ K (by omega)
    unfold laws_FnSymbols.f
    rw [hbig, decide_eq_false hb, Option.bind_some, if_neg (by decide), d1, Option.bind_some, d2, Option.bind_some, if_pos (by omega), Int.toNat_natCast, if_pos (by omega)]
    exact d3

end Go.Proofs.Ytimomemkbcidnaa.Pure
