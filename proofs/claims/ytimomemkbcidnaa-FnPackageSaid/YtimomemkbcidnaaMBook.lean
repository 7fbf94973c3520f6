/- The program's book of codes: what bookOf lays into memory. Conditions: at most 1000000 lengths, which lie in memory. -/
import Derived.Test.YtimomemkbcidnaaProg
import Derived.Test.YtimomemkbcidnaaWWords
import Derived.Test.YtimomemkbcidnaaWMore
import Derived.Below
import Derived.OwnWalk
import Derived.Tactics
import Derived.WalkKit
import Derived.KernelRfl
import Derived.RowKit3
import Derived.Deep.LoopGhost
import Derived.Deep.QuietTactic
import Derived.BigQuiet
import Derived.StillTailTactics
import Derived.WideLaws
import Derived.Outline
import Derived.Deep.DeepCutAuto
namespace Go.Proofs.Ytimomemkbcidnaa.MBook
open Go.RowKit Go.Proofs.YtimomemkbcidnaaW.PrintWords Go.Proofs.YtimomemkbcidnaaW.PrintMore
set_option linter.unusedVariables false
set_option linter.unusedSimpArgs false
/-- How many codes of n bits there are; none of 0. -/
def cntN (l : List Int) (n : Nat) : Nat := if n = 0 then 0 else l.count (n : Int)
/-- The first code of n bits. -/
def firstN (l : List Int) : Nat → Nat
  | 0 => 0
  | n + 1 => 2 * (firstN l n + cntN l n)
/-- How full the codes of at most m bits are, in parts of 2^15. -/
def fullN (l : List Int) : Nat → Nat
  | 0 => 0
  | m + 1 => fullN l m + cntN l (m + 1) * 2 ^ (15 - (m + 1))
/-- The symbols of n bits among the first i. -/
def symsAt (l : List Int) (n : Nat) : Nat → List Int
  | 0 => []
  | i + 1 => if rd l (i : Int) = (n : Int) then symsAt l n i ++ [(i : Int)] else symsAt l n i
/-- The symbols of 1 to m bits. -/
def symsTo (l : List Int) : Nat → List Int
  | 0 => []
  | m + 1 => symsTo l m ++ symsAt l (m + 1) l.length
/-- How many of the first i are n. -/
def rankN (l : List Int) (n : Nat) : Nat → Nat
  | 0 => 0
  | i + 1 => if rd l (i : Int) = (n : Int) then rankN l n i + 1 else rankN l n i
theorem symsAt_len (l : List Int) (n : Nat) : ∀ i, (symsAt l n i).length = rankN l n i
  | 0 => rfl
  | i + 1 => by
    unfold symsAt rankN
    split
    · rw [List.length_append, symsAt_len l n i]; rfl
    · exact symsAt_len l n i
theorem rankN_count (l : List Int) (n : Nat) : ∀ i, i ≤ l.length → rankN l n i = (l.take i).count (n : Int)
  | 0, h => by simp [rankN]
  | i + 1, h => by
    have e : rd l (i : Int) = l[i] := by unfold rd; rw [Int.toNat_natCast, List.getD_eq_getElem?_getD, List.getElem?_eq_getElem (by omega)]; rfl
    rw [rankN, rankN_count l n i (by omega), List.take_succ_eq_append_getElem (by omega), List.count_append, e, List.count_singleton]
    by_cases h1 : l[i] = (n : Int)
    · rw [if_pos h1, if_pos (by simpa using h1)]
    · rw [if_neg h1, if_neg (by simpa using h1)]
      rfl
theorem rankN_all (l : List Int) (n : Nat) : rankN l n l.length = l.count (n : Int) := by rw [rankN_count l n l.length (Nat.le_refl _), List.take_length]
/-- The code of a symbol; 0 of one without. -/
def codeN (l : List Int) (i : Nat) : Nat := firstN l (rd l (i : Int)).toNat + rankN l (rd l (i : Int)).toNat i
theorem cntN_cons (x : Int) (l : List Int) (n : Nat) : cntN (x :: l) n = cntN l n + if 0 < n ∧ x = (n : Int) then 1 else 0 := by
  unfold cntN
  by_cases h : n = 0
  · rw [if_pos h, if_pos h, if_neg (by omega)]
  · rw [if_neg h, if_neg h, List.count_cons]
    by_cases hx : x = (n : Int)
    · rw [if_pos (by simpa using hx), if_pos ⟨by omega, hx⟩]
    · rw [if_neg (by simpa using hx), if_neg (fun h2 => hx h2.2)]
theorem fullN_cons (x : Int) (l : List Int) : ∀ m, m ≤ 15 → fullN (x :: l) m = fullN l m + if 0 < x ∧ x ≤ (m : Int) then 2 ^ (15 - x.toNat) else 0
  | 0, h => by rw [fullN, fullN, if_neg (by omega)]
  | m + 1, h => by
    rw [fullN, fullN, fullN_cons x l m (by omega), cntN_cons, Nat.add_mul]
    by_cases h1 : x = ((m + 1 : Nat) : Int)
    · have e1 : (if 0 < x ∧ x ≤ (m : Int) then 2 ^ (15 - x.toNat) else 0) = 0 := if_neg (by omega)
      have e2 : (if 0 < m + 1 ∧ x = ((m + 1 : Nat) : Int) then 1 else 0) = 1 := if_pos ⟨by omega, h1⟩
      have e3 : (if 0 < x ∧ x ≤ ((m + 1 : Nat) : Int) then 2 ^ (15 - x.toNat) else 0) = 2 ^ (15 - (m + 1)) := by rw [if_pos (by omega), h1, Int.toNat_natCast]
      rw [e1, e2, e3]
      omega
    · have e2 : (if 0 < m + 1 ∧ x = ((m + 1 : Nat) : Int) then 1 else 0) = 0 := if_neg (fun h2 => h1 h2.2)
      have e3 : (if 0 < x ∧ x ≤ ((m + 1 : Nat) : Int) then 2 ^ (15 - x.toNat) else 0) = (if 0 < x ∧ x ≤ (m : Int) then 2 ^ (15 - x.toNat) else 0) := by
        by_cases h2 : 0 < x ∧ x ≤ (m : Int)
        · rw [if_pos h2, if_pos (by omega)]
        · rw [if_neg h2, if_neg (by omega)]
      rw [e2, e3]
      omega
/-- How full, symbol by symbol. -/
def fullS : List Int → Nat
  | [] => 0
  | x :: l => (if 0 < x then 2 ^ (15 - x.toNat) else 0) + fullS l
theorem fullS_is : ∀ (l : List Int), (∀ x ∈ l, 0 ≤ x ∧ x ≤ 15) → fullN l 15 = fullS l
  | [], _ => by simp [fullN, fullS, cntN]
  | x :: l, h => by
    have hx := h x List.mem_cons_self
    rw [fullN_cons x l 15 (by omega), fullS_is l (fun y hy => h y (List.mem_cons_of_mem _ hy)), fullS]
    by_cases h0 : 0 < x
    · rw [if_pos h0, if_pos ⟨h0, by omega⟩]; omega
    · rw [if_neg h0, if_neg (by omega)]; omega
theorem infoI : (Try.prog.info? 3).map (fun i => (i.zero, i.size, i.bytes)) = some (some (.int .i64 0), 1, 8) := by kernel_rfl
/-- The book's cells. -/
def bookCells (cs fs : List Int) (v : Value) (s : Int) : Array Value := ((cs.map (Value.int .i64)) ++ ((fs.map (Value.int .i64)) ++ [v, .int .i64 s])).toArray
/-- The book at block g. -/
def BS (w : World) (base g : Nat) (cs fs sy : List Int) (s : Int) : Prop :=
  cs.length = 16 ∧ fs.length = 16 ∧ base ≤ g ∧ ∃ v, w.heap[g]? = some (.cells (bookCells cs fs v s) 73 (0, 0)) ∧ Kd.R (Kd.int .i64) 3 w base (fun _ => True) v sy
theorem book_c (cs fs : List Int) (v : Value) (s : Int) (hc : cs.length = 16) (n : Nat) (h : n < 16) : (bookCells cs fs v s)[n]? = some (.int .i64 (rd cs n)) := by
  unfold bookCells rd
  rw [List.getElem?_toArray, List.getElem?_append_left (by simpa [hc] using h), List.getElem?_map, Int.toNat_natCast, List.getD_eq_getElem?_getD, List.getElem?_eq_getElem (by omega)]
  rfl
theorem book_f (cs fs : List Int) (v : Value) (s : Int) (hc : cs.length = 16) (hf : fs.length = 16) (n : Nat) (h : n < 16) : (bookCells cs fs v s)[16 + n]? = some (.int .i64 (rd fs n)) := by
  unfold bookCells rd
  rw [List.getElem?_toArray, List.getElem?_append_right (by simp [hc]), List.length_map, hc, Nat.add_sub_cancel_left, List.getElem?_append_left (by simpa [hf] using h), List.getElem?_map, Int.toNat_natCast, List.getD_eq_getElem?_getD, List.getElem?_eq_getElem (by omega)]
  rfl
theorem book_v (cs fs : List Int) (v : Value) (s : Int) (hc : cs.length = 16) (hf : fs.length = 16) : (bookCells cs fs v s)[32]? = some v := by
  unfold bookCells
  rw [List.getElem?_toArray, List.getElem?_append_right (by simp [hc]), List.getElem?_append_right (by simp [hc, hf]), List.length_map, List.length_map, hc, hf]
  rfl
theorem book_s (cs fs : List Int) (v : Value) (s : Int) (hc : cs.length = 16) (hf : fs.length = 16) : (bookCells cs fs v s)[33]? = some (.int .i64 s) := by
  unfold bookCells
  rw [List.getElem?_toArray, List.getElem?_append_right (by simp [hc]), List.getElem?_append_right (by simp [hc, hf]), List.length_map, List.length_map, hc, hf]
  rfl
theorem set_c (cs fs : List Int) (v : Value) (s : Int) (hc : cs.length = 16) (n : Nat) (h : n < 16) (x : Int) : (bookCells cs fs v s).setIfInBounds n (.int .i64 x) = bookCells (cs.set n x) fs v s := by
  unfold bookCells
  rw [List.setIfInBounds_toArray, List.set_append_left _ _ (by simpa [hc] using h), List.map_set]
theorem set_f (cs fs : List Int) (v : Value) (s : Int) (hc : cs.length = 16) (hf : fs.length = 16) (n : Nat) (h : n < 16) (x : Int) : (bookCells cs fs v s).setIfInBounds (16 + n) (.int .i64 x) = bookCells cs (fs.set n x) v s := by
  unfold bookCells
  rw [List.setIfInBounds_toArray, List.set_append_right _ _ (by simp [hc]), List.length_map, hc, Nat.add_sub_cancel_left, List.set_append_left _ _ (by simpa [hf] using h), List.map_set]
theorem set_v (cs fs : List Int) (v : Value) (s : Int) (hc : cs.length = 16) (hf : fs.length = 16) (u : Value) : (bookCells cs fs v s).setIfInBounds 32 u = bookCells cs fs u s := by
  unfold bookCells
  rw [List.setIfInBounds_toArray, List.set_append_right _ _ (by simp [hc]), List.length_map, hc, List.set_append_right _ _ (by simp [hf]), List.length_map, hf]
  rfl
theorem set_s (cs fs : List Int) (v : Value) (s : Int) (hc : cs.length = 16) (hf : fs.length = 16) (x : Int) : (bookCells cs fs v s).setIfInBounds 33 (.int .i64 x) = bookCells cs fs v x := by
  unfold bookCells
  rw [List.setIfInBounds_toArray, List.set_append_right _ _ (by simp [hc]), List.length_map, hc, List.set_append_right _ _ (by simp [hf]), List.length_map, hf]
  rfl
theorem wraps_i64 (n : Int) (h0 : -9223372036854775808 ≤ n) (h1 : n < 9223372036854775808) : IntKind.i64.wrap n = n := by rw [IntKind.wrap_i64]; omega
def cntsTo (l : List Int) (m : Nat) : List Int := (List.range 16).map fun j => if j ≤ m then ((cntN l j : Nat) : Int) else 0
def fstsTo (l : List Int) (m : Nat) : List Int := (List.range 16).map fun j => if j ≤ m then ((firstN l j : Nat) : Int) else 0
theorem rd_range (f : Nat → Int) (j : Nat) (h : j < 16) : rd ((List.range 16).map f) (j : Int) = f j := by
  unfold rd
  rw [Int.toNat_natCast, List.getD_eq_getElem?_getD, List.getElem?_map, List.getElem?_range h]
  rfl
theorem map_set (f : Nat → Int) (j : Nat) (x : Int) : ((List.range 16).map f).set j x = (List.range 16).map (fun i => if i = j then x else f i) := by
  apply List.ext_getElem
  · simp
  · intro i h1 h2
    simp only [List.getElem_set, List.getElem_map, List.getElem_range]
    by_cases h : i = j
    · rw [if_pos h.symm, if_pos h]
    · rw [if_neg (fun e => h e.symm), if_neg h]
theorem first_le (l : List Int) : ∀ m, firstN l m + 2 * l.length ≤ l.length * 2 ^ (m + 1)
  | 0 => by rw [firstN]; omega
  | m + 1 => by
    have ih := first_le l m
    have h : cntN l m ≤ l.length := by
      unfold cntN
      split
      · omega
      · exact List.count_le_length
    rw [firstN, Nat.pow_succ, ← Nat.mul_assoc]
    omega
theorem rank_le (l : List Int) (n : Nat) : ∀ i, rankN l n i ≤ i
  | 0 => Nat.le_refl _
  | i + 1 => by
    have := rank_le l n i
    rw [rankN]
    split <;> omega
theorem cnt_le (l : List Int) (m : Nat) : cntN l m ≤ l.length := by
  unfold cntN
  split
  · omega
  · exact List.count_le_length
theorem full_le (l : List Int) : ∀ m, fullN l m ≤ m * (l.length * 16384)
  | 0 => by rw [fullN]; omega
  | m + 1 => by
    have h1 := full_le l m
    have h2 := cnt_le l (m + 1)
    have h3 : 2 ^ (15 - (m + 1)) ≤ 2 ^ 14 := Nat.pow_le_pow_right (by omega) (by omega)
    have h4 : cntN l (m + 1) * 2 ^ (15 - (m + 1)) ≤ l.length * 16384 := Nat.mul_le_mul h2 h3
    rw [fullN, Nat.add_mul]
    omega
theorem syms_len (l : List Int) : ∀ m, (symsTo l m).length ≤ m * l.length
  | 0 => by rw [symsTo]; simp
  | m + 1 => by
    have h1 := syms_len l m
    have h2 := rank_le l (m + 1) l.length
    rw [symsTo, List.length_append, symsAt_len, Nat.add_mul]
    omega
theorem fsts_step (l : List Int) (m : Nat) : (fstsTo l m).set (m + 1) (2 * (((firstN l m : Nat) : Int) + ((cntN l m : Nat) : Int))) = fstsTo l (m + 1) := by
  unfold fstsTo
  rw [map_set]
  apply List.map_congr_left
  intro j _
  by_cases h : j = m + 1
  · rw [if_pos h, if_pos (by omega), h, firstN]
    omega
  · rw [if_neg h]
    by_cases h2 : j ≤ m
    · rw [if_pos h2, if_pos (by omega)]
    · rw [if_neg h2, if_neg (by omega)]
theorem cnts_start (l : List Int) (m : Nat) : (cntsTo l m).set (m + 1) ((rankN l (m + 1) 0 : Nat) : Int) = cntsTo l m := by
  unfold cntsTo
  rw [map_set]
  apply List.map_congr_left
  intro j _
  by_cases h : j = m + 1
  · rw [if_pos h, if_neg (by omega)]
    rfl
  · rw [if_neg h]
theorem cnts_end (l : List Int) (m : Nat) : (cntsTo l m).set (m + 1) ((rankN l (m + 1) l.length : Nat) : Int) = cntsTo l (m + 1) := by
  unfold cntsTo
  rw [map_set]
  apply List.map_congr_left
  intro j _
  by_cases h : j = m + 1
  · rw [if_pos h, if_pos (by omega), h, rankN_all, cntN, if_neg (by omega)]
  · rw [if_neg h]
    by_cases h2 : j ≤ m
    · rw [if_pos h2, if_pos (by omega)]
    · rw [if_neg h2, if_neg (by omega)]
theorem pow_shr (m : Nat) (h : m ≤ 14) : (32768 : Int) / 2 ^ (m + 1) = ((2 ^ (15 - (m + 1)) : Nat) : Int) := by
  have e : 2 ^ 15 / 2 ^ (m + 1) = 2 ^ (15 - (m + 1)) := Nat.pow_div (by omega) (by omega)
  rw [← e, Int.natCast_ediv]
  simp
theorem cnts_len (l : List Int) (m : Nat) : (cntsTo l m).length = 16 := by unfold cntsTo; simp
theorem fsts_len (l : List Int) (m : Nat) : (fstsTo l m).length = 16 := by unfold fstsTo; simp
theorem rd_setI (xs : List Int) (j : Nat) (x : Int) (h : j < xs.length) : rd (xs.set j x) (j : Int) = x := by
  unfold rd
  rw [Int.toNat_natCast, List.getD_eq_getElem?_getD, List.getElem?_set_self h]
  rfl
set_option maxHeartbeats 2000000 in
set_option maxRecDepth 100000 in
theorem bookOf_calls (A : Option Addr) (c : Nat) (l : List Int) (w : World) (hr : Kd.C (Kd.int .i64) w A l.length l) (hc : l.length ≤ c) (hl : l.length ≤ 1000000) :
    Calls Try.prog 51 #[.slice A l.length c] w fun e w' => ∃ g, e = .returned (.pointer (some ⟨g, 0, none⟩)) ∧ BS w' w.heap.size g (cntsTo l 15) (fstsTo l 15) (symsTo l 15) ((fullN l 15 : Nat) : Int) ∧ Below w.heap.size w w' := by
  have HR := Aside0.mk hr
  have HL := Aside0.mk hl
  clear hr hl
  go_enter Try.func51, Try.ntmps51
  go_wp2_with fail
  go_loopg [4] 15 (fun kq v4 w' => ∃ m : Nat, m + kq = 15 ∧ v4 = .int .i64 ((m : Int) + 1) ∧ Aside0 (BS w' w.heap.size w.heap.size (cntsTo l m) (fstsTo l m) (symsTo l m) ((fullN l m : Nat) : Int)) ∧ Aside0 (Below w.heap.size w w'))
  case atStart => exact ⟨0, by omega, rfl, ⟨rfl, rfl, Nat.le_refl _, .slice none 0 0, blk_new w _, Kd.R_nil _ _ _ _ _⟩, ⟨below_alloc (Below.refl _ _) _⟩⟩
  case round =>
    obtain ⟨m, hm, rfl, HB, HBL⟩ := hrel
    cases gk with
    | zero =>
      have HM := Aside0.mk (show m = 15 by omega)
      have h1 : ¬ ((m : Int) + 1 ≤ 15) := by omega
      have h2 : decide ((m : Int) + 1 ≤ 15) = false := decide_eq_false h1
      have h3 : decide (m + 1 ≤ 15) = false := decide_eq_false (by omega)
      clear hm
      go_wp2
      go_ret
      have e := HM.out
      subst e
      exact ⟨_, rfl, HB.out, HBL.out⟩
    | succ gk0 =>
      have h1 : (m : Int) + 1 ≤ 15 := by omega
      have h2 : decide ((m : Int) + 1 ≤ 15) = true := decide_eq_true h1
      have h3 : decide (m + 1 ≤ 15) = true := decide_eq_true (by omega)
      obtain ⟨hc1, hf1, hg, v, hX, hRv⟩ := HB.out
      have hx1 : wr.cell? ⟨w.heap.size, 16 + m, none⟩ = some (.int .i64 ((firstN l m : Nat) : Int)) := by rw [(blk_cell hX (16 + m)).trans (book_f _ _ _ _ hc1 hf1 m (by omega)), fstsTo, rd_range _ _ (by omega), if_pos (Nat.le_refl _)]
      have hx2 : wr.cell? ⟨w.heap.size, m, none⟩ = some (.int .i64 ((cntN l m : Nat) : Int)) := by rw [(blk_cell hX m).trans (book_c _ _ _ _ hc1 m (by omega)), cntsTo, rd_range _ _ (by omega), if_pos (Nat.le_refl _)]
      have hx3 : wr.cell? ⟨w.heap.size, 16 + (m + 1), none⟩ = some (.int .i64 (rd (fstsTo l m) ((m + 1 : Nat) : Int))) := (blk_cell hX (16 + (m + 1))).trans (book_f _ _ _ _ hc1 hf1 (m + 1) (by omega))
      have hz3 := blk_frozen hX (16 + (m + 1))
      have HX := Aside0.mk hX
      have HRv := Aside0.mk hRv
      have HC1 := Aside0.mk hc1
      have HF1 := Aside0.mk hf1
      have hb1 := first_le l m
      have hb2 := cnt_le l m
      have hb3 : l.length * 2 ^ (m + 1) ≤ 1000000 * 2 ^ 15 := Nat.mul_le_mul HL.out (Nat.pow_le_pow_right (by omega) (by omega))
      have hw1 : IntKind.i64.wrap (((firstN l m : Nat) : Int) + ((cntN l m : Nat) : Int)) = ((firstN l m : Nat) : Int) + ((cntN l m : Nat) : Int) := wraps_i64 _ (by omega) (by omega)
      have hw2 : IntKind.i64.wrap (2 * (((firstN l m : Nat) : Int) + ((cntN l m : Nat) : Int))) = 2 * (((firstN l m : Nat) : Int) + ((cntN l m : Nat) : Int)) := wraps_i64 _ (by omega) (by omega)
      have HW1 := Aside0.mk hw1
      have HW2 := Aside0.mk hw2
      clear hX hRv hc1 hf1 hb1 hb2 hb3 hw1 hw2
      go_wp2_with fail
      have hwm : IntKind.i64.wrap (m : Int) = (m : Int) := wraps_i64 _ (by omega) (by omega)
      have i0 : (0 : Int) ≤ (m : Int) := by omega
      have i1 : (m : Int) < 16 := by omega
      have j0 : (0 : Int) ≤ (m : Int) + 1 := by omega
      have j1 : (m : Int) + 1 < 16 := by omega
      have j2 : ((m : Int) + 1).toNat = m + 1 := by omega
      have hw1 := HW1.out
      have hw2 := HW2.out
      go_still_tail 21, (by kernel_rfl)
      change wpList _ _ _ _ _ wr.drew
      clear hwm hw1 hw2
      go_wp2_with fail
      obtain ⟨W1, hW1⟩ : ∃ W1, W1 = (wr.setCell ⟨w.heap.size, 16 + (m + 1), none⟩ (.int .i64 (2 * (((firstN l m : Nat) : Int) + ((cntN l m : Nat) : Int))))).drew := ⟨_, rfl⟩
      have HX1 : Aside0 (W1.heap[w.heap.size]? = some (.cells (bookCells (cntsTo l m) (fstsTo l (m + 1)) v ((fullN l m : Nat) : Int)) 73 (0, 0))) := ⟨by
        rw [hW1, ← fsts_step]
        exact blk_drew (blk_put HX.out (16 + (m + 1)) _ (set_f _ _ _ _ HC1.out HF1.out (m + 1) (by omega) _))⟩
      have HR1 : Aside0 (Kd.R (Kd.int .i64) 3 W1 w.heap.size (fun _ => True) v (symsTo l m)) := ⟨by rw [hW1]; exact Kd.R_drew (Kd.R_set HRv.out HX.out (by decide) _ _)⟩
      have HL1 : Aside0 (Below w.heap.size w W1) := ⟨by rw [hW1]; exact below_drew (below_set HBL.out (Nat.le_refl _))⟩
      rw [← hW1]
      clear hW1 hx1 hx2 hx3 hz3 HX HRv HC1 HF1 HBL HB HW1 HW2
      have HM := Aside0.mk (show m ≤ 14 by omega)
      have HM0 := Aside0.mk hm
      clear hm h1 h2 h3
      go_loopg [36] l.length (fun kq v36 w' => ∃ (i : Nat) (v : Value), i + kq = l.length ∧ v36 = .int .i64 (i : Int) ∧ Aside0 (w'.heap[w.heap.size]? = some (.cells (bookCells ((cntsTo l m).set (m + 1) ((rankN l (m + 1) i : Nat) : Int)) (fstsTo l (m + 1)) v ((fullN l m + rankN l (m + 1) i * 2 ^ (15 - (m + 1)) : Nat) : Int)) 73 (0, 0))) ∧ Aside0 (Kd.R (Kd.int .i64) 3 w' w.heap.size (fun _ => True) v (symsTo l m ++ symsAt l (m + 1) i)) ∧ Aside0 (Below w.heap.size w w'))
      case atStart => exact ⟨0, v, by omega, rfl, ⟨by rw [cnts_start, rankN, Nat.zero_mul, Nat.add_zero]; exact HX1.out⟩, ⟨by rw [symsAt, List.append_nil]; exact HR1.out⟩, HL1⟩
      case round =>
        clear HX1 HR1 HL1 j1 i1 i0
        obtain ⟨i, v, hi, rfl, HX, HRv, HBL⟩ := hrel
        cases gk with
        | zero =>
          have hlt : decide ((i : Int) < (l.length : Int)) = false := decide_eq_false (by omega)
          have hlt2 : decide (i < l.length) = false := decide_eq_false (by omega)
          have HI := Aside0.mk (show i = l.length by omega)
          have k1 : m ≤ 14 := HM.out
          clear hi
          go_wp2
          go_roundg gk0
          case measure => omega
          case rel =>
            have e := HI.out
            subst e
            refine ⟨m + 1, by have := HM0.out; omega, by go_num, ⟨cnts_len _ _, fsts_len _ _, Nat.le_refl _, v, ?_, HRv.out⟩, HBL⟩
            have h := HX.out
            rw [cnts_end] at h
            have e2 : fullN l (m + 1) = fullN l m + rankN l (m + 1) l.length * 2 ^ (15 - (m + 1)) := by rw [fullN, rankN_all, cntN, if_neg (by omega)]
            rw [e2]
            exact h
        | succ gk =>
          have hlt : decide ((i : Int) < (l.length : Int)) = true := decide_eq_true (by omega)
          have hlt2 : decide (i < l.length) = true := decide_eq_true (by omega)
          have p0 : (0 : Int) ≤ (i : Int) := by omega
          have p1 : (i : Int) < (l.length : Int) := by omega
          have k2 : l.length ≤ 1000000 := HL.out
          have k1 : m ≤ 14 := HM.out
          obtain ⟨ad, rfl, hx0⟩ := Kd.at_int HR.out (i : Int) p0 p1
          replace hx0 := pw_cell_below HBL.out hx0
          rw [Int.toNat_natCast] at hx0
          by_cases he : rd l (i : Int) = ((m + 1 : Nat) : Int)
          · have hd : (rd l (i : Int) == (m : Int) + 1) = true := by simpa using he
            have hcl : ((cntsTo l m).set (m + 1) ((rankN l (m + 1) i : Nat) : Int)).length = 16 := by rw [List.length_set, cnts_len]
            have hfl := fsts_len l (m + 1)
            have hy1 : wr.cell? ⟨w.heap.size, m + 1, none⟩ = some (.int .i64 ((rankN l (m + 1) i : Nat) : Int)) := by rw [(blk_cell HX.out (m + 1)).trans (book_c _ _ _ _ hcl (m + 1) (by omega)), rd_setI _ _ _ (by rw [cnts_len]; omega)]
            have hz1 := blk_frozen HX.out (m + 1)
            have hb1 := rank_le l (m + 1) i
            have hw1 : IntKind.i64.wrap (((rankN l (m + 1) i : Nat) : Int) + 1) = ((rankN l (m + 1) i : Nat) : Int) + 1 := wraps_i64 _ (by omega) (by omega)
            have HW1 := Aside0.mk hw1
            have HE := Aside0.mk he
            have HI := Aside0.mk hi
            have HCL := Aside0.mk hcl
            have HFL := Aside0.mk hfl
            clear he hi hw1 hb1 hcl hfl
            go_wp2_with fail
            have j0 : (0 : Int) ≤ (m : Int) + 1 := by omega
            have j1 : (m : Int) + 1 < 16 := by omega
            have j2 : ((m : Int) + 1).toNat = m + 1 := by omega
            have hw1 := HW1.out
            go_still_tail 10, (by kernel_rfl)
            change wpList _ _ _ _ _ wr.drew
            clear hw1 HW1
            go_upto_region 11 with (fail)
            obtain ⟨W2, hW2⟩ : ∃ W2, W2 = (wr.setCell ⟨w.heap.size, m + 1, none⟩ (.int .i64 (((rankN l (m + 1) i : Nat) : Int) + 1))).drew := ⟨_, rfl⟩
            have e1 : ((rankN l (m + 1) (i + 1) : Nat) : Int) = ((rankN l (m + 1) i : Nat) : Int) + 1 := by rw [rankN, if_pos HE.out]; omega
            have HX2 : Aside0 (W2.heap[w.heap.size]? = some (.cells (bookCells ((cntsTo l m).set (m + 1) ((rankN l (m + 1) (i + 1) : Nat) : Int)) (fstsTo l (m + 1)) v ((fullN l m + rankN l (m + 1) i * 2 ^ (15 - (m + 1)) : Nat) : Int)) 73 (0, 0))) := ⟨by
              rw [hW2, e1]
              have h := blk_drew (blk_put HX.out (m + 1) _ (set_c _ _ _ _ HCL.out (m + 1) (by omega) (((rankN l (m + 1) i : Nat) : Int) + 1)))
              rw [List.set_set] at h
              exact h⟩
            have HR2 : Aside0 (Kd.R (Kd.int .i64) 3 W2 w.heap.size (fun _ => True) v (symsTo l m ++ symsAt l (m + 1) i)) := ⟨by rw [hW2]; exact Kd.R_drew (Kd.R_set HRv.out HX.out (by decide) _ _)⟩
            have HL2 : Aside0 (Below w.heap.size w W2) := ⟨by rw [hW2]; exact below_drew (below_set HBL.out (Nat.le_refl _))⟩
            have hcl2 : ((cntsTo l m).set (m + 1) ((rankN l (m + 1) (i + 1) : Nat) : Int)).length = 16 := by rw [List.length_set, cnts_len]
            have hy2 : W2.cell? ⟨w.heap.size, 32, none⟩ = some v := (blk_cell HX2.out 32).trans (book_v _ _ _ _ hcl2 HFL.out)
            have hw2 := hW2
            rw [← hW2]
            clear hW2 hw2 hy1 hz1 HX HRv HBL hx0 e1
            have HCL2 := Aside0.mk hcl2
            clear hcl2
            go_upto_region 12 with ((with_reducible refine gate_builtin (b := .append) (xs := #[.tmp 58, .tmp 60]) rfl ?_)
                                    at_builtin
                                    refine Kd.R_append (Kd.int .i64) (w0 := w) w.heap.size rfl (.tmp 58) (.tmp 60) 22 3 (.int .i64 0) 8 rfl Try.underlying22 infoI rfl (by decide) (by omega) v (symsTo l m ++ symsAt l (m + 1) i) (i : Int) [.int .i64 (i : Int)] (fun _ => True) (fun _ => False) rfl rfl rfl (fun _ hk => hk.elim) (fun _ _ => trivial) HR2.out HL2.out HL2.out.size ?aL ?_
                                    (case aL =>
                                      have h1 := syms_len l m
                                      have h2 := rank_le l (m + 1) i
                                      have h3 : m * l.length ≤ 14 * 1000000 := Nat.mul_le_mul HM.out HL.out
                                      rw [List.length_append, symsAt_len]
                                      omega)
                                    intro v1 w1 ho hb hgr hat
                                    generalize hsy : (symsTo l m ++ symsAt l (m + 1) i ++ [(i : Int)]) = sy1 at ho
                                    have HSY := Aside0.mk hsy
                                    clear hsy
                                    obtain ⟨A1, c1, hv1⟩ := Kd.R_slice ho
                                    subst hv1
                                    have hX3 := blk_grown HX2.out hgr (Kd.R_ne HR2.out HX2.out (by decide))
                                    have hy3 : w1.cell? ⟨w.heap.size, 32, none⟩ = some v := (blk_cell hX3 32).trans (book_v _ _ _ _ HCL2.out HFL.out)
                                    have hz3 := blk_frozen hX3 32
                                    have HX3 := Aside0.mk hX3
                                    have HR3 := Aside0.mk ho
                                    have HL3 := Aside0.mk hb
                                    clear hX3 ho hb hgr hat)
            obtain ⟨W3, hW3⟩ : ∃ W3, W3 = w1.setCell ⟨w.heap.size, 32, none⟩ (.slice A1 sy1.length c1) := ⟨_, rfl⟩
            have HX4 : Aside0 (W3.heap[w.heap.size]? = some (.cells (bookCells ((cntsTo l m).set (m + 1) ((rankN l (m + 1) (i + 1) : Nat) : Int)) (fstsTo l (m + 1)) (.slice A1 sy1.length c1) ((fullN l m + rankN l (m + 1) i * 2 ^ (15 - (m + 1)) : Nat) : Int)) 73 (0, 0))) := ⟨by
              rw [hW3]
              exact blk_put HX3.out 32 _ (set_v _ _ _ _ HCL2.out HFL.out _)⟩
            have HR4 : Aside0 (Kd.R (Kd.int .i64) 3 W3 w.heap.size (fun _ => True) (.slice A1 sy1.length c1) sy1) := ⟨by rw [hW3]; exact Kd.R_set HR3.out HX3.out (by decide) _ _⟩
            have HL4 : Aside0 (Below w.heap.size w W3) := ⟨by rw [hW3]; exact below_set HL3.out (Nat.le_refl _)⟩
            rw [← hW3]
            clear hW3 hy2 hy3 hz3 HX2 HR2 HL2 HX3 HR3 HL3
            have hy5 : W3.cell? ⟨w.heap.size, 33, none⟩ = some (.int .i64 ((fullN l m + rankN l (m + 1) i * 2 ^ (15 - (m + 1)) : Nat) : Int)) := (blk_cell HX4.out 33).trans (book_s _ _ _ _ HCL2.out HFL.out)
            have hz5 := blk_frozen HX4.out 33
            obtain ⟨S, hS⟩ : ∃ S : Nat, S = fullN l m + rankN l (m + 1) i * 2 ^ (15 - (m + 1)) := ⟨_, rfl⟩
            rw [← hS] at hy5
            have HS := Aside0.mk hS
            clear hS
            go_still_tail 9, (by kernel_rfl)
            change wpList _ _ _ _ _ W3.drew
            go_wp2
            go_roundg gk
            case measure => omega
            case rel =>
              have hq1 := full_le l m
              have hq2 := rank_le l (m + 1) i
              have hq3 : m * (l.length * 16384) ≤ 14 * (1000000 * 16384) := Nat.mul_le_mul HM.out (Nat.mul_le_mul HL.out (Nat.le_refl _))
              have hq4 : 2 ^ (15 - (m + 1)) ≤ 2 ^ 14 := Nat.pow_le_pow_right (by omega) (by omega)
              have hq5 : rankN l (m + 1) i * 2 ^ (15 - (m + 1)) ≤ 1000000 * 2 ^ 14 := Nat.mul_le_mul (by have := HL.out; have := HI.out; omega) hq4
              have hq6 := HS.out
              have hq7 := pow_shr m HM.out
              have hq8 : wrap64 ((S : Int) + 32768 / 2 ^ (m + 1)) = ((fullN l m + rankN l (m + 1) (i + 1) * 2 ^ (15 - (m + 1)) : Nat) : Int) := by
                have e : rankN l (m + 1) (i + 1) = rankN l (m + 1) i + 1 := by rw [rankN, if_pos HE.out]
                have hqA := Nat.le_trans hq1 hq3
                rw [hq7, e, Nat.add_mul, Nat.one_mul]
                clear hq1 hq3 hq7 e
                generalize 2 ^ (15 - (m + 1)) = q at hq4 hq5 hq6 ⊢
                generalize rankN l (m + 1) i * q = z at hq5 hq6 ⊢
                unfold wrap64
                omega
              rw [hq8]
              have e2 : symsTo l m ++ symsAt l (m + 1) (i + 1) = sy1 := by rw [symsAt, if_pos HE.out, ← List.append_assoc]; exact HSY.out
              exact ⟨i + 1, _, by have := HI.out; omega, by go_num, ⟨blk_drew (blk_put HX4.out 33 _ (set_s _ _ _ _ HCL2.out HFL.out _))⟩, ⟨by rw [e2]; exact Kd.R_drew (Kd.R_set HR4.out HX4.out (by decide) _ _)⟩, ⟨below_drew (below_set HL4.out (Nat.le_refl _))⟩⟩
          · have hd : (rd l (i : Int) == (m : Int) + 1) = false := by simpa using he
            have HE := Aside0.mk he
            have HI := Aside0.mk hi
            clear he hi
            go_wp2
            go_roundg gk
            case measure => omega
            case rel =>
              have e1 : rankN l (m + 1) (i + 1) = rankN l (m + 1) i := by rw [rankN, if_neg HE.out]
              have e2 : symsAt l (m + 1) (i + 1) = symsAt l (m + 1) i := by rw [symsAt, if_neg HE.out]
              exact ⟨i + 1, v, by have := HI.out; omega, by go_num, ⟨by rw [e1]; exact HX.out⟩, ⟨by rw [e2]; exact HRv.out⟩, HBL⟩
end Go.Proofs.Ytimomemkbcidnaa.MBook
