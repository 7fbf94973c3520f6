/- The library's slices.Repeat, Grow and Concat over whole numbers, and the program's repeated and FixedLengths. Conditions: what bits.Mul returns; lengths below a bound. -/
import Derived.Test.YtimomemkbcidnaaProg
import Derived.Test.YtimomemkbcidnaaWWords
import Derived.Test.YtimomemkbcidnaaWMore
import Derived.Below
import Derived.OwnWalk
import Derived.Tactics
import Derived.WalkKit
import Derived.KernelRfl
import Derived.RowKit3
import Derived.Deep.LoopGhost
import Derived.Laws.CopyOwn
import Derived.Lib.SliceRun
import Derived.Lib.AppendZerosOnto
import Derived.Lib.Walk
import Derived.Deep.RegionLaw
namespace Go.Proofs.Ytimomemkbcidnaa.MSlices
open Go.RowKit Go.Proofs.YtimomemkbcidnaaW.PrintWords Go.Proofs.YtimomemkbcidnaaW.PrintMore
set_option linter.unusedVariables false
set_option linter.unusedSimpArgs false
theorem infoI : (Try.prog.info? 3).map (fun i => (i.zero, i.size, i.bytes)) = some (some (.int .i64 0), 1, 8) := by kernel_rfl
/-- A row of numbers, and what lies behind it in its block. -/
def RowAt (w : World) (g : Nat) (xs : List Int) (T : List Value) : Prop := w.heap[g]? = some (.cells (xs.map (Value.int .i64) ++ T).toArray 3 (0, 0))
theorem rowAt_R {w : World} {base g cap : Nat} {xs : List Int} {T : List Value} (h : RowAt w g xs T) (hb : base ≤ g) (hc : xs.length + T.length = cap) (hm : cap ≤ maxLen) : Kd.R (Kd.int .i64) 3 w base (fun _ => True) (.slice (some ⟨g, 0, none⟩) xs.length cap) xs := by
  refine Kd.R_of_own (enc := Value.int .i64) (h1 := fun _ => rfl) ⟨by simp [encs], Or.inr ⟨g, cap, _, rfl, hb, h, by omega, hm, by simp; omega, ?_⟩⟩ (fun _ _ => trivial)
  rw [Nat.mul_one, List.take_left' (by simp)]
  rfl
/-- n numbers, of which the first k are v, the others 0. -/
def reps (v : Int) (k n : Nat) : List Int := List.replicate k v ++ List.replicate (n - k) 0
set_option maxHeartbeats 4000000 in
set_option maxRecDepth 100000 in
/-- Room for n numbers, of nothing. -/
theorem Grow_calls (n : Nat) (w : World) (h0 : 0 < n) (h63 : n ≤ 1000000) :
    Calls Try.prog 116 #[.slice none 0 0, .int .i64 n] w fun e w' => ∃ v0 : Value, e = .returned v0 ∧ Kd.R (Kd.int .i64) 3 w' w.heap.size (fun _ => True) v0 [] ∧ Below w.heap.size w w' := by
  have h1 : decide ((n : Int) < 0) = false := decide_eq_false (by omega)
  have h4 : (n : Int) > 0 := by omega
  obtain ⟨i0, hi, hz0, hz1, hz2⟩ := info_parts infoI
  have hrz : ∀ ty, (Builtin.append_ #[22, 3] ty #[.slice none 0 0, .int .i64 (n : Int)]).run Try.prog w =
      .ok (.slice (some ⟨w.heap.size, 0, none⟩) n (grownCap w n 0 3)) (w.drew.alloc (.cells (([] : List Value).toArray ++ Builtin.zeroCells (Value.int .i64 0).cells n ++ Builtin.zeroCells (Value.int .i64 0).cells (grownCap w n 0 3 - n)) 3)) := fun ty => by
    have h := Lib.run_append_grow_zeros w 22 3 ty 3 i0 (.int .i64 0) .i64 .i64 Try.underlying22 Try.underlying3 hi hz0 none 0 0 [] (run_firstCells_none w.drew i0.size 0 0 0) n h0 (by rw [hz1]; decide) (by omega) (by omega) (by rw [hz2]; omega)
      (growslice_fits (by omega) (by rw [hz2]; omega))
    rw [Nat.zero_add] at h
    exact h
  have hGn : n ≤ grownCap w n 0 3 := grownCap_ge w _ _ _
  have hGm : grownCap w n 0 3 ≤ maxLen := grownCap_le_maxLen w n 0 3 (by unfold maxLen; omega)
  obtain ⟨G, hG⟩ : ∃ G, G = grownCap w n 0 3 := ⟨_, rfl⟩
  rw [← hG] at hrz hGn hGm
  have hG63 : G ≤ 9223372036854775807 := by unfold maxLen at hGm; omega
  have HGm := Aside0.mk hGm
  clear hG hi hz0 hz1 hz2 hGm
  go_enter Try.func116, Try.ntmps116
  go_wp2_with (at_builtin; refine Lib.wpList_append_run _ rfl _ _ _ _ rfl _ _ rfl rfl _ _ (hrz _) ?_)
  all_goals (go_ret; refine ⟨_, rfl, ?_, below_drew (below_alloc (Below.refl _ _) _)⟩)
  refine Kd.R_drew ?_
  refine rowAt_R (xs := []) (T := (Builtin.zeroCells #[Value.int IntKind.i64 0] n ++ Builtin.zeroCells #[Value.int IntKind.i64 0] (G - n)).toList) (cap := G) ?_ (Nat.le_refl _) ?_ HGm.out
  · unfold RowAt
    rw [blk_new]
    simp
  · have e := @Array.length_toList _ (Builtin.zeroCells #[Value.int IntKind.i64 0] n ++ Builtin.zeroCells #[Value.int IntKind.i64 0] (G - n))
    rw [Array.size_append, size_zeroCells, size_zeroCells] at e
    have e2 : (#[Value.int IntKind.i64 0] : Array Value).size = 1 := rfl
    rw [e2] at e
    have e3 : ([] : List Int).length = 0 := rfl
    omega
/-- What the rows hold, one behind the other. -/
def joined : List (List Int) → List Int
  | [] => []
  | x :: l => x ++ joined l
def sumLen : List (List Int) → Nat
  | [] => 0
  | x :: l => x.length + sumLen l
theorem sumLen_drop : ∀ (l : List (List Int)) (j : Nat), sumLen (l.take j) + sumLen (l.drop j) = sumLen l
  | [], j => by simp [sumLen]
  | x :: l, 0 => by simp [sumLen]
  | x :: l, j + 1 => by
    have := sumLen_drop l j
    simp only [List.take_succ_cons, List.drop_succ_cons, sumLen]
    omega
theorem joined_len : ∀ l : List (List Int), (joined l).length = sumLen l
  | [] => rfl
  | x :: l => by rw [joined, List.length_append, joined_len l, sumLen]
theorem sumLen_snoc : ∀ (l : List (List Int)) (x : List Int), sumLen (l ++ [x]) = sumLen l + x.length
  | [], x => by simp [sumLen]
  | y :: l, x => by
    have := sumLen_snoc l x
    simp only [List.cons_append, sumLen]
    omega
theorem joined_snoc : ∀ (l : List (List Int)) (x : List Int), joined (l ++ [x]) = joined l ++ x
  | [], x => by simp [joined]
  | y :: l, x => by
    have := joined_snoc l x
    simp only [List.cons_append, joined, this, List.append_assoc]
/-- Cell j of the row of rows, and the row that it names. -/
def RowOf (w : World) (A : Option Addr) (j : Nat) (xs : List Int) : Prop := ∃ ad B c, A = some ad ∧ w.cell? (ad.add j) = some (.slice B xs.length c) ∧ Kd.C (Kd.int .i64) w B xs.length xs
set_option maxHeartbeats 4000000 in
set_option maxRecDepth 100000 in
theorem Concat_calls (w : World) (A : Option Addr) (c : Nat) (l : List (List Int)) (hl : l.length ≤ 100) (hr : ∀ j xs, l[j]? = some xs → RowOf w A j xs) (hs : 0 < sumLen l) (hs2 : sumLen l ≤ 1000000) :
    Calls Try.prog 101 #[.slice A l.length c] w fun e w' => ∃ v0 : Value, e = .returned v0 ∧ Kd.R (Kd.int .i64) 3 w' w.heap.size (fun _ => True) v0 (joined l) ∧ Below w.heap.size w w' := by
  have HR := Aside0.mk hr
  clear hr
  go_enter Try.func101, Try.ntmps101
  go_wp2_with fail
  go_loopg [3, 11] l.length (fun kq v3 v11 w' => ∃ j : Nat, j + kq = l.length ∧ v11 = .int .i64 (j : Int) ∧ v3 = .int .i64 ((sumLen (l.take j) : Nat) : Int) ∧ w' = w)
  case atStart => exact ⟨0, by omega, rfl, rfl, rfl⟩
  case round =>
    obtain ⟨j, hj, rfl, rfl, rfl⟩ := hrel
    cases gk with
    | succ gk =>
      have e1 : decide (j < l.length) = true := decide_eq_true (by omega)
      have e2 : decide ((j : Int) < (l.length : Int)) = true := decide_eq_true (by omega)
      have j0 : (0 : Int) ≤ (j : Int) := by omega
      have j1 : (j : Int) < (l.length : Int) := by omega
      have hsum := sumLen_drop l j
      have hx : l[j]? = some (l[j]'(by omega)) := List.getElem?_eq_getElem (by omega)
      generalize l[j]'(by omega) = xs at hx
      obtain ⟨ad, B, cb, hA, hcell, hC⟩ := HR.out j xs hx
      have htk : l.take (j + 1) = l.take j ++ [xs] := by rw [List.take_add_one, hx]; rfl
      have hs3 := sumLen_snoc (l.take j) xs
      rw [← htk] at hs3
      have hs4 := sumLen_drop l (j + 1)
      generalize sumLen (l.take j) = S at hs3 hsum
      have b1 : (0 : Int) ≤ ((S : Nat) : Int) := by omega
      have b2 : ((S : Nat) : Int) + (xs.length : Int) ≤ 1000000 := by omega
      have d1 : decide (((S : Nat) : Int) + (xs.length : Int) < 0) = false := decide_eq_false (by omega)
      have HS3 := Aside0.mk hs3
      subst hA
      clear hsum hx hC htk hs3 hs4
      go_wp2_with fail
      go_roundg gk
      case measure => omega
      case rel => exact ⟨j + 1, by omega, by go_num, by rw [HS3.out]; go_num, rfl⟩
    | zero =>
      have e1 : decide (j < l.length) = false := decide_eq_false (by omega)
      have e2 : decide ((j : Int) < (l.length : Int)) = false := decide_eq_false (by omega)
      have htk : l.take j = l := List.take_of_length_le (by omega)
      rw [htk]
      clear htk hj
      go_wp2_with fail
      obtain ⟨wo, rfl⟩ : ∃ wo : World, wo = wr := ⟨_, rfl⟩
      refine (Grow_calls (sumLen l) _ hs hs2).mono ?_
      rintro e w1 ⟨v0, rfl, hR, hB⟩
      have HO := Aside0.mk hR
      have HB := Aside0.mk hB
      clear hR hB
      go_wp2_with fail
      go_loopg [6, 27] l.length (fun kq v6 v27 w' => ∃ (i : Nat) (v : Value), i + kq = l.length ∧ v27 = .int .i64 (i : Int) ∧ v6 = v ∧ Aside0 (Kd.R (Kd.int .i64) 3 w' wo.heap.size (fun _ => True) v (joined (l.take i))) ∧ Aside0 (Below wo.heap.size wo w'))
      case atStart => exact ⟨0, v0, by omega, rfl, rfl, HO, HB⟩
      case round =>
        clear HO HB
        obtain ⟨i, v, hi, rfl, rfl, HO, HB⟩ := hrel
        cases gk with
        | zero =>
          have f1 : decide (i < l.length) = false := decide_eq_false (by omega)
          have f2 : decide ((i : Int) < (l.length : Int)) = false := decide_eq_false (by omega)
          have htk : l.take i = l := List.take_of_length_le (by omega)
          rw [htk] at HO
          clear htk hi e1 e2
          go_wp2
          go_ret
          exact ⟨_, rfl, HO.out, HB.out⟩
        | succ gk =>
          have f1 : decide (i < l.length) = true := decide_eq_true (by omega)
          have f2 : decide ((i : Int) < (l.length : Int)) = true := decide_eq_true (by omega)
          have j0 : (0 : Int) ≤ (i : Int) := by omega
          have j1 : (i : Int) < (l.length : Int) := by omega
          have hsum := sumLen_drop l (i + 1)
          have hx : l[i]? = some (l[i]'(by omega)) := List.getElem?_eq_getElem (by omega)
          generalize l[i]'(by omega) = xs at hx
          obtain ⟨ad, B, cb, hA, hcell, hC⟩ := HR.out i xs hx
          have htk : l.take (i + 1) = l.take i ++ [xs] := by rw [List.take_add_one, hx]; rfl
          have hs3 := sumLen_snoc (l.take i) xs
          rw [← htk] at hs3
          have hjl := joined_len (l.take i)
          have hjs := joined_snoc (l.take i) xs
          rw [← htk] at hjs
          have HL := Aside0.mk (show ((joined (l.take i)).length + xs.length) * 8 ≤ 140737488355328 by omega)
          have HJ := Aside0.mk hjs
          have HC := Aside0.mk (Kd.C_below hC HB.out)
          have HSZ := Aside0.mk HB.out.size
          subst hA
          replace hcell := pw_cell_below HB.out hcell
          have HI := Aside0.mk hi
          clear hsum hx hC htk hs3 hjl hjs e1 e2 hi
          go_wp2_with (first
            | ((with_reducible refine gate_dst (N := 33) rfl ?_)
               refine Kd.R_append_row (Value.int .i64) (0 : Int) wo.heap.size rfl (.tmp 31) (.tmp 32) 22 3 (.int .i64 0) 8 rfl Try.underlying22 infoI rfl (by decide) _ _ xs B xs.length cb (fun _ => True) rfl rfl (fun _ _ => trivial) HO.out HC.out HB.out HSZ.out HL.out ?_
               intro v1 w2 hO2 hB2 hg2 hat2
               have HO2 := Aside0.mk hO2
               have HB2 := Aside0.mk hB2
               clear hO2 hB2 hg2 hat2 HO HB HC HSZ HL hcell))
          go_roundg gk
          case measure => omega
          case rel => exact ⟨i + 1, v1, by have := HI.out; omega, by go_num, rfl, ⟨by rw [HJ.out]; exact HO2.out⟩, HB2⟩
/-- The two lists of the fixed code. -/
def fixed1 : List Int := List.replicate 144 8 ++ (List.replicate 112 9 ++ (List.replicate 24 7 ++ (List.replicate 8 8 ++ [])))
def fixed2 : List Int := List.replicate 32 5
def MulAt (n : Nat) : Prop := ∀ w, Calls Try.prog 121 #[.int .u64 1, .int .u64 n] w fun e w' => e = .returned (.tuple #[.int .u64 0, .int .u64 n]) ∧ Drawn0 w w'
end Go.Proofs.Ytimomemkbcidnaa.MSlices
