/- The library's slices.Repeat, Grow and Concat over whole numbers, and the program's repeated and FixedLengths. Conditions: what bits.Mul returns; lengths below a bound. -/
import Derived.Test.YtimomemkbcidnaaProg
import Derived.Test.YtimomemkbcidnaaWWords
import Derived.Test.YtimomemkbcidnaaWMore
import Derived.Below
import Derived.OwnWalk
import Derived.Tactics
import Derived.WalkKit
import Derived.KernelRfl
import Derived.RowKit3
import Derived.Deep.LoopGhost
import Derived.Laws.CopyOwn
import Derived.Lib.SliceRun
import Derived.Lib.AppendZerosOnto
import Derived.Lib.Walk
import Derived.Deep.RegionLaw
namespace Go.Proofs.Ytimomemkbcidnaa.MSlices
open Go.RowKit Go.Proofs.YtimomemkbcidnaaW.PrintWords Go.Proofs.YtimomemkbcidnaaW.PrintMore
set_option linter.unusedVariables false
set_option linter.unusedSimpArgs false
theorem infoI : (Try.prog.info? 3).map (fun i => (i.zero, i.size, i.bytes)) = some (some (.int .i64 0), 1, 8) := by kernel_rfl
theorem sizeI : (Try.prog.info? 3).map (·.size) = some 1 := by kernel_rfl
/-- A row of numbers, and what lies behind it in its block. -/
def RowAt (w : World) (g : Nat) (xs : List Int) (T : List Value) : Prop := w.heap[g]? = some (.cells (xs.map (Value.int .i64) ++ T).toArray 3 (0, 0))
theorem rowAt_R {w : World} {base g cap : Nat} {xs : List Int} {T : List Value} (h : RowAt w g xs T) (hb : base ≤ g) (hc : xs.length + T.length = cap) (hm : cap ≤ maxLen) : Kd.R (Kd.int .i64) 3 w base (fun _ => True) (.slice (some ⟨g, 0, none⟩) xs.length cap) xs := by
  refine Kd.R_of_own (enc := Value.int .i64) (h1 := fun _ => rfl) ⟨by simp [encs], Or.inr ⟨g, cap, _, rfl, hb, h, by omega, hm, by simp; omega, ?_⟩⟩ (fun _ _ => trivial)
  rw [Nat.mul_one, List.take_left' (by simp)]
  rfl
theorem R_rowAt {w : World} {base : Nat} {ok : Nat → Prop} {v : Value} {xs : List Int} (h : Kd.R (Kd.int .i64) 3 w base ok v xs) (hp : 0 < xs.length) : ∃ g cap T, v = .slice (some ⟨g, 0, none⟩) xs.length cap ∧ base ≤ g ∧ g < w.heap.size ∧ RowAt w g xs T ∧ xs.length + T.length = cap ∧ cap ≤ maxLen := by
  have ho := Kd.own_of_R (enc := Value.int .i64) (h1 := fun _ => rfl) h
  obtain ⟨h1, h2⟩ := ho
  rcases h2 with ⟨_, h3⟩ | ⟨g, cap, cur, hv, hb, hg, hn, hm, hs, ht⟩
  · omega
  · refine ⟨g, cap, cur.toList.drop xs.length, hv, hb, ?_, ?_, ?_, hm⟩
    · exact blk_lt hg
    · unfold RowAt
      rw [hg]
      have e : (xs.map (Value.int .i64) ++ cur.toList.drop xs.length) = cur.toList := by
        rw [Nat.mul_one] at ht
        have : xs.map (Value.int .i64) = cur.toList.take xs.length := ht.symm
        rw [this, List.take_append_drop]
      rw [e]
    · have e2 : cur.toList.length = cur.size := Array.length_toList
      rw [List.length_drop, e2]
      omega
theorem rowAt_cell {w : World} {g : Nat} {xs : List Int} {T : List Value} (h : RowAt w g xs T) (j : Nat) (hj : j < xs.length) : w.cell? ⟨g, j, none⟩ = some (.int .i64 (rd xs (j : Int))) := by
  rw [blk_cell h j]
  have e : rd xs (j : Int) = xs[j] := by unfold rd; rw [Int.toNat_natCast, List.getD_eq_getElem?_getD, List.getElem?_eq_getElem hj]; rfl
  rw [e]
  simp [List.getElem?_append_left, hj]
theorem int_one (xs : List Int) : ∀ v ∈ xs.map (Value.int .i64), v.oneCell' = true := fun v hv => by
  obtain ⟨x, _, rfl⟩ := List.mem_map.1 hv
  rfl
/-- n numbers, of which the first k are v, the others 0. -/
def reps (v : Int) (k n : Nat) : List Int := List.replicate k v ++ List.replicate (n - k) 0
theorem reps_len (v : Int) (k n : Nat) (h : k ≤ n) : (reps v k n).length = n := by unfold reps; simp; omega
theorem reps_rd (v : Int) (k n j : Nat) (h : j < k) : rd (reps v k n) (j : Int) = v := by
  unfold rd reps
  rw [Int.toNat_natCast, List.getD_eq_getElem?_getD, List.getElem?_append_left (by rw [List.length_replicate]; exact h), List.getElem?_replicate, if_pos h]
  rfl
theorem reps_cells {w : World} {g : Nat} {v : Int} {k n m : Nat} {T : List Value} (h : RowAt w g (reps v k n) T) (hk : k ≤ n) (hm : m ≤ k) : ∀ j u, (List.map (Value.int .i64) (List.replicate m v))[j]? = some u → w.cell? ((⟨g, 0, none⟩ : Addr).add j) = some u := by
  intro j u hj
  have hl := (List.getElem?_eq_some_iff.1 hj).1
  rw [List.length_map, List.length_replicate] at hl
  have e1 : (⟨g, 0, none⟩ : Addr).add j = ⟨g, j, none⟩ := by simp [Addr.add]; intro h; exact h.symm
  rw [e1, rowAt_cell h j (by rw [reps_len v k n hk]; omega), reps_rd v k n j (by omega), ← hj, List.getElem?_map, List.getElem?_replicate, if_pos hl]
  rfl
theorem splice_reps (v : Int) (k m n : Nat) (T : List Value) (h : k + m ≤ n) : splice ((reps v k n).map (Value.int .i64) ++ T) k ((List.replicate m v).map (Value.int .i64)) = (reps v (k + m) n).map (Value.int .i64) ++ T := by
  unfold splice reps
  rw [List.map_append, List.map_append, List.append_assoc, List.append_assoc, List.take_left' (by simp), List.length_map, List.length_replicate, List.drop_append, List.drop_eq_nil_of_le (by simp), List.nil_append, List.length_map, List.length_replicate,
    show k + m - k = m by omega, List.drop_append, List.length_map, List.length_replicate, show m - (n - k) = 0 by omega, List.drop_zero, ← List.map_drop, List.drop_replicate, show n - k - m = n - (k + m) by omega, ← List.append_assoc, ← List.map_append, List.replicate_append_replicate]
set_option maxHeartbeats 1000000 in
set_option maxRecDepth 100000 in
theorem Repeat_calls (w : World) (A : Option Addr) (c : Nat) (v : Int) (n : Nat) (h1 : Kd.C (Kd.int .i64) w A 1 [v]) (hn : 1 ≤ n) (hn2 : n ≤ 100000)
    (hmul : ∀ w, Calls Try.prog 121 #[.int .u64 1, .int .u64 n] w fun e w' => e = .returned (.tuple #[.int .u64 0, .int .u64 n]) ∧ Drawn0 w w') :
    Calls Try.prog 118 #[.slice A 1 c, .int .i64 n] w fun e w' => ∃ v0 : Value, e = .returned v0 ∧ Kd.R (Kd.int .i64) 3 w' w.heap.size (fun _ => True) v0 (List.replicate n v) ∧ Below w.heap.size w w' := by
  obtain ⟨ad, rfl, hx⟩ := Kd.at_int h1 0 (by omega) (by omega)
  have hx : w.cell? (ad.add 0) = some (.int .i64 v) := hx
  have HX := Aside0.mk hx
  have HM := Aside0.mk hmul
  clear h1 hmul hx
  have n0 : (0 : Int) ≤ (n : Int) := by omega
  have d1 : decide ((n : Int) < 0) = false := decide_eq_false (by omega)
  have d2 : decide ((9223372036854775807 : Int) < (n : Int)) = false := decide_eq_false (by omega)
  go_enter Try.func118, Try.ntmps118
  go_wp2_with fail
  refine (HM.out _).mono ?_
  rintro e w1 ⟨rfl, hd⟩
  have HB1 := Aside0.mk hd.below
  clear hd
  have hb : (n : Int).toNat * 8 ≤ 281474976710656 := by omega
  go_wp2_with (first
    | ((with_reducible refine gate_dst (N := 30) rfl ?_)
       refine Kd.R_make (Kd.int .i64) _ 3 rfl (N := 30) rfl 22 _ _ rfl (n : Int) rfl rfl Try.underlying22 (.int .i64 0) 8 infoI rfl (by decide) (by omega) 0 (ok := fun _ => True) (okp := fun _ => True) rfl (fun _ hk => hk) trivial n0 hb HB1.out HB1.out.size ?_
       intro v1 w2 ho hB hg hnew
       obtain ⟨g, cap, T, hv1, hg1, hg2, hrow, hcap1, hcap2⟩ := R_rowAt ho (by simp; omega)
       subst hv1
       rw [Int.toNat_natCast] at hrow hcap1
       rw [List.length_replicate] at hcap1
       have HRow := Aside0.mk hrow
       have HB2 := Aside0.mk hB
       have HG := Aside0.mk hg1
       clear ho hB hg hnew hrow hg1 hg2 HB1)
    | ((with_reducible refine gate_dst (N := 33) rfl ?_)
       refine wpList_copy_splice rfl (.tmp 31) (.tmp 32) 22 22 rfl 3 Try.underlying22 sizeI _ _ _ _ _ _ rfl rfl g 0 ((reps v 0 n).map (Value.int .i64) ++ T) 3 ?g1 ((List.replicate 1 v).map (Value.int .i64)) ?g2 ?g3 ?g4 (int_one _) w.heap.size w HB2.out HG.out ?_
       (case g1 => (unfold reps; rw [List.replicate_zero, List.nil_append, Nat.sub_zero]; exact HRow.out))
       (case g2 => (rw [List.length_map, List.length_replicate]; exact (Nat.min_eq_left hn).symm))
       (case g3 => exact fun _ => ⟨rfl, ad, rfl, fun j u hj => by
         have : j = 0 := by
           have := (List.getElem?_eq_some_iff.1 hj).1
           simp at this
           exact this
         subst this
         simp at hj
         rw [← hj]
         exact pw_cell_below HB2.out HX.out⟩)
       (case g4 => (rw [List.length_append, List.length_map, List.length_map, reps_len v 0 n (by omega), List.length_replicate]; omega))
       intro w3 HG3 hB3
       have HRow3 := Aside0.mk (show RowAt w3 g (reps v 1 n) T from by have h := HG3.out; rw [splice_reps v 0 1 n T (by omega)] at h; exact h)
       have HB3 := Aside0.mk hB3
       clear HG3 hB3 HB2 HRow))
  go_loopg [8] n (fun kq v8 w' => ∃ k : Nat, 1 ≤ k ∧ k ≤ n ∧ n - k ≤ kq ∧ v8 = .int .i64 (k : Int) ∧ Aside0 (RowAt w' g (reps v k n) T) ∧ Aside0 (Below w.heap.size w w'))
  case atStart => exact ⟨1, by omega, by omega, by omega, rfl, HRow3, HB3⟩
  case round =>
    clear HRow3 HB3 HM HX hx
    obtain ⟨k, hk1, hk2, hk3, rfl, HRow, HB⟩ := hrel
    by_cases hlt : k < n
    · obtain ⟨gq, rfl⟩ : ∃ q, gk = q + 1 := ⟨gk - 1, by omega⟩
      have e1 : decide (k < n) = true := decide_eq_true hlt
      have e2 : decide ((k : Int) < (n : Int)) = true := decide_eq_true (by omega)
      have k0 : (0 : Int) ≤ (k : Int) := by omega
      have k1 : (k : Int) ≤ (n : Int) := by omega
      have k2 : (n : Int) ≤ (cap : Int) := by omega
      have k3 : (k : Int) ≤ (cap : Int) := by omega
      have k4 : ¬ cap = k := by omega
      obtain ⟨m, hm⟩ : ∃ m, m = min k (n - k) := ⟨_, rfl⟩
      have m1 : m ≤ k := by omega
      have m2 : k + m ≤ n := by omega
      have m3 : 1 ≤ m := by omega
      have HMin := Aside0.mk hm
      have HC := Aside0.mk (reps_cells HRow.out hk2 m1)
      clear hm
      go_wp2_with fail
      go_region_law (
        refine step_copy_splice rfl (.tmp 41) (.tmp 44) 22 22 rfl 3 Try.underlying22 sizeI (some ⟨g, k, none⟩) (some ⟨g, 0, none⟩) (n - k) (cap - k) k cap (by simp [Act.eval, Act.put, k4]) (by simp [Act.eval, Act.put]) g k ((reps v k n).map (Value.int .i64) ++ T) 3 HRow.out ((List.replicate m v).map (Value.int .i64)) (by rw [List.length_map, List.length_replicate]; exact HMin.out) (fun _ => ⟨rfl, ⟨g, 0, none⟩, rfl, HC.out⟩) (by rw [List.length_append, List.length_map, List.length_map, reps_len v k n hk2, List.length_replicate]; omega) (int_one _) w.heap.size w (below_drew HB.out) HG.out ?_
        intro w4 HG4 hB4)
      have HRow4 := Aside0.mk (show RowAt w4 g (reps v (k + m) n) T from by have h := HG4.out; rw [splice_reps v k m n T m2] at h; exact h)
      have HB4 := Aside0.mk hB4
      clear HG4 hB4 HB HRow HC
      go_wp2
      go_roundg gq
      case measure => omega
      case rel =>
        refine ⟨k + m, by omega, by omega, by omega, ?_, HRow4, HB4⟩
        simp
        rw [IntKind.wrap_i64]
        omega
    · obtain rfl : k = n := by omega
      have e1 : decide (k < k) = false := decide_eq_false (by omega)
      have e2 : decide ((k : Int) < (k : Int)) = false := decide_eq_false (by omega)
      go_wp2
      go_ret
      refine ⟨_, rfl, ?_, HB.out⟩
      have h := HRow.out
      unfold reps at h
      rw [Nat.sub_self, List.replicate_zero, List.append_nil] at h
      have h2 := rowAt_R (cap := cap) h HG.out (by rw [List.length_replicate]; exact hcap1) hcap2
      rw [List.length_replicate] at h2
      exact h2
set_option maxHeartbeats 4000000 in
set_option maxRecDepth 100000 in
/-- Room for n numbers, of nothing. -/
theorem Grow_calls (n : Nat) (w : World) (h0 : 0 < n) (h63 : n ≤ 1000000) :
    Calls Try.prog 116 #[.slice none 0 0, .int .i64 n] w fun e w' => ∃ v0 : Value, e = .returned v0 ∧ Kd.R (Kd.int .i64) 3 w' w.heap.size (fun _ => True) v0 [] ∧ Below w.heap.size w w' := by
  have h1 : decide ((n : Int) < 0) = false := decide_eq_false (by omega)
  have h4 : (n : Int) > 0 := by omega
  obtain ⟨i0, hi, hz0, hz1, hz2⟩ := info_parts infoI
  have hrz : ∀ ty, (Builtin.append_ #[22, 3] ty #[.slice none 0 0, .int .i64 (n : Int)]).run Try.prog w =
      .ok (.slice (some ⟨w.heap.size, 0, none⟩) n (grownCap w n 0 3)) (w.drew.alloc (.cells (([] : List Value).toArray ++ Builtin.zeroCells (Value.int .i64 0).cells n ++ Builtin.zeroCells (Value.int .i64 0).cells (grownCap w n 0 3 - n)) 3)) := fun ty => by
    have h := Lib.run_append_grow_zeros w 22 3 ty 3 i0 (.int .i64 0) .i64 .i64 Try.underlying22 Try.underlying3 hi hz0 none 0 0 [] (run_firstCells_none w.drew i0.size 0 0 0) n h0 (by rw [hz1]; decide) (by omega) (by omega) (by rw [hz2]; omega)
      (growslice_fits (by omega) (by rw [hz2]; omega))
    rw [Nat.zero_add] at h
    exact h
  have hGn : n ≤ grownCap w n 0 3 := grownCap_ge w _ _ _
  have hGm : grownCap w n 0 3 ≤ maxLen := grownCap_le_maxLen w n 0 3 (by unfold maxLen; omega)
  obtain ⟨G, hG⟩ : ∃ G, G = grownCap w n 0 3 := ⟨_, rfl⟩
  rw [← hG] at hrz hGn hGm
  have hG63 : G ≤ 9223372036854775807 := by unfold maxLen at hGm; omega
  have HGm := Aside0.mk hGm
  clear hG hi hz0 hz1 hz2 hGm
  go_enter Try.func116, Try.ntmps116
  go_wp2_with (at_builtin; refine Lib.wpList_append_run _ rfl _ _ _ _ rfl _ _ rfl rfl _ _ (hrz _) ?_)
  all_goals (go_ret; refine ⟨_, rfl, ?_, below_drew (below_alloc (Below.refl _ _) _)⟩)
  refine Kd.R_drew ?_
  refine rowAt_R (xs := []) (T := (Builtin.zeroCells #[Value.int IntKind.i64 0] n ++ Builtin.zeroCells #[Value.int IntKind.i64 0] (G - n)).toList) (cap := G) ?_ (Nat.le_refl _) ?_ HGm.out
  · unfold RowAt
    rw [blk_new]
    simp
  · have e := @Array.length_toList _ (Builtin.zeroCells #[Value.int IntKind.i64 0] n ++ Builtin.zeroCells #[Value.int IntKind.i64 0] (G - n))
    rw [Array.size_append, size_zeroCells, size_zeroCells] at e
    have e2 : (#[Value.int IntKind.i64 0] : Array Value).size = 1 := rfl
    rw [e2] at e
    have e3 : ([] : List Int).length = 0 := rfl
    omega
/-- What the rows hold, one behind the other. -/
def joined : List (List Int) → List Int
  | [] => []
  | x :: l => x ++ joined l
def sumLen : List (List Int) → Nat
  | [] => 0
  | x :: l => x.length + sumLen l
theorem sumLen_drop : ∀ (l : List (List Int)) (j : Nat), sumLen (l.take j) + sumLen (l.drop j) = sumLen l
  | [], j => by simp [sumLen]
  | x :: l, 0 => by simp [sumLen]
  | x :: l, j + 1 => by
    have := sumLen_drop l j
    simp only [List.take_succ_cons, List.drop_succ_cons, sumLen]
    omega
theorem joined_len : ∀ l : List (List Int), (joined l).length = sumLen l
  | [] => rfl
  | x :: l => by rw [joined, List.length_append, joined_len l, sumLen]
theorem sumLen_snoc : ∀ (l : List (List Int)) (x : List Int), sumLen (l ++ [x]) = sumLen l + x.length
  | [], x => by simp [sumLen]
  | y :: l, x => by
    have := sumLen_snoc l x
    simp only [List.cons_append, sumLen]
    omega
theorem joined_snoc : ∀ (l : List (List Int)) (x : List Int), joined (l ++ [x]) = joined l ++ x
  | [], x => by simp [joined]
  | y :: l, x => by
    have := joined_snoc l x
    simp only [List.cons_append, joined, this, List.append_assoc]
/-- Cell j of the row of rows, and the row that it names. -/
def RowOf (w : World) (A : Option Addr) (j : Nat) (xs : List Int) : Prop := ∃ ad B c, A = some ad ∧ w.cell? (ad.add j) = some (.slice B xs.length c) ∧ Kd.C (Kd.int .i64) w B xs.length xs
set_option maxHeartbeats 4000000 in
set_option maxRecDepth 100000 in
theorem Concat_calls (w : World) (A : Option Addr) (c : Nat) (l : List (List Int)) (hl : l.length ≤ 100) (hr : ∀ j xs, l[j]? = some xs → RowOf w A j xs) (hs : 0 < sumLen l) (hs2 : sumLen l ≤ 1000000) :
    Calls Try.prog 101 #[.slice A l.length c] w fun e w' => ∃ v0 : Value, e = .returned v0 ∧ Kd.R (Kd.int .i64) 3 w' w.heap.size (fun _ => True) v0 (joined l) ∧ Below w.heap.size w w' := by
  have HR := Aside0.mk hr
  clear hr
  go_enter Try.func101, Try.ntmps101
  go_wp2_with fail
  go_loopg [3, 11] l.length (fun kq v3 v11 w' => ∃ j : Nat, j + kq = l.length ∧ v11 = .int .i64 (j : Int) ∧ v3 = .int .i64 ((sumLen (l.take j) : Nat) : Int) ∧ w' = w)
  case atStart => exact ⟨0, by omega, rfl, rfl, rfl⟩
  case round =>
    obtain ⟨j, hj, rfl, rfl, rfl⟩ := hrel
    cases gk with
    | succ gk =>
      have e1 : decide (j < l.length) = true := decide_eq_true (by omega)
      have e2 : decide ((j : Int) < (l.length : Int)) = true := decide_eq_true (by omega)
      have j0 : (0 : Int) ≤ (j : Int) := by omega
      have j1 : (j : Int) < (l.length : Int) := by omega
      have hsum := sumLen_drop l j
      have hx : l[j]? = some (l[j]'(by omega)) := List.getElem?_eq_getElem (by omega)
      generalize l[j]'(by omega) = xs at hx
      obtain ⟨ad, B, cb, hA, hcell, hC⟩ := HR.out j xs hx
      have htk : l.take (j + 1) = l.take j ++ [xs] := by rw [List.take_add_one, hx]; rfl
      have hs3 := sumLen_snoc (l.take j) xs
      rw [← htk] at hs3
      have hs4 := sumLen_drop l (j + 1)
      generalize sumLen (l.take j) = S at hs3 hsum
      have b1 : (0 : Int) ≤ ((S : Nat) : Int) := by omega
      have b2 : ((S : Nat) : Int) + (xs.length : Int) ≤ 1000000 := by omega
      have d1 : decide (((S : Nat) : Int) + (xs.length : Int) < 0) = false := decide_eq_false (by omega)
      have HS3 := Aside0.mk hs3
      subst hA
      clear hsum hx hC htk hs3 hs4
      go_wp2_with fail
      go_roundg gk
      case measure => omega
      case rel => exact ⟨j + 1, by omega, by go_num, by rw [HS3.out]; go_num, rfl⟩
    | zero =>
      have e1 : decide (j < l.length) = false := decide_eq_false (by omega)
      have e2 : decide ((j : Int) < (l.length : Int)) = false := decide_eq_false (by omega)
      have htk : l.take j = l := List.take_of_length_le (by omega)
      rw [htk]
      clear htk hj
      go_wp2_with fail
      obtain ⟨wo, rfl⟩ : ∃ wo : World, wo = wr := ⟨_, rfl⟩
      refine (Grow_calls (sumLen l) _ hs hs2).mono ?_
      rintro e w1 ⟨v0, rfl, hR, hB⟩
      have HO := Aside0.mk hR
      have HB := Aside0.mk hB
      clear hR hB
      go_wp2_with fail
      go_loopg [6, 27] l.length (fun kq v6 v27 w' => ∃ (i : Nat) (v : Value), i + kq = l.length ∧ v27 = .int .i64 (i : Int) ∧ v6 = v ∧ Aside0 (Kd.R (Kd.int .i64) 3 w' wo.heap.size (fun _ => True) v (joined (l.take i))) ∧ Aside0 (Below wo.heap.size wo w'))
      case atStart => exact ⟨0, v0, by omega, rfl, rfl, HO, HB⟩
      case round =>
        clear HO HB
        obtain ⟨i, v, hi, rfl, rfl, HO, HB⟩ := hrel
        cases gk with
        | zero =>
          have f1 : decide (i < l.length) = false := decide_eq_false (by omega)
          have f2 : decide ((i : Int) < (l.length : Int)) = false := decide_eq_false (by omega)
          have htk : l.take i = l := List.take_of_length_le (by omega)
          rw [htk] at HO
          clear htk hi e1 e2
          go_wp2
          go_ret
          exact ⟨_, rfl, HO.out, HB.out⟩
        | succ gk =>
          have f1 : decide (i < l.length) = true := decide_eq_true (by omega)
          have f2 : decide ((i : Int) < (l.length : Int)) = true := decide_eq_true (by omega)
          have j0 : (0 : Int) ≤ (i : Int) := by omega
          have j1 : (i : Int) < (l.length : Int) := by omega
          have hsum := sumLen_drop l (i + 1)
          have hx : l[i]? = some (l[i]'(by omega)) := List.getElem?_eq_getElem (by omega)
          generalize l[i]'(by omega) = xs at hx
          obtain ⟨ad, B, cb, hA, hcell, hC⟩ := HR.out i xs hx
          have htk : l.take (i + 1) = l.take i ++ [xs] := by rw [List.take_add_one, hx]; rfl
          have hs3 := sumLen_snoc (l.take i) xs
          rw [← htk] at hs3
          have hjl := joined_len (l.take i)
          have hjs := joined_snoc (l.take i) xs
          rw [← htk] at hjs
          have HL := Aside0.mk (show ((joined (l.take i)).length + xs.length) * 8 ≤ 140737488355328 by omega)
          have HJ := Aside0.mk hjs
          have HC := Aside0.mk (Kd.C_below hC HB.out)
          have HSZ := Aside0.mk HB.out.size
          subst hA
          replace hcell := pw_cell_below HB.out hcell
          have HI := Aside0.mk hi
          clear hsum hx hC htk hs3 hjl hjs e1 e2 hi
          go_wp2_with (first
            | ((with_reducible refine gate_dst (N := 33) rfl ?_)
               refine Kd.R_append_row (Value.int .i64) (0 : Int) wo.heap.size rfl (.tmp 31) (.tmp 32) 22 3 (.int .i64 0) 8 rfl Try.underlying22 infoI rfl (by decide) _ _ xs B xs.length cb (fun _ => True) rfl rfl (fun _ _ => trivial) HO.out HC.out HB.out HSZ.out HL.out ?_
               intro v1 w2 hO2 hB2 hg2 hat2
               have HO2 := Aside0.mk hO2
               have HB2 := Aside0.mk hB2
               clear hO2 hB2 hg2 hat2 HO HB HC HSZ HL hcell))
          go_roundg gk
          case measure => omega
          case rel => exact ⟨i + 1, v1, by have := HI.out; omega, by go_num, rfl, ⟨by rw [HJ.out]; exact HO2.out⟩, HB2⟩
set_option maxHeartbeats 4000000 in
set_option maxRecDepth 100000 in
theorem repeated_calls (w : World) (v : Int) (n : Nat) (hn : 1 ≤ n) (hn2 : n ≤ 100000)
    (hmul : ∀ w, Calls Try.prog 121 #[.int .u64 1, .int .u64 n] w fun e w' => e = .returned (.tuple #[.int .u64 0, .int .u64 n]) ∧ Drawn0 w w') :
    Calls Try.prog 112 #[.int .i64 v, .int .i64 n] w fun e w' => ∃ v0 : Value, e = .returned v0 ∧ Kd.R (Kd.int .i64) 3 w' w.heap.size (fun _ => True) v0 (List.replicate n v) ∧ Below w.heap.size w w' := by
  have HM := Aside0.mk hmul
  clear hmul
  go_enter Try.func112, Try.ntmps112
  go_wp2_with fail
  have hrow : RowAt (w.alloc (.cells #[.int .i64 v] 3)) w.heap.size [v] [] := blk_new w _
  have hb1 : Below w.heap.size w (w.alloc (.cells #[.int .i64 v] 3)) := below_alloc (Below.refl _ _) _
  have hc := (Kd.R_reads' (rowAt_R (cap := 1) hrow (Nat.le_refl _) rfl (by unfold maxLen; omega))).2.2
  refine (Repeat_calls _ _ _ v n hc hn hn2 HM.out).mono ?_
  rintro e w1 ⟨v0, rfl, hR, hB⟩
  have HO := Aside0.mk (Kd.R_lower hR hb1.size)
  have HB := Aside0.mk (below_step hb1 hB)
  clear hR hB hb1 hrow hc
  go_wp2
  go_ret
  exact ⟨_, rfl, HO.out, HB.out⟩
theorem rowOf_mk {w : World} {g t j c n : Nat} {cs : Array Value} {B : Option Addr} {xs : List Int} (hb : w.heap[g]? = some (.cells cs t (0, 0))) (hn : n = xs.length) (hj : cs[j]? = some (.slice B n c)) (hC : Kd.C (Kd.int .i64) w B xs.length xs) : RowOf w (some ⟨g, 0, none⟩) j xs := by
  subst hn
  refine ⟨_, B, c, rfl, ?_, hC⟩
  have e1 : (⟨g, 0, none⟩ : Addr).add j = ⟨g, j, none⟩ := by simp [Addr.add]; intro h; exact h.symm
  rw [e1, blk_cell hb j]
  exact hj
/-- The two lists of the fixed code. -/
def fixed1 : List Int := List.replicate 144 8 ++ (List.replicate 112 9 ++ (List.replicate 24 7 ++ (List.replicate 8 8 ++ [])))
def fixed2 : List Int := List.replicate 32 5
def MulAt (n : Nat) : Prop := ∀ w, Calls Try.prog 121 #[.int .u64 1, .int .u64 n] w fun e w' => e = .returned (.tuple #[.int .u64 0, .int .u64 n]) ∧ Drawn0 w w'
set_option maxHeartbeats 4000000 in
set_option maxRecDepth 100000 in
theorem FixedLengths_calls (w : World) (h1 : MulAt 144) (h2 : MulAt 112) (h3 : MulAt 24) (h4 : MulAt 8) (h5 : MulAt 32) :
    Calls Try.prog 91 #[] w fun e w' => ∃ v0_ v1_ : Value, e = .returned (.tuple #[v0_, v1_]) ∧ Kd.R (Kd.int .i64) 3 w' w.heap.size (fun k_ => some k_ ≠ (v1_ : Value).ownBlock) v0_ fixed1 ∧ Kd.R (Kd.int .i64) 3 w' w.heap.size (fun k_ => some k_ ≠ (v0_ : Value).ownBlock) v1_ fixed2 ∧ Below w.heap.size w w' := by
  have H1 := Aside0.mk h1
  have H2 := Aside0.mk h2
  have H3 := Aside0.mk h3
  have H4 := Aside0.mk h4
  have H5 := Aside0.mk h5
  clear h1 h2 h3 h4 h5
  go_enter Try.func91, Try.ntmps91
  go_wp2_with fail
  refine (repeated_calls _ 8 144 (by omega) (by omega) H1.out).mono ?_
  rintro e w1 ⟨v1, rfl, hR, hB⟩
  obtain ⟨A1, c1, rfl⟩ := Kd.R_slice hR
  have HR1 := Aside0.mk hR
  have HB1 := Aside0.mk hB
  clear hR hB
  go_wp2_with fail
  refine (repeated_calls _ 9 112 (by omega) (by omega) H2.out).mono ?_
  rintro e w2 ⟨v2, rfl, hR, hB⟩
  obtain ⟨A2, c2, rfl⟩ := Kd.R_slice hR
  have HR2 := Aside0.mk (Kd.R_lower hR HB1.out.size)
  have HR12 := Aside0.mk (Kd.R_below HR1.out hB)
  have HB2 := Aside0.mk (below_step HB1.out hB)
  clear hR hB HR1 HB1
  go_wp2_with fail
  refine (repeated_calls _ 7 24 (by omega) (by omega) H3.out).mono ?_
  rintro e w3 ⟨v3, rfl, hR, hB⟩
  obtain ⟨A3, c3, rfl⟩ := Kd.R_slice hR
  have HR3 := Aside0.mk (Kd.R_lower hR HB2.out.size)
  have HR13 := Aside0.mk (Kd.R_below HR12.out hB)
  have HR23 := Aside0.mk (Kd.R_below HR2.out hB)
  have HB3 := Aside0.mk (below_step HB2.out hB)
  clear hR hB HR12 HR2 HB2
  go_wp2_with fail
  refine (repeated_calls _ 8 8 (by omega) (by omega) H4.out).mono ?_
  rintro e w4 ⟨v4, rfl, hR, hB⟩
  obtain ⟨A4, c4, rfl⟩ := Kd.R_slice hR
  have HR4 := Aside0.mk (Kd.R_lower hR HB3.out.size)
  have HR14 := Aside0.mk (Kd.R_below HR13.out hB)
  have HR24 := Aside0.mk (Kd.R_below HR23.out hB)
  have HR34 := Aside0.mk (Kd.R_below HR3.out hB)
  have HB4 := Aside0.mk (below_step HB3.out hB)
  clear hR hB HR13 HR23 HR3 HB3
  rw [List.length_replicate] at HR14 HR24 HR34 HR4
  go_wp2_with fail
  obtain ⟨W5, hW5⟩ : ∃ W5, W5 = w4.alloc (.cells #[.slice A1 144 c1, .slice A2 112 c2, .slice A3 24 c3, .slice A4 8 c4] 22) := ⟨_, rfl⟩
  have hbk : W5.heap[w4.heap.size]? = some (.cells #[.slice A1 144 c1, .slice A2 112 c2, .slice A3 24 c3, .slice A4 8 c4] 22 (0, 0)) := by rw [hW5]; exact blk_new _ _
  have hb5 : Below w4.heap.size w4 W5 := by rw [hW5]; exact below_alloc (Below.refl _ _) _
  have hB5 := below_step HB4.out hb5
  rw [← hW5]
  have k1 := (Kd.R_reads' (Kd.R_below HR14.out hb5)).2.2
  have k2 := (Kd.R_reads' (Kd.R_below HR24.out hb5)).2.2
  have k3 := (Kd.R_reads' (Kd.R_below HR34.out hb5)).2.2
  have k4 := (Kd.R_reads' (Kd.R_below HR4.out hb5)).2.2
  have hrows : ∀ j xs, [List.replicate 144 (8 : Int), List.replicate 112 9, List.replicate 24 7, List.replicate 8 8][j]? = some xs → RowOf W5 (some ⟨w4.heap.size, 0, none⟩) j xs := by
    intro j xs hj
    match j, hj with
    | 0, hj =>
      have hj : List.replicate 144 (8 : Int) = xs := by injection hj
      subst hj
      exact rowOf_mk hbk List.length_replicate.symm rfl k1
    | 1, hj =>
      have hj : List.replicate 112 (9 : Int) = xs := by injection hj
      subst hj
      exact rowOf_mk hbk List.length_replicate.symm rfl k2
    | 2, hj =>
      have hj : List.replicate 24 (7 : Int) = xs := by injection hj
      subst hj
      exact rowOf_mk hbk List.length_replicate.symm rfl k3
    | 3, hj =>
      have hj : List.replicate 8 (8 : Int) = xs := by injection hj
      subst hj
      exact rowOf_mk hbk List.length_replicate.symm rfl k4
    | j + 4, hj => cases hj
  have hsl : sumLen [List.replicate 144 (8 : Int), List.replicate 112 9, List.replicate 24 7, List.replicate 8 8] = 288 := by simp only [sumLen, List.length_replicate]
  refine (Concat_calls W5 _ 4 [List.replicate 144 (8 : Int), List.replicate 112 9, List.replicate 24 7, List.replicate 8 8] (by decide) hrows (by rw [hsl]; decide) (by rw [hsl]; decide)).mono ?_
  rintro e w6 ⟨v6, rfl, hR, hB⟩
  have HO6 := Aside0.mk (show Kd.R (Kd.int .i64) 3 w6 w.heap.size (fun _ => True) v6 fixed1 from Kd.R_lower hR hB5.size)
  have HB6 := Aside0.mk (below_step hB5 hB)
  clear hR hB hB5 hb5 hbk hW5 k1 k2 k3 k4 hrows hsl HR14 HR24 HR34 HR4 HB4
  go_wp2_with fail
  refine (repeated_calls _ 5 32 (by omega) (by omega) H5.out).mono ?_
  rintro e w7 ⟨v7, rfl, hR, hB⟩
  have hr6 : Kd.R (Kd.int .i64) 3 w7 w.heap.size (fun k_ => some k_ ≠ (v7 : Value).ownBlock) v6 fixed1 := Kd.R_mono (Kd.R_below (Kd.R_bound HO6.out) hB) (fun k hk e => by
    have a1 := Kd.R_base hR k e.symm
    have a2 := hk.2.2.1
    omega)
  have hr7 : Kd.R (Kd.int .i64) 3 w7 w.heap.size (fun k_ => some k_ ≠ (v6 : Value).ownBlock) v7 fixed2 := Kd.R_lower (Kd.R_mono (Kd.R_bound hR) (fun k hk e => by
    have a1 := Kd.R_lt HO6.out k e.symm
    have a2 := hk.2.1
    omega)) HB6.out.size
  have HA := Aside0.mk hr6
  have HC := Aside0.mk hr7
  have HB7 := Aside0.mk (below_step HB6.out hB)
  clear hr6 hr7 hR hB HO6 HB6
  go_wp2
  go_ret2
  exact ⟨_, _, rfl, HA.out, HC.out, HB7.out⟩
end Go.Proofs.Ytimomemkbcidnaa.MSlices
