/- Rows of bytes that a call has made out of a string, or grown since: what is told of them, and what making, reading, storing and appending one byte do to it. Such a row's block bears a mark behind its last cell: no cell of it is marked. Conditions: the type facts that each law names. -/
import Derived.Test.YtimomemkbcidnaaWWords
import Derived.Test.YtimomemkbcidnaaWMore
import Derived.Lib.ConvBytes
import Derived.Lib.SmallJoins
import Derived.Maps.AppendAt
import Derived.Laws.IdiomCopy
namespace Go.Proofs.Ytimomemkbcidnaa.MBytes
open Go.RowKit Go.Proofs.YtimomemkbcidnaaW.PrintWords
set_option linter.unusedVariables false
/-- v is a slice of bytes over a block of its own: the bytes xs; no cell of the block is marked. -/
def BR (e : TypeId) (w : World) (v : Value) (xs : List Int) : Prop :=
  ∃ g cap cur lo hi, v = .slice (some ⟨g, 0, none⟩) xs.length cap ∧ xs.length ≤ cap ∧ cap ≤ maxLen ∧ w.heap[g]? = some (.cells cur e (lo, hi)) ∧ cur.size = cap ∧ ((lo = 0 ∧ hi = 0) ∨ cap ≤ lo) ∧ cur.toList.take xs.length = nums .u8 xs
section
variable {P : Program} {e : TypeId} {w w1 : World} {v : Value} {xs : List Int}
theorem BR.block (h : BR e w v xs) : ∃ g cap, v = .slice (some ⟨g, 0, none⟩) xs.length cap ∧ xs.length ≤ cap ∧ cap ≤ maxLen ∧ v.ownBlock = some g ∧ g < w.heap.size := by
  obtain ⟨g, cap, cur, lo, hi, rfl, h1, h2, h3, _⟩ := h
  exact ⟨g, cap, rfl, h1, h2, rfl, (Array.getElem?_eq_some_iff.1 h3).1⟩
theorem BR.same (h : BR e w v xs) (hb : ∀ g, v.ownBlock = some g → w1.heap[g]? = w.heap[g]?) : BR e w1 v xs := by
  obtain ⟨g, cap, cur, lo, hi, rfl, h1, h2, h3, h4⟩ := h
  exact ⟨g, cap, cur, lo, hi, rfl, h1, h2, (hb g rfl).trans h3, h4⟩
theorem BR.kept {S : Nat → Prop} (h : BR e w v xs) (hk : Kept w w1 S) (hne : ∀ g, v.ownBlock = some g → ¬ S g) : BR e w1 v xs :=
  h.same fun g hg => hk.2 g (by obtain ⟨g', _, _, _, _, e', hlt⟩ := h.block; rw [e'] at hg; injection hg with hg; omega) (hne g hg)
theorem BR.alloc (h : BR e w v xs) (o : Obj) : BR e (w.alloc o) v xs := h.same fun g hg => by
  obtain ⟨g', _, _, _, _, e', hlt⟩ := h.block
  rw [e'] at hg
  injection hg with hg
  subst hg
  exact Below.heap_alloc w o g' hlt
theorem BR.cell {g cap n : Nat} (h : BR e w (.slice (some ⟨g, 0, none⟩) n cap) xs) (j : Nat) (hj : j < xs.length) : w.cell? ⟨g, j, none⟩ = some (.int .u8 (rd xs j)) ∧ w.frozen? ⟨g, j, none⟩ = false := by
  obtain ⟨g', cap', cur, lo, hi, hv, h1, h2, h3, h4, h5, h6⟩ := h
  injection hv with hv1 hv2 hv3
  injection hv1 with hv1
  injection hv1 with hv1
  subst hv1
  constructor
  · rw [cell_of_row w g j cur e (lo, hi) h3]
    have h7 : (cur.toList.take xs.length)[j]? = (nums .u8 xs)[j]? := by rw [h6]
    rw [List.getElem?_take, if_pos hj] at h7
    have h8 : cur[j]? = cur.toList[j]? := by simp
    rw [h8, h7]
    unfold nums
    rw [List.getElem?_map, List.getElem?_eq_getElem hj]
    simp [rd, List.getD_eq_getElem?_getD, List.getElem?_eq_getElem hj]
  · unfold World.frozen?
    rw [h3]
    rcases h5 with ⟨rfl, rfl⟩ | h5
    · simp
    · have : ¬ lo ≤ j := by omega
      simp [this]
theorem BR.reads {g cap n : Nat} (h : BR e w (.slice (some ⟨g, 0, none⟩) n cap) xs) : ReadsInt w .u8 (some ⟨g, 0, none⟩) xs.length xs := by
  obtain ⟨_, _, _, h1, h2, _, _⟩ := h.block
  refine ⟨rfl, by unfold maxLen at h2; omega, fun _ => ⟨_, rfl, fun j hj => ?_⟩⟩
  rw [add_plain]
  have := (h.cell j hj).1
  rw [rd] at this
  simpa using this
/-- One byte of the row is stored. -/
theorem BR.set {g cap n : Nat} (h : BR e w (.slice (some ⟨g, 0, none⟩) n cap) xs) (j : Nat) (hj : j < xs.length) (x : Int) : BR e (w.setCell ⟨g, j, none⟩ (.int .u8 x)) (.slice (some ⟨g, 0, none⟩) n cap) (xs.set j x) := by
  obtain ⟨g', cap', cur, lo, hi, hv, h1, h2, h3, h4, h5, h6⟩ := h
  injection hv with hv1 hv2 hv3
  injection hv1 with hv1
  injection hv1 with hv1
  subst hv1 hv2 hv3
  refine ⟨g, cap, cur.setIfInBounds j (.int .u8 x), lo, hi, by rw [List.length_set], by rw [List.length_set]; exact h1, h2, Joins.block_setCell h3 _, by simpa using h4, h5, ?_⟩
  rw [List.length_set, Array.toList_setIfInBounds, List.take_set, h6]
  unfold nums
  rw [List.map_set]
/-- '[]byte(s)': a row of its bytes, in a new block. -/
theorem run_bytes (w : World) (src dst : TypeId) (s : ByteArray) {u : TypeDesc} (hs : P.underlying src = some u) (hd : P.underlying dst = some (.slice e)) (he : P.underlying e = some (.int .u8)) (hl : s.size ≤ maxLen) :
    ∃ v w1, (convert src dst (.string s)).run P w = .ok v w1 ∧ BR e w1 v (bytesOf s) ∧ v.ownBlock = some w.heap.size ∧ Below w.heap.size w w1 := by
  have hlen : (bytesOf s).length = s.size := bytesOf_length s
  refine ⟨_, _, Lib.run_convert_string_bytes w src dst e s hs hd he, ?_, rfl, ?_⟩
  · have hc := grownCap_ge w s.size 0 e
    have hm := grownCap_le_maxLen w s.size 0 e hl
    have hsz : (Lib.bytesCells w e s).size = grownCap w s.size 0 e := by
      unfold Lib.bytesCells
      rw [Array.size_append, Array.size_map, Array.size_replicate]
      have : s.data.size = s.size := rfl
      omega
    refine ⟨w.heap.size, _, Lib.bytesCells w e s, _, _, by rw [hlen], by rw [hlen]; exact hc, hm, Lib.bytesWorld_at_new w e s, hsz, Or.inr (by rw [hsz]; exact Nat.le_refl _), ?_⟩
    rw [hlen]
    unfold Lib.bytesCells bytesOf nums
    have hd : (s.data.map fun b => Value.int .u8 b.toNat).toList.length = s.size := by rw [Array.length_toList, Array.size_map]; rfl
    rw [Array.toList_append, List.take_append_of_le_length (by rw [hd]; exact Nat.le_refl _), List.take_of_length_le (by rw [hd]; exact Nat.le_refl _), Array.toList_map, List.map_map]
    rfl
  · exact ⟨rfl, rfl, rfl, by rw [Lib.bytesWorld_size]; omega, fun i hi => Lib.bytesWorld_at_old w e s i hi⟩
/-- 'append(b, x)': one byte more; x lies in a new cell. -/
theorem run_push (t ty : TypeId) (i : TypeInfo) (z : Value) (ht : P.underlying t = some (.slice e)) (hi : P.info? e = some i) (hz : i.zero = some z) (hsize : i.size = 1) (hby : i.bytes = 1) (hzs : z.cells.size = 1)
    (hr : BR e w v xs) (ad : Addr) (x : Int) (c : Nat) (hx : w.cell? ad = some (.int .u8 x)) (hl : xs.length + 1 ≤ 140737488355328) :
    ∃ v' w', (Builtin.append_ #[t, t] ty #[v, .slice (some ad) 1 c]).run P w = .ok v' w' ∧ BR e w' v' (xs ++ [x]) ∧ w.grownBy w' v.ownBlock ∧ (v'.ownBlock = v.ownBlock ∨ v'.ownBlock = some w.heap.size) := by
  obtain ⟨g, cap, cur, lo, hi', rfl, h1, h2, h3, h4, h5, h6⟩ := id hr
  have hnews : ∀ j u, [Value.int .u8 x][j]? = some u → w.cell? (ad.add j) = some u := by
    intro j u hu
    cases j with
    | zero =>
      simp at hu
      subst hu
      have : ad.add 0 = ad := by unfold Addr.add; simp
      rw [this]
      exact hx
    | succ j => simp at hu
  have hone : ∀ u ∈ [Value.int .u8 x], u.oneCell' = true := by intro u hu; simp at hu; subst hu; rfl
  have hf := run_firstCells_some (P := P) w i.size 1 ad 1 c [Value.int .u8 x] (by rw [hsize]; rfl) hnews
  by_cases hroom : xs.length + 1 ≤ cap
  · have hcell : (w.cell? ⟨g, xs.length, none⟩).isSome = true := by
      rw [cell_of_row w g xs.length cur e (lo, hi') h3]
      rw [Array.getElem?_eq_getElem (by omega)]
      rfl
    have hfz : w.frozen? ⟨g, xs.length, none⟩ = false := by
      unfold World.frozen?
      rw [h3]
      rcases h5 with ⟨rfl, rfl⟩ | h5
      · simp
      · have : ¬ lo ≤ xs.length := by omega
        simp [this]
    have hst := run_storeCells_cells (P := P) g xs.length [Value.int .u8 x] 0 w (fun j hj => by
      have : j = 0 := by simpa using hj
      subst this
      exact hcell) (fun j hj => by
      have : j = 0 := by simpa using hj
      subst this
      exact hfz) hone
    refine ⟨.slice (some ⟨g, 0, none⟩) (xs.length + 1) cap, w.setCell ⟨g, xs.length, none⟩ (.int .u8 x), ?_, ?_, ?_, Or.inl rfl⟩
    · have hs1 : w.setCells g (xs.length + 0) [Value.int .u8 x] = w.setCell ⟨g, xs.length, none⟩ (.int .u8 x) := rfl
      rw [hs1] at hst
      rw [hsize] at hf
      simp [Builtin.append_, run_underlying ht, sizeOf, typeInfo, hi, Builtin.lenOf, hroom, hf, Addr.add_lit, hsize, hst]
    · refine ⟨g, cap, cur.setIfInBounds xs.length (.int .u8 x), lo, hi', by simp, by simpa using hroom, h2, Joins.block_setCell h3 _, by simpa using h4, h5, ?_⟩
      rw [List.length_append, List.length_singleton, Array.toList_setIfInBounds, List.take_succ_eq_append_getElem (by simp; omega)]
      rw [List.take_set_of_le (Nat.le_refl _), h6, nums_append]
      simp [nums]
    · exact ⟨rfl, rfl, rfl, by simp [World.setCell], fun k hk hne => Below.heap_setCell w _ _ k (fun e' => hne (by rw [e']; rfl))⟩
  · have hcap : cap = xs.length := by omega
    have holds : ∀ j u, (nums .u8 xs)[j]? = some u → w.cell? ((⟨g, 0, none⟩ : Addr).add j) = some u := by
      intro j u hu
      rw [add_plain]
      have hj : j < xs.length := by
        have := (List.getElem?_eq_some_iff.1 hu).1
        rwa [nums_length] at this
      rw [(hr.cell j hj).1, ← hu]
      unfold nums
      rw [List.getElem?_map, List.getElem?_eq_getElem hj]
      simp [rd, List.getD_eq_getElem?_getD, List.getElem?_eq_getElem hj]
    have hg := run_append_grow (P := P) w t ty e i z ht hi hz ⟨g, 0, none⟩ xs.length cap (nums .u8 xs) (by rw [nums_length, hsize, Nat.mul_one]) holds ad 1 c [Value.int .u8 x] (by rw [hsize]; rfl) hnews (by omega) (by omega) (growslice_fits (by omega) (by rw [hby]; omega))
    have hge := grownCap_ge w (xs.length + 1) cap e
    have hcm := grownCap_le_maxLen w (xs.length + 1) cap e (by unfold maxLen; omega)
    refine ⟨_, _, hg, ?_, ?_, Or.inr rfl⟩
    · refine ⟨w.heap.size, _, _, 0, 0, by simp, by simpa using hge, hcm, heap_alloc_new w.drew _, ?_, Or.inl ⟨rfl, rfl⟩, ?_⟩
      · simp only [Array.size_append, List.size_toArray, size_zeroCells, hzs, nums_length, List.length_singleton]
        omega
      · simp only [Array.toList_append, List.append_assoc]
        rw [← List.append_assoc, nums_append]
        have e1 : nums .u8 [x] = [Value.int .u8 x] := rfl
        rw [e1]
        have e2 : (xs ++ [x]).length = (nums .u8 xs ++ [Value.int .u8 x]).length := by simp [nums_length]
        rw [e2]
        exact List.take_left
    · exact ⟨rfl, rfl, rfl, by simp, fun k hk _ => Below.heap_alloc w.drew _ k hk⟩
end
end Go.Proofs.Ytimomemkbcidnaa.MBytes
