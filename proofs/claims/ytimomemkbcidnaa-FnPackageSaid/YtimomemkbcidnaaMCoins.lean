/- The coins' sort: what cmp.Compare and the two closures return, slices.SortStableFunc at an empty slice, and what it leaves of a row of coins (Kd.S, Kd.N). Conditions: the first cell of an element is its weight; fewer than 10^18 elements. -/
import Derived.Test.YtimomemkbcidnaaMStab
import Derived.Test.YtimomemkbcidnaaMSlices
import Derived.Test.YtimomemkbcidnaaWWords
import Derived.Test.YtimomemkbcidnaaWApart
import Derived.Test.YtimomemkbcidnaaWN
import Derived.Test.YtimomemkbcidnaaWMore
namespace Go.Proofs.Ytimomemkbcidnaa.MCoins
open Go.Shelf Go.RowKit Go.Lib Go.Sort Go.Proofs.Ytimomemkbcidnaa.MSort Go.Proofs.Ytimomemkbcidnaa.MStable Go.Proofs.Ytimomemkbcidnaa.MStab Go.Proofs.YtimomemkbcidnaaW.PrintWords Go.Proofs.YtimomemkbcidnaaW.PrintMore
set_option linter.unusedVariables false
set_option linter.unusedSimpArgs false

/-! ### The closures -/
def cmpI (x y : Int) : Int := if x < y then -1 else if y < x then 1 else 0
theorem cmpI_neg (x y : Int) : cmpI x y < 0 ↔ x < y := by
 unfold cmpI
 split
 ·exact ⟨fun _ => by assumption, fun _ => by decide⟩
 ·split <;> exact ⟨fun h => absurd h (by decide), fun h => absurd h (by assumption)⟩
theorem isNaN_calls (x : Int) (w : World) : Calls Try.prog 115 #[.int .i64 x] w fun e w' => e = .returned (.bool false) ∧ w' = w := by
 go_enter Try.func115, Try.ntmps115
 go_wp2
 go_ret
 exact ⟨by simp, rfl⟩
theorem compare_calls (x y : Int) (w : World) : Calls Try.prog 100 #[.int .i64 x, .int .i64 y] w fun e w' => e = .returned (.int .i64 (cmpI x y)) ∧ w' = w := by
 by_cases h1 : x < y
 ·have h2 : cmpI x y = -1 := by unfold cmpI; rw [if_pos h1]
  rw [h2]
  go_enter Try.func100, Try.ntmps100
  go_wp2_with (go_at_call 115; refine (isNaN_calls _ _).mono ?_; rintro e_ w' ⟨rfl, rfl⟩)
  go_ret
  exact ⟨rfl, rfl⟩
 ·by_cases h3 : y < x
  ·have h2 : cmpI x y = 1 := by unfold cmpI; rw [if_neg h1, if_pos h3]
   rw [h2]
   go_enter Try.func100, Try.ntmps100
   go_wp2_with (go_at_call 115; refine (isNaN_calls _ _).mono ?_; rintro e_ w' ⟨rfl, rfl⟩)
   go_ret
   exact ⟨rfl, rfl⟩
  ·have h2 : cmpI x y = 0 := by unfold cmpI; rw [if_neg h1, if_neg h3]
   rw [h2]
   go_enter Try.func100, Try.ntmps100
   go_wp2_with (go_at_call 115; refine (isNaN_calls _ _).mono ?_; rintro e_ w' ⟨rfl, rfl⟩)
   go_ret
   exact ⟨rfl, rfl⟩
/-- What both closures do. -/
def Cmps (g : Nat) : Prop := ∀ (x y : Int) (u v : Value) (W : World), u.oneCell' = true → v.oneCell' = true → Calls Try.prog g #[.agg #[.int .i64 x, u], .agg #[.int .i64 y, v]] W fun e w' => e = .returned (.int .i64 (cmpI x y)) ∧ ∃ q os', w' = grow (W.drewN q) os'
set_option maxHeartbeats 2000000 in
theorem closure1 : Cmps 99 := by
 intro x y u v W hu hv
 have hcon := fun W' => compare_calls x y W'
 generalize cmpI x y = r at hcon ⊢
 go_enter Try.func99, Try.ntmps99
 go_wp2_with (go_at_call 100; refine (hcon _).mono ?_; rintro e w' ⟨rfl, rfl⟩)
 go_ret
 exact ⟨rfl, 0, _, by rw [alloc_eq_grow, alloc_eq_grow, grow_grow]; rfl⟩
set_option maxHeartbeats 2000000 in
theorem closure2 : Cmps 102 := by
 intro x y u v W hu hv
 have hcon := fun W' => compare_calls x y W'
 generalize cmpI x y = r at hcon ⊢
 go_enter Try.func102, Try.ntmps102
 go_wp2_with (go_at_call 100; refine (hcon _).mono ?_; rintro e w' ⟨rfl, rfl⟩)
 go_ret
 exact ⟨rfl, 0, _, by rw [alloc_eq_grow, alloc_eq_grow, grow_grow]; rfl⟩
theorem enters1 : ∀ args w, (callFunc 99 args).run Try.prog w = .ok (.enter 99 args) w := enters_of Try.func99 (by kernel_rfl) rfl
theorem enters2 : ∀ args w, (callFunc 102 args).run Try.prog w = .ok (.enter 102 args) w := enters_of Try.func102 (by kernel_rfl) rfl

/-! ### The sort of nothing -/
theorem insertion_none (f : Value) (w : World) : Calls Try.prog 119 #[.slice none 0 0, .int .i64 0, .int .i64 0, f] w fun e w' => e = .returned (.tuple #[]) ∧ w' = w := by
 go_enter Try.func119, Try.ntmps119
 go_wp2
 go_loopg [8] 0 (fun kx s wr => s = .int .i64 1 ∧ wr = w)
 case atStart => exact ⟨rfl, rfl⟩
 case round =>
  obtain ⟨rfl, rfl⟩ := hrel
  go_wp2
  go_end0
  exact ⟨rfl, rfl⟩
theorem stable_none (f : Value) (w : World) : Calls Try.prog 114 #[.slice none 0 0, .int .i64 0, f] w fun e w' => e = .returned (.tuple #[]) ∧ w' = w := by
 go_enter Try.func114, Try.ntmps114
 go_wp2
 go_loopg [7, 8] 0 (fun kx s1 s2 wr => s1 = .int .i64 0 ∧ s2 = .int .i64 20 ∧ wr = w)
 case atStart => exact ⟨rfl, rfl, rfl⟩
 case round =>
  obtain ⟨rfl, rfl, rfl⟩ := hrel
  go_wp2_with (go_at_call 119; refine (insertion_none _ _).mono ?_; rintro e_ w' ⟨rfl, rfl⟩)
  go_loopg [6] 0 (fun kx s wr => s = .int .i64 20 ∧ wr = w')
  case atStart => exact ⟨rfl, rfl⟩
  case round =>
   obtain ⟨rfl, rfl⟩ := hrel
   go_wp2
   go_end0
   exact ⟨rfl, rfl⟩
theorem SortStable_none (f : Value) (w : World) : Calls Try.prog 98 #[.slice none 0 0, f] w fun e w' => e = .returned (.tuple #[]) ∧ w' = w := by
 go_enter Try.func98, Try.ntmps98
 go_wp2_with (go_at_call 114; refine (stable_none _ _).mono ?_; rintro e_ w' ⟨rfl, rfl⟩)
 go_end0
 exact ⟨rfl, rfl⟩

/-! ### What the sort leaves of a row of cells -/
theorem sortW_at {α : Type} [Inhabited α] (enc : α → List Value) (k : Nat) (w : World) (g m : Nat) (dk : Array α) (os : Array Obj) {cur : Array Value} {e : TypeId} {fr : Nat × Nat} (h : w.heap[g]? = some (.cells cur e fr)) :
  (sortWorldK enc k w g 0 m dk os).heap[g]? = some (.cells (putCells id 0 (flatK enc k dk) cur) e fr) := by
 have hlt : g < w.heap.size := (Array.getElem?_eq_some_iff.1 h).1
 unfold sortWorldK grow putRowK putRow mapBlock
 show (((Sort.ahead w m).heap.modify g (onCells (putCells id 0 (flatK enc k dk)))) ++ os)[g]? = _
 rw [Array.getElem?_append_left (by simpa using hlt), Array.getElem?_modify, if_pos rfl]
 show Option.map _ (w.heap[g]?) = _
 rw [h]
 rfl
theorem sortW_other {α : Type} [Inhabited α] (enc : α → List Value) (k : Nat) (w : World) (g m : Nat) (dk : Array α) (os : Array Obj) (j : Nat) (hj : j < w.heap.size) (hne : j ≠ g) :
  (sortWorldK enc k w g 0 m dk os).heap[j]? = w.heap[j]? := by
 unfold sortWorldK grow putRowK putRow mapBlock
 show (((Sort.ahead w m).heap.modify g (onCells (putCells id 0 (flatK enc k dk)))) ++ os)[j]? = _
 rw [Array.getElem?_append_left (by simpa using hj), Array.getElem?_modify, if_neg (fun e => hne e.symm)]
 rfl
theorem sortW_size {α : Type} [Inhabited α] (enc : α → List Value) (k : Nat) (w : World) (g m : Nat) (dk : Array α) (os : Array Obj) : w.heap.size ≤ (sortWorldK enc k w g 0 m dk os).heap.size := by
 unfold sortWorldK
 rw [size_grow, size_putRowK]
 show w.heap.size ≤ w.heap.size + _
 omega
theorem flat_chunk {α : Type} [Inhabited α] (enc : α → List Value) (k : Nat) (hk : ∀ x, (enc x).length = k) (d : Array α) (i : Nat) (hi : i < d.size) : ((flatK enc k d).toList.drop (i * k)).take k = enc d[i]! := by
 have hb : i * k + k ≤ d.size * k := by
  have := Nat.mul_le_mul_right k (show i + 1 ≤ d.size from hi)
  rwa [Nat.add_mul, Nat.one_mul] at this
 apply List.ext_getElem
 ·rw [List.length_take, List.length_drop, Array.length_toList, size_flatK, hk]
  omega
 ·intro c h1 h2
  rw [hk] at h2
  have e1 : (i * k + c) / k = i := (blk_iff k i _ (by omega)).1 ⟨by omega, by omega⟩
  have e2 : (i * k + c) % k = c := by rw [Nat.mod_eq_sub_div_mul, e1]; omega
  have h3 := get_flatK enc k d (i * k + c) (by omega)
  rw [getElem!_pos _ _ (by rw [size_flatK]; omega), e1, e2, getElem!_pos _ _ (by rw [hk]; exact h2)] at h3
  rw [List.getElem_take, List.getElem_drop, Array.getElem_toList]
  exact h3
theorem put_take (F cur : Array Value) (m : Nat) (hF : F.size = m) (hm : m ≤ cur.size) : (putCells id 0 F cur).toList.take m = F.toList := by
 apply List.ext_getElem
 ·rw [List.length_take, Array.length_toList, Array.length_toList]
  show min m (cur.mapIdx _).size = _
  rw [Array.size_mapIdx]
  omega
 ·intro c h1 h2
  rw [Array.length_toList] at h2
  rw [List.getElem_take, Array.getElem_toList, Array.getElem_toList]
  simp only [putCells, Array.getElem_mapIdx]
  rw [if_pos ⟨Nat.zero_le _, by omega⟩]
  show F[c - 0]! = _
  rw [Nat.sub_zero, getElem!_pos F c h2]
def chunk (inner : List Value) (j : Nat) : List Value := (inner.drop (j * 2)).take 2
theorem isort_id {β : Type} (w1 w2 : β → Int) (l : List β) (h : ∀ y ∈ l, w1 y = w2 y) : isort w1 l = isort w2 l := by
 have := isort_map w1 w2 id l h
 rwa [List.map_id, List.map_id] at this
def sorted (wt : Nat → Int) (n : Nat) : List Nat := isort wt (List.range n)
theorem sorted_len (wt : Nat → Int) (n : Nat) : (sorted wt n).length = n := by
 have := (isort_perm wt (List.range n)).length_eq
 rwa [List.length_range] at this
theorem sorted_nodup (wt : Nat → Int) (n : Nat) : (sorted wt n).Nodup := (isort_perm wt (List.range n)).nodup_iff.2 List.nodup_range
theorem sorted_lt (wt : Nat → Int) (n : Nat) (j : Nat) (h : j ∈ sorted wt n) : j < n := List.mem_range.1 ((isort_perm wt (List.range n)).mem_iff.1 h)
theorem zE (w : World) : (Go.sizeOf 101).run Try.prog w = .ok 2 w := by kernel_rfl
set_option maxHeartbeats 1000000 in
theorem sort_raw (g : Nat) (eg : ∀ args w, (callFunc g args).run Try.prog w = .ok (.enter g args) w) (hg : Cmps g) (w : World) (base n : Nat) (v : Value) (inner : List Value) (wt : Nat → Int) (hn : n < 1000000000000000000)
  (ho : w.ownsRow base 101 2 v n inner) (hr : ∀ j, j < n → ∃ s : Value, chunk inner j = [.int .i64 (wt j), s] ∧ s.oneCell' = true) :
  Calls Try.prog 98 #[v, .func (.func g) #[] #[]] w fun e w' => e = .returned (.tuple #[]) ∧ w.grownBy w' v.ownBlock ∧ ∃ inner', w'.ownsRow base 101 2 v n inner' ∧ ∀ (i : Nat) (h : i < (sorted wt n).length), chunk inner' i = chunk inner (sorted wt n)[i] := by
 rcases ho.2 with ⟨rfl, rfl⟩ | ⟨b, cap, cur, rfl, hb, hh, hnc, hm, hcs, htake⟩
 ·refine (SortStable_none _ w).mono ?_
  rintro e w' ⟨rfl, rfl⟩
  exact ⟨rfl, ⟨rfl, rfl, rfl, Nat.le_refl _, fun _ _ _ => rfl⟩, inner, ho, fun i h => by rw [sorted_len] at h; omega⟩
 ·have hlt : b < w.heap.size := (Array.getElem?_eq_some_iff.1 hh).1
  obtain ⟨enc, henc⟩ : ∃ enc : Nat → List Value, enc = fun j => if j < n then chunk inner j else [.int .i64 0, .slice none 0 0] := ⟨_, rfl⟩
  obtain ⟨wt', hwt⟩ : ∃ wt' : Nat → Int, wt' = fun j => if j < n then wt j else 0 := ⟨_, rfl⟩
  have hform : ∀ j, ∃ s : Value, enc j = [.int .i64 (wt' j), s] ∧ s.oneCell' = true := by
   intro j
   rw [henc, hwt]
   by_cases hj : j < n
   ·obtain ⟨s, h1, h2⟩ := hr j hj
    exact ⟨s, by simp only [if_pos hj]; exact h1, h2⟩
   ·exact ⟨.slice none 0 0, by simp only [if_neg hj], rfl⟩
  have hk : ∀ j, (enc j).length = 2 := fun j => by
   obtain ⟨s, h1, _⟩ := hform j
   rw [h1]
   rfl
  have hin : ∀ j, j < n → enc j = chunk inner j := fun j hj => by rw [henc]; simp only [if_pos hj]
  have hget : ∀ i, i < n → (Array.range n)[i]! = i := fun i hi => by rw [getElem!_pos _ i (by simpa using hi)]; simp
  have hflat : ∀ t, t < n * 2 → (flatK enc 2 (Array.range n))[t]! = cur[t]! := by
   intro t ht
   rw [get_flatK _ _ _ _ (by rw [Array.size_range]; exact ht), hget (t / 2) (by omega), hin _ (by omega), ← htake]
   unfold chunk
   rw [getElem!_pos cur t (by omega), getElem!_pos _ _ (by rw [List.length_take, List.length_drop, List.length_take, Array.length_toList]; omega)]
   rw [List.getElem_take, List.getElem_drop, List.getElem_take, Array.getElem_toList]
   congr 1
   omega
  have R : RowK enc 2 w b 0 (Array.range n) := by
   refine ⟨hk, fun x u hu => ?_, fun j hj => ?_, hlt⟩
   ·obtain ⟨s, h1, h2⟩ := hform x
    rw [h1] at hu
    rcases List.mem_cons.1 hu with rfl | hu
    ·rfl
    ·rw [List.mem_singleton.1 hu]; exact h2
   ·rw [size_flatK, Array.size_range] at hj
    have hj2 : j < cur.size := by omega
    refine ⟨?_, ?_⟩
    ·show w.cell? ⟨b, 0 + j, none⟩ = some ((flatK enc 2 (Array.range n))[j]!)
     rw [hflat j hj, Nat.zero_add, getElem!_pos cur j hj2]
     simp [World.cell?, hh, hj2]
    ·simp [World.frozen?, hh]
  have C : CmpLays Try.prog g #[] enc 2 (fun x y => cmpI (wt' x) (wt' y)) b 0 n w := by
   intro m os dk _ x y
   obtain ⟨s, h1, h2⟩ := hform x
   obtain ⟨s', h3, h4⟩ := hform y
   rw [h1, h3]
   exact hg _ _ s s' _ h2 h4
  refine (SortStable_calls 2 zE enc g #[] _ eg b 0 cap n (Array.range n) w C R Array.size_range hn).mono ?_
  rintro e w' ⟨rfl, m, os, rfl⟩
  have hlt2 : ltOf (fun x y => cmpI (wt' x) (wt' y)) = klt wt' := by
   funext x y
   exact decide_eq_decide.2 (cmpI_neg _ _)
  rw [hlt2]
  have hl : (stableR (klt wt') (Array.range n) n).toList = sorted wt n := by
   rw [stable_list]
   exact isort_id _ _ _ (fun y hy => by rw [hwt]; simp only [if_pos (List.mem_range.1 hy)])
  have hsz : (stableR (klt wt') (Array.range n) n).size = n := by rw [← Array.length_toList, hl, sorted_len]
  generalize stableR (klt wt') (Array.range n) n = dk at hl hsz
  refine ⟨rfl, ⟨rfl, rfl, rfl, sortW_size _ _ _ _ _ _ _, fun j hj hne => sortW_other _ _ _ _ _ _ _ j hj (fun e => hne (by rw [e]; rfl))⟩, (flatK enc 2 dk).toList, ⟨?_, .inr ⟨b, cap, _, rfl, hb, sortW_at enc 2 w b m dk os hh, hnc, hm, ?_, ?_⟩⟩, fun i hi => ?_⟩
  ·rw [Array.length_toList, size_flatK, hsz]
  ·show (cur.mapIdx _).size = _
   rw [Array.size_mapIdx]
   exact hcs
  ·exact put_take _ _ _ (by rw [size_flatK, hsz]) (by rw [hcs]; exact Nat.mul_le_mul_right 2 hnc)
  ·have hi' : i < dk.size := by rw [sorted_len] at hi; omega
   unfold chunk
   rw [flat_chunk enc 2 hk dk i hi']
   have e1 : dk[i]! = (sorted wt n)[i] := by
    rw [getElem!_pos dk i hi', ← Array.getElem_toList]
    simp only [hl]
   rw [e1]
   exact hin _ (sorted_lt wt n _ (List.getElem_mem hi))
/-! ### .. of a row of elements -/
def wAt {α : Type} (wt : α → Int) (xs : List α) (j : Nat) : Int := (xs[j]?.map wt).getD 0
theorem sorted_map {α : Type} (wt : α → Int) (xs : List α) : (sorted (wAt wt xs) xs.length).map (fun j => xs[j]?) = (isort wt xs).map some := by
 unfold sorted
 rw [isort_map (wAt wt xs) (fun o : Option α => (o.map wt).getD 0) (fun j => xs[j]?) (List.range xs.length) (fun _ _ => rfl), isort_map wt (fun o : Option α => (o.map wt).getD 0) some xs (fun _ _ => rfl)]
 congr 1
 apply List.ext_getElem?
 intro i
 rw [List.getElem?_map, List.getElem?_map]
 by_cases hi : i < xs.length
 ·rw [List.getElem?_range hi, List.getElem?_eq_getElem hi]
  show some (xs[i]?) = _
  rw [List.getElem?_eq_getElem hi]
  rfl
 ·rw [List.getElem?_eq_none (by rw [List.length_range]; omega), List.getElem?_eq_none (by omega)]
  rfl
theorem isort_len {β : Type} (wt : β → Int) (l : List β) : (isort wt l).length = l.length := (isort_perm wt l).length_eq
theorem sorted_at {α : Type} (wt : α → Int) (xs : List α) (i : Nat) (p : α) (h : (isort wt xs)[i]? = some p) : ∃ hi : i < (sorted (wAt wt xs) xs.length).length, xs[(sorted (wAt wt xs) xs.length)[i]]? = some p := by
 have hl : i < (isort wt xs).length := (List.getElem?_eq_some_iff.1 h).1
 have hi : i < (sorted (wAt wt xs) xs.length).length := by rw [sorted_len]; rw [isort_len] at hl; exact hl
 refine ⟨hi, ?_⟩
 have h1 := congrArg (fun l => l[i]?) (sorted_map wt xs)
 simp only [List.getElem?_map, h, List.getElem?_eq_getElem hi, Option.map_some] at h1
 exact Option.some.inj h1
section
variable {α : Type} {d : Kd α} {wt : α → Int} {w : World} {base : Nat} {ok : Nat → Prop} {v : Value} {xs : List α}
/-- An element's first cell is its weight. -/
def Weighs (d : Kd α) (wt : α → Int) : Prop := d.sz = 2 ∧ ∀ (w : World) (x : α) (cs : List Value), d.K w x cs → ∃ s : Value, cs = [.int .i64 (wt x), s]
theorem weighs_one (hd : Weighs d wt) {x : α} {cs : List Value} (h : d.K w x cs) : ∃ s : Value, cs = [.int .i64 (wt x), s] ∧ s.oneCell' = true := by
 obtain ⟨s, hs⟩ := hd.2 w x cs h
 refine ⟨s, hs, ?_⟩
 exact d.K_one h s (by rw [hs]; exact List.mem_cons_of_mem _ (List.mem_singleton.2 rfl))
theorem wAt_of {j : Nat} {p : α} (h : xs[j]? = some p) : wAt wt xs j = wt p := by unfold wAt; rw [h]; rfl
theorem sortS (g : Nat) (eg : ∀ args w, (callFunc g args).run Try.prog w = .ok (.enter g args) w) (hg : Cmps g) (hd : Weighs d wt) (hn : xs.length < 1000000000000000000) (h : Kd.S d 101 w base ok v xs) :
  Calls Try.prog 98 #[v, .func (.func g) #[] #[]] w fun e w' => e = .returned (.tuple #[]) ∧ w.grownBy w' v.ownBlock ∧ Kd.S d 101 w' base ok v (isort wt xs) := by
 obtain ⟨f, h0, inner, ho, hr⟩ := h
 rw [List.length_zipIdx] at ho
 have hsz : (Kd.tag f d).sz = 2 := hd.1
 rw [hsz] at ho hr
 have hr' : ∀ j p, xs[j]? = some p → d.M w base (fun k => (ok k ∧ some k ≠ v.ownBlock) ∧ f k = j) p (chunk inner j) := fun j p hj => hr.2 j (p, j) (Kd.zip_at hj)
 refine (sort_raw g eg hg w base xs.length v inner (wAt wt xs) hn ho (fun j hj => ?_)).mono ?_
 ·have hj' := List.getElem?_eq_getElem hj
  rw [wAt_of hj']
  exact weighs_one hd (d.K_of_M (hr' j _ hj'))
 ·rintro e w' ⟨he, hgr, inner', ho', hch⟩
  refine ⟨he, hgr, fun k => (sorted (wAt wt xs) xs.length).idxOf (f k), h0, inner', ?_, ?_, ?_⟩
  ·rw [List.length_zipIdx, isort_len]
   exact hd.1.symm ▸ ho'
  ·rw [List.length_zipIdx, isort_len, ho'.1]
   show _ = _ * d.sz
   rw [hd.1]
  ·rintro i ⟨p, i'⟩ hi
   rw [List.getElem?_zipIdx, Nat.zero_add] at hi
   obtain ⟨p', hp', e⟩ := Option.map_eq_some_iff.1 hi
   injection e with e1 e2
   subst e1
   subst e2
   obtain ⟨hil, hx⟩ := sorted_at wt xs i p' hp'
   have hm := hr' _ _ hx
   show d.M w' base (fun k => (ok k ∧ some k ≠ v.ownBlock) ∧ (sorted (wAt wt xs) xs.length).idxOf (f k) = i) p' ((inner'.drop (i * d.sz)).take d.sz)
   rw [hd.1]
   have hc := hch i hil
   unfold chunk at hc
   rw [hc]
   refine d.M_mono (fun k hk => ⟨hk.1, ?_⟩) (Kd.M_step hm (fun k hk hlt => hgr.block k hlt hk.1.2))
   rw [hk.2]
   exact List.Nodup.idxOf_getElem (sorted_nodup _ _) i hil
theorem sortN (g : Nat) (eg : ∀ args w, (callFunc g args).run Try.prog w = .ok (.enter g args) w) (hg : Cmps g) (hd : Weighs d wt) (hn : xs.length < 1000000000000000000) (h : Kd.N d 101 w base ok v xs) :
  Calls Try.prog 98 #[v, .func (.func g) #[] #[]] w fun e w' => e = .returned (.tuple #[]) ∧ w.grownBy w' v.ownBlock ∧ Kd.N d 101 w' base ok v (isort wt xs) := by
 obtain ⟨h0, rows, hl, ⟨h00, inner, ho, hr⟩, hf⟩ := h
 have hsz : (Kd.raw d.sz).sz = 2 := hd.1
 rw [hsz] at ho hr
 rw [hl] at ho
 have hrow : ∀ j x, xs[j]? = some x → ∃ c, rows[j]? = some c ∧ chunk inner j = c ∧ Kd.FK d w (fun k => ok k ∧ some k ≠ v.ownBlock) x c := fun j x hj => by
  have hj2 : j < rows.length := by rw [hl]; exact (List.getElem?_eq_some_iff.1 hj).1
  have hc := List.getElem?_eq_getElem hj2
  exact ⟨_, hc, (hr.2 j _ hc).1, hf j x _ hj hc⟩
 refine (sort_raw g eg hg w base xs.length v inner (wAt wt xs) hn ho (fun j hj => ?_)).mono ?_
 ·have hj' := List.getElem?_eq_getElem hj
  rw [wAt_of hj']
  obtain ⟨c, h1, h2, h3⟩ := hrow j _ hj'
  rw [h2]
  exact weighs_one hd (Kd.FK_now h3)
 ·rintro e w' ⟨he, hgr, inner', ho', hch⟩
  have hnew : ∀ i x, (isort wt xs)[i]? = some x → Kd.FK d w' (fun k => ok k ∧ some k ≠ v.ownBlock) x (chunk inner' i) := fun i x hi => by
   obtain ⟨hil, hx⟩ := sorted_at wt xs i x hi
   obtain ⟨c, h1, h2, h3⟩ := hrow _ _ hx
   rw [hch i hil, h2]
   exact Kd.FK_step h3 (fun k hk hlt => hgr.block k hlt hk.2)
  have hcl : (Kd.chunks 2 xs.length inner').length = xs.length := Kd.chunks_length _ _ _
  refine ⟨he, hgr, h0, Kd.chunks 2 xs.length inner', by rw [hcl, isort_len], ⟨h00, inner', ?_, ?_, ?_⟩, ?_⟩
  ·rw [hcl]
   exact hd.1.symm ▸ ho'
  ·rw [hcl, ho'.1]
   show _ = _ * d.sz
   rw [hd.1]
  ·intro i c hi
   have hil : i < (isort wt xs).length := by
    have := (List.getElem?_eq_some_iff.1 hi).1
    rw [hcl] at this
    rw [isort_len]
    exact this
   have h3 := hnew i _ (List.getElem?_eq_getElem hil)
   have e := Kd.chunks_get hi
   show (inner'.drop (i * d.sz)).take d.sz = c ∧ ((inner'.drop (i * d.sz)).take d.sz).length = d.sz ∧ ∀ u ∈ (inner'.drop (i * d.sz)).take d.sz, u.oneCell' = true
   rw [hd.1]
   refine ⟨e.symm, ?_, ?_⟩
   ·have := d.K_len (Kd.FK_now h3)
    rw [hd.1] at this
    exact this
   ·exact d.K_one (Kd.FK_now h3)
  ·intro i x c hx hc
   rw [Kd.chunks_get hc]
   exact hnew i x hx
end
/-! ### slices.Concat, as the print wants it -/
def concatF (l : List (List Int)) : Option (List Int) := if l.length ≤ 100 ∧ 0 < MSlices.sumLen l ∧ MSlices.sumLen l ≤ 1000000 then some (MSlices.joined l) else none
theorem concat_f (A0 : Option Addr) (c0 : Nat) (l0 : List (List Int)) (r : List Int) (w : World) (hr0 : Kd.C (Kd.slice 3 (Kd.int .i64)) w A0 l0.length l0) (h : concatF l0 = some r) :
  Calls Try.prog 101 #[.slice A0 l0.length c0] w fun e w' => ∃ v0_ : Value, e = .returned v0_ ∧ Kd.R (Kd.int .i64) 3 w' w.heap.size (fun _ => True) v0_ r ∧ Below w.heap.size w w' := by
 unfold concatF at h
 by_cases hc : l0.length ≤ 100 ∧ 0 < MSlices.sumLen l0 ∧ MSlices.sumLen l0 ≤ 1000000
 ·rw [if_pos hc] at h
  injection h with h
  rw [← h]
  refine MSlices.Concat_calls w A0 c0 l0 hc.1 (fun j xs hj => ?_) hc.2.1 hc.2.2
  have hjl := (List.getElem?_eq_some_iff.1 hj).1
  obtain ⟨ad, c, e, _, hK, hcc⟩ := Kd.C_get hr0 ([] : List Int) (j : Int) (by omega) (by omega)
  rw [Int.toNat_natCast, List.getD_eq_getElem?_getD, hj] at hK
  obtain ⟨B, c', rfl, hl, hC⟩ := hK
  have h1 := hcc 0 _ rfl
  rw [Int.toNat_natCast] at h1
  exact ⟨ad, B, c', e, by have h2 : w.cell? (ad.add (j * 1 + 0)) = _ := h1; rwa [Nat.mul_one, Nat.add_zero] at h2, hC⟩
 ·rw [if_neg hc] at h
  cases h
end Go.Proofs.Ytimomemkbcidnaa.MCoins
