/- Parameters that are structs or slices of structs, opened out of a row's own reading: words for the rows of laws. They state: a slice that reads as data is a list of elements that read. Conditions: only those of the reading itself. -/
import Derived.Test.YtimomemkbcidnaaWWords
import Derived.Test.YtimomemkbcidnaaWMore
import Derived.Deep.Slices
import Derived.Lib.SmallJoins
import Derived.ChangeSlices
namespace Go.Proofs.Ytimomemkbcidnaa.MRow
open Go.ChangeShapes Go.WideShapes Go.RowKit Go.Deep Go.Joins Go.Proofs.YtimomemkbcidnaaW.PrintWords
set_option linter.unusedVariables false
section
variable {H : Type} {enc : TypeId × Value → H} {P : Program} {w : World} {base : Nat} {spare : Nat → Bool} {held : Bool}
theorem trod_agg3 {t : TypeId} {f0 f1 f2 : Field} {fuel : Nat} {c0 c1 c2 : Value} {x : DataW H × List MemPlace} (hs : P.underlying t = some (.struct #[f0, f1, f2])) (hone : oneCellFields P #[f0, f1, f2] = true)
  (h : DataW.trod enc P w base spare held fuel t [c0, c1, c2] = some x) :
  ∃ n y0, DataW.trod enc P w base spare held n f0.type [c0] = some y0 ∧ ∃ y1, DataW.trod enc P w base spare held n f1.type [c1] = some y1 ∧ ∃ y2, DataW.trod enc P w base spare held n f2.type [c2] = some y2 := by
 obtain ⟨y0, y1, y2, n, hx, _, h0, h1, h2⟩ := trod_struct3 hs h
 obtain ⟨o0, k0⟩ := hone_of hone 0 f0 rfl
 obtain ⟨o1, k1⟩ := hone_of hone 1 f1 rfl
 obtain ⟨o2, k2⟩ := hone_of hone 2 f2 rfl
 exact ⟨n, y0, by simpa [o0, k0] using h0, y1, by simpa [o1, k1] using h1, y2, by simpa [o2, k2] using h2⟩
/-- A slice of elements of one kind, opened: a list, its cells, and what holds of each. -/
theorem open_rows {α : Type} {t e : TypeId} {a : Option Addr} {len cap q : Nat} {d : DataW H} {ps : List MemPlace} {G : α → Prop} (ht : P.underlying t = some (.slice e)) (hC : P.cellsOf e = q) (kd : Kd α) (hq : kd.sz = q)
  (el : ∀ (m : Nat) (cs : List Value) (y : DataW H × List MemPlace), cs.length = q → DataW.trod enc P w base spare held m e cs = some y → ∃ p : α, kd.K w p cs ∧ G p)
  (h : DataW.Trod enc P w base spare held t (.slice a len cap) d ps) :
  ∃ l : List α, len = l.length ∧ Kd.C kd w a l.length l ∧ l.length ≤ cap ∧ l.length ≤ maxLen ∧ ∀ x ∈ l, G x := by
 obtain ⟨fuel, hf⟩ := h
 rcases open_slice ht hf with ⟨hcs, _⟩ | ⟨a', len', cap', m, n, D, Pl, hcs, _, hl, hm, hmm, _, hel⟩
 ·simp [Value.cells] at hcs
  obtain ⟨rfl, rfl, rfl⟩ := hcs
  exact ⟨[], rfl, ⟨rfl, by simp, fun h0 => absurd h0 (by simp)⟩, by simp, by simp, fun x hx => by simp at hx⟩
 ·simp [Value.cells] at hcs
  obtain ⟨rfl, rfl, rfl⟩ := hcs
  have hlm : len ≤ m := by
   rw [hmm]
   split
   ·exact hl
   ·exact Nat.le_refl _
  have each : ∀ i, i < len → ∃ p : α, G p ∧ ∃ c : List Value, c.length = q ∧ kd.K w p c ∧ ∀ j u, c[j]? = some u → w.cell? (a'.add (i * q + j)) = some u := by
   intro i hi
   obtain ⟨cs', hc, htr⟩ := hel i (by omega)
   rw [hC] at hc
   obtain ⟨_, hlen, hcell⟩ := World.cells?_some hc
   obtain ⟨p, hp, hg⟩ := el n cs' _ hlen htr
   refine ⟨p, hg, cs', hlen, hp, fun j u hu => ?_⟩
   have hj : j < q := by
    have := (List.getElem?_eq_some_iff.1 hu).1
    omega
   have := hcell j hj
   rw [Deep.add_add] at this
   rw [this]
   exact hu
  have pick : ∃ l : List α, l.length = len ∧ ∀ i p, l[i]? = some p → G p ∧ ∃ c : List Value, c.length = q ∧ kd.K w p c ∧ ∀ j u, c[j]? = some u → w.cell? (a'.add (i * q + j)) = some u := by
   have go : ∀ n, n ≤ len → ∃ l : List α, l.length = n ∧ ∀ i p, l[i]? = some p → G p ∧ ∃ c : List Value, c.length = q ∧ kd.K w p c ∧ ∀ j u, c[j]? = some u → w.cell? (a'.add (i * q + j)) = some u := by
    intro n
    induction n with
    | zero => exact fun _ => ⟨[], rfl, fun i p hp => by simp at hp⟩
    | succ n ih =>
     intro hn
     obtain ⟨l, hl1, hl2⟩ := ih (by omega)
     obtain ⟨p, hp⟩ := each n (by omega)
     refine ⟨l ++ [p], by simp [hl1], fun i p' hp' => ?_⟩
     rcases Nat.lt_or_ge i l.length with hi | hi
     ·rw [List.getElem?_append_left hi] at hp'
      exact hl2 i p' hp'
     ·have hi' : i = l.length := by
       have := (List.getElem?_eq_some_iff.1 hp').1
       simp at this
       omega
      subst hi'
      simp at hp'
      subst hp'
      rw [hl1]
      exact hp
   exact go len (Nat.le_refl _)
  obtain ⟨l, rfl, hl2⟩ := pick
  refine ⟨l, rfl, ⟨rfl, by unfold maxLen at hm; omega, fun _ => ⟨a', rfl, fun j p hj => ?_⟩⟩, hl, by omega, fun x hx => ?_⟩
  ·rw [hq]
   exact ⟨_, (hl2 j p hj).2.choose_spec⟩
  ·obtain ⟨i, hi, rfl⟩ := List.getElem_of_mem hx
   exact (hl2 i _ (List.getElem?_eq_getElem hi)).1
end
end Go.Proofs.Ytimomemkbcidnaa.MRow
