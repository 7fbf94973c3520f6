/- Parameters that are structs or slices of structs, opened out of a row's own reading: words for the rows of laws. They state: a slice that reads as data is a list of elements that read. Conditions: only those of the reading itself. -/
import Derived.Test.YtimomemkbcidnaaWWords
import Derived.Test.YtimomemkbcidnaaWMore
import Derived.Deep.Slices
import Derived.Lib.SmallJoins
import Derived.ChangeSlices
namespace Go.Proofs.Ytimomemkbcidnaa.MRow
open Go.ChangeShapes Go.WideShapes Go.RowKit Go.Deep Go.Joins Go.Proofs.YtimomemkbcidnaaW.PrintWords
set_option linter.unusedVariables false
section
variable {H : Type} {enc : TypeId × Value → H} {P : Program} {w : World} {base : Nat} {spare : Nat → Bool} {held : Bool}
/-- A slice of elements of one kind, opened: a list, its cells, and what holds of each. -/
theorem open_rows {α : Type} {t e : TypeId} {a : Option Addr} {len cap q : Nat} {d : DataW H} {ps : List MemPlace} {G : α → Prop} (ht : P.underlying t = some (.slice e)) (hC : P.cellsOf e = q) (kd : Kd α) (hq : kd.sz = q)
  (el : ∀ (m : Nat) (cs : List Value) (y : DataW H × List MemPlace), cs.length = q → DataW.trod enc P w base spare held m e cs = some y → ∃ p : α, kd.K w p cs ∧ G p)
  (h : DataW.Trod enc P w base spare held t (.slice a len cap) d ps) :
  ∃ l : List α, len = l.length ∧ Kd.C kd w a l.length l ∧ l.length ≤ cap ∧ l.length ≤ maxLen ∧ ∀ x ∈ l, G x := by
 obtain ⟨fuel, hf⟩ := h
 rcases open_slice ht hf with ⟨hcs, _⟩ | ⟨a', len', cap', m, n, D, Pl, hcs, _, hl, hm, hmm, _, hel⟩
 ·simp [Value.cells] at hcs
  obtain ⟨rfl, rfl, rfl⟩ := hcs
  exact ⟨[], rfl, ⟨rfl, by simp, fun h0 => absurd h0 (by simp)⟩, by simp, by simp, fun x hx => by simp at hx⟩
 ·simp [Value.cells] at hcs
  obtain ⟨rfl, rfl, rfl⟩ := hcs
  have hlm : len ≤ m := by
   rw [hmm]
   split
   ·exact hl
   ·exact Nat.le_refl _
  have each : ∀ i, i < len → ∃ p : α, G p ∧ ∃ c : List Value, c.length = q ∧ kd.K w p c ∧ ∀ j u, c[j]? = some u → w.cell? (a'.add (i * q + j)) = some u := by
   intro i hi
   obtain ⟨cs', hc, htr⟩ := hel i (by omega)
   rw [hC] at hc
   obtain ⟨_, hlen, hcell⟩ := World.cells?_some hc
   obtain ⟨p, hp, hg⟩ := el n cs' _ hlen htr
   refine ⟨p, hg, cs', hlen, hp, fun j u hu => ?_⟩
   have hj : j < q := by
    have := (List.getElem?_eq_some_iff.1 hu).1
    omega
   have := hcell j hj
   rw [Deep.add_add] at this
   rw [this]
   exact hu
  have pick : ∃ l : List α, l.length = len ∧ ∀ i p, l[i]? = some p → G p ∧ ∃ c : List Value, c.length = q ∧ kd.K w p c ∧ ∀ j u, c[j]? = some u → w.cell? (a'.add (i * q + j)) = some u := by
   have go : ∀ n, n ≤ len → ∃ l : List α, l.length = n ∧ ∀ i p, l[i]? = some p → G p ∧ ∃ c : List Value, c.length = q ∧ kd.K w p c ∧ ∀ j u, c[j]? = some u → w.cell? (a'.add (i * q + j)) = some u := by
    intro n
    induction n with
    | zero => exact fun _ => ⟨[], rfl, fun i p hp => by simp at hp⟩
    | succ n ih =>
     intro hn
     obtain ⟨l, hl1, hl2⟩ := ih (by omega)
     obtain ⟨p, hp⟩ := each n (by omega)
     refine ⟨l ++ [p], by simp [hl1], fun i p' hp' => ?_⟩
     rcases Nat.lt_or_ge i l.length with hi | hi
     ·rw [List.getElem?_append_left hi] at hp'
      exact hl2 i p' hp'
     ·have hi' : i = l.length := by
       have := (List.getElem?_eq_some_iff.1 hp').1
       simp at this
       omega
      subst hi'
      simp at hp'
      subst hp'
      rw [hl1]
      exact hp
   exact go len (Nat.le_refl _)
  obtain ⟨l, rfl, hl2⟩ := pick
  refine ⟨l, rfl, ⟨rfl, by unfold maxLen at hm; omega, fun _ => ⟨a', rfl, fun j p hj => ?_⟩⟩, hl, by omega, fun x hx => ?_⟩
  ·rw [hq]
   exact ⟨_, (hl2 j p hj).2.choose_spec⟩
  ·obtain ⟨i, hi, rfl⟩ := List.getElem_of_mem hx
   exact (hl2 i _ (List.getElem?_eq_getElem hi)).1
/-- A slice of whole numbers, opened the same way. -/
theorem open_introw {t e : TypeId} {k : IntKind} {a : Option Addr} {len cap : Nat} {d : DataW H} {ps : List MemPlace} (ht : P.underlying t = some (.slice e)) (he : P.underlying e = some (.int k)) (hC : P.cellsOf e = 1)
  (h : DataW.Trod enc P w base spare held t (.slice a len cap) d ps) :
  ∃ l : List Int, len = l.length ∧ Kd.C (Kd.int k) w a l.length l ∧ l.length ≤ cap ∧ l.length ≤ maxLen ∧ ∀ x ∈ l, (Lit.int k x).wf = true := by
 refine open_rows (q := 1) ht hC (Kd.int k) rfl (fun m cs y hcl hy => ?_) h
 obtain ⟨n, rfl, _, hw⟩ := DataW.trod_int he hy
 exact ⟨n, rfl, hw⟩
end
end Go.Proofs.Ytimomemkbcidnaa.MRow
