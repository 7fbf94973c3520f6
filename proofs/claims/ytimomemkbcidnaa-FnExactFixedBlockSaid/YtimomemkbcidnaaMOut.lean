/- What the writer's 'out' tells. Conditions: the writer lies in memory as 'WS' says. -/
import Derived.Test.YtimomemkbcidnaaMWriter
namespace Go.Proofs.Ytimomemkbcidnaa.MOut
open Go.RowKit Go.Proofs.YtimomemkbcidnaaW.PrintWords Go.Proofs.Ytimomemkbcidnaa.MBytes Go.Proofs.Ytimomemkbcidnaa.MWriter
set_option linter.unusedVariables false
set_option linter.unusedSimpArgs false
/-- What 'out' tells. -/
def outF (xs : List Int) (c : Int) : ByteArray × Int × Bool := if xs.length ≤ 12000 then (strOfNums xs, c, true) else (⟨#[]⟩, 0, false)
def outV (p : ByteArray × Int × Bool) : Value := .tuple #[.agg #[.string p.1, .int .i64 p.2.1], .bool p.2.2]
theorem out_calls' (ok : Nat → Prop) (w : World) (g : Nat) (xs : List Int) (c : Int) (h : WS ok w g xs c) :
    Calls Try.prog 64 #[.pointer (some ⟨g, 0, none⟩)] w fun e w' => e = .returned (outV (outF xs c)) ∧ Below w.heap.size w w' := by
  refine (out_calls ok w g xs c h).mono ?_
  rintro e w' ⟨rfl, hb⟩
  refine ⟨?_, hb⟩
  unfold outF outV
  by_cases h1 : xs.length ≤ 12000
  · rw [if_pos h1, if_pos h1]
  · rw [if_neg h1, if_neg h1]
theorem KO.blk {ok : Nat → Prop} {a b : World} {g : Nat} {o : Obj} (h : KO ok a b) (hb : a.heap[g]? = some o) (hn : ¬ ok g) : b.heap[g]? = some o := (h.kept.2 g (blk_lt hb) hn).trans hb
end Go.Proofs.Ytimomemkbcidnaa.MOut
