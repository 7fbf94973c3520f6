/- The law FnExactExtraBits: for every input within the row's bounds the printed function answers true: what the program's function tells is what the law asks. Conditions: only the bounds that the row itself gives (sizes of strings and slices, ranges of the number kinds). -/
import Derived.Test.YtaknchcnapdllaaPFnExactExtraBitsx1
namespace Go.Proofs.Ytaknchcnapdllaa.Pure
open Go.RowKit Go.Proofs.Ytaknchcnapdllaa.PFnExactExtraBits Go.Proofs.YtaknchcnapdllaaW.PrintWords Go.Proofs.YtaknchcnapdllaaW.PrintLast Go.Proofs.YtaknchcnapdllaaW.PrintMore
set_option linter.unusedVariables false
set_option linter.unusedSimpArgs false

theorem FnExactExtraBits : laws_FnExactExtraBits.Pure := by
  intro a ha
  unfold laws_FnExactExtraBits.f
  have e : impl_ExtraBits.f a = spec_ExtraBits.f a := rfl
  rw [e]
  cases h : spec_ExtraBits.f a with
  | some v => simp
  | none => unfold spec_ExtraBits.f at h; repeat (split at h <;> try cases h)

end Go.Proofs.Ytaknchcnapdllaa.Pure
