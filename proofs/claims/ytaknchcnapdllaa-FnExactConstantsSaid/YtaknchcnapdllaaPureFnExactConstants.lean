/- The law FnExactConstants: for every input within the row's bounds the printed function answers true: what the program's function tells is what the law asks. Conditions: only the bounds that the row itself gives (sizes of strings and slices, ranges of the number kinds). -/
import Derived.Test.YtaknchcnapdllaaPFnExactConstantsx1
namespace Go.Proofs.Ytaknchcnapdllaa.Pure
open Go.RowKit Go.Proofs.Ytaknchcnapdllaa.PFnExactConstants Go.Proofs.YtaknchcnapdllaaW.PrintWords Go.Proofs.YtaknchcnapdllaaW.PrintLast Go.Proofs.YtaknchcnapdllaaW.PrintMore
set_option linter.unusedVariables false
set_option linter.unusedSimpArgs false

theorem FnExactConstants : laws_FnExactConstants.Pure := rfl

end Go.Proofs.Ytaknchcnapdllaa.Pure
