/-
  No cell of these rows narrows 'for every input' (looked for: loops, veiled, ifaces, maps, wideKeys, modest, calm, conditions, laid).
  DERIVED. THE GIVEN ROWS OF THIS SEAT. 11 by the template 'for every input the law returns true; each argument reads behind the call as it read before'; 0 by the template 'total and deterministic' (their statements: YtimomemkbcidnaaTotals.lean).
  GIVEN WITH THE SEED: the statements are not yours to turn. If you find one false, say at which input.
  Laid BY PROGRAM, IN A SANDBOX (cutbox-rows.mjs): the forced cells as the released guide's own fill.sh prints them over the translation ff79bbd513d3028b… (all of the seat's roots in one cut). By AI agents, Wed Nov 11 2026. No macro, syntax, notation, axiom, sorry.
-/
import Derived.Test.YtimomemkbcidnaaChecked
import GoSem.Claim
import GoSem.ClaimJoined
import GoSem.ClaimMapViews
import Derived.JoinedTies
import Derived.KernelRfl
namespace Go.Proofs.Ytimomemkbcidnaa
/- THE CELL 'sum', in the pinned program and in every row, IS THE sha256 OF THE DUMP (.gsa) THAT YtimomemkbcidnaaProg.lean LOADS. Nothing in Lean hashes anything: it is a label: what it is worth is what the hold of that sum in a sandbox is worth. -/
noncomputable def Try.pinned : Pinned := { name := "ytimomemkbcidnaa", sum := "ff79bbd513d3028bd986ed61ca9a242e3b252fafeb0f1f64426944d45f7ec209", checked := Try.checked }
namespace Rows
def none {H : Type} : Left H := { results := [], args := [] }

/-- 'laws.FnExactCodeKind': WHATEVER THE INPUT: true; the input reads as it did. -/
def fnExactCodeKindSpec : ChangeSpec := { name := "fnExactCodeKind", fn := fun _ => fun
  | [d] => { results := [.lit (.bool true)], args := [d] }
  | _ => none }
def fnExactCodeKindRow : OpenClaim := { program := "ytimomemkbcidnaa", sum := "ff79bbd513d3028bd986ed61ca9a242e3b252fafeb0f1f64426944d45f7ec209", func := "loop.example/g00099/laws.FnExactCodeKind", spec := "fnExactCodeKind", apart := false }
def FnExactCodeKindSaid : Prop := fnExactCodeKindRow.holds Try.pinned (OpenSpec.ofChange fnExactCodeKindSpec)

/-- ITS FALSE NEIGHBOUR: 'it returns false'. Refute it at one input. -/
def fnExactCodeKindWrong : ChangeSpec := { name := "fnExactCodeKind", fn := fun _ => fun
  | [d] => { results := [.lit (.bool false)], args := [d] }
  | _ => none }
def FnExactCodeKindWrongFalsely : Prop := fnExactCodeKindRow.holds Try.pinned (OpenSpec.ofChange fnExactCodeKindWrong)

/-- 'laws.FnExactCostOf': WHATEVER THE INPUT: true; the input reads as it did. -/
def fnExactCostOfSpec : ChangeSpec := { name := "fnExactCostOf", fn := fun _ => fun
  | [d1, d2] => { results := [.lit (.bool true)], args := [d1, d2] }
  | _ => none }
def fnExactCostOfRow : OpenClaim := { program := "ytimomemkbcidnaa", sum := "ff79bbd513d3028bd986ed61ca9a242e3b252fafeb0f1f64426944d45f7ec209", func := "loop.example/g00099/laws.FnExactCostOf", spec := "fnExactCostOf", apart := false }
def FnExactCostOfSaid : Prop := fnExactCostOfRow.holds Try.pinned (OpenSpec.ofChange fnExactCostOfSpec)

/-- ITS FALSE NEIGHBOUR: 'it returns false'. Refute it at one input. -/
def fnExactCostOfWrong : ChangeSpec := { name := "fnExactCostOf", fn := fun _ => fun
  | [d1, d2] => { results := [.lit (.bool false)], args := [d1, d2] }
  | _ => none }
def FnExactCostOfWrongFalsely : Prop := fnExactCostOfRow.holds Try.pinned (OpenSpec.ofChange fnExactCostOfWrong)

/-- 'laws.FnExactCodesOf': WHATEVER THE INPUT: true; the input reads as it did. -/
def fnExactCodesOfSpec : ChangeSpec := { name := "fnExactCodesOf", fn := fun _ => fun
  | [d] => { results := [.lit (.bool true)], args := [d] }
  | _ => none }
def fnExactCodesOfRow : OpenClaim := { program := "ytimomemkbcidnaa", sum := "ff79bbd513d3028bd986ed61ca9a242e3b252fafeb0f1f64426944d45f7ec209", func := "loop.example/g00099/laws.FnExactCodesOf", spec := "fnExactCodesOf", apart := false }
def FnExactCodesOfSaid : Prop := fnExactCodesOfRow.holds Try.pinned (OpenSpec.ofChange fnExactCodesOfSpec)

/-- ITS FALSE NEIGHBOUR: 'it returns false'. Refute it at one input. -/
def fnExactCodesOfWrong : ChangeSpec := { name := "fnExactCodesOf", fn := fun _ => fun
  | [d] => { results := [.lit (.bool false)], args := [d] }
  | _ => none }
def FnExactCodesOfWrongFalsely : Prop := fnExactCodesOfRow.holds Try.pinned (OpenSpec.ofChange fnExactCodesOfWrong)

/-- 'laws.FnCodes': WHATEVER THE INPUT: true; the input reads as it did. -/
def fnCodesSpec : ChangeSpec := { name := "fnCodes", fn := fun _ => fun
  | [d] => { results := [.lit (.bool true)], args := [d] }
  | _ => none }
def fnCodesRow : OpenClaim := { program := "ytimomemkbcidnaa", sum := "ff79bbd513d3028bd986ed61ca9a242e3b252fafeb0f1f64426944d45f7ec209", func := "loop.example/g00099/laws.FnCodes", spec := "fnCodes", apart := false }
def FnCodesSaid : Prop := fnCodesRow.holds Try.pinned (OpenSpec.ofChange fnCodesSpec)

/-- ITS FALSE NEIGHBOUR: 'it returns false'. Refute it at one input. -/
def fnCodesWrong : ChangeSpec := { name := "fnCodes", fn := fun _ => fun
  | [d] => { results := [.lit (.bool false)], args := [d] }
  | _ => none }
def FnCodesWrongFalsely : Prop := fnCodesRow.holds Try.pinned (OpenSpec.ofChange fnCodesWrong)

/-- 'laws.FnExactTakeSymbol': WHATEVER THE INPUT: true; the input reads as it did. -/
def fnExactTakeSymbolSpec : ChangeSpec := { name := "fnExactTakeSymbol", fn := fun _ => fun
  | [d1, d2] => { results := [.lit (.bool true)], args := [d1, d2] }
  | _ => none }
def fnExactTakeSymbolRow : OpenClaim := { program := "ytimomemkbcidnaa", sum := "ff79bbd513d3028bd986ed61ca9a242e3b252fafeb0f1f64426944d45f7ec209", func := "loop.example/g00099/laws.FnExactTakeSymbol", spec := "fnExactTakeSymbol", apart := false }
def FnExactTakeSymbolSaid : Prop := fnExactTakeSymbolRow.holds Try.pinned (OpenSpec.ofChange fnExactTakeSymbolSpec)

/-- ITS FALSE NEIGHBOUR: 'it returns false'. Refute it at one input. -/
def fnExactTakeSymbolWrong : ChangeSpec := { name := "fnExactTakeSymbol", fn := fun _ => fun
  | [d1, d2] => { results := [.lit (.bool false)], args := [d1, d2] }
  | _ => none }
def FnExactTakeSymbolWrongFalsely : Prop := fnExactTakeSymbolRow.holds Try.pinned (OpenSpec.ofChange fnExactTakeSymbolWrong)

/-- 'laws.FnExactPutSymbols': WHATEVER THE INPUT: true; the input reads as it did. -/
def fnExactPutSymbolsSpec : ChangeSpec := { name := "fnExactPutSymbols", fn := fun _ => fun
  | [d1, d2, d3] => { results := [.lit (.bool true)], args := [d1, d2, d3] }
  | _ => none }
def fnExactPutSymbolsRow : OpenClaim := { program := "ytimomemkbcidnaa", sum := "ff79bbd513d3028bd986ed61ca9a242e3b252fafeb0f1f64426944d45f7ec209", func := "loop.example/g00099/laws.FnExactPutSymbols", spec := "fnExactPutSymbols", apart := false }
def FnExactPutSymbolsSaid : Prop := fnExactPutSymbolsRow.holds Try.pinned (OpenSpec.ofChange fnExactPutSymbolsSpec)

/-- ITS FALSE NEIGHBOUR: 'it returns false'. Refute it at one input. -/
def fnExactPutSymbolsWrong : ChangeSpec := { name := "fnExactPutSymbols", fn := fun _ => fun
  | [d1, d2, d3] => { results := [.lit (.bool false)], args := [d1, d2, d3] }
  | _ => none }
def FnExactPutSymbolsWrongFalsely : Prop := fnExactPutSymbolsRow.holds Try.pinned (OpenSpec.ofChange fnExactPutSymbolsWrong)

/-- 'laws.FnSymbols': WHATEVER THE INPUT: true; the input reads as it did. -/
def fnSymbolsSpec : ChangeSpec := { name := "fnSymbols", fn := fun _ => fun
  | [d] => { results := [.lit (.bool true)], args := [d] }
  | _ => none }
def fnSymbolsRow : OpenClaim := { program := "ytimomemkbcidnaa", sum := "ff79bbd513d3028bd986ed61ca9a242e3b252fafeb0f1f64426944d45f7ec209", func := "loop.example/g00099/laws.FnSymbols", spec := "fnSymbols", apart := false }
def FnSymbolsSaid : Prop := fnSymbolsRow.holds Try.pinned (OpenSpec.ofChange fnSymbolsSpec)

/-- ITS FALSE NEIGHBOUR: 'it returns false'. Refute it at one input. -/
def fnSymbolsWrong : ChangeSpec := { name := "fnSymbols", fn := fun _ => fun
  | [d] => { results := [.lit (.bool false)], args := [d] }
  | _ => none }
def FnSymbolsWrongFalsely : Prop := fnSymbolsRow.holds Try.pinned (OpenSpec.ofChange fnSymbolsWrong)

/-- 'laws.FnExactLimitedLengths': WHATEVER THE INPUT: true; the input reads as it did. -/
def fnExactLimitedLengthsSpec : ChangeSpec := { name := "fnExactLimitedLengths", fn := fun _ => fun
  | [d1, d2] => { results := [.lit (.bool true)], args := [d1, d2] }
  | _ => none }
def fnExactLimitedLengthsRow : OpenClaim := { program := "ytimomemkbcidnaa", sum := "ff79bbd513d3028bd986ed61ca9a242e3b252fafeb0f1f64426944d45f7ec209", func := "loop.example/g00099/laws.FnExactLimitedLengths", spec := "fnExactLimitedLengths", unfollowed := true, recurses := true, apart := false }
def FnExactLimitedLengthsSaid : Prop := fnExactLimitedLengthsRow.holds Try.pinned (OpenSpec.ofChange fnExactLimitedLengthsSpec)

/-- ITS FALSE NEIGHBOUR: 'it returns false'. Refute it at one input. -/
def fnExactLimitedLengthsWrong : ChangeSpec := { name := "fnExactLimitedLengths", fn := fun _ => fun
  | [d1, d2] => { results := [.lit (.bool false)], args := [d1, d2] }
  | _ => none }
def FnExactLimitedLengthsWrongFalsely : Prop := fnExactLimitedLengthsRow.holds Try.pinned (OpenSpec.ofChange fnExactLimitedLengthsWrong)

/-- 'laws.FnPackage': WHATEVER THE INPUT: true; the input reads as it did. -/
def fnPackageSpec : ChangeSpec := { name := "fnPackage", fn := fun _ => fun
  | [d] => { results := [.lit (.bool true)], args := [d] }
  | _ => none }
def fnPackageRow : OpenClaim := { program := "ytimomemkbcidnaa", sum := "ff79bbd513d3028bd986ed61ca9a242e3b252fafeb0f1f64426944d45f7ec209", func := "loop.example/g00099/laws.FnPackage", spec := "fnPackage", unfollowed := true, recurses := true, apart := false }
def FnPackageSaid : Prop := fnPackageRow.holds Try.pinned (OpenSpec.ofChange fnPackageSpec)

/-- ITS FALSE NEIGHBOUR: 'it returns false'. Refute it at one input. -/
def fnPackageWrong : ChangeSpec := { name := "fnPackage", fn := fun _ => fun
  | [d] => { results := [.lit (.bool false)], args := [d] }
  | _ => none }
def FnPackageWrongFalsely : Prop := fnPackageRow.holds Try.pinned (OpenSpec.ofChange fnPackageWrong)

/-- 'laws.FnExactTokenLengths': WHATEVER THE INPUT: true; the input reads as it did. -/
def fnExactTokenLengthsSpec : ChangeSpec := { name := "fnExactTokenLengths", fn := fun _ => fun
  | [d] => { results := [.lit (.bool true)], args := [d] }
  | _ => none }
def fnExactTokenLengthsRow : OpenClaim := { program := "ytimomemkbcidnaa", sum := "ff79bbd513d3028bd986ed61ca9a242e3b252fafeb0f1f64426944d45f7ec209", func := "loop.example/g00099/laws.FnExactTokenLengths", spec := "fnExactTokenLengths", unfollowed := true, recurses := true, apart := false }
def FnExactTokenLengthsSaid : Prop := fnExactTokenLengthsRow.holds Try.pinned (OpenSpec.ofChange fnExactTokenLengthsSpec)

/-- ITS FALSE NEIGHBOUR: 'it returns false'. Refute it at one input. -/
def fnExactTokenLengthsWrong : ChangeSpec := { name := "fnExactTokenLengths", fn := fun _ => fun
  | [d] => { results := [.lit (.bool false)], args := [d] }
  | _ => none }
def FnExactTokenLengthsWrongFalsely : Prop := fnExactTokenLengthsRow.holds Try.pinned (OpenSpec.ofChange fnExactTokenLengthsWrong)

/-- 'laws.FnExactFixedBlock': WHATEVER THE INPUT: true; the input reads as it did. -/
def fnExactFixedBlockSpec : ChangeSpec := { name := "fnExactFixedBlock", fn := fun _ => fun
  | [d1, d2, d3] => { results := [.lit (.bool true)], args := [d1, d2, d3] }
  | _ => none }
def fnExactFixedBlockRow : OpenClaim := { program := "ytimomemkbcidnaa", sum := "ff79bbd513d3028bd986ed61ca9a242e3b252fafeb0f1f64426944d45f7ec209", func := "loop.example/g00099/laws.FnExactFixedBlock", spec := "fnExactFixedBlock", apart := false }
def FnExactFixedBlockSaid : Prop := fnExactFixedBlockRow.holds Try.pinned (OpenSpec.ofChange fnExactFixedBlockSpec)

/-- ITS FALSE NEIGHBOUR: 'it returns false'. Refute it at one input. -/
def fnExactFixedBlockWrong : ChangeSpec := { name := "fnExactFixedBlock", fn := fun _ => fun
  | [d1, d2, d3] => { results := [.lit (.bool false)], args := [d1, d2, d3] }
  | _ => none }
def FnExactFixedBlockWrongFalsely : Prop := fnExactFixedBlockRow.holds Try.pinned (OpenSpec.ofChange fnExactFixedBlockWrong)

/- THE SECOND FORM. 'bulk': how many values and letters a reading holds, each counted each time it is reached (what is shared counts as often as it is met; a slice's spare places count too). A statement '..UptoSaid' is the law's where the arguments, and the package variables that the reading takes, are together of bulk at most 1048576: NARROWER than '..Said'. Prove '..Said' where nothing that the law and all that it calls make is longer than what came in: it says more and counts as full. Else prove '..UptoSaid'. A law counts once. -/
mutual
def uptoBulk {H : Type} : DataW H → Nat
  | .lit (.string bytes) => bytes.length + 1
  | .lit _ => 1
  | .nil => 1
  | .ptr d => uptoBulk d + 1
  | .slice elems spare => uptoBulkAll elems + uptoBulkAll spare + 1
  | .agg parts => uptoBulkAll parts + 1
  | .iface _ d => uptoBulk d + 1
  | .map entries => uptoBulkEntries entries + 1
  | .held _ => 1
def uptoBulkAll {H : Type} : List (DataW H) → Nat
  | [] => 0
  | d :: r => uptoBulk d + uptoBulkAll r
def uptoBulkEntries {H : Type} : List (Lit × DataW H) → Nat
  | [] => 0
  | x :: r => uptoBulkEntry x + uptoBulkEntries r
def uptoBulkEntry {H : Type} : Lit × DataW H → Nat
  | (.string bytes, d) => bytes.length + uptoBulk d + 1
  | (_, d) => uptoBulk d + 1
 end
def uptoSmall : (H : Type) → List (DataW H) → Bool := fun _ ds => decide (uptoBulkAll ds ≤ 1048576)
def OpenSpec.upto (s : _root_.Go.ChangeSpec) : _root_.Go.OpenSpec := { _root_.Go.OpenSpec.ofChange s with cond := some uptoSmall }

/-- 'laws.FnExactCodeKind', WHERE WHAT IT READS IS OF BULK AT MOST 1048576: true; the input reads as it did. -/
def fnExactCodeKindUptoRow : OpenClaim := { program := "ytimomemkbcidnaa", sum := "ff79bbd513d3028bd986ed61ca9a242e3b252fafeb0f1f64426944d45f7ec209", func := "loop.example/g00099/laws.FnExactCodeKind", spec := "fnExactCodeKind", apart := false, narrowed := true }
def FnExactCodeKindUptoSaid : Prop := fnExactCodeKindUptoRow.holds Try.pinned (OpenSpec.upto fnExactCodeKindSpec)

/-- 'laws.FnExactCostOf', WHERE WHAT IT READS IS OF BULK AT MOST 1048576: true; the input reads as it did. -/
def fnExactCostOfUptoRow : OpenClaim := { program := "ytimomemkbcidnaa", sum := "ff79bbd513d3028bd986ed61ca9a242e3b252fafeb0f1f64426944d45f7ec209", func := "loop.example/g00099/laws.FnExactCostOf", spec := "fnExactCostOf", apart := false, narrowed := true }
def FnExactCostOfUptoSaid : Prop := fnExactCostOfUptoRow.holds Try.pinned (OpenSpec.upto fnExactCostOfSpec)

/-- 'laws.FnExactCodesOf', WHERE WHAT IT READS IS OF BULK AT MOST 1048576: true; the input reads as it did. -/
def fnExactCodesOfUptoRow : OpenClaim := { program := "ytimomemkbcidnaa", sum := "ff79bbd513d3028bd986ed61ca9a242e3b252fafeb0f1f64426944d45f7ec209", func := "loop.example/g00099/laws.FnExactCodesOf", spec := "fnExactCodesOf", apart := false, narrowed := true }
def FnExactCodesOfUptoSaid : Prop := fnExactCodesOfUptoRow.holds Try.pinned (OpenSpec.upto fnExactCodesOfSpec)

/-- 'laws.FnCodes', WHERE WHAT IT READS IS OF BULK AT MOST 1048576: true; the input reads as it did. -/
def fnCodesUptoRow : OpenClaim := { program := "ytimomemkbcidnaa", sum := "ff79bbd513d3028bd986ed61ca9a242e3b252fafeb0f1f64426944d45f7ec209", func := "loop.example/g00099/laws.FnCodes", spec := "fnCodes", apart := false, narrowed := true }
def FnCodesUptoSaid : Prop := fnCodesUptoRow.holds Try.pinned (OpenSpec.upto fnCodesSpec)

/-- 'laws.FnExactTakeSymbol', WHERE WHAT IT READS IS OF BULK AT MOST 1048576: true; the input reads as it did. -/
def fnExactTakeSymbolUptoRow : OpenClaim := { program := "ytimomemkbcidnaa", sum := "ff79bbd513d3028bd986ed61ca9a242e3b252fafeb0f1f64426944d45f7ec209", func := "loop.example/g00099/laws.FnExactTakeSymbol", spec := "fnExactTakeSymbol", apart := false, narrowed := true }
def FnExactTakeSymbolUptoSaid : Prop := fnExactTakeSymbolUptoRow.holds Try.pinned (OpenSpec.upto fnExactTakeSymbolSpec)

/-- 'laws.FnExactPutSymbols', WHERE WHAT IT READS IS OF BULK AT MOST 1048576: true; the input reads as it did. -/
def fnExactPutSymbolsUptoRow : OpenClaim := { program := "ytimomemkbcidnaa", sum := "ff79bbd513d3028bd986ed61ca9a242e3b252fafeb0f1f64426944d45f7ec209", func := "loop.example/g00099/laws.FnExactPutSymbols", spec := "fnExactPutSymbols", apart := false, narrowed := true }
def FnExactPutSymbolsUptoSaid : Prop := fnExactPutSymbolsUptoRow.holds Try.pinned (OpenSpec.upto fnExactPutSymbolsSpec)

/-- 'laws.FnSymbols', WHERE WHAT IT READS IS OF BULK AT MOST 1048576: true; the input reads as it did. -/
def fnSymbolsUptoRow : OpenClaim := { program := "ytimomemkbcidnaa", sum := "ff79bbd513d3028bd986ed61ca9a242e3b252fafeb0f1f64426944d45f7ec209", func := "loop.example/g00099/laws.FnSymbols", spec := "fnSymbols", apart := false, narrowed := true }
def FnSymbolsUptoSaid : Prop := fnSymbolsUptoRow.holds Try.pinned (OpenSpec.upto fnSymbolsSpec)

/-- 'laws.FnExactLimitedLengths', WHERE WHAT IT READS IS OF BULK AT MOST 1048576: true; the input reads as it did. -/
def fnExactLimitedLengthsUptoRow : OpenClaim := { program := "ytimomemkbcidnaa", sum := "ff79bbd513d3028bd986ed61ca9a242e3b252fafeb0f1f64426944d45f7ec209", func := "loop.example/g00099/laws.FnExactLimitedLengths", spec := "fnExactLimitedLengths", unfollowed := true, recurses := true, apart := false, narrowed := true }
def FnExactLimitedLengthsUptoSaid : Prop := fnExactLimitedLengthsUptoRow.holds Try.pinned (OpenSpec.upto fnExactLimitedLengthsSpec)

/-- 'laws.FnPackage', WHERE WHAT IT READS IS OF BULK AT MOST 1048576: true; the input reads as it did. -/
def fnPackageUptoRow : OpenClaim := { program := "ytimomemkbcidnaa", sum := "ff79bbd513d3028bd986ed61ca9a242e3b252fafeb0f1f64426944d45f7ec209", func := "loop.example/g00099/laws.FnPackage", spec := "fnPackage", unfollowed := true, recurses := true, apart := false, narrowed := true }
def FnPackageUptoSaid : Prop := fnPackageUptoRow.holds Try.pinned (OpenSpec.upto fnPackageSpec)

/-- 'laws.FnExactTokenLengths', WHERE WHAT IT READS IS OF BULK AT MOST 1048576: true; the input reads as it did. -/
def fnExactTokenLengthsUptoRow : OpenClaim := { program := "ytimomemkbcidnaa", sum := "ff79bbd513d3028bd986ed61ca9a242e3b252fafeb0f1f64426944d45f7ec209", func := "loop.example/g00099/laws.FnExactTokenLengths", spec := "fnExactTokenLengths", unfollowed := true, recurses := true, apart := false, narrowed := true }
def FnExactTokenLengthsUptoSaid : Prop := fnExactTokenLengthsUptoRow.holds Try.pinned (OpenSpec.upto fnExactTokenLengthsSpec)

/-- 'laws.FnExactFixedBlock', WHERE WHAT IT READS IS OF BULK AT MOST 1048576: true; the input reads as it did. -/
def fnExactFixedBlockUptoRow : OpenClaim := { program := "ytimomemkbcidnaa", sum := "ff79bbd513d3028bd986ed61ca9a242e3b252fafeb0f1f64426944d45f7ec209", func := "loop.example/g00099/laws.FnExactFixedBlock", spec := "fnExactFixedBlock", apart := false, narrowed := true }
def FnExactFixedBlockUptoSaid : Prop := fnExactFixedBlockUptoRow.holds Try.pinned (OpenSpec.upto fnExactFixedBlockSpec)

end Rows
end Go.Proofs.Ytimomemkbcidnaa
