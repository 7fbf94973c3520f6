/-
  No cell of these rows narrows 'for every input' (looked for: loops, veiled, ifaces, maps, wideKeys, modest, calm, conditions, laid).
  DERIVED. THE GIVEN ROWS OF THIS SEAT. 10 by the template 'for every input the law returns true; each argument reads behind the call as it read before'; 0 by the template 'total and deterministic' (their statements: YtfmdenifbbhmdaaTotals.lean).
  GIVEN WITH THE SEED: the statements are not yours to turn. If you find one false, say at which input.
  Laid BY PROGRAM, IN A SANDBOX (cutbox-rows.mjs): the forced cells as the released guide's own fill.sh prints them over the translation c3c8334b9fae7ff8… (all of the seat's roots in one cut). By AI agents, Wed Nov 11 2026. No macro, syntax, notation, axiom, sorry.
-/
import Derived.Test.YtfmdenifbbhmdaaChecked
import GoSem.Claim
import GoSem.ClaimJoined
import GoSem.ClaimMapViews
import Derived.JoinedTies
import Derived.KernelRfl
namespace Go.Proofs.Ytfmdenifbbhmdaa
/- THE CELL 'sum', in the pinned program and in every row, IS THE sha256 OF THE DUMP (.gsa) THAT YtfmdenifbbhmdaaProg.lean LOADS. Nothing in Lean hashes anything: it is a label: what it is worth is what the hold of that sum in a sandbox is worth. -/
noncomputable def Try.pinned : Pinned := { name := "ytfmdenifbbhmdaa", sum := "c3c8334b9fae7ff864de9d02c57f7313150023f8c5da078d67e57653b8bdf6a2", checked := Try.checked }
namespace Rows
def none {H : Type} : Left H := { results := [], args := [] }

/-- 'laws.FnExactRunsOf': WHATEVER THE INPUT: true; the input reads as it did. -/
def fnExactRunsOfSpec : ChangeSpec := { name := "fnExactRunsOf", fn := fun _ => fun
  | [d] => { results := [.lit (.bool true)], args := [d] }
  | _ => none }
def fnExactRunsOfRow : OpenClaim := { program := "ytfmdenifbbhmdaa", sum := "c3c8334b9fae7ff864de9d02c57f7313150023f8c5da078d67e57653b8bdf6a2", func := "loop.example/g00099/laws.FnExactRunsOf", spec := "fnExactRunsOf", apart := false }
def FnExactRunsOfSaid : Prop := fnExactRunsOfRow.holds Try.pinned (OpenSpec.ofChange fnExactRunsOfSpec)

/-- ITS FALSE NEIGHBOUR: 'it returns false'. Refute it at one input. -/
def fnExactRunsOfWrong : ChangeSpec := { name := "fnExactRunsOf", fn := fun _ => fun
  | [d] => { results := [.lit (.bool false)], args := [d] }
  | _ => none }
def FnExactRunsOfWrongFalsely : Prop := fnExactRunsOfRow.holds Try.pinned (OpenSpec.ofChange fnExactRunsOfWrong)

/-- 'laws.FnExactRunsBack': WHATEVER THE INPUT: true; the input reads as it did. -/
def fnExactRunsBackSpec : ChangeSpec := { name := "fnExactRunsBack", fn := fun _ => fun
  | [d1, d2] => { results := [.lit (.bool true)], args := [d1, d2] }
  | _ => none }
def fnExactRunsBackRow : OpenClaim := { program := "ytfmdenifbbhmdaa", sum := "c3c8334b9fae7ff864de9d02c57f7313150023f8c5da078d67e57653b8bdf6a2", func := "loop.example/g00099/laws.FnExactRunsBack", spec := "fnExactRunsBack", apart := false }
def FnExactRunsBackSaid : Prop := fnExactRunsBackRow.holds Try.pinned (OpenSpec.ofChange fnExactRunsBackSpec)

/-- ITS FALSE NEIGHBOUR: 'it returns false'. Refute it at one input. -/
def fnExactRunsBackWrong : ChangeSpec := { name := "fnExactRunsBack", fn := fun _ => fun
  | [d1, d2] => { results := [.lit (.bool false)], args := [d1, d2] }
  | _ => none }
def FnExactRunsBackWrongFalsely : Prop := fnExactRunsBackRow.holds Try.pinned (OpenSpec.ofChange fnExactRunsBackWrong)

/-- 'laws.FnRuns': WHATEVER THE INPUT: true; the input reads as it did. -/
def fnRunsSpec : ChangeSpec := { name := "fnRuns", fn := fun _ => fun
  | [d] => { results := [.lit (.bool true)], args := [d] }
  | _ => none }
def fnRunsRow : OpenClaim := { program := "ytfmdenifbbhmdaa", sum := "c3c8334b9fae7ff864de9d02c57f7313150023f8c5da078d67e57653b8bdf6a2", func := "loop.example/g00099/laws.FnRuns", spec := "fnRuns", apart := false }
def FnRunsSaid : Prop := fnRunsRow.holds Try.pinned (OpenSpec.ofChange fnRunsSpec)

/-- ITS FALSE NEIGHBOUR: 'it returns false'. Refute it at one input. -/
def fnRunsWrong : ChangeSpec := { name := "fnRuns", fn := fun _ => fun
  | [d] => { results := [.lit (.bool false)], args := [d] }
  | _ => none }
def FnRunsWrongFalsely : Prop := fnRunsRow.holds Try.pinned (OpenSpec.ofChange fnRunsWrong)

/-- 'laws.FnExactFixedLengths': WHATEVER THE INPUT: true; the input reads as it did. -/
def fnExactFixedLengthsSpec : ChangeSpec := { name := "fnExactFixedLengths", fn := fun _ => fun
  | [] => { results := [.lit (.bool true)], args := [] }
  | _ => none }
def fnExactFixedLengthsRow : OpenClaim := { program := "ytfmdenifbbhmdaa", sum := "c3c8334b9fae7ff864de9d02c57f7313150023f8c5da078d67e57653b8bdf6a2", func := "loop.example/g00099/laws.FnExactFixedLengths", spec := "fnExactFixedLengths", apart := false }
def FnExactFixedLengthsSaid : Prop := fnExactFixedLengthsRow.holds Try.pinned (OpenSpec.ofChange fnExactFixedLengthsSpec)

/-- ITS FALSE NEIGHBOUR: 'it returns false'. Refute it at one input. -/
def fnExactFixedLengthsWrong : ChangeSpec := { name := "fnExactFixedLengths", fn := fun _ => fun
  | [] => { results := [.lit (.bool false)], args := [] }
  | _ => none }
def FnExactFixedLengthsWrongFalsely : Prop := fnExactFixedLengthsRow.holds Try.pinned (OpenSpec.ofChange fnExactFixedLengthsWrong)

/-- 'laws.FnExactFillByte': WHATEVER THE INPUT: true; the input reads as it did. -/
def fnExactFillByteSpec : ChangeSpec := { name := "fnExactFillByte", fn := fun _ => fun
  | [d] => { results := [.lit (.bool true)], args := [d] }
  | _ => none }
def fnExactFillByteRow : OpenClaim := { program := "ytfmdenifbbhmdaa", sum := "c3c8334b9fae7ff864de9d02c57f7313150023f8c5da078d67e57653b8bdf6a2", func := "loop.example/g00099/laws.FnExactFillByte", spec := "fnExactFillByte", apart := false }
def FnExactFillByteSaid : Prop := fnExactFillByteRow.holds Try.pinned (OpenSpec.ofChange fnExactFillByteSpec)

/-- ITS FALSE NEIGHBOUR: 'it returns false'. Refute it at one input. -/
def fnExactFillByteWrong : ChangeSpec := { name := "fnExactFillByte", fn := fun _ => fun
  | [d] => { results := [.lit (.bool false)], args := [d] }
  | _ => none }
def FnExactFillByteWrongFalsely : Prop := fnExactFillByteRow.holds Try.pinned (OpenSpec.ofChange fnExactFillByteWrong)

/-- 'laws.FnExactPutBits': WHATEVER THE INPUT: true; the input reads as it did. -/
def fnExactPutBitsSpec : ChangeSpec := { name := "fnExactPutBits", fn := fun _ => fun
  | [d1, d2, d3] => { results := [.lit (.bool true)], args := [d1, d2, d3] }
  | _ => none }
def fnExactPutBitsRow : OpenClaim := { program := "ytfmdenifbbhmdaa", sum := "c3c8334b9fae7ff864de9d02c57f7313150023f8c5da078d67e57653b8bdf6a2", func := "loop.example/g00099/laws.FnExactPutBits", spec := "fnExactPutBits", apart := false }
def FnExactPutBitsSaid : Prop := fnExactPutBitsRow.holds Try.pinned (OpenSpec.ofChange fnExactPutBitsSpec)

/-- ITS FALSE NEIGHBOUR: 'it returns false'. Refute it at one input. -/
def fnExactPutBitsWrong : ChangeSpec := { name := "fnExactPutBits", fn := fun _ => fun
  | [d1, d2, d3] => { results := [.lit (.bool false)], args := [d1, d2, d3] }
  | _ => none }
def FnExactPutBitsWrongFalsely : Prop := fnExactPutBitsRow.holds Try.pinned (OpenSpec.ofChange fnExactPutBitsWrong)

/-- 'laws.FnExactPutCode': WHATEVER THE INPUT: true; the input reads as it did. -/
def fnExactPutCodeSpec : ChangeSpec := { name := "fnExactPutCode", fn := fun _ => fun
  | [d1, d2, d3] => { results := [.lit (.bool true)], args := [d1, d2, d3] }
  | _ => none }
def fnExactPutCodeRow : OpenClaim := { program := "ytfmdenifbbhmdaa", sum := "c3c8334b9fae7ff864de9d02c57f7313150023f8c5da078d67e57653b8bdf6a2", func := "loop.example/g00099/laws.FnExactPutCode", spec := "fnExactPutCode", apart := false }
def FnExactPutCodeSaid : Prop := fnExactPutCodeRow.holds Try.pinned (OpenSpec.ofChange fnExactPutCodeSpec)

/-- ITS FALSE NEIGHBOUR: 'it returns false'. Refute it at one input. -/
def fnExactPutCodeWrong : ChangeSpec := { name := "fnExactPutCode", fn := fun _ => fun
  | [d1, d2, d3] => { results := [.lit (.bool false)], args := [d1, d2, d3] }
  | _ => none }
def FnExactPutCodeWrongFalsely : Prop := fnExactPutCodeRow.holds Try.pinned (OpenSpec.ofChange fnExactPutCodeWrong)

/-- 'laws.FnBits': WHATEVER THE INPUT: true; the input reads as it did. -/
def fnBitsSpec : ChangeSpec := { name := "fnBits", fn := fun _ => fun
  | [d] => { results := [.lit (.bool true)], args := [d] }
  | _ => none }
def fnBitsRow : OpenClaim := { program := "ytfmdenifbbhmdaa", sum := "c3c8334b9fae7ff864de9d02c57f7313150023f8c5da078d67e57653b8bdf6a2", func := "loop.example/g00099/laws.FnBits", spec := "fnBits", apart := false }
def FnBitsSaid : Prop := fnBitsRow.holds Try.pinned (OpenSpec.ofChange fnBitsSpec)

/-- ITS FALSE NEIGHBOUR: 'it returns false'. Refute it at one input. -/
def fnBitsWrong : ChangeSpec := { name := "fnBits", fn := fun _ => fun
  | [d] => { results := [.lit (.bool false)], args := [d] }
  | _ => none }
def FnBitsWrongFalsely : Prop := fnBitsRow.holds Try.pinned (OpenSpec.ofChange fnBitsWrong)

/-- 'laws.FnBytes': WHATEVER THE INPUT: true; the input reads as it did. -/
def fnBytesSpec : ChangeSpec := { name := "fnBytes", fn := fun _ => fun
  | [d] => { results := [.lit (.bool true)], args := [d] }
  | _ => none }
def fnBytesRow : OpenClaim := { program := "ytfmdenifbbhmdaa", sum := "c3c8334b9fae7ff864de9d02c57f7313150023f8c5da078d67e57653b8bdf6a2", func := "loop.example/g00099/laws.FnBytes", spec := "fnBytes", apart := false }
def FnBytesSaid : Prop := fnBytesRow.holds Try.pinned (OpenSpec.ofChange fnBytesSpec)

/-- ITS FALSE NEIGHBOUR: 'it returns false'. Refute it at one input. -/
def fnBytesWrong : ChangeSpec := { name := "fnBytes", fn := fun _ => fun
  | [d] => { results := [.lit (.bool false)], args := [d] }
  | _ => none }
def FnBytesWrongFalsely : Prop := fnBytesRow.holds Try.pinned (OpenSpec.ofChange fnBytesWrong)

/-- 'laws.FnExactStoredBlock': WHATEVER THE INPUT: true; the input reads as it did. -/
def fnExactStoredBlockSpec : ChangeSpec := { name := "fnExactStoredBlock", fn := fun _ => fun
  | [d1, d2, d3] => { results := [.lit (.bool true)], args := [d1, d2, d3] }
  | _ => none }
def fnExactStoredBlockRow : OpenClaim := { program := "ytfmdenifbbhmdaa", sum := "c3c8334b9fae7ff864de9d02c57f7313150023f8c5da078d67e57653b8bdf6a2", func := "loop.example/g00099/laws.FnExactStoredBlock", spec := "fnExactStoredBlock", apart := false }
def FnExactStoredBlockSaid : Prop := fnExactStoredBlockRow.holds Try.pinned (OpenSpec.ofChange fnExactStoredBlockSpec)

/-- ITS FALSE NEIGHBOUR: 'it returns false'. Refute it at one input. -/
def fnExactStoredBlockWrong : ChangeSpec := { name := "fnExactStoredBlock", fn := fun _ => fun
  | [d1, d2, d3] => { results := [.lit (.bool false)], args := [d1, d2, d3] }
  | _ => none }
def FnExactStoredBlockWrongFalsely : Prop := fnExactStoredBlockRow.holds Try.pinned (OpenSpec.ofChange fnExactStoredBlockWrong)

/- THE SECOND FORM. 'bulk': how many values and letters a reading holds, each counted each time it is reached (what is shared counts as often as it is met; a slice's spare places count too). A statement '..UptoSaid' is the law's where the arguments, and the package variables that the reading takes, are together of bulk at most 1048576: NARROWER than '..Said'. Prove '..Said' where nothing that the law and all that it calls make is longer than what came in: it says more and counts as full. Else prove '..UptoSaid'. A law counts once. -/
mutual
def uptoBulk {H : Type} : DataW H → Nat
  | .lit (.string bytes) => bytes.length + 1
  | .lit _ => 1
  | .nil => 1
  | .ptr d => uptoBulk d + 1
  | .slice elems spare => uptoBulkAll elems + uptoBulkAll spare + 1
  | .agg parts => uptoBulkAll parts + 1
  | .iface _ d => uptoBulk d + 1
  | .map entries => uptoBulkEntries entries + 1
  | .held _ => 1
def uptoBulkAll {H : Type} : List (DataW H) → Nat
  | [] => 0
  | d :: r => uptoBulk d + uptoBulkAll r
def uptoBulkEntries {H : Type} : List (Lit × DataW H) → Nat
  | [] => 0
  | x :: r => uptoBulkEntry x + uptoBulkEntries r
def uptoBulkEntry {H : Type} : Lit × DataW H → Nat
  | (.string bytes, d) => bytes.length + uptoBulk d + 1
  | (_, d) => uptoBulk d + 1
 end
def uptoSmall : (H : Type) → List (DataW H) → Bool := fun _ ds => decide (uptoBulkAll ds ≤ 1048576)
def OpenSpec.upto (s : _root_.Go.ChangeSpec) : _root_.Go.OpenSpec := { _root_.Go.OpenSpec.ofChange s with cond := some uptoSmall }

/-- 'laws.FnExactRunsOf', WHERE WHAT IT READS IS OF BULK AT MOST 1048576: true; the input reads as it did. -/
def fnExactRunsOfUptoRow : OpenClaim := { program := "ytfmdenifbbhmdaa", sum := "c3c8334b9fae7ff864de9d02c57f7313150023f8c5da078d67e57653b8bdf6a2", func := "loop.example/g00099/laws.FnExactRunsOf", spec := "fnExactRunsOf", apart := false, narrowed := true }
def FnExactRunsOfUptoSaid : Prop := fnExactRunsOfUptoRow.holds Try.pinned (OpenSpec.upto fnExactRunsOfSpec)

/-- 'laws.FnExactRunsBack', WHERE WHAT IT READS IS OF BULK AT MOST 1048576: true; the input reads as it did. -/
def fnExactRunsBackUptoRow : OpenClaim := { program := "ytfmdenifbbhmdaa", sum := "c3c8334b9fae7ff864de9d02c57f7313150023f8c5da078d67e57653b8bdf6a2", func := "loop.example/g00099/laws.FnExactRunsBack", spec := "fnExactRunsBack", apart := false, narrowed := true }
def FnExactRunsBackUptoSaid : Prop := fnExactRunsBackUptoRow.holds Try.pinned (OpenSpec.upto fnExactRunsBackSpec)

/-- 'laws.FnRuns', WHERE WHAT IT READS IS OF BULK AT MOST 1048576: true; the input reads as it did. -/
def fnRunsUptoRow : OpenClaim := { program := "ytfmdenifbbhmdaa", sum := "c3c8334b9fae7ff864de9d02c57f7313150023f8c5da078d67e57653b8bdf6a2", func := "loop.example/g00099/laws.FnRuns", spec := "fnRuns", apart := false, narrowed := true }
def FnRunsUptoSaid : Prop := fnRunsUptoRow.holds Try.pinned (OpenSpec.upto fnRunsSpec)

/-- 'laws.FnExactFixedLengths', WHERE WHAT IT READS IS OF BULK AT MOST 1048576: true; the input reads as it did. -/
def fnExactFixedLengthsUptoRow : OpenClaim := { program := "ytfmdenifbbhmdaa", sum := "c3c8334b9fae7ff864de9d02c57f7313150023f8c5da078d67e57653b8bdf6a2", func := "loop.example/g00099/laws.FnExactFixedLengths", spec := "fnExactFixedLengths", apart := false, narrowed := true }
def FnExactFixedLengthsUptoSaid : Prop := fnExactFixedLengthsUptoRow.holds Try.pinned (OpenSpec.upto fnExactFixedLengthsSpec)

/-- 'laws.FnExactFillByte', WHERE WHAT IT READS IS OF BULK AT MOST 1048576: true; the input reads as it did. -/
def fnExactFillByteUptoRow : OpenClaim := { program := "ytfmdenifbbhmdaa", sum := "c3c8334b9fae7ff864de9d02c57f7313150023f8c5da078d67e57653b8bdf6a2", func := "loop.example/g00099/laws.FnExactFillByte", spec := "fnExactFillByte", apart := false, narrowed := true }
def FnExactFillByteUptoSaid : Prop := fnExactFillByteUptoRow.holds Try.pinned (OpenSpec.upto fnExactFillByteSpec)

/-- 'laws.FnExactPutBits', WHERE WHAT IT READS IS OF BULK AT MOST 1048576: true; the input reads as it did. -/
def fnExactPutBitsUptoRow : OpenClaim := { program := "ytfmdenifbbhmdaa", sum := "c3c8334b9fae7ff864de9d02c57f7313150023f8c5da078d67e57653b8bdf6a2", func := "loop.example/g00099/laws.FnExactPutBits", spec := "fnExactPutBits", apart := false, narrowed := true }
def FnExactPutBitsUptoSaid : Prop := fnExactPutBitsUptoRow.holds Try.pinned (OpenSpec.upto fnExactPutBitsSpec)

/-- 'laws.FnExactPutCode', WHERE WHAT IT READS IS OF BULK AT MOST 1048576: true; the input reads as it did. -/
def fnExactPutCodeUptoRow : OpenClaim := { program := "ytfmdenifbbhmdaa", sum := "c3c8334b9fae7ff864de9d02c57f7313150023f8c5da078d67e57653b8bdf6a2", func := "loop.example/g00099/laws.FnExactPutCode", spec := "fnExactPutCode", apart := false, narrowed := true }
def FnExactPutCodeUptoSaid : Prop := fnExactPutCodeUptoRow.holds Try.pinned (OpenSpec.upto fnExactPutCodeSpec)

/-- 'laws.FnBits', WHERE WHAT IT READS IS OF BULK AT MOST 1048576: true; the input reads as it did. -/
def fnBitsUptoRow : OpenClaim := { program := "ytfmdenifbbhmdaa", sum := "c3c8334b9fae7ff864de9d02c57f7313150023f8c5da078d67e57653b8bdf6a2", func := "loop.example/g00099/laws.FnBits", spec := "fnBits", apart := false, narrowed := true }
def FnBitsUptoSaid : Prop := fnBitsUptoRow.holds Try.pinned (OpenSpec.upto fnBitsSpec)

/-- 'laws.FnBytes', WHERE WHAT IT READS IS OF BULK AT MOST 1048576: true; the input reads as it did. -/
def fnBytesUptoRow : OpenClaim := { program := "ytfmdenifbbhmdaa", sum := "c3c8334b9fae7ff864de9d02c57f7313150023f8c5da078d67e57653b8bdf6a2", func := "loop.example/g00099/laws.FnBytes", spec := "fnBytes", apart := false, narrowed := true }
def FnBytesUptoSaid : Prop := fnBytesUptoRow.holds Try.pinned (OpenSpec.upto fnBytesSpec)

/-- 'laws.FnExactStoredBlock', WHERE WHAT IT READS IS OF BULK AT MOST 1048576: true; the input reads as it did. -/
def fnExactStoredBlockUptoRow : OpenClaim := { program := "ytfmdenifbbhmdaa", sum := "c3c8334b9fae7ff864de9d02c57f7313150023f8c5da078d67e57653b8bdf6a2", func := "loop.example/g00099/laws.FnExactStoredBlock", spec := "fnExactStoredBlock", apart := false, narrowed := true }
def FnExactStoredBlockUptoSaid : Prop := fnExactStoredBlockUptoRow.holds Try.pinned (OpenSpec.upto fnExactStoredBlockSpec)

end Rows
end Go.Proofs.Ytfmdenifbbhmdaa
