/-
  No cell of these rows narrows 'for every input' (looked for: loops, veiled, ifaces, maps, wideKeys, modest, calm, conditions, laid).
  DERIVED. THE GIVEN ROWS OF THIS SEAT. 12 by the template 'for every input the law returns true; each argument reads behind the call as it read before'; 0 by the template 'total and deterministic' (their statements: YtaknchcnapdllaaTotals.lean).
  GIVEN WITH THE SEED: the statements are not yours to turn. If you find one false, say at which input.
  Laid BY PROGRAM, IN A SANDBOX (cutbox-rows.mjs): the forced cells as the released guide's own fill.sh prints them over the translation 92ca898a16d1197d… (all of the seat's roots in one cut). By AI agents, Wed Nov 11 2026. No macro, syntax, notation, axiom, sorry.
-/
import Derived.Test.YtaknchcnapdllaaChecked
import GoSem.Claim
import GoSem.ClaimJoined
import GoSem.ClaimMapViews
import Derived.JoinedTies
import Derived.KernelRfl
namespace Go.Proofs.Ytaknchcnapdllaa
/- THE CELL 'sum', in the pinned program and in every row, IS THE sha256 OF THE DUMP (.gsa) THAT YtaknchcnapdllaaProg.lean LOADS. Nothing in Lean hashes anything: it is a label: what it is worth is what the hold of that sum in a sandbox is worth. -/
noncomputable def Try.pinned : Pinned := { name := "ytaknchcnapdllaa", sum := "92ca898a16d1197d61f41a8e2bd2bb9bfe2641e5380251a9d8330a6433234992", checked := Try.checked }
namespace Rows
def none {H : Type} : Left H := { results := [], args := [] }

/-- 'laws.FnExactConstants': WHATEVER THE INPUT: true; the input reads as it did. -/
def fnExactConstantsSpec : ChangeSpec := { name := "fnExactConstants", fn := fun _ => fun
  | [] => { results := [.lit (.bool true)], args := [] }
  | _ => none }
def fnExactConstantsRow : OpenClaim := { program := "ytaknchcnapdllaa", sum := "92ca898a16d1197d61f41a8e2bd2bb9bfe2641e5380251a9d8330a6433234992", func := "loop.example/g00099/laws.FnExactConstants", spec := "fnExactConstants", apart := false }
def FnExactConstantsSaid : Prop := fnExactConstantsRow.holds Try.pinned (OpenSpec.ofChange fnExactConstantsSpec)

/-- ITS FALSE NEIGHBOUR: 'it returns false'. Refute it at one input. -/
def fnExactConstantsWrong : ChangeSpec := { name := "fnExactConstants", fn := fun _ => fun
  | [] => { results := [.lit (.bool false)], args := [] }
  | _ => none }
def FnExactConstantsWrongFalsely : Prop := fnExactConstantsRow.holds Try.pinned (OpenSpec.ofChange fnExactConstantsWrong)

/-- 'laws.FnExactAdlerMore': WHATEVER THE INPUT: true; the input reads as it did. -/
def fnExactAdlerMoreSpec : ChangeSpec := { name := "fnExactAdlerMore", fn := fun _ => fun
  | [d1, d2] => { results := [.lit (.bool true)], args := [d1, d2] }
  | _ => none }
def fnExactAdlerMoreRow : OpenClaim := { program := "ytaknchcnapdllaa", sum := "92ca898a16d1197d61f41a8e2bd2bb9bfe2641e5380251a9d8330a6433234992", func := "loop.example/g00099/laws.FnExactAdlerMore", spec := "fnExactAdlerMore", apart := false }
def FnExactAdlerMoreSaid : Prop := fnExactAdlerMoreRow.holds Try.pinned (OpenSpec.ofChange fnExactAdlerMoreSpec)

/-- ITS FALSE NEIGHBOUR: 'it returns false'. Refute it at one input. -/
def fnExactAdlerMoreWrong : ChangeSpec := { name := "fnExactAdlerMore", fn := fun _ => fun
  | [d1, d2] => { results := [.lit (.bool false)], args := [d1, d2] }
  | _ => none }
def FnExactAdlerMoreWrongFalsely : Prop := fnExactAdlerMoreRow.holds Try.pinned (OpenSpec.ofChange fnExactAdlerMoreWrong)

/-- 'laws.FnExactAdler': WHATEVER THE INPUT: true; the input reads as it did. -/
def fnExactAdlerSpec : ChangeSpec := { name := "fnExactAdler", fn := fun _ => fun
  | [d] => { results := [.lit (.bool true)], args := [d] }
  | _ => none }
def fnExactAdlerRow : OpenClaim := { program := "ytaknchcnapdllaa", sum := "92ca898a16d1197d61f41a8e2bd2bb9bfe2641e5380251a9d8330a6433234992", func := "loop.example/g00099/laws.FnExactAdler", spec := "fnExactAdler", apart := false }
def FnExactAdlerSaid : Prop := fnExactAdlerRow.holds Try.pinned (OpenSpec.ofChange fnExactAdlerSpec)

/-- ITS FALSE NEIGHBOUR: 'it returns false'. Refute it at one input. -/
def fnExactAdlerWrong : ChangeSpec := { name := "fnExactAdler", fn := fun _ => fun
  | [d] => { results := [.lit (.bool false)], args := [d] }
  | _ => none }
def FnExactAdlerWrongFalsely : Prop := fnExactAdlerRow.holds Try.pinned (OpenSpec.ofChange fnExactAdlerWrong)

/-- 'laws.FnExactTokenOk': WHATEVER THE INPUT: true; the input reads as it did. -/
def fnExactTokenOkSpec : ChangeSpec := { name := "fnExactTokenOk", fn := fun _ => fun
  | [d] => { results := [.lit (.bool true)], args := [d] }
  | _ => none }
def fnExactTokenOkRow : OpenClaim := { program := "ytaknchcnapdllaa", sum := "92ca898a16d1197d61f41a8e2bd2bb9bfe2641e5380251a9d8330a6433234992", func := "loop.example/g00099/laws.FnExactTokenOk", spec := "fnExactTokenOk", apart := false }
def FnExactTokenOkSaid : Prop := fnExactTokenOkRow.holds Try.pinned (OpenSpec.ofChange fnExactTokenOkSpec)

/-- ITS FALSE NEIGHBOUR: 'it returns false'. Refute it at one input. -/
def fnExactTokenOkWrong : ChangeSpec := { name := "fnExactTokenOk", fn := fun _ => fun
  | [d] => { results := [.lit (.bool false)], args := [d] }
  | _ => none }
def FnExactTokenOkWrongFalsely : Prop := fnExactTokenOkRow.holds Try.pinned (OpenSpec.ofChange fnExactTokenOkWrong)

/-- 'laws.FnExactExtraBits': WHATEVER THE INPUT: true; the input reads as it did. -/
def fnExactExtraBitsSpec : ChangeSpec := { name := "fnExactExtraBits", fn := fun _ => fun
  | [d] => { results := [.lit (.bool true)], args := [d] }
  | _ => none }
def fnExactExtraBitsRow : OpenClaim := { program := "ytaknchcnapdllaa", sum := "92ca898a16d1197d61f41a8e2bd2bb9bfe2641e5380251a9d8330a6433234992", func := "loop.example/g00099/laws.FnExactExtraBits", spec := "fnExactExtraBits", apart := false }
def FnExactExtraBitsSaid : Prop := fnExactExtraBitsRow.holds Try.pinned (OpenSpec.ofChange fnExactExtraBitsSpec)

/-- ITS FALSE NEIGHBOUR: 'it returns false'. Refute it at one input. -/
def fnExactExtraBitsWrong : ChangeSpec := { name := "fnExactExtraBits", fn := fun _ => fun
  | [d] => { results := [.lit (.bool false)], args := [d] }
  | _ => none }
def FnExactExtraBitsWrongFalsely : Prop := fnExactExtraBitsRow.holds Try.pinned (OpenSpec.ofChange fnExactExtraBitsWrong)

/-- 'laws.FnExactReadBig': WHATEVER THE INPUT: true; the input reads as it did. -/
def fnExactReadBigSpec : ChangeSpec := { name := "fnExactReadBig", fn := fun _ => fun
  | [d1, d2, d3] => { results := [.lit (.bool true)], args := [d1, d2, d3] }
  | _ => none }
def fnExactReadBigRow : OpenClaim := { program := "ytaknchcnapdllaa", sum := "92ca898a16d1197d61f41a8e2bd2bb9bfe2641e5380251a9d8330a6433234992", func := "loop.example/g00099/laws.FnExactReadBig", spec := "fnExactReadBig", apart := false }
def FnExactReadBigSaid : Prop := fnExactReadBigRow.holds Try.pinned (OpenSpec.ofChange fnExactReadBigSpec)

/-- ITS FALSE NEIGHBOUR: 'it returns false'. Refute it at one input. -/
def fnExactReadBigWrong : ChangeSpec := { name := "fnExactReadBig", fn := fun _ => fun
  | [d1, d2, d3] => { results := [.lit (.bool false)], args := [d1, d2, d3] }
  | _ => none }
def FnExactReadBigWrongFalsely : Prop := fnExactReadBigRow.holds Try.pinned (OpenSpec.ofChange fnExactReadBigWrong)

/-- 'laws.FnExactAdlerJoin': WHATEVER THE INPUT: true; the input reads as it did. -/
def fnExactAdlerJoinSpec : ChangeSpec := { name := "fnExactAdlerJoin", fn := fun _ => fun
  | [d1, d2, d3] => { results := [.lit (.bool true)], args := [d1, d2, d3] }
  | _ => none }
def fnExactAdlerJoinRow : OpenClaim := { program := "ytaknchcnapdllaa", sum := "92ca898a16d1197d61f41a8e2bd2bb9bfe2641e5380251a9d8330a6433234992", func := "loop.example/g00099/laws.FnExactAdlerJoin", spec := "fnExactAdlerJoin", apart := false }
def FnExactAdlerJoinSaid : Prop := fnExactAdlerJoinRow.holds Try.pinned (OpenSpec.ofChange fnExactAdlerJoinSpec)

/-- ITS FALSE NEIGHBOUR: 'it returns false'. Refute it at one input. -/
def fnExactAdlerJoinWrong : ChangeSpec := { name := "fnExactAdlerJoin", fn := fun _ => fun
  | [d1, d2, d3] => { results := [.lit (.bool false)], args := [d1, d2, d3] }
  | _ => none }
def FnExactAdlerJoinWrongFalsely : Prop := fnExactAdlerJoinRow.holds Try.pinned (OpenSpec.ofChange fnExactAdlerJoinWrong)

/-- 'laws.FnExactCrcMore': WHATEVER THE INPUT: true; the input reads as it did. -/
def fnExactCrcMoreSpec : ChangeSpec := { name := "fnExactCrcMore", fn := fun _ => fun
  | [d1, d2] => { results := [.lit (.bool true)], args := [d1, d2] }
  | _ => none }
def fnExactCrcMoreRow : OpenClaim := { program := "ytaknchcnapdllaa", sum := "92ca898a16d1197d61f41a8e2bd2bb9bfe2641e5380251a9d8330a6433234992", func := "loop.example/g00099/laws.FnExactCrcMore", spec := "fnExactCrcMore", apart := false }
def FnExactCrcMoreSaid : Prop := fnExactCrcMoreRow.holds Try.pinned (OpenSpec.ofChange fnExactCrcMoreSpec)

/-- ITS FALSE NEIGHBOUR: 'it returns false'. Refute it at one input. -/
def fnExactCrcMoreWrong : ChangeSpec := { name := "fnExactCrcMore", fn := fun _ => fun
  | [d1, d2] => { results := [.lit (.bool false)], args := [d1, d2] }
  | _ => none }
def FnExactCrcMoreWrongFalsely : Prop := fnExactCrcMoreRow.holds Try.pinned (OpenSpec.ofChange fnExactCrcMoreWrong)

/-- 'laws.FnExactOutOk': WHATEVER THE INPUT: true; the input reads as it did. -/
def fnExactOutOkSpec : ChangeSpec := { name := "fnExactOutOk", fn := fun _ => fun
  | [d] => { results := [.lit (.bool true)], args := [d] }
  | _ => none }
def fnExactOutOkRow : OpenClaim := { program := "ytaknchcnapdllaa", sum := "92ca898a16d1197d61f41a8e2bd2bb9bfe2641e5380251a9d8330a6433234992", func := "loop.example/g00099/laws.FnExactOutOk", spec := "fnExactOutOk", apart := false }
def FnExactOutOkSaid : Prop := fnExactOutOkRow.holds Try.pinned (OpenSpec.ofChange fnExactOutOkSpec)

/-- ITS FALSE NEIGHBOUR: 'it returns false'. Refute it at one input. -/
def fnExactOutOkWrong : ChangeSpec := { name := "fnExactOutOk", fn := fun _ => fun
  | [d] => { results := [.lit (.bool false)], args := [d] }
  | _ => none }
def FnExactOutOkWrongFalsely : Prop := fnExactOutOkRow.holds Try.pinned (OpenSpec.ofChange fnExactOutOkWrong)

/-- 'laws.FnExactCrc': WHATEVER THE INPUT: true; the input reads as it did. -/
def fnExactCrcSpec : ChangeSpec := { name := "fnExactCrc", fn := fun _ => fun
  | [d] => { results := [.lit (.bool true)], args := [d] }
  | _ => none }
def fnExactCrcRow : OpenClaim := { program := "ytaknchcnapdllaa", sum := "92ca898a16d1197d61f41a8e2bd2bb9bfe2641e5380251a9d8330a6433234992", func := "loop.example/g00099/laws.FnExactCrc", spec := "fnExactCrc", apart := false }
def FnExactCrcSaid : Prop := fnExactCrcRow.holds Try.pinned (OpenSpec.ofChange fnExactCrcSpec)

/-- ITS FALSE NEIGHBOUR: 'it returns false'. Refute it at one input. -/
def fnExactCrcWrong : ChangeSpec := { name := "fnExactCrc", fn := fun _ => fun
  | [d] => { results := [.lit (.bool false)], args := [d] }
  | _ => none }
def FnExactCrcWrongFalsely : Prop := fnExactCrcRow.holds Try.pinned (OpenSpec.ofChange fnExactCrcWrong)

/-- 'laws.FnExactNextByte': WHATEVER THE INPUT: true; the input reads as it did. -/
def fnExactNextByteSpec : ChangeSpec := { name := "fnExactNextByte", fn := fun _ => fun
  | [d] => { results := [.lit (.bool true)], args := [d] }
  | _ => none }
def fnExactNextByteRow : OpenClaim := { program := "ytaknchcnapdllaa", sum := "92ca898a16d1197d61f41a8e2bd2bb9bfe2641e5380251a9d8330a6433234992", func := "loop.example/g00099/laws.FnExactNextByte", spec := "fnExactNextByte", apart := false }
def FnExactNextByteSaid : Prop := fnExactNextByteRow.holds Try.pinned (OpenSpec.ofChange fnExactNextByteSpec)

/-- ITS FALSE NEIGHBOUR: 'it returns false'. Refute it at one input. -/
def fnExactNextByteWrong : ChangeSpec := { name := "fnExactNextByte", fn := fun _ => fun
  | [d] => { results := [.lit (.bool false)], args := [d] }
  | _ => none }
def FnExactNextByteWrongFalsely : Prop := fnExactNextByteRow.holds Try.pinned (OpenSpec.ofChange fnExactNextByteWrong)

/-- 'laws.FnExactCrcJoin': WHATEVER THE INPUT: true; the input reads as it did. -/
def fnExactCrcJoinSpec : ChangeSpec := { name := "fnExactCrcJoin", fn := fun _ => fun
  | [d1, d2, d3] => { results := [.lit (.bool true)], args := [d1, d2, d3] }
  | _ => none }
def fnExactCrcJoinRow : OpenClaim := { program := "ytaknchcnapdllaa", sum := "92ca898a16d1197d61f41a8e2bd2bb9bfe2641e5380251a9d8330a6433234992", func := "loop.example/g00099/laws.FnExactCrcJoin", spec := "fnExactCrcJoin", apart := false }
def FnExactCrcJoinSaid : Prop := fnExactCrcJoinRow.holds Try.pinned (OpenSpec.ofChange fnExactCrcJoinSpec)

/-- ITS FALSE NEIGHBOUR: 'it returns false'. Refute it at one input. -/
def fnExactCrcJoinWrong : ChangeSpec := { name := "fnExactCrcJoin", fn := fun _ => fun
  | [d1, d2, d3] => { results := [.lit (.bool false)], args := [d1, d2, d3] }
  | _ => none }
def FnExactCrcJoinWrongFalsely : Prop := fnExactCrcJoinRow.holds Try.pinned (OpenSpec.ofChange fnExactCrcJoinWrong)

/- THE SECOND FORM. 'bulk': how many values and letters a reading holds, each counted each time it is reached (what is shared counts as often as it is met; a slice's spare places count too). A statement '..UptoSaid' is the law's where the arguments, and the package variables that the reading takes, are together of bulk at most 1048576: NARROWER than '..Said'. Prove '..Said' where nothing that the law and all that it calls make is longer than what came in: it says more and counts as full. Else prove '..UptoSaid'. A law counts once. -/
mutual
def uptoBulk {H : Type} : DataW H → Nat
  | .lit (.string bytes) => bytes.length + 1
  | .lit _ => 1
  | .nil => 1
  | .ptr d => uptoBulk d + 1
  | .slice elems spare => uptoBulkAll elems + uptoBulkAll spare + 1
  | .agg parts => uptoBulkAll parts + 1
  | .iface _ d => uptoBulk d + 1
  | .map entries => uptoBulkEntries entries + 1
  | .held _ => 1
def uptoBulkAll {H : Type} : List (DataW H) → Nat
  | [] => 0
  | d :: r => uptoBulk d + uptoBulkAll r
def uptoBulkEntries {H : Type} : List (Lit × DataW H) → Nat
  | [] => 0
  | x :: r => uptoBulkEntry x + uptoBulkEntries r
def uptoBulkEntry {H : Type} : Lit × DataW H → Nat
  | (.string bytes, d) => bytes.length + uptoBulk d + 1
  | (_, d) => uptoBulk d + 1
 end
def uptoSmall : (H : Type) → List (DataW H) → Bool := fun _ ds => decide (uptoBulkAll ds ≤ 1048576)
def OpenSpec.upto (s : _root_.Go.ChangeSpec) : _root_.Go.OpenSpec := { _root_.Go.OpenSpec.ofChange s with cond := some uptoSmall }

/-- 'laws.FnExactConstants', WHERE WHAT IT READS IS OF BULK AT MOST 1048576: true; the input reads as it did. -/
def fnExactConstantsUptoRow : OpenClaim := { program := "ytaknchcnapdllaa", sum := "92ca898a16d1197d61f41a8e2bd2bb9bfe2641e5380251a9d8330a6433234992", func := "loop.example/g00099/laws.FnExactConstants", spec := "fnExactConstants", apart := false, narrowed := true }
def FnExactConstantsUptoSaid : Prop := fnExactConstantsUptoRow.holds Try.pinned (OpenSpec.upto fnExactConstantsSpec)

/-- 'laws.FnExactAdlerMore', WHERE WHAT IT READS IS OF BULK AT MOST 1048576: true; the input reads as it did. -/
def fnExactAdlerMoreUptoRow : OpenClaim := { program := "ytaknchcnapdllaa", sum := "92ca898a16d1197d61f41a8e2bd2bb9bfe2641e5380251a9d8330a6433234992", func := "loop.example/g00099/laws.FnExactAdlerMore", spec := "fnExactAdlerMore", apart := false, narrowed := true }
def FnExactAdlerMoreUptoSaid : Prop := fnExactAdlerMoreUptoRow.holds Try.pinned (OpenSpec.upto fnExactAdlerMoreSpec)

/-- 'laws.FnExactAdler', WHERE WHAT IT READS IS OF BULK AT MOST 1048576: true; the input reads as it did. -/
def fnExactAdlerUptoRow : OpenClaim := { program := "ytaknchcnapdllaa", sum := "92ca898a16d1197d61f41a8e2bd2bb9bfe2641e5380251a9d8330a6433234992", func := "loop.example/g00099/laws.FnExactAdler", spec := "fnExactAdler", apart := false, narrowed := true }
def FnExactAdlerUptoSaid : Prop := fnExactAdlerUptoRow.holds Try.pinned (OpenSpec.upto fnExactAdlerSpec)

/-- 'laws.FnExactTokenOk', WHERE WHAT IT READS IS OF BULK AT MOST 1048576: true; the input reads as it did. -/
def fnExactTokenOkUptoRow : OpenClaim := { program := "ytaknchcnapdllaa", sum := "92ca898a16d1197d61f41a8e2bd2bb9bfe2641e5380251a9d8330a6433234992", func := "loop.example/g00099/laws.FnExactTokenOk", spec := "fnExactTokenOk", apart := false, narrowed := true }
def FnExactTokenOkUptoSaid : Prop := fnExactTokenOkUptoRow.holds Try.pinned (OpenSpec.upto fnExactTokenOkSpec)

/-- 'laws.FnExactExtraBits', WHERE WHAT IT READS IS OF BULK AT MOST 1048576: true; the input reads as it did. -/
def fnExactExtraBitsUptoRow : OpenClaim := { program := "ytaknchcnapdllaa", sum := "92ca898a16d1197d61f41a8e2bd2bb9bfe2641e5380251a9d8330a6433234992", func := "loop.example/g00099/laws.FnExactExtraBits", spec := "fnExactExtraBits", apart := false, narrowed := true }
def FnExactExtraBitsUptoSaid : Prop := fnExactExtraBitsUptoRow.holds Try.pinned (OpenSpec.upto fnExactExtraBitsSpec)

/-- 'laws.FnExactReadBig', WHERE WHAT IT READS IS OF BULK AT MOST 1048576: true; the input reads as it did. -/
def fnExactReadBigUptoRow : OpenClaim := { program := "ytaknchcnapdllaa", sum := "92ca898a16d1197d61f41a8e2bd2bb9bfe2641e5380251a9d8330a6433234992", func := "loop.example/g00099/laws.FnExactReadBig", spec := "fnExactReadBig", apart := false, narrowed := true }
def FnExactReadBigUptoSaid : Prop := fnExactReadBigUptoRow.holds Try.pinned (OpenSpec.upto fnExactReadBigSpec)

/-- 'laws.FnExactAdlerJoin', WHERE WHAT IT READS IS OF BULK AT MOST 1048576: true; the input reads as it did. -/
def fnExactAdlerJoinUptoRow : OpenClaim := { program := "ytaknchcnapdllaa", sum := "92ca898a16d1197d61f41a8e2bd2bb9bfe2641e5380251a9d8330a6433234992", func := "loop.example/g00099/laws.FnExactAdlerJoin", spec := "fnExactAdlerJoin", apart := false, narrowed := true }
def FnExactAdlerJoinUptoSaid : Prop := fnExactAdlerJoinUptoRow.holds Try.pinned (OpenSpec.upto fnExactAdlerJoinSpec)

/-- 'laws.FnExactCrcMore', WHERE WHAT IT READS IS OF BULK AT MOST 1048576: true; the input reads as it did. -/
def fnExactCrcMoreUptoRow : OpenClaim := { program := "ytaknchcnapdllaa", sum := "92ca898a16d1197d61f41a8e2bd2bb9bfe2641e5380251a9d8330a6433234992", func := "loop.example/g00099/laws.FnExactCrcMore", spec := "fnExactCrcMore", apart := false, narrowed := true }
def FnExactCrcMoreUptoSaid : Prop := fnExactCrcMoreUptoRow.holds Try.pinned (OpenSpec.upto fnExactCrcMoreSpec)

/-- 'laws.FnExactOutOk', WHERE WHAT IT READS IS OF BULK AT MOST 1048576: true; the input reads as it did. -/
def fnExactOutOkUptoRow : OpenClaim := { program := "ytaknchcnapdllaa", sum := "92ca898a16d1197d61f41a8e2bd2bb9bfe2641e5380251a9d8330a6433234992", func := "loop.example/g00099/laws.FnExactOutOk", spec := "fnExactOutOk", apart := false, narrowed := true }
def FnExactOutOkUptoSaid : Prop := fnExactOutOkUptoRow.holds Try.pinned (OpenSpec.upto fnExactOutOkSpec)

/-- 'laws.FnExactCrc', WHERE WHAT IT READS IS OF BULK AT MOST 1048576: true; the input reads as it did. -/
def fnExactCrcUptoRow : OpenClaim := { program := "ytaknchcnapdllaa", sum := "92ca898a16d1197d61f41a8e2bd2bb9bfe2641e5380251a9d8330a6433234992", func := "loop.example/g00099/laws.FnExactCrc", spec := "fnExactCrc", apart := false, narrowed := true }
def FnExactCrcUptoSaid : Prop := fnExactCrcUptoRow.holds Try.pinned (OpenSpec.upto fnExactCrcSpec)

/-- 'laws.FnExactNextByte', WHERE WHAT IT READS IS OF BULK AT MOST 1048576: true; the input reads as it did. -/
def fnExactNextByteUptoRow : OpenClaim := { program := "ytaknchcnapdllaa", sum := "92ca898a16d1197d61f41a8e2bd2bb9bfe2641e5380251a9d8330a6433234992", func := "loop.example/g00099/laws.FnExactNextByte", spec := "fnExactNextByte", apart := false, narrowed := true }
def FnExactNextByteUptoSaid : Prop := fnExactNextByteUptoRow.holds Try.pinned (OpenSpec.upto fnExactNextByteSpec)

/-- 'laws.FnExactCrcJoin', WHERE WHAT IT READS IS OF BULK AT MOST 1048576: true; the input reads as it did. -/
def fnExactCrcJoinUptoRow : OpenClaim := { program := "ytaknchcnapdllaa", sum := "92ca898a16d1197d61f41a8e2bd2bb9bfe2641e5380251a9d8330a6433234992", func := "loop.example/g00099/laws.FnExactCrcJoin", spec := "fnExactCrcJoin", apart := false, narrowed := true }
def FnExactCrcJoinUptoSaid : Prop := fnExactCrcJoinUptoRow.holds Try.pinned (OpenSpec.upto fnExactCrcJoinSpec)

end Rows
end Go.Proofs.Ytaknchcnapdllaa
