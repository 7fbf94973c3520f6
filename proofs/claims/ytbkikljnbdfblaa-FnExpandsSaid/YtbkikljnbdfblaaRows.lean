/-
  No cell of these rows narrows 'for every input' (looked for: loops, veiled, ifaces, maps, wideKeys, modest, calm, conditions, laid).
  DERIVED. THE GIVEN ROWS OF THIS SEAT. 12 by the template 'for every input the law returns true; each argument reads behind the call as it read before'; 0 by the template 'total and deterministic' (their statements: YtbkikljnbdfblaaTotals.lean).
  GIVEN WITH THE SEED: the statements are not yours to turn. If you find one false, say at which input.
  Laid BY PROGRAM, IN A SANDBOX (cutbox-rows.mjs): the forced cells as the released guide's own fill.sh prints them over the translation c339ec50d2919c85… (all of the seat's roots in one cut). By AI agents, Wed Nov 11 2026. No macro, syntax, notation, axiom, sorry.
-/
import Derived.Test.YtbkikljnbdfblaaChecked
import GoSem.Claim
import GoSem.ClaimJoined
import GoSem.ClaimMapViews
import Derived.JoinedTies
import Derived.KernelRfl
namespace Go.Proofs.Ytbkikljnbdfblaa
/- THE CELL 'sum', in the pinned program and in every row, IS THE sha256 OF THE DUMP (.gsa) THAT YtbkikljnbdfblaaProg.lean LOADS. Nothing in Lean hashes anything: it is a label: what it is worth is what the hold of that sum in a sandbox is worth. -/
noncomputable def Try.pinned : Pinned := { name := "ytbkikljnbdfblaa", sum := "c339ec50d2919c8516d24fea00033daa1b0a9c0d39a12759b64ffd33d5e7fb63", checked := Try.checked }
namespace Rows
def none {H : Type} : Left H := { results := [], args := [] }

/-- 'laws.FnExactBigText': WHATEVER THE INPUT: true; the input reads as it did. -/
def fnExactBigTextSpec : ChangeSpec := { name := "fnExactBigText", fn := fun _ => fun
  | [d1, d2] => { results := [.lit (.bool true)], args := [d1, d2] }
  | _ => none }
def fnExactBigTextRow : OpenClaim := { program := "ytbkikljnbdfblaa", sum := "c339ec50d2919c8516d24fea00033daa1b0a9c0d39a12759b64ffd33d5e7fb63", func := "loop.example/g00099/laws.FnExactBigText", spec := "fnExactBigText", apart := false }
def FnExactBigTextSaid : Prop := fnExactBigTextRow.holds Try.pinned (OpenSpec.ofChange fnExactBigTextSpec)

/-- ITS FALSE NEIGHBOUR: 'it returns false'. Refute it at one input. -/
def fnExactBigTextWrong : ChangeSpec := { name := "fnExactBigText", fn := fun _ => fun
  | [d1, d2] => { results := [.lit (.bool false)], args := [d1, d2] }
  | _ => none }
def FnExactBigTextWrongFalsely : Prop := fnExactBigTextRow.holds Try.pinned (OpenSpec.ofChange fnExactBigTextWrong)

/-- 'laws.FnExactTakeBits': WHATEVER THE INPUT: true; the input reads as it did. -/
def fnExactTakeBitsSpec : ChangeSpec := { name := "fnExactTakeBits", fn := fun _ => fun
  | [d1, d2] => { results := [.lit (.bool true)], args := [d1, d2] }
  | _ => none }
def fnExactTakeBitsRow : OpenClaim := { program := "ytbkikljnbdfblaa", sum := "c339ec50d2919c8516d24fea00033daa1b0a9c0d39a12759b64ffd33d5e7fb63", func := "loop.example/g00099/laws.FnExactTakeBits", spec := "fnExactTakeBits", apart := false }
def FnExactTakeBitsSaid : Prop := fnExactTakeBitsRow.holds Try.pinned (OpenSpec.ofChange fnExactTakeBitsSpec)

/-- ITS FALSE NEIGHBOUR: 'it returns false'. Refute it at one input. -/
def fnExactTakeBitsWrong : ChangeSpec := { name := "fnExactTakeBits", fn := fun _ => fun
  | [d1, d2] => { results := [.lit (.bool false)], args := [d1, d2] }
  | _ => none }
def FnExactTakeBitsWrongFalsely : Prop := fnExactTakeBitsRow.holds Try.pinned (OpenSpec.ofChange fnExactTakeBitsWrong)

/-- 'laws.FnExactDistOf': WHATEVER THE INPUT: true; the input reads as it did. -/
def fnExactDistOfSpec : ChangeSpec := { name := "fnExactDistOf", fn := fun _ => fun
  | [d1, d2] => { results := [.lit (.bool true)], args := [d1, d2] }
  | _ => none }
def fnExactDistOfRow : OpenClaim := { program := "ytbkikljnbdfblaa", sum := "c339ec50d2919c8516d24fea00033daa1b0a9c0d39a12759b64ffd33d5e7fb63", func := "loop.example/g00099/laws.FnExactDistOf", spec := "fnExactDistOf", apart := false }
def FnExactDistOfSaid : Prop := fnExactDistOfRow.holds Try.pinned (OpenSpec.ofChange fnExactDistOfSpec)

/-- ITS FALSE NEIGHBOUR: 'it returns false'. Refute it at one input. -/
def fnExactDistOfWrong : ChangeSpec := { name := "fnExactDistOf", fn := fun _ => fun
  | [d1, d2] => { results := [.lit (.bool false)], args := [d1, d2] }
  | _ => none }
def FnExactDistOfWrongFalsely : Prop := fnExactDistOfRow.holds Try.pinned (OpenSpec.ofChange fnExactDistOfWrong)

/-- 'laws.FnExactDistCode': WHATEVER THE INPUT: true; the input reads as it did. -/
def fnExactDistCodeSpec : ChangeSpec := { name := "fnExactDistCode", fn := fun _ => fun
  | [d] => { results := [.lit (.bool true)], args := [d] }
  | _ => none }
def fnExactDistCodeRow : OpenClaim := { program := "ytbkikljnbdfblaa", sum := "c339ec50d2919c8516d24fea00033daa1b0a9c0d39a12759b64ffd33d5e7fb63", func := "loop.example/g00099/laws.FnExactDistCode", spec := "fnExactDistCode", apart := false }
def FnExactDistCodeSaid : Prop := fnExactDistCodeRow.holds Try.pinned (OpenSpec.ofChange fnExactDistCodeSpec)

/-- ITS FALSE NEIGHBOUR: 'it returns false'. Refute it at one input. -/
def fnExactDistCodeWrong : ChangeSpec := { name := "fnExactDistCode", fn := fun _ => fun
  | [d] => { results := [.lit (.bool false)], args := [d] }
  | _ => none }
def FnExactDistCodeWrongFalsely : Prop := fnExactDistCodeRow.holds Try.pinned (OpenSpec.ofChange fnExactDistCodeWrong)

/-- 'laws.FnExactLengthOf': WHATEVER THE INPUT: true; the input reads as it did. -/
def fnExactLengthOfSpec : ChangeSpec := { name := "fnExactLengthOf", fn := fun _ => fun
  | [d1, d2] => { results := [.lit (.bool true)], args := [d1, d2] }
  | _ => none }
def fnExactLengthOfRow : OpenClaim := { program := "ytbkikljnbdfblaa", sum := "c339ec50d2919c8516d24fea00033daa1b0a9c0d39a12759b64ffd33d5e7fb63", func := "loop.example/g00099/laws.FnExactLengthOf", spec := "fnExactLengthOf", apart := false }
def FnExactLengthOfSaid : Prop := fnExactLengthOfRow.holds Try.pinned (OpenSpec.ofChange fnExactLengthOfSpec)

/-- ITS FALSE NEIGHBOUR: 'it returns false'. Refute it at one input. -/
def fnExactLengthOfWrong : ChangeSpec := { name := "fnExactLengthOf", fn := fun _ => fun
  | [d1, d2] => { results := [.lit (.bool false)], args := [d1, d2] }
  | _ => none }
def FnExactLengthOfWrongFalsely : Prop := fnExactLengthOfRow.holds Try.pinned (OpenSpec.ofChange fnExactLengthOfWrong)

/-- 'laws.FnExactLengthCode': WHATEVER THE INPUT: true; the input reads as it did. -/
def fnExactLengthCodeSpec : ChangeSpec := { name := "fnExactLengthCode", fn := fun _ => fun
  | [d] => { results := [.lit (.bool true)], args := [d] }
  | _ => none }
def fnExactLengthCodeRow : OpenClaim := { program := "ytbkikljnbdfblaa", sum := "c339ec50d2919c8516d24fea00033daa1b0a9c0d39a12759b64ffd33d5e7fb63", func := "loop.example/g00099/laws.FnExactLengthCode", spec := "fnExactLengthCode", apart := false }
def FnExactLengthCodeSaid : Prop := fnExactLengthCodeRow.holds Try.pinned (OpenSpec.ofChange fnExactLengthCodeSpec)

/-- ITS FALSE NEIGHBOUR: 'it returns false'. Refute it at one input. -/
def fnExactLengthCodeWrong : ChangeSpec := { name := "fnExactLengthCode", fn := fun _ => fun
  | [d] => { results := [.lit (.bool false)], args := [d] }
  | _ => none }
def FnExactLengthCodeWrongFalsely : Prop := fnExactLengthCodeRow.holds Try.pinned (OpenSpec.ofChange fnExactLengthCodeWrong)

/-- 'laws.FnExactCountsOf': WHATEVER THE INPUT: true; the input reads as it did. -/
def fnExactCountsOfSpec : ChangeSpec := { name := "fnExactCountsOf", fn := fun _ => fun
  | [d1, d2] => { results := [.lit (.bool true)], args := [d1, d2] }
  | _ => none }
def fnExactCountsOfRow : OpenClaim := { program := "ytbkikljnbdfblaa", sum := "c339ec50d2919c8516d24fea00033daa1b0a9c0d39a12759b64ffd33d5e7fb63", func := "loop.example/g00099/laws.FnExactCountsOf", spec := "fnExactCountsOf", apart := false }
def FnExactCountsOfSaid : Prop := fnExactCountsOfRow.holds Try.pinned (OpenSpec.ofChange fnExactCountsOfSpec)

/-- ITS FALSE NEIGHBOUR: 'it returns false'. Refute it at one input. -/
def fnExactCountsOfWrong : ChangeSpec := { name := "fnExactCountsOf", fn := fun _ => fun
  | [d1, d2] => { results := [.lit (.bool false)], args := [d1, d2] }
  | _ => none }
def FnExactCountsOfWrongFalsely : Prop := fnExactCountsOfRow.holds Try.pinned (OpenSpec.ofChange fnExactCountsOfWrong)

/-- 'laws.FnCounts': WHATEVER THE INPUT: true; the input reads as it did. -/
def fnCountsSpec : ChangeSpec := { name := "fnCounts", fn := fun _ => fun
  | [d] => { results := [.lit (.bool true)], args := [d] }
  | _ => none }
def fnCountsRow : OpenClaim := { program := "ytbkikljnbdfblaa", sum := "c339ec50d2919c8516d24fea00033daa1b0a9c0d39a12759b64ffd33d5e7fb63", func := "loop.example/g00099/laws.FnCounts", spec := "fnCounts", apart := false }
def FnCountsSaid : Prop := fnCountsRow.holds Try.pinned (OpenSpec.ofChange fnCountsSpec)

/-- ITS FALSE NEIGHBOUR: 'it returns false'. Refute it at one input. -/
def fnCountsWrong : ChangeSpec := { name := "fnCounts", fn := fun _ => fun
  | [d] => { results := [.lit (.bool false)], args := [d] }
  | _ => none }
def FnCountsWrongFalsely : Prop := fnCountsRow.holds Try.pinned (OpenSpec.ofChange fnCountsWrong)

/-- 'laws.FnExactExpand': WHATEVER THE INPUT: true; the input reads as it did. -/
def fnExactExpandSpec : ChangeSpec := { name := "fnExactExpand", fn := fun _ => fun
  | [d1, d2] => { results := [.lit (.bool true)], args := [d1, d2] }
  | _ => none }
def fnExactExpandRow : OpenClaim := { program := "ytbkikljnbdfblaa", sum := "c339ec50d2919c8516d24fea00033daa1b0a9c0d39a12759b64ffd33d5e7fb63", func := "loop.example/g00099/laws.FnExactExpand", spec := "fnExactExpand", apart := false }
def FnExactExpandSaid : Prop := fnExactExpandRow.holds Try.pinned (OpenSpec.ofChange fnExactExpandSpec)

/-- ITS FALSE NEIGHBOUR: 'it returns false'. Refute it at one input. -/
def fnExactExpandWrong : ChangeSpec := { name := "fnExactExpand", fn := fun _ => fun
  | [d1, d2] => { results := [.lit (.bool false)], args := [d1, d2] }
  | _ => none }
def FnExactExpandWrongFalsely : Prop := fnExactExpandRow.holds Try.pinned (OpenSpec.ofChange fnExactExpandWrong)

/-- 'laws.FnExpands': WHATEVER THE INPUT: true; the input reads as it did. -/
def fnExpandsSpec : ChangeSpec := { name := "fnExpands", fn := fun _ => fun
  | [d] => { results := [.lit (.bool true)], args := [d] }
  | _ => none }
def fnExpandsRow : OpenClaim := { program := "ytbkikljnbdfblaa", sum := "c339ec50d2919c8516d24fea00033daa1b0a9c0d39a12759b64ffd33d5e7fb63", func := "loop.example/g00099/laws.FnExpands", spec := "fnExpands", apart := false }
def FnExpandsSaid : Prop := fnExpandsRow.holds Try.pinned (OpenSpec.ofChange fnExpandsSpec)

/-- ITS FALSE NEIGHBOUR: 'it returns false'. Refute it at one input. -/
def fnExpandsWrong : ChangeSpec := { name := "fnExpands", fn := fun _ => fun
  | [d] => { results := [.lit (.bool false)], args := [d] }
  | _ => none }
def FnExpandsWrongFalsely : Prop := fnExpandsRow.holds Try.pinned (OpenSpec.ofChange fnExpandsWrong)

/-- 'laws.FnLengths': WHATEVER THE INPUT: true; the input reads as it did. -/
def fnLengthsSpec : ChangeSpec := { name := "fnLengths", fn := fun _ => fun
  | [d] => { results := [.lit (.bool true)], args := [d] }
  | _ => none }
def fnLengthsRow : OpenClaim := { program := "ytbkikljnbdfblaa", sum := "c339ec50d2919c8516d24fea00033daa1b0a9c0d39a12759b64ffd33d5e7fb63", func := "loop.example/g00099/laws.FnLengths", spec := "fnLengths", apart := false }
def FnLengthsSaid : Prop := fnLengthsRow.holds Try.pinned (OpenSpec.ofChange fnLengthsSpec)

/-- ITS FALSE NEIGHBOUR: 'it returns false'. Refute it at one input. -/
def fnLengthsWrong : ChangeSpec := { name := "fnLengths", fn := fun _ => fun
  | [d] => { results := [.lit (.bool false)], args := [d] }
  | _ => none }
def FnLengthsWrongFalsely : Prop := fnLengthsRow.holds Try.pinned (OpenSpec.ofChange fnLengthsWrong)

/-- 'laws.FnExactTokensCost': WHATEVER THE INPUT: true; the input reads as it did. -/
def fnExactTokensCostSpec : ChangeSpec := { name := "fnExactTokensCost", fn := fun _ => fun
  | [d] => { results := [.lit (.bool true)], args := [d] }
  | _ => none }
def fnExactTokensCostRow : OpenClaim := { program := "ytbkikljnbdfblaa", sum := "c339ec50d2919c8516d24fea00033daa1b0a9c0d39a12759b64ffd33d5e7fb63", func := "loop.example/g00099/laws.FnExactTokensCost", spec := "fnExactTokensCost", apart := false }
def FnExactTokensCostSaid : Prop := fnExactTokensCostRow.holds Try.pinned (OpenSpec.ofChange fnExactTokensCostSpec)

/-- ITS FALSE NEIGHBOUR: 'it returns false'. Refute it at one input. -/
def fnExactTokensCostWrong : ChangeSpec := { name := "fnExactTokensCost", fn := fun _ => fun
  | [d] => { results := [.lit (.bool false)], args := [d] }
  | _ => none }
def FnExactTokensCostWrongFalsely : Prop := fnExactTokensCostRow.holds Try.pinned (OpenSpec.ofChange fnExactTokensCostWrong)

/- THE SECOND FORM. 'bulk': how many values and letters a reading holds, each counted each time it is reached (what is shared counts as often as it is met; a slice's spare places count too). A statement '..UptoSaid' is the law's where the arguments, and the package variables that the reading takes, are together of bulk at most 1048576: NARROWER than '..Said'. Prove '..Said' where nothing that the law and all that it calls make is longer than what came in: it says more and counts as full. Else prove '..UptoSaid'. A law counts once. -/
mutual
def uptoBulk {H : Type} : DataW H → Nat
  | .lit (.string bytes) => bytes.length + 1
  | .lit _ => 1
  | .nil => 1
  | .ptr d => uptoBulk d + 1
  | .slice elems spare => uptoBulkAll elems + uptoBulkAll spare + 1
  | .agg parts => uptoBulkAll parts + 1
  | .iface _ d => uptoBulk d + 1
  | .map entries => uptoBulkEntries entries + 1
  | .held _ => 1
def uptoBulkAll {H : Type} : List (DataW H) → Nat
  | [] => 0
  | d :: r => uptoBulk d + uptoBulkAll r
def uptoBulkEntries {H : Type} : List (Lit × DataW H) → Nat
  | [] => 0
  | x :: r => uptoBulkEntry x + uptoBulkEntries r
def uptoBulkEntry {H : Type} : Lit × DataW H → Nat
  | (.string bytes, d) => bytes.length + uptoBulk d + 1
  | (_, d) => uptoBulk d + 1
 end
def uptoSmall : (H : Type) → List (DataW H) → Bool := fun _ ds => decide (uptoBulkAll ds ≤ 1048576)
def OpenSpec.upto (s : _root_.Go.ChangeSpec) : _root_.Go.OpenSpec := { _root_.Go.OpenSpec.ofChange s with cond := some uptoSmall }

/-- 'laws.FnExactBigText', WHERE WHAT IT READS IS OF BULK AT MOST 1048576: true; the input reads as it did. -/
def fnExactBigTextUptoRow : OpenClaim := { program := "ytbkikljnbdfblaa", sum := "c339ec50d2919c8516d24fea00033daa1b0a9c0d39a12759b64ffd33d5e7fb63", func := "loop.example/g00099/laws.FnExactBigText", spec := "fnExactBigText", apart := false, narrowed := true }
def FnExactBigTextUptoSaid : Prop := fnExactBigTextUptoRow.holds Try.pinned (OpenSpec.upto fnExactBigTextSpec)

/-- 'laws.FnExactTakeBits', WHERE WHAT IT READS IS OF BULK AT MOST 1048576: true; the input reads as it did. -/
def fnExactTakeBitsUptoRow : OpenClaim := { program := "ytbkikljnbdfblaa", sum := "c339ec50d2919c8516d24fea00033daa1b0a9c0d39a12759b64ffd33d5e7fb63", func := "loop.example/g00099/laws.FnExactTakeBits", spec := "fnExactTakeBits", apart := false, narrowed := true }
def FnExactTakeBitsUptoSaid : Prop := fnExactTakeBitsUptoRow.holds Try.pinned (OpenSpec.upto fnExactTakeBitsSpec)

/-- 'laws.FnExactDistOf', WHERE WHAT IT READS IS OF BULK AT MOST 1048576: true; the input reads as it did. -/
def fnExactDistOfUptoRow : OpenClaim := { program := "ytbkikljnbdfblaa", sum := "c339ec50d2919c8516d24fea00033daa1b0a9c0d39a12759b64ffd33d5e7fb63", func := "loop.example/g00099/laws.FnExactDistOf", spec := "fnExactDistOf", apart := false, narrowed := true }
def FnExactDistOfUptoSaid : Prop := fnExactDistOfUptoRow.holds Try.pinned (OpenSpec.upto fnExactDistOfSpec)

/-- 'laws.FnExactDistCode', WHERE WHAT IT READS IS OF BULK AT MOST 1048576: true; the input reads as it did. -/
def fnExactDistCodeUptoRow : OpenClaim := { program := "ytbkikljnbdfblaa", sum := "c339ec50d2919c8516d24fea00033daa1b0a9c0d39a12759b64ffd33d5e7fb63", func := "loop.example/g00099/laws.FnExactDistCode", spec := "fnExactDistCode", apart := false, narrowed := true }
def FnExactDistCodeUptoSaid : Prop := fnExactDistCodeUptoRow.holds Try.pinned (OpenSpec.upto fnExactDistCodeSpec)

/-- 'laws.FnExactLengthOf', WHERE WHAT IT READS IS OF BULK AT MOST 1048576: true; the input reads as it did. -/
def fnExactLengthOfUptoRow : OpenClaim := { program := "ytbkikljnbdfblaa", sum := "c339ec50d2919c8516d24fea00033daa1b0a9c0d39a12759b64ffd33d5e7fb63", func := "loop.example/g00099/laws.FnExactLengthOf", spec := "fnExactLengthOf", apart := false, narrowed := true }
def FnExactLengthOfUptoSaid : Prop := fnExactLengthOfUptoRow.holds Try.pinned (OpenSpec.upto fnExactLengthOfSpec)

/-- 'laws.FnExactLengthCode', WHERE WHAT IT READS IS OF BULK AT MOST 1048576: true; the input reads as it did. -/
def fnExactLengthCodeUptoRow : OpenClaim := { program := "ytbkikljnbdfblaa", sum := "c339ec50d2919c8516d24fea00033daa1b0a9c0d39a12759b64ffd33d5e7fb63", func := "loop.example/g00099/laws.FnExactLengthCode", spec := "fnExactLengthCode", apart := false, narrowed := true }
def FnExactLengthCodeUptoSaid : Prop := fnExactLengthCodeUptoRow.holds Try.pinned (OpenSpec.upto fnExactLengthCodeSpec)

/-- 'laws.FnExactCountsOf', WHERE WHAT IT READS IS OF BULK AT MOST 1048576: true; the input reads as it did. -/
def fnExactCountsOfUptoRow : OpenClaim := { program := "ytbkikljnbdfblaa", sum := "c339ec50d2919c8516d24fea00033daa1b0a9c0d39a12759b64ffd33d5e7fb63", func := "loop.example/g00099/laws.FnExactCountsOf", spec := "fnExactCountsOf", apart := false, narrowed := true }
def FnExactCountsOfUptoSaid : Prop := fnExactCountsOfUptoRow.holds Try.pinned (OpenSpec.upto fnExactCountsOfSpec)

/-- 'laws.FnCounts', WHERE WHAT IT READS IS OF BULK AT MOST 1048576: true; the input reads as it did. -/
def fnCountsUptoRow : OpenClaim := { program := "ytbkikljnbdfblaa", sum := "c339ec50d2919c8516d24fea00033daa1b0a9c0d39a12759b64ffd33d5e7fb63", func := "loop.example/g00099/laws.FnCounts", spec := "fnCounts", apart := false, narrowed := true }
def FnCountsUptoSaid : Prop := fnCountsUptoRow.holds Try.pinned (OpenSpec.upto fnCountsSpec)

/-- 'laws.FnExactExpand', WHERE WHAT IT READS IS OF BULK AT MOST 1048576: true; the input reads as it did. -/
def fnExactExpandUptoRow : OpenClaim := { program := "ytbkikljnbdfblaa", sum := "c339ec50d2919c8516d24fea00033daa1b0a9c0d39a12759b64ffd33d5e7fb63", func := "loop.example/g00099/laws.FnExactExpand", spec := "fnExactExpand", apart := false, narrowed := true }
def FnExactExpandUptoSaid : Prop := fnExactExpandUptoRow.holds Try.pinned (OpenSpec.upto fnExactExpandSpec)

/-- 'laws.FnExpands', WHERE WHAT IT READS IS OF BULK AT MOST 1048576: true; the input reads as it did. -/
def fnExpandsUptoRow : OpenClaim := { program := "ytbkikljnbdfblaa", sum := "c339ec50d2919c8516d24fea00033daa1b0a9c0d39a12759b64ffd33d5e7fb63", func := "loop.example/g00099/laws.FnExpands", spec := "fnExpands", apart := false, narrowed := true }
def FnExpandsUptoSaid : Prop := fnExpandsUptoRow.holds Try.pinned (OpenSpec.upto fnExpandsSpec)

/-- 'laws.FnLengths', WHERE WHAT IT READS IS OF BULK AT MOST 1048576: true; the input reads as it did. -/
def fnLengthsUptoRow : OpenClaim := { program := "ytbkikljnbdfblaa", sum := "c339ec50d2919c8516d24fea00033daa1b0a9c0d39a12759b64ffd33d5e7fb63", func := "loop.example/g00099/laws.FnLengths", spec := "fnLengths", apart := false, narrowed := true }
def FnLengthsUptoSaid : Prop := fnLengthsUptoRow.holds Try.pinned (OpenSpec.upto fnLengthsSpec)

/-- 'laws.FnExactTokensCost', WHERE WHAT IT READS IS OF BULK AT MOST 1048576: true; the input reads as it did. -/
def fnExactTokensCostUptoRow : OpenClaim := { program := "ytbkikljnbdfblaa", sum := "c339ec50d2919c8516d24fea00033daa1b0a9c0d39a12759b64ffd33d5e7fb63", func := "loop.example/g00099/laws.FnExactTokensCost", spec := "fnExactTokensCost", apart := false, narrowed := true }
def FnExactTokensCostUptoSaid : Prop := fnExactTokensCostUptoRow.holds Try.pinned (OpenSpec.upto fnExactTokensCostSpec)

end Rows
end Go.Proofs.Ytbkikljnbdfblaa
