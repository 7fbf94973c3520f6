/-
  No cell of these rows narrows 'for every input' (looked for: loops, veiled, ifaces, maps, wideKeys, modest, calm, conditions, laid).
  DERIVED. THE GIVEN ROWS OF THIS SEAT. 6 by the template 'for every input the law returns true; each argument reads behind the call as it read before'; 0 by the template 'total and deterministic' (their statements: YtaaoojmbomhakaaTotals.lean).
  GIVEN WITH THE SEED: the statements are not yours to turn. If you find one false, say at which input.
  Laid BY PROGRAM, IN A SANDBOX (cutbox-rows.mjs): the forced cells as the released guide's own fill.sh prints them over the translation a5f05d44a0651065… (all of the seat's roots in one cut). By AI agents, Wed Nov 11 2026. No macro, syntax, notation, axiom, sorry.
-/
import Derived.Test.YtaaoojmbomhakaaChecked
import GoSem.Claim
import GoSem.ClaimJoined
import GoSem.ClaimMapViews
import Derived.JoinedTies
import Derived.KernelRfl
namespace Go.Proofs.Ytaaoojmbomhakaa
/- THE CELL 'sum', in the pinned program and in every row, IS THE sha256 OF THE DUMP (.gsa) THAT YtaaoojmbomhakaaProg.lean LOADS. Nothing in Lean hashes anything: it is a label: what it is worth is what the hold of that sum in a sandbox is worth. -/
noncomputable def Try.pinned : Pinned := { name := "ytaaoojmbomhakaa", sum := "a5f05d44a0651065e5fe0b818bc17be1aec9324a379d420158a5354fdc961614", checked := Try.checked }
namespace Rows
def none {H : Type} : Left H := { results := [], args := [] }

/-- 'laws.FnExactBestMatch': WHATEVER THE INPUT: true; the input reads as it did. -/
def fnExactBestMatchSpec : ChangeSpec := { name := "fnExactBestMatch", fn := fun _ => fun
  | [d1, d2, d3] => { results := [.lit (.bool true)], args := [d1, d2, d3] }
  | _ => none }
def fnExactBestMatchRow : OpenClaim := { program := "ytaaoojmbomhakaa", sum := "a5f05d44a0651065e5fe0b818bc17be1aec9324a379d420158a5354fdc961614", func := "loop.example/g00099/laws.FnExactBestMatch", spec := "fnExactBestMatch", apart := false }
def FnExactBestMatchSaid : Prop := fnExactBestMatchRow.holds Try.pinned (OpenSpec.ofChange fnExactBestMatchSpec)

/-- ITS FALSE NEIGHBOUR: 'it returns false'. Refute it at one input. -/
def fnExactBestMatchWrong : ChangeSpec := { name := "fnExactBestMatch", fn := fun _ => fun
  | [d1, d2, d3] => { results := [.lit (.bool false)], args := [d1, d2, d3] }
  | _ => none }
def FnExactBestMatchWrongFalsely : Prop := fnExactBestMatchRow.holds Try.pinned (OpenSpec.ofChange fnExactBestMatchWrong)

/-- 'laws.FnExactGreedy': WHATEVER THE INPUT: true; the input reads as it did. -/
def fnExactGreedySpec : ChangeSpec := { name := "fnExactGreedy", fn := fun _ => fun
  | [d1, d2] => { results := [.lit (.bool true)], args := [d1, d2] }
  | _ => none }
def fnExactGreedyRow : OpenClaim := { program := "ytaaoojmbomhakaa", sum := "a5f05d44a0651065e5fe0b818bc17be1aec9324a379d420158a5354fdc961614", func := "loop.example/g00099/laws.FnExactGreedy", spec := "fnExactGreedy", apart := false }
def FnExactGreedySaid : Prop := fnExactGreedyRow.holds Try.pinned (OpenSpec.ofChange fnExactGreedySpec)

/-- ITS FALSE NEIGHBOUR: 'it returns false'. Refute it at one input. -/
def fnExactGreedyWrong : ChangeSpec := { name := "fnExactGreedy", fn := fun _ => fun
  | [d1, d2] => { results := [.lit (.bool false)], args := [d1, d2] }
  | _ => none }
def FnExactGreedyWrongFalsely : Prop := fnExactGreedyRow.holds Try.pinned (OpenSpec.ofChange fnExactGreedyWrong)

/-- 'laws.FnExactLazy': WHATEVER THE INPUT: true; the input reads as it did. -/
def fnExactLazySpec : ChangeSpec := { name := "fnExactLazy", fn := fun _ => fun
  | [d1, d2] => { results := [.lit (.bool true)], args := [d1, d2] }
  | _ => none }
def fnExactLazyRow : OpenClaim := { program := "ytaaoojmbomhakaa", sum := "a5f05d44a0651065e5fe0b818bc17be1aec9324a379d420158a5354fdc961614", func := "loop.example/g00099/laws.FnExactLazy", spec := "fnExactLazy", apart := false }
def FnExactLazySaid : Prop := fnExactLazyRow.holds Try.pinned (OpenSpec.ofChange fnExactLazySpec)

/-- ITS FALSE NEIGHBOUR: 'it returns false'. Refute it at one input. -/
def fnExactLazyWrong : ChangeSpec := { name := "fnExactLazy", fn := fun _ => fun
  | [d1, d2] => { results := [.lit (.bool false)], args := [d1, d2] }
  | _ => none }
def FnExactLazyWrongFalsely : Prop := fnExactLazyRow.holds Try.pinned (OpenSpec.ofChange fnExactLazyWrong)

/-- 'laws.FnExactCheapest': WHATEVER THE INPUT: true; the input reads as it did. -/
def fnExactCheapestSpec : ChangeSpec := { name := "fnExactCheapest", fn := fun _ => fun
  | [d1, d2] => { results := [.lit (.bool true)], args := [d1, d2] }
  | _ => none }
def fnExactCheapestRow : OpenClaim := { program := "ytaaoojmbomhakaa", sum := "a5f05d44a0651065e5fe0b818bc17be1aec9324a379d420158a5354fdc961614", func := "loop.example/g00099/laws.FnExactCheapest", spec := "fnExactCheapest", apart := false }
def FnExactCheapestSaid : Prop := fnExactCheapestRow.holds Try.pinned (OpenSpec.ofChange fnExactCheapestSpec)

/-- ITS FALSE NEIGHBOUR: 'it returns false'. Refute it at one input. -/
def fnExactCheapestWrong : ChangeSpec := { name := "fnExactCheapest", fn := fun _ => fun
  | [d1, d2] => { results := [.lit (.bool false)], args := [d1, d2] }
  | _ => none }
def FnExactCheapestWrongFalsely : Prop := fnExactCheapestRow.holds Try.pinned (OpenSpec.ofChange fnExactCheapestWrong)

/-- 'laws.FnMatches': WHATEVER THE INPUT: true; the input reads as it did. -/
def fnMatchesSpec : ChangeSpec := { name := "fnMatches", fn := fun _ => fun
  | [d] => { results := [.lit (.bool true)], args := [d] }
  | _ => none }
def fnMatchesRow : OpenClaim := { program := "ytaaoojmbomhakaa", sum := "a5f05d44a0651065e5fe0b818bc17be1aec9324a379d420158a5354fdc961614", func := "loop.example/g00099/laws.FnMatches", spec := "fnMatches", apart := false }
def FnMatchesSaid : Prop := fnMatchesRow.holds Try.pinned (OpenSpec.ofChange fnMatchesSpec)

/-- ITS FALSE NEIGHBOUR: 'it returns false'. Refute it at one input. -/
def fnMatchesWrong : ChangeSpec := { name := "fnMatches", fn := fun _ => fun
  | [d] => { results := [.lit (.bool false)], args := [d] }
  | _ => none }
def FnMatchesWrongFalsely : Prop := fnMatchesRow.holds Try.pinned (OpenSpec.ofChange fnMatchesWrong)

/-- 'laws.FnCheapest': WHATEVER THE INPUT: true; the input reads as it did. -/
def fnCheapestSpec : ChangeSpec := { name := "fnCheapest", fn := fun _ => fun
  | [d] => { results := [.lit (.bool true)], args := [d] }
  | _ => none }
def fnCheapestRow : OpenClaim := { program := "ytaaoojmbomhakaa", sum := "a5f05d44a0651065e5fe0b818bc17be1aec9324a379d420158a5354fdc961614", func := "loop.example/g00099/laws.FnCheapest", spec := "fnCheapest", apart := false }
def FnCheapestSaid : Prop := fnCheapestRow.holds Try.pinned (OpenSpec.ofChange fnCheapestSpec)

/-- ITS FALSE NEIGHBOUR: 'it returns false'. Refute it at one input. -/
def fnCheapestWrong : ChangeSpec := { name := "fnCheapest", fn := fun _ => fun
  | [d] => { results := [.lit (.bool false)], args := [d] }
  | _ => none }
def FnCheapestWrongFalsely : Prop := fnCheapestRow.holds Try.pinned (OpenSpec.ofChange fnCheapestWrong)

/- THE SECOND FORM. 'bulk': how many values and letters a reading holds, each counted each time it is reached (what is shared counts as often as it is met; a slice's spare places count too). A statement '..UptoSaid' is the law's where the arguments, and the package variables that the reading takes, are together of bulk at most 1048576: NARROWER than '..Said'. Prove '..Said' where nothing that the law and all that it calls make is longer than what came in: it says more and counts as full. Else prove '..UptoSaid'. A law counts once. -/
mutual
def uptoBulk {H : Type} : DataW H → Nat
  | .lit (.string bytes) => bytes.length + 1
  | .lit _ => 1
  | .nil => 1
  | .ptr d => uptoBulk d + 1
  | .slice elems spare => uptoBulkAll elems + uptoBulkAll spare + 1
  | .agg parts => uptoBulkAll parts + 1
  | .iface _ d => uptoBulk d + 1
  | .map entries => uptoBulkEntries entries + 1
  | .held _ => 1
def uptoBulkAll {H : Type} : List (DataW H) → Nat
  | [] => 0
  | d :: r => uptoBulk d + uptoBulkAll r
def uptoBulkEntries {H : Type} : List (Lit × DataW H) → Nat
  | [] => 0
  | x :: r => uptoBulkEntry x + uptoBulkEntries r
def uptoBulkEntry {H : Type} : Lit × DataW H → Nat
  | (.string bytes, d) => bytes.length + uptoBulk d + 1
  | (_, d) => uptoBulk d + 1
 end
def uptoSmall : (H : Type) → List (DataW H) → Bool := fun _ ds => decide (uptoBulkAll ds ≤ 1048576)
def OpenSpec.upto (s : _root_.Go.ChangeSpec) : _root_.Go.OpenSpec := { _root_.Go.OpenSpec.ofChange s with cond := some uptoSmall }

/-- 'laws.FnExactBestMatch', WHERE WHAT IT READS IS OF BULK AT MOST 1048576: true; the input reads as it did. -/
def fnExactBestMatchUptoRow : OpenClaim := { program := "ytaaoojmbomhakaa", sum := "a5f05d44a0651065e5fe0b818bc17be1aec9324a379d420158a5354fdc961614", func := "loop.example/g00099/laws.FnExactBestMatch", spec := "fnExactBestMatch", apart := false, narrowed := true }
def FnExactBestMatchUptoSaid : Prop := fnExactBestMatchUptoRow.holds Try.pinned (OpenSpec.upto fnExactBestMatchSpec)

/-- 'laws.FnExactGreedy', WHERE WHAT IT READS IS OF BULK AT MOST 1048576: true; the input reads as it did. -/
def fnExactGreedyUptoRow : OpenClaim := { program := "ytaaoojmbomhakaa", sum := "a5f05d44a0651065e5fe0b818bc17be1aec9324a379d420158a5354fdc961614", func := "loop.example/g00099/laws.FnExactGreedy", spec := "fnExactGreedy", apart := false, narrowed := true }
def FnExactGreedyUptoSaid : Prop := fnExactGreedyUptoRow.holds Try.pinned (OpenSpec.upto fnExactGreedySpec)

/-- 'laws.FnExactLazy', WHERE WHAT IT READS IS OF BULK AT MOST 1048576: true; the input reads as it did. -/
def fnExactLazyUptoRow : OpenClaim := { program := "ytaaoojmbomhakaa", sum := "a5f05d44a0651065e5fe0b818bc17be1aec9324a379d420158a5354fdc961614", func := "loop.example/g00099/laws.FnExactLazy", spec := "fnExactLazy", apart := false, narrowed := true }
def FnExactLazyUptoSaid : Prop := fnExactLazyUptoRow.holds Try.pinned (OpenSpec.upto fnExactLazySpec)

/-- 'laws.FnExactCheapest', WHERE WHAT IT READS IS OF BULK AT MOST 1048576: true; the input reads as it did. -/
def fnExactCheapestUptoRow : OpenClaim := { program := "ytaaoojmbomhakaa", sum := "a5f05d44a0651065e5fe0b818bc17be1aec9324a379d420158a5354fdc961614", func := "loop.example/g00099/laws.FnExactCheapest", spec := "fnExactCheapest", apart := false, narrowed := true }
def FnExactCheapestUptoSaid : Prop := fnExactCheapestUptoRow.holds Try.pinned (OpenSpec.upto fnExactCheapestSpec)

/-- 'laws.FnMatches', WHERE WHAT IT READS IS OF BULK AT MOST 1048576: true; the input reads as it did. -/
def fnMatchesUptoRow : OpenClaim := { program := "ytaaoojmbomhakaa", sum := "a5f05d44a0651065e5fe0b818bc17be1aec9324a379d420158a5354fdc961614", func := "loop.example/g00099/laws.FnMatches", spec := "fnMatches", apart := false, narrowed := true }
def FnMatchesUptoSaid : Prop := fnMatchesUptoRow.holds Try.pinned (OpenSpec.upto fnMatchesSpec)

/-- 'laws.FnCheapest', WHERE WHAT IT READS IS OF BULK AT MOST 1048576: true; the input reads as it did. -/
def fnCheapestUptoRow : OpenClaim := { program := "ytaaoojmbomhakaa", sum := "a5f05d44a0651065e5fe0b818bc17be1aec9324a379d420158a5354fdc961614", func := "loop.example/g00099/laws.FnCheapest", spec := "fnCheapest", apart := false, narrowed := true }
def FnCheapestUptoSaid : Prop := fnCheapestUptoRow.holds Try.pinned (OpenSpec.upto fnCheapestSpec)

end Rows
end Go.Proofs.Ytaaoojmbomhakaa
