-- Written by a program of this session (a changed print); Lean checks it.
import Derived.Test.YtimomemkbcidnaaRows
import Derived.Test.YtimomemkbcidnaaPFnExactTokenLengthsx11
import Derived.Test.YtimomemkbcidnaaPureFnExactTokenLengths
import Derived.Test.YtimomemkbcidnaaMRow
import Derived.WalkKit
import Derived.ProofKit
import Derived.OpenShut
import Derived.ShutString
import Derived.ChangeOld
import Derived.Below
import Derived.SizedLaws
import Derived.Lib.SmallJoins
import Derived.Deep.Slices
import Derived.Test.YtimomemkbcidnaaWSized
namespace Go.Proofs.Ytimomemkbcidnaa.fnExactTokenLengths
open Go.ChangeShapes Go.WideShapes Go.ChangeAt Go.RowKit Go.Joins Go.Proofs.YtimomemkbcidnaaW.PrintWords Go.Proofs.Ytimomemkbcidnaa.MRow
open Go.ChangeMaps (open_string shut_string)
set_option linter.unusedVariables false
theorem own : ownKnob Try.prog.godebug = none := by kernel_rfl
theorem laidOut : laidOutB Try.prog = true := by kernel_rfl
theorem elem112 {H : Type} {enc : TypeId × Value → H} {W : World} {base : Nat} {spare : Nat → Bool} {held : Bool} (m : Nat) (cs : List Value) (y : DataW H × List MemPlace) (hcl : cs.length = 3) (h : DataW.trod enc Try.prog W base spare held m 112 cs = some y) :
    ∃ p : PFnExactTokenLengths.S112, PFnExactTokenLengths.k112.K W p cs ∧ (Lit.int .i64 p.f0).wf = true ∧ (Lit.int .i64 p.f1).wf = true ∧ (Lit.int .i64 p.f2).wf = true := by
  obtain ⟨c0, c1, c2, rfl⟩ : ∃ c0 c1 c2, cs = [c0, c1, c2] := by
    match cs, hcl with
    | [c0, c1, c2], _ => exact ⟨c0, c1, c2, rfl⟩
  obtain ⟨m', y0, hy0, y1, hy1, y2, hy2⟩ := trod_agg3 Try.underlying112 (by kernel_rfl) h
  obtain ⟨x0, e0, rfl, w0⟩ := DataW.trod_int Try.underlying3 hy0
  simp only [List.cons.injEq, and_true] at e0
  subst e0
  obtain ⟨x1, e1, rfl, w1⟩ := DataW.trod_int Try.underlying3 hy1
  simp only [List.cons.injEq, and_true] at e1
  subst e1
  obtain ⟨x2, e2, rfl, w2⟩ := DataW.trod_int Try.underlying3 hy2
  simp only [List.cons.injEq, and_true] at e2
  subst e2
  exact ⟨⟨x0, x1, x2⟩, by simp [PFnExactTokenLengths.k112, Kd.iso, Kd.pair, Kd.int, Kd.scalar], w0, w1, w2⟩
set_option maxRecDepth 100000 in
theorem lifted (os : Os) (started : os.Started) (H : Type) (enc : TypeId × Value → H) :
    ReturnsInHanded {} Try.checked os 12 .any (Rows.fnExactTokenLengthsSpec.pre6 enc Try.prog Try.f12 Rows.fnExactTokenLengthsRow.domain false) (Rows.fnExactTokenLengthsSpec.post enc Try.prog Try.f12 false true false false) := by
  refine returnsInHanded_of_change_sized (C := Try.checked) own started (by kernel_rfl) Try.func12
    (ChangeSpec.witness6 (enc := enc) (C := Try.checked) false ⟨#[], #[.slice none 0 0], []⟩ 8 (by kernel_rfl) (by kernel_rfl) (by kernel_rfl) (by kernel_rfl)) ?_
  intro W base args ds gs before hval0 hW hcnd hsz0 _
  have hsz : (DataW.weightsEach Try.prog (Try.f12.params.toList ++ Rows.fnExactTokenLengthsSpec.plain.varTypes Try.prog) (ds ++ gs)).all (· ≤ reachBytes) = true := hsz0
  have hval : ∀ (j : Nat) t v, Try.f12.params[j]? = some t → args[j]? = some v → Value.okWide Try.prog W .any base t v := hval0
  have hW' := hW
  obtain ⟨p, q, hA0, hV, rfl, hfz, hnd⟩ := hW
  have hA : DataW.TrodAll enc Try.prog W 0 (fun _ => true) true Try.f12.params.toList args.toList ds p := hA0
  rw [Try.params12] at hA hval hsz
  obtain ⟨v0, vs0, d0, ds0, p0, q0, hargs, rfl, rfl, h0, r0⟩ := trodAll_cons hA
  obtain ⟨rfl, rfl, rfl⟩ := trodAll_nil r0
  obtain rfl : args = #[v0] := by cases args; simp_all
  obtain ⟨rfl, rfl⟩ := trodVars_none hV
  obtain ⟨a0, len0, cap0, rfl⟩ := okWide_slice Try.underlying57 (hval 0 57 v0 rfl rfl)
  have k0 := h0
  have lt0 : ∀ x ∈ p0, x.block < W.heap.size := by obtain ⟨m, hm⟩ := k0; exact DataW.trod_lt m _ _ _ hm
  obtain ⟨l0, rfl, hr0, hc0, hm0, hw0⟩ := open_rows Try.underlying57 (by kernel_rfl) PFnExactTokenLengths.k112 (by kernel_rfl) (fun m cs y hcl h_ => elem112 m cs y hcl h_) h0
  clear hA0 hval0 hsz0 hsz
  refine (PFnExactTokenLengths.laws_FnExactTokenLengths.walk Pure.FnExactTokenLengths W a0 cap0 l0 hr0 hc0 hm0 hw0).mono fun e W' ⟨he, bel⟩ => ?_
  subst he
  exact ⟨_, rfl, _, _, _, [], _, [], hW', trodAll_mk1 (shut_bool Try.underlying4 _), (trodAll_cons_mk (Below.trod laidOut (by kernel_rfl) (of_decide_eq_true (by kernel_rfl)) k0 bel lt0) trodAll_mk0), rfl, bel.frame _, fun h => by cases h⟩
theorem over : Rows.fnExactTokenLengthsRow.holds Try.pinned (OpenSpec.ofChange Rows.fnExactTokenLengthsSpec) :=
  OpenClaim.holds_of_wide 12 Try.f12 rfl rfl rfl rfl rfl rfl rfl ⟨rfl, rfl, rfl, rfl, rfl⟩ rfl rfl rfl rfl rfl (by kernel_rfl) Try.func12 (by kernel_rfl)
    (of_decide_eq_true (by kernel_rfl)) (by unfold Func.isWrapper; first | (rw [if_pos (by decide +kernel)]; kernel_rfl) | (rw [if_neg (by decide +kernel)]; exact ⟨rfl, rfl⟩))
    (fun os started H enc _ => lifted os started H enc)
theorem proved : Rows.FnExactTokenLengthsSaid := over
#print axioms proved
end Go.Proofs.Ytimomemkbcidnaa.fnExactTokenLengths
namespace Go.Proofs.Ytimomemkbcidnaa
/-- The row, under a short name, for the claim. -/
theorem fnExactTokenLengths_holds : Rows.FnExactTokenLengthsSaid := fnExactTokenLengths.proved
end Go.Proofs.Ytimomemkbcidnaa
