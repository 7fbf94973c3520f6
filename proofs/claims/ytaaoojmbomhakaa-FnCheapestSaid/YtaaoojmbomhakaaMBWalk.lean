/- Walk arms over rows of bytes. -/
import Derived.Test.YtaaoojmbomhakaaProg
import Derived.Test.YtaaoojmbomhakaaMBytes
import Derived.WalkKit
namespace Go.Proofs.Ytaaoojmbomhakaa.MBWalk
open Go.RowKit Go.Proofs.YtaaoojmbomhakaaW.PrintWords Go.Proofs.Ytaaoojmbomhakaa.MBytes
set_option linter.unusedVariables false
set_option linter.unusedSimpArgs false
section
variable {P : Program} {ops : Array Oper} {rest : List Oper} {o : Oper} {a : Act} {Q : Exit → Act → World → Prop} {W : World}
theorem wpList_bytes (hgd : o.guard = none) (src dst e : TypeId) (x : Operand) (ho : o.op = .convert src dst x) {u : TypeDesc} (hs : P.underlying src = some u) (hd : P.underlying dst = some (.slice e)) (he : P.underlying e = some (.int .u8))
    (s : ByteArray) (hx : a.eval x = .string s) (hl : s.size ≤ maxLen)
    (h : ∀ g cap w1, BR e w1 (.slice (some ⟨g, 0, none⟩) (bytesOf s).length cap) (bytesOf s) → g = W.heap.size → Below W.heap.size W w1 → wpList P ops Q rest (a.put o.dst (.slice (some ⟨g, 0, none⟩) (bytesOf s).length cap)) w1) : wpList P ops Q (o :: rest) a W := by
  refine wpList_plain hgd fun K hK => ?_
  obtain ⟨v, w1, hr, hb, ho1, hw⟩ := run_bytes (P := P) W src dst s hs hd he hl
  obtain ⟨g, cap, rfl, _, _, hob, _⟩ := hb.block
  have hg : g = W.heap.size := by rw [ho1] at hob; injection hob with hob; exact hob.symm
  unfold Oper.wp execOp
  simp only [ho, hx, hr, Sem.run_bind, Sem.run_pure, Result.andThen_ok]
  exact hK _ _ (h g cap w1 hb hg hw)
theorem wpList_push (hgd : o.guard = none) (s x : Operand) (t e : TypeId) (ho : o.op = .call { callee := .builtin .append, args := #[s, x], argTypes := #[t, t] }) (z : Value)
    (ht : P.underlying t = some (.slice e)) (hinfo : (P.info? e).map (fun i => (i.zero, i.size, i.bytes)) = some (some z, 1, 1)) (hzs : z.cells.size = 1)
    (v : Value) (xs : List Int) (hs : a.eval s = v) (hr : BR e W v xs) (ad : Addr) (x0 : Int) (c : Nat) (hx : a.eval x = .slice (some ad) 1 c) (hcell : W.cell? ad = some (.int .u8 x0)) (hl : xs.length + 1 ≤ 140737488355328)
    (h : ∀ g cap w1, BR e w1 (.slice (some ⟨g, 0, none⟩) (xs ++ [x0]).length cap) (xs ++ [x0]) → W.grownBy w1 v.ownBlock → (v.ownBlock = some g ∨ g = W.heap.size) → wpList P ops Q rest (a.put o.dst (.slice (some ⟨g, 0, none⟩) (xs ++ [x0]).length cap)) w1) : wpList P ops Q (o :: rest) a W := by
  refine wpList_plain hgd fun K hK => ?_
  obtain ⟨i, hi, hzz⟩ := Option.map_eq_some_iff.1 hinfo
  simp only [Prod.mk.injEq] at hzz
  obtain ⟨hz, hz1, hz2⟩ := hzz
  obtain ⟨v1, w1, hrun, hb, hg, hat⟩ := run_push (P := P) t o.type i z ht hi hz hz1 hz2 hzs hr ad x0 c hcell hl
  obtain ⟨g, cap, rfl, _, _, hob, _⟩ := hb.block
  unfold Oper.wp execOp
  simp only [ho, resolve, invoke, builtin, Sem.run_bind, Sem.run_pure, Result.andThen_ok, List.map_toArray, List.map_cons, List.map_nil, hs, hx, hrun]
  refine hK _ _ (h g cap w1 hb hg ?_)
  rcases hat with h1 | h1
  · exact Or.inl (h1.symm.trans hob)
  · right
    rw [hob] at h1
    injection h1
end
theorem info_u8 : (Try.prog.info? 5).map (fun i => (i.zero, i.size, i.bytes)) = some (some (.int .u8 0), 1, 1) := by kernel_rfl
end Go.Proofs.Ytaaoojmbomhakaa.MBWalk
