/- The program's writer: what each of its methods does to the writer's bytes and count. Conditions: the writer lies in memory as 'WS' says; the bounds that each contract names. -/
import Derived.Test.YtimomemkbcidnaaProg
import Derived.Test.YtimomemkbcidnaaMBytes
import Derived.Below
import Derived.OwnWalk
import Derived.Tactics
import Derived.WalkKit
import Derived.KernelRfl
import Derived.RowKit3
import Derived.Deep.LoopGhost
import Derived.Deep.QuietTactic
import Derived.BigQuiet
import Derived.StillTailTactics
import Derived.WideLaws
import Derived.Outline
import Derived.Deep.DeepCutAuto
namespace Go.Proofs.Ytimomemkbcidnaa.MWriter
open Go.RowKit Go.Proofs.YtimomemkbcidnaaW.PrintWords Go.Proofs.Ytimomemkbcidnaa.MBytes
set_option linter.unusedVariables false
set_option linter.unusedSimpArgs false
section
variable {P : Program} {ops : Array Oper} {rest : List Oper} {o : Oper} {a : Act} {Q : Exit → Act → World → Prop} {W : World}
theorem wpList_bytes (hgd : o.guard = none) (src dst e : TypeId) (x : Operand) (ho : o.op = .convert src dst x) {u : TypeDesc} (hs : P.underlying src = some u) (hd : P.underlying dst = some (.slice e)) (he : P.underlying e = some (.int .u8))
    (s : ByteArray) (hx : a.eval x = .string s) (hl : s.size ≤ maxLen)
    (h : ∀ g cap w1, BR e w1 (.slice (some ⟨g, 0, none⟩) (bytesOf s).length cap) (bytesOf s) → g = W.heap.size → Below W.heap.size W w1 → wpList P ops Q rest (a.put o.dst (.slice (some ⟨g, 0, none⟩) (bytesOf s).length cap)) w1) : wpList P ops Q (o :: rest) a W := by
  refine wpList_plain hgd fun K hK => ?_
  obtain ⟨v, w1, hr, hb, ho1, hw⟩ := run_bytes (P := P) W src dst s hs hd he hl
  obtain ⟨g, cap, rfl, _, _, hob, _⟩ := hb.block
  have hg : g = W.heap.size := by rw [ho1] at hob; injection hob with hob; exact hob.symm
  unfold Oper.wp execOp
  simp only [ho, hx, hr, Sem.run_bind, Sem.run_pure, Result.andThen_ok]
  exact hK _ _ (h g cap w1 hb hg hw)
theorem wpList_push (hgd : o.guard = none) (s x : Operand) (t e : TypeId) (ho : o.op = .call { callee := .builtin .append, args := #[s, x], argTypes := #[t, t] }) (z : Value)
    (ht : P.underlying t = some (.slice e)) (hinfo : (P.info? e).map (fun i => (i.zero, i.size, i.bytes)) = some (some z, 1, 1)) (hzs : z.cells.size = 1)
    (v : Value) (xs : List Int) (hs : a.eval s = v) (hr : BR e W v xs) (ad : Addr) (x0 : Int) (c : Nat) (hx : a.eval x = .slice (some ad) 1 c) (hcell : W.cell? ad = some (.int .u8 x0)) (hl : xs.length + 1 ≤ 140737488355328)
    (h : ∀ g cap w1, BR e w1 (.slice (some ⟨g, 0, none⟩) (xs ++ [x0]).length cap) (xs ++ [x0]) → W.grownBy w1 v.ownBlock → (v.ownBlock = some g ∨ g = W.heap.size) → wpList P ops Q rest (a.put o.dst (.slice (some ⟨g, 0, none⟩) (xs ++ [x0]).length cap)) w1) : wpList P ops Q (o :: rest) a W := by
  refine wpList_plain hgd fun K hK => ?_
  obtain ⟨i, hi, hzz⟩ := Option.map_eq_some_iff.1 hinfo
  simp only [Prod.mk.injEq] at hzz
  obtain ⟨hz, hz1, hz2⟩ := hzz
  obtain ⟨v1, w1, hrun, hb, hg, hat⟩ := run_push (P := P) t o.type i z ht hi hz hz1 hz2 hzs hr ad x0 c hcell hl
  obtain ⟨g, cap, rfl, _, _, hob, _⟩ := hb.block
  unfold Oper.wp execOp
  simp only [ho, resolve, invoke, builtin, Sem.run_bind, Sem.run_pure, Result.andThen_ok, List.map_toArray, List.map_cons, List.map_nil, hs, hx, hrun]
  refine hK _ _ (h g cap w1 hb hg ?_)
  rcases hat with h1 | h1
  · exact Or.inl (h1.symm.trans hob)
  · right
    rw [hob] at h1
    injection h1
end
/-- The writer at block g: its bytes and its count; its blocks are among 'ok'. -/
def WS (ok : Nat → Prop) (w : World) (g : Nat) (xs : List Int) (c : Int) : Prop :=
  ok g ∧ ∃ v, w.heap[g]? = some (.cells #[v, .int .i64 c] 87 (0, 0)) ∧ BR 5 w v xs ∧ v.ownBlock ≠ some g ∧ ∀ b, v.ownBlock = some b → ok b
set_option maxHeartbeats 1000000 in
set_option maxRecDepth 100000 in
theorem writerOf_calls (s : ByteArray) (c : Int) (w : World) (hs : s.size ≤ maxLen) :
    Calls Try.prog 62 #[.agg #[.string s, .int .i64 c]] w fun e w' => ∃ g, e = .returned (.pointer (some ⟨g, 0, none⟩)) ∧ WS (fun k => w.heap.size ≤ k) w' g (bytesOf s) c ∧ Below w.heap.size w w' := by
  go_enter Try.func62, Try.ntmps62
  go_wp2_with (first
    | ((with_reducible refine gate_dst (N := 5) rfl ?_)
       refine wpList_bytes rfl 9 32 5 (.tmp 4) rfl Try.underlying9 Try.underlying32 Try.underlying5 s rfl hs ?_
       intro g cap w1 hb hg hB
       have hc := blk_cell ((hB.block w.heap.size (by simp)).trans (blk_new w _)) 1
       have HB := Aside0.mk hB
       have HR := Aside0.mk hb
       have HG := Aside0.mk hg
       clear hB hb hg)
    | ((with_reducible refine gate_dst (N := 9) rfl ?_)
       refine box_event ?hg (N := 9) ?hd (cs := #[.slice (some ⟨g, 0, none⟩) (bytesOf s).length cap, .int .i64 c]) (t := 87) ?hr ?_
       (case hd => rfl)
       (case hg => rfl)
       (case hr => first | (go_simp; done) | (go_simp; rfl))
       intro gw hgw w2 hbox hB2
       have HB2 := Aside0.mk hB2
       have HX := Aside0.mk hbox
       have HGW := Aside0.mk hgw
       clear hB2 hbox hgw hc))
  go_ret
  have hB := HB.out
  have hB2 := HB2.out
  have hg := HG.out
  have hgw := HGW.out
  have hs1 := hB.size
  obtain ⟨_, _, hv, _, _, hob, hlt⟩ := HR.out.block
  have hlt' : g < w1.heap.size := by injection hob with hob; have hob' : g = _ := hob; omega
  simp at hg hs1
  refine ⟨gw, rfl, ⟨by omega, _, HX.out, HR.out.same (fun b hb => ?_), ?_, fun b hb => ?_⟩, ?_⟩
  · have : g = b := by simpa [Value.ownBlock] using hb
    subst this
    exact hB2.block g hlt'
  · intro h
    have : g = gw := by simpa [Value.ownBlock] using h
    omega
  · have : g = b := by simpa [Value.ownBlock] using hb
    omega
  · exact below_then (below_then (below_alloc (Below.refl _ _) _) (by simp) hB) (by omega) hB2
theorem wraps_i64 (n : Int) (h0 : -9223372036854775808 ≤ n) (h1 : n < 9223372036854775808) : IntKind.i64.wrap n = n := by rw [IntKind.wrap_i64]; omega
/-- A byte with one bit more, as the program makes it. -/
def orBit (x n : Int) (r : Nat) : Int := bits .or .u8 x (bits .and .i64 n 1 % 256 * 2 ^ r % 256)
/-- All but the blocks of 'ok' is as it was. -/
structure KO (ok : Nat → Prop) (w w' : World) : Prop where
  os : w'.os = w.os
  tape : w'.tape = w.tape
  output : w'.output = w.output
  kept : Kept w w' ok
theorem KO.refl (ok : Nat → Prop) (w : World) : KO ok w w := ⟨rfl, rfl, rfl, Kept.refl w ok⟩
theorem KO.trans {ok : Nat → Prop} {a b c : World} (h : KO ok a b) (k : KO ok b c) : KO ok a c := ⟨k.os.trans h.os, k.tape.trans h.tape, k.output.trans h.output, h.kept.then_ k.kept (fun _ hk => .inl hk)⟩
theorem KO.below {ok : Nat → Prop} {a b : World} (h : KO ok a b) {B : Nat} (hB : B ≤ a.heap.size) (hok : ∀ i, ok i → B ≤ i) : Below B a b := ⟨h.os, h.tape, h.output, h.kept.1, fun i hi => h.kept.2 i (by omega) (fun hk => by have := hok i hk; omega)⟩
theorem KO.of_below {ok : Nat → Prop} {a b : World} (h : Below a.heap.size a b) : KO ok a b := ⟨h.os, h.tape, h.output, Kept.of_below h ok⟩
theorem KO.set {ok : Nat → Prop} {a b : World} (h : KO ok a b) {p : Addr} (hp : ok p.block) (u : Value) : KO ok a (b.setCell p u) := ⟨h.os, h.tape, h.output, h.kept.setCell (.inl hp) u⟩
theorem KO.drewN {ok : Nat → Prop} {a b : World} (h : KO ok a b) (n : Nat) : KO ok a (b.drewN n) := ⟨h.os, h.tape, h.output, h.kept.drewN n⟩
theorem KO.grown {ok : Nat → Prop} {a b c : World} (h : KO ok a b) {row : Option Nat} (hg : b.grownBy c row) (hr : ∀ k, row = some k → ok k) : KO ok a c := ⟨hg.os.trans h.os, hg.tape.trans h.tape, hg.output.trans h.output, h.kept.of_grown hg (fun k hk => .inl (hr k hk))⟩
set_option maxHeartbeats 1000000 in
set_option maxRecDepth 100000 in
theorem bit_old (ok : Nat → Prop) (w : World) (g : Nat) (xs : List Int) (q r : Nat) (n : Int) (h : WS ok w g xs (8 * q + r : Nat)) (c1 : q < xs.length) (c2 : q ≤ 1000000) (hr0 : 0 < r) (hr1 : r < 8) :
    Calls Try.prog 113 #[.pointer (some ⟨g, 0, none⟩), .int .i64 n] w fun e w' => e = .returned (.tuple #[]) ∧ WS ok w' g (xs.set q (orBit (rd xs q) n r)) (8 * q + r + 1 : Nat) ∧ KO ok w w' := by
  obtain ⟨hg, v, hX, hR, hne, hok⟩ := h
  obtain ⟨gb, cap, rfl, _, _, hob, hlt⟩ := hR.block
  have hne1 : g ≠ gb := fun h => hne (by rw [h]; rfl)
  have hne2 : gb ≠ g := Ne.symm hne1
  have hx0 := blk_cell hX 0
  have hx1 := blk_cell hX 1
  have hf0 := blk_frozen hX 0
  have hf1 := blk_frozen hX 1
  simp at hx0
  have hx1' : w.cell? ⟨g, 1, none⟩ = some (.int .i64 ((8 * q + r : Nat) : Int)) := hx1
  clear hx1
  obtain ⟨hcell, hfz⟩ := hR.cell q c1
  generalize hc : ((8 * q + r : Nat) : Int) = c at hX hx1'
  have hd : (c % 8 == 0) = false := by
    have : ¬ c % 8 = 0 := by omega
    simpa using this
  have c0 : 0 ≤ c := by omega
  have c3 : c ≤ 9000000 := by omega
  have HD := Aside0.mk (show IntKind.i64.wrap (c.tdiv 8) = (q : Int) by rw [Int.tdiv_eq_ediv_of_nonneg c0, wraps_i64 _ (by omega) (by omega)]; omega)
  have HM := Aside0.mk (show IntKind.i64.wrap (c.tmod 8) = (r : Int) by rw [Int.tmod_eq_emod_of_nonneg c0, wraps_i64 _ (by omega) (by omega)]; omega)
  have HM2 := Aside0.mk (show c.tmod 8 = (r : Int) by rw [Int.tmod_eq_emod_of_nonneg c0]; omega)
  have HR := Aside0.mk hR
  have HX := Aside0.mk hX
  have HC := Aside0.mk hc
  clear hR hX hob hc
  go_enter Try.func113, Try.ntmps113
  go_wp2_with fail
  have hdiv := HD.out
  have hmod := HM.out
  have hmod2 := HM2.out
  have i1 : (q : Int) < (xs.length : Int) := by omega
  go_still_tail 22, (by kernel_rfl)
  change wpList _ _ _ _ _ w.drew
  clear hdiv hmod hmod2
  go_wp2
  go_end0
  have hX := HX.out
  have hR := HR.out
  have h1 : (w.drew.setCell ⟨gb, q, none⟩ (.int .u8 (orBit (rd xs q) n r))).heap[g]? = some (.cells #[.slice (some ⟨gb, 0, none⟩) xs.length cap, .int .i64 c] 87 (0, 0)) := blk_far (blk_drew hX) hne1 _
  have h4 : c + 1 = ((8 * q + r + 1 : Nat) : Int) := by have := HC.out; omega
  rw [h4]
  refine ⟨rfl, ⟨hg, .slice (some ⟨gb, 0, none⟩) xs.length cap, ?_, ?_, hne, hok⟩, ?_⟩
  · exact blk_put h1 1 _ rfl
  · have h2 : BR 5 w.drew (.slice (some ⟨gb, 0, none⟩) xs.length cap) xs := hR.same (fun _ _ => rfl)
    have h3 := h2.set q c1 (orBit (rd xs q) n r)
    refine h3.same (fun b hb => ?_)
    have : gb = b := by simpa [Value.ownBlock] using hb
    subst this
    exact Below.heap_setCell _ _ _ _ hne2
  · exact KO.set (KO.set (KO.drewN (KO.refl ok w) 1) (p := ⟨gb, q, none⟩) (hok gb rfl) (.int .u8 (orBit (rd xs q) n r))) (p := ⟨g, 1, none⟩) hg _
theorem info_u8 : (Try.prog.info? 5).map (fun i => (i.zero, i.size, i.bytes)) = some (some (.int .u8 0), 1, 1) := by kernel_rfl
set_option maxHeartbeats 1000000 in
set_option maxRecDepth 100000 in
theorem bit_new (ok : Nat → Prop) (w : World) (g : Nat) (xs : List Int) (n : Int) (h : WS ok w g xs (8 * xs.length : Nat)) (c2 : xs.length ≤ 1000000) (hfresh : ∀ i, w.heap.size ≤ i → ok i) :
    Calls Try.prog 113 #[.pointer (some ⟨g, 0, none⟩), .int .i64 n] w fun e w' => e = .returned (.tuple #[]) ∧ WS ok w' g (xs ++ [orBit 0 n 0]) (8 * xs.length + 1 : Nat) ∧ KO ok w w' := by
  obtain ⟨hg, v, hX, hR, hne, hok⟩ := h
  obtain ⟨gb, cap, rfl, _, _, hob, hlt⟩ := hR.block
  have hx0 := blk_cell hX 0
  have hx1 := blk_cell hX 1
  have hf0 := blk_frozen hX 0
  have hf1 := blk_frozen hX 1
  simp at hx0
  have hx1' : w.cell? ⟨g, 1, none⟩ = some (.int .i64 ((8 * xs.length : Nat) : Int)) := hx1
  clear hx1
  have hgl := blk_lt hX
  generalize hc : ((8 * xs.length : Nat) : Int) = c at hX hx1'
  have hd : (c % 8 == 0) = true := by
    have : c % 8 = 0 := by omega
    simpa using this
  have c0 : 0 ≤ c := by omega
  have c3 : c ≤ 9000000 := by omega
  have HD := Aside0.mk (show IntKind.i64.wrap (c.tdiv 8) = (xs.length : Int) by rw [Int.tdiv_eq_ediv_of_nonneg c0, wraps_i64 _ (by omega) (by omega)]; omega)
  have HM := Aside0.mk (show IntKind.i64.wrap (c.tmod 8) = ((0 : Nat) : Int) by rw [Int.tmod_eq_emod_of_nonneg c0, wraps_i64 _ (by omega) (by omega)]; omega)
  have HM2 := Aside0.mk (show c.tmod 8 = ((0 : Nat) : Int) by rw [Int.tmod_eq_emod_of_nonneg c0]; omega)
  have HR := Aside0.mk hR
  have HX := Aside0.mk hX
  have HC := Aside0.mk hc
  have HN := Aside0.mk hne
  have HB := Aside0.mk hob
  clear hR hX hob hc hne
  go_enter Try.func113, Try.ntmps113
  go_wp2_with (first
    | ((with_reducible refine gate_dst (N := 16) rfl ?_)
       refine wpList_push rfl (.tmp 14) (.tmp 15) 32 5 rfl (.int .u8 0) Try.underlying32 info_u8 rfl _ xs rfl (HR.out.alloc _) ⟨w.heap.size, 0, none⟩ 0 1 rfl ?_ (by omega) ?_
       · simp
       intro gn capn w1 hb hgr hat
       have hX1 := blk_grown (blk_alloc HX.out _) hgr (fun h => HN.out h.symm)
       have hy0 := blk_cell hX1 0
       have hy1 := blk_cell hX1 1
       have hz0 := blk_frozen hX1 0
       have hz1 := blk_frozen hX1 1
       have hgn : g ≠ gn := by
         intro h
         rcases hat with h1 | h1
         · exact HN.out (h1.trans (by rw [h]))
         · simp at h1
           omega
       have hng : gn ≠ g := Ne.symm hgn
       have HX1 := Aside0.mk hX1
       have HR1 := Aside0.mk hb
       have HG1 := Aside0.mk hgr
       have HA1 := Aside0.mk hat
       clear hX1 hb hgr hat))
  have hlen : (xs ++ [0]).length = xs.length + 1 := by simp
  obtain ⟨W2, hW2⟩ : ∃ W2, W2 = w1.setCell ⟨g, 0, none⟩ (.slice (some ⟨gn, 0, none⟩) (xs.length + 1) capn) := ⟨_, rfl⟩
  rw [← hW2]
  have hX2 : W2.heap[g]? = some (.cells #[.slice (some ⟨gn, 0, none⟩) (xs.length + 1) capn, .int .i64 c] 87 (0, 0)) := by rw [hW2]; exact blk_put HX1.out 0 _ rfl
  have hR2 : BR 5 W2 (.slice (some ⟨gn, 0, none⟩) (xs ++ [0]).length capn) (xs ++ [0]) := by
    rw [hW2]
    refine HR1.out.same (fun b hb => ?_)
    have : gn = b := by simpa [Value.ownBlock] using hb
    subst this
    exact Below.heap_setCell _ _ _ _ hng
  have hokn : ok gn := by
    rcases HA1.out with h1 | h1
    · exact hok gn h1
    · rw [h1]; exact hfresh _ (by simp)
  have hK2 : KO ok w W2 := by
    rw [hW2]
    exact KO.set (KO.grown (KO.of_below (below_alloc (Below.refl _ _) _)) HG1.out (fun k hk => hok k hk)) hg _
  have hy0' : W2.cell? ⟨g, 0, none⟩ = some (.slice (some ⟨gn, 0, none⟩) (xs.length + 1) capn) := blk_cell hX2 0
  have hy1' : W2.cell? ⟨g, 1, none⟩ = some (.int .i64 c) := blk_cell hX2 1
  have hz0' := blk_frozen hX2 0
  have hz1' := blk_frozen hX2 1
  obtain ⟨hcelln, hfzn⟩ := hR2.cell xs.length (by simp)
  have hrd : rd (xs ++ [0]) (xs.length : Int) = 0 := by unfold rd; simp
  rw [hrd] at hcelln
  have HX2 := Aside0.mk hX2
  have HR2 := Aside0.mk hR2
  have HK2 := Aside0.mk hK2
  clear hX2 hR2 hW2 hrd hlen hy0 hy1 hz0 hz1 hx0 hx1' hf0 hf1 hK2 HX1 HR1 HG1 HA1 hok
  have hdiv := HD.out
  have hmod := HM.out
  have hmod2 := HM2.out
  have i1 : (xs.length : Int) < (xs.length : Int) + 1 := by omega
  go_still_tail 22, (by kernel_rfl)
  change wpList _ _ _ _ _ W2.drew
  clear hdiv hmod hmod2
  go_wp2
  go_end0
  have hX := HX2.out
  have hR := HR2.out
  have h1 : (W2.drew.setCell ⟨gn, xs.length, none⟩ (.int .u8 (orBit 0 n 0))).heap[g]? = some (.cells #[.slice (some ⟨gn, 0, none⟩) (xs.length + 1) capn, .int .i64 c] 87 (0, 0)) := blk_far (blk_drew hX) hgn _
  have h4 : c + 1 = ((8 * xs.length + 1 : Nat) : Int) := by have := HC.out; omega
  have h5 : bits .or .u8 0 (bits .and .i64 n 1 % 256) = orBit 0 n 0 := by
    unfold orBit
    congr 1
    omega
  rw [h4, h5]
  refine ⟨rfl, ⟨hg, .slice (some ⟨gn, 0, none⟩) (xs.length + 1) capn, ?_, ?_, fun h => hng (by simpa [Value.ownBlock] using h), fun b hb => ?_⟩, ?_⟩
  · exact blk_put h1 1 _ rfl
  · have h2 : BR 5 W2.drew (.slice (some ⟨gn, 0, none⟩) (xs ++ [0]).length capn) (xs ++ [0]) := hR.same (fun _ _ => rfl)
    have h3 := h2.set xs.length (by simp) (orBit 0 n 0)
    have e1 : (xs ++ [0]).set xs.length (orBit 0 n 0) = xs ++ [orBit 0 n 0] := by simp
    rw [e1] at h3
    have e2 : (xs ++ [0]).length = xs.length + 1 := by simp
    rw [e2] at h3
    refine h3.same (fun b hb => ?_)
    have : gn = b := by simpa [Value.ownBlock] using hb
    subst this
    exact Below.heap_setCell _ _ _ _ hng
  · have : gn = b := by simpa [Value.ownBlock] using hb
    rw [← this]
    exact hokn
  · exact KO.set (KO.set (KO.drewN HK2.out 1) (p := ⟨gn, xs.length, none⟩) hokn (.int .u8 (orBit 0 n 0))) (p := ⟨g, 1, none⟩) hg _
/-- One bit more, behind c bits. -/
def putBit (xs : List Int) (c : Nat) (n : Int) : List Int := if c % 8 = 0 then xs ++ [orBit 0 n 0] else xs.set (c / 8) (orBit (rd xs ((c / 8 : Nat) : Int)) n (c % 8))
theorem putBit_len (xs : List Int) (c : Nat) (n : Int) (h : xs.length = (c + 7) / 8) : (putBit xs c n).length = (c + 1 + 7) / 8 := by
  unfold putBit
  split
  · simp; omega
  · rw [List.length_set]; omega
/-- Bits, one behind the other. -/
def putAll : List Int → List Int → Nat → List Int
  | [], xs, _ => xs
  | n :: ns, xs, c => putAll ns (putBit xs c n) (c + 1)
theorem putAll_snoc : ∀ (ns : List Int) (n : Int) (xs : List Int) (c : Nat), putAll (ns ++ [n]) xs c = putBit (putAll ns xs c) (c + ns.length) n
  | [], n, xs, c => rfl
  | m :: ns, n, xs, c => by
    rw [List.cons_append, putAll, putAll_snoc ns n, putAll, List.length_cons]
    congr 1
    omega
theorem putAll_len : ∀ (ns xs : List Int) (c : Nat), xs.length = (c + 7) / 8 → (putAll ns xs c).length = (c + ns.length + 7) / 8
  | [], xs, c, h => h
  | n :: ns, xs, c, h => by
    rw [putAll, putAll_len ns _ _ (putBit_len xs c n h), List.length_cons]
    congr 1
    omega
theorem bit_calls (ok : Nat → Prop) (w : World) (g : Nat) (xs : List Int) (c : Nat) (n : Int) (h : WS ok w g xs c) (hl : xs.length = (c + 7) / 8) (hc : c ≤ 1000000) (hfresh : ∀ i, w.heap.size ≤ i → ok i) :
    Calls Try.prog 113 #[.pointer (some ⟨g, 0, none⟩), .int .i64 n] w fun e w' => e = .returned (.tuple #[]) ∧ WS ok w' g (putBit xs c n) ((c + 1 : Nat) : Int) ∧ KO ok w w' := by
  by_cases hm : c % 8 = 0
  · have e : c = 8 * xs.length := by omega
    have h' : WS ok w g xs ((8 * xs.length : Nat) : Int) := by rw [← e]; exact h
    have r := bit_new ok w g xs n h' (by omega) hfresh
    have e2 : putBit xs c n = xs ++ [orBit 0 n 0] := by unfold putBit; rw [if_pos hm]
    rw [e2, e]
    exact r
  · have e : c = 8 * (c / 8) + c % 8 := by omega
    have h' : WS ok w g xs ((8 * (c / 8) + c % 8 : Nat) : Int) := by rw [← e]; exact h
    have r := bit_old ok w g xs (c / 8) (c % 8) n h' (by omega) (by omega) (by omega) (by omega)
    rw [← e] at r
    have e2 : putBit xs c n = xs.set (c / 8) (orBit (rd xs ((c / 8 : Nat) : Int)) n (c % 8)) := by unfold putBit; rw [if_neg hm]
    rw [e2]
    exact r
theorem WS.fresh {ok : Nat → Prop} {w w' : World} (h : ∀ i, w.heap.size ≤ i → ok i) (k : KO ok w w') : ∀ i, w'.heap.size ≤ i → ok i := fun i hi => h i (Nat.le_trans k.kept.1 hi)
/-- The bits of a number, the lowest first, i of them. -/
def lows (v : Int) (n : Nat) : List Int := (List.range n).map fun i => v / 2 ^ i
theorem lows_succ (v : Int) (n : Nat) : lows v (n + 1) = lows v n ++ [v / 2 ^ n] := by unfold lows; rw [List.range_succ, List.map_append]; rfl
theorem lows_len (v : Int) (n : Nat) : (lows v n).length = n := by unfold lows; simp
set_option maxHeartbeats 1000000 in
set_option maxRecDepth 100000 in
theorem bits_calls (ok : Nat → Prop) (w : World) (g : Nat) (xs : List Int) (c : Nat) (v : Int) (n : Nat) (h : WS ok w g xs c) (hl : xs.length = (c + 7) / 8) (hc : c ≤ 900000) (hn : n ≤ 62) (hfresh : ∀ i, w.heap.size ≤ i → ok i) :
    Calls Try.prog 110 #[.pointer (some ⟨g, 0, none⟩), .int .i64 v, .int .i64 n] w fun e w' => e = .returned (.tuple #[]) ∧ WS ok w' g (putAll (lows v n) xs c) ((c + n : Nat) : Int) ∧ KO ok w w' := by
  have H := Aside0.mk h
  have HL := Aside0.mk hl
  clear h hl
  go_enter Try.func110, Try.ntmps110
  go_wp2
  go_loopg [8] n (fun kq v8 w' => ∃ i : Nat, i + kq = n ∧ v8 = .int .i64 i ∧ Aside0 (WS ok w' g (putAll (lows v i) xs c) ((c + i : Nat) : Int)) ∧ Aside0 (KO ok w w'))
  case atStart => exact ⟨0, by omega, rfl, H, ⟨KO.refl ok w⟩⟩
  case round =>
    obtain ⟨i, hi, rfl, HS, HK⟩ := hrel
    cases gk with
    | zero =>
      have hlt : decide ((i : Int) < (n : Int)) = false := decide_eq_false (by omega)
      have hlt2 : decide (i < n) = false := decide_eq_false (by omega)
      have HI := Aside0.mk (show i = n by omega)
      clear hi
      go_wp2
      go_end0
      have e := HI.out
      subst e
      exact ⟨rfl, HS.out, HK.out⟩
    | succ gk =>
      have hlt : decide ((i : Int) < (n : Int)) = true := decide_eq_true (by omega)
      have hlt2 : decide (i < n) = true := decide_eq_true (by omega)
      go_wp2_with fail
      have hlw : (putAll (lows v i) xs c).length = (c + i + 7) / 8 := by rw [putAll_len _ _ _ HL.out, lows_len]
      refine (bit_calls ok wr g _ (c + i) _ HS.out hlw (by omega) (WS.fresh hfresh HK.out)).mono ?_
      rintro e w' ⟨rfl, hs, hk⟩
      have e1 : putBit (putAll (lows v i) xs c) (c + i) (v / 2 ^ i) = putAll (lows v (i + 1)) xs c := by rw [lows_succ, putAll_snoc, lows_len]
      rw [e1] at hs
      have HS' := Aside0.mk hs
      have HK' := Aside0.mk (HK.out.trans hk)
      clear hs hk e1 hlw
      go_wp2
      go_roundg gk
      case measure => omega
      case rel => exact ⟨i + 1, by omega, by go_num, HS', HK'⟩
/-- The bits of a number of n bits, the highest first, i of them. -/
def highs (v : Int) (n i : Nat) : List Int := (List.range i).map fun j => v / 2 ^ (n - 1 - j)
theorem highs_succ (v : Int) (n i : Nat) : highs v n (i + 1) = highs v n i ++ [v / 2 ^ (n - 1 - i)] := by unfold highs; rw [List.range_succ, List.map_append]; rfl
theorem highs_len (v : Int) (n i : Nat) : (highs v n i).length = i := by unfold highs; simp
set_option maxHeartbeats 1000000 in
set_option maxRecDepth 100000 in
theorem code_calls (ok : Nat → Prop) (w : World) (g : Nat) (xs : List Int) (c : Nat) (v : Int) (n : Nat) (h : WS ok w g xs c) (hl : xs.length = (c + 7) / 8) (hc : c ≤ 900000) (hn : n ≤ 62) (hfresh : ∀ i, w.heap.size ≤ i → ok i) :
    Calls Try.prog 97 #[.pointer (some ⟨g, 0, none⟩), .int .i64 v, .int .i64 n] w fun e w' => e = .returned (.tuple #[]) ∧ WS ok w' g (putAll (highs v n n) xs c) ((c + n : Nat) : Int) ∧ KO ok w w' := by
  have H := Aside0.mk h
  have HL := Aside0.mk hl
  clear h hl
  go_enter Try.func97, Try.ntmps97
  go_wp2
  go_loopg [6] n (fun kq v6 w' => ∃ (i : Nat) (z : Int), i + kq = n ∧ v6 = .int .i64 z ∧ Aside0 (z = (kq : Int) - 1) ∧ Aside0 (WS ok w' g (putAll (highs v n i) xs c) ((c + i : Nat) : Int)) ∧ Aside0 (KO ok w w'))
  case atStart => exact ⟨0, (n : Int) - 1, by omega, rfl, ⟨rfl⟩, H, ⟨KO.refl ok w⟩⟩
  case round =>
    obtain ⟨i, z, hi, rfl, hz, HS, HK⟩ := hrel
    cases gk with
    | zero =>
      obtain rfl : z = -1 := by have := hz.out; omega
      have HI := Aside0.mk (show i = n by omega)
      clear hi hz
      go_wp2
      go_end0
      have e := HI.out
      subst e
      exact ⟨rfl, HS.out, HK.out⟩
    | succ gk =>
      obtain rfl : z = (gk : Int) := by have := hz.out; omega
      have HI := Aside0.mk (show gk = n - 1 - i by omega)
      clear hz
      go_wp2_with fail
      have hlw : (putAll (highs v n i) xs c).length = (c + i + 7) / 8 := by rw [putAll_len _ _ _ HL.out, highs_len]
      refine (bit_calls ok wr g _ (c + i) _ HS.out hlw (by omega) (WS.fresh hfresh HK.out)).mono ?_
      rintro e w' ⟨rfl, hs, hk⟩
      have e1 : putBit (putAll (highs v n i) xs c) (c + i) (v / 2 ^ gk) = putAll (highs v n (i + 1)) xs c := by rw [highs_succ, putAll_snoc, highs_len, HI.out]
      rw [e1] at hs
      have HS' := Aside0.mk hs
      have HK' := Aside0.mk (HK.out.trans hk)
      clear hs hk e1 hlw
      go_wp2
      go_roundg gk
      case measure => omega
      case rel => exact ⟨i + 1, (gk : Int) - 1, by omega, rfl, ⟨rfl⟩, HS', HK'⟩
set_option maxHeartbeats 1000000 in
set_option maxRecDepth 100000 in
theorem out_calls (ok : Nat → Prop) (w : World) (g : Nat) (xs : List Int) (c : Int) (h : WS ok w g xs c) :
    Calls Try.prog 64 #[.pointer (some ⟨g, 0, none⟩)] w fun e w' => e = .returned (if xs.length ≤ 12000 then .tuple #[.agg #[.string (strOfNums xs), .int .i64 c], .bool true] else .tuple #[.agg #[.string ⟨#[]⟩, .int .i64 0], .bool false]) ∧ Below w.heap.size w w' := by
  obtain ⟨hg, v, hX, hR, hne, hok⟩ := h
  obtain ⟨gb, cap, rfl, _, _, hob, hlt⟩ := hR.block
  have hx0 : w.cell? ⟨g, 0, none⟩ = _ := blk_cell hX 0
  have hx1 : w.cell? ⟨g, 1, none⟩ = _ := blk_cell hX 1
  have hgl := blk_lt hX
  simp at hx0 hx1
  by_cases hlen : xs.length ≤ 12000
  · rw [if_pos hlen]
    have hd : decide (12000 < (xs.length : Int)) = false := decide_eq_false (by omega)
    have hd2 : decide (12000 < xs.length) = false := decide_eq_false (by omega)
    have HR := Aside0.mk hR
    clear hR hX hob
    have HB1 : Aside0 (Below w.heap.size w (w.alloc (.cells #[.string ⟨#[]⟩, .int .i64 0] 47))) := ⟨below_alloc (Below.refl _ _) _⟩
    have hbx : (w.alloc (.cells #[.string ⟨#[]⟩, .int .i64 0] 47)).heap[w.heap.size]? = some (.cells #[.string ⟨#[]⟩, .int .i64 0] 47 (0, 0)) := blk_new w _
    go_enter Try.func64, Try.ntmps64
    go_wp2
    have hoz := blk_frozen hbx 0
    have hoz1 := blk_frozen hbx 1
    obtain ⟨W1, hW1⟩ : ∃ W1, W1 = w.alloc (.cells #[.string ⟨#[]⟩, .int .i64 0] 47) := ⟨_, rfl⟩
    have hg0 : W1.cell? ⟨g, 0, none⟩ = some (.slice (some ⟨gb, 0, none⟩) xs.length cap) := by rw [hW1, World.cell?_alloc_some _ _ _ (by rw [hx0]; rfl)]; exact hx0
    have hg1 : W1.cell? ⟨g, 1, none⟩ = some (.int .i64 c) := by rw [hW1, World.cell?_alloc_some _ _ _ (by rw [hx1]; rfl)]; exact hx1
    have hR1 : BR 5 W1 (.slice (some ⟨gb, 0, none⟩) xs.length cap) xs := by rw [hW1]; exact HR.out.alloc _
    have hc1 : (convert 32 9 (.slice (some ⟨gb, 0, none⟩) xs.length cap)).run Try.prog W1.drew = .ok (.string (strOfNums xs)) W1.drew := string_of_reads Try.underlying32 Try.underlying5 Try.underlying9 (BR.reads (w := W1.drew) (hR1.same fun _ _ => rfl))
    clear hR1
    rw [← hW1] at hbx HB1 hoz hoz1 ⊢
    have hb0 : W1.cell? ⟨w.heap.size, 0, none⟩ = _ := blk_cell hbx 0
    have hb1 : W1.cell? ⟨w.heap.size, 1, none⟩ = _ := blk_cell hbx 1
    simp at hb0 hb1
    have HBX := Aside0.mk hbx
    clear hbx hx0 hx1 hW1
    go_still_tail 10, (by kernel_rfl)
    change wpList _ _ _ _ _ W1.drew
    clear hc1
    go_wp2
    refine bodyPost_ret (results_ct rfl _ _ w.heap.size 47 #[.string (strOfNums xs), .int .i64 c] (0, 0) _ rfl (by (with_reducible repeat (first | refine blk_drewN ?_ _ | refine blk_drew ?_ | refine blk_alloc ?_ _)); refine blk_put (cs := #[.string (strOfNums xs), .int .i64 0]) ?_ 1 _ rfl; (with_reducible repeat (first | refine blk_drewN ?_ _ | refine blk_drew ?_ | refine blk_alloc ?_ _)); refine blk_put (cs := #[.string (⟨#[]⟩ : ByteArray), .int .i64 0]) ?_ 0 _ rfl; (with_reducible repeat (first | refine blk_drewN ?_ _ | refine blk_drew ?_ | refine blk_alloc ?_ _)); exact HBX.out) Try.underlying47 rfl (by kernel_rfl)) rfl ?_
    refine ⟨rfl, ?_⟩
    exact below_drew (below_set (below_set HB1.out (Nat.le_refl _)) (Nat.le_refl _))
  · rw [if_neg hlen]
    have hd : decide (12000 < (xs.length : Int)) = true := decide_eq_true (by omega)
    have hd2 : decide (12000 < xs.length) = true := decide_eq_true (by omega)
    have hbx : (w.alloc (.cells #[.string ⟨#[]⟩, .int .i64 0] 47)).heap[w.heap.size]? = some (.cells #[.string ⟨#[]⟩, .int .i64 0] 47 (0, 0)) := blk_new w _
    have HBX := Aside0.mk hbx
    clear hR hX hob hbx
    go_enter Try.func64, Try.ntmps64
    go_wp2
    refine bodyPost_ret (results_ct rfl _ _ w.heap.size 47 #[.string (⟨#[]⟩ : ByteArray), .int .i64 0] (0, 0) _ rfl HBX.out Try.underlying47 rfl (by kernel_rfl)) rfl ?_
    exact ⟨rfl, below_alloc (Below.refl _ _) _⟩
end Go.Proofs.Ytimomemkbcidnaa.MWriter
