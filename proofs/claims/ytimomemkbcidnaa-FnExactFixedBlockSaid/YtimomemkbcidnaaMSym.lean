/- The program's symbol and PutSymbols: the codes of symbols put behind an Out. Conditions: what CodesOf and OutOk return; the bounds that 'putSymF' names ('none' where they fail). -/
import Derived.Test.YtimomemkbcidnaaMCode
import Derived.Test.YtimomemkbcidnaaMOut
namespace Go.Proofs.Ytimomemkbcidnaa.MSym
open Go.RowKit Go.Proofs.YtimomemkbcidnaaW.PrintWords Go.Proofs.YtimomemkbcidnaaW.PrintMore Go.Proofs.Ytimomemkbcidnaa.MBytes Go.Proofs.Ytimomemkbcidnaa.MWriter Go.Proofs.Ytimomemkbcidnaa.MOut
set_option linter.unusedVariables false
set_option linter.unusedSimpArgs false
set_option maxHeartbeats 1000000 in
set_option maxRecDepth 100000 in
theorem symbol_calls (ok : Nat → Prop) (w : World) (g : Nat) (xs : List Int) (c : Nat) (A1 A2 : Option Addr) (c1 c2 : Nat) (cs l : List Int) (y n : Nat) (h : WS ok w g xs c) (hl : xs.length = (c + 7) / 8) (hc : c ≤ 900000) (hn : n ≤ 62) (hfresh : ∀ i, w.heap.size ≤ i → ok i)
    (h1 : Kd.C (Kd.int .i64) w A1 cs.length cs) (h2 : Kd.C (Kd.int .i64) w A2 l.length l) (y1 : y < cs.length) (y2 : y < l.length) (hy : rd l (y : Int) = (n : Int)) :
    Calls Try.prog 63 #[.pointer (some ⟨g, 0, none⟩), .slice A1 cs.length c1, .slice A2 l.length c2, .int .i64 (y : Int)] w fun e w' => e = .returned (.tuple #[]) ∧ WS ok w' g (putAll (highs (rd cs (y : Int)) n n) xs c) ((c + n : Nat) : Int) ∧ KO ok w w' := by
  have p0 : (0 : Int) ≤ (y : Int) := by omega
  have p1 : (y : Int) < (cs.length : Int) := by omega
  have p2 : (y : Int) < (l.length : Int) := by omega
  obtain ⟨ad1, rfl, hx1⟩ := Kd.at_int h1 (y : Int) p0 p1
  obtain ⟨ad2, rfl, hx2⟩ := Kd.at_int h2 (y : Int) p0 p2
  rw [Int.toNat_natCast] at hx1 hx2
  rw [hy] at hx2
  have H := Aside0.mk h
  have HL := Aside0.mk hl
  clear h hl hy h1 h2
  go_enter Try.func63, Try.ntmps63
  go_wp2_with fail
  go_still_tail 9, (by kernel_rfl)
  change wpList _ _ _ _ _ w.drew
  go_wp2_with fail
  refine (code_calls ok w.drew g xs c _ n H.out HL.out hc hn hfresh).mono ?_
  rintro e w2 ⟨rfl, hs, hk⟩
  have HS := Aside0.mk hs
  have HK := Aside0.mk ((KO.drewN (KO.refl ok w) 1).trans hk)
  clear hs hk
  go_wp2
  go_end0
  exact ⟨rfl, HS.out, HK.out⟩
/-- Codes of symbols, one behind the other; what 'out' tells of them. -/
def putSymL (l codes : List Int) : List Int → List Int → Nat → Option (ByteArray × Int × Bool)
  | [], xs, c => some (outF xs c)
  | y :: ys, xs, c => if 0 ≤ y ∧ y ≤ (l.length : Int) - 1 then (if rd l y = 0 then some (⟨#[]⟩, 0, false) else if xs.length > 12000 then some (⟨#[]⟩, 0, false) else if 0 ≤ rd l y ∧ rd l y ≤ 62 then putSymL l codes ys (putAll (highs (rd codes y) (rd l y).toNat (rd l y).toNat) xs c) (c + (rd l y).toNat) else none) else some (⟨#[]⟩, 0, false)
def putSymF (s : ByteArray) (c : Int) (l list : List Int) (cr : List Int × Bool) (b : Bool) : Option (ByteArray × Int × Bool) := if cr.2 = true then (if b = true then (if 0 ≤ c ∧ c ≤ 900000 ∧ (s.size : Int) = (c + 7) / 8 ∧ cr.1.length = l.length ∧ l.length ≤ 1000000 ∧ list.length ≤ 2000000 then putSymL l cr.1 list (bytesOf s) c.toNat else none) else some (⟨#[]⟩, 0, false)) else some (⟨#[]⟩, 0, false)
end Go.Proofs.Ytimomemkbcidnaa.MSym
