/- The program's flag and head: what each does. Conditions: the writer's state is known; its count is below a bound. -/
import Derived.Test.YtimomemkbcidnaaMOut
namespace Go.Proofs.Ytimomemkbcidnaa.MHeadI
open Go.RowKit Go.Proofs.YtimomemkbcidnaaW.PrintWords Go.Proofs.Ytimomemkbcidnaa.MBytes Go.Proofs.Ytimomemkbcidnaa.MWriter Go.Proofs.Ytimomemkbcidnaa.MOut
set_option linter.unusedVariables false
set_option linter.unusedSimpArgs false
def flagI (b : Bool) : Int := if b = true then 1 else 0
theorem flag_calls (b : Bool) (w : World) : Calls Try.prog 111 #[.bool b] w fun e w' => e = .returned (.int .i64 (flagI b)) ∧ w = w' := by
  cases b with
  | true =>
    go_enter Try.func111, Try.ntmps111
    go_wp2
    go_ret
    exact ⟨rfl, rfl⟩
  | false =>
    go_enter Try.func111, Try.ntmps111
    go_wp2
    go_ret
    exact ⟨rfl, rfl⟩
/-- What the head of a block puts. -/
def headXs (last : Bool) (kind : Int) (xs : List Int) (c : Nat) : List Int := putAll (lows kind 2) (putAll (lows (flagI last) 1) xs c) (c + 1)
theorem headXs_len (last : Bool) (kind : Int) (xs : List Int) (c : Nat) (h : xs.length = (c + 7) / 8) : (headXs last kind xs c).length = (c + 3 + 7) / 8 := by
  unfold headXs
  have h1 := putAll_len (lows (flagI last) 1) xs c h
  rw [lows_len] at h1
  rw [putAll_len _ _ _ h1, lows_len]
set_option maxHeartbeats 1000000 in
set_option maxRecDepth 100000 in
theorem head_calls (ok : Nat → Prop) (w : World) (g : Nat) (xs : List Int) (c : Nat) (last : Bool) (kind : Int) (h : WS ok w g xs c) (hl : xs.length = (c + 7) / 8) (hc : c ≤ 890000) (hfresh : ∀ i, w.heap.size ≤ i → ok i) :
    Calls Try.prog 90 #[.pointer (some ⟨g, 0, none⟩), .bool last, .int .i64 kind] w fun e w' => e = .returned (.tuple #[]) ∧ WS ok w' g (headXs last kind xs c) ((c + 3 : Nat) : Int) ∧ KO ok w w' := by
  have H := Aside0.mk h
  have HL := Aside0.mk hl
  clear h hl
  go_enter Try.func90, Try.ntmps90
  go_wp2_with (go_at_call 111; refine (flag_calls last _).mono ?_; rintro e w' ⟨rfl, rfl⟩)
  refine (bits_calls ok w g xs c _ 1 H.out HL.out (by omega) (by omega) hfresh).mono ?_
  rintro e w2 ⟨rfl, hs, hk⟩
  have HS := Aside0.mk hs
  have HK := Aside0.mk hk
  clear hs hk
  go_wp2_with fail
  refine (bits_calls ok w2 g _ _ kind 2 HS.out (by rw [putAll_len _ _ _ HL.out, lows_len]) (by omega) (by omega) (WS.fresh hfresh HK.out)).mono ?_
  rintro e w3 ⟨rfl, hs, hk⟩
  have HS3 := Aside0.mk hs
  have HK3 := Aside0.mk (HK.out.trans hk)
  clear hs hk HS HK
  go_wp2
  go_end0
  exact ⟨rfl, HS3.out, HK3.out⟩
end Go.Proofs.Ytimomemkbcidnaa.MHeadI
