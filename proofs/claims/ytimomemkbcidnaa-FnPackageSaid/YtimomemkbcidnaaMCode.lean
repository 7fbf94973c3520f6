/- The program's CodeKind, CodesOf and TakeSymbol: what each returns, out of what its test returns. Conditions: the test's contract; the bounds that each function's own law names ('none' where they fail). -/
import Derived.Test.YtimomemkbcidnaaMBook
namespace Go.Proofs.Ytimomemkbcidnaa.MCode
open Go.RowKit Go.Proofs.YtimomemkbcidnaaW.PrintWords Go.Proofs.YtimomemkbcidnaaW.PrintMore Go.Proofs.Ytimomemkbcidnaa.MBook
set_option linter.unusedVariables false
set_option linter.unusedSimpArgs false
def kindI (l : List Int) : Int := if fullN l 15 = 0 then 1 else if fullN l 15 = 32768 then 2 else if 32768 < fullN l 15 then 5 else if (symsTo l 15).length = 1 ∧ cntN l 1 = 1 then 3 else 4
def kindF (l : List Int) (b : Bool) : Option Int := if b = true then (if l.length ≤ 1000000 then some (kindI l) else none) else some 0
set_option maxHeartbeats 1000000 in
set_option maxRecDepth 100000 in
theorem CodeKind_f (A : Option Addr) (c : Nat) (l : List Int) (b : Bool) (w : World) (hr : Kd.C (Kd.int .i64) w A l.length l) (hc : l.length ≤ c)
    (hlo : ∀ w, Kd.C (Kd.int .i64) w A l.length l → Calls Try.prog 50 #[.slice A l.length c, .int .i64 288] w fun e w' => e = .returned (.bool b) ∧ Below w.heap.size w w') (r : Int) (h : kindF l b = some r) :
    Calls Try.prog 16 #[.slice A l.length c] w fun e w' => e = .returned (.int .i64 r) ∧ Below w.heap.size w w' := by
  have HLO := Aside0.mk hlo
  have HR := Aside0.mk hr
  have H := Aside0.mk h
  clear hlo hr h
  go_enter Try.func16, Try.ntmps16
  go_wp2_with fail
  refine (HLO.out _ HR.out).mono ?_
  rintro e w2 ⟨rfl, hb2⟩
  have HB2 := Aside0.mk hb2
  clear hb2
  have h := H.out
  unfold kindF at h
  clear H
  cases b with
  | false =>
    rw [if_neg (by decide)] at h
    obtain rfl : 0 = r := by injection h
    clear h
    go_wp2
    go_ret
    exact ⟨rfl, HB2.out⟩
  | true =>
    rw [if_pos rfl] at h
    by_cases hl : l.length ≤ 1000000
    · rw [if_pos hl] at h
      have hk : kindI l = r := by injection h
      have HK := Aside0.mk hk
      have HL := Aside0.mk hl
      clear h hl hk
      go_wp2_with fail
      refine (bookOf_calls A c l w2 (Kd.C_below HR.out HB2.out) hc HL.out).mono ?_
      rintro e w3 ⟨g, rfl, ⟨hc1, hf1, hg, v, hX, hRv⟩, hb3⟩
      obtain ⟨A1, c1, hv⟩ := Kd.R_slice hRv
      subst hv
      have HB3 := Aside0.mk (below_step HB2.out hb3)
      have hx1 : w3.cell? ⟨g, 1, none⟩ = some (.int .i64 ((cntN l 1 : Nat) : Int)) := by rw [(blk_cell hX 1).trans (book_c _ _ _ _ hc1 1 (by omega)), cntsTo]; exact congrArg (fun x => some (Value.int .i64 x)) (rd_range _ 1 (by omega))
      have hx2 : w3.cell? ⟨g, 32, none⟩ = some (.slice A1 (symsTo l 15).length c1) := (blk_cell hX 32).trans (book_v _ _ _ _ hc1 hf1)
      have hx3 : w3.cell? ⟨g, 33, none⟩ = some (.int .i64 ((fullN l 15 : Nat) : Int)) := (blk_cell hX 33).trans (book_s _ _ _ _ hc1 hf1)
      clear hc1 hf1 hg hX hRv hb3 HB2
      have e := HK.out
      unfold kindI at e
      clear HK
      generalize fullN l 15 = S at hx3 e
      generalize (symsTo l 15).length = n at hx2 e
      generalize cntN l 1 = q at hx1 e
      by_cases h1 : S = 0
      · rw [if_pos h1] at e
        subst h1
        subst e
        go_wp2
        go_ret
        exact ⟨rfl, HB3.out⟩
      · rw [if_neg h1] at e
        have d1 : ((S : Int) == 0) = false := by simpa using h1
        by_cases h2 : S = 32768
        · rw [if_pos h2] at e
          subst h2
          subst e
          go_wp2
          go_ret
          exact ⟨rfl, HB3.out⟩
        · rw [if_neg h2] at e
          have d2 : ((S : Int) == 32768) = false := by simp; omega
          by_cases h3 : 32768 < S
          · rw [if_pos h3] at e
            have d3 : decide (32768 < (S : Int)) = true := decide_eq_true (by omega)
            have d4 : decide (32768 < S) = true := decide_eq_true h3
            clear h1 h2 h3
            subst e
            go_wp2
            go_ret
            exact ⟨rfl, HB3.out⟩
          · rw [if_neg h3] at e
            have d3 : decide (32768 < (S : Int)) = false := decide_eq_false (by omega)
            have d4 : decide (32768 < S) = false := decide_eq_false h3
            clear h1 h2 h3
            by_cases h4 : n = 1
            · have d5 : ((n : Int) == 1) = true := by rw [beq_iff_eq]; omega
              have HN := Aside0.mk h4
              clear h4
              by_cases h5 : q = 1
              · have d6 : ((q : Int) == 1) = true := by rw [beq_iff_eq]; omega
                rw [if_pos ⟨HN.out, h5⟩] at e
                clear h5
                subst e
                go_wp2
                go_ret
                exact ⟨rfl, HB3.out⟩
              · have d6 : ((q : Int) == 1) = false := by rw [beq_eq_false_iff_ne]; omega
                rw [if_neg (fun h => h5 h.2)] at e
                clear h5
                subst e
                go_wp2
                go_ret
                exact ⟨rfl, HB3.out⟩
            · have d5 : ((n : Int) == 1) = false := by rw [beq_eq_false_iff_ne]; omega
              rw [if_neg (fun h => h4 h.1)] at e
              clear h4
              subst e
              go_wp2
              go_ret
              exact ⟨rfl, HB3.out⟩
    · rw [if_neg hl] at h
      cases h
/-- Ranks of n bits, n not 0. -/
def rankP (l : List Int) (n i : Nat) : Nat := if n = 0 then 0 else rankN l n i
def fsAt (l : List Int) (i : Nat) : List Int := (List.range 16).map fun j => ((firstN l j + rankP l j i : Nat) : Int)
def codesI (l : List Int) (n : Nat) : List Int := (List.range n).map fun i : Nat => if 0 < rd l (i : Int) then ((codeN l i : Nat) : Int) else 0
def codesF (l : List Int) (b : Bool) : Option (List Int × Bool) := if b = true then (if l.length ≤ 1000000 ∧ ∀ x ∈ l, 0 ≤ x ∧ x ≤ 15 then some (codesI l l.length, true) else none) else some ([], false)
def takeI (l : List Int) (s : ByteArray) (g : Int → Option Int) : Nat → Nat → Nat → Nat → Nat → Option (Int × ByteArray × Int × Bool)
  | 0, _, _, _, _ => some (0, ⟨#[]⟩, 0, false)
  | d + 1, n, x, y, a => if a < 8 * s.size then ((g (a : Int)).bind fun q => if 0 ≤ q ∧ q ≤ 1 then (if firstN l n ≤ 2 * x + q.toNat ∧ 2 * x + q.toNat < firstN l n + cntN l n then some (rd (symsTo l 15) ((y + (2 * x + q.toNat - firstN l n) : Nat) : Int), s, ((a + 1 : Nat) : Int), true) else takeI l s g d (n + 1) (2 * x + q.toNat) (y + cntN l n) (a + 1)) else none) else some (0, ⟨#[]⟩, 0, false)
def takeF (l : List Int) (s : ByteArray) (a : Int) (g : Int → Option Int) (b : Bool) : Option (Int × ByteArray × Int × Bool) := if b = true then (if s.size > 12000 ∨ a < 0 then some (0, ⟨#[]⟩, 0, false) else if l.length ≤ 1000000 then takeI l s g 15 1 0 0 a.toNat else none) else some (0, ⟨#[]⟩, 0, false)
def takeV (p : Int × ByteArray × Int × Bool) : Value := .tuple #[.int .i64 p.1, .agg #[.string p.2.1, .int .i64 p.2.2.1], .bool p.2.2.2]
theorem syms_split (l : List Int) (n : Nat) (hn : 1 ≤ n) : (symsTo l n).length = (symsTo l (n - 1)).length + cntN l n := by
  obtain ⟨m, rfl⟩ : ∃ m, n = m + 1 := ⟨n - 1, by omega⟩
  rw [symsTo, List.length_append, symsAt_len, rankN_all, Nat.add_sub_cancel, cntN, if_neg (by omega)]
end Go.Proofs.Ytimomemkbcidnaa.MCode
