/- The program's CodeKind, CodesOf and TakeSymbol: what each returns, out of what its test returns. Conditions: the test's contract; the bounds that each function's own law names ('none' where they fail). -/
import Derived.Test.YtimomemkbcidnaaMBook
namespace Go.Proofs.Ytimomemkbcidnaa.MCode
open Go.RowKit Go.Proofs.YtimomemkbcidnaaW.PrintWords Go.Proofs.YtimomemkbcidnaaW.PrintMore Go.Proofs.Ytimomemkbcidnaa.MBook
set_option linter.unusedVariables false
set_option linter.unusedSimpArgs false
def kindI (l : List Int) : Int := if fullN l 15 = 0 then 1 else if fullN l 15 = 32768 then 2 else if 32768 < fullN l 15 then 5 else if (symsTo l 15).length = 1 ∧ cntN l 1 = 1 then 3 else 4
def kindF (l : List Int) (b : Bool) : Option Int := if b = true then (if l.length ≤ 1000000 then some (kindI l) else none) else some 0
set_option maxHeartbeats 1000000 in
set_option maxRecDepth 100000 in
theorem CodeKind_f (A : Option Addr) (c : Nat) (l : List Int) (b : Bool) (w : World) (hr : Kd.C (Kd.int .i64) w A l.length l) (hc : l.length ≤ c)
    (hlo : ∀ w, Kd.C (Kd.int .i64) w A l.length l → Calls Try.prog 50 #[.slice A l.length c, .int .i64 288] w fun e w' => e = .returned (.bool b) ∧ Below w.heap.size w w') (r : Int) (h : kindF l b = some r) :
    Calls Try.prog 16 #[.slice A l.length c] w fun e w' => e = .returned (.int .i64 r) ∧ Below w.heap.size w w' := by
  have HLO := Aside0.mk hlo
  have HR := Aside0.mk hr
  have H := Aside0.mk h
  clear hlo hr h
  go_enter Try.func16, Try.ntmps16
  go_wp2_with fail
  refine (HLO.out _ HR.out).mono ?_
  rintro e w2 ⟨rfl, hb2⟩
  have HB2 := Aside0.mk hb2
  clear hb2
  have h := H.out
  unfold kindF at h
  clear H
  cases b with
  | false =>
    rw [if_neg (by decide)] at h
    obtain rfl : 0 = r := by injection h
    clear h
    go_wp2
    go_ret
    exact ⟨rfl, HB2.out⟩
  | true =>
    rw [if_pos rfl] at h
    by_cases hl : l.length ≤ 1000000
    · rw [if_pos hl] at h
      have hk : kindI l = r := by injection h
      have HK := Aside0.mk hk
      have HL := Aside0.mk hl
      clear h hl hk
      go_wp2_with fail
      refine (bookOf_calls A c l w2 (Kd.C_below HR.out HB2.out) hc HL.out).mono ?_
      rintro e w3 ⟨g, rfl, ⟨hc1, hf1, hg, v, hX, hRv⟩, hb3⟩
      obtain ⟨A1, c1, hv⟩ := Kd.R_slice hRv
      subst hv
      have HB3 := Aside0.mk (below_step HB2.out hb3)
      have hx1 : w3.cell? ⟨g, 1, none⟩ = some (.int .i64 ((cntN l 1 : Nat) : Int)) := by rw [(blk_cell hX 1).trans (book_c _ _ _ _ hc1 1 (by omega)), cntsTo]; exact congrArg (fun x => some (Value.int .i64 x)) (rd_range _ 1 (by omega))
      have hx2 : w3.cell? ⟨g, 32, none⟩ = some (.slice A1 (symsTo l 15).length c1) := (blk_cell hX 32).trans (book_v _ _ _ _ hc1 hf1)
      have hx3 : w3.cell? ⟨g, 33, none⟩ = some (.int .i64 ((fullN l 15 : Nat) : Int)) := (blk_cell hX 33).trans (book_s _ _ _ _ hc1 hf1)
      clear hc1 hf1 hg hX hRv hb3 HB2
      have e := HK.out
      unfold kindI at e
      clear HK
      generalize fullN l 15 = S at hx3 e
      generalize (symsTo l 15).length = n at hx2 e
      generalize cntN l 1 = q at hx1 e
      by_cases h1 : S = 0
      · rw [if_pos h1] at e
        subst h1
        subst e
        go_wp2
        go_ret
        exact ⟨rfl, HB3.out⟩
      · rw [if_neg h1] at e
        have d1 : ((S : Int) == 0) = false := by simpa using h1
        by_cases h2 : S = 32768
        · rw [if_pos h2] at e
          subst h2
          subst e
          go_wp2
          go_ret
          exact ⟨rfl, HB3.out⟩
        · rw [if_neg h2] at e
          have d2 : ((S : Int) == 32768) = false := by simp; omega
          by_cases h3 : 32768 < S
          · rw [if_pos h3] at e
            have d3 : decide (32768 < (S : Int)) = true := decide_eq_true (by omega)
            have d4 : decide (32768 < S) = true := decide_eq_true h3
            clear h1 h2 h3
            subst e
            go_wp2
            go_ret
            exact ⟨rfl, HB3.out⟩
          · rw [if_neg h3] at e
            have d3 : decide (32768 < (S : Int)) = false := decide_eq_false (by omega)
            have d4 : decide (32768 < S) = false := decide_eq_false h3
            clear h1 h2 h3
            by_cases h4 : n = 1
            · have d5 : ((n : Int) == 1) = true := by rw [beq_iff_eq]; omega
              have HN := Aside0.mk h4
              clear h4
              by_cases h5 : q = 1
              · have d6 : ((q : Int) == 1) = true := by rw [beq_iff_eq]; omega
                rw [if_pos ⟨HN.out, h5⟩] at e
                clear h5
                subst e
                go_wp2
                go_ret
                exact ⟨rfl, HB3.out⟩
              · have d6 : ((q : Int) == 1) = false := by rw [beq_eq_false_iff_ne]; omega
                rw [if_neg (fun h => h5 h.2)] at e
                clear h5
                subst e
                go_wp2
                go_ret
                exact ⟨rfl, HB3.out⟩
            · have d5 : ((n : Int) == 1) = false := by rw [beq_eq_false_iff_ne]; omega
              rw [if_neg (fun h => h4 h.1)] at e
              clear h4
              subst e
              go_wp2
              go_ret
              exact ⟨rfl, HB3.out⟩
    · rw [if_neg hl] at h
      cases h
/-- Ranks of n bits, n not 0. -/
def rankP (l : List Int) (n i : Nat) : Nat := if n = 0 then 0 else rankN l n i
def fsAt (l : List Int) (i : Nat) : List Int := (List.range 16).map fun j => ((firstN l j + rankP l j i : Nat) : Int)
theorem fsAt_zero (l : List Int) : fsAt l 0 = fstsTo l 15 := by
  unfold fsAt fstsTo
  apply List.map_congr_left
  intro j hj
  rw [if_pos (by have := List.mem_range.1 hj; omega)]
  unfold rankP
  split <;> simp [rankN]
theorem fsAt_step (l : List Int) (i n : Nat) (h0 : 0 < n) (e : rd l (i : Int) = (n : Int)) : (fsAt l i).set n ((firstN l n + rankN l n i : Nat) + 1 : Int) = fsAt l (i + 1) := by
  unfold fsAt
  rw [map_set]
  apply List.map_congr_left
  intro j hj
  by_cases h : j = n
  · rw [if_pos h, h]
    unfold rankP
    rw [if_neg (by omega), rankN, if_pos e]
    omega
  · rw [if_neg h]
    unfold rankP
    by_cases h2 : j = 0
    · rw [if_pos h2, if_pos h2]
    · rw [if_neg h2, if_neg h2, rankN, if_neg (by omega)]
theorem fsAt_same (l : List Int) (i : Nat) (e : rd l (i : Int) = 0) : fsAt l (i + 1) = fsAt l i := by
  unfold fsAt
  apply List.map_congr_left
  intro j hj
  unfold rankP
  by_cases h2 : j = 0
  · rw [if_pos h2, if_pos h2]
  · rw [if_neg h2, if_neg h2, rankN, if_neg (by omega)]
theorem fsAt_len (l : List Int) (i : Nat) : (fsAt l i).length = 16 := by unfold fsAt; simp
def codesI (l : List Int) (n : Nat) : List Int := (List.range n).map fun i : Nat => if 0 < rd l (i : Int) then ((codeN l i : Nat) : Int) else 0
theorem codesI_len (l : List Int) (n : Nat) : (codesI l n).length = n := by unfold codesI; simp
theorem codesI_succ (l : List Int) (n : Nat) : codesI l (n + 1) = codesI l n ++ [if 0 < rd l (n : Int) then ((codeN l n : Nat) : Int) else 0] := by unfold codesI; rw [List.range_succ, List.map_append]; rfl
theorem codes_set (l : List Int) (i d : Nat) (x : Int) (hx : x = if 0 < rd l (i : Int) then ((codeN l i : Nat) : Int) else 0) : (codesI l i ++ List.replicate (d + 1) 0).set i x = codesI l (i + 1) ++ List.replicate d 0 := by
  have hl := codesI_len l i
  rw [codesI_succ, List.set_append, if_neg (by omega), hl, Nat.sub_self, List.replicate_succ, List.set_cons_zero, hx, List.append_assoc]
  rfl
theorem codes_same (l : List Int) (i d : Nat) (h : ¬ 0 < rd l (i : Int)) : codesI l i ++ List.replicate (d + 1) 0 = codesI l (i + 1) ++ List.replicate d 0 := by
  rw [codesI_succ, if_neg h, List.replicate_succ, List.append_assoc]
  rfl
def codesF (l : List Int) (b : Bool) : Option (List Int × Bool) := if b = true then (if l.length ≤ 1000000 ∧ ∀ x ∈ l, 0 ≤ x ∧ x ≤ 15 then some (codesI l l.length, true) else none) else some ([], false)
theorem firstB (l : List Int) (hl : l.length ≤ 1000000) (m : Nat) (hm : m ≤ 15) : firstN l m ≤ 65536000000 := by
  have hb1 := first_le l m
  have hb3 : l.length * 2 ^ (m + 1) ≤ 1000000 * 2 ^ 16 := Nat.mul_le_mul hl (Nat.pow_le_pow_right (by omega) (by omega))
  omega
set_option maxHeartbeats 1000000 in
set_option maxRecDepth 100000 in
theorem CodesOf_f (A : Option Addr) (c : Nat) (l : List Int) (b : Bool) (w : World) (hr : Kd.C (Kd.int .i64) w A l.length l) (hc : l.length ≤ c)
    (hlo : ∀ w, Kd.C (Kd.int .i64) w A l.length l → Calls Try.prog 54 #[.slice A l.length c] w fun e w' => e = .returned (.bool b) ∧ Below w.heap.size w w') (r : List Int × Bool) (h : codesF l b = some r) :
    Calls Try.prog 21 #[.slice A l.length c] w fun e w' => ∃ v : Value, e = .returned (.tuple #[v, .bool r.2]) ∧ Kd.R (Kd.int .i64) 3 w' w.heap.size (fun _ => True) v r.1 ∧ Below w.heap.size w w' := by
  have HLO := Aside0.mk hlo
  have HR := Aside0.mk hr
  have H := Aside0.mk h
  clear hlo hr h
  go_enter Try.func21, Try.ntmps21
  go_wp2_with fail
  refine (HLO.out _ HR.out).mono ?_
  rintro e w2 ⟨rfl, hb2⟩
  have HB2 := Aside0.mk hb2
  clear hb2
  have h := H.out
  unfold codesF at h
  clear H
  cases b with
  | false =>
    rw [if_neg (by decide)] at h
    obtain rfl : ([], false) = r := by injection h
    clear h
    go_wp2
    go_ret2
    exact ⟨_, rfl, Kd.R_nil _ _ _ _ _, HB2.out⟩
  | true =>
    rw [if_pos rfl] at h
    by_cases hl : l.length ≤ 1000000 ∧ ∀ x ∈ l, 0 ≤ x ∧ x ≤ 15
    · rw [if_pos hl] at h
      obtain rfl : (codesI l l.length, true) = r := by injection h
      have HL := Aside0.mk hl
      clear h hl
      go_wp2_with fail
      refine (bookOf_calls A c l w2 (Kd.C_below HR.out HB2.out) hc HL.out.1).mono ?_
      rintro e w3 ⟨g, rfl, ⟨hc1, hf1, hg, v, hX, hRv⟩, hb3⟩
      have hlt := HB2.out.size
      have HG := Aside0.mk (show w.heap.size ≤ g by omega)
      have HB3 := Aside0.mk (below_step HB2.out hb3)
      have HX3 := Aside0.mk hX
      have HS3 := Aside0.mk (blk_lt hX)
      clear hc1 hf1 hg hX hRv hb3 HB2 hlt
      have hn0 : (0 : Int) ≤ (l.length : Int) := by omega
      have hb : (l.length : Int).toNat * 8 ≤ 281474976710656 := by have := HL.out.1; omega
      go_wp2_with (first
        | ((with_reducible refine gate_dst (N := 15) rfl ?_)
           refine Kd.R_make (Kd.int .i64) _ 3 rfl (N := 15) rfl 22 _ _ rfl (l.length : Int) rfl rfl Try.underlying22 (.int .i64 0) 8 infoI rfl (by decide) (by omega) 0 (ok := fun _ => True) (okp := fun _ => True) rfl (fun _ hk => hk) trivial hn0 hb HB3.out HB3.out.size ?_
           intro v1 w4 ho hB hg4 hnew
           have HV := Aside0.mk (Kd.R_lt ho)
           have HO := Aside0.mk ho
           have HB := Aside0.mk hB
           have HX4 := Aside0.mk (blk_grown HX3.out hg4 (by simp))
           clear ho hB hg4 hnew))
      clear hn0 hb
      go_loopg [18] l.length (fun kq v18 w' => ∃ (i : Nat) (v : Value), i + kq = l.length ∧ v18 = .int .i64 (i : Int) ∧ Aside0 (w'.heap[g]? = some (.cells (bookCells (cntsTo l 15) (fsAt l i) v ((fullN l 15 : Nat) : Int)) 73 (0, 0))) ∧ Aside0 (Kd.R (Kd.int .i64) 3 w' w.heap.size (fun _ => True) v1 (codesI l i ++ List.replicate (l.length - i) 0)) ∧ Aside0 (Below w.heap.size w w'))
      case atStart => exact ⟨0, _, by omega, rfl, ⟨by rw [fsAt_zero]; exact HX4.out⟩, ⟨by simpa [codesI] using HO.out⟩, HB⟩
      case round =>
        clear HO HX3 HX4 HB HB3
        obtain ⟨i, v, hi, rfl, HX, HO, HB⟩ := hrel
        cases gk with
        | zero =>
          have hlt : decide ((i : Int) < (l.length : Int)) = false := decide_eq_false (by omega)
          have hlt2 : decide (i < l.length) = false := decide_eq_false (by omega)
          have HI := Aside0.mk (show i = l.length by omega)
          clear hi
          go_wp2
          go_ret2
          have ho := HO.out
          rw [HI.out, Nat.sub_self, List.replicate_zero, List.append_nil] at ho
          exact ⟨_, rfl, ho, HB.out⟩
        | succ gk =>
          have hlt : decide ((i : Int) < (l.length : Int)) = true := decide_eq_true (by omega)
          have hlt2 : decide (i < l.length) = true := decide_eq_true (by omega)
          have p0 : (0 : Int) ≤ (i : Int) := by omega
          have p1 : (i : Int) < (l.length : Int) := by omega
          have k2 : l.length ≤ 1000000 := HL.out.1
          obtain ⟨ad, rfl, hx0⟩ := Kd.at_int HR.out (i : Int) p0 p1
          replace hx0 := pw_cell_below HB.out hx0
          rw [Int.toNat_natCast] at hx0
          have hmem : rd l (i : Int) ∈ l := by
            unfold rd
            rw [Int.toNat_natCast, List.getD_eq_getElem?_getD, List.getElem?_eq_getElem (by omega)]
            exact List.getElem_mem (by omega)
          obtain ⟨r0, r1⟩ := HL.out.2 _ hmem
          have HI := Aside0.mk hi
          by_cases he : 0 < rd l (i : Int)
          · obtain ⟨n, hn⟩ : ∃ n : Nat, rd l (i : Int) = (n : Int) := ⟨(rd l (i : Int)).toNat, by omega⟩
            have HN := Aside0.mk hn
            rw [hn] at hx0
            have hd : decide (0 < (n : Int)) = true := decide_eq_true (by omega)
            have hd2 : decide (0 < n) = true := decide_eq_true (by omega)
            have n0 : (0 : Int) ≤ (n : Int) := by omega
            have n1 : (n : Int) < 16 := by omega
            have HNB := Aside0.mk (show 0 < n ∧ n < 16 by omega)
            have hfl := fsAt_len l i
            have hy1 : wr.cell? ⟨g, 16 + n, none⟩ = some (.int .i64 ((firstN l n + rankN l n i : Nat) : Int)) := by
              rw [(blk_cell HX.out (16 + n)).trans (book_f _ _ _ _ (cnts_len l 15) hfl n (by omega)), fsAt, rd_range _ _ (by omega), rankP, if_neg (by omega)]
            obtain ⟨xs, hxs⟩ : ∃ xs, xs = codesI l i ++ List.replicate (l.length - i) 0 := ⟨_, rfl⟩
            have hxl : xs.length = l.length := by rw [hxs, List.length_append, codesI_len, List.length_replicate]; omega
            have ho := HO.out
            rw [← hxs] at ho
            obtain ⟨gc, capc, hvc, hg1, hg2, hcl⟩ := Kd.R_form ho (by omega)
            subst hvc
            have HXS := Aside0.mk hxs
            have HNE := Aside0.mk (show g ≠ gc from fun h => Kd.R_ne ho HX.out (by decide) (by rw [h]; rfl))
            obtain ⟨hcell, hfz⟩ := Kd.R_celln 0 ho (i : Int) (by omega) (by omega)
            obtain ⟨hP1, hP2⟩ := Kd.R_putg ho (i : Int) ((firstN l n + rankN l n i : Nat) : Int)
            simp only [Int.toNat_natCast] at hcell hfz hP1 hP2
            have q1 : (i : Int) < (xs.length : Int) := by omega
            have HO2 := Aside0.mk hP1
            have HX2 := Aside0.mk (blk_far HX.out (p := ⟨gc, i, none⟩) HNE.out (.int .i64 ((firstN l n + rankN l n i : Nat) : Int)))
            have HB2 := Aside0.mk (below_set (j := i) (v := .int .i64 ((firstN l n + rankN l n i : Nat) : Int)) HB.out hg1)
            have HB9 := Aside0.mk (show rankN l n i ≤ i from rank_le l n i)
            have HF9 := Aside0.mk (firstB l k2 n (by omega))
            have HXL := Aside0.mk hxl
            clear hxl
            generalize hz : firstN l n + rankN l n i = z at hy1 HO2 HX2 HB2
            have HZ := Aside0.mk hz
            clear hP1 hP2 ho HO hxs hz he hi hmem hn hcl hg1 hg2 hfl r0 r1 HX HB
            go_upto_region 10 with (fail)
            obtain ⟨W2, hW2⟩ : ∃ W2, W2 = wr.setCell ⟨gc, i, none⟩ (.int .i64 (z : Int)) := ⟨_, rfl⟩
            rw [← hW2] at HO2 HX2 HB2 ⊢
            clear hcell hfz hy1 hx0 hW2
            have hnb := HNB.out
            have hy2 : W2.cell? ⟨g, 16 + n, none⟩ = some (.int .i64 (z : Int)) := by
              rw [(blk_cell HX2.out (16 + n)).trans (book_f _ _ _ _ (cnts_len l 15) (fsAt_len l i) n (by omega)), fsAt, rd_range _ _ (by omega), rankP, if_neg (by omega), HZ.out]
            have hz2 := blk_frozen HX2.out (16 + n)
            have hw1 : IntKind.i64.wrap ((z : Int) + 1) = (z : Int) + 1 := wraps_i64 _ (by omega) (by have := HB9.out; have := HF9.out; have := HZ.out; omega)
            go_still_tail 10, (by kernel_rfl)
            change wpList _ _ _ _ _ W2.drew
            clear hw1 hnb
            go_wp2
            go_roundg gk
            case measure => omega
            case rel =>
              have hnb := HNB.out
              have hstep := fsAt_step l i n (by omega) HN.out
              rw [HZ.out] at hstep
              refine ⟨i + 1, v, by have := HI.out; omega, by go_num, ⟨?_⟩, ⟨?_⟩, ⟨below_drew (below_set HB2.out HG.out)⟩⟩
              · rw [← hstep]
                exact blk_drew (blk_put HX2.out (16 + n) _ (set_f _ _ _ _ (cnts_len l 15) (fsAt_len l i) n (by omega) _))
              · have e : xs.set i (z : Int) = codesI l (i + 1) ++ List.replicate (l.length - (i + 1)) 0 := by
                  rw [HXS.out, show l.length - i = (l.length - (i + 1)) + 1 by have := HI.out; omega]
                  refine codes_set l i _ _ ?_
                  rw [if_pos (by have := HN.out; omega), ← HZ.out]
                  unfold codeN
                  rw [HN.out, Int.toNat_natCast]
                rw [← e]
                have h2 := Kd.R_drew (Kd.R_set HO2.out HX2.out (by decide) (16 + n) (.int .i64 ((z : Int) + 1)))
                exact h2
          · have hd : decide (0 < rd l (i : Int)) = false := decide_eq_false he
            have HE := Aside0.mk he
            clear he hi hmem
            go_wp2
            go_roundg gk
            case measure => omega
            case rel =>
              refine ⟨i + 1, v, by have := HI.out; omega, by go_num, ⟨by rw [fsAt_same l i (by have := HE.out; omega)]; exact HX.out⟩, ⟨?_⟩, HB⟩
              have ho := HO.out
              rw [show l.length - i = (l.length - (i + 1)) + 1 by omega, codes_same _ _ _ (by have := HE.out; omega)] at ho
              exact ho
    · rw [if_neg hl] at h
      cases h
def takeI (l : List Int) (s : ByteArray) (g : Int → Option Int) : Nat → Nat → Nat → Nat → Nat → Option (Int × ByteArray × Int × Bool)
  | 0, _, _, _, _ => some (0, ⟨#[]⟩, 0, false)
  | d + 1, n, x, y, a => if a < 8 * s.size then ((g (a : Int)).bind fun q => if 0 ≤ q ∧ q ≤ 1 then (if firstN l n ≤ 2 * x + q.toNat ∧ 2 * x + q.toNat < firstN l n + cntN l n then some (rd (symsTo l 15) ((y + (2 * x + q.toNat - firstN l n) : Nat) : Int), s, ((a + 1 : Nat) : Int), true) else takeI l s g d (n + 1) (2 * x + q.toNat) (y + cntN l n) (a + 1)) else none) else some (0, ⟨#[]⟩, 0, false)
def takeF (l : List Int) (s : ByteArray) (a : Int) (g : Int → Option Int) (b : Bool) : Option (Int × ByteArray × Int × Bool) := if b = true then (if s.size > 12000 ∨ a < 0 then some (0, ⟨#[]⟩, 0, false) else if l.length ≤ 1000000 then takeI l s g 15 1 0 0 a.toNat else none) else some (0, ⟨#[]⟩, 0, false)
def takeV (p : Int × ByteArray × Int × Bool) : Value := .tuple #[.int .i64 p.1, .agg #[.string p.2.1, .int .i64 p.2.2.1], .bool p.2.2.2]
theorem syms_split (l : List Int) (n : Nat) (hn : 1 ≤ n) : (symsTo l n).length = (symsTo l (n - 1)).length + cntN l n := by
  obtain ⟨m, rfl⟩ : ∃ m, n = m + 1 := ⟨n - 1, by omega⟩
  rw [symsTo, List.length_append, symsAt_len, rankN_all, Nat.add_sub_cancel, cntN, if_neg (by omega)]
end Go.Proofs.Ytimomemkbcidnaa.MCode
