/- The program's symbol and PutSymbols: the codes of symbols put behind an Out. Conditions: what CodesOf and OutOk return; the bounds that 'putSymF' names ('none' where they fail). -/
import Derived.Test.YtimomemkbcidnaaMCode
import Derived.Test.YtimomemkbcidnaaMOut
namespace Go.Proofs.Ytimomemkbcidnaa.MSym
open Go.RowKit Go.Proofs.YtimomemkbcidnaaW.PrintWords Go.Proofs.YtimomemkbcidnaaW.PrintMore Go.Proofs.Ytimomemkbcidnaa.MBytes Go.Proofs.Ytimomemkbcidnaa.MWriter Go.Proofs.Ytimomemkbcidnaa.MOut
set_option linter.unusedVariables false
set_option linter.unusedSimpArgs false
set_option maxHeartbeats 1000000 in
set_option maxRecDepth 100000 in
theorem symbol_calls (ok : Nat → Prop) (w : World) (g : Nat) (xs : List Int) (c : Nat) (A1 A2 : Option Addr) (c1 c2 : Nat) (cs l : List Int) (y n : Nat) (h : WS ok w g xs c) (hl : xs.length = (c + 7) / 8) (hc : c ≤ 900000) (hn : n ≤ 62) (hfresh : ∀ i, w.heap.size ≤ i → ok i)
    (h1 : Kd.C (Kd.int .i64) w A1 cs.length cs) (h2 : Kd.C (Kd.int .i64) w A2 l.length l) (y1 : y < cs.length) (y2 : y < l.length) (hy : rd l (y : Int) = (n : Int)) :
    Calls Try.prog 63 #[.pointer (some ⟨g, 0, none⟩), .slice A1 cs.length c1, .slice A2 l.length c2, .int .i64 (y : Int)] w fun e w' => e = .returned (.tuple #[]) ∧ WS ok w' g (putAll (highs (rd cs (y : Int)) n n) xs c) ((c + n : Nat) : Int) ∧ KO ok w w' := by
  have p0 : (0 : Int) ≤ (y : Int) := by omega
  have p1 : (y : Int) < (cs.length : Int) := by omega
  have p2 : (y : Int) < (l.length : Int) := by omega
  obtain ⟨ad1, rfl, hx1⟩ := Kd.at_int h1 (y : Int) p0 p1
  obtain ⟨ad2, rfl, hx2⟩ := Kd.at_int h2 (y : Int) p0 p2
  rw [Int.toNat_natCast] at hx1 hx2
  rw [hy] at hx2
  have H := Aside0.mk h
  have HL := Aside0.mk hl
  clear h hl hy h1 h2
  go_enter Try.func63, Try.ntmps63
  go_wp2_with fail
  go_still_tail 9, (by kernel_rfl)
  change wpList _ _ _ _ _ w.drew
  go_wp2_with fail
  refine (code_calls ok w.drew g xs c _ n H.out HL.out hc hn hfresh).mono ?_
  rintro e w2 ⟨rfl, hs, hk⟩
  have HS := Aside0.mk hs
  have HK := Aside0.mk ((KO.drewN (KO.refl ok w) 1).trans hk)
  clear hs hk
  go_wp2
  go_end0
  exact ⟨rfl, HS.out, HK.out⟩
/-- Codes of symbols, one behind the other; what 'out' tells of them. -/
def putSymL (l codes : List Int) : List Int → List Int → Nat → Option (ByteArray × Int × Bool)
  | [], xs, c => some (outF xs c)
  | y :: ys, xs, c => if 0 ≤ y ∧ y ≤ (l.length : Int) - 1 then (if rd l y = 0 then some (⟨#[]⟩, 0, false) else if xs.length > 12000 then some (⟨#[]⟩, 0, false) else if 0 ≤ rd l y ∧ rd l y ≤ 62 then putSymL l codes ys (putAll (highs (rd codes y) (rd l y).toNat (rd l y).toNat) xs c) (c + (rd l y).toNat) else none) else some (⟨#[]⟩, 0, false)
def putSymF (s : ByteArray) (c : Int) (l list : List Int) (cr : List Int × Bool) (b : Bool) : Option (ByteArray × Int × Bool) := if cr.2 = true then (if b = true then (if 0 ≤ c ∧ c ≤ 900000 ∧ (s.size : Int) = (c + 7) / 8 ∧ cr.1.length = l.length ∧ l.length ≤ 1000000 ∧ list.length ≤ 2000000 then putSymL l cr.1 list (bytesOf s) c.toNat else none) else some (⟨#[]⟩, 0, false)) else some (⟨#[]⟩, 0, false)
set_option maxHeartbeats 1000000 in
set_option maxRecDepth 100000 in
theorem PutSymbols_f (s : ByteArray) (c : Int) (A1 A2 : Option Addr) (c1 c2 : Nat) (l list : List Int) (cr : List Int × Bool) (b : Bool) (w : World) (hr1 : Kd.C (Kd.int .i64) w A1 l.length l) (hc1 : l.length ≤ c1) (hr2 : Kd.C (Kd.int .i64) w A2 list.length list) (hc2 : list.length ≤ c2)
    (hco : ∀ w, Kd.C (Kd.int .i64) w A1 l.length l → Calls Try.prog 21 #[.slice A1 l.length c1] w fun e w' => ∃ v : Value, e = .returned (.tuple #[v, .bool cr.2]) ∧ Kd.R (Kd.int .i64) 3 w' w.heap.size (fun _ => True) v cr.1 ∧ Below w.heap.size w w')
    (hok : ∀ w, Calls Try.prog 61 #[.agg #[.string s, .int .i64 c]] w fun e w' => e = .returned (.bool b) ∧ Below w.heap.size w w')
    (r : ByteArray × Int × Bool) (h : putSymF s c l list cr b = some r) :
    Calls Try.prog 34 #[.agg #[.string s, .int .i64 c], .slice A1 l.length c1, .slice A2 list.length c2] w fun e w' => e = .returned (outV r) ∧ Below w.heap.size w w' := by
  have HCO := Aside0.mk hco
  have HOK := Aside0.mk hok
  have HR1 := Aside0.mk hr1
  have HR2 := Aside0.mk hr2
  have H := Aside0.mk h
  clear hco hok hr1 hr2 h
  go_enter Try.func34, Try.ntmps34
  go_wp2_with fail
  obtain ⟨W1, hW1⟩ : ∃ W1, W1 = (w.alloc (.cells #[.string s, .int .i64 c] 47)).alloc (.cells #[.string ⟨#[]⟩, .int .i64 0] 47) := ⟨_, rfl⟩
  have hbk : W1.heap[w.heap.size]? = some (.cells #[.string s, .int .i64 c] 47 (0, 0)) := by rw [hW1]; exact blk_alloc (blk_new w _) _
  have hrs : W1.heap[w.heap.size + 1]? = some (.cells #[.string ⟨#[]⟩, .int .i64 0] 47 (0, 0)) := by rw [hW1]; have h1 := blk_new (w.alloc (.cells #[.string s, .int .i64 c] 47)) (.cells #[.string ⟨#[]⟩, .int .i64 0] 47); simpa using h1
  have hB1 : Below w.heap.size w W1 := by rw [hW1]; exact below_alloc (below_alloc (Below.refl _ _) _) _
  rw [← hW1]
  clear hW1
  refine (HCO.out _ (Kd.C_below HR1.out hB1)).mono ?_
  rintro e w2 ⟨v, rfl, hv, hd⟩
  have HV2 := Aside0.mk hv
  have HB2 := Aside0.mk (below_step hB1 hd)
  have HBK2 := Aside0.mk (blk_below hbk hd)
  have HRS2 := Aside0.mk (blk_below hrs hd)
  clear hbk hrs hB1 hv hd HCO
  have h := H.out
  unfold putSymF at h
  clear H
  obtain ⟨cs, cb⟩ := cr
  dsimp only at h HV2 ⊢
  have hr0 := blk_cell HRS2.out 0
  have hr1 := blk_cell HRS2.out 1
  have hz0 := blk_frozen HRS2.out 0
  have hz1 := blk_frozen HRS2.out 1
  have hc0 := blk_cell HBK2.out 0
  have hc1' := blk_cell HBK2.out 1
  simp at hr0 hr1 hc0 hc1'
  cases cb with
  | false =>
    rw [if_neg (by decide)] at h
    obtain rfl : (⟨#[]⟩, 0, false) = r := by injection h
    clear h
    go_wp2
    refine bodyPost_ret (results_ct rfl _ _ (w.heap.size + 1) 47 #[.string (⟨#[]⟩ : ByteArray), .int .i64 0] (0, 0) _ rfl (by refine blk_put (cs := #[.string (⟨#[]⟩ : ByteArray), .int .i64 0]) ?_ 1 _ rfl; refine blk_put (cs := #[.string (⟨#[]⟩ : ByteArray), .int .i64 0]) ?_ 0 _ rfl; exact HRS2.out) Try.underlying47 rfl (by kernel_rfl)) rfl ?_
    exact ⟨rfl, below_set (below_set HB2.out (Nat.le_succ _)) (Nat.le_succ _)⟩
  | true =>
    rw [if_pos rfl] at h
    have H := Aside0.mk h
    clear h
    go_wp2_with fail
    refine (HOK.out _).mono ?_
    rintro e w3 ⟨rfl, hd⟩
    have HB3 := Aside0.mk (below_step HB2.out hd)
    have HBK3 := Aside0.mk (blk_below HBK2.out hd)
    have HRS3 := Aside0.mk (blk_below HRS2.out hd)
    have HV3 := Aside0.mk (Kd.R_below HV2.out hd)
    clear hr0 hr1 hz0 hz1 hc0 hc1' hd HB2 HBK2 HRS2 HV2 HOK
    have hr0 := blk_cell HRS3.out 0
    have hr1 := blk_cell HRS3.out 1
    have hz0 := blk_frozen HRS3.out 0
    have hz1 := blk_frozen HRS3.out 1
    have hc0 := blk_cell HBK3.out 0
    have hc1' := blk_cell HBK3.out 1
    simp at hr0 hr1 hc0 hc1'
    cases b with
    | false =>
      have h := H.out
      rw [if_neg (by decide)] at h
      obtain rfl : (⟨#[]⟩, 0, false) = r := by injection h
      clear h
      go_wp2
      refine bodyPost_ret (results_ct rfl _ _ (w.heap.size + 1) 47 #[.string (⟨#[]⟩ : ByteArray), .int .i64 0] (0, 0) _ rfl (by refine blk_put (cs := #[.string (⟨#[]⟩ : ByteArray), .int .i64 0]) ?_ 1 _ rfl; refine blk_put (cs := #[.string (⟨#[]⟩ : ByteArray), .int .i64 0]) ?_ 0 _ rfl; exact HRS3.out) Try.underlying47 rfl (by kernel_rfl)) rfl ?_
      exact ⟨rfl, below_set (below_set HB3.out (Nat.le_succ _)) (Nat.le_succ _)⟩
    | true =>
      have h := H.out
      rw [if_pos rfl] at h
      by_cases hcon : 0 ≤ c ∧ c ≤ 900000 ∧ (s.size : Int) = (c + 7) / 8 ∧ cs.length = l.length ∧ l.length ≤ 1000000 ∧ list.length ≤ 2000000
      · rw [if_pos hcon] at h
        obtain ⟨C, rfl⟩ := Int.eq_ofNat_of_zero_le hcon.1
        rw [Int.toNat_natCast] at h
        have HC := Aside0.mk hcon
        have HH := Aside0.mk h
        clear h hcon H hr0 hr1 hz0 hz1
        go_wp2_with fail
        clear hc0 hc1'
        have hsz : s.size ≤ maxLen := by have := HC.out; unfold maxLen; omega
        refine (writerOf_calls s _ w3 hsz).mono ?_
        rintro e w4 ⟨g, rfl, hws, hb4⟩
        clear hsz
        obtain ⟨A3, c3, hvv⟩ := Kd.R_slice HV3.out
        subst hvv
        have HCS := Aside0.mk (Kd.R_reads' HV3.out).2.2
        have HB34 := Aside0.mk hb4
        have HRS4 := Aside0.mk (blk_below HRS3.out hb4)
        have HB4 := Aside0.mk (below_step HB3.out hb4)
        have HWS4 := Aside0.mk hws
        have HLT := Aside0.mk (show w.heap.size + 1 < w3.heap.size from blk_lt HRS3.out)
        have HLE := Aside0.mk hb4.size
        clear hws hb4 HRS3 HB3 HBK3 HV3
        go_wp2_with fail
        go_loopg [30] list.length (fun kq v30 w' => ∃ (i : Nat) (xs : List Int) (c' : Nat), i + kq = list.length ∧ v30 = .int .i64 (i : Int) ∧ Aside0 (putSymL l cs (list.drop i) xs c' = some r) ∧ Aside0 (xs.length = (c' + 7) / 8) ∧ Aside0 (WS (fun k => w3.heap.size ≤ k) w' g xs c') ∧ Aside0 (KO (fun k => w3.heap.size ≤ k) w4 w'))
        case atStart => exact ⟨0, bytesOf s, C, by omega, rfl, ⟨by rw [List.drop_zero]; exact HH.out⟩, ⟨by rw [bytesOf_length]; have := HC.out.2.2.1; omega⟩, HWS4, ⟨KO.refl _ _⟩⟩
        case round =>
          clear HH HWS4
          obtain ⟨i, xs, c', hi, rfl, HP, HXL, HWS, HK⟩ := hrel
          have HBw := Aside0.mk (HB4.out.trans (KO.below HK.out (B := w.heap.size) (by have := HLT.out; have := HLE.out; omega) (fun j hj => by have := HLT.out; omega)))
          have HRSw := Aside0.mk (KO.blk HK.out HRS4.out (by have := HLT.out; omega))
          have k9 : list.length ≤ 2000000 := HC.out.2.2.2.2.2
          have k8 : l.length ≤ 1000000 := HC.out.2.2.2.2.1
          cases gk with
          | zero =>
            have hlt : decide ((i : Int) < (list.length : Int)) = false := decide_eq_false (by omega)
            have hlt2 : decide (i < list.length) = false := decide_eq_false (by omega)
            have hp := HP.out
            rw [List.drop_of_length_le (by omega), putSymL] at hp
            have hp2 : outF xs (c' : Int) = r := by injection hp
            have HR := Aside0.mk hp2
            clear hp hp2 hi
            go_wp2_with fail
            refine (out_calls' _ wr g xs _ HWS.out).mono ?_
            rintro e w5 ⟨rfl, hb5⟩
            have hrs := blk_below HRSw.out hb5
            have HB5 := Aside0.mk (below_step HBw.out hb5)
            have hr := HR.out
            rw [hr]
            clear hr HR hb5
            obtain ⟨r1, r2, r3⟩ := r
            unfold outV
            dsimp only
            have hr0 := blk_cell hrs 0
            have hr1 := blk_cell hrs 1
            have hz0 := blk_frozen hrs 0
            have hz1 := blk_frozen hrs 1
            simp at hr0 hr1
            have HRS := Aside0.mk hrs
            clear hrs
            go_wp2
            refine bodyPost_ret (results_ct rfl _ _ (w.heap.size + 1) 47 #[.string r1, .int .i64 r2] (0, 0) _ rfl (by refine blk_put (cs := #[.string r1, .int .i64 0]) ?_ 1 _ rfl; refine blk_put (cs := #[.string (⟨#[]⟩ : ByteArray), .int .i64 0]) ?_ 0 _ rfl; exact HRS.out) Try.underlying47 rfl (by kernel_rfl)) rfl ?_
            exact ⟨rfl, below_set (below_set HB5.out (Nat.le_succ _)) (Nat.le_succ _)⟩
          | succ gk =>
            have hlt : decide ((i : Int) < (list.length : Int)) = true := decide_eq_true (by omega)
            have hlt2 : decide (i < list.length) = true := decide_eq_true (by omega)
            have p0 : (0 : Int) ≤ (i : Int) := by omega
            have p1 : (i : Int) < (list.length : Int) := by omega
            obtain ⟨ad2, hA2, hx2⟩ := Kd.at_int HR2.out (i : Int) p0 p1
            subst hA2
            replace hx2 := pw_cell_below HBw.out hx2
            rw [Int.toNat_natCast] at hx2
            have hdr : list.drop i = rd list (i : Int) :: list.drop (i + 1) := by
              have : rd list (i : Int) = list[i] := by unfold rd; rw [Int.toNat_natCast, List.getD_eq_getElem?_getD, List.getElem?_eq_getElem (by omega)]; rfl
              rw [this]
              exact List.drop_eq_getElem_cons (by omega)
            have hp := HP.out
            rw [hdr, putSymL] at hp
            generalize rd list (i : Int) = y at hp hx2
            have HPP := Aside0.mk hp
            have HI := Aside0.mk hi
            clear hp hdr HP hi
            have hr0 := blk_cell HRSw.out 0
            have hr1 := blk_cell HRSw.out 1
            have hz0 := blk_frozen HRSw.out 0
            have hz1 := blk_frozen HRSw.out 1
            simp at hr0 hr1
            go_wp2_with fail
            refine (MCode.within_calls _ _ _ wr).mono ?_
            rintro e w6 ⟨rfl, rfl⟩
            have hp := HPP.out
            by_cases hin : 0 ≤ y ∧ y ≤ (l.length : Int) - 1
            · rw [decide_eq_true hin]
              rw [if_pos hin] at hp
              obtain ⟨Y, rfl⟩ := Int.eq_ofNat_of_zero_le hin.1
              have q0 : (0 : Int) ≤ (Y : Int) := by omega
              have q1 : (Y : Int) < (l.length : Int) := by omega
              obtain ⟨ad1, hA1, hx1⟩ := Kd.at_int HR1.out (Y : Int) q0 q1
              subst hA1
              replace hx1 := pw_cell_below HBw.out hx1
              rw [Int.toNat_natCast] at hx1
              have HIN := Aside0.mk hin
              clear hin
              by_cases hz : rd l (Y : Int) = 0
              · rw [if_pos hz] at hp
                obtain rfl : (⟨#[]⟩, 0, false) = r := by injection hp
                rw [hz] at hx1
                clear hp hz
                go_wp2
                refine bodyPost_ret (results_ct rfl _ _ (w.heap.size + 1) 47 #[.string (⟨#[]⟩ : ByteArray), .int .i64 0] (0, 0) _ rfl (by refine blk_put (cs := #[.string (⟨#[]⟩ : ByteArray), .int .i64 0]) ?_ 1 _ rfl; refine blk_put (cs := #[.string (⟨#[]⟩ : ByteArray), .int .i64 0]) ?_ 0 _ rfl; exact HRSw.out) Try.underlying47 rfl (by kernel_rfl)) rfl ?_
                exact ⟨rfl, below_set (below_set HBw.out (Nat.le_succ _)) (Nat.le_succ _)⟩
              · rw [if_neg hz] at hp
                have dz : (rd l (Y : Int) == 0) = false := by rw [beq_eq_false_iff_ne]; exact hz
                obtain ⟨hgo, v, hX, hBR, hne, hok⟩ := id HWS.out
                obtain ⟨gb, cap, hvv, hcap1, hcap2, hob, hltb⟩ := hBR.block
                subst hvv
                have hw0 : wr.cell? ⟨g, 0, none⟩ = some (.slice (some ⟨gb, 0, none⟩) xs.length cap) := blk_cell hX 0
                clear hX hBR hne hok hob hltb hcap1 hcap2 hgo
                by_cases hbig : xs.length > 12000
                · rw [if_pos hbig] at hp
                  obtain rfl : (⟨#[]⟩, 0, false) = r := by injection hp
                  have d1 : decide (12000 < (xs.length : Int)) = true := decide_eq_true (by omega)
                  have d2 : decide (12000 < xs.length) = true := decide_eq_true (by omega)
                  clear hp hz hbig
                  go_wp2
                  refine bodyPost_ret (results_ct rfl _ _ (w.heap.size + 1) 47 #[.string (⟨#[]⟩ : ByteArray), .int .i64 0] (0, 0) _ rfl (by refine blk_put (cs := #[.string (⟨#[]⟩ : ByteArray), .int .i64 0]) ?_ 1 _ rfl; refine blk_put (cs := #[.string (⟨#[]⟩ : ByteArray), .int .i64 0]) ?_ 0 _ rfl; exact HRSw.out) Try.underlying47 rfl (by kernel_rfl)) rfl ?_
                  exact ⟨rfl, below_set (below_set HBw.out (Nat.le_succ _)) (Nat.le_succ _)⟩
                · rw [if_neg hbig] at hp
                  have d1 : decide (12000 < (xs.length : Int)) = false := decide_eq_false (by omega)
                  have d2 : decide (12000 < xs.length) = false := decide_eq_false (by omega)
                  by_cases hrg : 0 ≤ rd l (Y : Int) ∧ rd l (Y : Int) ≤ 62
                  · rw [if_pos hrg] at hp
                    obtain ⟨n, hn⟩ : ∃ n : Nat, rd l (Y : Int) = (n : Int) := ⟨(rd l (Y : Int)).toNat, by omega⟩
                    rw [hn, Int.toNat_natCast] at hp
                    have HP2 := Aside0.mk hp
                    have HN := Aside0.mk hn
                    have HN62 := Aside0.mk (show n ≤ 62 by omega)
                    have HC9 := Aside0.mk (show c' ≤ 900000 by have := HXL.out; omega)
                    have HL9 := Aside0.mk HC.out.2.2.2.1
                    rw [hn] at hx1 dz
                    clear hp hz hbig hrg hn
                    go_wp2_with fail
                    have hy1 : Y < cs.length := by have := HL9.out; omega
                    have hfresh : ∀ i, wr.heap.size ≤ i → w3.heap.size ≤ i := fun i hi => by have := HK.out.kept.1; have := HLE.out; omega
                    refine (symbol_calls (fun k => w3.heap.size ≤ k) wr g xs c' A3 (some ad1) c3 c1 cs l Y n HWS.out HXL.out HC9.out HN62.out hfresh (Kd.C_below HCS.out (HB34.out.trans (KO.below HK.out (B := w3.heap.size) HLE.out (fun i hi => hi)))) (Kd.C_below HR1.out HBw.out) hy1 (by omega) HN.out).mono ?_
                    rintro e w7 ⟨rfl, hs, hk⟩
                    have HW7 := Aside0.mk hs
                    have HK7 := Aside0.mk (HK.out.trans hk)
                    clear hs hk hfresh hy1 hw0 hx1 hx2 hr0 hr1 hz0 hz1
                    go_wp2
                    go_roundg gk
                    case measure => omega
                    case rel =>
                      refine ⟨i + 1, _, c' + n, by have := HI.out; omega, by go_num, HP2, ⟨?_⟩, HW7, HK7⟩
                      rw [putAll_len _ _ _ HXL.out, highs_len]
                  · rw [if_neg hrg] at hp
                    cases hp
            · rw [decide_eq_false hin]
              rw [if_neg hin] at hp
              obtain rfl : (⟨#[]⟩, 0, false) = r := by injection hp
              clear hp hin
              go_wp2
              refine bodyPost_ret (results_ct rfl _ _ (w.heap.size + 1) 47 #[.string (⟨#[]⟩ : ByteArray), .int .i64 0] (0, 0) _ rfl (by refine blk_put (cs := #[.string (⟨#[]⟩ : ByteArray), .int .i64 0]) ?_ 1 _ rfl; refine blk_put (cs := #[.string (⟨#[]⟩ : ByteArray), .int .i64 0]) ?_ 0 _ rfl; exact HRSw.out) Try.underlying47 rfl (by kernel_rfl)) rfl ?_
              exact ⟨rfl, below_set (below_set HBw.out (Nat.le_succ _)) (Nat.le_succ _)⟩
      · rw [if_neg hcon] at h
        cases h
end Go.Proofs.Ytimomemkbcidnaa.MSym
