/- The reference's l09All: all pieces put behind the bits under way. Conditions: how the pieces lie in memory; the bounds that 'allF' names ('none' where they fail). -/
import Derived.Test.YtimomemkbcidnaaMPut
import Derived.Test.YtimomemkbcidnaaMOut
import Derived.Deep.DeepCutAuto
import Derived.Deep.QuietTactic
import Derived.BigQuiet
namespace Go.Proofs.Ytimomemkbcidnaa.MAll
open Go.RowKit Go.Proofs.YtimomemkbcidnaaW.PrintWords Go.Proofs.Ytimomemkbcidnaa.MBytes Go.Proofs.Ytimomemkbcidnaa.MWriter Go.Proofs.Ytimomemkbcidnaa.MOut Go.Proofs.Ytimomemkbcidnaa.MPut
set_option linter.unusedVariables false
set_option linter.unusedSimpArgs false
/-- The bits of a piece from the k-th on, d of them. -/
def bitsF (v : Int) (n : Nat) (high : Bool) : Nat → Nat → List Int
  | 0, _ => []
  | d + 1, k => v / 2 ^ (if high = true then n - 1 - k else k) % 2 :: bitsF v n high d (k + 1)
/-- All pieces from i on, d of them: none within where they became too many. -/
def allF (L : Nat → Int × Int × Bool) : Nat → Nat → List Int → Nat → Option (Option (List Int × Nat))
  | 0, _, xs, c => some (some (xs, c))
  | d + 1, i, xs, c => if 0 ≤ (L i).1 ∧ (L i).1 ≤ 4611686018427387904 ∧ 0 ≤ (L i).2.1 ∧ (L i).2.1 ≤ 62 then (if (addAll (bitsF (L i).1 (L i).2.1.toNat (L i).2.2 (L i).2.1.toNat 0) xs c).length > 12000 then some none else allF L d (i + 1) (addAll (bitsF (L i).1 (L i).2.1.toNat (L i).2.2 (L i).2.1.toNat 0) xs c) (c + (L i).2.1.toNat)) else none
def l09AllF (L : Nat → Int × Int × Bool) (n : Nat) (st : ByteArray × Int × Bool) : Option (ByteArray × Int × Bool) := if st.2.2 = true then some st else if 0 ≤ st.2.1 ∧ st.2.1 ≤ 100000 ∧ (st.1.size : Int) = (st.2.1 + 7) / 8 then (allF L n 0 (bytesOf st.1) st.2.1.toNat).bind fun q => some (match q with | none => (st.1, st.2.1, true) | some z => (strOfNums z.1, (z.2 : Int), false)) else none
/-- Piece i lies in memory so. -/
def PieceAt (w : World) (A : Option Addr) (i : Nat) (t : Int × Int × Bool) : Prop := ∃ ad, A = some ad ∧ w.cell? (ad.add (i * 3)) = some (.int .i64 t.1) ∧ w.cell? ⟨(ad.add (i * 3)).block, (ad.add (i * 3)).off + 1, none⟩ = some (.int .i64 t.2.1) ∧ w.cell? ⟨(ad.add (i * 3)).block, (ad.add (i * 3)).off + 2, none⟩ = some (.bool t.2.2)
set_option maxHeartbeats 8000000 in
set_option maxRecDepth 100000 in
theorem l09All_calls (w : World) (g0 : Nat) (st : ByteArray × Int × Bool) (A : Option Addr) (n cp : Nat) (hn : n ≤ 1000000) (hcp : n ≤ cp) (L : Nat → Int × Int × Bool) (hg : w.heap[g0]? = some (.cells #[.string st.1, .int .i64 st.2.1, .bool st.2.2] 115 (0, 0))) (hr : ∀ i, i < n → PieceAt w A i (L i)) (r : ByteArray × Int × Bool) (h : l09AllF L n st = some r) :
    Calls Try.prog 88 #[.pointer (some ⟨g0, 0, none⟩), .slice A n cp] w fun e w' => e = .returned (.tuple #[]) ∧ w'.heap[g0]? = some (.cells #[.string r.1, .int .i64 r.2.1, .bool r.2.2] 115 (0, 0)) ∧ KO (fun k => k = g0 ∨ w.heap.size ≤ k) w w' := by
  obtain ⟨s, c, bad⟩ := st
  dsimp only at hg
  have HG := Aside0.mk hg
  have HR := Aside0.mk hr
  have h0 := blk_cell hg 0
  have h1 := blk_cell hg 1
  have h2 := blk_cell hg 2
  have z0 := blk_frozen hg 0
  have z1 := blk_frozen hg 1
  have z2 := blk_frozen hg 2
  simp at h0 h1 h2
  have HLT := Aside0.mk (blk_lt hg)
  unfold l09AllF at h
  clear hg hr
  cases bad with
  | true =>
    rw [if_pos rfl] at h
    obtain rfl : (s, c, true) = r := by injection h
    clear h
    go_enter Try.func88, Try.ntmps88
    go_wp2
    refine bodyPost_ret (results_none rfl _ _ _) rfl ?_
    exact ⟨rfl, HG.out, KO.refl _ _⟩
  | false =>
    rw [if_neg (show ¬ (false = true) by decide)] at h
    by_cases hcon : 0 ≤ c ∧ c ≤ 100000 ∧ (s.size : Int) = (c + 7) / 8
    · rw [if_pos hcon] at h
      obtain ⟨C, rfl⟩ := Int.eq_ofNat_of_zero_le hcon.1
      dsimp only at h
      rw [Int.toNat_natCast] at h
      obtain ⟨q, hq, h⟩ := Option.bind_eq_some_iff.mp h
      have hS8 : s.size = (C + 7) / 8 := by omega
      have hC1 : C ≤ 100000 := by omega
      have HQ := Aside0.mk hq
      have HH := Aside0.mk h
      have HSZ := Aside0.mk (show s.size ≤ maxLen by unfold maxLen; omega)
      have HL0 := Aside0.mk (show (bytesOf s).length = (C + 7) / 8 by rw [bytesOf_length]; exact hS8)
      clear h hq hcon hS8
      go_enter Try.func88, Try.ntmps88
      go_wp2_with (first
        | ((with_reducible refine gate_dst (N := 19) rfl ?_)
           refine wpList_bytes rfl 9 32 5 (.tmp 18) rfl Try.underlying9 Try.underlying32 Try.underlying5 s rfl HSZ.out ?_
           intro g cap w1 hb hg hB
           have hg1 := blk_below HG.out hB
           have h0 := blk_cell hg1 0
           have h1 := blk_cell hg1 1
           have h2 := blk_cell hg1 2
           simp at h0 h1 h2
           have HB1 := Aside0.mk hB
           have HR1 := Aside0.mk hb
           have HGE := Aside0.mk (show w.heap.size ≤ g by omega)
           clear hB hb hg hg1))
      clear h0 h1 h2 z0 z1 z2
      go_loopg [4, 5, 6, 7, 8, 9] n (fun kq v4 v5 v6 v7 v8 v9 w' => ∃ (i g' cap' c' : Nat) (xs : List Int), i + kq = n ∧ v4 = .slice (some ⟨g', 0, none⟩) xs.length cap' ∧ v5 = .int .i64 (c' : Int) ∧ v6 = .int .i64 (i : Int) ∧ Aside0 (allF L kq i xs c' = some q) ∧ Aside0 (xs.length = (c' + 7) / 8 ∧ xs.length ≤ 13000) ∧ Aside0 (BR 5 w' (.slice (some ⟨g', 0, none⟩) xs.length cap') xs) ∧ Aside0 (w.heap.size ≤ g') ∧ Aside0 (Below w.heap.size w w'))
      case atStart => exact ⟨0, g, cap, C, bytesOf s, by omega, rfl, rfl, rfl, HQ, ⟨HL0.out, by have := HL0.out; omega⟩, HR1, HGE, HB1⟩
      case round =>
        clear HQ HL0 HR1 HGE HB1
        obtain ⟨i, g1, cap1, c', xs, hi, rfl, rfl, rfl, HQ, HL, HRb, HGE, HB⟩ := hrel
        cases gk with
        | zero =>
          obtain rfl : i = n := by omega
          have e1 : decide (i < i) = false := decide_eq_false (by omega)
          have e2 : decide ((i : Int) < (i : Int)) = false := decide_eq_false (by omega)
          have hqq : some (xs, c') = q := by have h := HQ.out; rw [allF] at h; injection h
          subst hqq
          obtain rfl : (strOfNums xs, (c' : Int), false) = r := by have h := HH.out; injection h
          have hcv : (convert 32 9 (.slice (some ⟨g1, 0, none⟩) xs.length cap1)).run Try.prog wr = .ok (.string (strOfNums xs)) wr := string_of_reads Try.underlying32 Try.underlying5 Try.underlying9 HRb.out.reads
          have hgw := blk_below HG.out HB.out
          have h0 := blk_cell hgw 0
          have h1 := blk_cell hgw 1
          have z0 := blk_frozen hgw 0
          have z1 := blk_frozen hgw 1
          simp at h0 h1
          have HGW := Aside0.mk hgw
          clear hgw hi HQ HH
          go_wp2
          go_end0
          refine ⟨rfl, ?_, ((KO.of_below HB.out).set (.inl rfl) _).set (.inl rfl) _⟩
          refine blk_put (cs := #[.string (strOfNums xs), .int .i64 (C : Int), .bool false]) ?_ 1 _ rfl
          refine blk_put (cs := #[.string s, .int .i64 (C : Int), .bool false]) ?_ 0 _ rfl
          exact HGW.out
        | succ gko =>
          have e1 : decide (i < n) = true := decide_eq_true (by omega)
          have e2 : decide ((i : Int) < (n : Int)) = true := decide_eq_true (by omega)
          have i0 : (0 : Int) ≤ (i : Int) := by omega
          have i1 : (i : Int) < (n : Int) := by omega
          obtain ⟨ad, hA, hp0, hp1, hp2⟩ := HR.out i (by omega)
          subst hA
          have hqq := HQ.out
          rw [allF] at hqq
          generalize L i = t at hp0 hp1 hp2 hqq
          obtain ⟨v, nn, high⟩ := t
          dsimp only at hp0 hp1 hp2 hqq
          by_cases hcon : 0 ≤ v ∧ v ≤ 4611686018427387904 ∧ 0 ≤ nn ∧ nn ≤ 62
          · rw [if_pos hcon] at hqq
            obtain ⟨v0, v1, n0, n1⟩ := hcon
            obtain ⟨pn, rfl⟩ := Int.eq_ofNat_of_zero_le n0
            rw [Int.toNat_natCast] at hqq
            have HP0 := Aside0.mk hp0
            have HP1 := Aside0.mk hp1
            have HP2 := Aside0.mk hp2
            obtain ⟨XE, hXE⟩ : ∃ XE, XE = addAll (bitsF v pn high pn 0) xs c' := ⟨_, rfl⟩
            rw [← hXE] at hqq
            have HXE := Aside0.mk hXE
            have HQQ := Aside0.mk hqq
            have HI := Aside0.mk hi
            clear hXE hqq hp0 hp1 hp2 HQ hi
            have hpn : pn ≤ 62 := by omega
            have hxl1 := HL.out.1
            have hxl2 := HL.out.2
            have hc' : c' ≤ 110000 := by omega
            clear hxl1 hxl2
            obtain ⟨wo, hwo⟩ : ∃ wo : World, wo = wr := ⟨_, rfl⟩
            subst hwo
            go_wp2_with fail
            go_loopg [4, 5, 7, 8, 9] pn (fun kq v4 v5 v7 v8 v9 w' => ∃ (k g' cap' : Nat) (ys : List Int), k + kq = pn ∧ v4 = .slice (some ⟨g', 0, none⟩) ys.length cap' ∧ v5 = .int .i64 ((c' + k : Nat) : Int) ∧ v7 = .int .i64 (k : Int) ∧ Aside0 (addAll (bitsF v pn high kq k) ys (c' + k) = XE) ∧ Aside0 (ys.length = (c' + k + 7) / 8) ∧ Aside0 (BR 5 w' (.slice (some ⟨g', 0, none⟩) ys.length cap') ys) ∧ Aside0 (w.heap.size ≤ g') ∧ Aside0 (Below w.heap.size w w'))
            case atStart => exact ⟨0, g1, cap1, xs, by omega, rfl, rfl, rfl, ⟨HXE.out.symm⟩, ⟨HL.out.1⟩, HRb, HGE, HB⟩
            case round =>
              clear HXE HL HRb HGE HB
              obtain ⟨k, g2, cap2, ys, hk, rfl, rfl, rfl, HE, HL, HRb, HGE, HB⟩ := hrel
              have hp0 := pw_cell_below HB.out HP0.out
              have hp1 := pw_cell_below HB.out HP1.out
              have hp2 := pw_cell_below HB.out HP2.out
              cases gk with
              | zero =>
                obtain rfl : k = pn := by omega
                have f1 : decide (k < k) = false := decide_eq_false (by omega)
                have f2 : decide ((k : Int) < (k : Int)) = false := decide_eq_false (by omega)
                have he : ys = XE := HE.out
                subst he
                have hqq := HQQ.out
                by_cases hbig : ys.length > 12000
                · rw [if_pos hbig] at hqq
                  obtain rfl : none = q := by injection hqq
                  obtain rfl : (s, (C : Int), true) = r := by have h := HH.out; injection h
                  have d1 : decide (12000 < (ys.length : Int)) = true := decide_eq_true (by omega)
                  have d2 : decide (12000 < ys.length) = true := decide_eq_true (by omega)
                  have hgw := blk_below HG.out HB.out
                  have h2 := blk_cell hgw 2
                  have z2 := blk_frozen hgw 2
                  simp at h2
                  have HGW := Aside0.mk hgw
                  clear hgw hqq HH HQQ hbig
                  go_wp2
                  refine bodyPost_ret (results_none rfl _ _ _) rfl ?_
                  refine ⟨rfl, ?_, (KO.of_below HB.out).set (.inl rfl) _⟩
                  refine blk_put (cs := #[.string s, .int .i64 (C : Int), .bool false]) ?_ 2 _ rfl
                  exact HGW.out
                · rw [if_neg hbig] at hqq
                  have d1 : decide (12000 < (ys.length : Int)) = false := decide_eq_false (by omega)
                  have d2 : decide (12000 < ys.length) = false := decide_eq_false (by omega)
                  have HQ2 := Aside0.mk hqq
                  have HL2 := Aside0.mk (And.intro HL.out (show ys.length ≤ 13000 by omega))
                  clear hqq hbig
                  go_wp2
                  go_roundg gko
                  case measure => omega
                  case rel => exact ⟨i + 1, g2, cap2, c' + k, ys, by have := HI.out; omega, rfl, rfl, by go_num, HQ2, HL2, HRb, HGE, HB⟩
              | succ gki =>
                have k1 : k < pn := by omega
                have f1 : decide (k < pn) = true := decide_eq_true k1
                have f2 : decide ((k : Int) < (pn : Int)) = true := decide_eq_true (by omega)
                obtain ⟨pa, hpa⟩ : ∃ pa : Nat, pa = if high = true then pn - 1 - k else k := ⟨_, rfl⟩
                have pa62 : pa ≤ 62 := by rw [hpa]; split <;> omega
                have hE := HE.out
                rw [bitsF, addAll, ← hpa] at hE
                have HE2 := Aside0.mk hE
                have HPA := Aside0.mk hpa
                have HK := Aside0.mk hk
                clear hE hpa HE hk
                obtain ⟨wi, hwi⟩ : ∃ wi : World, wi = wr := ⟨_, rfl⟩
                subst hwi
                go_upto_if 45 with (fail)
                go_cut [8] (fun s8 wx => s8 = .int .i64 (pa : Int) ∧ wx = wi)
                case first =>
                  cases high with
                  | true =>
                    have hpa := HPA.out
                    rw [if_pos rfl] at hpa
                    have ha1 : (pn : Int) - 1 - (k : Int) = (pa : Int) := by omega
                    have k0 : (0 : Int) ≤ (k : Int) := by omega
                    have k2 : (k : Int) < (pn : Int) := by omega
                    clear hpa
                    go_wp2_with fail
                    go_meet
                    exact ⟨by first | rfl | (rw [← ha1]), rfl⟩
                  | false =>
                    have hpa := HPA.out
                    rw [if_neg (by decide)] at hpa
                    subst hpa
                    go_wp2_with fail
                    go_meet
                    exact ⟨rfl, rfl⟩
                case rest =>
                  obtain ⟨rfl, rfl⟩ := hcut
                  obtain ⟨wj, hwj⟩ : ∃ wj : World, wj = wc := ⟨_, rfl⟩
                  subst hwj
                  generalize hc : ((c' + k : Nat) : Int) = cz
                  have c0 : 0 ≤ cz := by omega
                  have c3 : cz ≤ 9000000 := by omega
                  obtain ⟨rr, hrr⟩ : ∃ rr : Nat, rr = (c' + k) % 8 := ⟨_, rfl⟩
                  have r8 : rr < 8 := by omega
                  have hd2 : cz.tmod 8 = (rr : Int) := by rw [Int.tmod_eq_emod_of_nonneg c0]; omega
                  have HRR := Aside0.mk hrr
                  have HCZ := Aside0.mk hc
                  clear hrr hc
                  go_upto_if 56 with (fail)
                  go_cut [4] (fun s4 wx => ∃ (g3 cap3 : Nat) (zs : List Int), s4 = .slice (some ⟨g3, 0, none⟩) zs.length cap3 ∧ Aside0 (zs = if (c' + k) % 8 = 0 then ys ++ [0] else ys) ∧ Aside0 (BR 5 wx (.slice (some ⟨g3, 0, none⟩) zs.length cap3) zs) ∧ Aside0 (w.heap.size ≤ g3) ∧ Aside0 (Below w.heap.size w wx))
                  case first =>
                    by_cases hm : (c' + k) % 8 = 0
                    · have hd : ((rr : Int) == 0) = true := by
                        have : (rr : Int) = 0 := by have := HRR.out; omega
                        simpa using this
                      have HM := Aside0.mk hm
                      clear hm
                      go_wp2_with (first
                        | ((with_reducible refine gate_dst (N := 59) rfl ?_)
                           refine wpList_push rfl (.tmp 57) (.tmp 58) 32 5 rfl (.int .u8 0) Try.underlying32 info_u8 rfl (.slice (some ⟨g2, 0, none⟩) ys.length cap2) ys rfl (HRb.out.alloc _) ⟨wj.heap.size, 0, none⟩ 0 1 rfl ?_ (by have := HL.out; omega) ?_
                           · simp
                           intro gn capn w1 hb hgr hat
                           have hgk : ∀ k, (Value.slice (some ⟨g2, 0, none⟩) ys.length cap2).ownBlock = some k → w.heap.size ≤ k := by
                             intro k hk
                             have e1 : g2 = k := by simpa [Value.ownBlock] using hk
                             rw [← e1]
                             exact HGE.out
                           have hko : KO (fun k => w.heap.size ≤ k) wj w1 := KO.grown (KO.of_below (below_alloc (Below.refl _ _) _)) hgr hgk
                           have HGn := Aside0.mk (show w.heap.size ≤ gn by
                             rcases hat with h1 | h1
                             · have e1 : g2 = gn := by simpa [Value.ownBlock] using h1
                               rw [← e1]
                               exact HGE.out
                             · have := HB.out.size
                               simp at h1
                               omega)
                           have HBn := Aside0.mk (HB.out.trans (hko.below HB.out.size (fun i h => h)))
                           have HRbn := Aside0.mk hb
                           clear hb hgr hat hko hgk))
                      go_meet
                      exact ⟨gn, capn, ys ++ [0], by rw [List.length_append]; rfl, ⟨by rw [if_pos HM.out]⟩, HRbn, HGn, HBn⟩
                    · have hd : ((rr : Int) == 0) = false := by
                        have : ¬ (rr : Int) = 0 := by have := HRR.out; omega
                        simpa using this
                      have hd0 : ¬ (rr : Int) = 0 := by have := HRR.out; omega
                      go_wp2_with fail
                      go_meet
                      exact ⟨g2, cap2, ys, rfl, ⟨by rw [if_neg hm]⟩, HRb, HGE, HB⟩
                  case rest =>
                    obtain ⟨g3, cap3, zs, rfl, HZ, HRb3, HGE3, HB3⟩ := hcut
                    clear hp0 hp1 hp2 HRb HGE HB
                    have hp0 := pw_cell_below HB3.out HP0.out
                    have hzl : zs.length = (c' + k) / 8 + 1 := by
                      rw [HZ.out]
                      have := HL.out
                      split
                      · rw [List.length_append, List.length_singleton]; omega
                      · omega
                    have HZL := Aside0.mk hzl
                    clear hzl
                    obtain ⟨x0, x1⟩ := pow_pos' pa pa62
                    generalize hx : (2 : Int) ^ pa = x at x0 x1
                    have HPX := Aside0.mk (show ∀ w, Calls Try.prog 67 #[.int .i64 (pa : Int)] w fun e w' => e = .returned (.int .i64 x) ∧ w' = w by rw [← hx]; exact pow_calls pa pa62)
                    obtain ⟨q', hq'⟩ : ∃ q', q' = v / x := ⟨_, rfl⟩
                    have q0 : 0 ≤ q' := by rw [hq']; exact Int.ediv_nonneg v0 (Int.le_of_lt x0)
                    have q1 : q' ≤ v := by rw [hq']; exact Int.ediv_le_self _ v0
                    have hq1 : v.tdiv x = q' := by rw [hq', Int.tdiv_eq_ediv_of_nonneg v0]
                    have hq2 : IntKind.i64.wrap q' = q' := wraps_i64 _ (by omega) (by omega)
                    have hq3 : q'.tmod 2 = q' % 2 := Int.tmod_eq_emod_of_nonneg q0
                    have hq4 : IntKind.i64.wrap (q' % 2) = q' % 2 := wraps_i64 _ (by omega) (by omega)
                    have xn : ¬ x = 0 := by omega
                    have xb : (x == 0) = false := by simpa using xn
                    have HQX := Aside0.mk hq'
                    have HXX := Aside0.mk hx
                    clear hq' hx x1
                    go_upto_region 14 with (fail)
                    go_quiet ((go_at_call 67; exact Calls.quiet_of_same (HPX.out _)))
                    obtain ⟨w2, hw2⟩ : ∃ w2, w2 = wc.drewN nq := ⟨_, rfl⟩
                    have HRb4 : Aside0 (BR 5 w2 (.slice (some ⟨g3, 0, none⟩) zs.length cap3) zs) := ⟨by rw [hw2]; exact HRb3.out.same (fun _ _ => rfl)⟩
                    have HB4 : Aside0 (Below w.heap.size w w2) := ⟨by rw [hw2]; exact pw_below_drewN HB3.out nq⟩
                    rw [← hw2]
                    clear hw2 HRb3 HB3 hp0 hq1 hq2 hq3 hq4 xn xb
                    obtain ⟨b, hb⟩ : ∃ b, b = q' % 2 := ⟨_, rfl⟩
                    have hn0 : b = 0 ∨ b = 1 := by omega
                    rw [← hb]
                    have HBB := Aside0.mk hb
                    clear hb q0 q1
                    obtain ⟨j, hj⟩ : ∃ j : Nat, j = (c' + k) / 8 := ⟨_, rfl⟩
                    have hzl := HZL.out
                    have hrr := HRR.out
                    have hcc := HCZ.out
                    have hll := HL.out
                    have jl : j < zs.length := by omega
                    have j2 : j ≤ 100000 := by omega
                    have hj1 : IntKind.i64.wrap ((zs.length : Int) - 1) = (j : Int) := by rw [wraps_i64 _ (by omega) (by omega)]; omega
                    have hd3 : IntKind.i64.wrap (cz.tmod 8) = (rr : Int) := by rw [hd2]; exact wraps_i64 _ (by omega) (by omega)
                    have j0 : (0 : Int) ≤ (j : Int) := by omega
                    have j1 : (j : Int) < (zs.length : Int) := by omega
                    obtain ⟨hcell, hfz⟩ := HRb4.out.cell j jl
                    have hy : (2 : Int) ^ rr = 1 ∨ (2 : Int) ^ rr = 2 ∨ (2 : Int) ^ rr = 4 ∨ (2 : Int) ^ rr = 8 ∨ (2 : Int) ^ rr = 16 ∨ (2 : Int) ^ rr = 32 ∨ (2 : Int) ^ rr = 64 ∨ (2 : Int) ^ rr = 128 := by
                      have : rr = 0 ∨ rr = 1 ∨ rr = 2 ∨ rr = 3 ∨ rr = 4 ∨ rr = 5 ∨ rr = 6 ∨ rr = 7 := by omega
                      rcases this with h | h | h | h | h | h | h | h <;> subst h <;> decide
                    obtain ⟨y, hyy⟩ : ∃ y : Int, y = 2 ^ rr := ⟨_, rfl⟩
                    have hpw : ∀ w, Calls Try.prog 67 #[.int .i64 (rr : Int)] w fun e w' => e = .returned (.int .i64 y) ∧ w' = w := by rw [hyy]; exact pow_calls rr (by omega)
                    have hm : 0 ≤ b * y ∧ b * y ≤ 128 := by
                      rw [← hyy] at hy
                      rcases hn0 with h | h <;> rw [h] <;> omega
                    have hm1 : IntKind.i64.wrap (b * y) = b * y := wraps_i64 _ (by omega) (by omega)
                    have HPW := Aside0.mk hpw
                    have HJ := Aside0.mk hj
                    have HY := Aside0.mk hyy
                    clear hj hyy hzl hrr hcc hll hy hn0 hpw
                    go_upto_region 15 with (fail)
                    go_still_tail 18, (by kernel_rfl)
                    refine wpStill_step (fun K hK => ?_)
                    go_simp
                    refine ⟨_, HPW.out _, hK _ ?_⟩
                    clear hK K
                    repeat still_step
                    try refine wpStill_nil ?_
                    change wpList _ _ _ _ _ w2.drew
                    go_wp2
                    go_roundg gki
                    case measure => omega
                    case rel =>
                      have en : v / 2 ^ pa % 2 = b := by rw [HXX.out, ← HQX.out, ← HBB.out]
                      have ex : zs.set j ((rd zs (j : Int) + b * y) % 256) = putAdd ys (c' + k) (v / 2 ^ pa % 2) := by
                        rw [en]
                        unfold putAdd
                        have hj := HJ.out
                        have hrr := HRR.out
                        have hll := HL.out
                        have hz := HZ.out
                        by_cases hm8 : (c' + k) % 8 = 0
                        · rw [if_pos hm8] at hz ⊢
                          have hj2 : j = ys.length := by omega
                          have hr0 : rr = 0 := by omega
                          rw [addBit_eq, HY.out, hr0, hj2, hz]
                          have hz0 : rd (ys ++ [0]) ((ys.length : Nat) : Int) = 0 := by unfold rd; simp
                          rw [hz0]
                          simp
                        · rw [if_neg hm8] at hz ⊢
                          rw [addBit_eq, hz, ← hj, ← hrr, ← HY.out]
                      have he := HE2.out
                      rw [← ex] at he
                      refine ⟨k + 1, g3, cap3, zs.set j ((rd zs (j : Int) + b * y) % 256), by have := HK.out; omega, by rw [List.length_set], by rw [← HCZ.out]; go_num, by go_num, ⟨he⟩, ⟨?_⟩, ?_, HGE3, ⟨below_drew (below_set HB4.out HGE3.out)⟩⟩
                      · rw [List.length_set]
                        have := HZL.out
                        have := HL.out
                        omega
                      · have hb1 := (HRb4.out.set j jl ((rd zs (j : Int) + b * y) % 256)).same (w1 := ((w2.setCell ⟨g3, j, none⟩ (.int .u8 ((rd zs (j : Int) + b * y) % 256))).drew)) (fun _ _ => rfl)
                        exact ⟨by rw [List.length_set]; exact hb1⟩
          · rw [if_neg hcon] at hqq
            cases hqq
    · rw [if_neg hcon] at h
      cases h
end Go.Proofs.Ytimomemkbcidnaa.MAll
