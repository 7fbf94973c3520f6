/- The reference's l01Put: bits added one behind the other to the bytes of an Out. Conditions: the places are 0 to 62, the value is not below 0, the Out's length is that of its count. -/
import Derived.Test.YtimomemkbcidnaaMWriter
namespace Go.Proofs.Ytimomemkbcidnaa.MPut
open Go.RowKit Go.Proofs.YtimomemkbcidnaaW.PrintWords Go.Proofs.Ytimomemkbcidnaa.MBytes Go.Proofs.Ytimomemkbcidnaa.MWriter
set_option linter.unusedVariables false
set_option linter.unusedSimpArgs false
theorem pow_pos' (i : Nat) (h : i ≤ 62) : (0 : Int) < 2 ^ i ∧ (2 : Int) ^ i ≤ 4611686018427387904 := by
  have h1 : (2 : Nat) ^ i ≤ 2 ^ 62 := Nat.pow_le_pow_right (by decide) h
  have h2 : (0 : Nat) < 2 ^ i := Nat.pow_pos (by decide)
  have e : (2 : Int) ^ i = ((2 ^ i : Nat) : Int) := by push_cast; rfl
  rw [e]
  constructor
  · omega
  · have : (2 : Nat) ^ 62 = 4611686018427387904 := by decide
    omega
set_option maxHeartbeats 1000000 in
set_option maxRecDepth 100000 in
theorem pow_calls (n : Nat) (hn : n ≤ 62) (w : World) : Calls Try.prog 67 #[.int .i64 n] w fun e w' => e = .returned (.int .i64 (2 ^ n)) ∧ w' = w := by
  go_enter Try.func67, Try.ntmps67
  go_wp2
  go_loopg [3, 4] n (fun kq v3 v4 w' => ∃ i : Nat, i + kq = n ∧ v3 = .int .i64 (2 ^ i) ∧ v4 = .int .i64 i ∧ w' = w)
  case atStart => exact ⟨0, by omega, rfl, rfl, rfl⟩
  case round =>
    obtain ⟨i, hi, rfl, rfl, rfl⟩ := hrel
    cases gk with
    | zero =>
      have hlt : decide ((i : Int) < (n : Int)) = false := decide_eq_false (by omega)
      have hlt2 : decide (i < n) = false := decide_eq_false (by omega)
      have HI := Aside0.mk (show i = n by omega)
      clear hi
      generalize hx : (2 : Int) ^ i = x
      have HX := Aside0.mk hx
      clear hx
      go_wp2
      go_ret
      rw [← HX.out, HI.out]
      exact ⟨rfl, rfl⟩
    | succ gk =>
      have hlt : decide ((i : Int) < (n : Int)) = true := decide_eq_true (by omega)
      have hlt2 : decide (i < n) = true := decide_eq_true (by omega)
      have hp := pow_pos' i (by omega)
      generalize hx : (2 : Int) ^ i = x at hp
      obtain ⟨hp1, hp2⟩ := hp
      have hp3 : i + 1 ≤ 62 := by omega
      have hp4 := (pow_pos' (i + 1) hp3).2
      have e : (2 : Int) ^ (i + 1) = 2 * x := by rw [← hx, Int.pow_succ]; omega
      rw [e] at hp4
      have HE := Aside0.mk e
      clear e hx
      go_wp2
      go_roundg gk
      case measure => omega
      case rel => exact ⟨i + 1, by omega, by rw [HE.out], by go_num, rfl⟩
/-- A byte with a bit added at place r. -/
def addBit (x n : Int) (r : Nat) : Int := IntKind.u8.wrap (x + IntKind.u8.wrap (n * 2 ^ r))
def putAdd (xs : List Int) (c : Nat) (n : Int) : List Int := if c % 8 = 0 then xs ++ [addBit 0 n 0] else xs.set (c / 8) (addBit (rd xs ((c / 8 : Nat) : Int)) n (c % 8))
theorem putAdd_len (xs : List Int) (c : Nat) (n : Int) (h : xs.length = (c + 7) / 8) : (putAdd xs c n).length = (c + 1 + 7) / 8 := by
  unfold putAdd
  split
  · simp; omega
  · rw [List.length_set]; omega
def addAll : List Int → List Int → Nat → List Int
  | [], xs, _ => xs
  | n :: ns, xs, c => addAll ns (putAdd xs c n) (c + 1)
theorem addAll_snoc : ∀ (ns : List Int) (n : Int) (xs : List Int) (c : Nat), addAll (ns ++ [n]) xs c = putAdd (addAll ns xs c) (c + ns.length) n
  | [], n, xs, c => rfl
  | m :: ns, n, xs, c => by
    rw [List.cons_append, addAll, addAll_snoc ns n, addAll, List.length_cons]
    congr 1
    omega
theorem addAll_len : ∀ (ns xs : List Int) (c : Nat), xs.length = (c + 7) / 8 → (addAll ns xs c).length = (c + ns.length + 7) / 8
  | [], xs, c, h => h
  | n :: ns, xs, c, h => by
    rw [addAll, addAll_len ns _ _ (putAdd_len xs c n h), List.length_cons]
    congr 1
    omega
/-- The bits at the first i places. -/
def bitsAt (v : Int) (ps : List Int) (i : Nat) : List Int := (ps.take i).map fun p => v / 2 ^ p.toNat % 2
theorem bitsAt_len (v : Int) (ps : List Int) (i : Nat) (h : i ≤ ps.length) : (bitsAt v ps i).length = i := by unfold bitsAt; rw [List.length_map, List.length_take]; omega
theorem bitsAt_succ (v : Int) (ps : List Int) (i : Nat) (h : i < ps.length) : bitsAt v ps (i + 1) = bitsAt v ps i ++ [v / 2 ^ (rd ps (i : Int)).toNat % 2] := by
  unfold bitsAt
  rw [List.take_succ_eq_append_getElem h, List.map_append]
  unfold rd
  simp [List.getD_eq_getElem?_getD, List.getElem?_eq_getElem h]
theorem add_step (s : ByteArray) (C : Nat) (v : Int) (ps : List Int) (i : Nat) (xs : List Int) (hx : xs = addAll (bitsAt v ps i) (bytesOf s) C) (hi : i < ps.length) (n : Int) (hn : v / 2 ^ (rd ps (i : Int)).toNat % 2 = n) : addAll (bitsAt v ps (i + 1)) (bytesOf s) C = putAdd xs (C + i) n := by
  rw [bitsAt_succ _ _ _ hi, addAll_snoc, bitsAt_len _ _ _ (by omega), hn, ← hx]
theorem addBit_eq (a n : Int) (r : Nat) : addBit a n r = (a + n * 2 ^ r) % 256 := by
  unfold addBit
  generalize n * 2 ^ r = m
  rw [IntKind.wrap_u8, IntKind.wrap_u8]
  omega
/-- What the function asks for. -/
def PutOk (s : ByteArray) (c v : Int) (ps : List Int) : Prop := 0 ≤ c ∧ c ≤ 900000 ∧ (s.size : Int) = (c + 7) / 8 ∧ 0 ≤ v ∧ v ≤ 9223372036854775807 ∧ ps.length ≤ 62 ∧ ∀ i : Nat, i < ps.length → 0 ≤ rd ps (i : Int) ∧ rd ps (i : Int) ≤ 62
set_option maxHeartbeats 1000000 in
set_option maxRecDepth 100000 in
theorem l01Put_calls (s : ByteArray) (c v : Int) (A : Option Addr) (cp : Nat) (ps : List Int) (w : World) (hr : Kd.C (Kd.int .i64) w A ps.length ps) (hok : PutOk s c v ps) :
    Calls Try.prog 95 #[.agg #[.string s, .int .i64 c], .int .i64 v, .slice A ps.length cp] w fun e w' => e = .returned (.agg #[.string (strOfNums (addAll (bitsAt v ps ps.length) (bytesOf s) c.toNat)), .int .i64 (c + ps.length)]) ∧ Below w.heap.size w w' := by
  obtain ⟨c0, c1, cs, v0, v1, pl, pb⟩ := hok
  obtain ⟨C, rfl⟩ := Int.eq_ofNat_of_zero_le c0
  have HPB := Aside0.mk pb
  have HCS := Aside0.mk (show s.size = (C + 7) / 8 by omega)
  have HR := Aside0.mk hr
  clear hr pb cs c0
  go_enter Try.func95, Try.ntmps95
  go_wp2_with (first
    | ((with_reducible refine gate_dst (N := 13) rfl ?_)
       refine wpList_bytes rfl 9 32 5 (.tmp 12) rfl Try.underlying9 Try.underlying32 Try.underlying5 s rfl (by unfold maxLen; have := HCS.out; omega) ?_
       intro g cap w1 hb hg hB
       have hbk : w1.heap[w.heap.size]? = some (.cells #[.string s, .int .i64 (C : Int)] 47 (0, 0)) := blk_below (blk_alloc (blk_new w _) _) hB
       have hrs : w1.heap[w.heap.size + 1]? = some (.cells #[.string ⟨#[]⟩, .int .i64 0] 47 (0, 0)) := blk_below (by have h1 := blk_new (w.alloc (.cells #[.string s, .int .i64 (C : Int)] 47)) (.cells #[.string ⟨#[]⟩, .int .i64 0] 47); simpa using h1) hB
       have hcc : w1.cell? ⟨w.heap.size, 1, none⟩ = some (.int .i64 (C : Int)) := blk_cell hbk 1
       have HRS := Aside0.mk hrs
       have HB1 := Aside0.mk (below_step (below_alloc (below_alloc (Below.refl w.heap.size w) _) _) hB)
       have HR1 := Aside0.mk hb
       have HG := Aside0.mk (show g = w.heap.size + 2 by simpa using hg)
       clear hB hb hg hbk hrs))
  have HL0 := Aside0.mk (bytesOf_length s)
  go_loopg [7, 8, 9, 10] ps.length (fun kq v7 v8 v9 v10 w' => ∃ (i g' cap' : Nat) (xs : List Int), i + kq = ps.length ∧ v7 = .slice (some ⟨g', 0, none⟩) xs.length cap' ∧ v8 = .int .i64 (C + i : Nat) ∧ v9 = .int .i64 i ∧ Aside0 (xs = addAll (bitsAt v ps i) (bytesOf s) C) ∧ Aside0 (BR 5 w' (.slice (some ⟨g', 0, none⟩) xs.length cap') xs) ∧ Aside0 (w.heap.size + 2 ≤ g') ∧ Aside0 (Below w.heap.size w w') ∧ Aside0 (w'.heap[w.heap.size + 1]? = some (.cells #[.string ⟨#[]⟩, .int .i64 0] 47 (0, 0))))
  case atStart => exact ⟨0, g, cap, bytesOf s, by omega, rfl, rfl, rfl, ⟨rfl⟩, HR1, ⟨by rw [HG.out]; exact Nat.le_refl _⟩, HB1, HRS⟩
  case round =>
    clear hcc HRS HB1 HR1 HG
    obtain ⟨i, g1, cap1, xs, hi, rfl, rfl, rfl, HX, HRb, HG, HB, HRS⟩ := hrel
    have hxl : xs.length = (C + i + 7) / 8 := by rw [HX.out, addAll_len _ _ _ (by rw [HL0.out]; exact HCS.out), bitsAt_len _ _ _ (by omega)]
    have HXL := Aside0.mk hxl
    clear hxl
    cases gk with
    | zero =>
      have hlt : decide ((i : Int) < (ps.length : Int)) = false := decide_eq_false (by omega)
      have hlt2 : decide (i < ps.length) = false := decide_eq_false (by omega)
      have HI := Aside0.mk (show i = ps.length by omega)
      clear hi
      have hcv : (convert 32 9 (.slice (some ⟨g1, 0, none⟩) xs.length cap1)).run Try.prog wr = .ok (.string (strOfNums xs)) wr := string_of_reads Try.underlying32 Try.underlying5 Try.underlying9 HRb.out.reads
      have hr0 := blk_cell HRS.out 0
      have hr1 := blk_cell HRS.out 1
      have hz0 := blk_frozen HRS.out 0
      have hz1 := blk_frozen HRS.out 1
      simp at hr0 hr1
      go_wp2
      refine bodyPost_ret (results_cell_row rfl _ _ (w.heap.size + 1) 47 #[.string (strOfNums xs), .int .i64 ((C : Int) + (i : Int))] (0, 0) _ rfl (by refine blk_put (cs := #[.string (strOfNums xs), .int .i64 0]) ?_ 1 _ rfl; refine blk_put (cs := #[.string (⟨#[]⟩ : ByteArray), .int .i64 0]) ?_ 0 _ rfl; exact HRS.out) Try.underlying47 rfl (by kernel_rfl)) rfl ?_
      refine ⟨?_, below_set (below_set HB.out (Nat.le_succ _)) (Nat.le_succ _)⟩
      rw [HX.out, HI.out, Int.toNat_natCast]
    | succ gk =>
      have hlt : decide ((i : Int) < (ps.length : Int)) = true := decide_eq_true (by omega)
      have hlt2 : decide (i < ps.length) = true := decide_eq_true (by omega)
      obtain ⟨p0, p1⟩ := HPB.out i (by omega)
      obtain ⟨pn, hpn⟩ := Int.eq_ofNat_of_zero_le p0
      have hpn2 : pn ≤ 62 := by omega
      obtain ⟨x0, x1⟩ := pow_pos' pn hpn2
      have HQ := Aside0.mk (show (2 : Int) ^ (rd ps (i : Int)).toNat = 2 ^ pn by rw [hpn, Int.toNat_natCast])
      obtain ⟨ad, rfl, hrd⟩ := Kd.at_int HR.out (i : Int) (by omega) (by omega)
      clear hrd
      by_cases hm : (C + i) % 8 = 0
      · generalize hc : ((C + i : Nat) : Int) = c
        have c0 : 0 ≤ c := by omega
        have c3 : c ≤ 9000000 := by omega
        obtain ⟨r, hr⟩ : ∃ r : Nat, r = (C + i) % 8 := ⟨_, rfl⟩
        have r8 : r < 8 := by omega
        have hd : ((r : Int) == 0) = true := by
          have : (r : Int) = 0 := by omega
          simpa using this
        have hd2 : c.tmod 8 = (r : Int) := by rw [Int.tmod_eq_emod_of_nonneg c0]; omega
        have HRR := Aside0.mk hr
        have HC := Aside0.mk hc
        have HP := Aside0.mk hpn
        have HM := Aside0.mk hm
        clear hr hc hpn p0 p1 hm
        go_wp2_with (first
          | ((with_reducible refine gate_dst (N := 27) rfl ?_)
             refine wpList_push rfl (.tmp 25) (.tmp 26) 32 5 rfl (.int .u8 0) Try.underlying32 info_u8 rfl (.slice (some ⟨g1, 0, none⟩) xs.length cap1) xs rfl (HRb.out.alloc _) ⟨wr.heap.size, 0, none⟩ 0 1 rfl ?_ (by have := HXL.out; omega) ?_
             · simp
             intro gn capn w1 hb hgr hat
             have hgk : ∀ k, (Value.slice (some ⟨g1, 0, none⟩) xs.length cap1).ownBlock = some k → w.heap.size + 2 ≤ k := by
               intro k hk
               have e1 : g1 = k := by simpa [Value.ownBlock] using hk
               rw [← e1]
               exact HG.out
             have hko : KO (fun k => w.heap.size + 2 ≤ k) wr w1 := KO.grown (KO.of_below (below_alloc (Below.refl _ _) _)) hgr hgk
             have hne : ¬ (w.heap.size + 2 ≤ w.heap.size + 1) := by omega
             have hhr := HRS.out
             have hsz : w.heap.size + 1 < wr.heap.size := blk_lt hhr
             have HGn := Aside0.mk (show w.heap.size + 2 ≤ gn by
               rcases hat with h1 | h1
               · have e1 : g1 = gn := by simpa [Value.ownBlock] using h1
                 rw [← e1]
                 exact HG.out
               · simp at h1
                 omega)
             have HBn := Aside0.mk (HB.out.trans (hko.below HB.out.size (fun i h => Nat.le_trans (Nat.le_add_right _ 2) h)))
             have HRSn := Aside0.mk ((hko.kept.2 _ hsz hne).trans hhr)
             obtain ⟨ad', e', hrd⟩ := Kd.at_int (Kd.C_below HR.out HBn.out) (i : Int) (by omega) (by omega)
             cases e'
             rw [HP.out, Int.toNat_natCast] at hrd
             have hl2 : (xs ++ [0]).length = (C + i + 7) / 8 + 1 := by rw [List.length_append, HXL.out]; rfl
             generalize hxs2 : xs ++ [0] = xs2 at hb hl2 ⊢
             have HX2 := Aside0.mk hxs2
             have HXL2 := Aside0.mk hl2
             have HRbn := Aside0.mk hb
             clear hb hgr hat hko hhr hsz hxs2 hl2 hgk hne))
        refine (pow_calls pn hpn2 _).mono ?_
        rintro e w2 ⟨rfl, rfl⟩
        generalize hx : (2 : Int) ^ pn = x at x0 x1
        obtain ⟨q, hq⟩ : ∃ q, q = v / x := ⟨_, rfl⟩
        have q0 : 0 ≤ q := by rw [hq]; exact Int.ediv_nonneg v0 (Int.le_of_lt x0)
        have q1 : q ≤ v := by rw [hq]; exact Int.ediv_le_self _ v0
        have hq1 : v.tdiv x = q := by rw [hq, Int.tdiv_eq_ediv_of_nonneg v0]
        have hq2 : IntKind.i64.wrap q = q := wraps_i64 _ (by omega) (by omega)
        have hq3 : q.tmod 2 = q % 2 := Int.tmod_eq_emod_of_nonneg q0
        have xn : ¬ x = 0 := by omega
        have xb : (x == 0) = false := by simpa using xn
        have HQQ := Aside0.mk hq
        have HXX := Aside0.mk hx
        clear hq hx x1
        go_wp2_with fail
        clear hq1 hq2 hq3 xn xb hd hd2 hrd
        obtain ⟨n, hn⟩ : ∃ n, n = q % 2 := ⟨_, rfl⟩
        have hn0 : n = 0 ∨ n = 1 := by omega
        rw [← hn]
        have HNN := Aside0.mk hn
        clear hn
        obtain ⟨j, hj⟩ : ∃ j : Nat, j = (C + i) / 8 := ⟨_, rfl⟩
        have hmm := HM.out
        have hxl := HXL2.out
        have hrr := HRR.out
        have hcc := HC.out
        have jl : j < xs2.length := by omega
        have hj1 : IntKind.i64.wrap ((xs2.length : Int) - 1) = (j : Int) := by rw [wraps_i64 _ (by omega) (by omega)]; omega
        have hd2 : c.tmod 8 = (r : Int) := by rw [Int.tmod_eq_emod_of_nonneg c0]; omega
        have hd3 : IntKind.i64.wrap (c.tmod 8) = (r : Int) := by rw [hd2]; exact wraps_i64 _ (by omega) (by omega)
        have j0 : (0 : Int) ≤ (j : Int) := by omega
        have j1 : (j : Int) < (xs2.length : Int) := by omega
        obtain ⟨hcell, hfz⟩ := HRbn.out.cell j jl
        have hy : (2 : Int) ^ r = 1 ∨ (2 : Int) ^ r = 2 ∨ (2 : Int) ^ r = 4 ∨ (2 : Int) ^ r = 8 ∨ (2 : Int) ^ r = 16 ∨ (2 : Int) ^ r = 32 ∨ (2 : Int) ^ r = 64 ∨ (2 : Int) ^ r = 128 := by
          have : r = 0 ∨ r = 1 ∨ r = 2 ∨ r = 3 ∨ r = 4 ∨ r = 5 ∨ r = 6 ∨ r = 7 := by omega
          rcases this with h | h | h | h | h | h | h | h <;> subst h <;> decide
        obtain ⟨y, hyy⟩ : ∃ y : Int, y = 2 ^ r := ⟨_, rfl⟩
        have hpw : ∀ w, Calls Try.prog 67 #[.int .i64 (r : Int)] w fun e w' => e = .returned (.int .i64 y) ∧ w' = w := by rw [hyy]; exact pow_calls r (by omega)
        have hm : 0 ≤ n * y ∧ n * y ≤ 128 := by
          rw [← hyy] at hy
          rcases hn0 with h | h <;> rw [h] <;> omega
        have hm1 : IntKind.i64.wrap (n * y) = n * y := wraps_i64 _ (by omega) (by omega)
        have HPW := Aside0.mk hpw
        have HJ := Aside0.mk hj
        have HY := Aside0.mk hyy
        clear hmm hj hyy hxl hrr hcc hy hn0 hpw
        go_still_tail 18, (by kernel_rfl)
        refine wpStill_step (fun K hK => ?_)
        go_simp
        refine ⟨_, HPW.out _, hK _ ?_⟩
        clear hK K
        repeat still_step
        try refine wpStill_nil ?_
        change wpList _ _ _ _ _ w2.drew
        go_wp2
        go_roundg gk
        case measure => omega
        case rel =>
          have en : v / 2 ^ (rd ps (i : Int)).toNat % 2 = n := by rw [HQ.out, HXX.out, ← HQQ.out, ← HNN.out]
          have ea := add_step s C v ps i _ HX.out (by omega) n en
          have ex : xs2.set j ((rd xs2 (j : Int) + n * y) % 256) = addAll (bitsAt v ps (i + 1)) (bytesOf s) C := by
            rw [ea]
            unfold putAdd
            rw [if_pos HM.out]
            have hj := HJ.out
            have hm := HM.out
            have hxl := HXL.out
            have hj2 : j = xs.length := by omega
            have hr0 : r = 0 := by have := HRR.out; omega
            rw [addBit_eq, HY.out, hr0, hj2, ← HX2.out]
            have hz : rd (xs ++ [0]) ((xs.length : Nat) : Int) = 0 := by unfold rd; simp
            rw [hz]
            simp
          refine ⟨i + 1, gn, capn, xs2.set j ((rd xs2 (j : Int) + n * y) % 256), by omega, by rw [List.length_set], by rw [← HC.out]; go_num, by go_num, ⟨ex⟩, ?_, HGn, ⟨below_drew (below_set HBn.out (Nat.le_trans (Nat.le_add_right _ 2) HGn.out))⟩, ⟨?_⟩⟩
          · have hb1 := (HRbn.out.set j jl ((rd xs2 (j : Int) + n * y) % 256)).same (w1 := ((w2.setCell ⟨gn, j, none⟩ (.int .u8 ((rd xs2 (j : Int) + n * y) % 256))).drew)) (fun _ _ => rfl)
            exact ⟨by rw [List.length_set]; exact hb1⟩
          · exact blk_drew (blk_far HRSn.out (by have := HGn.out; show w.heap.size + 1 ≠ gn; omega) _)
      · generalize hc : ((C + i : Nat) : Int) = c
        have c0 : 0 ≤ c := by omega
        have c3 : c ≤ 9000000 := by omega
        obtain ⟨r, hr⟩ : ∃ r : Nat, r = (C + i) % 8 := ⟨_, rfl⟩
        have r8 : r < 8 := by omega
        have hd : ((r : Int) == 0) = false := by
          have : ¬ (r : Int) = 0 := by omega
          simpa using this
        have hd0 : ¬ (r : Int) = 0 := by omega
        have hd2 : c.tmod 8 = (r : Int) := by rw [Int.tmod_eq_emod_of_nonneg c0]; omega
        obtain ⟨ad', e', hrd⟩ := Kd.at_int (Kd.C_below HR.out HB.out) (i : Int) (by omega) (by omega)
        cases e'
        rw [hpn, Int.toNat_natCast] at hrd
        have HRR := Aside0.mk hr
        have HC := Aside0.mk hc
        have HP := Aside0.mk hpn
        have HM := Aside0.mk hm
        clear hr hc hpn p0 p1 hm
        go_wp2_with fail
        refine (pow_calls pn hpn2 _).mono ?_
        rintro e w2 ⟨rfl, rfl⟩
        generalize hx : (2 : Int) ^ pn = x at x0 x1
        obtain ⟨q, hq⟩ : ∃ q, q = v / x := ⟨_, rfl⟩
        have q0 : 0 ≤ q := by rw [hq]; exact Int.ediv_nonneg v0 (Int.le_of_lt x0)
        have q1 : q ≤ v := by rw [hq]; exact Int.ediv_le_self _ v0
        have hq1 : v.tdiv x = q := by rw [hq, Int.tdiv_eq_ediv_of_nonneg v0]
        have hq2 : IntKind.i64.wrap q = q := wraps_i64 _ (by omega) (by omega)
        have hq3 : q.tmod 2 = q % 2 := Int.tmod_eq_emod_of_nonneg q0
        have xn : ¬ x = 0 := by omega
        have xb : (x == 0) = false := by simpa using xn
        have HQQ := Aside0.mk hq
        have HXX := Aside0.mk hx
        clear hq hx x1
        go_wp2_with fail
        clear hq1 hq2 hq3 xn xb hd hd2 hrd
        obtain ⟨n, hn⟩ : ∃ n, n = q % 2 := ⟨_, rfl⟩
        have hn0 : n = 0 ∨ n = 1 := by omega
        rw [← hn]
        have HNN := Aside0.mk hn
        clear hn
        obtain ⟨j, hj⟩ : ∃ j : Nat, j = (C + i) / 8 := ⟨_, rfl⟩
        have hmm := HM.out
        have hxl := HXL.out
        have hrr := HRR.out
        have hcc := HC.out
        have jl : j < xs.length := by omega
        have hj1 : IntKind.i64.wrap ((xs.length : Int) - 1) = (j : Int) := by rw [wraps_i64 _ (by omega) (by omega)]; omega
        have hd2 : c.tmod 8 = (r : Int) := by rw [Int.tmod_eq_emod_of_nonneg c0]; omega
        have hd3 : IntKind.i64.wrap (c.tmod 8) = (r : Int) := by rw [hd2]; exact wraps_i64 _ (by omega) (by omega)
        have j0 : (0 : Int) ≤ (j : Int) := by omega
        have j1 : (j : Int) < (xs.length : Int) := by omega
        obtain ⟨hcell, hfz⟩ := HRb.out.cell j jl
        have hy : (2 : Int) ^ r = 1 ∨ (2 : Int) ^ r = 2 ∨ (2 : Int) ^ r = 4 ∨ (2 : Int) ^ r = 8 ∨ (2 : Int) ^ r = 16 ∨ (2 : Int) ^ r = 32 ∨ (2 : Int) ^ r = 64 ∨ (2 : Int) ^ r = 128 := by
          have : r = 0 ∨ r = 1 ∨ r = 2 ∨ r = 3 ∨ r = 4 ∨ r = 5 ∨ r = 6 ∨ r = 7 := by omega
          rcases this with h | h | h | h | h | h | h | h <;> subst h <;> decide
        obtain ⟨y, hyy⟩ : ∃ y : Int, y = 2 ^ r := ⟨_, rfl⟩
        have hpw : ∀ w, Calls Try.prog 67 #[.int .i64 (r : Int)] w fun e w' => e = .returned (.int .i64 y) ∧ w' = w := by rw [hyy]; exact pow_calls r (by omega)
        have hm : 0 ≤ n * y ∧ n * y ≤ 128 := by
          rw [← hyy] at hy
          rcases hn0 with h | h <;> rw [h] <;> omega
        have hm1 : IntKind.i64.wrap (n * y) = n * y := wraps_i64 _ (by omega) (by omega)
        have HPW := Aside0.mk hpw
        have HJ := Aside0.mk hj
        have HY := Aside0.mk hyy
        clear hmm hj hyy hxl hrr hcc hy hn0 hpw
        go_still_tail 18, (by kernel_rfl)
        refine wpStill_step (fun K hK => ?_)
        go_simp
        refine ⟨_, HPW.out _, hK _ ?_⟩
        clear hK K
        repeat still_step
        try refine wpStill_nil ?_
        change wpList _ _ _ _ _ w2.drew
        go_wp2
        go_roundg gk
        case measure => omega
        case rel =>
          have en : v / 2 ^ (rd ps (i : Int)).toNat % 2 = n := by rw [HQ.out, HXX.out, ← HQQ.out, ← HNN.out]
          have ea := add_step s C v ps i _ HX.out (by omega) n en
          have ex : xs.set j ((rd xs (j : Int) + n * y) % 256) = addAll (bitsAt v ps (i + 1)) (bytesOf s) C := by
            rw [ea]
            unfold putAdd
            rw [if_neg HM.out]
            rw [addBit_eq, ← HJ.out, ← HRR.out, ← HY.out]
          refine ⟨i + 1, g1, cap1, xs.set j ((rd xs (j : Int) + n * y) % 256), by omega, by rw [List.length_set], by rw [← HC.out]; go_num, by go_num, ⟨ex⟩, ?_, HG, ⟨below_drew (below_set HB.out (Nat.le_trans (Nat.le_add_right _ 2) HG.out))⟩, ⟨?_⟩⟩
          · have hb1 := (HRb.out.set j jl ((rd xs (j : Int) + n * y) % 256)).same (w1 := ((w2.setCell ⟨g1, j, none⟩ (.int .u8 ((rd xs (j : Int) + n * y) % 256))).drew)) (fun _ _ => rfl)
            exact ⟨by rw [List.length_set]; exact hb1⟩
          · exact blk_drew (blk_far HRS.out (by have := HG.out; show w.heap.size + 1 ≠ g1; omega) _)
instance (s : ByteArray) (c v : Int) (ps : List Int) : Decidable (PutOk s c v ps) := by unfold PutOk; infer_instance
def l01PutF (s : ByteArray) (c v : Int) (ps : List Int) : Option (ByteArray × Int) := if PutOk s c v ps then some (strOfNums (addAll (bitsAt v ps ps.length) (bytesOf s) c.toNat), c + ps.length) else none
theorem l01Put_f (s : ByteArray) (c v : Int) (A : Option Addr) (cp : Nat) (ps : List Int) (r1 : ByteArray) (r2 : Int) (w : World) (hr : Kd.C (Kd.int .i64) w A ps.length ps) (h : l01PutF s c v ps = some (r1, r2)) :
    Calls Try.prog 95 #[.agg #[.string s, .int .i64 c], .int .i64 v, .slice A ps.length cp] w fun e w' => e = .returned (.agg #[.string r1, .int .i64 r2]) ∧ Below w.heap.size w w' := by
  unfold l01PutF at h
  by_cases hok : PutOk s c v ps
  · rw [if_pos hok] at h
    injection h with h
    injection h with h1 h2
    subst h1 h2
    exact l01Put_calls s c v A cp ps w hr hok
  · rw [if_neg hok] at h
    cases h
end Go.Proofs.Ytimomemkbcidnaa.MPut
