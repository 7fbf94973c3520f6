/- The program's flag, head and StoredBlock: what each returns, out of what OutOk returns. Conditions: its contract; the bounds that 'storedF' names ('none' where they fail). -/
import Derived.Test.YtfmdenifbbhmdaaMOut
namespace Go.Proofs.Ytfmdenifbbhmdaa.MStored
open Go.RowKit Go.Proofs.YtfmdenifbbhmdaaW.PrintWords Go.Proofs.Ytfmdenifbbhmdaa.MBytes Go.Proofs.Ytfmdenifbbhmdaa.MWriter Go.Proofs.Ytfmdenifbbhmdaa.MOut
set_option linter.unusedVariables false
set_option linter.unusedSimpArgs false
def flagI (b : Bool) : Int := if b = true then 1 else 0
theorem flag_calls (b : Bool) (w : World) : Calls Try.prog 94 #[.bool b] w fun e w' => e = .returned (.int .i64 (flagI b)) ∧ w = w' := by
  cases b with
  | true =>
    go_enter Try.func94, Try.ntmps94
    go_wp2
    go_ret
    exact ⟨rfl, rfl⟩
  | false =>
    go_enter Try.func94, Try.ntmps94
    go_wp2
    go_ret
    exact ⟨rfl, rfl⟩
/-- What the head of a block puts. -/
def headXs (last : Bool) (kind : Int) (xs : List Int) (c : Nat) : List Int := putAll (lows kind 2) (putAll (lows (flagI last) 1) xs c) (c + 1)
theorem headXs_len (last : Bool) (kind : Int) (xs : List Int) (c : Nat) (h : xs.length = (c + 7) / 8) : (headXs last kind xs c).length = (c + 3 + 7) / 8 := by
  unfold headXs
  have h1 := putAll_len (lows (flagI last) 1) xs c h
  rw [lows_len] at h1
  rw [putAll_len _ _ _ h1, lows_len]
set_option maxHeartbeats 1000000 in
set_option maxRecDepth 100000 in
theorem head_calls (ok : Nat → Prop) (w : World) (g : Nat) (xs : List Int) (c : Nat) (last : Bool) (kind : Int) (h : WS ok w g xs c) (hl : xs.length = (c + 7) / 8) (hc : c ≤ 890000) (hfresh : ∀ i, w.heap.size ≤ i → ok i) :
    Calls Try.prog 86 #[.pointer (some ⟨g, 0, none⟩), .bool last, .int .i64 kind] w fun e w' => e = .returned (.tuple #[]) ∧ WS ok w' g (headXs last kind xs c) ((c + 3 : Nat) : Int) ∧ KO ok w w' := by
  have H := Aside0.mk h
  have HL := Aside0.mk hl
  clear h hl
  go_enter Try.func86, Try.ntmps86
  go_wp2_with (go_at_call 94; refine (flag_calls last _).mono ?_; rintro e w' ⟨rfl, rfl⟩)
  refine (bits_calls ok w g xs c _ 1 H.out HL.out (by omega) (by omega) hfresh).mono ?_
  rintro e w2 ⟨rfl, hs, hk⟩
  have HS := Aside0.mk hs
  have HK := Aside0.mk hk
  clear hs hk
  go_wp2_with fail
  refine (bits_calls ok w2 g _ _ kind 2 HS.out (by rw [putAll_len _ _ _ HL.out, lows_len]) (by omega) (by omega) (WS.fresh hfresh HK.out)).mono ?_
  rintro e w3 ⟨rfl, hs, hk⟩
  have HS3 := Aside0.mk hs
  have HK3 := Aside0.mk (HK.out.trans hk)
  clear hs hk HS HK
  go_wp2
  go_end0
  exact ⟨rfl, HS3.out, HK3.out⟩
/-- Bytes, one behind the other, each as eight bits. -/
def pbytes : List Int → List Int → Nat → List Int
  | [], xs, _ => xs
  | v :: vs, xs, c => pbytes vs (putAll (lows v 8) xs c) (c + 8)
def storedXs (s : ByteArray) (c : Nat) (t : ByteArray) (last : Bool) : List Int × Nat :=
  let x2 := headXs last 0 (bytesOf s) c
  let x3 := putAll (lows (t.size : Int) 16) x2 (8 * x2.length)
  let x4 := putAll (lows (65535 - (t.size : Int)) 16) x3 (8 * x2.length + 16)
  (pbytes (bytesOf t) x4 (8 * x2.length + 32), 8 * x2.length + 32 + 8 * t.size)
def storedF (s : ByteArray) (c : Int) (t : ByteArray) (last b : Bool) : Option (ByteArray × Int × Bool) := if b = true then (if t.size ≤ 2600 then (if 0 ≤ c ∧ c ≤ 800000 ∧ (s.size : Int) = (c + 7) / 8 then some (outF (storedXs s c.toNat t last).1 ((storedXs s c.toNat t last).2 : Int)) else none) else some (⟨#[]⟩, 0, false)) else some (⟨#[]⟩, 0, false)
set_option maxHeartbeats 4000000 in
set_option maxRecDepth 100000 in
theorem StoredBlock_calls (s : ByteArray) (c : Int) (t : ByteArray) (last b : Bool) (w : World) (hok : ∀ w, Calls Try.prog 42 #[.agg #[.string s, .int .i64 c]] w fun e w' => e = .returned (.bool b) ∧ Below w.heap.size w w') (r : ByteArray × Int × Bool) (h : storedF s c t last b = some r) :
    Calls Try.prog 51 #[.agg #[.string s, .int .i64 c], .string t, .bool last] w fun e w' => e = .returned (outV r) ∧ Below w.heap.size w w' := by
  have HOK := Aside0.mk hok
  clear hok
  unfold storedF at h
  go_enter Try.func51, Try.ntmps51
  go_wp2_with fail
  obtain ⟨W1, hW1⟩ : ∃ W1, W1 = (w.alloc (.cells #[.string s, .int .i64 c] 50)).alloc (.cells #[.string ⟨#[]⟩, .int .i64 0] 50) := ⟨_, rfl⟩
  have hbk : W1.heap[w.heap.size]? = some (.cells #[.string s, .int .i64 c] 50 (0, 0)) := by rw [hW1]; exact blk_alloc (blk_new w _) _
  have hrs : W1.heap[w.heap.size + 1]? = some (.cells #[.string ⟨#[]⟩, .int .i64 0] 50 (0, 0)) := by rw [hW1]; have h1 := blk_new (w.alloc (.cells #[.string s, .int .i64 c] 50)) (.cells #[.string ⟨#[]⟩, .int .i64 0] 50); simpa using h1
  have hB1 : Below w.heap.size w W1 := by rw [hW1]; exact below_alloc (below_alloc (Below.refl _ _) _) _
  rw [← hW1]
  clear hW1
  refine (HOK.out _).mono ?_
  rintro e w2 ⟨rfl, hd⟩
  have hB2 := below_step hB1 hd
  replace hbk := blk_below hbk hd
  replace hrs := blk_below hrs hd
  have hc0 := blk_cell hbk 0
  have hc1 := blk_cell hbk 1
  have hr0 := blk_cell hrs 0
  have hr1 := blk_cell hrs 1
  have hz0 := blk_frozen hrs 0
  have hz1 := blk_frozen hrs 1
  simp at hc0 hc1 hr0 hr1
  have HBK := Aside0.mk hbk
  have HRS := Aside0.mk hrs
  have HB := Aside0.mk hB2
  clear hbk hrs hB1 hB2 hd HOK
  cases b with
  | false =>
    rw [if_neg (by decide)] at h
    obtain rfl : (⟨#[]⟩, 0, false) = r := by injection h
    clear h
    go_wp2
    refine bodyPost_ret (results_ct rfl _ _ (w.heap.size + 1) 50 #[.string (⟨#[]⟩ : ByteArray), .int .i64 0] (0, 0) _ rfl (by refine blk_put (cs := #[.string (⟨#[]⟩ : ByteArray), .int .i64 0]) ?_ 1 _ rfl; refine blk_put (cs := #[.string (⟨#[]⟩ : ByteArray), .int .i64 0]) ?_ 0 _ rfl; exact HRS.out) Try.underlying50 rfl (by kernel_rfl)) rfl ?_
    exact ⟨rfl, below_set (below_set HB.out (Nat.le_succ _)) (Nat.le_succ _)⟩
  | true =>
    rw [if_pos rfl] at h
    by_cases ht : t.size ≤ 2600
    · rw [if_pos ht] at h
      by_cases hcon : 0 ≤ c ∧ c ≤ 800000 ∧ (s.size : Int) = (c + 7) / 8
      · rw [if_pos hcon] at h
        obtain ⟨C, rfl⟩ := Int.eq_ofNat_of_zero_le hcon.1
        rw [Int.toNat_natCast] at h
        have hr : outF (storedXs s C t last).1 ((storedXs s C t last).2 : Int) = r := by injection h
        have d1 : decide (2600 < (t.size : Int)) = false := decide_eq_false (by omega)
        have d2 : decide (2600 < t.size) = false := decide_eq_false (by omega)
        have hC8 : C ≤ 800000 := by omega
        have hS8 : s.size = (C + 7) / 8 := by omega
        have HS8 := Aside0.mk hS8
        have HR := Aside0.mk hr
        have hsz : s.size ≤ maxLen := by unfold maxLen; omega
        have HSZ := Aside0.mk hsz
        clear h hr hcon hS8 hsz
        go_wp2_with fail
        clear hc0 hc1 hr0 hr1 hz0 hz1
        refine (writerOf_calls s _ w2 HSZ.out).mono ?_
        rintro e w3 ⟨g, rfl, hws, hb3⟩
        have hltr : w.heap.size + 1 < w2.heap.size := blk_lt HRS.out
        have HRS3 := Aside0.mk (blk_below HRS.out hb3)
        have HRSz := HRS3
        have HB3 := Aside0.mk hb3
        have HW3 := Aside0.mk hws
        clear hws hb3 HRS HBK
        go_wp2_with fail
        refine (head_calls _ w3 g _ C last 0 HW3.out (by rw [bytesOf_length]; exact HS8.out) (by omega) (fun i hi => Nat.le_trans HB3.out.size hi)).mono ?_
        rintro e w4 ⟨rfl, hws, hk⟩
        have hx2 := headXs_len last 0 (bytesOf s) C (by rw [bytesOf_length]; exact HS8.out)
        have HRS4 := Aside0.mk (KO.blk hk HRS3.out (by omega))
        have HK4 := Aside0.mk hk
        have HW4 := Aside0.mk hws
        have hr := HR.out
        unfold storedXs at hr
        dsimp only at hr
        generalize headXs last 0 (bytesOf s) C = x2 at hx2 hr HW4
        have HR2 := Aside0.mk hr
        have hx2b : x2.length ≤ 100100 := by omega
        clear hws hk hr HR HW3 hx2 HS8
        go_wp2_with fail
        refine (fill_calls _ w4 g _ _ HW4.out (by omega)).mono ?_
        rintro e w5 ⟨rfl, hws, hk⟩
        have HRS5 := Aside0.mk (KO.blk hk HRS4.out (by omega))
        have HK5 := Aside0.mk (HK4.out.trans hk)
        have HW5 := Aside0.mk hws
        clear hws hk HW4 HK4 HRS4 HRS3
        have t0 : (0 : Int) ≤ (t.size : Int) := by omega
        have t1 : (t.size : Int) ≤ 2600 := by omega
        go_wp2_with fail
        refine (bits_calls _ w5 g x2 (8 * x2.length) (t.size : Int) 16 HW5.out (by omega) (by omega) (by omega) (fun i hi => Nat.le_trans (Nat.le_trans HB3.out.size HK5.out.kept.1) hi)).mono ?_
        rintro e w6 ⟨rfl, hws, hk⟩
        have HRS6 := Aside0.mk (KO.blk hk HRS5.out (by omega))
        have HK6 := Aside0.mk (HK5.out.trans hk)
        have HW6 := Aside0.mk hws
        have hl3 := putAll_len (lows (t.size : Int) 16) x2 (8 * x2.length) (by omega)
        rw [lows_len] at hl3
        generalize putAll (lows (t.size : Int) 16) x2 (8 * x2.length) = x3 at hl3 HW6 HR2
        clear hws hk HW5 HK5 HRS5
        go_wp2_with fail
        refine (bits_calls _ w6 g x3 (8 * x2.length + 16) (65535 - (t.size : Int)) 16 HW6.out hl3 (by omega) (by omega) (fun i hi => Nat.le_trans (Nat.le_trans HB3.out.size HK6.out.kept.1) hi)).mono ?_
        rintro e w7 ⟨rfl, hws, hk⟩
        have HRS7 := Aside0.mk (KO.blk hk HRS6.out (by omega))
        have HK7 := Aside0.mk (HK6.out.trans hk)
        have HW7 := Aside0.mk hws
        have hl4 := putAll_len (lows (65535 - (t.size : Int)) 16) x3 (8 * x2.length + 16) hl3
        rw [lows_len] at hl4
        generalize putAll (lows (65535 - (t.size : Int)) 16) x3 (8 * x2.length + 16) = x4 at hl4 HW7 HR2
        have HL4 := Aside0.mk hl4
        clear hws hk HW6 HK6 HRS6 hl3 hl4
        go_wp2_with fail
        go_loopg [9, 37] t.size (fun kq v9 v37 w' => ∃ (i : Nat) (xs : List Int), i + kq = t.size ∧ v37 = .int .i64 (i : Int) ∧ Aside0 (xs.length = (8 * x2.length + 32 + 8 * i + 7) / 8) ∧ Aside0 (outF (pbytes ((bytesOf t).drop i) xs (8 * x2.length + 32 + 8 * i)) ((8 * x2.length + 32 + 8 * t.size : Nat) : Int) = r) ∧ Aside0 (WS (fun k => w2.heap.size ≤ k) w' g xs ((8 * x2.length + 32 + 8 * i : Nat) : Int)) ∧ Aside0 (KO (fun k => w2.heap.size ≤ k) w3 w'))
        case atStart => exact ⟨0, x4, by omega, rfl, HL4, HR2, HW7, HK7⟩
        case round =>
          clear HL4 HR2 HW7 HK7 HRS7
          obtain ⟨i, xs, hi, rfl, HL, HE, HW, HK⟩ := hrel
          have HRSw := Aside0.mk (KO.blk HK.out HRSz.out (by omega))
          have HBw := Aside0.mk (below_step HB.out (HB3.out.trans (KO.below HK.out HB3.out.size (fun i hi => hi))))
          cases gk with
          | zero =>
            obtain rfl : i = t.size := by omega
            have e1 : decide (t.size < t.size) = false := decide_eq_false (by omega)
            have e2 : decide ((t.size : Int) < (t.size : Int)) = false := decide_eq_false (by omega)
            have he := HE.out
            rw [List.drop_of_length_le (by rw [bytesOf_length]; omega), pbytes] at he
            have HE2 := Aside0.mk he
            clear he HE hi
            go_wp2_with fail
            refine (out_calls' _ wr g _ _ HW.out).mono ?_
            rintro e w8 ⟨rfl, hb8⟩
            have hrs := blk_below HRSw.out hb8
            have HB8 := Aside0.mk (below_step HBw.out hb8)
            clear hb8
            have hr := HE2.out
            rw [hr]
            clear hr HE2
            obtain ⟨r1, r2, r3⟩ := r
            unfold outV
            dsimp only
            have hr0 := blk_cell hrs 0
            have hr1 := blk_cell hrs 1
            have hz0 := blk_frozen hrs 0
            have hz1 := blk_frozen hrs 1
            simp at hr0 hr1
            have HRS := Aside0.mk hrs
            clear hrs
            go_wp2
            refine bodyPost_ret (results_ct rfl _ _ (w.heap.size + 1) 50 #[.string r1, .int .i64 r2] (0, 0) _ rfl (by refine blk_put (cs := #[.string r1, .int .i64 0]) ?_ 1 _ rfl; refine blk_put (cs := #[.string (⟨#[]⟩ : ByteArray), .int .i64 0]) ?_ 0 _ rfl; exact HRS.out) Try.underlying50 rfl (by kernel_rfl)) rfl ?_
            exact ⟨rfl, below_set (below_set HB8.out (Nat.le_succ _)) (Nat.le_succ _)⟩
          | succ gk =>
            have hlt : i < t.size := by omega
            have e1 : decide (i < t.size) = true := decide_eq_true hlt
            have e2 : decide ((i : Int) < (t.size : Int)) = true := decide_eq_true (by omega)
            have i0 : (0 : Int) ≤ (i : Int) := by omega
            have i1 : (i : Int) < (t.size : Int) := by omega
            have hbt : bt t (i : Int) = (((t[i]'hlt).toNat : Nat) : Int) := by
              unfold bt
              rw [dif_pos (show ((i : Int)).toNat < t.size by omega)]
              rfl
            have hdr : (bytesOf t).drop i = bt t (i : Int) :: (bytesOf t).drop (i + 1) := by
              have hl : i < (bytesOf t).length := by rw [bytesOf_length]; exact hlt
              have e : (bytesOf t)[i]'hl = (((t[i]'hlt).toNat : Nat) : Int) := by
                simp only [bytesOf, List.getElem_map]
                rfl
              rw [List.drop_eq_getElem_cons hl, hbt, e]
            have he := HE.out
            rw [hdr, pbytes, hbt] at he
            have HE2 := Aside0.mk he
            have HI := Aside0.mk hi
            clear he HE hi hdr hbt
            go_wp2_with fail
            refine (bits_calls _ wr g xs (8 * x2.length + 32 + 8 * i) _ 8 HW.out HL.out (by omega) (by omega) (fun i hi => Nat.le_trans (Nat.le_trans HB3.out.size HK.out.kept.1) hi)).mono ?_
            rintro e w8 ⟨rfl, hws, hk⟩
            have HK8 := Aside0.mk (HK.out.trans hk)
            have hw8 : wrap64 (((t[i]'hlt).toNat : Nat) : Int) = (((t[i]'hlt).toNat : Nat) : Int) := by have := (t[i]'hlt).toNat_lt; unfold wrap64; omega
            rw [hw8] at hws
            have HW8 := Aside0.mk hws
            have hl8 := putAll_len (lows (((t[i]'hlt).toNat : Nat) : Int) 8) xs _ HL.out
            rw [lows_len] at hl8
            have e8 : 8 * x2.length + 32 + 8 * i + 8 = 8 * x2.length + 32 + 8 * (i + 1) := by omega
            rw [e8] at hl8 HW8 HE2
            have HL8 := Aside0.mk hl8
            clear hws hk HK HW HRSw HBw e8 hl8 hw8
            go_wp2
            go_roundg gk
            case measure => omega
            case rel => exact ⟨i + 1, _, by have := HI.out; omega, by go_num, HL8, HE2, HW8, HK8⟩
      · rw [if_neg hcon] at h
        cases h
    · rw [if_neg ht] at h
      obtain rfl : (⟨#[]⟩, 0, false) = r := by injection h
      have d1 : decide (2600 < (t.size : Int)) = true := decide_eq_true (by omega)
      have d2 : decide (2600 < t.size) = true := decide_eq_true (by omega)
      clear h
      go_wp2
      refine bodyPost_ret (results_ct rfl _ _ (w.heap.size + 1) 50 #[.string (⟨#[]⟩ : ByteArray), .int .i64 0] (0, 0) _ rfl (by refine blk_put (cs := #[.string (⟨#[]⟩ : ByteArray), .int .i64 0]) ?_ 1 _ rfl; refine blk_put (cs := #[.string (⟨#[]⟩ : ByteArray), .int .i64 0]) ?_ 0 _ rfl; exact HRS.out) Try.underlying50 rfl (by kernel_rfl)) rfl ?_
      exact ⟨rfl, below_set (below_set HB.out (Nat.le_succ _)) (Nat.le_succ _)⟩
end Go.Proofs.Ytfmdenifbbhmdaa.MStored
