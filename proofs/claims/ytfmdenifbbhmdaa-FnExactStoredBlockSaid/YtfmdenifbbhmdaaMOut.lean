/- The program's functions that put bits behind an Out: what each returns, out of what its test returns. Conditions: the test's contract; the bounds that each function's own law names ('none' where they fail). -/
import Derived.Test.YtfmdenifbbhmdaaMWriter
namespace Go.Proofs.Ytfmdenifbbhmdaa.MOut
open Go.RowKit Go.Proofs.YtfmdenifbbhmdaaW.PrintWords Go.Proofs.Ytfmdenifbbhmdaa.MBytes Go.Proofs.Ytfmdenifbbhmdaa.MWriter
set_option linter.unusedVariables false
set_option linter.unusedSimpArgs false
/-- What 'out' tells. -/
def outF (xs : List Int) (c : Int) : ByteArray × Int × Bool := if xs.length ≤ 12000 then (strOfNums xs, c, true) else (⟨#[]⟩, 0, false)
def outV (p : ByteArray × Int × Bool) : Value := .tuple #[.agg #[.string p.1, .int .i64 p.2.1], .bool p.2.2]
theorem out_calls' (ok : Nat → Prop) (w : World) (g : Nat) (xs : List Int) (c : Int) (h : WS ok w g xs c) :
    Calls Try.prog 69 #[.pointer (some ⟨g, 0, none⟩)] w fun e w' => e = .returned (outV (outF xs c)) ∧ Below w.heap.size w w' := by
  refine (out_calls ok w g xs c h).mono ?_
  rintro e w' ⟨rfl, hb⟩
  refine ⟨?_, hb⟩
  unfold outF outV
  by_cases h1 : xs.length ≤ 12000
  · rw [if_pos h1, if_pos h1]
  · rw [if_neg h1, if_neg h1]
theorem KO.blk {ok : Nat → Prop} {a b : World} {g : Nat} {o : Obj} (h : KO ok a b) (hb : a.heap[g]? = some o) (hn : ¬ ok g) : b.heap[g]? = some o := (h.kept.2 g (blk_lt hb) hn).trans hb
def fillF (s : ByteArray) (c : Int) (b : Bool) : Option (ByteArray × Int × Bool) := if b = true then (if s.size ≤ 1000000 then some (outF (bytesOf s) ((8 * (bytesOf s).length : Nat) : Int)) else none) else some (⟨#[]⟩, 0, false)
set_option maxHeartbeats 1000000 in
set_option maxRecDepth 100000 in
theorem FillByte_calls (s : ByteArray) (c : Int) (w : World) (b : Bool) (hok : ∀ w, Calls Try.prog 42 #[.agg #[.string s, .int .i64 c]] w fun e w' => e = .returned (.bool b) ∧ Below w.heap.size w w') (r : ByteArray × Int × Bool) (h : fillF s c b = some r) :
    Calls Try.prog 35 #[.agg #[.string s, .int .i64 c]] w fun e w' => e = .returned (outV r) ∧ Below w.heap.size w w' := by
  have HOK := Aside0.mk hok
  clear hok
  unfold fillF at h
  go_enter Try.func35, Try.ntmps35
  go_wp2_with fail
  obtain ⟨W1, hW1⟩ : ∃ W1, W1 = (w.alloc (.cells #[.string s, .int .i64 c] 50)).alloc (.cells #[.string ⟨#[]⟩, .int .i64 0] 50) := ⟨_, rfl⟩
  have hbk : W1.heap[w.heap.size]? = some (.cells #[.string s, .int .i64 c] 50 (0, 0)) := by rw [hW1]; exact blk_alloc (blk_new w _) _
  have hrs : W1.heap[w.heap.size + 1]? = some (.cells #[.string ⟨#[]⟩, .int .i64 0] 50 (0, 0)) := by rw [hW1]; have h1 := blk_new (w.alloc (.cells #[.string s, .int .i64 c] 50)) (.cells #[.string ⟨#[]⟩, .int .i64 0] 50); simpa using h1
  have hB1 : Below w.heap.size w W1 := by rw [hW1]; exact below_alloc (below_alloc (Below.refl _ _) _) _
  rw [← hW1]
  clear hW1
  refine (HOK.out _).mono ?_
  rintro e w2 ⟨rfl, hd⟩
  have hB2 := below_step hB1 hd
  replace hbk := blk_below hbk hd
  replace hrs := blk_below hrs hd
  have hc0 := blk_cell hbk 0
  have hc1 := blk_cell hbk 1
  have hr0 := blk_cell hrs 0
  have hr1 := blk_cell hrs 1
  have hz0 := blk_frozen hrs 0
  have hz1 := blk_frozen hrs 1
  simp at hc0 hc1 hr0 hr1
  have HBK := Aside0.mk hbk
  have HRS := Aside0.mk hrs
  have HB := Aside0.mk hB2
  clear hbk hrs hB1 hB2 hd HOK
  cases b with
  | false =>
    rw [if_neg (by decide)] at h
    obtain rfl : (⟨#[]⟩, 0, false) = r := by injection h
    clear h
    go_wp2
    refine bodyPost_ret (results_ct rfl _ _ (w.heap.size + 1) 50 #[.string (⟨#[]⟩ : ByteArray), .int .i64 0] (0, 0) _ rfl (by refine blk_put (cs := #[.string (⟨#[]⟩ : ByteArray), .int .i64 0]) ?_ 1 _ rfl; refine blk_put (cs := #[.string (⟨#[]⟩ : ByteArray), .int .i64 0]) ?_ 0 _ rfl; exact HRS.out) Try.underlying50 rfl (by kernel_rfl)) rfl ?_
    exact ⟨rfl, below_set (below_set HB.out (Nat.le_succ _)) (Nat.le_succ _)⟩
  | true =>
    rw [if_pos rfl] at h
    have hsz : s.size ≤ 1000000 := by
      by_cases h1 : s.size ≤ 1000000
      · exact h1
      · rw [if_neg h1] at h; cases h
    rw [if_pos hsz] at h
    have hr : outF (bytesOf s) ((8 * (bytesOf s).length : Nat) : Int) = r := by injection h
    clear h
    have HR := Aside0.mk hr
    have HSZ := Aside0.mk hsz
    clear hr hsz
    go_wp2_with fail
    clear hc0 hc1 hr0 hr1 hz0 hz1
    refine (writerOf_calls s _ w2 (by have := HSZ.out; unfold maxLen; omega)).mono ?_
    rintro e w3 ⟨g, rfl, hws, hb3⟩
    have hltr : w.heap.size + 1 < w2.heap.size := blk_lt HRS.out
    have HRS3 := Aside0.mk (blk_below HRS.out hb3)
    have HB3 := Aside0.mk hb3
    have HW3 := Aside0.mk hws
    clear hws hb3 HRS HBK
    go_wp2_with fail
    have hsz := HSZ.out
    refine (fill_calls _ w3 g _ _ HW3.out (by rw [bytesOf_length]; exact hsz)).mono ?_
    rintro e w4 ⟨rfl, hws, hk⟩
    clear hsz
    have HRS4 := Aside0.mk (KO.blk hk HRS3.out (by omega))
    have HB4 := Aside0.mk (below_step HB.out (HB3.out.trans (KO.below hk HB3.out.size (fun i hi => hi))))
    have HW4 := Aside0.mk hws
    clear hws hk HRS3 HB3 HW3 HB HSZ
    go_wp2_with fail
    refine (out_calls' _ w4 g _ _ HW4.out).mono ?_
    rintro e w5 ⟨rfl, hb5⟩
    have hrs := blk_below HRS4.out hb5
    have HB5 := Aside0.mk (below_step HB4.out hb5)
    clear hb5 HRS4 HW4 HB4 hltr
    have hr := HR.out
    rw [hr]
    clear hr HR
    obtain ⟨r1, r2, r3⟩ := r
    unfold outV
    dsimp only
    have hr0 := blk_cell hrs 0
    have hr1 := blk_cell hrs 1
    have hz0 := blk_frozen hrs 0
    have hz1 := blk_frozen hrs 1
    simp at hr0 hr1
    have HRS := Aside0.mk hrs
    clear hrs
    go_wp2
    refine bodyPost_ret (results_ct rfl _ _ (w.heap.size + 1) 50 #[.string r1, .int .i64 r2] (0, 0) _ rfl (by refine blk_put (cs := #[.string r1, .int .i64 0]) ?_ 1 _ rfl; refine blk_put (cs := #[.string (⟨#[]⟩ : ByteArray), .int .i64 0]) ?_ 0 _ rfl; exact HRS.out) Try.underlying50 rfl (by kernel_rfl)) rfl ?_
    exact ⟨rfl, below_set (below_set HB5.out (Nat.le_succ _)) (Nat.le_succ _)⟩
def putCond (s : ByteArray) (c n : Int) : Prop := 0 ≤ n ∧ n ≤ 62 ∧ 0 ≤ c ∧ c ≤ 900000 ∧ (s.size : Int) = (c + 7) / 8
instance (s : ByteArray) (c n : Int) : Decidable (putCond s c n) := by unfold putCond; infer_instance
def bitsF (s : ByteArray) (c v n : Int) (b : Bool) : Option (ByteArray × Int × Bool) := if b = true then (if putCond s c n then some (outF (putAll (lows v n.toNat) (bytesOf s) c.toNat) (c + n)) else none) else some (⟨#[]⟩, 0, false)
def codeF (s : ByteArray) (c v n : Int) (b : Bool) : Option (ByteArray × Int × Bool) := if b = true then (if putCond s c n then some (outF (putAll (highs v n.toNat n.toNat) (bytesOf s) c.toNat) (c + n)) else none) else some (⟨#[]⟩, 0, false)
set_option maxHeartbeats 1000000 in
set_option maxRecDepth 100000 in
theorem PutBits_calls (s : ByteArray) (c v n : Int) (w : World) (b : Bool) (hok : ∀ w, Calls Try.prog 72 #[.agg #[.string s, .int .i64 c], .int .i64 v, .int .i64 n] w fun e w' => e = .returned (.bool b) ∧ Below w.heap.size w w') (r : ByteArray × Int × Bool) (h : bitsF s c v n b = some r) :
    Calls Try.prog 38 #[.agg #[.string s, .int .i64 c], .int .i64 v, .int .i64 n] w fun e w' => e = .returned (outV r) ∧ Below w.heap.size w w' := by
  have HOK := Aside0.mk hok
  clear hok
  unfold bitsF at h
  go_enter Try.func38, Try.ntmps38
  go_wp2_with fail
  obtain ⟨W1, hW1⟩ : ∃ W1, W1 = (w.alloc (.cells #[.string s, .int .i64 c] 50)).alloc (.cells #[.string ⟨#[]⟩, .int .i64 0] 50) := ⟨_, rfl⟩
  have hbk : W1.heap[w.heap.size]? = some (.cells #[.string s, .int .i64 c] 50 (0, 0)) := by rw [hW1]; exact blk_alloc (blk_new w _) _
  have hrs : W1.heap[w.heap.size + 1]? = some (.cells #[.string ⟨#[]⟩, .int .i64 0] 50 (0, 0)) := by rw [hW1]; have h1 := blk_new (w.alloc (.cells #[.string s, .int .i64 c] 50)) (.cells #[.string ⟨#[]⟩, .int .i64 0] 50); simpa using h1
  have hB1 : Below w.heap.size w W1 := by rw [hW1]; exact below_alloc (below_alloc (Below.refl _ _) _) _
  rw [← hW1]
  clear hW1
  refine (HOK.out _).mono ?_
  rintro e w2 ⟨rfl, hd⟩
  have hB2 := below_step hB1 hd
  replace hbk := blk_below hbk hd
  replace hrs := blk_below hrs hd
  have hc0 := blk_cell hbk 0
  have hc1 := blk_cell hbk 1
  have hr0 := blk_cell hrs 0
  have hr1 := blk_cell hrs 1
  have hz0 := blk_frozen hrs 0
  have hz1 := blk_frozen hrs 1
  simp at hc0 hc1 hr0 hr1
  have HBK := Aside0.mk hbk
  have HRS := Aside0.mk hrs
  have HB := Aside0.mk hB2
  clear hbk hrs hB1 hB2 hd HOK
  cases b with
  | false =>
    rw [if_neg (by decide)] at h
    obtain rfl : (⟨#[]⟩, 0, false) = r := by injection h
    clear h
    go_wp2
    refine bodyPost_ret (results_ct rfl _ _ (w.heap.size + 1) 50 #[.string (⟨#[]⟩ : ByteArray), .int .i64 0] (0, 0) _ rfl (by refine blk_put (cs := #[.string (⟨#[]⟩ : ByteArray), .int .i64 0]) ?_ 1 _ rfl; refine blk_put (cs := #[.string (⟨#[]⟩ : ByteArray), .int .i64 0]) ?_ 0 _ rfl; exact HRS.out) Try.underlying50 rfl (by kernel_rfl)) rfl ?_
    exact ⟨rfl, below_set (below_set HB.out (Nat.le_succ _)) (Nat.le_succ _)⟩
  | true =>
    rw [if_pos rfl] at h
    have hsz : putCond s c n := by
      by_cases h1 : putCond s c n
      · exact h1
      · rw [if_neg h1] at h; cases h
    rw [if_pos hsz] at h
    have hr : outF (putAll (lows v n.toNat) (bytesOf s) c.toNat) (c + n) = r := by injection h
    clear h
    obtain ⟨N, rfl⟩ := Int.eq_ofNat_of_zero_le hsz.1
    obtain ⟨C, rfl⟩ := Int.eq_ofNat_of_zero_le hsz.2.2.1
    unfold putCond at hsz
    simp only [Int.toNat_natCast] at hr
    rw [show (C : Int) + (N : Int) = ((C + N : Nat) : Int) by omega] at hr
    have HR := Aside0.mk hr
    have HSZ := Aside0.mk hsz
    clear hr hsz
    go_wp2_with fail
    clear hc0 hc1 hr0 hr1 hz0 hz1
    refine (writerOf_calls s _ w2 (by have := HSZ.out; unfold maxLen; omega)).mono ?_
    rintro e w3 ⟨g, rfl, hws, hb3⟩
    have hltr : w.heap.size + 1 < w2.heap.size := blk_lt HRS.out
    have HRS3 := Aside0.mk (blk_below HRS.out hb3)
    have HB3 := Aside0.mk hb3
    have HW3 := Aside0.mk hws
    clear hws hb3 HRS HBK
    go_wp2_with fail
    have hsz := HSZ.out
    refine (bits_calls _ w3 g _ C v N HW3.out (by rw [bytesOf_length]; omega) (by omega) (by omega) (fun i hi => Nat.le_trans HB3.out.size hi)).mono ?_
    rintro e w4 ⟨rfl, hws, hk⟩
    clear hsz
    have HRS4 := Aside0.mk (KO.blk hk HRS3.out (by omega))
    have HB4 := Aside0.mk (below_step HB.out (HB3.out.trans (KO.below hk HB3.out.size (fun i hi => hi))))
    have HW4 := Aside0.mk hws
    clear hws hk HRS3 HB3 HW3 HB HSZ
    go_wp2_with fail
    refine (out_calls' _ w4 g _ _ HW4.out).mono ?_
    rintro e w5 ⟨rfl, hb5⟩
    have hrs := blk_below HRS4.out hb5
    have HB5 := Aside0.mk (below_step HB4.out hb5)
    clear hb5 HRS4 HW4 HB4 hltr
    have hr := HR.out
    rw [hr]
    clear hr HR
    obtain ⟨r1, r2, r3⟩ := r
    unfold outV
    dsimp only
    have hr0 := blk_cell hrs 0
    have hr1 := blk_cell hrs 1
    have hz0 := blk_frozen hrs 0
    have hz1 := blk_frozen hrs 1
    simp at hr0 hr1
    have HRS := Aside0.mk hrs
    clear hrs
    go_wp2
    refine bodyPost_ret (results_ct rfl _ _ (w.heap.size + 1) 50 #[.string r1, .int .i64 r2] (0, 0) _ rfl (by refine blk_put (cs := #[.string r1, .int .i64 0]) ?_ 1 _ rfl; refine blk_put (cs := #[.string (⟨#[]⟩ : ByteArray), .int .i64 0]) ?_ 0 _ rfl; exact HRS.out) Try.underlying50 rfl (by kernel_rfl)) rfl ?_
    exact ⟨rfl, below_set (below_set HB5.out (Nat.le_succ _)) (Nat.le_succ _)⟩
set_option maxHeartbeats 1000000 in
set_option maxRecDepth 100000 in
theorem PutCode_calls (s : ByteArray) (c v n : Int) (w : World) (b : Bool) (hok : ∀ w, Calls Try.prog 72 #[.agg #[.string s, .int .i64 c], .int .i64 v, .int .i64 n] w fun e w' => e = .returned (.bool b) ∧ Below w.heap.size w w') (r : ByteArray × Int × Bool) (h : codeF s c v n b = some r) :
    Calls Try.prog 40 #[.agg #[.string s, .int .i64 c], .int .i64 v, .int .i64 n] w fun e w' => e = .returned (outV r) ∧ Below w.heap.size w w' := by
  have HOK := Aside0.mk hok
  clear hok
  unfold codeF at h
  go_enter Try.func40, Try.ntmps40
  go_wp2_with fail
  obtain ⟨W1, hW1⟩ : ∃ W1, W1 = (w.alloc (.cells #[.string s, .int .i64 c] 50)).alloc (.cells #[.string ⟨#[]⟩, .int .i64 0] 50) := ⟨_, rfl⟩
  have hbk : W1.heap[w.heap.size]? = some (.cells #[.string s, .int .i64 c] 50 (0, 0)) := by rw [hW1]; exact blk_alloc (blk_new w _) _
  have hrs : W1.heap[w.heap.size + 1]? = some (.cells #[.string ⟨#[]⟩, .int .i64 0] 50 (0, 0)) := by rw [hW1]; have h1 := blk_new (w.alloc (.cells #[.string s, .int .i64 c] 50)) (.cells #[.string ⟨#[]⟩, .int .i64 0] 50); simpa using h1
  have hB1 : Below w.heap.size w W1 := by rw [hW1]; exact below_alloc (below_alloc (Below.refl _ _) _) _
  rw [← hW1]
  clear hW1
  refine (HOK.out _).mono ?_
  rintro e w2 ⟨rfl, hd⟩
  have hB2 := below_step hB1 hd
  replace hbk := blk_below hbk hd
  replace hrs := blk_below hrs hd
  have hc0 := blk_cell hbk 0
  have hc1 := blk_cell hbk 1
  have hr0 := blk_cell hrs 0
  have hr1 := blk_cell hrs 1
  have hz0 := blk_frozen hrs 0
  have hz1 := blk_frozen hrs 1
  simp at hc0 hc1 hr0 hr1
  have HBK := Aside0.mk hbk
  have HRS := Aside0.mk hrs
  have HB := Aside0.mk hB2
  clear hbk hrs hB1 hB2 hd HOK
  cases b with
  | false =>
    rw [if_neg (by decide)] at h
    obtain rfl : (⟨#[]⟩, 0, false) = r := by injection h
    clear h
    go_wp2
    refine bodyPost_ret (results_ct rfl _ _ (w.heap.size + 1) 50 #[.string (⟨#[]⟩ : ByteArray), .int .i64 0] (0, 0) _ rfl (by refine blk_put (cs := #[.string (⟨#[]⟩ : ByteArray), .int .i64 0]) ?_ 1 _ rfl; refine blk_put (cs := #[.string (⟨#[]⟩ : ByteArray), .int .i64 0]) ?_ 0 _ rfl; exact HRS.out) Try.underlying50 rfl (by kernel_rfl)) rfl ?_
    exact ⟨rfl, below_set (below_set HB.out (Nat.le_succ _)) (Nat.le_succ _)⟩
  | true =>
    rw [if_pos rfl] at h
    have hsz : putCond s c n := by
      by_cases h1 : putCond s c n
      · exact h1
      · rw [if_neg h1] at h; cases h
    rw [if_pos hsz] at h
    have hr : outF (putAll (highs v n.toNat n.toNat) (bytesOf s) c.toNat) (c + n) = r := by injection h
    clear h
    obtain ⟨N, rfl⟩ := Int.eq_ofNat_of_zero_le hsz.1
    obtain ⟨C, rfl⟩ := Int.eq_ofNat_of_zero_le hsz.2.2.1
    unfold putCond at hsz
    simp only [Int.toNat_natCast] at hr
    rw [show (C : Int) + (N : Int) = ((C + N : Nat) : Int) by omega] at hr
    have HR := Aside0.mk hr
    have HSZ := Aside0.mk hsz
    clear hr hsz
    go_wp2_with fail
    clear hc0 hc1 hr0 hr1 hz0 hz1
    refine (writerOf_calls s _ w2 (by have := HSZ.out; unfold maxLen; omega)).mono ?_
    rintro e w3 ⟨g, rfl, hws, hb3⟩
    have hltr : w.heap.size + 1 < w2.heap.size := blk_lt HRS.out
    have HRS3 := Aside0.mk (blk_below HRS.out hb3)
    have HB3 := Aside0.mk hb3
    have HW3 := Aside0.mk hws
    clear hws hb3 HRS HBK
    go_wp2_with fail
    have hsz := HSZ.out
    refine (code_calls _ w3 g _ C v N HW3.out (by rw [bytesOf_length]; omega) (by omega) (by omega) (fun i hi => Nat.le_trans HB3.out.size hi)).mono ?_
    rintro e w4 ⟨rfl, hws, hk⟩
    clear hsz
    have HRS4 := Aside0.mk (KO.blk hk HRS3.out (by omega))
    have HB4 := Aside0.mk (below_step HB.out (HB3.out.trans (KO.below hk HB3.out.size (fun i hi => hi))))
    have HW4 := Aside0.mk hws
    clear hws hk HRS3 HB3 HW3 HB HSZ
    go_wp2_with fail
    refine (out_calls' _ w4 g _ _ HW4.out).mono ?_
    rintro e w5 ⟨rfl, hb5⟩
    have hrs := blk_below HRS4.out hb5
    have HB5 := Aside0.mk (below_step HB4.out hb5)
    clear hb5 HRS4 HW4 HB4 hltr
    have hr := HR.out
    rw [hr]
    clear hr HR
    obtain ⟨r1, r2, r3⟩ := r
    unfold outV
    dsimp only
    have hr0 := blk_cell hrs 0
    have hr1 := blk_cell hrs 1
    have hz0 := blk_frozen hrs 0
    have hz1 := blk_frozen hrs 1
    simp at hr0 hr1
    have HRS := Aside0.mk hrs
    clear hrs
    go_wp2
    refine bodyPost_ret (results_ct rfl _ _ (w.heap.size + 1) 50 #[.string r1, .int .i64 r2] (0, 0) _ rfl (by refine blk_put (cs := #[.string r1, .int .i64 0]) ?_ 1 _ rfl; refine blk_put (cs := #[.string (⟨#[]⟩ : ByteArray), .int .i64 0]) ?_ 0 _ rfl; exact HRS.out) Try.underlying50 rfl (by kernel_rfl)) rfl ?_
    exact ⟨rfl, below_set (below_set HB5.out (Nat.le_succ _)) (Nat.le_succ _)⟩
end Go.Proofs.Ytfmdenifbbhmdaa.MOut
