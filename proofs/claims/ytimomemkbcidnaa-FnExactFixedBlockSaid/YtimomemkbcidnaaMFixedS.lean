/- The reference's FixedBlock: what it returns, out of what its callees return. Conditions: their contracts; the bounds that 'allF' names. -/
import Derived.Test.YtimomemkbcidnaaMAll
import Derived.Test.YtimomemkbcidnaaMHead
namespace Go.Proofs.Ytimomemkbcidnaa.MFixedS
open Go.RowKit Go.Proofs.YtimomemkbcidnaaW.PrintWords Go.Proofs.Ytimomemkbcidnaa.MBytes Go.Proofs.Ytimomemkbcidnaa.MWriter Go.Proofs.Ytimomemkbcidnaa.MOut Go.Proofs.Ytimomemkbcidnaa.MHead Go.Proofs.Ytimomemkbcidnaa.MAll
set_option linter.unusedVariables false
set_option linter.unusedSimpArgs false
set_option maxHeartbeats 1000000 in
set_option maxRecDepth 100000 in
theorem specFixed_no (s : ByteArray) (c : Int) (A : Option Addr) (n cp : Nat) (last : Bool) (w : World) (P : World → Prop) (hP : P w) (hPb : ∀ w w', P w → Below w.heap.size w w' → P w')
    (htok : ∀ w, P w → Calls Try.prog 76 #[.slice A n cp] w fun e w' => e = .returned (.bool false) ∧ Below w.heap.size w w') :
    Calls Try.prog 47 #[.agg #[.string s, .int .i64 c], .slice A n cp, .bool last] w fun e w' => e = .returned (outV (⟨#[]⟩, 0, false)) ∧ Below w.heap.size w w' := by
  have HT := Aside0.mk htok
  clear htok
  unfold outV
  go_enter Try.func47, Try.ntmps47
  go_wp2_with fail
  obtain ⟨W1, hW1⟩ : ∃ W1, W1 = (w.alloc (.cells #[.string s, .int .i64 c] 47)).alloc (.cells #[.string ⟨#[]⟩, .int .i64 0] 47) := ⟨_, rfl⟩
  have hrs : W1.heap[w.heap.size + 1]? = some (.cells #[.string ⟨#[]⟩, .int .i64 0] 47 (0, 0)) := by rw [hW1]; have h1 := blk_new (w.alloc (.cells #[.string s, .int .i64 c] 47)) (.cells #[.string ⟨#[]⟩, .int .i64 0] 47); simpa using h1
  have hB1 : Below w.heap.size w W1 := by rw [hW1]; exact below_alloc (below_alloc (Below.refl _ _) _) _
  rw [← hW1]
  clear hW1
  refine (HT.out _ (hPb _ _ hP hB1)).mono ?_
  rintro e w2 ⟨rfl, hd⟩
  have HR := Aside0.mk (blk_below hrs hd)
  have HB := Aside0.mk (below_step hB1 hd)
  clear hrs hB1 hd HT hP hPb
  have n0 := blk_cell HR.out 0
  have n1 := blk_cell HR.out 1
  have f0 := blk_frozen HR.out 0
  have f1 := blk_frozen HR.out 1
  simp at n0 n1
  go_wp2
  refine bodyPost_ret (results_ct rfl _ _ (w.heap.size + 1) 47 #[.string (⟨#[]⟩ : ByteArray), .int .i64 0] (0, 0) _ rfl (by refine blk_put (cs := #[.string (⟨#[]⟩ : ByteArray), .int .i64 0]) ?_ 1 _ rfl; refine blk_put (cs := #[.string (⟨#[]⟩ : ByteArray), .int .i64 0]) ?_ 0 _ rfl; exact HR.out) Try.underlying47 rfl (by kernel_rfl)) rfl ?_
  exact ⟨rfl, below_set (below_set HB.out (Nat.le_succ _)) (Nat.le_succ _)⟩
def lastF (q : ByteArray × Int × Bool) : ByteArray × Int × Bool := if q.2.2 = true then (⟨#[]⟩, 0, false) else (q.1, q.2.1, true)
set_option maxHeartbeats 4000000 in
set_option maxRecDepth 100000 in
theorem specFixed_yes (pb : ByteArray → Int → Int → Int → Option (ByteArray × Int × Bool)) (hpb : PutAt pb) (s : ByteArray) (c : Int) (A : Option Addr) (n cp : Nat) (last b : Bool) (w : World) (P : World → Prop) (hP : P w) (hPb : ∀ w w', P w → Below w.heap.size w w' → P w')
    (htok : ∀ w, P w → Calls Try.prog 76 #[.slice A n cp] w fun e w' => e = .returned (.bool true) ∧ Below w.heap.size w w')
    (hok : ∀ w, Calls Try.prog 59 #[.agg #[.string s, .int .i64 c]] w fun e w' => e = .returned (.bool b) ∧ Below w.heap.size w w')
    (f1 f2 : List Int) (hfl : ∀ w, Calls Try.prog 87 #[] w fun e w' => ∃ v0 v1 : Value, e = .returned (.tuple #[v0, v1]) ∧ Kd.R (Kd.int .i64) 3 w' w.heap.size (fun k_ => some k_ ≠ (v1 : Value).ownBlock) v0 f1 ∧ Kd.R (Kd.int .i64) 3 w' w.heap.size (fun k_ => some k_ ≠ (v0 : Value).ownBlock) v1 f2 ∧ Below w.heap.size w w')
    (L : Nat → Int × Int × Bool) (m : Nat) (hm : m ≤ 1000000)
    (hbody : ∀ w A1 c1 A2 c2, P w → Kd.C (Kd.int .i64) w A1 f1.length f1 → f1.length ≤ c1 → Kd.C (Kd.int .i64) w A2 f2.length f2 → f2.length ≤ c2 → Calls Try.prog 89 #[.slice A n cp, .slice A1 f1.length c1, .slice A2 f2.length c2] w fun e w' => ∃ A3 c3, e = .returned (.slice A3 m c3) ∧ m ≤ c3 ∧ (∀ i, i < m → PieceAt w' A3 i (L i)) ∧ Below w.heap.size w w')
    (q1 q2 : ByteArray × Int × Bool) (h1 : l09HeadF pb s c 1 last b = some q1) (h2 : l09AllF L m q1 = some q2) (r : ByteArray × Int × Bool) (h3 : lastF q2 = r) :
    Calls Try.prog 47 #[.agg #[.string s, .int .i64 c], .slice A n cp, .bool last] w fun e w' => e = .returned (outV r) ∧ Below w.heap.size w w' := by
  have HT := Aside0.mk htok
  have HOK := Aside0.mk hok
  have HPB := Aside0.mk hpb
  have HFL := Aside0.mk hfl
  have HBO := Aside0.mk hbody
  have HPB2 := Aside0.mk hPb
  have H1 := Aside0.mk h1
  have H2 := Aside0.mk h2
  have H3 := Aside0.mk h3
  clear htok hok hpb hfl hbody h1 h2 h3
  unfold outV
  go_enter Try.func47, Try.ntmps47
  go_wp2_with fail
  obtain ⟨W1, hW1⟩ : ∃ W1, W1 = (w.alloc (.cells #[.string s, .int .i64 c] 47)).alloc (.cells #[.string ⟨#[]⟩, .int .i64 0] 47) := ⟨_, rfl⟩
  have hbk : W1.heap[w.heap.size]? = some (.cells #[.string s, .int .i64 c] 47 (0, 0)) := by rw [hW1]; exact blk_alloc (blk_new w _) _
  have hrs : W1.heap[w.heap.size + 1]? = some (.cells #[.string ⟨#[]⟩, .int .i64 0] 47 (0, 0)) := by rw [hW1]; have h1 := blk_new (w.alloc (.cells #[.string s, .int .i64 c] 47)) (.cells #[.string ⟨#[]⟩, .int .i64 0] 47); simpa using h1
  have hB1 : Below w.heap.size w W1 := by rw [hW1]; exact below_alloc (below_alloc (Below.refl _ _) _) _
  rw [← hW1]
  clear hW1
  refine (HT.out _ (HPB2.out _ _ hP hB1)).mono ?_
  rintro e w2 ⟨rfl, hd⟩
  have HK2 := Aside0.mk (blk_below hbk hd)
  have HR2 := Aside0.mk (blk_below hrs hd)
  have HB2 := Aside0.mk (below_step hB1 hd)
  clear hbk hrs hB1 hd HT hPb
  have HP := Aside0.mk hP
  clear hP
  have n0 := blk_cell HK2.out 0
  have n1 := blk_cell HK2.out 1
  simp at n0 n1
  go_wp2_with fail
  refine (l09Head_calls pb HPB.out s c 1 last b w2 HOK.out q1 H1.out).mono ?_
  rintro e w3 ⟨rfl, hb⟩
  unfold outV9
  obtain ⟨q11, q12, q13⟩ := q1
  dsimp only
  obtain ⟨W4, hW4⟩ : ∃ W4, W4 = w3.alloc (.cells #[.string q11, .int .i64 q12, .bool q13] 115) := ⟨_, rfl⟩
  have HG4 := Aside0.mk (show W4.heap[w3.heap.size]? = some (.cells #[.string q11, .int .i64 q12, .bool q13] 115 (0, 0)) by rw [hW4]; exact blk_new _ _)
  have HR4 := Aside0.mk (show W4.heap[w.heap.size + 1]? = some (.cells #[.string ⟨#[]⟩, .int .i64 0] 47 (0, 0)) by rw [hW4]; exact blk_alloc (blk_below HR2.out hb) _)
  have HB4 := Aside0.mk (show Below w.heap.size w W4 by rw [hW4]; exact below_alloc (below_step HB2.out hb) _)
  have HGE := Aside0.mk (show w.heap.size + 1 < w3.heap.size by have := blk_lt HR2.out; have := hb.size; omega)
  clear hb HK2 HR2 HB2 n0 n1 HOK
  go_upto_region 4 with (fail)
  rw [← hW4]
  clear hW4
  generalize w3.heap.size = g at HG4 HGE ⊢
  go_wp2_with fail
  refine (HFL.out _).mono ?_
  rintro e w5 ⟨v0, v1, rfl, hr0, hr1, hb⟩
  obtain ⟨A1, c1, hv0⟩ := Kd.R_slice hr0
  subst hv0
  obtain ⟨A2, c2, hv1⟩ := Kd.R_slice hr1
  subst hv1
  have HR0 := Aside0.mk hr0
  have HR1 := Aside0.mk hr1
  have HG5 := Aside0.mk (blk_below HG4.out hb)
  have HR5 := Aside0.mk (blk_below HR4.out hb)
  have HB5 := Aside0.mk (below_step HB4.out hb)
  clear hr0 hr1 hb HG4 HR4 HB4 HFL
  go_wp2_with fail
  refine (HBO.out _ A1 c1 A2 c2 (HPB2.out _ _ HP.out HB5.out) (Kd.R_reads' HR0.out).2.2 (Kd.R_reads' HR0.out).2.1 (Kd.R_reads' HR1.out).2.2 (Kd.R_reads' HR1.out).2.1).mono ?_
  rintro e w6 ⟨A3, c3, rfl, hm3, hpc, hb⟩
  have HPC := Aside0.mk hpc
  have HG6 := Aside0.mk (blk_below HG5.out hb)
  have HR6 := Aside0.mk (blk_below HR5.out hb)
  have HB6 := Aside0.mk (below_step HB5.out hb)
  clear hpc hb HG5 HR5 HB5 HBO HR0 HR1
  go_wp2_with fail
  refine (l09All_calls w6 g (q11, q12, q13) A3 m c3 hm hm3 L HG6.out HPC.out q2 H2.out).mono ?_
  rintro e w7 ⟨rfl, hg7, hk7⟩
  have HG7 := Aside0.mk hg7
  have HR7 := Aside0.mk (KO.blk hk7 HR6.out (by have := HGE.out; have := blk_lt HR6.out; omega))
  have HB7 := Aside0.mk (HB6.out.trans (KO.below hk7 (B := w.heap.size) HB6.out.size (fun i hi => by have := HGE.out; have := HB6.out.size; omega)))
  clear hg7 hk7 HG6 HR6 HB6 HPC
  obtain ⟨S, C, bad⟩ := q2
  dsimp only at HG7
  have h0 := blk_cell HG7.out 0
  have h1 := blk_cell HG7.out 1
  have h2 := blk_cell HG7.out 2
  have n0 := blk_cell HR7.out 0
  have n1 := blk_cell HR7.out 1
  have z0 := blk_frozen HR7.out 0
  have z1 := blk_frozen HR7.out 1
  simp at h0 h1 h2 n0 n1
  have e3 := H3.out
  clear H3 H2
  unfold lastF at e3
  cases bad with
  | true =>
    rw [if_pos rfl] at e3
    subst e3
    go_wp2
    refine bodyPost_ret (results_ct rfl _ _ (w.heap.size + 1) 47 #[.string (⟨#[]⟩ : ByteArray), .int .i64 0] (0, 0) _ rfl (by refine blk_put (cs := #[.string (⟨#[]⟩ : ByteArray), .int .i64 0]) ?_ 1 _ rfl; refine blk_put (cs := #[.string (⟨#[]⟩ : ByteArray), .int .i64 0]) ?_ 0 _ rfl; exact HR7.out) Try.underlying47 rfl (by kernel_rfl)) rfl ?_
    exact ⟨rfl, below_set (below_set HB7.out (Nat.le_succ _)) (Nat.le_succ _)⟩
  | false =>
    rw [if_neg (show ¬ (false = true) by decide)] at e3
    subst e3
    go_wp2
    refine bodyPost_ret (results_ct rfl _ _ (w.heap.size + 1) 47 #[.string S, .int .i64 C] (0, 0) _ rfl (by refine blk_put (cs := #[.string S, .int .i64 0]) ?_ 1 _ rfl; refine blk_put (cs := #[.string (⟨#[]⟩ : ByteArray), .int .i64 0]) ?_ 0 _ rfl; exact HR7.out) Try.underlying47 rfl (by kernel_rfl)) rfl ?_
    exact ⟨rfl, below_set (below_set HB7.out (Nat.le_succ _)) (Nat.le_succ _)⟩
end Go.Proofs.Ytimomemkbcidnaa.MFixedS
