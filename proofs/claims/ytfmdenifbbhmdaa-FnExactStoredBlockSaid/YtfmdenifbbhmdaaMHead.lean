/- The reference's l09Put, l09Head and StoredBlock: what each returns, out of what OutOk, PutBits and FillByte return. Conditions: their contracts; the bounds that 'specStoredF' names. -/
import Derived.Test.YtfmdenifbbhmdaaMOut
import Derived.Deep.RegionWith
import Derived.Deep.DeepCutAuto
namespace Go.Proofs.Ytfmdenifbbhmdaa.MHead
open Go.RowKit Go.Proofs.YtfmdenifbbhmdaaW.PrintWords Go.Proofs.Ytfmdenifbbhmdaa.MBytes Go.Proofs.Ytfmdenifbbhmdaa.MWriter Go.Proofs.Ytfmdenifbbhmdaa.MOut
set_option linter.unusedVariables false
set_option linter.unusedSimpArgs false
/-- What PutBits tells, as the reference's l09Put uses it. -/
def l09PutF (pb : ByteArray → Int → Int → Int → Option (ByteArray × Int × Bool)) (st : ByteArray × Int × Bool) (v n : Int) : Option (ByteArray × Int × Bool) := if st.2.2 = true then some st else (pb st.1 st.2.1 v n).bind fun r => if r.2.2 = true then some (r.1, r.2.1, false) else some (st.1, st.2.1, true)
def PutAt (pb : ByteArray → Int → Int → Int → Option (ByteArray × Int × Bool)) : Prop := ∀ s c v n r, pb s c v n = some r → ∀ w, Calls Try.prog 37 #[.agg #[.string s, .int .i64 c], .int .i64 v, .int .i64 n] w fun e w' => e = .returned (outV r) ∧ Below w.heap.size w w'
set_option maxHeartbeats 1000000 in
set_option maxRecDepth 100000 in
theorem l09Put_calls (pb : ByteArray → Int → Int → Int → Option (ByteArray × Int × Bool)) (hpb : PutAt pb) (w : World) (g : Nat) (s : ByteArray) (c : Int) (bad : Bool) (v n : Int) (hg : w.heap[g]? = some (.cells #[.string s, .int .i64 c, .bool bad] 103 (0, 0))) (r : ByteArray × Int × Bool) (h : l09PutF pb (s, c, bad) v n = some r) :
    Calls Try.prog 85 #[.pointer (some ⟨g, 0, none⟩), .int .i64 v, .int .i64 n, .bool false] w fun e w' => e = .returned (.tuple #[]) ∧ w'.heap[g]? = some (.cells #[.string r.1, .int .i64 r.2.1, .bool r.2.2] 103 (0, 0)) ∧ KO (fun k => k = g ∨ w.heap.size ≤ k) w w' := by
  have HPB := Aside0.mk hpb
  have H := Aside0.mk h
  have HG := Aside0.mk hg
  have h0 := blk_cell hg 0
  have h1 := blk_cell hg 1
  have h2 := blk_cell hg 2
  have z0 := blk_frozen hg 0
  have z1 := blk_frozen hg 1
  have z2 := blk_frozen hg 2
  simp at h0 h1 h2
  have HLT := Aside0.mk (blk_lt hg)
  clear h hg hpb
  go_enter Try.func85, Try.ntmps85
  cases bad with
  | true =>
    have e := H.out
    unfold l09PutF at e
    rw [if_pos rfl] at e
    obtain rfl : (s, c, true) = r := by injection e
    clear e
    go_wp2
    refine bodyPost_ret (results_none rfl _ _ _) rfl ?_
    exact ⟨rfl, HG.out, KO.refl _ _⟩
  | false =>
    have hg1 := blk_alloc HG.out (.cells #[.string ⟨#[]⟩, .int .i64 0] 50)
    have a0 := blk_cell hg1 0
    have a1 := blk_cell hg1 1
    have a2 := blk_cell hg1 2
    simp at a0 a1 a2
    have HG1 := Aside0.mk hg1
    have HB1 := Aside0.mk (below_alloc (Below.refl w.heap.size w) (.cells #[.string ⟨#[]⟩, .int .i64 0] 50))
    have HN1 := Aside0.mk (blk_new w (.cells #[.string ⟨#[]⟩, .int .i64 0] 50))
    have e := H.out
    unfold l09PutF at e
    rw [if_neg (show ¬ (false = true) by decide)] at e
    obtain ⟨q, hq, e⟩ := Option.bind_eq_some_iff.mp e
    have HC := Aside0.mk (HPB.out s c v n q hq)
    have HE := Aside0.mk e
    clear hg1 e hq H HPB
    go_wp2_with fail
    refine (HC.out _).mono ?_
    rintro e w2 ⟨rfl, hd⟩
    have HG2 := Aside0.mk (blk_below HG1.out hd)
    have HN2 := Aside0.mk (blk_below HN1.out hd)
    have HB2 := Aside0.mk (below_step HB1.out hd)
    clear h0 h1 h2 z0 z1 z2 a0 a1 a2 HG HG1 HN1 HB1 hd HC
    have h0 := blk_cell HG2.out 0
    have h1 := blk_cell HG2.out 1
    have h2 := blk_cell HG2.out 2
    have z0 := blk_frozen HG2.out 0
    have z1 := blk_frozen HG2.out 1
    have z2 := blk_frozen HG2.out 2
    have n0 := blk_cell HN2.out 0
    have n1 := blk_cell HN2.out 1
    have m0 := blk_frozen HN2.out 0
    have m1 := blk_frozen HN2.out 1
    simp at h0 h1 h2 n0 n1
    have hne : ¬ w.heap.size = g := by have := HLT.out; omega
    have hne2 : ¬ g = w.heap.size := by have := HLT.out; omega
    obtain ⟨q1, q2, q3⟩ := q
    unfold outV
    dsimp only
    cases q3 with
    | true =>
      have e := HE.out
      rw [if_pos rfl] at e
      obtain rfl : (q1, q2, false) = r := by injection e
      clear e HE
      go_wp2
      go_end0
      refine ⟨rfl, ?_, ((((((KO.of_below HB2.out).set (.inr (Nat.le_refl _)) _).set (.inr (Nat.le_refl _)) _).set (.inl rfl) _).set (.inl rfl) _).set (.inl rfl) _)⟩
      refine blk_put (cs := #[.string q1, .int .i64 c, .bool false]) ?_ 1 _ rfl
      refine blk_put (cs := #[.string s, .int .i64 c, .bool false]) ?_ 0 _ rfl
      refine blk_put (cs := #[.string s, .int .i64 c, .bool false]) ?_ 2 _ rfl
      exact blk_far (blk_far HG2.out hne2 _) hne2 _
    | false =>
      have e := HE.out
      rw [if_neg (show ¬ (false = true) by decide)] at e
      obtain rfl : (s, c, true) = r := by injection e
      clear e HE
      go_wp2
      go_end0
      refine ⟨rfl, ?_, ((((KO.of_below HB2.out).set (.inr (Nat.le_refl _)) _).set (.inr (Nat.le_refl _)) _).set (.inl rfl) _)⟩
      refine blk_put (cs := #[.string s, .int .i64 c, .bool false]) ?_ 2 _ rfl
      exact blk_far (blk_far HG2.out hne2 _) hne2 _
theorem results_c1 {P : Program} {fn : Func} {p : Tmp} {ty : TypeId} (h : fn.results = #[.cell p ty]) (tmps : Array Value) (w : World) (g : Nat) (t : TypeId) (cs : Array Value) (fr : Nat × Nat) (d : TypeDesc)
    (hp : tmps.getD p undef = .pointer (some ⟨g, 0, none⟩)) (hg : w.heap[g]? = some (.cells cs t fr))
    (hu : P.underlying ty = some d) (hd : (match d with | .struct _ | .array _ _ => true | _ => false) = true) (hi : (P.info? ty).map (·.size) = some cs.size) :
    (results fn tmps).run P w = .ok (.agg cs) w := by
  have hp' : tmps[p]?.getD undef = .pointer (some ⟨g, 0, none⟩) := by simpa using hp
  simp [results, h, hp', asAddr, run_loadVar_row w g t ty cs fr d hg hu hd hi]
theorem to_any {p : World → Prop} (P : World → Prop) {W : World} (h : P W) (k : ∀ W', P W' → p W') : p W := k W h
def l09HeadF (pb : ByteArray → Int → Int → Int → Option (ByteArray × Int × Bool)) (s : ByteArray) (c kind : Int) (last b : Bool) : Option (ByteArray × Int × Bool) := (l09PutF pb (s, c, !b) (if last = true then 1 else 0) 1).bind fun st => l09PutF pb st kind 2
def outV9 (r : ByteArray × Int × Bool) : Value := .agg #[.string r.1, .int .i64 r.2.1, .bool r.2.2]
set_option maxHeartbeats 8000000 in
set_option maxRecDepth 100000 in
theorem l09Head_calls (pb : ByteArray → Int → Int → Int → Option (ByteArray × Int × Bool)) (hpb : PutAt pb) (s : ByteArray) (c kind : Int) (last b : Bool) (w : World)
    (hok : ∀ w, Calls Try.prog 45 #[.agg #[.string s, .int .i64 c]] w fun e w' => e = .returned (.bool b) ∧ Below w.heap.size w w') (r : ByteArray × Int × Bool) (h : l09HeadF pb s c kind last b = some r) :
    Calls Try.prog 84 #[.agg #[.string s, .int .i64 c], .int .i64 kind, .bool last] w fun e w' => e = .returned (outV9 r) ∧ Below w.heap.size w w' := by
  have HOK := Aside0.mk hok
  have HPB := Aside0.mk hpb
  have H := Aside0.mk h
  clear hok hpb h
  go_enter Try.func84, Try.ntmps84
  go_upto_region 1 with (fail)
  obtain ⟨W1, hW1⟩ : ∃ W1, W1 = (w.alloc (.cells #[.string s, .int .i64 c] 50)).alloc (.cells #[.string ⟨#[]⟩, .int .i64 0, .bool false] 103) := ⟨_, rfl⟩
  have hbk : W1.heap[w.heap.size]? = some (.cells #[.string s, .int .i64 c] 50 (0, 0)) := by rw [hW1]; exact blk_alloc (blk_new w _) _
  have hrs : W1.heap[w.heap.size + 1]? = some (.cells #[.string ⟨#[]⟩, .int .i64 0, .bool false] 103 (0, 0)) := by rw [hW1]; have h1 := blk_new (w.alloc (.cells #[.string s, .int .i64 c] 50)) (.cells #[.string ⟨#[]⟩, .int .i64 0, .bool false] 103); simpa using h1
  have hB1 : Below w.heap.size w W1 := by rw [hW1]; exact below_alloc (below_alloc (Below.refl _ _) _) _
  rw [← hW1]
  have hc0 := blk_cell hbk 0
  have hc1 := blk_cell hbk 1
  have hd0 := blk_cell (blk_alloc hbk (.cells #[.string ⟨#[]⟩, .int .i64 0, .bool false] 103)) 0
  have hd1 := blk_cell (blk_alloc hbk (.cells #[.string ⟨#[]⟩, .int .i64 0, .bool false] 103)) 1
  simp at hc0 hc1 hd0 hd1
  have HBK := Aside0.mk hbk
  have HRS := Aside0.mk hrs
  have HB1 := Aside0.mk hB1
  clear hW1 hbk hrs hB1
  have HSZ := Aside0.mk (blk_lt HRS.out)
  go_cut [7] (fun s7 wx => ∃ g : Nat, s7 = .pointer (some ⟨g, 0, none⟩) ∧ Aside0 (wx.heap[g]? = some (.cells #[.string s, .int .i64 c, .bool !b] 103 (0, 0))) ∧ Aside0 (wx.heap[w.heap.size + 1]? = some (.cells #[.string ⟨#[]⟩, .int .i64 0, .bool false] 103 (0, 0))) ∧ Aside0 (Below w.heap.size w wx) ∧ Aside0 (W1.heap.size ≤ g))
  case first =>
    go_region_with (go_at_call 45; refine (HOK.out _).mono ?_; rintro e w2 ⟨rfl, hb⟩; have hx : w2.heap[w.heap.size]? = some (.cells #[.string s, .int .i64 c] 50 (0, 0)) := blk_below (by first | exact blk_drew HBK.out | exact blk_drew (blk_alloc HBK.out _) | exact blk_alloc (blk_drew HBK.out) _) hb; have hx0 := blk_cell hx 0; have hx1 := blk_cell hx 1; have hy := blk_alloc hx (.cells #[.string ⟨#[]⟩, .int .i64 0, .bool false] 103); have hy0 := blk_cell hy 0; have hy1 := blk_cell hy 1; simp at hx0 hx1 hy0 hy1; (first | (have ho : w2.heap[W1.heap.size]? = some (.cells #[.string ⟨#[]⟩, .int .i64 0, .bool false] 103 (0, 0)) := blk_below (by first | exact blk_drew (blk_new _ _) | exact blk_new W1.drew _) hb; have ho0 := blk_cell ho 0; have ho1 := blk_cell ho 1; have ho2 := blk_cell ho 2; have hf0 := blk_frozen ho 0; have hf1 := blk_frozen ho 1; have hf2 := blk_frozen ho 2; simp at ho0 ho1 ho2) | skip))
    all_goals (
      have hbA : Below w.heap.size w w2 := (below_step (by first | exact below_drew HB1.out | exact below_drew (below_alloc HB1.out _) | exact below_alloc (below_drew HB1.out) _) hb)
      have hrA : w2.heap[w.heap.size + 1]? = some (.cells #[.string ⟨#[]⟩, .int .i64 0, .bool false] 103 (0, 0)) := blk_below (by first | exact blk_drew HRS.out | exact blk_drew (blk_alloc HRS.out _) | exact blk_alloc (blk_drew HRS.out) _) hb
      first
        | (refine to_any (p := fun W => Exit.then _ _ _ _ W) (fun W => W.heap[W1.heap.size]? = some (.cells #[.string s, .int .i64 c, .bool !b] 103 (0, 0)) ∧ W.heap[w.heap.size + 1]? = some (.cells #[.string ⟨#[]⟩, .int .i64 0, .bool false] 103 (0, 0)) ∧ Below w.heap.size w W ∧ W1.heap.size ≤ W1.heap.size) ?hB ?hK
           case hB =>
             refine ⟨?_, blk_far (blk_far (blk_far hrA ?_ _) ?_ _) ?_ _, below_set (below_set (below_set hbA ?_) ?_) ?_, Nat.le_refl _⟩
             · refine blk_put (cs := #[.string s, .int .i64 c, .bool false]) ?_ 2 _ rfl
               refine blk_put (cs := #[.string s, .int .i64 0, .bool false]) ?_ 1 _ rfl
               refine blk_put (cs := #[.string ⟨#[]⟩, .int .i64 0, .bool false]) ?_ 0 _ rfl
               exact ho
             all_goals (have := HSZ.out; first | omega | (show w.heap.size + 1 ≠ W1.heap.size; omega) | (show W1.heap.size ≠ w.heap.size + 1; omega) | (show w.heap.size ≤ W1.heap.size; omega))
           case hK => exact fun W' hW' => by (go_wp2_with fail; go_meet; exact ⟨_, rfl, ⟨hW'.1⟩, ⟨hW'.2.1⟩, ⟨hW'.2.2.1⟩, ⟨hW'.2.2.2⟩⟩))
        | (refine to_any (p := fun W => Exit.then _ _ _ _ W) (fun W => W.heap[w2.heap.size]? = some (.cells #[.string s, .int .i64 c, .bool !b] 103 (0, 0)) ∧ W.heap[w.heap.size + 1]? = some (.cells #[.string ⟨#[]⟩, .int .i64 0, .bool false] 103 (0, 0)) ∧ Below w.heap.size w W ∧ W1.heap.size ≤ w2.heap.size) ⟨blk_new _ _, blk_alloc hrA _, below_alloc hbA _, hb.size⟩ ?hK
           case hK => exact fun W' hW' => by (go_wp2_with fail; go_meet; exact ⟨_, rfl, ⟨hW'.1⟩, ⟨hW'.2.1⟩, ⟨hW'.2.2.1⟩, ⟨hW'.2.2.2⟩⟩)))
  case rest =>
    clear hc0 hc1 hd0 hd1
    obtain ⟨g, rfl, HG, HR, HB, HGE⟩ := hcut
    have h := H.out
    unfold l09HeadF at h
    obtain ⟨q, hq, hr⟩ := Option.bind_eq_some_iff.mp h
    have HQ := Aside0.mk hq
    have HRR := Aside0.mk hr
    clear h hq hr H HBK HRS HB1
    cases last with
    | true =>
      have HQ := Aside0.mk (show l09PutF pb (s, c, !b) 1 1 = some q from HQ.out)
      go_wp2_with fail
      refine (l09Put_calls pb HPB.out _ g s c (!b) 1 1 HG.out q HQ.out).mono ?_
      rintro e w3 ⟨rfl, hg3, hk3⟩
      have HG3 := Aside0.mk hg3
      have HR3 := Aside0.mk (KO.blk hk3 HR.out (by have := HGE.out; have := HSZ.out; have := blk_lt HR.out; omega))
      have HB3 := Aside0.mk (HB.out.trans (KO.below hk3 (B := w.heap.size) HB.out.size (fun i hi => by have := HGE.out; have := HSZ.out; have := HB.out.size; omega)))
      clear hg3 hk3 HG HR HB HQ
      go_wp2_with fail
      refine (l09Put_calls pb HPB.out _ g q.1 q.2.1 q.2.2 kind 2 HG3.out r HRR.out).mono ?_
      rintro e w4 ⟨rfl, hg4, hk4⟩
      have HR4 := Aside0.mk (KO.blk hk4 HR3.out (by have := HGE.out; have := HSZ.out; have := blk_lt HR3.out; omega))
      have HB4 := Aside0.mk (HB3.out.trans (KO.below hk4 (B := w.heap.size) HB3.out.size (fun i hi => by have := HGE.out; have := HSZ.out; have := HB3.out.size; omega)))
      have h0 := blk_cell hg4 0
      have h1 := blk_cell hg4 1
      have h2 := blk_cell hg4 2
      have n0 := blk_cell HR4.out 0
      have n1 := blk_cell HR4.out 1
      have n2 := blk_cell HR4.out 2
      have z0 := blk_frozen HR4.out 0
      have z1 := blk_frozen HR4.out 1
      have z2 := blk_frozen HR4.out 2
      simp at h0 h1 h2 n0 n1 n2
      clear hg4 hk4 HG3 HR3 HB3 HRR HPB
      go_wp2
      refine bodyPost_ret (results_c1 rfl _ _ (w.heap.size + 1) 103 #[.string r.1, .int .i64 r.2.1, .bool r.2.2] (0, 0) _ rfl (by refine blk_put (cs := #[.string r.1, .int .i64 r.2.1, .bool false]) ?_ 2 _ rfl; refine blk_put (cs := #[.string r.1, .int .i64 0, .bool false]) ?_ 1 _ rfl; refine blk_put (cs := #[.string (⟨#[]⟩ : ByteArray), .int .i64 0, .bool false]) ?_ 0 _ rfl; exact HR4.out) Try.underlying103 rfl (by kernel_rfl)) rfl ?_
      exact ⟨rfl, below_set (below_set (below_set HB4.out (Nat.le_succ _)) (Nat.le_succ _)) (Nat.le_succ _)⟩
    | false =>
      have HQ := Aside0.mk (show l09PutF pb (s, c, !b) 0 1 = some q from HQ.out)
      go_wp2_with fail
      refine (l09Put_calls pb HPB.out _ g s c (!b) 0 1 HG.out q HQ.out).mono ?_
      rintro e w3 ⟨rfl, hg3, hk3⟩
      have HG3 := Aside0.mk hg3
      have HR3 := Aside0.mk (KO.blk hk3 HR.out (by have := HGE.out; have := HSZ.out; have := blk_lt HR.out; omega))
      have HB3 := Aside0.mk (HB.out.trans (KO.below hk3 (B := w.heap.size) HB.out.size (fun i hi => by have := HGE.out; have := HSZ.out; have := HB.out.size; omega)))
      clear hg3 hk3 HG HR HB HQ
      go_wp2_with fail
      refine (l09Put_calls pb HPB.out _ g q.1 q.2.1 q.2.2 kind 2 HG3.out r HRR.out).mono ?_
      rintro e w4 ⟨rfl, hg4, hk4⟩
      have HR4 := Aside0.mk (KO.blk hk4 HR3.out (by have := HGE.out; have := HSZ.out; have := blk_lt HR3.out; omega))
      have HB4 := Aside0.mk (HB3.out.trans (KO.below hk4 (B := w.heap.size) HB3.out.size (fun i hi => by have := HGE.out; have := HSZ.out; have := HB3.out.size; omega)))
      have h0 := blk_cell hg4 0
      have h1 := blk_cell hg4 1
      have h2 := blk_cell hg4 2
      have n0 := blk_cell HR4.out 0
      have n1 := blk_cell HR4.out 1
      have n2 := blk_cell HR4.out 2
      have z0 := blk_frozen HR4.out 0
      have z1 := blk_frozen HR4.out 1
      have z2 := blk_frozen HR4.out 2
      simp at h0 h1 h2 n0 n1 n2
      clear hg4 hk4 HG3 HR3 HB3 HRR HPB
      go_wp2
      refine bodyPost_ret (results_c1 rfl _ _ (w.heap.size + 1) 103 #[.string r.1, .int .i64 r.2.1, .bool r.2.2] (0, 0) _ rfl (by refine blk_put (cs := #[.string r.1, .int .i64 r.2.1, .bool false]) ?_ 2 _ rfl; refine blk_put (cs := #[.string r.1, .int .i64 0, .bool false]) ?_ 1 _ rfl; refine blk_put (cs := #[.string (⟨#[]⟩ : ByteArray), .int .i64 0, .bool false]) ?_ 0 _ rfl; exact HR4.out) Try.underlying103 rfl (by kernel_rfl)) rfl ?_
      exact ⟨rfl, below_set (below_set (below_set HB4.out (Nat.le_succ _)) (Nat.le_succ _)) (Nat.le_succ _)⟩
/-- What the reference's StoredBlock tells. -/
def specStoredF (pb : ByteArray → Int → Int → Int → Option (ByteArray × Int × Bool)) (fb : ByteArray → Int → Option (ByteArray × Int × Bool)) (s : ByteArray) (c : Int) (t : ByteArray) (last b : Bool) : Option (ByteArray × Int × Bool) :=
  if (t.size : Int) > 2600 then some (⟨#[]⟩, 0, false) else
  (l09HeadF pb s c 0 last b).bind fun q1 => (if q1.2.2 = true then some q1 else (fb q1.1 q1.2.1).bind fun x => some (x.1, x.2.1, false)).bind fun q2 =>
  (l09PutF pb q2 (t.size : Int) 16).bind fun q3 => (l09PutF pb q3 (65535 - (t.size : Int)) 16).bind fun q4 =>
  if q4.2.2 = true then some (⟨#[]⟩, 0, false) else if q4.1.size > 1000000 then none else if (q4.1.size : Int) + (t.size : Int) > 12000 then some (⟨#[]⟩, 0, false) else if 0 ≤ q4.2.1 ∧ q4.2.1 ≤ 1000000 then some (q4.1 ++ t, q4.2.1 + 8 * (t.size : Int), true) else none
def FillAt (fb : ByteArray → Int → Option (ByteArray × Int × Bool)) : Prop := ∀ s c r, fb s c = some r → ∀ w, Calls Try.prog 33 #[.agg #[.string s, .int .i64 c]] w fun e w' => e = .returned (outV r) ∧ Below w.heap.size w w'
set_option maxHeartbeats 8000000 in
set_option maxRecDepth 100000 in
theorem specStored_calls (pb : ByteArray → Int → Int → Int → Option (ByteArray × Int × Bool)) (hpb : PutAt pb) (fb : ByteArray → Int → Option (ByteArray × Int × Bool)) (hfb : FillAt fb) (s : ByteArray) (c : Int) (t : ByteArray) (last b : Bool) (w : World)
    (hok : ¬ (t.size : Int) > 2600 → ∀ w, Calls Try.prog 45 #[.agg #[.string s, .int .i64 c]] w fun e w' => e = .returned (.bool b) ∧ Below w.heap.size w w') (r : ByteArray × Int × Bool) (h : specStoredF pb fb s c t last b = some r) :
    Calls Try.prog 50 #[.agg #[.string s, .int .i64 c], .string t, .bool last] w fun e w' => e = .returned (outV r) ∧ Below w.heap.size w w' := by
  unfold specStoredF at h
  unfold outV
  by_cases ht : (t.size : Int) > 2600
  · rw [if_pos ht] at h
    obtain rfl : (⟨#[]⟩, 0, false) = r := by injection h
    have d1 : decide (2600 < (t.size : Int)) = true := decide_eq_true (by omega)
    have d2 : decide (2600 < t.size) = true := decide_eq_true (by omega)
    clear h
    go_enter Try.func50, Try.ntmps50
    go_wp2
    refine bodyPost_ret (results_ct rfl _ _ (w.heap.size + 1) 50 #[.string (⟨#[]⟩ : ByteArray), .int .i64 0] (0, 0) _ rfl (by have h1 := blk_new (w.alloc (.cells #[.string s, .int .i64 c] 50)) (.cells #[.string ⟨#[]⟩, .int .i64 0] 50); simpa using h1) Try.underlying50 rfl (by kernel_rfl)) rfl ?_
    exact ⟨rfl, below_alloc (below_alloc (Below.refl _ _) _) _⟩
  · rw [if_neg ht] at h
    have d1 : decide (2600 < (t.size : Int)) = false := decide_eq_false (by omega)
    have d2 : decide (2600 < t.size) = false := decide_eq_false (by omega)
    have t0 : (0 : Int) ≤ (t.size : Int) := by omega
    have t1 : (t.size : Int) ≤ 2600 := by omega
    obtain ⟨q1, hq1, h⟩ := Option.bind_eq_some_iff.mp h
    obtain ⟨q2, hq2, h⟩ := Option.bind_eq_some_iff.mp h
    have HOK := Aside0.mk (hok ht)
    have HPB := Aside0.mk hpb
    have HFB := Aside0.mk hfb
    have HQ1 := Aside0.mk hq1
    have HQ2 := Aside0.mk hq2
    have H := Aside0.mk h
    clear hok hpb hfb hq1 hq2 h ht
    go_enter Try.func50, Try.ntmps50
    go_wp2_with fail
    obtain ⟨W1, hW1⟩ : ∃ W1, W1 = (w.alloc (.cells #[.string s, .int .i64 c] 50)).alloc (.cells #[.string ⟨#[]⟩, .int .i64 0] 50) := ⟨_, rfl⟩
    have hrs : W1.heap[w.heap.size + 1]? = some (.cells #[.string ⟨#[]⟩, .int .i64 0] 50 (0, 0)) := by rw [hW1]; have h1 := blk_new (w.alloc (.cells #[.string s, .int .i64 c] 50)) (.cells #[.string ⟨#[]⟩, .int .i64 0] 50); simpa using h1
    have hB1 : Below w.heap.size w W1 := by rw [hW1]; exact below_alloc (below_alloc (Below.refl _ _) _) _
    rw [← hW1]
    refine (l09Head_calls pb HPB.out s c 0 last b W1 HOK.out q1 HQ1.out).mono ?_
    rintro e w2 ⟨rfl, hb⟩
    unfold outV9
    obtain ⟨q11, q12, q13⟩ := q1
    dsimp only at HQ2 ⊢
    obtain ⟨W3, hW3⟩ : ∃ W3, W3 = w2.alloc (.cells #[.string q11, .int .i64 q12, .bool q13] 103) := ⟨_, rfl⟩
    have HGz := Aside0.mk (show W3.heap[w2.heap.size]? = some (.cells #[.string q11, .int .i64 q12, .bool q13] 103 (0, 0)) by rw [hW3]; exact blk_new _ _)
    have HRz := Aside0.mk (show W3.heap[w.heap.size + 1]? = some (.cells #[.string ⟨#[]⟩, .int .i64 0] 50 (0, 0)) by rw [hW3]; exact blk_alloc (blk_below hrs hb) _)
    have HBz := Aside0.mk (show Below w.heap.size w W3 by rw [hW3]; exact below_alloc (below_step hB1 hb) _)
    have HGE := Aside0.mk (show w.heap.size + 1 < w2.heap.size by have := blk_lt hrs; have := hb.size; omega)
    clear hrs hB1 hb hW1 HOK HQ1
    go_upto_region 4 with (fail)
    rw [← hW3]
    clear hW3
    generalize w2.heap.size = g at HGz HGE ⊢
    have HG := HGz
    have HR := HRz
    have HB := HBz
    clear HGz HRz HBz
    have h0 := blk_cell HG.out 0
    have h1 := blk_cell HG.out 1
    have h2 := blk_cell HG.out 2
    have z0 := blk_frozen HG.out 0
    have z1 := blk_frozen HG.out 1
    have z2 := blk_frozen HG.out 2
    have n0 := blk_cell HR.out 0
    have n1 := blk_cell HR.out 1
    have f0 := blk_frozen HR.out 0
    have f1 := blk_frozen HR.out 1
    simp at h0 h1 h2 n0 n1
    cases q13 with
    | true =>
      have e := HQ2.out
      rw [if_pos rfl] at e
      obtain rfl : (q11, q12, true) = q2 := by injection e
      clear e HQ2
      obtain ⟨q3, hq3, h⟩ := Option.bind_eq_some_iff.mp H.out
      obtain ⟨q4, hq4, h⟩ := Option.bind_eq_some_iff.mp h
      have HQ3 := Aside0.mk hq3
      have HQ4 := Aside0.mk hq4
      have HF := Aside0.mk h
      clear h hq3 hq4 H
      go_wp2_with fail
      clear h0 h1 h2 z0 z1 z2 n0 n1 f0 f1
      refine (l09Put_calls pb HPB.out _ g q11 q12 true (t.size : Int) 16 HG.out q3 HQ3.out).mono ?_
      rintro e w5 ⟨rfl, hg, hk⟩
      have HR5 := Aside0.mk (KO.blk hk HR.out (by have := HGE.out; have := blk_lt HR.out; omega))
      have HB5 := Aside0.mk (HB.out.trans (KO.below hk (B := w.heap.size) HB.out.size (fun i hi => by have := HGE.out; have := HB.out.size; omega)))
      have HG5 := Aside0.mk hg
      clear hg hk HG HR HB
      have HG := HG5
      have HR := HR5
      have HB := HB5
      clear HG5 HR5 HB5
      go_wp2_with fail
      refine (l09Put_calls pb HPB.out _ g q3.1 q3.2.1 q3.2.2 (65535 - (t.size : Int)) 16 HG.out q4 HQ4.out).mono ?_
      rintro e w6 ⟨rfl, hg, hk⟩
      have HR6 := Aside0.mk (KO.blk hk HR.out (by have := HGE.out; have := blk_lt HR.out; omega))
      have HB6 := Aside0.mk (HB.out.trans (KO.below hk (B := w.heap.size) HB.out.size (fun i hi => by have := HGE.out; have := HB.out.size; omega)))
      have HG6 := Aside0.mk hg
      clear hg hk HG HR HB
      have HG := HG6
      have HR := HR6
      have HB := HB6
      clear HG6 HR6 HB6
      obtain ⟨S, C, bad⟩ := q4
      dsimp only at HG HF
      have h0 := blk_cell HG.out 0
      have h1 := blk_cell HG.out 1
      have h2 := blk_cell HG.out 2
      have z0 := blk_frozen HG.out 0
      have z1 := blk_frozen HG.out 1
      have z2 := blk_frozen HG.out 2
      have n0 := blk_cell HR.out 0
      have n1 := blk_cell HR.out 1
      have f0 := blk_frozen HR.out 0
      have f1 := blk_frozen HR.out 1
      simp at h0 h1 h2 n0 n1
      cases bad with
      | true =>
        have e := HF.out
        rw [if_pos rfl] at e
        obtain rfl : (⟨#[]⟩, 0, false) = r := by injection e
        clear e HF
        go_wp2
        refine bodyPost_ret (results_ct rfl _ _ (w.heap.size + 1) 50 #[.string (⟨#[]⟩ : ByteArray), .int .i64 0] (0, 0) _ rfl (by refine blk_put (cs := #[.string (⟨#[]⟩ : ByteArray), .int .i64 0]) ?_ 1 _ rfl; refine blk_put (cs := #[.string (⟨#[]⟩ : ByteArray), .int .i64 0]) ?_ 0 _ rfl; exact HR.out) Try.underlying50 rfl (by kernel_rfl)) rfl ?_
        exact ⟨rfl, below_set (below_set HB.out (Nat.le_succ _)) (Nat.le_succ _)⟩
      | false =>
        have e := HF.out
        rw [if_neg (show ¬ (false = true) by decide)] at e
        by_cases hsm : S.size > 1000000
        · rw [if_pos hsm] at e
          cases e
        rw [if_neg hsm] at e
        have s0 : (S.size : Int) ≤ 1000000 := by omega
        clear hsm
        by_cases hbig : (S.size : Int) + (t.size : Int) > 12000
        · rw [if_pos hbig] at e
          obtain rfl : (⟨#[]⟩, 0, false) = r := by injection e
          have d1 : decide (12000 < (S.size : Int) + (t.size : Int)) = true := decide_eq_true (by omega)
          clear e HF
          go_wp2
          refine bodyPost_ret (results_ct rfl _ _ (w.heap.size + 1) 50 #[.string (⟨#[]⟩ : ByteArray), .int .i64 0] (0, 0) _ rfl (by refine blk_put (cs := #[.string (⟨#[]⟩ : ByteArray), .int .i64 0]) ?_ 1 _ rfl; refine blk_put (cs := #[.string (⟨#[]⟩ : ByteArray), .int .i64 0]) ?_ 0 _ rfl; exact HR.out) Try.underlying50 rfl (by kernel_rfl)) rfl ?_
          exact ⟨rfl, below_set (below_set HB.out (Nat.le_succ _)) (Nat.le_succ _)⟩
        · rw [if_neg hbig] at e
          by_cases hc : 0 ≤ C ∧ C ≤ 1000000
          · rw [if_pos hc] at e
            obtain rfl : (S ++ t, C + 8 * (t.size : Int), true) = r := by injection e
            have d1 : decide (12000 < (S.size : Int) + (t.size : Int)) = false := decide_eq_false (by omega)
            obtain ⟨c0, c1⟩ := hc
            clear e HF hbig
            go_wp2
            refine bodyPost_ret (results_ct rfl _ _ (w.heap.size + 1) 50 #[.string (S ++ t), .int .i64 (C + 8 * (t.size : Int))] (0, 0) _ rfl (by refine blk_put (cs := #[.string (S ++ t), .int .i64 0]) ?_ 1 _ rfl; refine blk_put (cs := #[.string (⟨#[]⟩ : ByteArray), .int .i64 0]) ?_ 0 _ rfl; exact HR.out) Try.underlying50 rfl (by kernel_rfl)) rfl ?_
            exact ⟨rfl, below_set (below_set HB.out (Nat.le_succ _)) (Nat.le_succ _)⟩
          · rw [if_neg hc] at e
            cases e
    | false =>
      have e := HQ2.out
      rw [if_neg (show ¬ (false = true) by decide)] at e
      obtain ⟨x, hx, e⟩ := Option.bind_eq_some_iff.mp e
      have HX := Aside0.mk (HFB.out q11 q12 x hx)
      obtain ⟨x1, x2, x3⟩ := x
      obtain rfl : (x1, x2, false) = q2 := by injection e
      clear e HQ2 hx
      go_wp2_with fail
      refine (HX.out _).mono ?_
      rintro e w4 ⟨rfl, hb⟩
      unfold outV
      dsimp only
      have HGq := Aside0.mk (blk_below HG.out hb)
      have HRq := Aside0.mk (blk_below HR.out hb)
      have HBq := Aside0.mk (below_step HB.out hb)
      clear h0 h1 h2 z0 z1 z2 n0 n1 f0 f1
      clear hb HG HR HB
      have HG := HGq
      have HR := HRq
      have HB := HBq
      clear HGq HRq HBq
      have h0 := blk_cell HG.out 0
      have h1 := blk_cell HG.out 1
      have h2 := blk_cell HG.out 2
      have z0 := blk_frozen HG.out 0
      have z1 := blk_frozen HG.out 1
      have z2 := blk_frozen HG.out 2
      have n0 := blk_cell HR.out 0
      have n1 := blk_cell HR.out 1
      have f0 := blk_frozen HR.out 0
      have f1 := blk_frozen HR.out 1
      simp at h0 h1 h2 n0 n1
      go_upto_region 6 with (fail)
      obtain ⟨W5, hW5⟩ : ∃ W5, W5 = (w4.setCell ⟨g, 0, none⟩ (.string x1)).setCell ⟨g, 1, none⟩ (.int .i64 x2) := ⟨_, rfl⟩
      rw [← hW5]
      have HGq : Aside0 (W5.heap[g]? = some (.cells #[.string x1, .int .i64 x2, .bool false] 103 (0, 0))) := ⟨by rw [hW5]; refine blk_put (cs := #[.string x1, .int .i64 q12, .bool false]) ?_ 1 _ rfl; refine blk_put (cs := #[.string q11, .int .i64 q12, .bool false]) ?_ 0 _ rfl; exact HG.out⟩
      have HRq : Aside0 (W5.heap[w.heap.size + 1]? = some (.cells #[.string ⟨#[]⟩, .int .i64 0] 50 (0, 0))) := ⟨by rw [hW5]; exact blk_far (blk_far HR.out (by have := HGE.out; show w.heap.size + 1 ≠ g; omega) _) (by have := HGE.out; show w.heap.size + 1 ≠ g; omega) _⟩
      have HBq : Aside0 (Below w.heap.size w W5) := ⟨by rw [hW5]; exact below_set (below_set HB.out (by have := HGE.out; omega)) (by have := HGE.out; omega)⟩
      clear h0 h1 h2 z0 z1 z2 n0 n1 f0 f1
      clear hW5 HG HR HB
      have HG := HGq
      have HR := HRq
      have HB := HBq
      clear HGq HRq HBq
      obtain ⟨q3, hq3, h⟩ := Option.bind_eq_some_iff.mp H.out
      obtain ⟨q4, hq4, h⟩ := Option.bind_eq_some_iff.mp h
      have HQ3 := Aside0.mk hq3
      have HQ4 := Aside0.mk hq4
      have HF := Aside0.mk h
      clear h hq3 hq4 H
      go_wp2_with fail
      refine (l09Put_calls pb HPB.out _ g x1 x2 false (t.size : Int) 16 HG.out q3 HQ3.out).mono ?_
      rintro e w5 ⟨rfl, hg, hk⟩
      have HR5 := Aside0.mk (KO.blk hk HR.out (by have := HGE.out; have := blk_lt HR.out; omega))
      have HB5 := Aside0.mk (HB.out.trans (KO.below hk (B := w.heap.size) HB.out.size (fun i hi => by have := HGE.out; have := HB.out.size; omega)))
      have HG5 := Aside0.mk hg
      clear hg hk HG HR HB
      have HG := HG5
      have HR := HR5
      have HB := HB5
      clear HG5 HR5 HB5
      go_wp2_with fail
      refine (l09Put_calls pb HPB.out _ g q3.1 q3.2.1 q3.2.2 (65535 - (t.size : Int)) 16 HG.out q4 HQ4.out).mono ?_
      rintro e w6 ⟨rfl, hg, hk⟩
      have HR6 := Aside0.mk (KO.blk hk HR.out (by have := HGE.out; have := blk_lt HR.out; omega))
      have HB6 := Aside0.mk (HB.out.trans (KO.below hk (B := w.heap.size) HB.out.size (fun i hi => by have := HGE.out; have := HB.out.size; omega)))
      have HG6 := Aside0.mk hg
      clear hg hk HG HR HB
      have HG := HG6
      have HR := HR6
      have HB := HB6
      clear HG6 HR6 HB6
      obtain ⟨S, C, bad⟩ := q4
      dsimp only at HG HF
      have h0 := blk_cell HG.out 0
      have h1 := blk_cell HG.out 1
      have h2 := blk_cell HG.out 2
      have z0 := blk_frozen HG.out 0
      have z1 := blk_frozen HG.out 1
      have z2 := blk_frozen HG.out 2
      have n0 := blk_cell HR.out 0
      have n1 := blk_cell HR.out 1
      have f0 := blk_frozen HR.out 0
      have f1 := blk_frozen HR.out 1
      simp at h0 h1 h2 n0 n1
      cases bad with
      | true =>
        have e := HF.out
        rw [if_pos rfl] at e
        obtain rfl : (⟨#[]⟩, 0, false) = r := by injection e
        clear e HF
        go_wp2
        refine bodyPost_ret (results_ct rfl _ _ (w.heap.size + 1) 50 #[.string (⟨#[]⟩ : ByteArray), .int .i64 0] (0, 0) _ rfl (by refine blk_put (cs := #[.string (⟨#[]⟩ : ByteArray), .int .i64 0]) ?_ 1 _ rfl; refine blk_put (cs := #[.string (⟨#[]⟩ : ByteArray), .int .i64 0]) ?_ 0 _ rfl; exact HR.out) Try.underlying50 rfl (by kernel_rfl)) rfl ?_
        exact ⟨rfl, below_set (below_set HB.out (Nat.le_succ _)) (Nat.le_succ _)⟩
      | false =>
        have e := HF.out
        rw [if_neg (show ¬ (false = true) by decide)] at e
        by_cases hsm : S.size > 1000000
        · rw [if_pos hsm] at e
          cases e
        rw [if_neg hsm] at e
        have s0 : (S.size : Int) ≤ 1000000 := by omega
        clear hsm
        by_cases hbig : (S.size : Int) + (t.size : Int) > 12000
        · rw [if_pos hbig] at e
          obtain rfl : (⟨#[]⟩, 0, false) = r := by injection e
          have d1 : decide (12000 < (S.size : Int) + (t.size : Int)) = true := decide_eq_true (by omega)
          clear e HF
          go_wp2
          refine bodyPost_ret (results_ct rfl _ _ (w.heap.size + 1) 50 #[.string (⟨#[]⟩ : ByteArray), .int .i64 0] (0, 0) _ rfl (by refine blk_put (cs := #[.string (⟨#[]⟩ : ByteArray), .int .i64 0]) ?_ 1 _ rfl; refine blk_put (cs := #[.string (⟨#[]⟩ : ByteArray), .int .i64 0]) ?_ 0 _ rfl; exact HR.out) Try.underlying50 rfl (by kernel_rfl)) rfl ?_
          exact ⟨rfl, below_set (below_set HB.out (Nat.le_succ _)) (Nat.le_succ _)⟩
        · rw [if_neg hbig] at e
          by_cases hc : 0 ≤ C ∧ C ≤ 1000000
          · rw [if_pos hc] at e
            obtain rfl : (S ++ t, C + 8 * (t.size : Int), true) = r := by injection e
            have d1 : decide (12000 < (S.size : Int) + (t.size : Int)) = false := decide_eq_false (by omega)
            obtain ⟨c0, c1⟩ := hc
            clear e HF hbig
            go_wp2
            refine bodyPost_ret (results_ct rfl _ _ (w.heap.size + 1) 50 #[.string (S ++ t), .int .i64 (C + 8 * (t.size : Int))] (0, 0) _ rfl (by refine blk_put (cs := #[.string (S ++ t), .int .i64 0]) ?_ 1 _ rfl; refine blk_put (cs := #[.string (⟨#[]⟩ : ByteArray), .int .i64 0]) ?_ 0 _ rfl; exact HR.out) Try.underlying50 rfl (by kernel_rfl)) rfl ?_
            exact ⟨rfl, below_set (below_set HB.out (Nat.le_succ _)) (Nat.le_succ _)⟩
          · rw [if_neg hc] at e
            cases e
end Go.Proofs.Ytfmdenifbbhmdaa.MHead
