/- The reference's l09Put and l09Head: what each does, out of what OutOk and PutBits return. Conditions: their contracts. -/
import Derived.Test.YtimomemkbcidnaaMOut
import Derived.Deep.RegionWith
import Derived.Deep.DeepCutAuto
namespace Go.Proofs.Ytimomemkbcidnaa.MHead
open Go.RowKit Go.Proofs.YtimomemkbcidnaaW.PrintWords Go.Proofs.Ytimomemkbcidnaa.MBytes Go.Proofs.Ytimomemkbcidnaa.MWriter Go.Proofs.Ytimomemkbcidnaa.MOut
set_option linter.unusedVariables false
set_option linter.unusedSimpArgs false
/-- What PutBits tells, as the reference's l09Put uses it. -/
def l09PutF (pb : ByteArray → Int → Int → Int → Option (ByteArray × Int × Bool)) (st : ByteArray × Int × Bool) (v n : Int) : Option (ByteArray × Int × Bool) := if st.2.2 = true then some st else (pb st.1 st.2.1 v n).bind fun r => if r.2.2 = true then some (r.1, r.2.1, false) else some (st.1, st.2.1, true)
def PutAt (pb : ByteArray → Int → Int → Int → Option (ByteArray × Int × Bool)) : Prop := ∀ s c v n r, pb s c v n = some r → ∀ w, Calls Try.prog 117 #[.agg #[.string s, .int .i64 c], .int .i64 v, .int .i64 n] w fun e w' => e = .returned (outV r) ∧ Below w.heap.size w w'
set_option maxHeartbeats 1000000 in
set_option maxRecDepth 100000 in
theorem l09Put_calls (pb : ByteArray → Int → Int → Int → Option (ByteArray × Int × Bool)) (hpb : PutAt pb) (w : World) (g : Nat) (s : ByteArray) (c : Int) (bad : Bool) (v n : Int) (hg : w.heap[g]? = some (.cells #[.string s, .int .i64 c, .bool bad] 115 (0, 0))) (r : ByteArray × Int × Bool) (h : l09PutF pb (s, c, bad) v n = some r) :
    Calls Try.prog 109 #[.pointer (some ⟨g, 0, none⟩), .int .i64 v, .int .i64 n, .bool false] w fun e w' => e = .returned (.tuple #[]) ∧ w'.heap[g]? = some (.cells #[.string r.1, .int .i64 r.2.1, .bool r.2.2] 115 (0, 0)) ∧ KO (fun k => k = g ∨ w.heap.size ≤ k) w w' := by
  have HPB := Aside0.mk hpb
  have H := Aside0.mk h
  have HG := Aside0.mk hg
  have h0 := blk_cell hg 0
  have h1 := blk_cell hg 1
  have h2 := blk_cell hg 2
  have z0 := blk_frozen hg 0
  have z1 := blk_frozen hg 1
  have z2 := blk_frozen hg 2
  simp at h0 h1 h2
  have HLT := Aside0.mk (blk_lt hg)
  clear h hg hpb
  go_enter Try.func109, Try.ntmps109
  cases bad with
  | true =>
    have e := H.out
    unfold l09PutF at e
    rw [if_pos rfl] at e
    obtain rfl : (s, c, true) = r := by injection e
    clear e
    go_wp2
    refine bodyPost_ret (results_none rfl _ _ _) rfl ?_
    exact ⟨rfl, HG.out, KO.refl _ _⟩
  | false =>
    have hg1 := blk_alloc HG.out (.cells #[.string ⟨#[]⟩, .int .i64 0] 47)
    have a0 := blk_cell hg1 0
    have a1 := blk_cell hg1 1
    have a2 := blk_cell hg1 2
    simp at a0 a1 a2
    have HG1 := Aside0.mk hg1
    have HB1 := Aside0.mk (below_alloc (Below.refl w.heap.size w) (.cells #[.string ⟨#[]⟩, .int .i64 0] 47))
    have HN1 := Aside0.mk (blk_new w (.cells #[.string ⟨#[]⟩, .int .i64 0] 47))
    have e := H.out
    unfold l09PutF at e
    rw [if_neg (show ¬ (false = true) by decide)] at e
    obtain ⟨q, hq, e⟩ := Option.bind_eq_some_iff.mp e
    have HC := Aside0.mk (HPB.out s c v n q hq)
    have HE := Aside0.mk e
    clear hg1 e hq H HPB
    go_wp2_with fail
    refine (HC.out _).mono ?_
    rintro e w2 ⟨rfl, hd⟩
    have HG2 := Aside0.mk (blk_below HG1.out hd)
    have HN2 := Aside0.mk (blk_below HN1.out hd)
    have HB2 := Aside0.mk (below_step HB1.out hd)
    clear h0 h1 h2 z0 z1 z2 a0 a1 a2 HG HG1 HN1 HB1 hd HC
    have h0 := blk_cell HG2.out 0
    have h1 := blk_cell HG2.out 1
    have h2 := blk_cell HG2.out 2
    have z0 := blk_frozen HG2.out 0
    have z1 := blk_frozen HG2.out 1
    have z2 := blk_frozen HG2.out 2
    have n0 := blk_cell HN2.out 0
    have n1 := blk_cell HN2.out 1
    have m0 := blk_frozen HN2.out 0
    have m1 := blk_frozen HN2.out 1
    simp at h0 h1 h2 n0 n1
    have hne : ¬ w.heap.size = g := by have := HLT.out; omega
    have hne2 : ¬ g = w.heap.size := by have := HLT.out; omega
    obtain ⟨q1, q2, q3⟩ := q
    unfold outV
    dsimp only
    cases q3 with
    | true =>
      have e := HE.out
      rw [if_pos rfl] at e
      obtain rfl : (q1, q2, false) = r := by injection e
      clear e HE
      go_wp2
      go_end0
      refine ⟨rfl, ?_, ((((((KO.of_below HB2.out).set (.inr (Nat.le_refl _)) _).set (.inr (Nat.le_refl _)) _).set (.inl rfl) _).set (.inl rfl) _).set (.inl rfl) _)⟩
      refine blk_put (cs := #[.string q1, .int .i64 c, .bool false]) ?_ 1 _ rfl
      refine blk_put (cs := #[.string s, .int .i64 c, .bool false]) ?_ 0 _ rfl
      refine blk_put (cs := #[.string s, .int .i64 c, .bool false]) ?_ 2 _ rfl
      exact blk_far (blk_far HG2.out hne2 _) hne2 _
    | false =>
      have e := HE.out
      rw [if_neg (show ¬ (false = true) by decide)] at e
      obtain rfl : (s, c, true) = r := by injection e
      clear e HE
      go_wp2
      go_end0
      refine ⟨rfl, ?_, ((((KO.of_below HB2.out).set (.inr (Nat.le_refl _)) _).set (.inr (Nat.le_refl _)) _).set (.inl rfl) _)⟩
      refine blk_put (cs := #[.string s, .int .i64 c, .bool false]) ?_ 2 _ rfl
      exact blk_far (blk_far HG2.out hne2 _) hne2 _
theorem results_c1 {P : Program} {fn : Func} {p : Tmp} {ty : TypeId} (h : fn.results = #[.cell p ty]) (tmps : Array Value) (w : World) (g : Nat) (t : TypeId) (cs : Array Value) (fr : Nat × Nat) (d : TypeDesc)
    (hp : tmps.getD p undef = .pointer (some ⟨g, 0, none⟩)) (hg : w.heap[g]? = some (.cells cs t fr))
    (hu : P.underlying ty = some d) (hd : (match d with | .struct _ | .array _ _ => true | _ => false) = true) (hi : (P.info? ty).map (·.size) = some cs.size) :
    (results fn tmps).run P w = .ok (.agg cs) w := by
  have hp' : tmps[p]?.getD undef = .pointer (some ⟨g, 0, none⟩) := by simpa using hp
  simp [results, h, hp', asAddr, run_loadVar_row w g t ty cs fr d hg hu hd hi]
theorem to_any {p : World → Prop} (P : World → Prop) {W : World} (h : P W) (k : ∀ W', P W' → p W') : p W := k W h
def l09HeadF (pb : ByteArray → Int → Int → Int → Option (ByteArray × Int × Bool)) (s : ByteArray) (c kind : Int) (last b : Bool) : Option (ByteArray × Int × Bool) := (l09PutF pb (s, c, !b) (if last = true then 1 else 0) 1).bind fun st => l09PutF pb st kind 2
def outV9 (r : ByteArray × Int × Bool) : Value := .agg #[.string r.1, .int .i64 r.2.1, .bool r.2.2]
set_option maxHeartbeats 8000000 in
set_option maxRecDepth 100000 in
theorem l09Head_calls (pb : ByteArray → Int → Int → Int → Option (ByteArray × Int × Bool)) (hpb : PutAt pb) (s : ByteArray) (c kind : Int) (last b : Bool) (w : World)
    (hok : ∀ w, Calls Try.prog 59 #[.agg #[.string s, .int .i64 c]] w fun e w' => e = .returned (.bool b) ∧ Below w.heap.size w w') (r : ByteArray × Int × Bool) (h : l09HeadF pb s c kind last b = some r) :
    Calls Try.prog 86 #[.agg #[.string s, .int .i64 c], .int .i64 kind, .bool last] w fun e w' => e = .returned (outV9 r) ∧ Below w.heap.size w w' := by
  have HOK := Aside0.mk hok
  have HPB := Aside0.mk hpb
  have H := Aside0.mk h
  clear hok hpb h
  go_enter Try.func86, Try.ntmps86
  go_upto_region 1 with (fail)
  obtain ⟨W1, hW1⟩ : ∃ W1, W1 = (w.alloc (.cells #[.string s, .int .i64 c] 47)).alloc (.cells #[.string ⟨#[]⟩, .int .i64 0, .bool false] 115) := ⟨_, rfl⟩
  have hbk : W1.heap[w.heap.size]? = some (.cells #[.string s, .int .i64 c] 47 (0, 0)) := by rw [hW1]; exact blk_alloc (blk_new w _) _
  have hrs : W1.heap[w.heap.size + 1]? = some (.cells #[.string ⟨#[]⟩, .int .i64 0, .bool false] 115 (0, 0)) := by rw [hW1]; have h1 := blk_new (w.alloc (.cells #[.string s, .int .i64 c] 47)) (.cells #[.string ⟨#[]⟩, .int .i64 0, .bool false] 115); simpa using h1
  have hB1 : Below w.heap.size w W1 := by rw [hW1]; exact below_alloc (below_alloc (Below.refl _ _) _) _
  rw [← hW1]
  have hc0 := blk_cell hbk 0
  have hc1 := blk_cell hbk 1
  have hd0 := blk_cell (blk_alloc hbk (.cells #[.string ⟨#[]⟩, .int .i64 0, .bool false] 115)) 0
  have hd1 := blk_cell (blk_alloc hbk (.cells #[.string ⟨#[]⟩, .int .i64 0, .bool false] 115)) 1
  simp at hc0 hc1 hd0 hd1
  have HBK := Aside0.mk hbk
  have HRS := Aside0.mk hrs
  have HB1 := Aside0.mk hB1
  clear hW1 hbk hrs hB1
  have HSZ := Aside0.mk (blk_lt HRS.out)
  go_cut [7] (fun s7 wx => ∃ g : Nat, s7 = .pointer (some ⟨g, 0, none⟩) ∧ Aside0 (wx.heap[g]? = some (.cells #[.string s, .int .i64 c, .bool !b] 115 (0, 0))) ∧ Aside0 (wx.heap[w.heap.size + 1]? = some (.cells #[.string ⟨#[]⟩, .int .i64 0, .bool false] 115 (0, 0))) ∧ Aside0 (Below w.heap.size w wx) ∧ Aside0 (W1.heap.size ≤ g))
  case first =>
    go_region_with (go_at_call 59; refine (HOK.out _).mono ?_; rintro e w2 ⟨rfl, hb⟩; have hx : w2.heap[w.heap.size]? = some (.cells #[.string s, .int .i64 c] 47 (0, 0)) := blk_below (by first | exact blk_drew HBK.out | exact blk_drew (blk_alloc HBK.out _) | exact blk_alloc (blk_drew HBK.out) _) hb; have hx0 := blk_cell hx 0; have hx1 := blk_cell hx 1; have hy := blk_alloc hx (.cells #[.string ⟨#[]⟩, .int .i64 0, .bool false] 115); have hy0 := blk_cell hy 0; have hy1 := blk_cell hy 1; simp at hx0 hx1 hy0 hy1; (first | (have ho : w2.heap[W1.heap.size]? = some (.cells #[.string ⟨#[]⟩, .int .i64 0, .bool false] 115 (0, 0)) := blk_below (by first | exact blk_drew (blk_new _ _) | exact blk_new W1.drew _) hb; have ho0 := blk_cell ho 0; have ho1 := blk_cell ho 1; have ho2 := blk_cell ho 2; have hf0 := blk_frozen ho 0; have hf1 := blk_frozen ho 1; have hf2 := blk_frozen ho 2; simp at ho0 ho1 ho2) | skip))
    all_goals (
      have hbA : Below w.heap.size w w2 := (below_step (by first | exact below_drew HB1.out | exact below_drew (below_alloc HB1.out _) | exact below_alloc (below_drew HB1.out) _) hb)
      have hrA : w2.heap[w.heap.size + 1]? = some (.cells #[.string ⟨#[]⟩, .int .i64 0, .bool false] 115 (0, 0)) := blk_below (by first | exact blk_drew HRS.out | exact blk_drew (blk_alloc HRS.out _) | exact blk_alloc (blk_drew HRS.out) _) hb
      first
        | (refine to_any (p := fun W => Exit.then _ _ _ _ W) (fun W => W.heap[W1.heap.size]? = some (.cells #[.string s, .int .i64 c, .bool !b] 115 (0, 0)) ∧ W.heap[w.heap.size + 1]? = some (.cells #[.string ⟨#[]⟩, .int .i64 0, .bool false] 115 (0, 0)) ∧ Below w.heap.size w W ∧ W1.heap.size ≤ W1.heap.size) ?hB ?hK
           case hB =>
             refine ⟨?_, blk_far (blk_far (blk_far hrA ?_ _) ?_ _) ?_ _, below_set (below_set (below_set hbA ?_) ?_) ?_, Nat.le_refl _⟩
             · refine blk_put (cs := #[.string s, .int .i64 c, .bool false]) ?_ 2 _ rfl
               refine blk_put (cs := #[.string s, .int .i64 0, .bool false]) ?_ 1 _ rfl
               refine blk_put (cs := #[.string ⟨#[]⟩, .int .i64 0, .bool false]) ?_ 0 _ rfl
               exact ho
             all_goals (have := HSZ.out; first | omega | (show w.heap.size + 1 ≠ W1.heap.size; omega) | (show W1.heap.size ≠ w.heap.size + 1; omega) | (show w.heap.size ≤ W1.heap.size; omega))
           case hK => exact fun W' hW' => by (go_wp2_with fail; go_meet; exact ⟨_, rfl, ⟨hW'.1⟩, ⟨hW'.2.1⟩, ⟨hW'.2.2.1⟩, ⟨hW'.2.2.2⟩⟩))
        | (refine to_any (p := fun W => Exit.then _ _ _ _ W) (fun W => W.heap[w2.heap.size]? = some (.cells #[.string s, .int .i64 c, .bool !b] 115 (0, 0)) ∧ W.heap[w.heap.size + 1]? = some (.cells #[.string ⟨#[]⟩, .int .i64 0, .bool false] 115 (0, 0)) ∧ Below w.heap.size w W ∧ W1.heap.size ≤ w2.heap.size) ⟨blk_new _ _, blk_alloc hrA _, below_alloc hbA _, hb.size⟩ ?hK
           case hK => exact fun W' hW' => by (go_wp2_with fail; go_meet; exact ⟨_, rfl, ⟨hW'.1⟩, ⟨hW'.2.1⟩, ⟨hW'.2.2.1⟩, ⟨hW'.2.2.2⟩⟩)))
  case rest =>
    clear hc0 hc1 hd0 hd1
    obtain ⟨g, rfl, HG, HR, HB, HGE⟩ := hcut
    have h := H.out
    unfold l09HeadF at h
    obtain ⟨q, hq, hr⟩ := Option.bind_eq_some_iff.mp h
    have HQ := Aside0.mk hq
    have HRR := Aside0.mk hr
    clear h hq hr H HBK HRS HB1
    cases last with
    | true =>
      have HQ := Aside0.mk (show l09PutF pb (s, c, !b) 1 1 = some q from HQ.out)
      go_wp2_with fail
      refine (l09Put_calls pb HPB.out _ g s c (!b) 1 1 HG.out q HQ.out).mono ?_
      rintro e w3 ⟨rfl, hg3, hk3⟩
      have HG3 := Aside0.mk hg3
      have HR3 := Aside0.mk (KO.blk hk3 HR.out (by have := HGE.out; have := HSZ.out; have := blk_lt HR.out; omega))
      have HB3 := Aside0.mk (HB.out.trans (KO.below hk3 (B := w.heap.size) HB.out.size (fun i hi => by have := HGE.out; have := HSZ.out; have := HB.out.size; omega)))
      clear hg3 hk3 HG HR HB HQ
      go_wp2_with fail
      refine (l09Put_calls pb HPB.out _ g q.1 q.2.1 q.2.2 kind 2 HG3.out r HRR.out).mono ?_
      rintro e w4 ⟨rfl, hg4, hk4⟩
      have HR4 := Aside0.mk (KO.blk hk4 HR3.out (by have := HGE.out; have := HSZ.out; have := blk_lt HR3.out; omega))
      have HB4 := Aside0.mk (HB3.out.trans (KO.below hk4 (B := w.heap.size) HB3.out.size (fun i hi => by have := HGE.out; have := HSZ.out; have := HB3.out.size; omega)))
      have h0 := blk_cell hg4 0
      have h1 := blk_cell hg4 1
      have h2 := blk_cell hg4 2
      have n0 := blk_cell HR4.out 0
      have n1 := blk_cell HR4.out 1
      have n2 := blk_cell HR4.out 2
      have z0 := blk_frozen HR4.out 0
      have z1 := blk_frozen HR4.out 1
      have z2 := blk_frozen HR4.out 2
      simp at h0 h1 h2 n0 n1 n2
      clear hg4 hk4 HG3 HR3 HB3 HRR HPB
      go_wp2
      refine bodyPost_ret (results_c1 rfl _ _ (w.heap.size + 1) 115 #[.string r.1, .int .i64 r.2.1, .bool r.2.2] (0, 0) _ rfl (by refine blk_put (cs := #[.string r.1, .int .i64 r.2.1, .bool false]) ?_ 2 _ rfl; refine blk_put (cs := #[.string r.1, .int .i64 0, .bool false]) ?_ 1 _ rfl; refine blk_put (cs := #[.string (⟨#[]⟩ : ByteArray), .int .i64 0, .bool false]) ?_ 0 _ rfl; exact HR4.out) Try.underlying115 rfl (by kernel_rfl)) rfl ?_
      exact ⟨rfl, below_set (below_set (below_set HB4.out (Nat.le_succ _)) (Nat.le_succ _)) (Nat.le_succ _)⟩
    | false =>
      have HQ := Aside0.mk (show l09PutF pb (s, c, !b) 0 1 = some q from HQ.out)
      go_wp2_with fail
      refine (l09Put_calls pb HPB.out _ g s c (!b) 0 1 HG.out q HQ.out).mono ?_
      rintro e w3 ⟨rfl, hg3, hk3⟩
      have HG3 := Aside0.mk hg3
      have HR3 := Aside0.mk (KO.blk hk3 HR.out (by have := HGE.out; have := HSZ.out; have := blk_lt HR.out; omega))
      have HB3 := Aside0.mk (HB.out.trans (KO.below hk3 (B := w.heap.size) HB.out.size (fun i hi => by have := HGE.out; have := HSZ.out; have := HB.out.size; omega)))
      clear hg3 hk3 HG HR HB HQ
      go_wp2_with fail
      refine (l09Put_calls pb HPB.out _ g q.1 q.2.1 q.2.2 kind 2 HG3.out r HRR.out).mono ?_
      rintro e w4 ⟨rfl, hg4, hk4⟩
      have HR4 := Aside0.mk (KO.blk hk4 HR3.out (by have := HGE.out; have := HSZ.out; have := blk_lt HR3.out; omega))
      have HB4 := Aside0.mk (HB3.out.trans (KO.below hk4 (B := w.heap.size) HB3.out.size (fun i hi => by have := HGE.out; have := HSZ.out; have := HB3.out.size; omega)))
      have h0 := blk_cell hg4 0
      have h1 := blk_cell hg4 1
      have h2 := blk_cell hg4 2
      have n0 := blk_cell HR4.out 0
      have n1 := blk_cell HR4.out 1
      have n2 := blk_cell HR4.out 2
      have z0 := blk_frozen HR4.out 0
      have z1 := blk_frozen HR4.out 1
      have z2 := blk_frozen HR4.out 2
      simp at h0 h1 h2 n0 n1 n2
      clear hg4 hk4 HG3 HR3 HB3 HRR HPB
      go_wp2
      refine bodyPost_ret (results_c1 rfl _ _ (w.heap.size + 1) 115 #[.string r.1, .int .i64 r.2.1, .bool r.2.2] (0, 0) _ rfl (by refine blk_put (cs := #[.string r.1, .int .i64 r.2.1, .bool false]) ?_ 2 _ rfl; refine blk_put (cs := #[.string r.1, .int .i64 0, .bool false]) ?_ 1 _ rfl; refine blk_put (cs := #[.string (⟨#[]⟩ : ByteArray), .int .i64 0, .bool false]) ?_ 0 _ rfl; exact HR4.out) Try.underlying115 rfl (by kernel_rfl)) rfl ?_
      exact ⟨rfl, below_set (below_set (below_set HB4.out (Nat.le_succ _)) (Nat.le_succ _)) (Nat.le_succ _)⟩
end Go.Proofs.Ytimomemkbcidnaa.MHead
