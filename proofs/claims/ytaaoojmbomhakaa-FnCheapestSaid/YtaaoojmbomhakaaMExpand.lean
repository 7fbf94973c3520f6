/- Both packages' Expand: a list of tokens made a text behind another one. Conditions: how the tokens lie in memory, what TokenOk returns of each; the bounds that 'copyF' names. -/
import Derived.Test.YtaaoojmbomhakaaProg
import Derived.Test.YtaaoojmbomhakaaMBytes
import Derived.Below
import Derived.OwnWalk
import Derived.Tactics
import Derived.WalkKit
import Derived.KernelRfl
import Derived.RowKit3
import Derived.Deep.LoopGhost
import Derived.Laws.Small
import Derived.Test.YtaaoojmbomhakaaMBWalk
namespace Go.Proofs.Ytaaoojmbomhakaa.MExpand
open Go.RowKit Go.Proofs.YtaaoojmbomhakaaW.PrintWords Go.Proofs.Ytaaoojmbomhakaa.MBytes Go.Proofs.Ytaaoojmbomhakaa.MBWalk
set_option linter.unusedVariables false
set_option linter.unusedSimpArgs false
def copyF : Nat → Int → List Int → Option (List Int)
  | 0, _, xs => some xs
  | k + 1, d, xs => if 1 ≤ d ∧ d ≤ xs.length ∧ xs.length ≤ 1000000 then copyF k d (xs ++ [rd xs ((xs.length : Int) - d)]) else none
def tokF (xs : List Int) (t : Int × Int × Int) : Option (List Int) := if t.2.1 = 0 then some (xs ++ [t.1 % 256]) else if 0 ≤ t.2.1 ∧ t.2.1 ≤ 1000000 then copyF t.2.1.toNat t.2.2 xs else none
def expF (n0 : Nat) (L : Nat → Int × Int × Int) (ok : Nat → Bool) : Nat → Nat → List Int → Option (ByteArray × Bool)
  | 0, _, xs => some (strOfNums (xs.drop n0), true)
  | d + 1, i, xs => if ok i = true then (if (L i).2.2 > xs.length then some (⟨#[]⟩, false) else (tokF xs (L i)).bind fun ys => if (ys.length : Int) - n0 > 12000 then some (⟨#[]⟩, false) else expF n0 L ok d (i + 1) ys) else some (⟨#[]⟩, false)
def expandF (s : ByteArray) (n : Nat) (L : Nat → Int × Int × Int) (ok : Nat → Bool) : Option (ByteArray × Bool) := if (s.size : Int) > 12000 then some (⟨#[]⟩, false) else expF s.size L ok n 0 (bytesOf s)
/-- Token i lies in memory so. -/
def TokAt (w : World) (A : Option Addr) (i : Nat) (t : Int × Int × Int) : Prop := ∃ ad, A = some ad ∧ w.cell? (ad.add (i * 3)) = some (.int .i64 t.1) ∧ w.cell? ⟨(ad.add (i * 3)).block, (ad.add (i * 3)).off + 1, none⟩ = some (.int .i64 t.2.1) ∧ w.cell? ⟨(ad.add (i * 3)).block, (ad.add (i * 3)).off + 2, none⟩ = some (.int .i64 t.2.2)
theorem BR_drop {e : TypeId} {w : World} {g n cap : Nat} {xs : List Int} (h : BR e w (.slice (some ⟨g, 0, none⟩) n cap) xs) (i : Nat) (hi : i ≤ xs.length) : ReadsInt w .u8 (some ⟨g, i, none⟩) (xs.length - i) (xs.drop i) := by
  obtain ⟨h1, h2, h3⟩ := h.reads
  refine ⟨by rw [List.length_drop], by omega, fun hp => ⟨_, rfl, fun j hj => ?_⟩⟩
  have h4 := (h.cell (i + j) (by omega)).1
  have e1 : (⟨g, i, none⟩ : Addr).add j = ⟨g, i + j, none⟩ := by unfold Addr.add; simp
  rw [e1, h4]
  unfold rd
  rw [Int.toNat_natCast]
  simp [List.getD_eq_getElem?_getD, List.getElem?_drop]
theorem BR_below {e : TypeId} {w w1 : World} {v : Value} {xs : List Int} (h : BR e w v xs) (hb : Below w.heap.size w w1) : BR e w1 v xs := h.same fun g hg => by
  obtain ⟨g', _, _, _, _, e', hlt⟩ := h.block
  rw [e'] at hg
  injection hg with hg
  subst hg
  exact hb.block g' hlt
/-- A row of the call's own, grown by one: nothing below is turned. -/
theorem grown_below {w w1 w2 : World} {row : Option Nat} (h : Below w.heap.size w w1) (hg : w1.grownBy w2 row) (hr : ∀ k, row = some k → w.heap.size ≤ k) : Below w.heap.size w w2 := h.grown hg h.size (fun k hk => hr k hk)
theorem BR_none {w : World} (A : Option Addr) {i : Nat} {xs : List Int} (hn : xs.length - i = 0) : ReadsInt w .u8 A (xs.length - i) (xs.drop i) := ⟨by rw [List.length_drop], by omega, fun h => by omega⟩
set_option maxHeartbeats 1000000 in
set_option maxRecDepth 100000 in
theorem spec_calls (s : ByteArray) (A : Option Addr) (n cp : Nat) (hcp : n ≤ cp) (hn : n ≤ 2000000) (L : Nat → Int × Int × Int) (ok : Nat → Bool) (w : World) (hr : ∀ i, i < n → TokAt w A i (L i))
    (htk : ∀ i, i < n → ∀ w, Calls Try.prog 41 #[.agg #[.int .i64 (L i).1, .int .i64 (L i).2.1, .int .i64 (L i).2.2]] w fun e w' => e = .returned (.bool (ok i)) ∧ Below w.heap.size w w')
    (r : ByteArray × Bool) (h : expandF s n L ok = some r) :
    Calls Try.prog 23 #[.string s, .slice A n cp] w fun e w' => e = .returned (.tuple #[.string r.1, .bool r.2]) ∧ Below w.heap.size w w' := by
  have HR := Aside0.mk hr
  have HTK := Aside0.mk htk
  clear hr htk
  unfold expandF at h
  by_cases hs : (s.size : Int) > 12000
  · rw [if_pos hs] at h
    obtain rfl : (⟨#[]⟩, false) = r := by injection h
    clear h
    have hd : decide (12000 < (s.size : Int)) = true := decide_eq_true (by omega)
    have hd2 : decide (12000 < s.size) = true := decide_eq_true (by omega)
    go_enter Try.func23, Try.ntmps23
    go_wp2
    go_ret2
    exact ⟨rfl, Below.refl _ _⟩
  · rw [if_neg hs] at h
    have hd : decide (12000 < (s.size : Int)) = false := decide_eq_false (by omega)
    have hd2 : decide (12000 < s.size) = false := decide_eq_false (by omega)
    have H := Aside0.mk h
    have hsz : s.size ≤ 12000 := by omega
    clear h hs
    go_enter Try.func23, Try.ntmps23
    go_wp2_with (first
      | ((with_reducible refine gate_dst (N := 14) rfl ?_)
         refine wpList_bytes rfl 9 31 5 (.tmp 13) rfl Try.underlying9 Try.underlying31 Try.underlying5 s rfl (by unfold maxLen; omega) ?_
         intro g cap w1 hb hg hB
         have HBr := Aside0.mk hb
         have HG := Aside0.mk (show w.heap.size ≤ g by omega)
         have HB := Aside0.mk hB
         clear hb hg hB))
    go_loopg [6, 7] n (fun kq v6 v7 w' => ∃ (i : Nat) (xs : List Int) (g cap : Nat), i + kq = n ∧ v7 = .int .i64 i ∧ v6 = .slice (some ⟨g, 0, none⟩) xs.length cap ∧ Aside0 (expF s.size L ok kq i xs = some r) ∧ Aside0 (xs.length ≤ 24000) ∧ Aside0 (s.size ≤ xs.length) ∧ Aside0 (BR 5 w' (.slice (some ⟨g, 0, none⟩) xs.length cap) xs) ∧ Aside0 (w.heap.size ≤ g) ∧ Aside0 (Below w.heap.size w w'))
    case atStart => exact ⟨0, bytesOf s, g, cap, by omega, rfl, rfl, H, ⟨by rw [bytesOf_length]; omega⟩, ⟨by rw [bytesOf_length]; exact Nat.le_refl _⟩, HBr, HG, HB⟩
    case round =>
      clear H HBr HG HB
      obtain ⟨i, xs, g1, cap1, hi, rfl, rfl, H, HL, HL2, HBr, HG, HB⟩ := hrel
      cases gk with
      | zero =>
        have hlt : decide ((i : Int) < (n : Int)) = false := decide_eq_false (by omega)
        have hlt2 : decide (i < n) = false := decide_eq_false (by omega)
        have h1 := HL2.out
        have h0 : (0 : Int) ≤ (s.size : Int) := by omega
        have h2 : (s.size : Int) ≤ (xs.length : Int) := by omega
        have h3 : xs.length ≤ cap1 := by
          obtain ⟨g', cap', hv, hl, _⟩ := HBr.out.block
          injection hv with _ _ hv3
          omega
        have hxs : (some (strOfNums (xs.drop s.size), true) : Option (ByteArray × Bool)) = some r := H.out
        obtain rfl : (strOfNums (xs.drop s.size), true) = r := by injection hxs
        clear hxs H
        by_cases hcap : cap1 = s.size
        · have hcv : (convert 31 9 (.slice (some ⟨g1, 0, none⟩) (xs.length - s.size) 0)).run Try.prog wr = .ok (.string (strOfNums (xs.drop s.size))) wr := string_of_reads Try.underlying31 Try.underlying5 Try.underlying9 (BR_none _ (by omega))
          go_wp2
          go_ret2
          exact ⟨rfl, HB.out⟩
        · have hcv : (convert 31 9 (.slice (some ⟨g1, s.size, none⟩) (xs.length - s.size) (cap1 - s.size))).run Try.prog wr = .ok (.string (strOfNums (xs.drop s.size))) wr := string_of_reads Try.underlying31 Try.underlying5 Try.underlying9 (BR_drop HBr.out _ h1)
          go_wp2
          go_ret2
          exact ⟨rfl, HB.out⟩
      | succ gk0 =>
        have hlt : decide ((i : Int) < (n : Int)) = true := decide_eq_true (by omega)
        have hlt2 : decide (i < n) = true := decide_eq_true (by omega)
        have i0 : (0 : Int) ≤ (i : Int) := by omega
        have i1 : (i : Int) < (n : Int) := by omega
        obtain ⟨ad, rfl, ht0, ht1, ht2⟩ := HR.out i (by omega)
        replace ht0 := pw_cell_below HB.out ht0
        replace ht1 := pw_cell_below HB.out ht1
        replace ht2 := pw_cell_below HB.out ht2
        have HTi := Aside0.mk (HTK.out i (by omega))
        have hH := H.out
        unfold expF at hH
        generalize L i = t at ht0 ht1 ht2 HTi hH
        obtain ⟨t0, t1, t2⟩ := t
        dsimp only at ht0 ht1 ht2 HTi hH
        have H2 := Aside0.mk hH
        clear hH H
        go_wp2_with fail
        obtain ⟨W1, hW1⟩ : ∃ W1, W1 = wr.alloc (.cells #[.int .i64 t0, .int .i64 t1, .int .i64 t2] 44) := ⟨_, rfl⟩
        have hbk : W1.heap[wr.heap.size]? = some (.cells #[.int .i64 t0, .int .i64 t1, .int .i64 t2] 44 (0, 0)) := by rw [hW1]; exact blk_new wr _
        have hB1 : Below wr.heap.size wr W1 := by rw [hW1]; exact below_alloc (Below.refl _ _) _
        rw [← hW1]
        clear hW1 ht0 ht1 ht2
        refine (HTi.out _).mono ?_
        rintro e w2 ⟨rfl, hd2⟩
        have hbk2 := blk_below hbk hd2
        have hB2 := below_step hB1 hd2
        have HBr2 := Aside0.mk (BR_below HBr.out hB2)
        have HBb := Aside0.mk (below_step HB.out hB2)
        have hk0 : w2.cell? ⟨wr.heap.size, 0, none⟩ = some (.int .i64 t0) := blk_cell hbk2 0
        have hk1 : w2.cell? ⟨wr.heap.size, 1, none⟩ = some (.int .i64 t1) := blk_cell hbk2 1
        have hk2 : w2.cell? ⟨wr.heap.size, 2, none⟩ = some (.int .i64 t2) := blk_cell hbk2 2
        have HBK := Aside0.mk hbk2
        have hbl : g1 < wr.heap.size := by
          obtain ⟨_, _, _, _, _, e1, hlt⟩ := HBr.out.block
          have e2 : some g1 = some _ := e1
          injection e2 with e2
          rw [e2]
          exact hlt
        have HBL := Aside0.mk hbl
        clear HBr HB hbk hbk2 hB1 hB2 hd2 hbl HTi
        cases hok : ok i with
        | false =>
          have hx := H2.out
          rw [hok] at hx
          rw [if_neg (by decide)] at hx
          obtain rfl : (⟨#[]⟩, false) = r := by injection hx
          clear hx
          go_wp2
          go_ret2
          exact ⟨rfl, HBb.out⟩
        | true =>
          have hx := H2.out
          rw [hok, if_pos rfl] at hx
          by_cases hfar : t2 > (xs.length : Int)
          · rw [if_pos hfar] at hx
            obtain rfl : (⟨#[]⟩, false) = r := by injection hx
            have hdf : decide ((xs.length : Int) < t2) = true := decide_eq_true hfar
            clear hx
            go_wp2
            go_ret2
            exact ⟨rfl, HBb.out⟩
          · rw [if_neg hfar] at hx
            have hdf : decide ((xs.length : Int) < t2) = false := decide_eq_false hfar
            obtain ⟨zs, hz, hrest⟩ := Option.bind_eq_some_iff.1 hx
            have HREST := Aside0.mk hrest
            have HZ := Aside0.mk hz
            clear hx hz hrest H2 hfar
            have HPS := Aside0.mk (show w.heap.size ≤ wr.heap.size from Nat.le_trans HG.out (Nat.le_of_lt HBL.out))
            generalize wr.heap.size = tb at HBK HBL HPS hk0 hk1 hk2 ⊢
            by_cases ht1 : t1 = 0
            · have htd : (t1 == 0) = true := by simpa using ht1
              have hz := HZ.out
              unfold tokF at hz
              rw [if_pos ht1] at hz
              have ht2 : 0 ≤ t1 := by omega
              have ht3 : t1 ≤ 1000000 := by omega
              have HT1 := Aside0.mk (show t1.toNat = 0 by omega)
              have HZ2 := Aside0.mk hz
              have HT0 := Aside0.mk ht1
              clear hz ht1
              go_wp2_with (first
                | ((with_reducible refine gate_dst (N := 43) rfl ?_)
                   refine wpList_push rfl (.tmp 38) (.tmp 42) 31 5 rfl (.int .u8 0) Try.underlying31 info_u8 rfl (.slice (some ⟨g1, 0, none⟩) xs.length cap1) xs rfl (HBr2.out.alloc _) ⟨w2.heap.size, 0, none⟩ (t0 % 256) 1 rfl ?_ (by have := HL.out; omega) ?_
                   · simp
                   intro gn0 capn0 w4 hb hgr hat
                   have hbs := HPS.out
                   have htl := blk_lt HBK.out
                   have hgk : ∀ k, (Value.slice (some ⟨g1, 0, none⟩) xs.length cap1).ownBlock = some k → w.heap.size ≤ k := by
                     intro k hk
                     have e1 : g1 = k := by simpa [Value.ownBlock] using hk
                     rw [← e1]
                     exact HG.out
                   have HBA := Aside0.mk (grown_below (below_alloc HBb.out _) hgr hgk)
                   have hgt := HBL.out
                   have hne2 : some tb ≠ (Value.slice (some ⟨g1, 0, none⟩) xs.length cap1).ownBlock := by
                     intro hk
                     have e1 : tb = g1 := by simpa [Value.ownBlock] using hk
                     omega
                   have HBKA := Aside0.mk (blk_grown (blk_alloc HBK.out _) hgr hne2)
                   have HGA : Aside0 (w.heap.size ≤ gn0) := ⟨by
                     rcases hat with h1 | h1
                     · exact hgk _ h1
                     · simp at h1
                       omega⟩
                   have HNA : Aside0 (gn0 ≠ tb) := ⟨by
                     rcases hat with h1 | h1
                     · have e1 : g1 = gn0 := by simpa [Value.ownBlock] using h1
                       omega
                     · simp at h1
                       omega⟩
                   have HCP : Aside0 (copyF t1.toNat t2 (xs ++ [t0 % 256]) = some zs) := ⟨by rw [HT1.out]; exact HZ2.out⟩
                   have HLs : Aside0 (s.size ≤ (xs ++ [t0 % 256]).length) := ⟨by rw [List.length_append]; exact Nat.le_trans HL2.out (Nat.le_add_right _ _)⟩
                   generalize xs ++ [t0 % 256] = ys0 at hb HCP HLs ⊢
                   have HBrA := Aside0.mk hb
                   clear hb hgr hat hbs htl hgk hgt hne2))
              go_loopg [6, 9] t1.toNat (fun kq v6 v9 w' => ∃ (j : Nat) (ys : List Int) (g' cap' : Nat), j + kq = t1.toNat ∧ v9 = .int .i64 j ∧ v6 = .slice (some ⟨g', 0, none⟩) ys.length cap' ∧ Aside0 (copyF kq t2 ys = some zs) ∧ Aside0 (s.size ≤ ys.length) ∧ Aside0 (BR 5 w' (.slice (some ⟨g', 0, none⟩) ys.length cap') ys) ∧ Aside0 (w.heap.size ≤ g') ∧ Aside0 (g' ≠ tb) ∧ Aside0 (Below w.heap.size w w') ∧ Aside0 (w'.heap[tb]? = some (.cells #[.int .i64 t0, .int .i64 t1, .int .i64 t2] 44 (0, 0))))
              case atStart => exact ⟨0, ys0, gn0, capn0, by omega, rfl, rfl, HCP, HLs, HBrA, HGA, HNA, HBA, HBKA⟩
              case round =>
                clear HCP HLs HBrA HGA HNA HBA HBKA hk0 hk1 hk2
                obtain ⟨j, ys, g2, cap2, hj, rfl, rfl, HC, HLy, HBy, HGy, HNy, HBw, HBKy⟩ := hrel
                have hb0 : wr.cell? ⟨tb, 0, none⟩ = some (.int .i64 t0) := blk_cell HBKy.out 0
                have hb1 : wr.cell? ⟨tb, 1, none⟩ = some (.int .i64 t1) := blk_cell HBKy.out 1
                have hb2 : wr.cell? ⟨tb, 2, none⟩ = some (.int .i64 t2) := blk_cell HBKy.out 2
                cases gk with
                | zero =>
                  have hlt3 : decide ((j : Int) < t1) = false := decide_eq_false (by omega)
                  have hys := HC.out
                  rw [copyF] at hys
                  injection hys with hys
                  subst hys
                  have hly := HLy.out
                  have hyM := HBy.out.reads.2.1
                  have hw5 : wrap64 ((ys.length : Int) - (s.size : Int)) = (ys.length : Int) - (s.size : Int) := by unfold wrap64; omega
                  have hr3 := HREST.out
                  by_cases hov : (ys.length : Int) - s.size > 12000
                  · rw [if_pos hov] at hr3
                    obtain rfl : (⟨#[]⟩, false) = r := by injection hr3
                    have hd3 : decide (12000 < (ys.length : Int) - (s.size : Int)) = true := decide_eq_true hov
                    have hly3 : s.size + 12000 < ys.length := by omega
                    clear hr3 HREST
                    have HI1 := Aside0.mk HBw.out
                    go_wp2
                    go_ret2
                    exact ⟨rfl, HI1.out⟩
                  · rw [if_neg hov] at hr3
                    have hd3 : decide (12000 < (ys.length : Int) - (s.size : Int)) = false := decide_eq_false hov
                    have H9 := Aside0.mk hr3
                    have hly3 : ys.length ≤ 24000 := by omega
                    clear hr3 HREST
                    go_wp2
                    go_roundg gk0
                    case measure => omega
                    case rel => exact ⟨i + 1, ys, g2, cap2, by omega, by go_num, rfl, H9, ⟨hly3⟩, HLy, HBy, HGy, HBw⟩
                | succ gk =>
                  have hlt3 : decide ((j : Int) < t1) = true := decide_eq_true (by omega)
                  have hc := HC.out
                  rw [copyF] at hc
                  by_cases hcc : 1 ≤ t2 ∧ t2 ≤ ys.length ∧ ys.length ≤ 1000000
                  · rw [if_pos hcc] at hc
                    obtain ⟨d1, d2, d3⟩ := hcc
                    obtain ⟨q, hq⟩ : ∃ q : Nat, (ys.length : Int) - t2 = q := ⟨((ys.length : Int) - t2).toNat, by omega⟩
                    rw [hq] at hc
                    have hql : q < ys.length := by omega
                    have q0 : (0 : Int) ≤ (q : Int) := by omega
                    have q1 : (q : Int) < (ys.length : Int) := by omega
                    have hq2 : IntKind.i64.wrap ((ys.length : Int) - t2) = (q : Int) := by rw [hq, IntKind.wrap_i64]; omega
                    have hq3 : wrap64 ((ys.length : Int) - t2) = (q : Int) := by rw [hq]; unfold wrap64; omega
                    obtain ⟨hcell, hfz⟩ := HBy.out.cell q hql
                    have HC2 := Aside0.mk hc
                    have HYL := Aside0.mk d3
                    have hq4 : wrap64 (q : Int) = (q : Int) := by unfold wrap64; omega
                    clear hc HC d1 d2 d3 hql hq
                    go_wp2_with (first
                      | ((with_reducible refine gate_dst (N := 60) rfl ?_)
                         refine wpList_push rfl (.tmp 50) (.tmp 59) 31 5 rfl (.int .u8 0) Try.underlying31 info_u8 rfl (.slice (some ⟨g2, 0, none⟩) ys.length cap2) ys rfl (HBy.out.alloc _) ⟨wr.heap.size, 0, none⟩ (rd ys (q : Int)) 1 rfl ?_ (by have := HYL.out; omega) ?_
                         · simp
                         intro gn capn w4 hb hgr hat
                         have hBw := HBw.out
                         have htl : tb < wr.heap.size := blk_lt HBKy.out
                         have hgk : ∀ k, (Value.slice (some ⟨g2, 0, none⟩) ys.length cap2).ownBlock = some k → w.heap.size ≤ k := by
                           intro k hk
                           have e1 : g2 = k := by simpa [Value.ownBlock] using hk
                           rw [← e1]
                           exact HGy.out
                         have HBn := Aside0.mk (grown_below (below_alloc hBw _) hgr hgk)
                         have hne2 : some tb ≠ (Value.slice (some ⟨g2, 0, none⟩) ys.length cap2).ownBlock := by
                           intro hk
                           have e1 : tb = g2 := by simpa [Value.ownBlock] using hk
                           exact HNy.out e1.symm
                         have HBKn := Aside0.mk (blk_grown (blk_alloc HBKy.out _) hgr hne2)
                         have HGn : Aside0 (w.heap.size ≤ gn) := ⟨by
                           rcases hat with h1 | h1
                           · exact hgk _ h1
                           · have := hBw.size
                             simp at h1
                             omega⟩
                         have HNn : Aside0 (gn ≠ tb) := ⟨by
                           rcases hat with h1 | h1
                           · have e1 : g2 = gn := by simpa [Value.ownBlock] using h1
                             rw [← e1]
                             exact HNy.out
                           · simp at h1
                             omega⟩
                         have HBrn := Aside0.mk hb
                         clear hb hgr hat hBw htl hgk hne2))
                    go_roundg gk
                    case measure => omega
                    case rel => exact ⟨j + 1, ys ++ [rd ys (q : Int)], gn, capn, by omega, by go_num, by rw [List.length_append]; rfl, HC2, ⟨by rw [List.length_append]; exact Nat.le_trans HLy.out (Nat.le_add_right _ _)⟩, HBrn, HGn, HNn, HBn, HBKn⟩
                  · rw [if_neg hcc] at hc
                    cases hc
            · have htd : (t1 == 0) = false := by simpa using ht1
              have hz := HZ.out
              unfold tokF at hz
              rw [if_neg ht1] at hz
              by_cases ht2 : 0 ≤ t1 ∧ t1 ≤ 1000000
              · rw [if_pos ht2] at hz
                obtain ⟨ht2, ht3⟩ := ht2
                have HCP := Aside0.mk hz
                have HLs := HL2
                have HBrA := HBr2
                have HGA := HG
                have HNA := Aside0.mk (show g1 ≠ tb from Nat.ne_of_lt HBL.out)
                have HBA := HBb
                have HBKA := HBK
                clear hz
                go_wp2_with fail
                go_loopg [6, 9] t1.toNat (fun kq v6 v9 w' => ∃ (j : Nat) (ys : List Int) (g' cap' : Nat), j + kq = t1.toNat ∧ v9 = .int .i64 j ∧ v6 = .slice (some ⟨g', 0, none⟩) ys.length cap' ∧ Aside0 (copyF kq t2 ys = some zs) ∧ Aside0 (s.size ≤ ys.length) ∧ Aside0 (BR 5 w' (.slice (some ⟨g', 0, none⟩) ys.length cap') ys) ∧ Aside0 (w.heap.size ≤ g') ∧ Aside0 (g' ≠ tb) ∧ Aside0 (Below w.heap.size w w') ∧ Aside0 (w'.heap[tb]? = some (.cells #[.int .i64 t0, .int .i64 t1, .int .i64 t2] 44 (0, 0))))
                case atStart => exact ⟨0, xs, g1, cap1, by omega, rfl, rfl, HCP, HLs, HBrA, HGA, HNA, HBA, HBKA⟩
                case round =>
                  clear HCP HLs HBrA HGA HNA HBA HBKA hk0 hk1 hk2
                  obtain ⟨j, ys, g2, cap2, hj, rfl, rfl, HC, HLy, HBy, HGy, HNy, HBw, HBKy⟩ := hrel
                  have hb0 : wr.cell? ⟨tb, 0, none⟩ = some (.int .i64 t0) := blk_cell HBKy.out 0
                  have hb1 : wr.cell? ⟨tb, 1, none⟩ = some (.int .i64 t1) := blk_cell HBKy.out 1
                  have hb2 : wr.cell? ⟨tb, 2, none⟩ = some (.int .i64 t2) := blk_cell HBKy.out 2
                  cases gk with
                  | zero =>
                    have hlt3 : decide ((j : Int) < t1) = false := decide_eq_false (by omega)
                    have hys := HC.out
                    rw [copyF] at hys
                    injection hys with hys
                    subst hys
                    have hly := HLy.out
                    have hyM := HBy.out.reads.2.1
                    have hw5 : wrap64 ((ys.length : Int) - (s.size : Int)) = (ys.length : Int) - (s.size : Int) := by unfold wrap64; omega
                    have hr3 := HREST.out
                    by_cases hov : (ys.length : Int) - s.size > 12000
                    · rw [if_pos hov] at hr3
                      obtain rfl : (⟨#[]⟩, false) = r := by injection hr3
                      have hd3 : decide (12000 < (ys.length : Int) - (s.size : Int)) = true := decide_eq_true hov
                      have hly3 : s.size + 12000 < ys.length := by omega
                      clear hr3 HREST
                      have HI1 := Aside0.mk HBw.out
                      go_wp2
                      go_ret2
                      exact ⟨rfl, HI1.out⟩
                    · rw [if_neg hov] at hr3
                      have hd3 : decide (12000 < (ys.length : Int) - (s.size : Int)) = false := decide_eq_false hov
                      have H9 := Aside0.mk hr3
                      have hly3 : ys.length ≤ 24000 := by omega
                      clear hr3 HREST
                      go_wp2
                      go_roundg gk0
                      case measure => omega
                      case rel => exact ⟨i + 1, ys, g2, cap2, by omega, by go_num, rfl, H9, ⟨hly3⟩, HLy, HBy, HGy, HBw⟩
                  | succ gk =>
                    have hlt3 : decide ((j : Int) < t1) = true := decide_eq_true (by omega)
                    have hc := HC.out
                    rw [copyF] at hc
                    by_cases hcc : 1 ≤ t2 ∧ t2 ≤ ys.length ∧ ys.length ≤ 1000000
                    · rw [if_pos hcc] at hc
                      obtain ⟨d1, d2, d3⟩ := hcc
                      obtain ⟨q, hq⟩ : ∃ q : Nat, (ys.length : Int) - t2 = q := ⟨((ys.length : Int) - t2).toNat, by omega⟩
                      rw [hq] at hc
                      have hql : q < ys.length := by omega
                      have q0 : (0 : Int) ≤ (q : Int) := by omega
                      have q1 : (q : Int) < (ys.length : Int) := by omega
                      have hq2 : IntKind.i64.wrap ((ys.length : Int) - t2) = (q : Int) := by rw [hq, IntKind.wrap_i64]; omega
                      have hq3 : wrap64 ((ys.length : Int) - t2) = (q : Int) := by rw [hq]; unfold wrap64; omega
                      obtain ⟨hcell, hfz⟩ := HBy.out.cell q hql
                      have HC2 := Aside0.mk hc
                      have HYL := Aside0.mk d3
                      have hq4 : wrap64 (q : Int) = (q : Int) := by unfold wrap64; omega
                      clear hc HC d1 d2 d3 hql hq
                      go_wp2_with (first
                        | ((with_reducible refine gate_dst (N := 60) rfl ?_)
                           refine wpList_push rfl (.tmp 50) (.tmp 59) 31 5 rfl (.int .u8 0) Try.underlying31 info_u8 rfl (.slice (some ⟨g2, 0, none⟩) ys.length cap2) ys rfl (HBy.out.alloc _) ⟨wr.heap.size, 0, none⟩ (rd ys (q : Int)) 1 rfl ?_ (by have := HYL.out; omega) ?_
                           · simp
                           intro gn capn w4 hb hgr hat
                           have hBw := HBw.out
                           have htl : tb < wr.heap.size := blk_lt HBKy.out
                           have hgk : ∀ k, (Value.slice (some ⟨g2, 0, none⟩) ys.length cap2).ownBlock = some k → w.heap.size ≤ k := by
                             intro k hk
                             have e1 : g2 = k := by simpa [Value.ownBlock] using hk
                             rw [← e1]
                             exact HGy.out
                           have HBn := Aside0.mk (grown_below (below_alloc hBw _) hgr hgk)
                           have hne2 : some tb ≠ (Value.slice (some ⟨g2, 0, none⟩) ys.length cap2).ownBlock := by
                             intro hk
                             have e1 : tb = g2 := by simpa [Value.ownBlock] using hk
                             exact HNy.out e1.symm
                           have HBKn := Aside0.mk (blk_grown (blk_alloc HBKy.out _) hgr hne2)
                           have HGn : Aside0 (w.heap.size ≤ gn) := ⟨by
                             rcases hat with h1 | h1
                             · exact hgk _ h1
                             · have := hBw.size
                               simp at h1
                               omega⟩
                           have HNn : Aside0 (gn ≠ tb) := ⟨by
                             rcases hat with h1 | h1
                             · have e1 : g2 = gn := by simpa [Value.ownBlock] using h1
                               rw [← e1]
                               exact HNy.out
                             · simp at h1
                               omega⟩
                           have HBrn := Aside0.mk hb
                           clear hb hgr hat hBw htl hgk hne2))
                      go_roundg gk
                      case measure => omega
                      case rel => exact ⟨j + 1, ys ++ [rd ys (q : Int)], gn, capn, by omega, by go_num, by rw [List.length_append]; rfl, HC2, ⟨by rw [List.length_append]; exact Nat.le_trans HLy.out (Nat.le_add_right _ _)⟩, HBrn, HGn, HNn, HBn, HBKn⟩
                    · rw [if_neg hcc] at hc
                      cases hc
              · rw [if_neg ht2] at hz
                cases hz
end Go.Proofs.Ytaaoojmbomhakaa.MExpand
