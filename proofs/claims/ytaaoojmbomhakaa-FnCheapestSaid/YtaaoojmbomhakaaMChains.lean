/- The program's chainsOf: for each place the nearest one ahead with the same key. Conditions: what the key's reader returns at each place of the text. -/
import Derived.Test.YtaaoojmbomhakaaProg
import Derived.Test.YtaaoojmbomhakaaWWords
import Derived.Test.YtaaoojmbomhakaaWMore
import Derived.Below
import Derived.OwnWalk
import Derived.Tactics
import Derived.WalkKit
import Derived.KernelRfl
import Derived.RowKit3
import Derived.Deep.LoopGhost
import Derived.Maps.Own
import Derived.Maps.OwnOps
import Derived.Maps.OwnSet
import Derived.Maps.Views
namespace Go.Proofs.Ytaaoojmbomhakaa.MChains
open Go.RowKit Go.Maps Go.Proofs.YtaaoojmbomhakaaW.PrintWords Go.Proofs.YtaaoojmbomhakaaW.PrintMore
set_option linter.unusedVariables false
set_option linter.unusedSimpArgs false
/-- The nearest place ahead of i with this key. -/
def prevKey (kv : Nat → Int) (ko : Nat → Bool) : Nat → Int → Option Nat
  | 0, _ => none
  | i + 1, key => if ko i = true ∧ kv i = key then some i else prevKey kv ko i key
def chainAt (kv : Nat → Int) (ko : Nat → Bool) (j : Nat) : Int := if ko j = true then (match prevKey kv ko j (kv j) with | some p => (p : Int) | none => -1) else -1
def chains (kv : Nat → Int) (ko : Nat → Bool) (n : Nat) : List Int := (List.range n).map (chainAt kv ko)
/-- The map behind i rounds. -/
def dn (kv : Nat → Int) (ko : Nat → Bool) : Nat → DataW Unit
  | 0 => .map []
  | i + 1 => if ko i = true then (dn kv ko i).put (.int .i64 (kv i)) (.lit (.int .i64 i)) else dn kv ko i
theorem dn_isMap (kv : Nat → Int) (ko : Nat → Bool) : ∀ i, IsMap (dn kv ko i)
  | 0 => isMap_empty
  | i + 1 => by
    unfold dn
    split
    · exact (dn_isMap kv ko i).put _ _
    · exact dn_isMap kv ko i
theorem dn_has (kv : Nat → Int) (ko : Nat → Bool) (key : Int) : ∀ i, Maps.has (dn kv ko i) (.int .i64 key) = (prevKey kv ko i key).isSome
  | 0 => rfl
  | i + 1 => by
    unfold dn prevKey
    by_cases h : ko i = true
    · rw [if_pos h]
      by_cases hk : kv i = key
      · rw [if_pos ⟨h, hk⟩, hk, has_put_same (dn_isMap kv ko i) (by trivial)]
        rfl
      · rw [if_neg (fun h2 => hk h2.2), has_put_other (by intro e; injection e with _ e; exact hk e.symm)]
        exact dn_has kv ko key i
    · rw [if_neg h, if_neg (fun h2 => h h2.1)]
      exact dn_has kv ko key i
theorem dn_at (kv : Nat → Int) (ko : Nat → Bool) (key : Int) : ∀ i, (dn kv ko i).atKey (.int .i64 key) (.lit (.int .i64 0)) = .lit (.int .i64 (match prevKey kv ko i key with | some p => (p : Int) | none => 0))
  | 0 => rfl
  | i + 1 => by
    unfold dn prevKey
    by_cases h : ko i = true
    · rw [if_pos h]
      by_cases hk : kv i = key
      · rw [if_pos ⟨h, hk⟩, hk, atKey_put_same (dn_isMap kv ko i) (by trivial)]
      · rw [if_neg (fun h2 => hk h2.2), atKey_put_other (by intro e; injection e with _ e; exact hk e.symm)]
        exact dn_at kv ko key i
    · rw [if_neg h, if_neg (fun h2 => h h2.1)]
      exact dn_at kv ko key i
theorem prev_lt (kv : Nat → Int) (ko : Nat → Bool) (key : Int) : ∀ i p, prevKey kv ko i key = some p → p < i
  | 0, p, h => by cases h
  | i + 1, p, h => by
    unfold prevKey at h
    split at h
    · injection h with h; omega
    · have := prev_lt kv ko key i p h; omega
theorem chains_len (kv : Nat → Int) (ko : Nat → Bool) (n : Nat) : (chains kv ko n).length = n := by unfold chains; simp
theorem chains_succ (kv : Nat → Int) (ko : Nat → Bool) (n : Nat) : chains kv ko (n + 1) = chains kv ko n ++ [chainAt kv ko n] := by unfold chains; rw [List.range_succ, List.map_append]; rfl
theorem rep_set (kv : Nat → Int) (ko : Nat → Bool) (i d : Nat) (x : Int) (hx : x = chainAt kv ko i) : (chains kv ko i ++ List.replicate (d + 1) 0).set i x = chains kv ko (i + 1) ++ List.replicate d 0 := by
  have hl := chains_len kv ko i
  rw [chains_succ, List.set_append, if_neg (by omega), hl, Nat.sub_self, List.replicate_succ, List.set_cons_zero, hx, List.append_assoc]
  rfl
theorem law : Keyed Try.prog 3 := int_keyed Try.underlying3
theorem zeroI (w : World) : (zeroValue 3).run Try.prog w = .ok (.int .i64 0) w := by kernel_rfl
theorem infoI : (Try.prog.info? 3).map (fun i => (i.zero, i.size, i.bytes)) = some (some (.int .i64 0), 1, 8) := by kernel_rfl
set_option maxHeartbeats 1000000 in
set_option maxRecDepth 100000 in
theorem chainsOf_calls (s : ByteArray) (kv : Nat → Int) (ko : Nat → Bool) (hs : s.size ≤ 100000) (hkv : ∀ i, i < s.size → (Lit.int .i64 (kv i)).wf = true) (w : World)
    (hrb : ∀ i : Nat, i < s.size → ∀ w, Calls Try.prog 44 #[.string s, .int .i64 (i : Int), .int .i64 3] w fun e w' => e = .returned (.tuple #[.int .i64 (kv i), .bool (ko i)]) ∧ Drawn0 w w') :
    Calls Try.prog 30 #[.string s] w fun e w' => ∃ v : Value, e = .returned v ∧ Kd.R (Kd.int .i64) 3 w' w.heap.size (fun _ => True) v (chains kv ko s.size) ∧ Below w.heap.size w w' := by
  have HRB := Aside0.mk hrb
  have HKV := Aside0.mk hkv
  have hmm := @run_makeMap Try.prog
  have hn0 : (0 : Int) ≤ (s.size : Int) := by omega
  have hb : (s.size : Int).toNat * 8 ≤ 281474976710656 := by omega
  clear hrb hkv
  go_enter Try.func30, Try.ntmps30
  go_wp2_with (first
    | ((with_reducible refine gate_dst (N := 12) rfl ?_)
       refine Kd.R_make (Kd.int .i64) _ 3 rfl (N := 12) rfl 34 _ _ rfl (s.size : Int) rfl rfl Try.underlying34 (.int .i64 0) 8 infoI rfl (by decide) (by omega) 0 (ok := fun _ => True) (okp := fun _ => True) rfl (fun _ hk => hk) trivial hn0 hb (Below.refl _ _) (Nat.le_refl _) ?_
       intro v1 w1 ho hB hg hnew
       have HV := Aside0.mk (show ∀ k, v1.ownBlock = some k → k < w1.heap.size from fun k hk => ((Kd.R_bound ho).1 k hk).2.2.1)
       have HO := Aside0.mk ho
       have HB := Aside0.mk hB
       clear ho hB hg hnew))
  go_loopg [16] s.size (fun kq v16 w' => ∃ (i : Nat) (xs : List Int), i + kq = s.size ∧ v16 = .int .i64 i ∧ Aside0 (xs = chains kv ko i ++ List.replicate (s.size - i) 0) ∧ Aside0 (Kd.R (Kd.int .i64) 3 w' w.heap.size (fun _ => True) v1 xs) ∧ Aside0 (w'.ownsMap Try.prog 3 (plainElem Try.prog 3) w1.heap.size i (dn kv ko i)) ∧ Aside0 (Below w.heap.size w w'))
  case atStart => exact ⟨0, List.replicate s.size 0, by omega, rfl, ⟨rfl⟩, ⟨Kd.R_alloc (by simpa using HO.out) _⟩, ⟨World.ownsMap_made _ _ _ _⟩, ⟨below_alloc HB.out _⟩⟩
  case round =>
    have HL := Aside0.mk HB.out.size
    clear HO HB hmm hb hn0
    obtain ⟨i, xs, hi, rfl, HX, HO, HM, HB⟩ := hrel
    cases gk with
    | zero =>
      have hlt : decide ((i : Int) < (s.size : Int)) = false := decide_eq_false (by omega)
      have hlt2 : decide (i < s.size) = false := decide_eq_false (by omega)
      have HI := Aside0.mk (show i = s.size by omega)
      clear hi
      go_wp2
      go_ret
      have hx := HX.out
      rw [HI.out, Nat.sub_self, List.replicate_zero, List.append_nil] at hx
      exact ⟨_, rfl, by rw [← hx]; exact HO.out, HB.out⟩
    | succ gk =>
      have hlt : decide ((i : Int) < (s.size : Int)) = true := decide_eq_true (by omega)
      have hlt2 : decide (i < s.size) = true := decide_eq_true (by omega)
      have hxl : xs.length = s.size := by rw [HX.out, List.length_append, chains_len, List.length_replicate]; omega
      obtain ⟨g, cap, rfl, hg1, hg2, hcl⟩ := Kd.R_form HO.out (by omega)
      have hgB : g < w1.heap.size := HV.out g rfl
      obtain ⟨hcell, hfz⟩ := Kd.R_celln 0 HO.out (i : Int) (by omega) (by omega)
      obtain ⟨hP1, hP2⟩ := Kd.R_putg HO.out (i : Int) (-1)
      simp only [Int.toNat_natCast] at hcell hfz hP1 hP2
      have i0 : (0 : Int) ≤ (i : Int) := by omega
      have i1 : (i : Int) < (xs.length : Int) := by omega
      have HM2 := Aside0.mk (HM.out.setCell (a := ⟨g, i, none⟩) (by show w1.heap.size ≠ g; omega) (.int .i64 (-1)))
      have HB2 := Aside0.mk (below_set (j := i) (v := .int .i64 (-1)) HB.out hg1)
      have HO2 := Aside0.mk hP1
      have HXL := Aside0.mk hxl
      have HG1 := Aside0.mk hg1
      clear hP1 hP2 hcl hg2 HM HB hxl hg1
      go_wp2_with fail
      obtain ⟨W2, hW2⟩ : ∃ W2, W2 = wr.setCell ⟨g, i, none⟩ (.int .i64 (-1)) := ⟨_, rfl⟩
      rw [← hW2] at HM2 HB2 HO2 ⊢
      clear hcell hfz HO hW2
      refine (HRB.out i (by omega) _).mono ?_
      rintro e w3 ⟨rfl, ⟨⟨nd, hnd⟩⟩⟩
      have HO3 : Aside0 (Kd.R (Kd.int .i64) 3 w3 w.heap.size (fun _ => True) (.slice (some ⟨g, 0, none⟩) xs.length cap) (xs.set i (-1))) := ⟨by rw [hnd]; exact Kd.R_drewN HO2.out nd⟩
      have HM3 : Aside0 (w3.ownsMap Try.prog 3 (plainElem Try.prog 3) w1.heap.size i (dn kv ko i)) := ⟨by rw [hnd]; exact HM2.out⟩
      have HB3 : Aside0 (Below w.heap.size w w3) := ⟨by rw [hnd]; exact pw_below_drewN HB2.out nd⟩
      clear HO2 HM2 HB2 hnd
      have HI := Aside0.mk hi
      cases hk : ko i with
      | false =>
        go_wp2
        go_roundg gk
        case measure => omega
        case rel =>
          refine ⟨i + 1, xs.set i (-1), by omega, by go_num, ⟨?_⟩, HO3, ⟨?_⟩, HB3⟩
          · rw [HX.out, show s.size - i = (s.size - (i + 1)) + 1 by omega]
            exact rep_set kv ko i _ _ (by unfold chainAt; rw [if_neg (by rw [hk]; decide)])
          · have e : dn kv ko (i + 1) = dn kv ko i := by rw [dn, if_neg (by rw [hk]; decide)]
            rw [e]
            exact HM3.out.mono (Nat.le_succ _)
      | true =>
        have HKEY := Aside0.mk (keyOf_int_mk (P := Try.prog) Try.underlying3 (HKV.out i (by omega)))
        have e : dn kv ko (i + 1) = (dn kv ko i).put (.int .i64 (kv i)) (.lit (.int .i64 i)) := by rw [dn, if_pos hk]
        cases hh : Maps.has (dn kv ko i) (.int .i64 (kv i)) with
        | false =>
          have hp : prevKey kv ko i (kv i) = none := by
            rw [dn_has] at hh
            simpa using hh
          have HE := Aside0.mk e
          have HH := Aside0.mk hh
          have HPV := Aside0.mk hp
          have HKI := Aside0.mk hk
          clear e hh hp hk
          go_wp2_with (first
            | (at_lookup
               refine wpList_lookup_own_ok_int _ rfl _ _ 57 rfl 3 3 .i64 law Try.underlying57 Try.underlying3 (zeroI _) w1.heap.size i _ rfl HM3.out _ _ rfl HKEY.out ?_
               intro c hat hwc
               rw [HH.out])
            | (at_mapUpdate
               refine wpList_mapUpdate_own _ rfl _ _ _ 57 rfl 3 3 law Try.underlying57 _ w1.heap.size i _ rfl HM3.out (by unfold maxLen; omega) _ _ _ rfl rfl HKEY.out _ [] (plainElem_int Try.underlying3 (WalkArith.wf_i64 (by omega))) ?_
               intro w4 hown4 hgrow4
               have HO4 := Aside0.mk (Kd.R_grown2 HO3.out rfl hgrow4 (fun k hk hk2 => by
                 injection hk with hk
                 have hk3 : some k = some g := hk2
                 injection hk3 with hk3
                 omega))
               have HB4 := Aside0.mk (HB3.out.grown hgrow4 HB3.out.size (fun j hj => by cases hj; exact HL.out))
               have HM4 := Aside0.mk hown4
               clear hown4 hgrow4 HO3 HB3 HM3))
          go_roundg gk
          case measure => omega
          case rel =>
            refine ⟨i + 1, xs.set i (-1), by omega, by go_num, ⟨?_⟩, HO4, ⟨by rw [HE.out]; exact HM4.out⟩, HB4⟩
            rw [HX.out, show s.size - i = (s.size - (i + 1)) + 1 by omega]
            exact rep_set kv ko i _ _ (by unfold chainAt; rw [if_pos HKI.out, HPV.out])
        | true =>
          obtain ⟨p, hp⟩ : ∃ p, prevKey kv ko i (kv i) = some p := by
            rw [dn_has] at hh
            exact Option.isSome_iff_exists.1 hh
          have hat0 := dn_at kv ko (kv i) i
          rw [hp] at hat0
          obtain ⟨hcell, hfz⟩ := Kd.R_celln 0 HO3.out (i : Int) (by omega) (by omega)
          obtain ⟨hP1, hP2⟩ := Kd.R_putg HO3.out (i : Int) (p : Int)
          simp only [Int.toNat_natCast] at hcell hfz hP1 hP2
          have HO5 := Aside0.mk hP1
          have HM5 := Aside0.mk (HM3.out.setCell (a := ⟨g, i, none⟩) (by show w1.heap.size ≠ g; omega) (.int .i64 (p : Int)))
          have HB5 := Aside0.mk (below_set (j := i) (v := .int .i64 (p : Int)) HB3.out HG1.out)
          have HAT := Aside0.mk hat0
          have HE := Aside0.mk e
          have HH := Aside0.mk hh
          have HPV := Aside0.mk hp
          have HKI := Aside0.mk hk
          clear e hh hp hk hat0 hP1 hP2
          go_wp2_with (first
            | (at_lookup
               refine wpList_lookup_own_ok_int _ rfl _ _ 57 rfl 3 3 .i64 law Try.underlying57 Try.underlying3 (zeroI _) w1.heap.size i _ rfl HM3.out _ _ rfl HKEY.out ?_
               intro c hat hwc
               have hc : c = (p : Int) := by
                 have h1 := hat.symm.trans HAT.out
                 injection h1 with h1
                 injection h1
               subst hc
               clear hat hwc
               rw [HH.out])
            | (at_mapUpdate
               refine wpList_mapUpdate_own _ rfl _ _ _ 57 rfl 3 3 law Try.underlying57 _ w1.heap.size i _ rfl HM5.out (by unfold maxLen; omega) _ _ _ rfl rfl HKEY.out _ [] (plainElem_int Try.underlying3 (WalkArith.wf_i64 (by omega))) ?_
               intro w4 hown4 hgrow4
               have HO4 := Aside0.mk (Kd.R_grown2 HO5.out rfl hgrow4 (fun k hk hk2 => by
                 injection hk with hk
                 have hk3 : some k = some g := hk2
                 injection hk3 with hk3
                 omega))
               have HB4 := Aside0.mk (HB5.out.grown hgrow4 HB5.out.size (fun j hj => by cases hj; exact HL.out))
               have HM4 := Aside0.mk hown4
               clear hown4 hgrow4 HO3 HB3 HM3 HO5 HB5 HM5 hcell hfz))
          go_roundg gk
          case measure => omega
          case rel =>
            refine ⟨i + 1, (xs.set i (-1)).set i (p : Int), by omega, by go_num, ⟨?_⟩, HO4, ⟨by rw [HE.out]; exact HM4.out⟩, HB4⟩
            rw [List.set_set, HX.out, show s.size - i = (s.size - (i + 1)) + 1 by omega]
            exact rep_set kv ko i _ _ (by unfold chainAt; rw [if_pos HKI.out, HPV.out])
def kvOf : Option (Int × Bool) → Int
  | some p => p.1
  | none => 0
def koOf : Option (Int × Bool) → Bool
  | some p => p.2
  | none => false
def okOf : Option (Int × Bool) → Bool
  | some p => (Lit.int .i64 p.1).wf
  | none => false
def chainsF (s : ByteArray) (g : Int → Option (Int × Bool)) : Option (List Int) := if s.size ≤ 100000 ∧ ∀ i : Nat, i < s.size → okOf (g (i : Int)) = true then some (chains (fun i => kvOf (g (i : Int))) (fun i => koOf (g (i : Int))) s.size) else none
theorem chainsOf_f (s : ByteArray) (g : Int → Option (Int × Bool)) (w : World)
    (hg : ∀ (a r1 : Int) (r2 : Bool) (w : World), g a = some (r1, r2) → Calls Try.prog 44 #[.string s, .int .i64 a, .int .i64 3] w fun e w' => e = .returned (.tuple #[.int .i64 r1, .bool r2]) ∧ Drawn0 w w')
    (r : List Int) (h : chainsF s g = some r) :
    Calls Try.prog 30 #[.string s] w fun e w' => ∃ v : Value, e = .returned v ∧ Kd.R (Kd.int .i64) 3 w' w.heap.size (fun _ => True) v r ∧ Below w.heap.size w w' := by
  unfold chainsF at h
  by_cases hc : s.size ≤ 100000 ∧ ∀ i : Nat, i < s.size → okOf (g (i : Int)) = true
  · rw [if_pos hc] at h
    injection h with h
    rw [← h]
    refine chainsOf_calls s _ _ hc.1 (fun i hi => ?_) w (fun i hi w => ?_)
    · have h1 := hc.2 i hi
      cases hgi : g (i : Int) with
      | none => rw [hgi] at h1; cases h1
      | some p => rw [hgi] at h1; exact h1
    · have h1 := hc.2 i hi
      cases hgi : g (i : Int) with
      | none => rw [hgi] at h1; cases h1
      | some p => exact hg _ _ _ _ hgi
  · rw [if_neg hc] at h
    cases h
end Go.Proofs.Ytaaoojmbomhakaa.MChains
