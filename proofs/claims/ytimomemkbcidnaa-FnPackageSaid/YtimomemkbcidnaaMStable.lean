/- slices.stableCmpFunc and slices.SortStableFunc over coins. Conditions: as in MSort. -/
import Derived.Test.YtimomemkbcidnaaMSort
import Derived.Test.YtimomemkbcidnaaMInsert
namespace Go.Proofs.Ytimomemkbcidnaa.MStable
open Go.Shelf Go.RowKit Go.Lib Go.Sort Go.Proofs.Ytimomemkbcidnaa.MSort Go.Proofs.Ytimomemkbcidnaa.MInsert
set_option linter.unusedVariables false
set_option linter.unusedSimpArgs false
variable {α : Type} [Inhabited α]
attribute [-simp] Try.sizeOf101
/-- Blocks of 20 places, each sorted, from a on. -/
def blocksR (lt : α → α → Bool) (n : Nat) : Nat → Array α → Nat → Array α
 | 0, d, a => Sort.insertionSort lt d a n
 | f + 1, d, a => if a + 20 ≤ n then blocksR lt n f (Sort.insertionSort lt d a (a + 20)) (a + 20) else Sort.insertionSort lt d a n
/-- Blocks of s places, merged two by two, from a on. -/
def mergeRow (lt : α → α → Bool) (n s : Nat) : Nat → Array α → Nat → Array α
 | 0, d, a => d
 | f + 1, d, a => if a + 2 * s ≤ n then mergeRow lt n s f (symM lt (2 * s) d a (a + s) (a + 2 * s)) (a + 2 * s) else if a + s < n then symM lt n d a (a + s) n else d
def mergesR (lt : α → α → Bool) (n : Nat) : Nat → Array α → Nat → Array α
 | 0, d, s => d
 | f + 1, d, s => if s < n then mergesR lt n f (mergeRow lt n s (n + 1) d 0) (s * 2) else d
def stableR (lt : α → α → Bool) (d : Array α) (n : Nat) : Array α := mergesR lt n n (blocksR lt n n d 0) 20
theorem blocks_stop (lt : α → α → Bool) (n f : Nat) (d : Array α) (a : Nat) (h : ¬ a + 20 ≤ n) : blocksR lt n f d a = Sort.insertionSort lt d a n := by
 cases f with
 | zero => rfl
 | succ f => rw [blocksR, if_neg h]
theorem merges_stop (lt : α → α → Bool) (n f : Nat) (d : Array α) (s : Nat) (h : ¬ s < n) : mergesR lt n f d s = d := by
 cases f with
 | zero => rfl
 | succ f => rw [mergesR, if_neg h]
theorem mergeRow_size (lt : α → α → Bool) (n s : Nat) : ∀ f (d : Array α) a, (mergeRow lt n s f d a).size = d.size
 | 0, _, _ => rfl
 | f + 1, d, a => by
  rw [mergeRow]
  split
  ·rw [mergeRow_size lt n s f, symM_size]
  ·split
   ·rw [symM_size]
   ·rfl
theorem blocksR_size (lt : α → α → Bool) (n : Nat) : ∀ f (d : Array α) a, (blocksR lt n f d a).size = d.size
 | 0, d, a => by rw [blocksR, insertion_size]
 | f + 1, d, a => by
  rw [blocksR]
  split
  ·rw [blocksR_size lt n f, insertion_size]
  ·rw [insertion_size]

set_option maxHeartbeats 8000000 in
set_option maxRecDepth 1000000 in
theorem stable_calls (k : Nat) (zE : ∀ w, (Go.sizeOf 101).run Try.prog w = .ok k w) (enc : α → List Value) (g : Nat) (cb : Array Value) (cf : α → α → Int) (eg : ∀ args w, (callFunc g args).run Try.prog w = .ok (.enter g args) w) (blk off cap : Nat) (n : Nat) (d0 d : Array α) (w0 w : World)
  (C : CmpLays Try.prog g cb enc k cf blk off n w0) (R : RowK enc k w0 blk off d0) (hs : d0.size = n) (hd : d.size = n) (S : SWK enc k w0 blk off d w) (hsz : n < 1000000000000000000) :
  Calls Try.prog 114 #[.slice (some ⟨blk, off, none⟩) n cap, .int .i64 n, .func (.func g) #[] cb] w fun e w' => e = .returned (.tuple #[]) ∧ SWK enc k w0 blk off (stableR (ltOf cf) d n) w' := by
 have S0 : Aside (SWK enc k w0 blk off d w) := S
 have HC : Aside (CmpLays Try.prog g cb enc k cf blk off n w0) := C
 have HD : Hid (d.size = n) := hd
 clear S C hd
 obtain ⟨RES, hRES⟩ : ∃ RES, RES = stableR (ltOf cf) d n := ⟨_, rfl⟩
 rw [← hRES]
 obtain ⟨RB, hRB⟩ : ∃ RB, RB = blocksR (ltOf cf) n n d 0 := ⟨_, rfl⟩
 have HR : Hid (mergesR (ltOf cf) n n RB 20 = RES) := by show _ = _; rw [hRES, hRB]; rfl
 have HRB : Hid (blocksR (ltOf cf) n n d 0 = RB) := hRB.symm
 have hrbs : RB.size = n := by rw [hRB, blocksR_size]; exact HD.out
 clear hRES hRB
 go_enter Try.func114, Try.ntmps114
 go_wp2
 go_loopg [7, 8] n (fun kx s1 s2 wr => ∃ (a b f : Nat) (dk : Array α), s1 = .int .i64 a ∧ s2 = .int .i64 b ∧ b = a + 20 ∧ a ≤ n ∧ n - a ≤ kx ∧ dk.size = n ∧ n - a ≤ f ∧ Aside (SWK enc k w0 blk off dk wr) ∧ Aside (blocksR (ltOf cf) n f dk a = RB))
 case atStart => exact ⟨0, 20, n, d, rfl, rfl, rfl, by omega, by omega, HD.out, by omega, S0, HRB.out⟩
 case round =>
  clear S0 HRB
  obtain ⟨a, b, f, dk, rfl, rfl, hb, ha, hkx, hds, hf, S1, E1⟩ := hrel
  by_cases hlt : b ≤ n
  ·have hltz : (b : Int) ≤ (n : Int) := by omega
   obtain ⟨f, rfl⟩ : ∃ f', f = f' + 1 := ⟨f - 1, by omega⟩
   have rb : IntKind.i64.wrap ((b : Int) + 20) = ((b + 20 : Nat) : Int) := by rw [IntKind.wrap_i64]; omega
   have E2 : Aside (blocksR (ltOf cf) n f (Sort.insertionSort (ltOf cf) dk a b) b = RB) := by
    have e := E1.out
    rw [blocksR, if_pos (by omega), ← hb] at e
    exact e
   have HB : a ≤ b := by omega
   have HB2 : Hid (b = a + 20) := hb
   clear E1 hb
   go_wp2_with (go_at_call 119; refine (insertion_calls k zE enc g cb cf eg blk off cap a b n d0 dk w0 _ HC.out R hs hds S1.out HB hlt (by omega)).mono ?_; rintro e_ w' ⟨rfl, S2⟩)
   go_roundg (n - b)
   case measure => have := HB2.out; omega
   case rel =>
    have hb := HB2.out
    exact ⟨b, b + 20, f, _, by go_num, by go_num, rfl, hlt, by omega, by rw [insertion_size]; exact hds, by omega, S2, E2⟩
  ·have hltz : ¬ (b : Int) ≤ (n : Int) := by omega
   have HB2 : Hid (b = a + 20) := hb
   have E2 : Hid (Sort.insertionSort (ltOf cf) dk a n = RB) := by
    have e := E1.out
    rw [blocks_stop _ _ _ _ _ (by omega)] at e
    exact e
   clear E1 hb
   go_wp2_with (go_at_call 119; refine (insertion_calls k zE enc g cb cf eg blk off cap a n n d0 dk w0 _ HC.out R hs hds S1.out ha (Nat.le_refl _) (by omega)).mono ?_; rintro e_ w' ⟨rfl, S2⟩)
   have S3 : Aside (SWK enc k w0 blk off RB w') := by
    have := S2
    rw [E2.out] at this
    exact this
   clear S2 E2 S1
   generalize w' = w1 at S3 ⊢
   go_loopg [6] n (fun kx s wr => ∃ (s_ f : Nat) (dk : Array α), s = .int .i64 s_ ∧ 20 ≤ s_ ∧ n - s_ ≤ kx ∧ n - s_ ≤ f ∧ dk.size = n ∧ Aside (SWK enc k w0 blk off dk wr) ∧ Aside (mergesR (ltOf cf) n f dk s_ = RES))
   case atStart => exact ⟨20, n, RB, rfl, by omega, by omega, by omega, hrbs, S3, HR.out⟩
   case round =>
    clear S3 HR
    obtain ⟨s, f, dk, rfl, h20, hkx, hf, hds, S1, E1⟩ := hrel
    by_cases hlt : s < n
    ·have hltz : (s : Int) < (n : Int) := by omega
     obtain ⟨f, rfl⟩ : ∃ f', f = f' + 1 := ⟨f - 1, by omega⟩
     obtain ⟨s2, hs2⟩ : ∃ s2, s2 = 2 * s := ⟨_, rfl⟩
     have r2 : IntKind.i64.wrap (2 * (s : Int)) = (s2 : Int) := by rw [IntKind.wrap_i64]; omega
     have r3 : IntKind.i64.wrap ((s : Int) * 2) = (s2 : Int) := by rw [IntKind.wrap_i64]; omega
     have HS2 : Hid (s2 = 2 * s) := hs2
     obtain ⟨RM, hRM⟩ : ∃ RM, RM = mergeRow (ltOf cf) n s (n + 1) dk 0 := ⟨_, rfl⟩
     have hrms : RM.size = n := by rw [hRM, mergeRow_size]; exact hds
     have E2 : Aside (mergesR (ltOf cf) n f RM s2 = RES) := by
      have e := E1.out
      rw [mergesR, if_pos hlt, ← hRM, Nat.mul_comm s 2, ← hs2] at e
      exact e
     have HRM : Hid (mergeRow (ltOf cf) n s (n + 1) dk 0 = RM) := hRM.symm
     clear E1 hRM hs2
     go_wp2
     go_loopg [7, 8] n (fun kx s1 s2_ wr => ∃ (a b f : Nat) (dj : Array α), s1 = .int .i64 a ∧ s2_ = .int .i64 b ∧ Hid (b = a + 2 * s) ∧ a ≤ n ∧ n - a ≤ kx ∧ dj.size = n ∧ n + 1 - a ≤ f ∧ Aside (SWK enc k w0 blk off dj wr) ∧ Aside (mergeRow (ltOf cf) n s f dj a = RM))
     case atStart => exact ⟨0, s2, n + 1, dk, rfl, rfl, (by show s2 = _; rw [HS2.out]; omega), by omega, by omega, hds, by omega, S1, HRM.out⟩
     case round =>
      clear S1 HRM
      obtain ⟨a, b, f2, dj, rfl, rfl, HB, ha, hkx2, hdj, hf2, S1, E1⟩ := hrel
      obtain ⟨f2, rfl⟩ : ∃ f', f2 = f' + 1 := ⟨f2 - 1, by omega⟩
      obtain ⟨m, hm⟩ : ∃ m, m = a + s := ⟨_, rfl⟩
      have rm : IntKind.i64.wrap ((a : Int) + (s : Int)) = (m : Int) := by rw [IntKind.wrap_i64]; omega
      have HM : Hid (m = a + s) := hm
      by_cases hltb : b ≤ n
      ·have hltz : (b : Int) ≤ (n : Int) := by omega
       obtain ⟨b2, hb2⟩ : ∃ b2, b2 = b + s2 := ⟨_, rfl⟩
       have rb : IntKind.i64.wrap ((b : Int) + (s2 : Int)) = (b2 : Int) := by have := HS2.out; rw [IntKind.wrap_i64]; omega
       have HB2 : Hid (b2 = b + s2) := hb2
       have h1 : a < m := by omega
       have h2 : m < b := by have := HB.out; omega
       have h4 : b - a ≤ 2 * s := by have := HB.out; omega
       have E3 : Aside (mergeRow (ltOf cf) n s f2 (symM (ltOf cf) (2 * s) dj a m b) b = RM) := by
        have e := E1.out
        rw [mergeRow, if_pos (by have := HB.out; omega), ← hm, ← HB.out] at e
        exact e
       clear hm hb2 E1
       go_wp2_with (go_at_call 120; refine (symMerge_calls k zE enc g cb cf eg blk off cap n d0 w0 HC.out R hs (by omega) (2 * s) a m b dj _ h4 hdj S1.out h1 h2 hltb).mono ?_; rintro e_ w' ⟨rfl, S2⟩)
       go_roundg (n - b)
       case measure => omega
       case rel => exact ⟨b, b2, f2, _, rfl, rfl, (by show b2 = _; rw [HB2.out, HS2.out]), hltb, by omega, by rw [symM_size]; exact hdj, by omega, S2, E3⟩
      ·have hltz : ¬ (b : Int) ≤ (n : Int) := by omega
       by_cases hmn : m < n
       ·have hmz : (m : Int) < (n : Int) := by omega
        have h1 : a < m := by omega
        have E3 : Aside (symM (ltOf cf) n dj a m n = RM) := by
         have e := E1.out
         rw [mergeRow, if_neg (by have := HB.out; omega), if_pos (by omega), ← hm] at e
         exact e
        clear hm E1
        go_wp2_with (go_at_call 120; refine (symMerge_calls k zE enc g cb cf eg blk off cap n d0 w0 HC.out R hs (by omega) n a m n dj _ (Nat.sub_le _ _) hdj S1.out h1 hmn (Nat.le_refl _)).mono ?_; rintro e_ w' ⟨rfl, S2⟩)
        have S4 : Aside (SWK enc k w0 blk off RM w') := by
         have := S2
         rw [E3.out] at this
         exact this
        go_roundg (n - s2)
        case measure => have := HS2.out; omega
        case rel => exact ⟨s2, f, RM, rfl, by have := HS2.out; omega, by omega, by have := HS2.out; omega, hrms, S4, E2⟩
       ·have hmz : ¬ (m : Int) < (n : Int) := by omega
        have E3 : Hid (dj = RM) := by
         have e := E1.out
         rw [mergeRow, if_neg (by have := HB.out; omega), if_neg (by omega)] at e
         exact e
        clear hm E1
        go_wp2_with fail
        have S4 : Aside (SWK enc k w0 blk off RM wr) := by
         have := S1.out
         rw [E3.out] at this
         exact this
        go_roundg (n - s2)
        case measure => have := HS2.out; omega
        case rel => exact ⟨s2, f, RM, rfl, by have := HS2.out; omega, by omega, by have := HS2.out; omega, hrms, S4, E2⟩
    ·have hltz : ¬ (s : Int) < (n : Int) := by omega
     have E2 : Hid (dk = RES) := by
      have e := E1.out
      rw [merges_stop _ _ _ _ _ hlt] at e
      exact e
     clear E1
     go_wp2
     go_end0
     refine ⟨rfl, ?_⟩
     rw [← E2.out]
     exact S1.out

set_option maxHeartbeats 4000000 in
set_option maxRecDepth 1000000 in
theorem SortStable_calls (k : Nat) (zE : ∀ w, (Go.sizeOf 101).run Try.prog w = .ok k w) (enc : α → List Value) (g : Nat) (cb : Array Value) (cf : α → α → Int) (eg : ∀ args w, (callFunc g args).run Try.prog w = .ok (.enter g args) w) (blk off cap : Nat) (n : Nat) (d : Array α) (w0 : World)
  (C : CmpLays Try.prog g cb enc k cf blk off n w0) (R : RowK enc k w0 blk off d) (hd : d.size = n) (hsz : n < 1000000000000000000) :
  Calls Try.prog 98 #[.slice (some ⟨blk, off, none⟩) n cap, .func (.func g) #[] cb] w0 fun e w' => e = .returned (.tuple #[]) ∧ SWK enc k w0 blk off (stableR (ltOf cf) d n) w' := by
 have hcon := fun (w : World) (S : SWK enc k w0 blk off d w) => stable_calls k zE enc g cb cf eg blk off cap n d d w0 w C R hd hd S hsz
 have S0 : Aside (SWK enc k w0 blk off d w0) := SWK.start R.hH
 have HCON : Aside _ := hcon
 clear C R hcon hd
 go_enter Try.func98, Try.ntmps98
 go_wp2_with (go_at_call 114; refine (HCON.out _ S0.out).mono ?_; rintro e_ w' ⟨rfl, S2⟩)
 go_end0
 exact ⟨rfl, S2⟩
end Go.Proofs.Ytimomemkbcidnaa.MStable
