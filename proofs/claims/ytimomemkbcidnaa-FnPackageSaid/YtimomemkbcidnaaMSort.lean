/- The library's stable sort over coins: slices.swapRangeCmpFunc, rotateCmpFunc, symMergeCmpFunc, stableCmpFunc, SortStableFunc. Conditions: what the comparison returns (CmpLays); the row's words (RowK, SWK). -/
import Derived.Test.YtimomemkbcidnaaProg
import Derived.Below
import Derived.OwnWalk
import Derived.Tactics
import Derived.WalkKit
import Derived.KernelRfl
import Derived.RowKit3
import Derived.Deep.LoopGhost
import Derived.Deep.DeepCutAuto
import Derived.Lib.Walk
import Derived.Shelf.SlSortCmp.KitK
import Derived.Sort.WalkB2
import Derived.Sort.WalkB12
namespace Go.Proofs.Ytimomemkbcidnaa.MSort
open Go.Shelf Go.RowKit Go.Lib Go.Sort
set_option linter.unusedVariables false
set_option linter.unusedSimpArgs false
variable {α : Type} [Inhabited α]
attribute [-simp] Try.sizeOf101

theorem mixedT : Try.prog.follows .mixedOrders = true := by kernel_rfl

/-! ### What they do, as plain functions -/
/-- n places from a on against n places from b on. -/
def swapR (d : Array α) (a b : Nat) : Nat → Array α
 | 0 => d
 | n + 1 => swp (swapR d a b n) (a + n) (b + n)
theorem swapR_size (d : Array α) (a b : Nat) : ∀ n, (swapR d a b n).size = d.size
 | 0 => rfl
 | n + 1 => by rw [swapR, size_swp, swapR_size d a b n]

set_option maxHeartbeats 4000000 in
set_option maxRecDepth 1000000 in
theorem swapRange_calls (k : Nat) (zE : ∀ w, (Go.sizeOf 101).run Try.prog w = .ok k w) (enc : α → List Value) (g : Nat) (cb : Array Value) (blk off cap a b n : Nat) (sz : Nat) (d0 d : Array α) (w0 w : World)
  (R : RowK enc k w0 blk off d0) (hs : d0.size = sz) (hd : d.size = sz) (S : SWK enc k w0 blk off d w) (ha : a + n ≤ sz) (hb : b + n ≤ sz) (hsz : sz < 4611686018427387904) :
  Calls Try.prog 125 #[.slice (some ⟨blk, off, none⟩) sz cap, .int .i64 a, .int .i64 b, .int .i64 n, .func (.func g) #[] cb] w fun e w' => e = .returned (.tuple #[]) ∧ SWK enc k w0 blk off (swapR d a b n) w' := by
 have mixed := mixedT
 have S0 : Aside (SWK enc k w0 blk off d w) := S
 clear S
 go_enter Try.func125, Try.ntmps125
 go_wp2
 go_loopg [10] n (fun kx s wr => ∃ (i : Nat), s = .int .i64 i ∧ i ≤ n ∧ n - i ≤ kx ∧ Aside (SWK enc k w0 blk off (swapR d a b i) wr))
 case atStart => exact ⟨0, rfl, by omega, by omega, S0⟩
 case round =>
  clear S0
  obtain ⟨i, rfl, h1, hkx, S1⟩ := hrel
  by_cases hlt : (i : Int) < (n : Int)
  ·have hds : (swapR d a b i).size = sz := by rw [swapR_size]; exact hd
   generalize hdk : swapR d a b i = dk at S1 hds
   have HDK : Hid (swapR d a b i = dk) := hdk
   clear hdk
   have ra : IntKind.i64.wrap ((a : Int) + (i : Int)) = ((a + i : Nat) : Int) := by rw [IntKind.wrap_i64]; omega
   have rb : IntKind.i64.wrap ((b : Int) + (i : Int)) = ((b + i : Nat) : Int) := by rw [IntKind.wrap_i64]; omega
   have ea : (((a + i : Nat) : Int)).toNat = a + i := by omega
   have eb : (((b + i : Nat) : Int)).toNat = b + i := by omega
   have pa : (0 : Int) ≤ ((a + i : Nat) : Int) := by omega
   have pb : (0 : Int) ≤ ((b + i : Nat) : Int) := by omega
   have ba : ((a + i : Nat) : Int) < (sz : Int) := by omega
   have bb : ((b + i : Nat) : Int) < (sz : Int) := by omega
   have S2 : Aside (SWK enc k w0 blk off (swp dk (a + i) (b + i)) ((wr.drew.setCells blk (off + (a + i) * k) (enc dk[b + i]!)).setCells blk (off + (b + i) * k) (enc dk[a + i]!))) := S1.out.swapped R (a + i) (b + i) (by omega) (by omega)
   have la := S1.out.ld1 R (by omega) Try.prog (a + i) (by omega)
   have lb := S1.out.ld1 R (by omega) Try.prog (b + i) (by omega)
   have sa := S1.out.st1 R (by omega) Try.prog (a + i) (by omega) dk[b + i]!
   have sb := S1.out.st2 R (by omega) Try.prog (a + i) (b + i) (by omega) (by omega) dk[b + i]! dk[a + i]!
   have na : (enc dk[a + i]!).length = k := R.hk _
   have nb : (enc dk[b + i]!).length = k := R.hk _
   generalize enc dk[a + i]! = cI at S2 la sb na
   generalize enc dk[b + i]! = cJ at S2 lb sa sb nb
   clear S1
   obtain ⟨p, hp⟩ : ∃ p, p = a + i := ⟨_, rfl⟩
   obtain ⟨q, hq⟩ : ∃ q, q = b + i := ⟨_, rfl⟩
   rw [← hp] at ra ea pa ba S2 la sa sb
   rw [← hq] at rb eb pb bb S2 lb sb
   have HP : Hid (p = a + i ∧ q = b + i) := ⟨hp, hq⟩
   clear hp hq
   go_wp2_with fail
   go_big_region_o
   clear la lb sa sb
   generalize (wr.drew.setCells blk (off + p * k) cJ).setCells blk (off + q * k) cI = w2 at S2 ⊢
   go_wp2
   go_roundg (n - (i + 1))
   case measure => omega
   case rel =>
    refine ⟨i + 1, by simp, by omega, Nat.le_refl _, ?_⟩
    obtain ⟨rfl, rfl⟩ := HP.out
    rw [swapR, HDK.out]
    exact S2
  ·have e : i = n := by omega
   subst e
   go_wp2
   go_end0
   exact ⟨rfl, S1.out⟩

/-- i places ahead of m against j places from m on. -/
def rotR (m : Nat) : Nat → Array α → Nat → Nat → Array α
 | 0, d, _, _ => d
 | f + 1, d, i, j => if i = j then swapR d (m - i) m i else if j < i then rotR m f (swapR d (m - i) m j) (i - j) j else rotR m f (swapR d (m - i) (m + j - i) i) i (j - i)
theorem rotR_size (m : Nat) : ∀ f (d : Array α) i j, (rotR m f d i j).size = d.size
 | 0, _, _, _ => rfl
 | f + 1, d, i, j => by
  rw [rotR]
  split
  ·rw [swapR_size]
  ·split
   ·rw [rotR_size m f, swapR_size]
   ·rw [rotR_size m f, swapR_size]

set_option maxHeartbeats 4000000 in
set_option maxRecDepth 1000000 in
theorem rotate_calls (k : Nat) (zE : ∀ w, (Go.sizeOf 101).run Try.prog w = .ok k w) (enc : α → List Value) (g : Nat) (cb : Array Value) (blk off cap a m b : Nat) (sz : Nat) (d0 d : Array α) (w0 w : World)
  (R : RowK enc k w0 blk off d0) (hs : d0.size = sz) (hd : d.size = sz) (S : SWK enc k w0 blk off d w) (h1 : a < m) (h2 : m < b) (h3 : b ≤ sz) (hsz : sz < 4611686018427387904) :
  Calls Try.prog 122 #[.slice (some ⟨blk, off, none⟩) sz cap, .int .i64 a, .int .i64 m, .int .i64 b, .func (.func g) #[] cb] w fun e w' => e = .returned (.tuple #[]) ∧ SWK enc k w0 blk off (rotR m (b - a) d (m - a) (b - m)) w' := by
 have S0 : Aside (SWK enc k w0 blk off d w) := S
 clear S
 have r1 : IntKind.i64.wrap ((m : Int) - (a : Int)) = ((m - a : Nat) : Int) := by rw [IntKind.wrap_i64]; omega
 have r2 : IntKind.i64.wrap ((b : Int) - (m : Int)) = ((b - m : Nat) : Int) := by rw [IntKind.wrap_i64]; omega
 go_enter Try.func122, Try.ntmps122
 go_wp2
 go_loopg [10, 11] (b - a) (fun kx s1 s2 wr => ∃ (i j f : Nat) (dk : Array α), s1 = .int .i64 i ∧ s2 = .int .i64 j ∧ 0 < i ∧ 0 < j ∧ i ≤ m ∧ m + j ≤ sz ∧ i + j ≤ kx ∧ i + j ≤ f ∧ dk.size = sz ∧ Aside (SWK enc k w0 blk off dk wr) ∧ Aside (rotR m f dk i j = rotR m (b - a) d (m - a) (b - m)))
 case atStart => exact ⟨m - a, b - m, b - a, d, rfl, rfl, by omega, by omega, by omega, by omega, by omega, by omega, hd, S0, rfl⟩
 case round =>
  clear S0 r1 r2
  obtain ⟨i, j, f, dk, rfl, rfl, hi, hj, him, hjm, hkx, hf, hds, S1, E1⟩ := hrel
  have ri : IntKind.i64.wrap ((m : Int) - (i : Int)) = ((m - i : Nat) : Int) := by rw [IntKind.wrap_i64]; omega
  obtain ⟨f, rfl⟩ : ∃ f', f = f' + 1 := ⟨f - 1, by omega⟩
  by_cases hne : i = j
  ·subst hne
   go_wp2_with (go_at_call 125; refine (swapRange_calls k zE enc g cb blk off cap (m - i) m i sz d0 dk w0 _ R hs hds S1.out (by omega) (by omega) (by omega)).mono ?_; rintro e w' ⟨rfl, S2⟩)
   go_end0
   refine ⟨rfl, ?_⟩
   have e := E1.out
   rw [rotR, if_pos rfl] at e
   rw [← e]
   exact S2
  ·have hnz : ¬ (i : Int) = (j : Int) := by omega
   by_cases hlt : j < i
   ·have hltz : (j : Int) < (i : Int) := by omega
    have rj : IntKind.i64.wrap ((i : Int) - (j : Int)) = ((i - j : Nat) : Int) := by rw [IntKind.wrap_i64]; omega
    go_wp2_with (go_at_call 125; refine (swapRange_calls k zE enc g cb blk off cap (m - i) m j sz d0 dk w0 _ R hs hds S1.out (by omega) (by omega) (by omega)).mono ?_; rintro e w' ⟨rfl, S2⟩)
    go_roundg (i - j + j)
    case measure => omega
    case rel =>
     have e := E1.out
     rw [rotR, if_neg hne, if_pos hlt] at e
     exact ⟨i - j, j, f, swapR dk (m - i) m j, by go_num, rfl, by omega, by omega, by omega, by omega, by omega, by omega, by rw [swapR_size]; exact hds, S2, e⟩
   ·have hltz : ¬ (j : Int) < (i : Int) := by omega
    have rj : IntKind.i64.wrap ((j : Int) - (i : Int)) = ((j - i : Nat) : Int) := by rw [IntKind.wrap_i64]; omega
    obtain ⟨mj, hmj⟩ : ∃ mj, mj = m + j := ⟨_, rfl⟩
    obtain ⟨q, hq⟩ : ∃ q, q = m + j - i := ⟨_, rfl⟩
    have rk : IntKind.i64.wrap ((m : Int) + (j : Int)) = (mj : Int) := by rw [IntKind.wrap_i64]; omega
    have rl : IntKind.i64.wrap ((mj : Int) - (i : Int)) = (q : Int) := by rw [IntKind.wrap_i64]; omega
    have b1 : q + i ≤ sz := by omega
    have HQ : Hid (q = m + j - i) := hq
    clear hmj hq
    go_wp2_with (go_at_call 125; refine (swapRange_calls k zE enc g cb blk off cap (m - i) q i sz d0 dk w0 _ R hs hds S1.out (by omega) b1 (by omega)).mono ?_; rintro e w' ⟨rfl, S2⟩)
    go_roundg (i + (j - i))
    case measure => omega
    case rel =>
     have e := E1.out
     rw [rotR, if_neg hne, if_neg hlt, ← HQ.out] at e
     exact ⟨i, j - i, f, swapR dk (m - i) q i, rfl, by go_num, by omega, by omega, by omega, by omega, by omega, by omega, by rw [swapR_size]; exact hds, S2, e⟩

/-! ### symMerge -/
/-- The first place of [i, j) from which on f is false, by halving. -/
def bis (f : Nat → Bool) : Nat → Nat → Nat → Nat
 | 0, i, _ => i
 | k + 1, i, j => if i < j then (if f ((i + j) / 2) = true then bis f k ((i + j) / 2 + 1) j else bis f k i ((i + j) / 2)) else i
theorem bis_end (f : Nat → Bool) (k i j : Nat) (h : ¬ i < j) : bis f k i j = i := by
 cases k with
 | zero => rfl
 | succ k => rw [bis, if_neg h]
def upR (d : Array α) (a : Nat) : Nat → Array α
 | 0 => d
 | n + 1 => swp (upR d a n) (a + n) (a + n + 1)
def downR (d : Array α) (m : Nat) : Nat → Array α
 | 0 => d
 | n + 1 => swp (downR d m n) (m - n) (m - n - 1)
theorem upR_size (d : Array α) (a : Nat) : ∀ n, (upR d a n).size = d.size
 | 0 => rfl
 | n + 1 => by rw [upR, size_swp, upR_size d a n]
theorem downR_size (d : Array α) (m : Nat) : ∀ n, (downR d m n).size = d.size
 | 0 => rfl
 | n + 1 => by rw [downR, size_swp, downR_size d m n]
theorem half (i j h : Nat) (e : h = (i + j) / 2) (hl : i < j) : i ≤ h ∧ h < j := by omega

set_option maxHeartbeats 4000000 in
set_option maxRecDepth 1000000 in
theorem symOne_calls (k : Nat) (zE : ∀ w, (Go.sizeOf 101).run Try.prog w = .ok k w) (enc : α → List Value) (g : Nat) (cb : Array Value) (cf : α → α → Int) (eg : ∀ args w, (callFunc g args).run Try.prog w = .ok (.enter g args) w) (blk off cap a m b : Nat) (sz : Nat) (d0 d : Array α) (w0 w : World)
  (C : CmpLays Try.prog g cb enc k cf blk off sz w0) (R : RowK enc k w0 blk off d0) (hs : d0.size = sz) (hd : d.size = sz) (S : SWK enc k w0 blk off d w) (h1 : m = a + 1) (h2 : m < b) (h3 : b ≤ sz) (hsz : sz < 4611686018427387904) :
  Calls Try.prog 120 #[.slice (some ⟨blk, off, none⟩) sz cap, .int .i64 a, .int .i64 m, .int .i64 b, .func (.func g) #[] cb] w fun e w' => e = .returned (.tuple #[]) ∧ SWK enc k w0 blk off (upR d a (bis (fun h => ltOf cf d[h]! d[a]!) (b - m) m b - 1 - a)) w' := by
 have mixed := mixedT
 have S0 : Aside (SWK enc k w0 blk off d w) := S
 have HC : Aside (CmpLays Try.prog g cb enc k cf blk off sz w0) := C
 clear S C
 have r1 : IntKind.i64.wrap ((m : Int) - (a : Int)) = 1 := by rw [IntKind.wrap_i64]; omega
 have H1 : Hid (m = a + 1) := h1
 have H2 : m < b ∧ a < m := ⟨h2, by omega⟩
 clear h1
 go_enter Try.func120, Try.ntmps120
 go_wp2
 go_loopg [10, 11] (b - m) (fun kx s1 s2 wr => ∃ (i j f : Nat), s1 = .int .i64 i ∧ s2 = .int .i64 j ∧ m ≤ i ∧ i ≤ j ∧ j ≤ b ∧ j - i ≤ kx ∧ j - i ≤ f ∧ Aside (SWK enc k w0 blk off d wr) ∧ Aside (bis (fun h => ltOf cf d[h]! d[a]!) f i j = bis (fun h => ltOf cf d[h]! d[a]!) (b - m) m b))
 case atStart => exact ⟨m, b, b - m, rfl, rfl, by omega, by omega, by omega, by omega, by omega, S0, rfl⟩
 case round =>
  clear S0 r1
  obtain ⟨i, j, f, rfl, rfl, hi, hj, hjb, hkx, hf, S1, E1⟩ := hrel
  by_cases hlt : i < j
  ·have hltz : (i : Int) < (j : Int) := by omega
   obtain ⟨f, rfl⟩ : ∃ f', f = f' + 1 := ⟨f - 1, by omega⟩
   obtain ⟨s, hs_⟩ : ∃ s, s = i + j := ⟨_, rfl⟩
   obtain ⟨h, hh⟩ : ∃ h, h = (i + j) / 2 := ⟨_, rfl⟩
   have hb := half i j h hh hlt
   have rs : IntKind.i64.wrap ((i : Int) + (j : Int)) = (s : Int) := by rw [IntKind.wrap_i64]; omega
   have us : IntKind.u64.wrap (s : Int) = (s : Int) := by rw [IntKind.wrap_u64]; omega
   have sh : (s : Int) / 2 = (h : Int) := by omega
   have uh : IntKind.i64.wrap (h : Int) = (h : Int) := by rw [IntKind.wrap_i64]; omega
   have uh1 : IntKind.i64.wrap ((h : Int) + 1) = ((h + 1 : Nat) : Int) := by rw [IntKind.wrap_i64]; omega
   have HH : Hid (h = (i + j) / 2) := hh
   clear hs_ hh
   have ph : (0 : Int) ≤ (h : Int) := by omega
   have bh : (h : Int) < (sz : Int) := by omega
   have eh : ((h : Int)).toNat = h := by omega
   have pa : (0 : Int) ≤ (a : Int) := by omega
   have ba : (a : Int) < (sz : Int) := by omega
   have ea : ((a : Int)).toNat = a := by omega
   obtain ⟨x, hx⟩ : ∃ x, x = d[h]! := ⟨_, rfl⟩
   obtain ⟨y, hy⟩ : ∃ x, x = d[a]! := ⟨_, rfl⟩
   have la := S1.out.ld R (by omega) Try.prog h (by omega)
   have lb := S1.out.ld R (by omega) Try.prog a (by omega)
   rw [← hx] at la
   rw [← hy] at lb
   have hc := S1.out.cmp HC.out (by omega) x y
   have EY : Aside (cf x y < 0 → bis (fun h => ltOf cf d[h]! d[a]!) f (h + 1) j = bis (fun h => ltOf cf d[h]! d[a]!) (b - m) m b) := fun hv => by
    have e := E1.out
    rw [bis, if_pos hlt, ← HH.out, if_pos (show ltOf cf d[h]! d[a]! = true from by rw [← hx, ← hy]; exact decide_eq_true hv)] at e
    exact e
   have EN : Aside (¬ cf x y < 0 → bis (fun h => ltOf cf d[h]! d[a]!) f i h = bis (fun h => ltOf cf d[h]! d[a]!) (b - m) m b) := fun hv => by
    have e := E1.out
    rw [bis, if_pos hlt, ← HH.out, if_neg (show ¬ ltOf cf d[h]! d[a]! = true from by rw [← hx, ← hy]; exact fun z => hv (of_decide_eq_true z))] at e
    exact e
   clear hx hy E1
   by_cases hlv : cf x y < 0
   ·go_wp2_with fail
    go_quiet_grown (first | (go_at_fn g; refine Calls.grown_of (hc _ _)))
    have S2 : Aside (SWK enc k w0 blk off d (grow (wr.drewN nq) osq)) := S1.out.grown nq osq
    clear la lb hc S1
    generalize grow (wr.drewN nq) osq = wu2 at S2 ⊢
    clear nq osq
    go_wp2
    go_roundg (j - (h + 1))
    case measure => omega
    case rel =>
     exact ⟨h + 1, j, f, by go_num, rfl, by omega, by omega, by omega, by omega, by omega, S2, EY.out (by omega)⟩
   ·go_wp2_with fail
    go_quiet_grown (first | (go_at_fn g; refine Calls.grown_of (hc _ _)))
    have S2 : Aside (SWK enc k w0 blk off d (grow (wr.drewN nq) osq)) := S1.out.grown nq osq
    clear la lb hc S1
    generalize grow (wr.drewN nq) osq = wu2 at S2 ⊢
    clear nq osq
    go_wp2
    go_roundg (h - i)
    case measure => omega
    case rel =>
     exact ⟨i, h, f, rfl, by go_num, by omega, by omega, by omega, by omega, by omega, S2, EN.out (by omega)⟩
  ·have hltz : ¬ (i : Int) < (j : Int) := by omega
   have e := E1.out
   rw [bis_end _ _ _ _ hlt] at e
   have EE : Hid (i = bis (fun h => ltOf cf d[h]! d[a]!) (b - m) m b) := e
   clear e E1
   have r1 : IntKind.i64.wrap ((i : Int) - 1) = ((i - 1 : Nat) : Int) := by rw [IntKind.wrap_i64]; omega
   obtain ⟨n, hn⟩ : ∃ n, n = i - 1 - a := ⟨_, rfl⟩
   obtain ⟨e1, he1⟩ : ∃ e1, e1 = i - 1 := ⟨_, rfl⟩
   rw [← he1] at r1
   have HN : Hid (n = i - 1 - a) := hn
   have hn1 : a + n = e1 := by omega
   have hn2 : e1 < b := by omega
   clear hn he1
   go_wp2
   go_loopg [13] n (fun kx s wr => ∃ (c p : Nat), s = .int .i64 p ∧ p = a + c ∧ c ≤ n ∧ n - c ≤ kx ∧ Aside (SWK enc k w0 blk off (upR d a c) wr))
   case atStart => exact ⟨0, a, rfl, rfl, by omega, by omega, S1⟩
   case round =>
    clear S1
    obtain ⟨c, p, rfl, hp, hc, hkx, S1⟩ := hrel
    by_cases hlt : p < e1
    ·have hltz : (p : Int) < (e1 : Int) := by omega
     have hds : (upR d a c).size = sz := by rw [upR_size]; exact hd
     generalize hdk : upR d a c = dk at S1 hds
     have HDK : Hid (upR d a c = dk) := hdk
     clear hdk
     obtain ⟨q, hq⟩ : ∃ q, q = p + 1 := ⟨_, rfl⟩
     have rb : IntKind.i64.wrap ((p : Int) + 1) = (q : Int) := by rw [IntKind.wrap_i64]; omega
     have ea : ((p : Int)).toNat = p := by omega
     have eb : ((q : Int)).toNat = q := by omega
     have pa : (0 : Int) ≤ (p : Int) := by omega
     have pb : (0 : Int) ≤ (q : Int) := by omega
     have ba : (p : Int) < (sz : Int) := by omega
     have bb : (q : Int) < (sz : Int) := by omega
     have S2 : Aside (SWK enc k w0 blk off (swp dk p q) ((wr.drew.setCells blk (off + p * k) (enc dk[q]!)).setCells blk (off + q * k) (enc dk[p]!))) := S1.out.swapped R p q (by omega) (by omega)
     have la := S1.out.ld1 R (by omega) Try.prog p (by omega)
     have lb := S1.out.ld1 R (by omega) Try.prog q (by omega)
     have sa := S1.out.st1 R (by omega) Try.prog p (by omega) dk[q]!
     have sb := S1.out.st2 R (by omega) Try.prog p q (by omega) (by omega) dk[q]! dk[p]!
     have na : (enc dk[p]!).length = k := R.hk _
     have nb : (enc dk[q]!).length = k := R.hk _
     generalize enc dk[p]! = cI at S2 la sb na
     generalize enc dk[q]! = cJ at S2 lb sa sb nb
     have HP : Hid (p = a + c ∧ q = p + 1) := ⟨hp, hq⟩
     have hq' : c < n := by omega
     clear S1 hp hq hn1
     go_wp2_with fail
     go_big_region_o
     clear la lb sa sb
     generalize (wr.drew.setCells blk (off + p * k) cJ).setCells blk (off + q * k) cI = w2 at S2 ⊢
     go_wp2
     go_roundg (n - (c + 1))
     case measure => omega
     case rel =>
      refine ⟨c + 1, q, by go_num, by rw [HP.out.2, HP.out.1]; rfl, by omega, Nat.le_refl _, ?_⟩
      rw [upR, HDK.out, ← HP.out.1, ← HP.out.2]
      exact S2
    ·have hltz : ¬ (p : Int) < (e1 : Int) := by omega
     have e : c = n := by omega
     subst e
     go_wp2
     (try simp only [Exit.inBlock, Exit.then]); refine bodyPost_ret (results_none rfl _ _ _) rfl ?_
     refine ⟨rfl, ?_⟩
     rw [← EE.out, ← HN.out]
     exact S1.out
set_option maxHeartbeats 4000000 in
set_option maxRecDepth 1000000 in
theorem symLast_calls (k : Nat) (zE : ∀ w, (Go.sizeOf 101).run Try.prog w = .ok k w) (enc : α → List Value) (g : Nat) (cb : Array Value) (cf : α → α → Int) (eg : ∀ args w, (callFunc g args).run Try.prog w = .ok (.enter g args) w) (blk off cap a m b : Nat) (sz : Nat) (d0 d : Array α) (w0 w : World)
  (C : CmpLays Try.prog g cb enc k cf blk off sz w0) (R : RowK enc k w0 blk off d0) (hs : d0.size = sz) (hd : d.size = sz) (S : SWK enc k w0 blk off d w) (h1 : b = m + 1) (h2 : a + 1 < m) (h3 : b ≤ sz) (hsz : sz < 4611686018427387904) :
  Calls Try.prog 120 #[.slice (some ⟨blk, off, none⟩) sz cap, .int .i64 a, .int .i64 m, .int .i64 b, .func (.func g) #[] cb] w fun e w' => e = .returned (.tuple #[]) ∧ SWK enc k w0 blk off (downR d m (m - bis (fun h => !ltOf cf d[m]! d[h]!) (m - a) a m)) w' := by
 have mixed := mixedT
 have S0 : Aside (SWK enc k w0 blk off d w) := S
 have HC : Aside (CmpLays Try.prog g cb enc k cf blk off sz w0) := C
 clear S C
 obtain ⟨ma, hma⟩ : ∃ ma, ma = m - a := ⟨_, rfl⟩
 have r0 : IntKind.i64.wrap ((m : Int) - (a : Int)) = (ma : Int) := by rw [IntKind.wrap_i64]; omega
 have r01 : ((ma : Int) == 1) = false := by rw [beq_eq_false_iff_ne]; omega
 have r1 : IntKind.i64.wrap ((b : Int) - (m : Int)) = 1 := by rw [IntKind.wrap_i64]; omega
 clear hma
 have H1 : Hid (b = m + 1) := h1
 have H2 : m < b ∧ a < m := ⟨by omega, by omega⟩
 clear h1
 go_enter Try.func120, Try.ntmps120
 go_wp2
 go_loopg [14, 15] (m - a) (fun kx s1 s2 wr => ∃ (i j f : Nat), s1 = .int .i64 i ∧ s2 = .int .i64 j ∧ a ≤ i ∧ i ≤ j ∧ j ≤ m ∧ j - i ≤ kx ∧ j - i ≤ f ∧ Aside (SWK enc k w0 blk off d wr) ∧ Aside (bis (fun h => !ltOf cf d[m]! d[h]!) f i j = bis (fun h => !ltOf cf d[m]! d[h]!) (m - a) a m))
 case atStart => exact ⟨a, m, m - a, rfl, rfl, by omega, by omega, by omega, by omega, by omega, S0, rfl⟩
 case round =>
  clear S0 r1 r0
  obtain ⟨i, j, f, rfl, rfl, hi, hj, hjb, hkx, hf, S1, E1⟩ := hrel
  by_cases hlt : i < j
  ·have hltz : (i : Int) < (j : Int) := by omega
   obtain ⟨f, rfl⟩ : ∃ f', f = f' + 1 := ⟨f - 1, by omega⟩
   obtain ⟨s, hs_⟩ : ∃ s, s = i + j := ⟨_, rfl⟩
   obtain ⟨h, hh⟩ : ∃ h, h = (i + j) / 2 := ⟨_, rfl⟩
   have hb := half i j h hh hlt
   have rs : IntKind.i64.wrap ((i : Int) + (j : Int)) = (s : Int) := by rw [IntKind.wrap_i64]; omega
   have us : IntKind.u64.wrap (s : Int) = (s : Int) := by rw [IntKind.wrap_u64]; omega
   have sh : (s : Int) / 2 = (h : Int) := by omega
   have uh : IntKind.i64.wrap (h : Int) = (h : Int) := by rw [IntKind.wrap_i64]; omega
   have uh1 : IntKind.i64.wrap ((h : Int) + 1) = ((h + 1 : Nat) : Int) := by rw [IntKind.wrap_i64]; omega
   have HH : Hid (h = (i + j) / 2) := hh
   clear hs_ hh
   have ph : (0 : Int) ≤ (h : Int) := by omega
   have bh : (h : Int) < (sz : Int) := by omega
   have eh : ((h : Int)).toNat = h := by omega
   have pa : (0 : Int) ≤ (m : Int) := by omega
   have ba : (m : Int) < (sz : Int) := by omega
   have ea : ((m : Int)).toNat = m := by omega
   obtain ⟨x, hx⟩ : ∃ x, x = d[m]! := ⟨_, rfl⟩
   obtain ⟨y, hy⟩ : ∃ x, x = d[h]! := ⟨_, rfl⟩
   have la := S1.out.ld R (by omega) Try.prog m (by omega)
   have lb := S1.out.ld R (by omega) Try.prog h (by omega)
   rw [← hx] at la
   rw [← hy] at lb
   have hc := S1.out.cmp HC.out (by omega) x y
   have EY : Aside (¬ cf x y < 0 → bis (fun h => !ltOf cf d[m]! d[h]!) f (h + 1) j = bis (fun h => !ltOf cf d[m]! d[h]!) (m - a) a m) := fun hv => by
    have e := E1.out
    rw [bis, if_pos hlt, ← HH.out, if_pos (show (!ltOf cf d[m]! d[h]!) = true from by rw [← hx, ← hy]; show (!decide (cf x y < 0)) = true; rw [decide_eq_false hv]; rfl)] at e
    exact e
   have EN : Aside (cf x y < 0 → bis (fun h => !ltOf cf d[m]! d[h]!) f i h = bis (fun h => !ltOf cf d[m]! d[h]!) (m - a) a m) := fun hv => by
    have e := E1.out
    rw [bis, if_pos hlt, ← HH.out, if_neg (show ¬ (!ltOf cf d[m]! d[h]!) = true from by rw [← hx, ← hy]; show ¬ (!decide (cf x y < 0)) = true; rw [decide_eq_true hv]; decide)] at e
    exact e
   clear hx hy E1
   by_cases hlv : cf x y < 0
   ·have hd_ : decide (cf x y < 0) = true := decide_eq_true hlv
    go_wp2_with fail
    go_quiet_grown (first | (go_at_fn g; refine Calls.grown_of (hc _ _)))
    have S2 : Aside (SWK enc k w0 blk off d (grow (wr.drewN nq) osq)) := S1.out.grown nq osq
    clear la lb hc S1
    generalize grow (wr.drewN nq) osq = wu2 at S2 ⊢
    clear nq osq
    go_wp2
    go_roundg (h - i)
    case measure => omega
    case rel =>
     exact ⟨i, h, f, rfl, by go_num, by omega, by omega, by omega, by omega, by omega, S2, EN.out (by omega)⟩
   ·have hd_ : decide (cf x y < 0) = false := decide_eq_false (by omega)
    go_wp2_with fail
    go_quiet_grown (first | (go_at_fn g; refine Calls.grown_of (hc _ _)))
    have S2 : Aside (SWK enc k w0 blk off d (grow (wr.drewN nq) osq)) := S1.out.grown nq osq
    clear la lb hc S1
    generalize grow (wr.drewN nq) osq = wu2 at S2 ⊢
    clear nq osq
    go_wp2
    go_roundg (j - (h + 1))
    case measure => omega
    case rel =>
     exact ⟨h + 1, j, f, by go_num, rfl, by omega, by omega, by omega, by omega, by omega, S2, EY.out (by omega)⟩
  ·have hltz : ¬ (i : Int) < (j : Int) := by omega
   have e := E1.out
   rw [bis_end _ _ _ _ hlt] at e
   have EE : Hid (i = bis (fun h => !ltOf cf d[m]! d[h]!) (m - a) a m) := e
   clear e E1
   obtain ⟨n, hn⟩ : ∃ n, n = m - i := ⟨_, rfl⟩
   have HN : Hid (n = m - i) := hn
   have hn1 : i + n = m := by omega
   clear hn
   go_wp2
   go_loopg [17] n (fun kx s wr => ∃ (c p : Nat), s = .int .i64 p ∧ p + c = m ∧ c ≤ n ∧ n - c ≤ kx ∧ Aside (SWK enc k w0 blk off (downR d m c) wr))
   case atStart => exact ⟨0, m, rfl, rfl, by omega, by omega, S1⟩
   case round =>
    clear S1
    obtain ⟨c, p, rfl, hp, hc, hkx, S1⟩ := hrel
    by_cases hlt : i < p
    ·have hltz : (i : Int) < (p : Int) := by omega
     have hds : (downR d m c).size = sz := by rw [downR_size]; exact hd
     generalize hdk : downR d m c = dk at S1 hds
     have HDK : Hid (downR d m c = dk) := hdk
     clear hdk
     obtain ⟨q, hq⟩ : ∃ q, q = p - 1 := ⟨_, rfl⟩
     have rb : IntKind.i64.wrap ((p : Int) - 1) = (q : Int) := by rw [IntKind.wrap_i64]; omega
     have ea : ((p : Int)).toNat = p := by omega
     have eb : ((q : Int)).toNat = q := by omega
     have pa : (0 : Int) ≤ (p : Int) := by omega
     have pb : (0 : Int) ≤ (q : Int) := by omega
     have ba : (p : Int) < (sz : Int) := by omega
     have bb : (q : Int) < (sz : Int) := by omega
     have S2 : Aside (SWK enc k w0 blk off (swp dk p q) ((wr.drew.setCells blk (off + p * k) (enc dk[q]!)).setCells blk (off + q * k) (enc dk[p]!))) := S1.out.swapped R p q (by omega) (by omega)
     have la := S1.out.ld1 R (by omega) Try.prog p (by omega)
     have lb := S1.out.ld1 R (by omega) Try.prog q (by omega)
     have sa := S1.out.st1 R (by omega) Try.prog p (by omega) dk[q]!
     have sb := S1.out.st2 R (by omega) Try.prog p q (by omega) (by omega) dk[q]! dk[p]!
     have na : (enc dk[p]!).length = k := R.hk _
     have nb : (enc dk[q]!).length = k := R.hk _
     generalize enc dk[p]! = cI at S2 la sb na
     generalize enc dk[q]! = cJ at S2 lb sa sb nb
     have HP : Hid (p = m - c ∧ q = m - c - 1) := ⟨by omega, by omega⟩
     have hq' : c < n := by omega
     have hq2 : q + (c + 1) = m := by omega
     clear S1 hp hq hn1
     go_wp2_with fail
     go_big_region_o
     clear la lb sa sb
     generalize (wr.drew.setCells blk (off + p * k) cJ).setCells blk (off + q * k) cI = w2 at S2 ⊢
     go_wp2
     go_roundg (n - (c + 1))
     case measure => omega
     case rel =>
      refine ⟨c + 1, q, by go_num, hq2, by omega, Nat.le_refl _, ?_⟩
      rw [downR, HDK.out, ← HP.out.2, ← HP.out.1]
      exact S2
    ·have hltz : ¬ (i : Int) < (p : Int) := by omega
     have e : c = n := by omega
     subst e
     go_wp2
     (try simp only [Exit.inBlock, Exit.then]); refine bodyPost_ret (results_none rfl _ _ _) rfl ?_
     refine ⟨rfl, ?_⟩
     rw [← EE.out, ← HN.out]
     exact S1.out

/-- Where the ways part: places [s, m) go behind [m, e). -/
def symS (lt : α → α → Bool) (d : Array α) (a m b : Nat) : Nat :=
 bis (fun c => !lt d[(a + b) / 2 + m - 1 - c]! d[c]!) (b - a) (if (a + b) / 2 < m then (a + b) / 2 + m - b else a) (if (a + b) / 2 < m then (a + b) / 2 else m)
def symTail (step : Array α → Nat → Nat → Nat → Array α) (d : Array α) (a m b mid s e : Nat) : Array α :=
 let d1 := if s < m ∧ m < e then rotR m (e - s) d (m - s) (e - m) else d
 let d2 := if a < s ∧ s < mid then step d1 a s mid else d1
 if mid < e ∧ e < b then step d2 mid e b else d2
def symM (lt : α → α → Bool) : Nat → Array α → Nat → Nat → Nat → Array α
 | 0, d, _, _, _ => d
 | f + 1, d, a, m, b =>
  if m = a + 1 then upR d a (bis (fun h => lt d[h]! d[a]!) (b - m) m b - 1 - a)
  else if b = m + 1 then downR d m (m - bis (fun h => !lt d[m]! d[h]!) (m - a) a m)
  else symTail (symM lt f) d a m b ((a + b) / 2) (symS lt d a m b) ((a + b) / 2 + m - symS lt d a m b)
theorem symTail_size (step : Array α → Nat → Nat → Nat → Array α) (h : ∀ d a m b, (step d a m b).size = d.size) (d : Array α) (a m b mid s e : Nat) : (symTail step d a m b mid s e).size = d.size := by
 unfold symTail
 simp only []
 split <;> split <;> split <;> simp only [h, rotR_size]
theorem symM_size (lt : α → α → Bool) : ∀ f (d : Array α) a m b, (symM lt f d a m b).size = d.size
 | 0, _, _, _, _ => rfl
 | f + 1, d, a, m, b => by
  rw [symM]
  split
  ·rw [upR_size]
  ·split
   ·rw [downR_size]
   ·exact symTail_size _ (fun d a m b => symM_size lt f d a m b) _ _ _ _ _ _ _

set_option maxHeartbeats 8000000 in
set_option maxRecDepth 1000000 in
theorem symMerge_calls (k : Nat) (zE : ∀ w, (Go.sizeOf 101).run Try.prog w = .ok k w) (enc : α → List Value) (g : Nat) (cb : Array Value) (cf : α → α → Int) (eg : ∀ args w, (callFunc g args).run Try.prog w = .ok (.enter g args) w) (blk off cap : Nat) (sz : Nat) (d0 : Array α) (w0 : World)
  (C : CmpLays Try.prog g cb enc k cf blk off sz w0) (R : RowK enc k w0 blk off d0) (hs : d0.size = sz) (hsz : sz < 4611686018427387904) : ∀ (F a m b : Nat) (d : Array α) (w : World), b - a ≤ F → d.size = sz → SWK enc k w0 blk off d w → a < m → m < b → b ≤ sz →
  Calls Try.prog 120 #[.slice (some ⟨blk, off, none⟩) sz cap, .int .i64 a, .int .i64 m, .int .i64 b, .func (.func g) #[] cb] w fun e w' => e = .returned (.tuple #[]) ∧ SWK enc k w0 blk off (symM (ltOf cf) F d a m b) w' := by
 intro F
 induction F with
 | zero => intro a m b d w hf hd S h1 h2 h3; omega
 | succ F ih =>
 intro a m b d w hf hd S h1 h2 h3
 by_cases c1 : m = a + 1
 ·rw [symM, if_pos c1]
  exact symOne_calls k zE enc g cb cf eg blk off cap a m b sz d0 d w0 w C R hs hd S c1 h2 h3 hsz
 by_cases c2 : b = m + 1
 ·rw [symM, if_neg c1, if_pos c2]
  exact symLast_calls k zE enc g cb cf eg blk off cap a m b sz d0 d w0 w C R hs hd S c2 (by omega) h3 hsz
 rw [symM, if_neg c1, if_neg c2]
 have mixed := mixedT
 have S0 : Aside (SWK enc k w0 blk off d w) := S
 have HC : Aside (CmpLays Try.prog g cb enc k cf blk off sz w0) := C
 have IH : Aside _ := ih
 clear S C ih
 obtain ⟨mid, hmid⟩ : ∃ mid, mid = (a + b) / 2 := ⟨_, rfl⟩
 obtain ⟨S_, hS_⟩ : ∃ S_, S_ = symS (ltOf cf) d a m b := ⟨_, rfl⟩
 rw [← hmid, ← hS_]
 obtain ⟨RES, hRES⟩ : ∃ RES, RES = symTail (symM (ltOf cf) F) d a m b mid S_ (mid + m - S_) := ⟨_, rfl⟩
 rw [← hRES]
 have HR : Hid (RES = symTail (symM (ltOf cf) F) d a m b mid S_ (mid + m - S_)) := hRES
 obtain ⟨n, hn⟩ : ∃ n, n = mid + m := ⟨_, rfl⟩
 obtain ⟨st, hst⟩ : ∃ st, st = if mid < m then n - b else a := ⟨_, rfl⟩
 obtain ⟨rt, hrt⟩ : ∃ rt, rt = if mid < m then mid else m := ⟨_, rfl⟩
 have HS : Hid (S_ = bis (fun c => !ltOf cf d[n - 1 - c]! d[c]!) (b - a) st rt) := by
  show S_ = _
  rw [hS_, hst, hrt, hn, hmid]; rfl
 clear hRES hS_
 obtain ⟨ma, hma⟩ : ∃ ma, ma = m - a := ⟨_, rfl⟩
 have r0 : IntKind.i64.wrap ((m : Int) - (a : Int)) = (ma : Int) := by rw [IntKind.wrap_i64]; omega
 have r01 : ((ma : Int) == 1) = false := by rw [beq_eq_false_iff_ne]; omega
 obtain ⟨bm, hbm⟩ : ∃ bm, bm = b - m := ⟨_, rfl⟩
 have r2 : IntKind.i64.wrap ((b : Int) - (m : Int)) = (bm : Int) := by rw [IntKind.wrap_i64]; omega
 have r21 : ((bm : Int) == 1) = false := by rw [beq_eq_false_iff_ne]; omega
 obtain ⟨s2, hs2⟩ : ∃ s2, s2 = a + b := ⟨_, rfl⟩
 have rs : IntKind.i64.wrap ((a : Int) + (b : Int)) = (s2 : Int) := by rw [IntKind.wrap_i64]; omega
 have us : IntKind.u64.wrap (s2 : Int) = (s2 : Int) := by rw [IntKind.wrap_u64]; omega
 have sh : (s2 : Int) / 2 = (mid : Int) := by omega
 have uh : IntKind.i64.wrap (mid : Int) = (mid : Int) := by rw [IntKind.wrap_i64]; omega
 have rn : IntKind.i64.wrap ((mid : Int) + (m : Int)) = (n : Int) := by rw [IntKind.wrap_i64]; omega
 have hmid1 : a < mid ∧ mid < b := by omega
 have HM : Hid (ma = m - a ∧ bm = b - m ∧ mid = (a + b) / 2 ∧ n = mid + m ∧ s2 = a + b ∧ ¬ m = a + 1 ∧ ¬ b = m + 1) := ⟨hma, hbm, hmid, hn, hs2, c1, c2⟩
 have HB1 : st ≤ rt ∧ rt ≤ m ∧ rt ≤ mid ∧ a ≤ st ∧ n < b + st + 1 := by
  rw [hst, hrt]; split <;> omega
 have HN2 : m + mid = n := by omega
 have HST : Hid (st = if mid < m then n - b else a) := hst
 have HRT : Hid (rt = if mid < m then mid else m) := hrt
 clear hma hbm hmid hs2 hn c1 c2 hst hrt
 go_enter Try.func120, Try.ntmps120
 go_upto_if 140 with (fail)
 go_cut [20, 21] (fun s20 s21 wx => s20 = .int .i64 (st : Int) ∧ s21 = .int .i64 (rt : Int) ∧ wx = w)
 case first => as_aux_lemma =>
  by_cases hm : mid < m
  ·have hmz : (mid : Int) < (m : Int) := by omega
   have e1 := HST.out
   have e2 := HRT.out
   rw [if_pos hm] at e1 e2
   have hbn : b ≤ n := by have := HM.out; omega
   have rx : IntKind.i64.wrap ((n : Int) - (b : Int)) = (st : Int) := by rw [IntKind.wrap_i64]; omega
   have E2 : Hid (rt = mid) := e2
   clear e1 e2
   go_wp2_with fail
   go_meet
   exact ⟨rfl, by rw [E2.out], rfl⟩
  ·have hmz : ¬ (mid : Int) < (m : Int) := by omega
   have e1 := HST.out
   have e2 := HRT.out
   rw [if_neg hm] at e1 e2
   have E2 : Hid (st = a ∧ rt = m) := ⟨e1, e2⟩
   clear e1 e2
   go_wp2_with fail
   go_meet
   exact ⟨by rw [E2.out.1], by rw [E2.out.2], rfl⟩
 case rest => as_aux_lemma =>
  obtain ⟨rfl, rfl, rfl⟩ := hcut
  clear r0 r01 r2 r21 rs us sh uh rn
  obtain ⟨p, hp⟩ : ∃ p, p = n - 1 := ⟨_, rfl⟩
  have hp1 : p + 1 = n := by omega
  have rp : IntKind.i64.wrap ((n : Int) - 1) = (p : Int) := by rw [IntKind.wrap_i64]; omega
  clear hp
  go_wp2
  go_loopg [20, 21] (b - a) (fun kx s1 s2 wr => ∃ (i j f : Nat), s1 = .int .i64 i ∧ s2 = .int .i64 j ∧ st ≤ i ∧ i ≤ j ∧ j ≤ rt ∧ j - i ≤ kx ∧ j - i ≤ f ∧ Aside (SWK enc k w0 blk off d wr) ∧ Aside (bis (fun c => !ltOf cf d[n - 1 - c]! d[c]!) f i j = S_))
  case atStart => exact ⟨st, rt, b - a, rfl, rfl, by omega, by omega, by omega, by omega, by omega, S0, HS.out.symm⟩
  case round =>
   clear S0 rp
   obtain ⟨i, j, f, rfl, rfl, hi, hj, hjb, hkx, hf, S1, E1⟩ := hrel
   by_cases hlt : i < j
   ·have hltz : (i : Int) < (j : Int) := by omega
    obtain ⟨f, rfl⟩ : ∃ f', f = f' + 1 := ⟨f - 1, by omega⟩
    obtain ⟨s, hs_⟩ : ∃ s, s = i + j := ⟨_, rfl⟩
    obtain ⟨h, hh⟩ : ∃ h, h = (i + j) / 2 := ⟨_, rfl⟩
    have hb := half i j h hh hlt
    have rs : IntKind.i64.wrap ((i : Int) + (j : Int)) = (s : Int) := by rw [IntKind.wrap_i64]; omega
    have us : IntKind.u64.wrap (s : Int) = (s : Int) := by rw [IntKind.wrap_u64]; omega
    have sh : (s : Int) / 2 = (h : Int) := by omega
    have uh : IntKind.i64.wrap (h : Int) = (h : Int) := by rw [IntKind.wrap_i64]; omega
    have uh1 : IntKind.i64.wrap ((h : Int) + 1) = ((h + 1 : Nat) : Int) := by rw [IntKind.wrap_i64]; omega
    have HH : Hid (h = (i + j) / 2) := hh
    clear hs_ hh
    obtain ⟨q, hq⟩ : ∃ q, q = n - 1 - h := ⟨_, rfl⟩
    have hq1 : q + h = p := by omega
    have hqs : q < sz := by have := HM.out; omega
    have rq : IntKind.i64.wrap ((p : Int) - (h : Int)) = (q : Int) := by rw [IntKind.wrap_i64]; omega
    have ph : (0 : Int) ≤ (h : Int) := by omega
    have bh : (h : Int) < (sz : Int) := by omega
    have eh : ((h : Int)).toNat = h := by omega
    have pa : (0 : Int) ≤ (q : Int) := by omega
    have ba : (q : Int) < (sz : Int) := by omega
    have ea : ((q : Int)).toNat = q := by omega
    obtain ⟨x, hx⟩ : ∃ x, x = d[q]! := ⟨_, rfl⟩
    obtain ⟨y, hy⟩ : ∃ x, x = d[h]! := ⟨_, rfl⟩
    have la := S1.out.ld R (by omega) Try.prog q (by omega)
    have lb := S1.out.ld R (by omega) Try.prog h (by omega)
    rw [← hx] at la
    rw [← hy] at lb
    have hc := S1.out.cmp HC.out (by omega) x y
    have EY : Aside (¬ cf x y < 0 → bis (fun c => !ltOf cf d[n - 1 - c]! d[c]!) f (h + 1) j = S_) := fun hv => by
     have e := E1.out
     rw [bis, if_pos hlt, ← HH.out, if_pos (show (!ltOf cf d[n - 1 - h]! d[h]!) = true from by rw [← hq, ← hx, ← hy]; show (!decide (cf x y < 0)) = true; rw [decide_eq_false hv]; rfl)] at e
     exact e
    have EN : Aside (cf x y < 0 → bis (fun c => !ltOf cf d[n - 1 - c]! d[c]!) f i h = S_) := fun hv => by
     have e := E1.out
     rw [bis, if_pos hlt, ← HH.out, if_neg (show ¬ (!ltOf cf d[n - 1 - h]! d[h]!) = true from by rw [← hq, ← hx, ← hy]; show ¬ (!decide (cf x y < 0)) = true; rw [decide_eq_true hv]; decide)] at e
     exact e
    clear hx hy E1 hq
    by_cases hlv : cf x y < 0
    ·have hd_ : decide (cf x y < 0) = true := decide_eq_true hlv
     go_wp2_with fail
     go_quiet_grown (first | (go_at_fn g; refine Calls.grown_of (hc _ _)))
     have S2 : Aside (SWK enc k w0 blk off d (grow (wr.drewN nq) osq)) := S1.out.grown nq osq
     clear la lb hc S1
     generalize grow (wr.drewN nq) osq = wu2 at S2 ⊢
     clear nq osq
     go_wp2
     go_roundg (h - i)
     case measure => omega
     case rel =>
      exact ⟨i, h, f, rfl, by go_num, by omega, by omega, by omega, by omega, by omega, S2, EN.out (by omega)⟩
    ·have hd_ : decide (cf x y < 0) = false := decide_eq_false (by omega)
     go_wp2_with fail
     go_quiet_grown (first | (go_at_fn g; refine Calls.grown_of (hc _ _)))
     have S2 : Aside (SWK enc k w0 blk off d (grow (wr.drewN nq) osq)) := S1.out.grown nq osq
     clear la lb hc S1
     generalize grow (wr.drewN nq) osq = wu2 at S2 ⊢
     clear nq osq
     go_wp2
     go_roundg (j - (h + 1))
     case measure => omega
     case rel =>
      exact ⟨h + 1, j, f, by go_num, rfl, by omega, by omega, by omega, by omega, by omega, S2, EY.out (by omega)⟩
   ·have hltz : ¬ (i : Int) < (j : Int) := by omega
    have e := E1.out
    rw [bis_end _ _ _ _ hlt] at e
    subst e
    clear E1 HS
    obtain ⟨e, he⟩ : ∃ e, e = n - i := ⟨_, rfl⟩
    have he1 : e + i = n := by omega
    have re : IntKind.i64.wrap ((n : Int) - (i : Int)) = (e : Int) := by rw [IntKind.wrap_i64]; omega
    have HE : Hid (e = n - i) := he
    clear he
    obtain ⟨d1, hd1⟩ : ∃ d1, d1 = if i < m ∧ m < e then rotR m (e - i) d (m - i) (e - m) else d := ⟨_, rfl⟩
    have hsd1 : d1.size = sz := by rw [hd1]; split <;> simp only [rotR_size, symM_size, hd]
    obtain ⟨bd1, hbd1⟩ : ∃ bd1 : Bool, bd1 = decide (i < m ∧ m < e) := ⟨_, rfl⟩
    have HBd1 : Hid (bd1 = decide (i < m ∧ m < e)) := hbd1
    have HDd1 : Hid (d1 = if i < m ∧ m < e then rotR m (e - i) d (m - i) (e - m) else d) := hd1
    clear hd1 hbd1
    go_upto_region 39 with (fail)
    go_cut [185] (fun s_ wx => s_ = .bool bd1 ∧ wx = wr)
    case first => as_aux_lemma =>
     by_cases g1 : i < m
     ·by_cases g2 : m < e
      ·have g1z : (i : Int) < (m : Int) := by omega
       have g2z : (m : Int) < (e : Int) := by omega
       have g3 : bd1 = true := by rw [HBd1.out]; exact decide_eq_true ⟨g1, g2⟩
       subst g3
       go_wp2_with fail
       go_meet
       exact ⟨rfl, rfl⟩
      ·have g1z : (i : Int) < (m : Int) := by omega
       have g2z : ¬ (m : Int) < (e : Int) := by omega
       have g3 : bd1 = false := by rw [HBd1.out]; exact decide_eq_false (fun z => g2 z.2)
       subst g3
       go_wp2_with fail
       go_meet
       exact ⟨rfl, rfl⟩
     ·have g1z : ¬ (i : Int) < (m : Int) := by omega
      have g3 : bd1 = false := by rw [HBd1.out]; exact decide_eq_false (fun z => g1 z.1)
      subst g3
      go_wp2_with fail
      go_meet
      exact ⟨rfl, rfl⟩
    case rest => as_aux_lemma =>
    obtain ⟨rfl, hw⟩ := hcut
    subst hw
    go_upto_if 185 with (fail)
    go_cut [24] (fun s24 wx => s24 = .int .i64 (e : Int) ∧ Aside (SWK enc k w0 blk off d1 wx))
    case first => as_aux_lemma =>
     cases bd1 with
     | true =>
      have gg := of_decide_eq_true HBd1.out.symm
      have hd_ := HDd1.out
      rw [if_pos gg] at hd_
      have HD2 : Hid (d1 = rotR m (e - i) d (m - i) (e - m)) := hd_
      clear hd_
      go_wp2_with (go_at_call 122; refine (rotate_calls k zE enc g cb blk off cap i m e sz d0 d w0 _ R hs hd S1.out (by omega) (by omega) (by have := HM.out; omega) (by omega)).mono ?_; rintro e_ w' ⟨rfl, S2⟩)
      go_meet
      exact ⟨rfl, by rw [HD2.out]; exact S2⟩
     | false =>
      have gg := of_decide_eq_false HBd1.out.symm
      have hd_ := HDd1.out
      rw [if_neg gg] at hd_
      have HD2 : Hid (d1 = d) := hd_
      clear hd_
      go_wp2_with fail
      go_meet
      exact ⟨rfl, by rw [HD2.out]; exact S1.out⟩
    case rest => as_aux_lemma =>
    obtain ⟨rfl, SSd1⟩ := hcut
    rename World => wcA
    clear S1
    obtain ⟨d2, hd2⟩ : ∃ d2, d2 = if a < i ∧ i < mid then symM (ltOf cf) F d1 a i mid else d1 := ⟨_, rfl⟩
    have hsd2 : d2.size = sz := by rw [hd2]; split <;> simp only [rotR_size, symM_size, hsd1]
    obtain ⟨bd2, hbd2⟩ : ∃ bd2 : Bool, bd2 = decide (a < i ∧ i < mid) := ⟨_, rfl⟩
    have HBd2 : Hid (bd2 = decide (a < i ∧ i < mid)) := hbd2
    have HDd2 : Hid (d2 = if a < i ∧ i < mid then symM (ltOf cf) F d1 a i mid else d1) := hd2
    clear hd2 hbd2
    go_upto_region 41 with (fail)
    go_cut [199] (fun s_ wx => s_ = .bool bd2 ∧ wx = wcA)
    case first => as_aux_lemma =>
     by_cases g1 : a < i
     ·by_cases g2 : i < mid
      ·have g1z : (a : Int) < (i : Int) := by omega
       have g2z : (i : Int) < (mid : Int) := by omega
       have g3 : bd2 = true := by rw [HBd2.out]; exact decide_eq_true ⟨g1, g2⟩
       subst g3
       go_wp2_with fail
       go_meet
       exact ⟨rfl, rfl⟩
      ·have g1z : (a : Int) < (i : Int) := by omega
       have g2z : ¬ (i : Int) < (mid : Int) := by omega
       have g3 : bd2 = false := by rw [HBd2.out]; exact decide_eq_false (fun z => g2 z.2)
       subst g3
       go_wp2_with fail
       go_meet
       exact ⟨rfl, rfl⟩
     ·have g1z : ¬ (a : Int) < (i : Int) := by omega
      have g3 : bd2 = false := by rw [HBd2.out]; exact decide_eq_false (fun z => g1 z.1)
      subst g3
      go_wp2_with fail
      go_meet
      exact ⟨rfl, rfl⟩
    case rest => as_aux_lemma =>
    obtain ⟨rfl, hw⟩ := hcut
    subst hw
    go_upto_if 199 with (fail)
    go_cut [24] (fun s24 wx => s24 = .int .i64 (e : Int) ∧ Aside (SWK enc k w0 blk off d2 wx))
    case first => as_aux_lemma =>
     cases bd2 with
     | true =>
      have gg := of_decide_eq_true HBd2.out.symm
      have hd_ := HDd2.out
      rw [if_pos gg] at hd_
      have HD2 : Hid (d2 = symM (ltOf cf) F d1 a i mid) := hd_
      clear hd_
      go_wp2_with (go_at_call 120; refine (IH.out a i mid d1 _ (by omega) hsd1 SSd1.out (by omega) (by omega) (by omega)).mono ?_; rintro e_ w' ⟨rfl, S2⟩)
      go_meet
      exact ⟨rfl, by rw [HD2.out]; exact S2⟩
     | false =>
      have gg := of_decide_eq_false HBd2.out.symm
      have hd_ := HDd2.out
      rw [if_neg gg] at hd_
      have HD2 : Hid (d2 = d1) := hd_
      clear hd_
      go_wp2_with fail
      go_meet
      exact ⟨rfl, by rw [HD2.out]; exact SSd1.out⟩
    case rest => as_aux_lemma =>
    obtain ⟨rfl, SSd2⟩ := hcut
    rename World => wcB
    clear SSd1
    obtain ⟨d3, hd3⟩ : ∃ d3, d3 = if mid < e ∧ e < b then symM (ltOf cf) F d2 mid e b else d2 := ⟨_, rfl⟩
    have hsd3 : d3.size = sz := by rw [hd3]; split <;> simp only [rotR_size, symM_size, hsd2]
    obtain ⟨bd3, hbd3⟩ : ∃ bd3 : Bool, bd3 = decide (mid < e ∧ e < b) := ⟨_, rfl⟩
    have HBd3 : Hid (bd3 = decide (mid < e ∧ e < b)) := hbd3
    have HDd3 : Hid (d3 = if mid < e ∧ e < b then symM (ltOf cf) F d2 mid e b else d2) := hd3
    clear hd3 hbd3
    go_upto_region 43 with (fail)
    go_cut [213] (fun s_ wx => s_ = .bool bd3 ∧ wx = wcB)
    case first => as_aux_lemma =>
     by_cases g1 : mid < e
     ·by_cases g2 : e < b
      ·have g1z : (mid : Int) < (e : Int) := by omega
       have g2z : (e : Int) < (b : Int) := by omega
       have g3 : bd3 = true := by rw [HBd3.out]; exact decide_eq_true ⟨g1, g2⟩
       subst g3
       go_wp2_with fail
       go_meet
       exact ⟨rfl, rfl⟩
      ·have g1z : (mid : Int) < (e : Int) := by omega
       have g2z : ¬ (e : Int) < (b : Int) := by omega
       have g3 : bd3 = false := by rw [HBd3.out]; exact decide_eq_false (fun z => g2 z.2)
       subst g3
       go_wp2_with fail
       go_meet
       exact ⟨rfl, rfl⟩
     ·have g1z : ¬ (mid : Int) < (e : Int) := by omega
      have g3 : bd3 = false := by rw [HBd3.out]; exact decide_eq_false (fun z => g1 z.1)
      subst g3
      go_wp2_with fail
      go_meet
      exact ⟨rfl, rfl⟩
    case rest => as_aux_lemma =>
    obtain ⟨rfl, hw⟩ := hcut
    subst hw
    have hr := HR.out
    have hr2 : RES = d3 := by rw [hr, HDd3.out, HDd2.out, HDd1.out, ← (show e = mid + m - i from by have := HM.out; omega)]; rfl
    have HR2 : Hid (RES = d3) := hr2
    clear hr hr2
    cases bd3 with
    | true =>
     have gg := of_decide_eq_true HBd3.out.symm
     have hd_ := HDd3.out
     rw [if_pos gg] at hd_
     have HD2 : Hid (d3 = symM (ltOf cf) F d2 mid e b) := hd_
     clear hd_
     go_wp2_with (go_at_call 120; refine (IH.out mid e b d2 _ (by omega) hsd2 SSd2.out (by omega) (by omega) (by omega)).mono ?_; rintro e_ w' ⟨rfl, S2⟩)
     go_end0
     refine ⟨rfl, ?_⟩
     rw [HR2.out, HD2.out]
     exact S2
    | false =>
     have gg := of_decide_eq_false HBd3.out.symm
     have hd_ := HDd3.out
     rw [if_neg gg] at hd_
     have HD2 : Hid (d3 = d2) := hd_
     clear hd_
     go_wp2_with fail
     go_end0
     refine ⟨rfl, ?_⟩
     rw [HR2.out, HD2.out]
     exact SSd2.out
end Go.Proofs.Ytimomemkbcidnaa.MSort
