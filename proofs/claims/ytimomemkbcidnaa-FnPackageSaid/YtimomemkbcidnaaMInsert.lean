/- The shelf's insertion sort at this program's coins: the table of numbers, and the facts that it wants. -/
import Derived.Test.YtimomemkbcidnaaProg
import Derived.KernelRfl
import Derived.Shelf.SlSortCmp.KitK
namespace Go.Proofs.Ytimomemkbcidnaa.MInsert
open Go.Shelf Go.RowKit Go.Lib Go.Sort
def insRen : Go.Shelf.Ren := ⟨fun x => if x = 20 then 119 else x, fun x => if x = 22 then 98 else if x = 24 then 101 else if x = 25 then 134 else x, fun x => x⟩
theorem insLay : SlLaysF0.n20 Try.prog insRen := {
 mixed := by kernel_rfl
 f20 := ⟨Try.f119.name, by decide, Try.func119.trans (by kernel_rfl)⟩
 t0 := by kernel_rfl
 a0 := fun w => by kernel_rfl
 z0 := fun w => by kernel_rfl
 v0 := fun w => by kernel_rfl
 t3 := by kernel_rfl
 a3 := fun w => by kernel_rfl
 z3 := fun w => by kernel_rfl
 v3 := fun w => by kernel_rfl
 t4 := by kernel_rfl
 a4 := fun w => by kernel_rfl
 z4 := fun w => by kernel_rfl
 v4 := fun w => by kernel_rfl
 t22 := by kernel_rfl
 a22 := fun w => by kernel_rfl
 z22 := fun w => by kernel_rfl
 v22 := fun w => by kernel_rfl
 t25 := by kernel_rfl
 a25 := fun w => by kernel_rfl
 z25 := fun w => by kernel_rfl
 v25 := fun w => by kernel_rfl }
variable {α : Type} [Inhabited α]
theorem insInner_size (lt : α → α → Bool) (a : Nat) : ∀ j (d : Array α), (insInner lt a j d).size = d.size
 | 0, d => by rw [insInner]
 | j + 1, d => by
  rw [insInner]
  split
  ·rw [insInner_size lt a j, size_swp]
  ·rfl
theorem insOuter_size (lt : α → α → Bool) (a b : Nat) : ∀ n i (d : Array α), b - i = n → (insOuter lt a b i d).size = d.size
 | 0, i, d, h => by rw [insOuter, if_neg (by omega)]
 | n + 1, i, d, h => by rw [insOuter, if_pos (by omega), insOuter_size lt a b n (i + 1) _ (by omega), insInner_size]
theorem insertion_size (lt : α → α → Bool) (d : Array α) (a b : Nat) : (Sort.insertionSort lt d a b).size = d.size := insOuter_size lt a b _ _ d rfl
theorem insertion_calls (k : Nat) (zE : ∀ w, (Go.sizeOf 101).run Try.prog w = .ok k w) (enc : α → List Value) (g : Nat) (cb : Array Value) (cf : α → α → Int) (eg : ∀ args w, (callFunc g args).run Try.prog w = .ok (.enter g args) w) (blk off cap a b : Nat) (sz : Nat) (d0 d : Array α) (w0 w : World)
  (C : CmpLays Try.prog g cb enc k cf blk off sz w0) (R : RowK enc k w0 blk off d0) (hs : d0.size = sz) (hd : d.size = sz) (S : SWK enc k w0 blk off d w) (h1 : a ≤ b) (h3 : b ≤ sz) (hsz : sz < 4611686018427387904) :
  Calls Try.prog 119 #[.slice (some ⟨blk, off, none⟩) sz cap, .int .i64 a, .int .i64 b, .func (.func g) #[] cb] w fun e w' => e = .returned (.tuple #[]) ∧ SWK enc k w0 blk off (Sort.insertionSort (ltOf cf) d a b) w' := by
 subst hd
 have hC : CmpLays Try.prog g cb enc k cf blk off d.size w := by
  intro m os dk hk x y
  obtain ⟨m', os', e⟩ := S.on R.hblk m dk os hk
  rw [e]
  exact C m' os' dk hk x y
 have h := AnyQ.insertionSortCmpFunc insLay k Try.isAgg101 zE enc R.hk R.h1 cf g cb blk off cap a b d w eg hC (S.holds R.hblk R.hH hs.symm) (S.lt R.hblk) h1 h3 hsz
 refine h.mono ?_
 rintro e w' ⟨he, n, os, rfl⟩
 exact ⟨he, S.on R.hblk n _ os (by rw [insertion_size])⟩
end Go.Proofs.Ytimomemkbcidnaa.MInsert
