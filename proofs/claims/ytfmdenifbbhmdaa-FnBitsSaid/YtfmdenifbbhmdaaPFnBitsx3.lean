-- Written by a program of this session (a changed print); Lean checks it.
import Derived.Test.YtfmdenifbbhmdaaPFnBitsx0
import Derived.Test.YtfmdenifbbhmdaaPFnBitsx1
import Derived.Test.YtfmdenifbbhmdaaPFnBitsx2
namespace Go.Proofs.Ytfmdenifbbhmdaa.PFnBits
open Go.RowKit Go.Proofs.YtfmdenifbbhmdaaW.PrintWords Go.Proofs.YtfmdenifbbhmdaaW.PrintLast Go.Proofs.YtfmdenifbbhmdaaW.PrintMore
attribute [local go_sem] max2_int min2_int max_two min_two max_three min_three max_four min_four   -- for this text's walks alone
set_option linter.unusedVariables false
set_option linter.unusedSimpArgs false

open Go.Proofs.YtfmdenifbbhmdaaW.PrintWords renaming blk_drewN → bN, blk_drew → bD, blk_alloc → bA, below_alloc → wA, pw_below_drewN → wN, below_drew1 → wD, below_set → wS, blk_below → bB, blk_lt → bL
open Go.Proofs.YtfmdenifbbhmdaaW.PrintWords.Kd renaming R_alloc → Ra, R_drewN → Rn, R_drew → Rd, R_below → RB
open Go.Proofs.YtfmdenifbbhmdaaW.PrintWords.Aside0 renaming mk → AM
open Act renaming put → p0
open List renaming setIfInBounds_toArray → p1, set_cons_zero → p2, set_cons_succ → p3
open Go.Proofs.YtfmdenifbbhmdaaW.PrintLast renaming i64_w → p4, i32_w → p5
open Bool renaming true → Y, false → Z
/-! ### laws_FnBits: function 10 -/
mutual
def laws_FnBits.l0 : Nat → List Int → List Int → Int → ByteArray → Int → Option (Bool)
 | 0,_,_,_,_,_ => none
 | k + 1,x3,x4,x6,x169000,x169001 => if x6 < (x3.length : Int) then (if 0 ≤ x6 then (if x6 < (x4.length : Int) then ((impl_PutBits.f x169000 x169001 (rd x3 x6) (rd x4 x6)).bind fun bt171 => (if bt171.2.2 = true then ((impl_OutOk.f bt171.1 bt171.2.1).bind fun t175 => (if t175 = true then (if bt171.2.1 = (wrap64 (x169001 + (rd x4 x6))) then (laws_FnBits.l0 k x3 x4 (wrap64 (x6 + 1)) bt171.1 bt171.2.1) else (some false)) else (some false))) else (some false))) else (none)) else (none)) else (laws_FnBits.l1 k x3 x4 0 x169000 x169001 x169000 0)
def laws_FnBits.l1 : Nat → List Int → List Int → Int → ByteArray → Int → ByteArray → Int → Option (Bool)
 | 0,_,_,_,_,_,_,_ => none
 | k + 1,x3,x4,x10,x169000,x169001,x178000,x178001 => if x10 < (x3.length : Int) then (if 0 ≤ x10 then (if x10 < (x4.length : Int) then ((impl_TakeBits.f k x178000 x178001 (rd x4 x10)).bind fun bt179 => (if bt179.2.2.2 = true then (if bt179.1 = (rd x3 x10) then (laws_FnBits.l1 k x3 x4 (wrap64 (x10 + 1)) x169000 x169001 bt179.2.1 bt179.2.2.1) else (some false)) else (some false))) else (none)) else (none)) else (if 0 < (x4.length : Int) then (if 0 < (x3.length : Int) then ((impl_PutCode.f (⟨#[]⟩ : ByteArray) 0 (rd x3 0) (rd x4 0)).bind fun bt187 => (laws_FnBits.l2 k x3 (rd x4 0) bt187.2.2 0 0 x169000 x169001 x178000 x178001 bt187.1 0)) else (none)) else (none))
def laws_FnBits.l2 : Nat → List Int → Int → Bool → Int → Int → ByteArray → Int → ByteArray → Int → ByteArray → Int → Option (Bool)
 | 0,_,_,_,_,_,_,_,_,_,_,_ => none
 | k + 1,x3,x14,x16,x17,x19,x169000,x169001,x178000,x178001,x192000,x192001 => if x19 < x14 then ((impl_TakeBits.f k x192000 x192001 1).bind fun bt192 => (if bt192.2.2.2 = true then (laws_FnBits.l2 k x3 x14 x16 (wrap64 ((wrap64 (2 * x17)) + bt192.1)) (wrap64 (x19 + 1)) x169000 x169001 x178000 x178001 bt192.2.1 bt192.2.2.1) else (some false))) else (if x16 = true then (if 0 < (x3.length : Int) then (if x17 = (rd x3 0) then (some (x178001 == x169001)) else (some false)) else (none)) else (some false))
end
def laws_FnBits.f (k : Nat) (l0 : List Int) : Option (Bool):=(laws_big.f l0).bind fun t161 => (if t161 = true then (some true) else ((spec_DrawSome.f k l0).bind fun bt162 => (laws_FnBits.l0 k bt162.1 bt162.2 0 (⟨#[]⟩ : ByteArray) 0)))
theorem laws_FnBits.mono_l : ∀ k,(∀ y0 y1 y2 y3 y4,LeO (laws_FnBits.l0 k y0 y1 y2 y3 y4) (laws_FnBits.l0 (k + 1) y0 y1 y2 y3 y4)) ∧ (∀ y0 y1 y2 y3 y4 y5 y6,LeO (laws_FnBits.l1 k y0 y1 y2 y3 y4 y5 y6) (laws_FnBits.l1 (k + 1) y0 y1 y2 y3 y4 y5 y6)) ∧ (∀ y0 y1 y2 y3 y4 y5 y6 y7 y8 y9 y10,LeO (laws_FnBits.l2 k y0 y1 y2 y3 y4 y5 y6 y7 y8 y9 y10) (laws_FnBits.l2 (k + 1) y0 y1 y2 y3 y4 y5 y6 y7 y8 y9 y10))
 | 0 => ⟨fun _ _ _ _ _ r h => by simp [laws_FnBits.l0] at h,fun _ _ _ _ _ _ _ r h => by simp [laws_FnBits.l1] at h,fun _ _ _ _ _ _ _ _ _ _ _ r h => by simp [laws_FnBits.l2] at h⟩
 | k + 1 => by
  obtain ⟨ih0,ih1,ih2⟩:=laws_FnBits.mono_l k
  refine ⟨?_,?_,?_⟩
  ·
   intro y0 y1 y2 y3 y4
   unfold laws_FnBits.l0
   repeat' first
   | (with_reducible exact ih0 _ _ _ _ _)
   | (with_reducible exact ih1 _ _ _ _ _ _ _)
   | (with_reducible exact ih2 _ _ _ _ _ _ _ _ _ _ _)
   | (with_reducible exact impl_TakeBits.mono _ _ _ _)
   | (with_reducible exact spec_DrawSome.mono _ _)
   | (with_reducible exact LeO.refl _)
   | (with_reducible exact LeO.none _)
   | (with_reducible refine LeO.ite ?_ ?_)
   | (with_reducible refine LeO.bind ?_ (fun _ => ?_))
   | exact ih0 _ _ _ _ _
   | exact ih1 _ _ _ _ _ _ _
   | exact ih2 _ _ _ _ _ _ _ _ _ _ _
   | exact impl_TakeBits.mono _ _ _ _
   | exact spec_DrawSome.mono _ _
   | exact LeO.none _
   | refine LeO.ite ?_ ?_
   | refine LeO.bind ?_ (fun _ => ?_)
  ·
   intro y0 y1 y2 y3 y4 y5 y6
   unfold laws_FnBits.l1
   repeat' first
   | (with_reducible exact ih0 _ _ _ _ _)
   | (with_reducible exact ih1 _ _ _ _ _ _ _)
   | (with_reducible exact ih2 _ _ _ _ _ _ _ _ _ _ _)
   | (with_reducible exact impl_TakeBits.mono _ _ _ _)
   | (with_reducible exact spec_DrawSome.mono _ _)
   | (with_reducible exact LeO.refl _)
   | (with_reducible exact LeO.none _)
   | (with_reducible refine LeO.ite ?_ ?_)
   | (with_reducible refine LeO.bind ?_ (fun _ => ?_))
   | exact ih0 _ _ _ _ _
   | exact ih1 _ _ _ _ _ _ _
   | exact ih2 _ _ _ _ _ _ _ _ _ _ _
   | exact impl_TakeBits.mono _ _ _ _
   | exact spec_DrawSome.mono _ _
   | exact LeO.none _
   | refine LeO.ite ?_ ?_
   | refine LeO.bind ?_ (fun _ => ?_)
  ·
   intro y0 y1 y2 y3 y4 y5 y6 y7 y8 y9 y10
   unfold laws_FnBits.l2
   repeat' first
   | (with_reducible exact ih0 _ _ _ _ _)
   | (with_reducible exact ih1 _ _ _ _ _ _ _)
   | (with_reducible exact ih2 _ _ _ _ _ _ _ _ _ _ _)
   | (with_reducible exact impl_TakeBits.mono _ _ _ _)
   | (with_reducible exact spec_DrawSome.mono _ _)
   | (with_reducible exact LeO.refl _)
   | (with_reducible exact LeO.none _)
   | (with_reducible refine LeO.ite ?_ ?_)
   | (with_reducible refine LeO.bind ?_ (fun _ => ?_))
   | exact ih0 _ _ _ _ _
   | exact ih1 _ _ _ _ _ _ _
   | exact ih2 _ _ _ _ _ _ _ _ _ _ _
   | exact impl_TakeBits.mono _ _ _ _
   | exact spec_DrawSome.mono _ _
   | exact LeO.none _
   | refine LeO.ite ?_ ?_
   | refine LeO.bind ?_ (fun _ => ?_)
theorem laws_FnBits.mono : ∀ a0 k,LeO (laws_FnBits.f k a0) (laws_FnBits.f (k + 1) a0) := by
 intro a0 k
 obtain ⟨ih0,ih1,ih2⟩:=laws_FnBits.mono_l k
 unfold laws_FnBits.f
 repeat' first
   | (with_reducible exact ih0 _ _ _ _ _)
   | (with_reducible exact ih1 _ _ _ _ _ _ _)
   | (with_reducible exact ih2 _ _ _ _ _ _ _ _ _ _ _)
   | (with_reducible exact impl_TakeBits.mono _ _ _ _)
   | (with_reducible exact spec_DrawSome.mono _ _)
   | (with_reducible exact LeO.refl _)
   | (with_reducible exact LeO.none _)
   | (with_reducible refine LeO.ite ?_ ?_)
   | (with_reducible refine LeO.bind ?_ (fun _ => ?_))
   | exact ih0 _ _ _ _ _
   | exact ih1 _ _ _ _ _ _ _
   | exact ih2 _ _ _ _ _ _ _ _ _ _ _
   | exact impl_TakeBits.mono _ _ _ _
   | exact spec_DrawSome.mono _ _
   | exact LeO.none _
   | refine LeO.ite ?_ ?_
   | refine LeO.bind ?_ (fun _ => ?_)
def laws_FnBits.T8 : Bool × List (List Nat × List Nat):=(true,[([],[]),([],[]),([],[]),([1,2],[1,2]),([3],[3]),([],[]),([],[]),([5,6],[5,6]),([7],[7]),([0,4,8],[0,4,8]),([9],[9]),([10],[10]),([10],[10]),([],[]),([13,11,9,0,1,2,3,4,5,6,7,8,9,10,11,13],[11,13]),([12,14,0,1,2,3,4,5,6,7,8,9,10,11,12,13,14],[12])])
def laws_FnBits.B8 : List Nat:=[0,0,0,6,14,0,0,96,224,511,1023,2047,2047,0,12287,32767]
theorem laws_FnBits.tab8 : rtab .any (opsOf Try.f10 8) = laws_FnBits.T8:=by kernel_rfl
theorem laws_FnBits.bits8 : waitsOk laws_FnBits.T8.2 laws_FnBits.B8 = true:=by kernel_rfl
def laws_FnBits.T9 : Bool × List (List Nat × List Nat):=(true,[([],[]),([0],[0]),([1],[1]),([2],[2]),([3,2,2],[2,3]),([4,2],[2,4]),([2,5],[2,5]),([6,4],[6]),([7],[7]),([8,7],[7,8]),([7],[7]),([10,7],[7,10]),([7],[7]),([7],[7]),([12,13,7],[7,12,13]),([14,7],[7,14]),([11,15,7],[7,11,15]),([9,16,7],[7,9,16]),([7,17],[7,17])])
def laws_FnBits.B9 : List Nat:=[0,1,3,7,15,31,63,127,255,511,255,1279,255,255,12543,28927,64767,131071,262143]
theorem laws_FnBits.tab9 : rtab .any (opsOf Try.f10 9) = laws_FnBits.T9:=by kernel_rfl
theorem laws_FnBits.bits9 : waitsOk laws_FnBits.T9.2 laws_FnBits.B9 = true:=by kernel_rfl
def laws_FnBits.T16 : Bool × List (List Nat × List Nat):=(true,[([],[]),([],[]),([],[]),([1,2],[1,2]),([3],[3]),([0,4],[0,4]),([5],[5]),([6],[6]),([6],[6]),([6],[6]),([],[]),([7,5,0,1,2,3,4,5,6,7,10],[7]),([10,8,11,0,1,2,3,4,5,6,7,8,10,11],[8,10]),([9,12,0,1,2,3,4,5,6,7,8,9,10,11,12],[9])])
def laws_FnBits.B16 : List Nat:=[0,0,0,6,14,31,63,127,127,127,0,1279,3583,8191]
theorem laws_FnBits.tab16 : rtab .any (opsOf Try.f10 16) = laws_FnBits.T16:=by kernel_rfl
theorem laws_FnBits.bits16 : waitsOk laws_FnBits.T16.2 laws_FnBits.B16 = true:=by kernel_rfl
set_option maxHeartbeats 8000000 in
set_option maxRecDepth 100000 in
theorem laws_FnBits.calls (k : Nat) (A0 : Option Addr) (c0 : Nat) (l0 : List Int) (r : Bool) (w : World) (hr0 : Kd.C (Kd.int .u8) w A0 l0.length l0) (hc0 : l0.length ≤ c0) (h : laws_FnBits.f k l0 = some r) :
  Calls Try.prog 10 #[.slice A0 l0.length c0] w fun e w' => e = .returned (.bool r) ∧ Below w.heap.size w w' := by
 have hu50:=Try.underlying50
 have hu61:=Try.underlying61
 have HR0:=AM hr0
 have HC0:=AM hc0
 clear hr0 hc0;have HB:=AM (Below.refl w.heap.size w)
 have H : ((laws_big.f l0).bind fun t161 => (if t161 = true then (some true) else ((spec_DrawSome.f k l0).bind fun bt162 => (laws_FnBits.l0 k bt162.1 bt162.2 0 (⟨#[]⟩ : ByteArray) 0)))) = some r:=h
 clear h;replace H:=Option.bind_eq_some_iff.mp H
 obtain ⟨t161,A20,H⟩:=H
 replace H : (if t161 = true then (some true) else ((spec_DrawSome.f k l0).bind fun bt162 => (laws_FnBits.l0 k bt162.1 bt162.2 0 (⟨#[]⟩ : ByteArray) 0))) = some r:=H
 have A2:=AM A20
 clear A20;by_cases c3 : t161 = true
 ·subst c3;have H1 : (some true) = some r:=by rw [if_pos rfl] at H;exact H
  clear H;have H:=H1
  clear H1;obtain rfl:=Option.some.inj H
  go_enter Try.func10,Try.ntmps10
  go_wp2_with (first|((with_reducible refine gate_callee (f:=26) rfl ?_);refine goesL_ (some 24) rfl rfl Try.func26 (by kernel_rfl) rfl #[.slice A0 l0.length c0] rfl (by (try simp only [List.map_toArray,List.map_cons,List.map_nil]);first|done|rfl|(simp only [List.length_drop,List.length_take];rfl)) ?_;(with_reducible refine (laws_big.calls _ _ l0 true _ ?side1 ?side2 A2.out).mono ?_);(case side1 => repeat (first|exact HR0.out|(with_reducible refine Kd.C_alloc ?_ _)|(with_reducible refine Kd.C_drewN ?_ _)|(with_reducible refine Kd.C_drew ?_)));(case side2 => exact HC0.out);rintro e w' ⟨rfl,⟨nd,rfl⟩⟩;refine ⟨_,rfl,?_⟩))
  go_ret
  exact ⟨by first|rfl|(simp [errW_none,errW_some] <;> rfl)|(simp [*,errW_none,errW_some] <;> rfl),by repeat (first|(with_reducible first|exact HB.out|apply wA|apply wN|apply wD)|exact HB.out)⟩
 replace c3:=Bool.eq_false_iff.mpr c3
 subst c3;have H1 : ((spec_DrawSome.f k l0).bind fun bt162 => (laws_FnBits.l0 k bt162.1 bt162.2 0 (⟨#[]⟩ : ByteArray) 0)) = some r:=by rw [if_neg (show ¬ (false = true) by decide)] at H;exact H
 clear H;have H:=H1
 clear H1;replace H:=Option.bind_eq_some_iff.mp H
 obtain ⟨⟨t162,t163⟩,A40,H⟩:=H
 replace H : (laws_FnBits.l0 k t162 t163 0 (⟨#[]⟩ : ByteArray) 0) = some r:=H
 have A4:=AM A40
 clear A40;have H':=AM H
 clear H;go_enter Try.func10,Try.ntmps10
 go_wp2_with (first|((with_reducible refine gate_callee (f:=26) rfl ?_);refine goesL_ (some 24) rfl rfl Try.func26 (by kernel_rfl) rfl #[.slice A0 l0.length c0] rfl (by (try simp only [List.map_toArray,List.map_cons,List.map_nil]);first|done|rfl|(simp only [List.length_drop,List.length_take];rfl)) ?_;(with_reducible refine (laws_big.calls _ _ l0 false _ ?side1 ?side2 A2.out).mono ?_);(case side1 => repeat (first|exact HR0.out|(with_reducible refine Kd.C_alloc ?_ _)|(with_reducible refine Kd.C_drewN ?_ _)|(with_reducible refine Kd.C_drew ?_)));(case side2 => exact HC0.out);rintro e w' ⟨rfl,⟨nd,rfl⟩⟩;refine ⟨_,rfl,?_⟩)|((with_reducible refine gate_callee (f:=41) rfl ?_);refine goesL_ (some 27) rfl rfl Try.func41 (by kernel_rfl) rfl #[.slice A0 l0.length c0] rfl (by (try simp only [List.map_toArray,List.map_cons,List.map_nil]);first|done|rfl|(simp only [List.length_drop,List.length_take];rfl)) ?_;(with_reducible refine (spec_DrawSome.calls k _ _ l0 t162 t163 _ ?side1 ?side2 A4.out).mono ?_);(case side1 => repeat (first|exact HR0.out|(with_reducible refine Kd.C_alloc ?_ _)|(with_reducible refine Kd.C_drewN ?_ _)|(with_reducible refine Kd.C_drew ?_)));(case side2 => exact HC0.out);rintro e w5 ⟨v164,v166,rfl,ho0,ho1,hb⟩;refine ⟨_,rfl,?_⟩;have n0_:=AM (Kd.R_lower ho0 (below_size (by repeat (first|(with_reducible first|exact HB.out|apply wA|apply wN|apply wD)|exact HB.out))));have n1_:=AM (Kd.R_lower ho1 (below_size (by repeat (first|(with_reducible first|exact HB.out|apply wA|apply wN|apply wD)|exact HB.out))));have n2_:=AM (below_step (by repeat (first|(with_reducible first|exact HB.out|apply wA|apply wN|apply wD)|exact HB.out)) hb);clear HB;have HO165:=n0_;have HO167:=n1_;have HB:=n2_;clear n0_ n1_ n2_;(try clear hb);(try clear hb2);(try clear hk);(try clear hi);(try clear ho0);(try clear ho1))|((with_reducible refine gate_dst (N:=5) rfl ?_);refine box_event ?hg (N:=5) ?hd (cs:=#[.string (⟨#[]⟩ : ByteArray),.int .i64 0]) (t:=50) ?hr ?_;(case hd => rfl);(case hg => rfl);(case hr => first|(go_simp;done)|(go_simp;rfl));intro gb168 hg w6 hbox hb;have n0_:=AM (RB (by (with_reducible repeat (first|apply Ra|apply Rn|apply Rd));exact HO165.out) hb);have n1_:=AM (RB (by (with_reducible repeat (first|apply Ra|apply Rn|apply Rd));exact HO167.out) hb);have n2_:=AM (below_step (by repeat (first|(with_reducible first|exact HB.out|apply wA|apply wN|apply wD)|exact HB.out)) hb);have n3_:=AM (hbox);have n4_:=AM ((by rw [hg];exact (below_size (by repeat (first|(with_reducible first|exact HB.out|apply wA|apply wN|apply wD)|exact HB.out))) : w.heap.size ≤ gb168));have n5_:=AM ((by rw [hg];exact (below_size (by repeat (first|(with_reducible first|exact HB.out|apply wA|apply wN|apply wD)|exact HB.out))) : w.heap.size ≤ gb168));clear HO165;clear HO167;clear HB;have HO165:=n0_;have HO167:=n1_;have HB:=n2_;have BK168:=n3_;have GW168:=n4_;have GE168:=n5_;clear n0_ n1_ n2_ n3_ n4_ n5_;clear hb hbox hg;have hcz7_0 : w6.cell? ⟨gb168,0,none⟩ = some (.string (⟨#[]⟩ : ByteArray)):=(blk_cell BK168.out 0).trans rfl;have hcz7_1 : w6.cell? ⟨gb168,1,none⟩ = some (.int .i64 0):=(blk_cell BK168.out 1).trans rfl;have hfz7_0:=blk_frozen BK168.out 0;have hfz7_1:=blk_frozen BK168.out 1))
 go_loopg [6] k (fun kq v6 w' => ∃ (x6_1 : Int) (x169000_1 : ByteArray) (x169001_1 : Int),v6 = .int .i64 x6_1 ∧ Aside0 (laws_FnBits.l0 kq t162 t163 x6_1 x169000_1 x169001_1 = some r) ∧ Aside0 (kq ≤ k) ∧ Aside0 (Kd.R (Kd.int .i64) 3 w' w.heap.size (fun k_ => some k_ ≠ (v166 : Value).ownBlock) v164 t162) ∧ Aside0 (Kd.R (Kd.int .i64) 3 w' w.heap.size (fun k_ => some k_ ≠ (v164 : Value).ownBlock) v166 t163) ∧ Aside0 (w'.heap[gb168]? = some (.cells #[.string x169000_1,.int .i64 x169001_1] 50 (0,0))) ∧ Aside0 (Below w.heap.size w w'))
 case atStart => exact ⟨(0),((⟨#[]⟩ : ByteArray)),(0),(by first|rfl|(simp;done)|(simp [*];done)),H',⟨Nat.le_refl _⟩,⟨by (with_reducible repeat (first|apply Ra|apply Rn|apply Rd));exact Kd.R_mono (Kd.R_far (p:=⟨gb168,1,none⟩) (Kd.R_far (p:=⟨gb168,0,none⟩) (Kd.R_types HO165.out BK168.out (by decide)) (fun _ hk => hk.2) (.string (⟨#[]⟩ : ByteArray))) (fun _ hk => hk.2) (.int .i64 0)) (fun _ hk => hk.1)⟩,⟨by (with_reducible repeat (first|apply Ra|apply Rn|apply Rd));exact Kd.R_mono (Kd.R_far (p:=⟨gb168,1,none⟩) (Kd.R_far (p:=⟨gb168,0,none⟩) (Kd.R_types HO167.out BK168.out (by decide)) (fun _ hk => hk.2) (.string (⟨#[]⟩ : ByteArray))) (fun _ hk => hk.2) (.int .i64 0)) (fun _ hk => hk.1)⟩,⟨by (with_reducible repeat (first|refine bN ?_ _|refine bD ?_|refine bA ?_ _));refine blk_put (cs:=#[.string (⟨#[]⟩ : ByteArray),.int .i64 0]) ?_ 1 _ rfl;(with_reducible repeat (first|refine bN ?_ _|refine bD ?_|refine bA ?_ _));refine blk_put (cs:=#[.string (⟨#[]⟩ : ByteArray),.int .i64 0]) ?_ 0 _ rfl;(with_reducible repeat (first|refine bN ?_ _|refine bD ?_|refine bA ?_ _));exact BK168.out⟩,⟨by repeat (first|(with_reducible first|exact HB.out|apply wA|apply wN|apply wD|refine wS ?_ GE168.out)|exact HB.out)⟩⟩
 case round =>
  clear H'
  try clear c1
  try clear c2
  try clear p2
  try clear c3
  try clear c4
  try clear hcz7_0
  try clear hcz7_1
  try clear hfz7_0
  try clear hfz7_1
  obtain ⟨x6_1,x169000_1,x169001_1,rfl,HA,HK1,HO_3,HO_4,BK168,HB⟩:=hrel
  cases gk with
  | zero => exact absurd HA.out (by simp [laws_FnBits.l0])
  | succ k1 =>
   have H:=HA.out
   clear HA;simp only [laws_FnBits.l0] at H
   by_cases c8 : x6_1 < (t162.length : Int)
   ·rw [if_pos c8] at H
    have c8b0 : decide (x6_1 < (t162.length : Int)) = true:=decide_eq_true c8
    clear c8;by_cases c9 : 0 ≤ x6_1
    ·rw [if_pos c9] at H
     have c9b0 : decide (0 ≤ x6_1) = true:=decide_eq_true c9
     clear c9;by_cases c10 : x6_1 < (t163.length : Int)
     ·rw [if_pos c10] at H
      have c10b0 : decide (x6_1 < (t163.length : Int)) = true:=decide_eq_true c10
      clear c10;replace H:=Option.bind_eq_some_iff.mp H
      obtain ⟨⟨t171,t172,t173⟩,A110,H⟩:=H
      replace H : (if t173 = true then ((impl_OutOk.f t171 t172).bind fun t175 => (if t175 = true then (if t172 = (wrap64 (x169001_1 + (rd t163 x6_1))) then (laws_FnBits.l0 k1 t162 t163 (wrap64 (x6_1 + 1)) t171 t172) else (some false)) else (some false))) else (some false)) = some r:=H
      have A11:=AM A110
      clear A110;by_cases c12 : t173 = true
      ·subst c12;have H1 : ((impl_OutOk.f t171 t172).bind fun t175 => (if t175 = true then (if t172 = (wrap64 (x169001_1 + (rd t163 x6_1))) then (laws_FnBits.l0 k1 t162 t163 (wrap64 (x6_1 + 1)) t171 t172) else (some false)) else (some false))) = some r:=by rw [if_pos rfl] at H;exact H
       clear H;have H:=H1
       clear H1;replace H:=Option.bind_eq_some_iff.mp H
       obtain ⟨t175,A130,H⟩:=H
       replace H : (if t175 = true then (if t172 = (wrap64 (x169001_1 + (rd t163 x6_1))) then (laws_FnBits.l0 k1 t162 t163 (wrap64 (x6_1 + 1)) t171 t172) else (some false)) else (some false)) = some r:=H
       have A13:=AM A130
       clear A130;by_cases c14 : t175 = true
       ·subst c14;have H1 : (if t172 = (wrap64 (x169001_1 + (rd t163 x6_1))) then (laws_FnBits.l0 k1 t162 t163 (wrap64 (x6_1 + 1)) t171 t172) else (some false)) = some r:=by rw [if_pos rfl] at H;exact H
        clear H;have H:=H1
        clear H1;by_cases c15 : t172 = (wrap64 (x169001_1 + (rd t163 x6_1)))
        ·rw [if_pos c15] at H
         have c15b0 : (t172 == (wrap64 (x169001_1 + (rd t163 x6_1)))) = true:=beq_iff_eq.mpr c15
         have c15b1 : (t172 != (wrap64 (x169001_1 + (rd t163 x6_1)))) = false:=bne_eq_false_iff_eq.mpr c15
         clear c15;have H':=AM H
         clear H;obtain ⟨Ao16,co16,eo16⟩:=Kd.R_slice HO_3.out
         subst eo16;try go_wp2
         have n0_:=AM (Rd HO_3.out)
         have n1_:=AM (Rd HO_4.out)
         have n2_:=AM (bD BK168.out)
         have n3_:=AM (wD HB.out)
         clear HO_3;clear HO_4;clear BK168;clear HB;have HO_3:=n0_;have HO_4:=n1_;have BK168:=n2_;have HB:=n3_;clear n0_ n1_ n2_ n3_;have p169 : 0 ≤ (x6_1 : Int):=of_decide_eq_true (by first|(with_reducible assumption)|assumption)
         have q169 : x6_1 < (t162.length : Int):=of_decide_eq_true (by first|(with_reducible assumption)|assumption)
         obtain ⟨ad169,e169,hx169_0⟩:=Kd.at_int (Kd.R_reads' HO_3.out).2.2 x6_1 p169 q169
         cases e169
         replace p169:=eq_true p169
         replace q169:=eq_true q169
         obtain ⟨Ao18,co18,eo18⟩:=Kd.R_slice HO_4.out
         (first|subst eo18|(injection eo18 with f1_ f2_ f3_;have f4_:=f1_.symm;have f5_:=f3_.symm;clear f1_ f2_ f3_;subst f4_;subst f5_))
         have p170 : 0 ≤ (x6_1 : Int):=of_decide_eq_true (by first|(with_reducible assumption)|assumption)
         have q170 : x6_1 < (t163.length : Int):=of_decide_eq_true (by first|(with_reducible assumption)|assumption)
         obtain ⟨ad170,e170,hx170_0⟩:=Kd.at_int (Kd.R_reads' HO_4.out).2.2 x6_1 p170 q170
         cases e170
         replace p170:=eq_true p170
         replace q170:=eq_true q170
         refine start_ (n:=16) (S:=fun w' => w'.cell? ⟨gb168,0,none⟩ = some (.string x169000_1) ∧ w'.cell? ⟨gb168,1,none⟩ = some (.int .i64 x169001_1) ∧ w'.cell? (ad169.add (x6_1).toNat) = some (.int .i64 (rd t162 x6_1)) ∧ w'.cell? (ad170.add (x6_1).toNat) = some (.int .i64 (rd t163 x6_1))) (ds:=[]) #[Z,Z,Z,Z,Z,Z,Z,Z,Z,Z,Z,Z,Z,Z,Z,Z] (by kernel_rfl) rfl rfl ⟨(blk_cell BK168.out 0).trans rfl,(blk_cell BK168.out 1).trans rfl,hx169_0,hx170_0⟩ (fun hHeld => ?_);refine with_tabW laws_FnBits.tab8 laws_FnBits.bits8 (fun HT_ HW_ => ?_)
         generalize wr.drew = w17 at HO_3 HO_4 BK168 HB hx169_0 hx170_0 hHeld ⊢
         refine pure_ (i:=1) (N:=some 39) (v:=?_) (a':=?_) #[Z,Y,Z,Z,Z,Z,Z,Z,Z,Z,Z,Z,Z,Z,Z,Z] rfl rfl (any_of HT_.out (by kernel_rfl)) (fun _ _ _ h => h) (Or.inl ⟨by rfl,?_⟩) ?_ ?_
         rotate_left
         ·intro w'
          go_simp
          with_reducible rfl
         rotate_left
         ·simp only[p0,p1,p2,p3,p4,p5];rfl
         refine pure_ (i:=2) (N:=some 40) (v:=?_) (a':=?_) #[Z,Y,Y,Z,Z,Z,Z,Z,Z,Z,Z,Z,Z,Z,Z,Z] rfl rfl (any_of HT_.out (by kernel_rfl)) (fun _ _ _ h => h) (Or.inl ⟨by rfl,?_⟩) ?_ ?_
         rotate_left
         ·intro w'
          go_simp
          with_reducible rfl
         rotate_left
         ·simp only[p0,p1,p2,p3,p4,p5];rfl
         refine pure_ (i:=3) (N:=some 41) (v:=?_) (a':=?_) #[Z,Y,Y,Y,Z,Z,Z,Z,Z,Z,Z,Z,Z,Z,Z,Z] rfl rfl (any_of HT_.out (by kernel_rfl)) (fun _ _ _ h => h) (Or.inl ⟨by rfl,?_⟩) ?_ ?_
         rotate_left
         ·intro w'
          go_simp
          with_reducible rfl
         rotate_left
         ·simp only[p0,p1,p2,p3,p4,p5];rfl
         refine pure_ (i:=5) (N:=some 43) (v:=?_) (a':=?_) #[Z,Y,Y,Y,Z,Y,Z,Z,Z,Z,Z,Z,Z,Z,Z,Z] rfl rfl (any_of HT_.out (by kernel_rfl)) (fun _ _ _ h => h) (Or.inl ⟨by rfl,?_⟩) ?_ ?_
         rotate_left
         ·intro w'
          go_simp
          with_reducible rfl
         rotate_left
         ·simp only[p0,p1,p2,p3,p4,p5];rfl
         refine pure_ (i:=6) (N:=some 44) (v:=?_) (a':=?_) #[Z,Y,Y,Y,Z,Y,Y,Z,Z,Z,Z,Z,Z,Z,Z,Z] rfl rfl (any_of HT_.out (by kernel_rfl)) (fun _ _ _ h => h) (Or.inl ⟨by rfl,?_⟩) ?_ ?_
         rotate_left
         ·intro w'
          go_simp
          with_reducible rfl
         rotate_left
         ·simp only[p0,p1,p2,p3,p4,p5];rfl
         refine pure_ (i:=7) (N:=some 45) (v:=?_) (a':=?_) #[Z,Y,Y,Y,Z,Y,Y,Y,Z,Z,Z,Z,Z,Z,Z,Z] rfl rfl (any_of HT_.out (by kernel_rfl)) (fun _ _ _ h => h) (Or.inl ⟨by rfl,?_⟩) ?_ ?_
         rotate_left
         ·intro w'
          go_simp
          with_reducible rfl
         rotate_left
         ·simp only[p0,p1,p2,p3,p4,p5];rfl
         refine take_ (i:=0) (N:=some 38) (v:=?_) (a':=?_) #[Y,Y,Y,Y,Z,Y,Y,Y,Z,Z,Z,Z,Z,Z,Z,Z] rfl rfl (take_ofW HT_.out HW_.out (by kernel_rfl)) (fun _ _ _ h => h) (Or.inl ⟨by rfl,?_⟩) hHeld ?_ ?_
         rotate_left
         ·rintro w' ⟨s0,s1,s2,s3⟩
          go_simp
          with_reducible rfl
         rotate_left
         ·simp only[p0,p1,p2,p3,p4,p5];rfl
         refine take_ (i:=4) (N:=some 42) (v:=?_) (a':=?_) #[Y,Y,Y,Y,Y,Y,Y,Y,Z,Z,Z,Z,Z,Z,Z,Z] rfl rfl (take_ofW HT_.out HW_.out (by kernel_rfl)) (fun _ _ _ h => h) (Or.inl ⟨by rfl,?_⟩) hHeld ?_ ?_
         rotate_left
         ·rintro w' ⟨s0,s1,s2,s3⟩
          go_simp
          with_reducible rfl
         rotate_left
         ·simp only[p0,p1,p2,p3,p4,p5];rfl
         refine take_ (i:=8) (N:=some 46) (v:=?_) (a':=?_) #[Y,Y,Y,Y,Y,Y,Y,Y,Y,Z,Z,Z,Z,Z,Z,Z] rfl rfl (take_ofW HT_.out HW_.out (by kernel_rfl)) (fun _ _ _ h => h) (Or.inl ⟨by rfl,?_⟩) hHeld ?_ ?_
         rotate_left
         ·rintro w' ⟨s0,s1,s2,s3⟩
          go_simp
          with_reducible rfl
         rotate_left
         ·simp only[p0,p1,p2,p3,p4,p5];rfl
         refine join_ (σ:=Nat) 2 #[Y,Y,Y,Y,Y,Y,Y,Y,Y,Y,Y,Y,Y,Y,Z,Z] (fun s_ => [(47,.tuple #[.agg #[.string t171,.int .i64 t172],.bool true]),(7,.pointer (some ⟨s_,0,none⟩)),(37,.tuple #[.agg #[.string t171,.int .i64 t172],.bool true]),(48,.agg #[.string t171,.int .i64 t172]),(49,.bool true)]) (fun s_ w' => (w'.cell? ⟨gb168,0,none⟩ = some (.string x169000_1) ∧ w'.cell? ⟨gb168,1,none⟩ = some (.int .i64 x169001_1) ∧ w'.cell? (ad169.add (x6_1).toNat) = some (.int .i64 (rd t162 x6_1)) ∧ w'.cell? (ad170.add (x6_1).toNat) = some (.int .i64 (rd t163 x6_1))) ∧ (Kd.R (Kd.int .i64) 3 w' w.heap.size (fun k_ => some k_ ≠ (.slice (some ad170) t163.length co18 : Value).ownBlock) (.slice (some ad169) t162.length co16) t162) ∧ (Kd.R (Kd.int .i64) 3 w' w.heap.size (fun k_ => some k_ ≠ (.slice (some ad169) t162.length co16 : Value).ownBlock) (.slice (some ad170) t163.length co18) t163) ∧ (w'.heap[gb168]? = some (.cells #[.string x169000_1,.int .i64 x169001_1] 50 (0,0))) ∧ (w'.heap[s_]? = some (.cells #[.string (⟨#[]⟩ : ByteArray),.int .i64 0] 50 (0,0))) ∧ (w.heap.size ≤ s_) ∧ (w.heap.size ≤ s_) ∧ (gb168 ≠ s_) ∧ (s_ ≠ gb168) ∧ (Below w.heap.size w w')) ?_ ?_
         rotate_left
         ·intro hCont
          refine two_ (i:=9) (j:=13) (Ni:=some 47) (Nj:=some 7) #[Y,Y,Y,Y,Y,Y,Y,Y,Y,Y,Z,Z,Z,Z,Z,Z] #[Y,Y,Y,Y,Y,Y,Y,Y,Y,Z,Z,Z,Z,Y,Z,Z] rfl rfl rfl rfl (two_of HT_.out (by kernel_rfl)) (by decide) (by decide) (fun K hK => ?_) (fun K hK => ?_)
          ·skip
           refine goes_ Try.func38 (by kernel_rfl) rfl #[.agg #[.string x169000_1,.int .i64 x169001_1],.int .i64 (rd t162 x6_1),.int .i64 (rd t163 x6_1)] (by rfl) rfl rfl (by (try simp only [List.map_toArray,List.map_cons,List.map_nil]);first|done|rfl|(simp only [List.length_drop,List.length_take];rfl)) ?_
           with_reducible refine (impl_PutBits.calls x169000_1 x169001_1 (rd t162 x6_1) (rd t163 x6_1) t171 t172 true _ A11.out).mono ?_
           rintro e w19 ⟨rfl,hb⟩
           have HS2_:=(hb.cell (World.block_lt_of_cell? _ _ (hHeld.2.2.1))).trans (hHeld.2.2.1)
           have HS3_:=(hb.cell (World.block_lt_of_cell? _ _ (hHeld.2.2.2))).trans (hHeld.2.2.2)
           refine ⟨_,rfl,?_⟩
           have n0_:=AM (RB (by (with_reducible repeat (first|apply Ra|apply Rn|apply Rd));exact HO_3.out) hb)
           have n1_:=AM (RB (by (with_reducible repeat (first|apply Ra|apply Rn|apply Rd));exact HO_4.out) hb)
           have n2_:=AM (bB (g:=gb168) (o:=.cells #[.string x169000_1,.int .i64 x169001_1] 50 (0,0)) (by (with_reducible repeat (first|refine bN ?_ _|refine bD ?_|refine bA ?_ _));exact BK168.out) hb)
           have n3_:=AM (below_step (by repeat (first|(with_reducible first|exact HB.out|apply wA|apply wN|apply wD|refine wS ?_ GE168.out)|exact HB.out)) hb)
           clear HO_3;clear HO_4;clear BK168;clear HB;have HO_3:=n0_;have HO_4:=n1_;have BK168:=n2_;have HB:=n3_;clear n0_ n1_ n2_ n3_;(try clear hb);(try clear hb2);(try clear hk);(try clear hi);refine hK.out _ _ ⟨(blk_cell BK168.out 0).trans rfl,(blk_cell BK168.out 1).trans rfl,HS2_,HS3_⟩ (fun hHeld => ?_)
           clear hK K;refine norm_ (a':=?_) ?_ ?_
           rotate_left
           ·show Act.put _ (some 47) _ = _
            simp only[p0,p1,p2,p3,p4,p5];rfl
           refine pure_ (i:=10) (N:=some 37) (v:=?_) (a':=?_) #[Y,Y,Y,Y,Y,Y,Y,Y,Y,Y,Y,Z,Z,Z,Z,Z] rfl rfl (any_of HT_.out (by kernel_rfl)) (fun _ _ _ h => h) (Or.inl ⟨by rfl,?_⟩) ?_ ?_
           rotate_left
           ·intro w'
            go_simp
            with_reducible rfl
           rotate_left
           ·simp only[p0,p1,p2,p3,p4,p5];rfl
           refine pure_ (i:=11) (N:=some 48) (v:=?_) (a':=?_) #[Y,Y,Y,Y,Y,Y,Y,Y,Y,Y,Y,Y,Z,Z,Z,Z] rfl rfl (any_of HT_.out (by kernel_rfl)) (fun _ _ _ h => h) (Or.inl ⟨by rfl,?_⟩) ?_ ?_
           rotate_left
           ·intro w'
            go_simp
            with_reducible rfl
           rotate_left
           ·simp only[p0,p1,p2,p3,p4,p5];rfl
           refine pure_ (i:=12) (N:=some 49) (v:=?_) (a':=?_) #[Y,Y,Y,Y,Y,Y,Y,Y,Y,Y,Y,Y,Y,Z,Z,Z] rfl rfl (any_of HT_.out (by kernel_rfl)) (fun _ _ _ h => h) (Or.inl ⟨by rfl,?_⟩) ?_ ?_
           rotate_left
           ·intro w'
            go_simp
            with_reducible rfl
           rotate_left
           ·simp only[p0,p1,p2,p3,p4,p5];rfl
           refine one_ (i:=13) (N:=some 7) #[Y,Y,Y,Y,Y,Y,Y,Y,Y,Y,Y,Y,Y,Y,Z,Z] rfl rfl (one_of HT_.out (by kernel_rfl)) (by decide) (fun K hK => ?_)
           refine box_step ?hg (N:=7) ?hd (cs:=#[.string (⟨#[]⟩ : ByteArray),.int .i64 0]) (t:=50) ?hr ?_;(case hd => rfl);(case hg => rfl);(case hr => first|(go_simp;done)|(go_simp;rfl))
           intro gb174 hg w20 hbox hb
           have HS2_:=(hb.cell (World.block_lt_of_cell? _ _ (hHeld.2.2.1))).trans (hHeld.2.2.1)
           have HS3_:=(hb.cell (World.block_lt_of_cell? _ _ (hHeld.2.2.2))).trans (hHeld.2.2.2)
           have n0_:=AM (RB (by (with_reducible repeat (first|apply Ra|apply Rn|apply Rd));exact HO_3.out) hb)
           have n1_:=AM (RB (by (with_reducible repeat (first|apply Ra|apply Rn|apply Rd));exact HO_4.out) hb)
           have n2_:=AM (bB (g:=gb168) (o:=.cells #[.string x169000_1,.int .i64 x169001_1] 50 (0,0)) (by (with_reducible repeat (first|refine bN ?_ _|refine bD ?_|refine bA ?_ _));exact BK168.out) hb)
           have n3_:=AM (below_step (by repeat (first|(with_reducible first|exact HB.out|apply wA|apply wN|apply wD|refine wS ?_ GE168.out)|exact HB.out)) hb)
           have n4_:=AM (hbox)
           have n5_:=AM ((by rw [hg];exact (below_size (by repeat (first|(with_reducible first|exact HB.out|apply wA|apply wN|apply wD|refine wS ?_ GE168.out)|exact HB.out))) : w.heap.size ≤ gb174))
           have n6_:=AM ((by rw [hg];exact (below_size (by repeat (first|(with_reducible first|exact HB.out|apply wA|apply wN|apply wD|refine wS ?_ GE168.out)|exact HB.out))) : w.heap.size ≤ gb174))
           have n7_:=AM ((by rw [hg];exact Nat.ne_of_lt (bL (g:=gb168) (o:=.cells #[.string x169000_1,.int .i64 x169001_1] 50 (0,0)) (by (with_reducible repeat (first|refine bN ?_ _|refine bD ?_|refine bA ?_ _));exact BK168.out)) : gb168 ≠ gb174))
           have n8_:=AM ((by rw [hg];exact Nat.ne_of_gt (bL (g:=gb168) (o:=.cells #[.string x169000_1,.int .i64 x169001_1] 50 (0,0)) (by (with_reducible repeat (first|refine bN ?_ _|refine bD ?_|refine bA ?_ _));exact BK168.out)) : gb174 ≠ gb168))
           clear HO_3;clear HO_4;clear BK168;clear HB;have HO_3:=n0_;have HO_4:=n1_;have BK168:=n2_;have HB:=n3_;have BK174:=n4_;have GW174:=n5_;have GE174:=n6_;have NB168_174:=n7_;have NB174_168:=n8_;clear n0_ n1_ n2_ n3_ n4_ n5_ n6_ n7_ n8_;clear hb hbox hg;refine hK.out _ _ ⟨(blk_cell BK168.out 0).trans rfl,(blk_cell BK168.out 1).trans rfl,HS2_,HS3_⟩ (fun hHeld => ?_)
           clear hK K;refine norm_ (a':=?_) ?_ ?_
           rotate_left
           ·show Act.put _ (some 7) _ = _
            simp only[p0,p1,p2,p3,p4,p5];rfl
           exact norm_ (by simp only[putAll,p0,p1,p2,p3]) (hCont (gb174) _ ⟨hHeld,(by (with_reducible repeat (first|apply Ra|apply Rn|apply Rd));exact HO_3.out),(by (with_reducible repeat (first|apply Ra|apply Rn|apply Rd));exact HO_4.out),(by (with_reducible repeat (first|refine bN ?_ _|refine bD ?_|refine bA ?_ _));exact BK168.out),(by (with_reducible repeat (first|refine bN ?_ _|refine bD ?_|refine bA ?_ _));exact BK174.out),GW174.out,GE174.out,NB168_174.out,NB174_168.out,(by repeat (first|(with_reducible first|exact HB.out|apply wA|apply wN|apply wD|refine wS ?_ GE168.out|refine wS ?_ GE174.out)|exact HB.out))⟩)
          skip
          refine box_step ?hg (N:=7) ?hd (cs:=#[.string (⟨#[]⟩ : ByteArray),.int .i64 0]) (t:=50) ?hr ?_;(case hd => rfl);(case hg => rfl);(case hr => first|(go_simp;done)|(go_simp;rfl))
          intro gb174 hg w19 hbox hb
          have HS2_:=(hb.cell (World.block_lt_of_cell? _ _ (hHeld.2.2.1))).trans (hHeld.2.2.1)
          have HS3_:=(hb.cell (World.block_lt_of_cell? _ _ (hHeld.2.2.2))).trans (hHeld.2.2.2)
          have n0_:=AM (RB (by (with_reducible repeat (first|apply Ra|apply Rn|apply Rd));exact HO_3.out) hb)
          have n1_:=AM (RB (by (with_reducible repeat (first|apply Ra|apply Rn|apply Rd));exact HO_4.out) hb)
          have n2_:=AM (bB (g:=gb168) (o:=.cells #[.string x169000_1,.int .i64 x169001_1] 50 (0,0)) (by (with_reducible repeat (first|refine bN ?_ _|refine bD ?_|refine bA ?_ _));exact BK168.out) hb)
          have n3_:=AM (below_step (by repeat (first|(with_reducible first|exact HB.out|apply wA|apply wN|apply wD|refine wS ?_ GE168.out)|exact HB.out)) hb)
          have n4_:=AM (hbox)
          have n5_:=AM ((by rw [hg];exact (below_size (by repeat (first|(with_reducible first|exact HB.out|apply wA|apply wN|apply wD|refine wS ?_ GE168.out)|exact HB.out))) : w.heap.size ≤ gb174))
          have n6_:=AM ((by rw [hg];exact (below_size (by repeat (first|(with_reducible first|exact HB.out|apply wA|apply wN|apply wD|refine wS ?_ GE168.out)|exact HB.out))) : w.heap.size ≤ gb174))
          have n7_:=AM ((by rw [hg];exact Nat.ne_of_lt (bL (g:=gb168) (o:=.cells #[.string x169000_1,.int .i64 x169001_1] 50 (0,0)) (by (with_reducible repeat (first|refine bN ?_ _|refine bD ?_|refine bA ?_ _));exact BK168.out)) : gb168 ≠ gb174))
          have n8_:=AM ((by rw [hg];exact Nat.ne_of_gt (bL (g:=gb168) (o:=.cells #[.string x169000_1,.int .i64 x169001_1] 50 (0,0)) (by (with_reducible repeat (first|refine bN ?_ _|refine bD ?_|refine bA ?_ _));exact BK168.out)) : gb174 ≠ gb168))
          clear HO_3;clear HO_4;clear BK168;clear HB;have HO_3:=n0_;have HO_4:=n1_;have BK168:=n2_;have HB:=n3_;have BK174:=n4_;have GW174:=n5_;have GE174:=n6_;have NB168_174:=n7_;have NB174_168:=n8_;clear n0_ n1_ n2_ n3_ n4_ n5_ n6_ n7_ n8_;clear hb hbox hg;refine hK.out _ _ ⟨(blk_cell BK168.out 0).trans rfl,(blk_cell BK168.out 1).trans rfl,HS2_,HS3_⟩ (fun hHeld => ?_)
          clear hK K;refine norm_ (a':=?_) ?_ ?_
          rotate_left
          ·show Act.put _ (some 7) _ = _
           simp only[p0,p1,p2,p3,p4,p5];rfl
          refine one_ (i:=9) (N:=some 47) #[Y,Y,Y,Y,Y,Y,Y,Y,Y,Y,Z,Z,Z,Y,Z,Z] rfl rfl (one_of HT_.out (by kernel_rfl)) (by decide) (fun K hK => ?_)
          refine goes_ Try.func38 (by kernel_rfl) rfl #[.agg #[.string x169000_1,.int .i64 x169001_1],.int .i64 (rd t162 x6_1),.int .i64 (rd t163 x6_1)] (by rfl) rfl rfl (by (try simp only [List.map_toArray,List.map_cons,List.map_nil]);first|done|rfl|(simp only [List.length_drop,List.length_take];rfl)) ?_
          with_reducible refine (impl_PutBits.calls x169000_1 x169001_1 (rd t162 x6_1) (rd t163 x6_1) t171 t172 true _ A11.out).mono ?_
          rintro e w20 ⟨rfl,hb⟩
          have HS2_:=(hb.cell (World.block_lt_of_cell? _ _ (hHeld.2.2.1))).trans (hHeld.2.2.1)
          have HS3_:=(hb.cell (World.block_lt_of_cell? _ _ (hHeld.2.2.2))).trans (hHeld.2.2.2)
          refine ⟨_,rfl,?_⟩
          have n0_:=AM (RB (by (with_reducible repeat (first|apply Ra|apply Rn|apply Rd));exact HO_3.out) hb)
          have n1_:=AM (RB (by (with_reducible repeat (first|apply Ra|apply Rn|apply Rd));exact HO_4.out) hb)
          have n2_:=AM (bB (g:=gb168) (o:=.cells #[.string x169000_1,.int .i64 x169001_1] 50 (0,0)) (by (with_reducible repeat (first|refine bN ?_ _|refine bD ?_|refine bA ?_ _));exact BK168.out) hb)
          have n3_:=AM (bB (g:=gb174) (o:=.cells #[.string (⟨#[]⟩ : ByteArray),.int .i64 0] 50 (0,0)) (by (with_reducible repeat (first|refine bN ?_ _|refine bD ?_|refine bA ?_ _));exact BK174.out) hb)
          have n4_:=AM (below_step (by repeat (first|(with_reducible first|exact HB.out|apply wA|apply wN|apply wD|refine wS ?_ GE168.out|refine wS ?_ GE174.out)|exact HB.out)) hb)
          clear HO_3;clear HO_4;clear BK168;clear BK174;clear HB;have HO_3:=n0_;have HO_4:=n1_;have BK168:=n2_;have BK174:=n3_;have HB:=n4_;clear n0_ n1_ n2_ n3_ n4_;(try clear hb);(try clear hb2);(try clear hk);(try clear hi);refine hK.out _ _ ⟨(blk_cell BK168.out 0).trans rfl,(blk_cell BK168.out 1).trans rfl,HS2_,HS3_⟩ (fun hHeld => ?_)
          clear hK K;refine norm_ (a':=?_) ?_ ?_
          rotate_left
          ·show Act.put _ (some 47) _ = _
           simp only[p0,p1,p2,p3,p4,p5];rfl
          refine pure_ (i:=10) (N:=some 37) (v:=?_) (a':=?_) #[Y,Y,Y,Y,Y,Y,Y,Y,Y,Y,Y,Z,Z,Y,Z,Z] rfl rfl (any_of HT_.out (by kernel_rfl)) (fun _ _ _ h => h) (Or.inl ⟨by rfl,?_⟩) ?_ ?_
          rotate_left
          ·intro w'
           go_simp
           with_reducible rfl
          rotate_left
          ·simp only[p0,p1,p2,p3,p4,p5];rfl
          refine pure_ (i:=11) (N:=some 48) (v:=?_) (a':=?_) #[Y,Y,Y,Y,Y,Y,Y,Y,Y,Y,Y,Y,Z,Y,Z,Z] rfl rfl (any_of HT_.out (by kernel_rfl)) (fun _ _ _ h => h) (Or.inl ⟨by rfl,?_⟩) ?_ ?_
          rotate_left
          ·intro w'
           go_simp
           with_reducible rfl
          rotate_left
          ·simp only[p0,p1,p2,p3,p4,p5];rfl
          refine pure_ (i:=12) (N:=some 49) (v:=?_) (a':=?_) #[Y,Y,Y,Y,Y,Y,Y,Y,Y,Y,Y,Y,Y,Y,Z,Z] rfl rfl (any_of HT_.out (by kernel_rfl)) (fun _ _ _ h => h) (Or.inl ⟨by rfl,?_⟩) ?_ ?_
          rotate_left
          ·intro w'
           go_simp
           with_reducible rfl
          rotate_left
          ·simp only[p0,p1,p2,p3,p4,p5];rfl
          exact norm_ (by simp only[putAll,p0,p1,p2,p3]) (hCont (gb174) _ ⟨hHeld,(by (with_reducible repeat (first|apply Ra|apply Rn|apply Rd));exact HO_3.out),(by (with_reducible repeat (first|apply Ra|apply Rn|apply Rd));exact HO_4.out),(by (with_reducible repeat (first|refine bN ?_ _|refine bD ?_|refine bA ?_ _));exact BK168.out),(by (with_reducible repeat (first|refine bN ?_ _|refine bD ?_|refine bA ?_ _));exact BK174.out),GW174.out,GE174.out,NB168_174.out,NB174_168.out,(by repeat (first|(with_reducible first|exact HB.out|apply wA|apply wN|apply wD|refine wS ?_ GE168.out|refine wS ?_ GE174.out)|exact HB.out))⟩)
         rintro gb174 w21 ⟨hS_,h0_,h1_,h2_,h3_,h4_,h5_,h6_,h7_,h8_⟩
         have n0_ : Aside0 (Kd.R (Kd.int .i64) 3 w21 w.heap.size (fun k_ => some k_ ≠ (.slice (some ad170) t163.length co18 : Value).ownBlock) (.slice (some ad169) t162.length co16) t162):=⟨h0_⟩
         have n1_ : Aside0 (Kd.R (Kd.int .i64) 3 w21 w.heap.size (fun k_ => some k_ ≠ (.slice (some ad169) t162.length co16 : Value).ownBlock) (.slice (some ad170) t163.length co18) t163):=⟨h1_⟩
         have n2_ : Aside0 (w21.heap[gb168]? = some (.cells #[.string x169000_1,.int .i64 x169001_1] 50 (0,0))):=⟨h2_⟩
         have n3_ : Aside0 (w21.heap[gb174]? = some (.cells #[.string (⟨#[]⟩ : ByteArray),.int .i64 0] 50 (0,0))):=⟨h3_⟩
         have n4_ : Aside0 (w.heap.size ≤ gb174):=⟨h4_⟩
         have n5_ : Aside0 (w.heap.size ≤ gb174):=⟨h5_⟩
         have n6_ : Aside0 (gb168 ≠ gb174):=⟨h6_⟩
         have n7_ : Aside0 (gb174 ≠ gb168):=⟨h7_⟩
         have n8_ : Aside0 (Below w.heap.size w w21):=⟨h8_⟩
         clear HO_3;clear HO_4;clear BK168;clear HB;clear h0_ h1_ h2_ h3_ h4_ h5_ h6_ h7_ h8_;have HO_3:=n0_;have HO_4:=n1_;have BK168:=n2_;have BK174:=n3_;have GW174:=n4_;have GE174:=n5_;have NB168_174:=n6_;have NB174_168:=n7_;have HB:=n8_;clear n0_ n1_ n2_ n3_ n4_ n5_ n6_ n7_ n8_;have hHeld : w21.cell? ⟨gb168,0,none⟩ = some (.string x169000_1) ∧ w21.cell? ⟨gb168,1,none⟩ = some (.int .i64 x169001_1) ∧ w21.cell? (ad169.add (x6_1).toNat) = some (.int .i64 (rd t162 x6_1)) ∧ w21.cell? (ad170.add (x6_1).toNat) = some (.int .i64 (rd t163 x6_1)):=hS_
         refine norm_ (a':=?_) ?_ ?_
         rotate_left
         ·simp only[putAll,p0,p1,p2,p3]
          rfl
         refine one_ (i:=14) (N:=none) #[Y,Y,Y,Y,Y,Y,Y,Y,Y,Y,Y,Y,Y,Y,Y,Z] rfl rfl (one_of HT_.out (by kernel_rfl)) (by decide) (fun K hK => ?_)
         have hs22 : w21.cell? ⟨gb174,0,none⟩ = some (.string (⟨#[]⟩ : ByteArray)):=(blk_cell BK174.out 0).trans rfl
         have hfs22:=blk_frozen BK174.out 0
         have hns22_0:=NB168_174.out
         have hms22_0:=NB174_168.out
         have hs23 : w21.cell? ⟨gb174,1,none⟩ = some (.int .i64 0):=(blk_cell BK174.out 1).trans rfl
         have hfs23:=blk_frozen BK174.out 1
         have hns23_0:=NB168_174.out
         have hms23_0:=NB174_168.out
         refine skip_ (w1:=?_) (by rfl) rfl ?_ ?_
         rotate_left
         ·go_simp
          rfl
         refine hK.out _ _ ⟨((cell_far (p:=⟨gb174,_,none⟩) NB168_174.out _).trans (((cell_far (p:=⟨gb174,_,none⟩) NB168_174.out _).trans (hHeld.1)))),((cell_far (p:=⟨gb174,_,none⟩) NB168_174.out _).trans (((cell_far (p:=⟨gb174,_,none⟩) NB168_174.out _).trans (hHeld.2.1)))),((cell_far (p:=⟨gb174,_,none⟩) (by first|exact Kd.own_blk (Kd.R_ne HO_3.out BK174.out (by decide))|(rw [add_block];exact Kd.own_blk (Kd.R_ne HO_3.out BK174.out (by decide)))|(show (Addr.add _ _).block ≠ _;rw [add_block];exact Kd.own_blk (Kd.R_ne HO_3.out BK174.out (by decide)))|(dsimp only;exact Kd.own_blk (Kd.R_ne HO_3.out BK174.out (by decide)))) _).trans (((cell_far (p:=⟨gb174,_,none⟩) (by first|exact Kd.own_blk (Kd.R_ne HO_3.out BK174.out (by decide))|(rw [add_block];exact Kd.own_blk (Kd.R_ne HO_3.out BK174.out (by decide)))|(show (Addr.add _ _).block ≠ _;rw [add_block];exact Kd.own_blk (Kd.R_ne HO_3.out BK174.out (by decide)))|(dsimp only;exact Kd.own_blk (Kd.R_ne HO_3.out BK174.out (by decide)))) _).trans (hHeld.2.2.1)))),((cell_far (p:=⟨gb174,_,none⟩) (by first|exact Kd.own_blk (Kd.R_ne HO_4.out BK174.out (by decide))|(rw [add_block];exact Kd.own_blk (Kd.R_ne HO_4.out BK174.out (by decide)))|(show (Addr.add _ _).block ≠ _;rw [add_block];exact Kd.own_blk (Kd.R_ne HO_4.out BK174.out (by decide)))|(dsimp only;exact Kd.own_blk (Kd.R_ne HO_4.out BK174.out (by decide)))) _).trans (((cell_far (p:=⟨gb174,_,none⟩) (by first|exact Kd.own_blk (Kd.R_ne HO_4.out BK174.out (by decide))|(rw [add_block];exact Kd.own_blk (Kd.R_ne HO_4.out BK174.out (by decide)))|(show (Addr.add _ _).block ≠ _;rw [add_block];exact Kd.own_blk (Kd.R_ne HO_4.out BK174.out (by decide)))|(dsimp only;exact Kd.own_blk (Kd.R_ne HO_4.out BK174.out (by decide)))) _).trans (hHeld.2.2.2))))⟩ (fun hHeld => ?_)
         clear hK K;refine pure_ (i:=15) (N:=some 8) (v:=?_) (a':=?_) #[Y,Y,Y,Y,Y,Y,Y,Y,Y,Y,Y,Y,Y,Y,Y,Y] rfl rfl (any_of HT_.out (by kernel_rfl)) (fun _ _ _ h => h) (Or.inl ⟨by rfl,?_⟩) ?_ ?_
         rotate_left
         ·intro w'
          go_simp
          with_reducible rfl
         rotate_left
         ·simp only[p0,p1,p2,p3,p4,p5];rfl
         refine done_ (done_of HT_.out (by kernel_rfl)) ?_
         try go_wp2
         have n0_ : Aside0 (Kd.R (Kd.int .i64) 3 ((w21.setCell ⟨gb174,0,none⟩ (.string t171)).setCell ⟨gb174,1,none⟩ (.int .i64 t172)) w.heap.size (fun k_ => some k_ ≠ (.slice (some ad170) t163.length co18 : Value).ownBlock) (.slice (some ad169) t162.length co16) t162):=⟨by (with_reducible repeat (first|apply Ra|apply Rn|apply Rd));exact Kd.R_mono (Kd.R_far (p:=⟨gb174,1,none⟩) (Kd.R_far (p:=⟨gb174,0,none⟩) (Kd.R_types HO_3.out BK174.out (by decide)) (fun _ hk => hk.2) (.string t171)) (fun _ hk => hk.2) (.int .i64 t172)) (fun _ hk => hk.1)⟩
         have n1_ : Aside0 (Kd.R (Kd.int .i64) 3 ((w21.setCell ⟨gb174,0,none⟩ (.string t171)).setCell ⟨gb174,1,none⟩ (.int .i64 t172)) w.heap.size (fun k_ => some k_ ≠ (.slice (some ad169) t162.length co16 : Value).ownBlock) (.slice (some ad170) t163.length co18) t163):=⟨by (with_reducible repeat (first|apply Ra|apply Rn|apply Rd));exact Kd.R_mono (Kd.R_far (p:=⟨gb174,1,none⟩) (Kd.R_far (p:=⟨gb174,0,none⟩) (Kd.R_types HO_4.out BK174.out (by decide)) (fun _ hk => hk.2) (.string t171)) (fun _ hk => hk.2) (.int .i64 t172)) (fun _ hk => hk.1)⟩
         have n2_ : Aside0 (((w21.setCell ⟨gb174,0,none⟩ (.string t171)).setCell ⟨gb174,1,none⟩ (.int .i64 t172)).heap[gb168]? = some (.cells #[.string x169000_1,.int .i64 x169001_1] 50 (0,0))):=⟨by (with_reducible repeat (first|refine bN ?_ _|refine bD ?_|refine bA ?_ _));refine blk_far ?_ NB168_174.out _;(with_reducible repeat (first|refine bN ?_ _|refine bD ?_|refine bA ?_ _));refine blk_far ?_ NB168_174.out _;(with_reducible repeat (first|refine bN ?_ _|refine bD ?_|refine bA ?_ _));exact BK168.out⟩
         have n3_ : Aside0 (((w21.setCell ⟨gb174,0,none⟩ (.string t171)).setCell ⟨gb174,1,none⟩ (.int .i64 t172)).heap[gb174]? = some (.cells #[.string t171,.int .i64 t172] 50 (0,0))):=⟨by (with_reducible repeat (first|refine bN ?_ _|refine bD ?_|refine bA ?_ _));refine blk_put (cs:=#[.string t171,.int .i64 0]) ?_ 1 _ rfl;(with_reducible repeat (first|refine bN ?_ _|refine bD ?_|refine bA ?_ _));refine blk_put (cs:=#[.string (⟨#[]⟩ : ByteArray),.int .i64 0]) ?_ 0 _ rfl;(with_reducible repeat (first|refine bN ?_ _|refine bD ?_|refine bA ?_ _));exact BK174.out⟩
         have n4_ : Aside0 (Below w.heap.size w ((w21.setCell ⟨gb174,0,none⟩ (.string t171)).setCell ⟨gb174,1,none⟩ (.int .i64 t172))):=⟨by repeat (first|(with_reducible first|exact HB.out|apply wA|apply wN|apply wD|refine wS ?_ GE168.out|refine wS ?_ GE174.out)|exact HB.out)⟩
         (try clear HO_3);(try clear HO_4);(try clear BK168);(try clear BK174);(try clear HB);generalize ((w21.setCell ⟨gb174,0,none⟩ (.string t171)).setCell ⟨gb174,1,none⟩ (.int .i64 t172)) = w24 at n0_ n1_ n2_ n3_ n4_ ⊢
         have HO_3:=n0_;have HO_4:=n1_;have BK168:=n2_;have BK174:=n3_;have HB:=n4_;clear n0_ n1_ n2_ n3_ n4_;have n0_:=AM (Rd HO_3.out)
         have n1_:=AM (Rd HO_4.out)
         have n2_:=AM (bD BK168.out)
         have n3_:=AM (bD BK174.out)
         have n4_:=AM (wD HB.out)
         clear HO_3;clear HO_4;clear BK168;clear BK174;clear HB;have HO_3:=n0_;have HO_4:=n1_;have BK168:=n2_;have BK174:=n3_;have HB:=n4_;clear n0_ n1_ n2_ n3_ n4_;have p176 : 0 ≤ (x6_1 : Int):=of_decide_eq_true (by first|(with_reducible assumption)|assumption)
         have q176 : x6_1 < (t163.length : Int):=of_decide_eq_true (by first|(with_reducible assumption)|assumption)
         obtain ⟨ad176,e176,hx176_0⟩:=Kd.at_int (Kd.R_reads' HO_4.out).2.2 x6_1 p176 q176
         obtain rfl : ad170 = ad176:=(by injection e176)
         replace p176:=eq_true p176
         replace q176:=eq_true q176
         refine start_ (n:=19) (S:=fun w' => w'.cell? ⟨gb174,0,none⟩ = some (.string t171) ∧ w'.cell? ⟨gb174,1,none⟩ = some (.int .i64 t172) ∧ w'.cell? ⟨gb168,0,none⟩ = some (.string x169000_1) ∧ w'.cell? ⟨gb168,1,none⟩ = some (.int .i64 x169001_1) ∧ w'.cell? (ad170.add (x6_1).toNat) = some (.int .i64 (rd t163 x6_1))) (ds:=[]) #[Z,Z,Z,Z,Z,Z,Z,Z,Z,Z,Z,Z,Z,Z,Z,Z,Z,Z,Z] (by kernel_rfl) rfl rfl ⟨(blk_cell BK174.out 0).trans rfl,(blk_cell BK174.out 1).trans rfl,(blk_cell BK168.out 0).trans rfl,(blk_cell BK168.out 1).trans rfl,hx176_0⟩ (fun hHeld => ?_);refine with_tabW laws_FnBits.tab9 laws_FnBits.bits9 (fun HT_ HW_ => ?_)
         generalize w24.drew = w25 at HO_3 HO_4 BK168 BK174 HB hx176_0 hHeld ⊢
         refine pure_ (i:=0) (N:=some 50) (v:=?_) (a':=?_) #[Y,Z,Z,Z,Z,Z,Z,Z,Z,Z,Z,Z,Z,Z,Z,Z,Z,Z,Z] rfl rfl (any_of HT_.out (by kernel_rfl)) (fun _ _ _ h => h) (Or.inl ⟨by rfl,?_⟩) ?_ ?_
         rotate_left
         ·intro w'
          go_simp
          with_reducible rfl
         rotate_left
         ·simp only[p0,p1,p2,p3,p4,p5];rfl
         refine pure_ (i:=1) (N:=some 51) (v:=?_) (a':=?_) #[Y,Y,Z,Z,Z,Z,Z,Z,Z,Z,Z,Z,Z,Z,Z,Z,Z,Z,Z] rfl rfl (any_of HT_.out (by kernel_rfl)) (fun _ _ _ h => h) (Or.inl ⟨by rfl,?_⟩) ?_ ?_
         rotate_left
         ·intro w'
          go_simp
          with_reducible rfl
         rotate_left
         ·simp only[p0,p1,p2,p3,p4,p5];rfl
         refine pure_ (i:=2) (N:=some 52) (v:=?_) (a':=?_) #[Y,Y,Y,Z,Z,Z,Z,Z,Z,Z,Z,Z,Z,Z,Z,Z,Z,Z,Z] rfl rfl (any_of HT_.out (by kernel_rfl)) (fun _ _ _ h => h) (Or.inl ⟨by rfl,?_⟩) ?_ ?_
         rotate_left
         ·intro w'
          go_simp
          with_reducible rfl
         rotate_left
         ·simp only[p0,p1,p2,p3,p4,p5];rfl
         refine take_ (i:=3) (N:=some 53) (v:=?_) (a':=?_) #[Y,Y,Y,Y,Z,Z,Z,Z,Z,Z,Z,Z,Z,Z,Z,Z,Z,Z,Z] rfl rfl (take_ofW HT_.out HW_.out (by kernel_rfl)) (fun _ _ _ h => h) (Or.inl ⟨by rfl,?_⟩) hHeld ?_ ?_
         rotate_left
         ·rintro w' ⟨s0,s1,s2,s3,s4⟩
          go_simp
          with_reducible rfl
         rotate_left
         ·simp only[p0,p1,p2,p3,p4,p5];rfl
         refine one_ (i:=4) (N:=some 54) #[Y,Y,Y,Y,Y,Z,Z,Z,Z,Z,Z,Z,Z,Z,Z,Z,Z,Z,Z] rfl rfl (one_of HT_.out (by kernel_rfl)) (by decide) (fun K hK => ?_)
         refine goes_ Try.func42 (by kernel_rfl) rfl #[.agg #[.string t171,.int .i64 t172]] (by rfl) rfl rfl (by (try simp only [List.map_toArray,List.map_cons,List.map_nil]);first|done|rfl|(simp only [List.length_drop,List.length_take];rfl)) ?_
         with_reducible refine (impl_OutOk.calls t171 t172 true _ A13.out).mono ?_
         rintro e w26 ⟨rfl,hb⟩
         have HS4_:=(hb.cell (World.block_lt_of_cell? _ _ (hHeld.2.2.2.2))).trans (hHeld.2.2.2.2)
         refine ⟨_,rfl,?_⟩
         have n0_:=AM (RB (by (with_reducible repeat (first|apply Ra|apply Rn|apply Rd));exact HO_3.out) hb)
         have n1_:=AM (RB (by (with_reducible repeat (first|apply Ra|apply Rn|apply Rd));exact HO_4.out) hb)
         have n2_:=AM (bB (g:=gb168) (o:=.cells #[.string x169000_1,.int .i64 x169001_1] 50 (0,0)) (by (with_reducible repeat (first|refine bN ?_ _|refine bD ?_|refine bA ?_ _));exact BK168.out) hb)
         have n3_:=AM (bB (g:=gb174) (o:=.cells #[.string t171,.int .i64 t172] 50 (0,0)) (by (with_reducible repeat (first|refine bN ?_ _|refine bD ?_|refine bA ?_ _));exact BK174.out) hb)
         have n4_:=AM (below_step (by repeat (first|(with_reducible first|exact HB.out|apply wA|apply wN|apply wD|refine wS ?_ GE168.out|refine wS ?_ GE174.out)|exact HB.out)) hb)
         clear HO_3;clear HO_4;clear BK168;clear BK174;clear HB;have HO_3:=n0_;have HO_4:=n1_;have BK168:=n2_;have BK174:=n3_;have HB:=n4_;clear n0_ n1_ n2_ n3_ n4_;(try clear hb);(try clear hb2);(try clear hk);(try clear hi);refine hK.out _ _ ⟨(blk_cell BK174.out 0).trans rfl,(blk_cell BK174.out 1).trans rfl,(blk_cell BK168.out 0).trans rfl,(blk_cell BK168.out 1).trans rfl,HS4_⟩ (fun hHeld => ?_)
         clear hK K;refine norm_ (a':=?_) ?_ ?_
         rotate_left
         ·show Act.put _ (some 54) _ = _
          simp only[p0,p1,p2,p3,p4,p5];rfl
         refine pure_ (i:=5) (N:=some 55) (v:=?_) (a':=?_) #[Y,Y,Y,Y,Y,Y,Z,Z,Z,Z,Z,Z,Z,Z,Z,Z,Z,Z,Z] rfl rfl (any_of HT_.out (by kernel_rfl)) (fun _ _ _ h => h) (Or.inl ⟨by rfl,?_⟩) ?_ ?_
         rotate_left
         ·intro w'
          go_simp
          with_reducible rfl
         rotate_left
         ·simp only[p0,p1,p2,p3,p4,p5];rfl
         refine pure_ (i:=6) (N:=some 56) (v:=?_) (a':=?_) #[Y,Y,Y,Y,Y,Y,Y,Z,Z,Z,Z,Z,Z,Z,Z,Z,Z,Z,Z] rfl rfl (any_of HT_.out (by kernel_rfl)) (fun _ _ _ h => h) (Or.inl ⟨by rfl,?_⟩) ?_ ?_
         rotate_left
         ·intro w'
          go_simp
          with_reducible rfl
         rotate_left
         ·simp only[p0,p1,p2,p3,p4,p5];rfl
         refine pure_ (i:=7) (N:=some 57) (v:=?_) (a':=?_) #[Y,Y,Y,Y,Y,Y,Y,Y,Z,Z,Z,Z,Z,Z,Z,Z,Z,Z,Z] rfl rfl (any_of HT_.out (by kernel_rfl)) (fun _ _ _ h => h) (Or.inl ⟨by rfl,?_⟩) ?_ ?_
         rotate_left
         ·intro w'
          go_simp
          with_reducible rfl
         rotate_left
         ·simp only[p0,p1,p2,p3,p4,p5];rfl
         refine pure_ (i:=8) (N:=some 58) (v:=?_) (a':=?_) #[Y,Y,Y,Y,Y,Y,Y,Y,Y,Z,Z,Z,Z,Z,Z,Z,Z,Z,Z] rfl rfl (any_of HT_.out (by kernel_rfl)) (fun _ _ _ h => h) (Or.inl ⟨by rfl,?_⟩) ?_ ?_
         rotate_left
         ·intro w'
          go_simp
          with_reducible rfl
         rotate_left
         ·simp only[p0,p1,p2,p3,p4,p5];rfl
         refine pure_ (i:=10) (N:=some 60) (v:=?_) (a':=?_) #[Y,Y,Y,Y,Y,Y,Y,Y,Y,Z,Y,Z,Z,Z,Z,Z,Z,Z,Z] rfl rfl (any_of HT_.out (by kernel_rfl)) (fun _ _ _ h => h) (Or.inl ⟨by rfl,?_⟩) ?_ ?_
         rotate_left
         ·intro w'
          go_simp
          with_reducible rfl
         rotate_left
         ·simp only[p0,p1,p2,p3,p4,p5];rfl
         refine pure_ (i:=12) (N:=some 62) (v:=?_) (a':=?_) #[Y,Y,Y,Y,Y,Y,Y,Y,Y,Z,Y,Z,Y,Z,Z,Z,Z,Z,Z] rfl rfl (any_of HT_.out (by kernel_rfl)) (fun _ _ _ h => h) (Or.inl ⟨by rfl,?_⟩) ?_ ?_
         rotate_left
         ·intro w'
          go_simp
          with_reducible rfl
         rotate_left
         ·simp only[p0,p1,p2,p3,p4,p5];rfl
         refine pure_ (i:=13) (N:=some 63) (v:=?_) (a':=?_) #[Y,Y,Y,Y,Y,Y,Y,Y,Y,Z,Y,Z,Y,Y,Z,Z,Z,Z,Z] rfl rfl (any_of HT_.out (by kernel_rfl)) (fun _ _ _ h => h) (Or.inl ⟨by rfl,?_⟩) ?_ ?_
         rotate_left
         ·intro w'
          go_simp
          with_reducible rfl
         rotate_left
         ·simp only[p0,p1,p2,p3,p4,p5];rfl
         refine pure_ (i:=14) (N:=some 64) (v:=?_) (a':=?_) #[Y,Y,Y,Y,Y,Y,Y,Y,Y,Z,Y,Z,Y,Y,Y,Z,Z,Z,Z] rfl rfl (any_of HT_.out (by kernel_rfl)) (fun _ _ _ h => h) (Or.inl ⟨by rfl,?_⟩) ?_ ?_
         rotate_left
         ·intro w'
          go_simp
          with_reducible rfl
         rotate_left
         ·simp only[p0,p1,p2,p3,p4,p5];rfl
         refine take_ (i:=9) (N:=some 59) (v:=?_) (a':=?_) #[Y,Y,Y,Y,Y,Y,Y,Y,Y,Y,Y,Z,Y,Y,Y,Z,Z,Z,Z] rfl rfl (take_ofW HT_.out HW_.out (by kernel_rfl)) (fun _ _ _ h => h) (Or.inl ⟨by rfl,?_⟩) hHeld ?_ ?_
         rotate_left
         ·rintro w' ⟨s0,s1,s2,s3,s4⟩
          go_simp
          with_reducible rfl
         rotate_left
         ·simp only[p0,p1,p2,p3,p4,p5];rfl
         refine take_ (i:=11) (N:=some 61) (v:=?_) (a':=?_) #[Y,Y,Y,Y,Y,Y,Y,Y,Y,Y,Y,Y,Y,Y,Y,Z,Z,Z,Z] rfl rfl (take_ofW HT_.out HW_.out (by kernel_rfl)) (fun _ _ _ h => h) (Or.inl ⟨by rfl,?_⟩) hHeld ?_ ?_
         rotate_left
         ·rintro w' ⟨s0,s1,s2,s3,s4⟩
          go_simp
          with_reducible rfl
         rotate_left
         ·simp only[p0,p1,p2,p3,p4,p5];rfl
         refine take_ (i:=15) (N:=some 65) (v:=?_) (a':=?_) #[Y,Y,Y,Y,Y,Y,Y,Y,Y,Y,Y,Y,Y,Y,Y,Y,Z,Z,Z] rfl rfl (take_ofW HT_.out HW_.out (by kernel_rfl)) (fun _ _ _ h => h) (Or.inl ⟨by rfl,?_⟩) hHeld ?_ ?_
         rotate_left
         ·rintro w' ⟨s0,s1,s2,s3,s4⟩
          go_simp
          with_reducible rfl
         rotate_left
         ·simp only[p0,p1,p2,p3,p4,p5];rfl
         refine pure_ (i:=16) (N:=some 66) (v:=?_) (a':=?_) #[Y,Y,Y,Y,Y,Y,Y,Y,Y,Y,Y,Y,Y,Y,Y,Y,Y,Z,Z] rfl rfl (any_of HT_.out (by kernel_rfl)) (fun _ _ _ h => h) (Or.inl ⟨by rfl,?_⟩) ?_ ?_
         rotate_left
         ·intro w'
          go_simp
          with_reducible rfl
         rotate_left
         ·simp only[p0,p1,p2,p3,p4,p5];rfl
         refine pure_ (i:=17) (N:=some 67) (v:=?_) (a':=?_) #[Y,Y,Y,Y,Y,Y,Y,Y,Y,Y,Y,Y,Y,Y,Y,Y,Y,Y,Z] rfl rfl (any_of HT_.out (by kernel_rfl)) (fun _ _ _ h => h) (Or.inl ⟨by rfl,?_⟩) ?_ ?_
         rotate_left
         ·intro w'
          go_simp
          with_reducible rfl
         rotate_left
         ·simp only[p0,p1,p2,p3,p4,p5];rfl
         refine pure_ (i:=18) (N:=some 68) (v:=?_) (a':=?_) #[Y,Y,Y,Y,Y,Y,Y,Y,Y,Y,Y,Y,Y,Y,Y,Y,Y,Y,Y] rfl rfl (any_of HT_.out (by kernel_rfl)) (fun _ _ _ h => h) (Or.inl ⟨by rfl,?_⟩) ?_ ?_
         rotate_left
         ·intro w'
          go_simp
          with_reducible rfl
         rotate_left
         ·simp only[p0,p1,p2,p3,p4,p5];rfl
         refine done_ (done_of HT_.out (by kernel_rfl)) ?_
         have hnb27:=NB174_168.out
         have hnc27:=NB168_174.out
         have hcz28_0 : w26.cell? ⟨gb174,0,none⟩ = some (.string t171):=(blk_cell BK174.out 0).trans rfl
         have hcz28_1 : w26.cell? ⟨gb174,1,none⟩ = some (.int .i64 t172):=(blk_cell BK174.out 1).trans rfl
         have hfz28_0:=blk_frozen BK174.out 0
         have hfz28_1:=blk_frozen BK174.out 1
         have hcz29_0 : w26.cell? ⟨gb168,0,none⟩ = some (.string x169000_1):=(blk_cell BK168.out 0).trans rfl
         have hcz29_1 : w26.cell? ⟨gb168,1,none⟩ = some (.int .i64 x169001_1):=(blk_cell BK168.out 1).trans rfl
         have hfz29_0:=blk_frozen BK168.out 0
         have hfz29_1:=blk_frozen BK168.out 1
         try go_wp2
         go_roundg k1
         case measure => have:=HK1.out;omega
         case rel => exact ⟨(wrap64 (x6_1 + 1)),(t171),(t172),(by first|rfl|(simp;done)|(simp [*];done)),H',⟨by have:=HK1.out;omega⟩,⟨by (with_reducible repeat (first|apply Ra|apply Rn|apply Rd));exact Kd.R_mono (Kd.R_far (p:=⟨gb168,1,none⟩) (Kd.R_far (p:=⟨gb168,0,none⟩) (Kd.R_types HO_3.out BK168.out (by decide)) (fun _ hk => hk.2) (.string t171)) (fun _ hk => hk.2) (.int .i64 t172)) (fun _ hk => hk.1)⟩,⟨by (with_reducible repeat (first|apply Ra|apply Rn|apply Rd));exact Kd.R_mono (Kd.R_far (p:=⟨gb168,1,none⟩) (Kd.R_far (p:=⟨gb168,0,none⟩) (Kd.R_types HO_4.out BK168.out (by decide)) (fun _ hk => hk.2) (.string t171)) (fun _ hk => hk.2) (.int .i64 t172)) (fun _ hk => hk.1)⟩,⟨by (with_reducible repeat (first|refine bN ?_ _|refine bD ?_|refine bA ?_ _));refine blk_put (cs:=#[.string t171,.int .i64 x169001_1]) ?_ 1 _ rfl;(with_reducible repeat (first|refine bN ?_ _|refine bD ?_|refine bA ?_ _));refine blk_put (cs:=#[.string x169000_1,.int .i64 x169001_1]) ?_ 0 _ rfl;(with_reducible repeat (first|refine bN ?_ _|refine bD ?_|refine bA ?_ _));exact BK168.out⟩,⟨by repeat (first|(with_reducible first|exact HB.out|apply wA|apply wN|apply wD|refine wS ?_ GE168.out|refine wS ?_ GE174.out)|exact HB.out)⟩⟩
        rw [if_neg c15] at H
        have c15b0 : (t172 == (wrap64 (x169001_1 + (rd t163 x6_1)))) = false:=beq_eq_false_iff_ne.mpr c15
        have c15b1 : (t172 != (wrap64 (x169001_1 + (rd t163 x6_1)))) = true:=bne_iff_ne.mpr c15
        obtain rfl:=Option.some.inj H
        obtain ⟨Ao30,co30,eo30⟩:=Kd.R_slice HO_3.out
        subst eo30;try go_wp2
        have n0_:=AM (Rd HO_3.out)
        have n1_:=AM (Rd HO_4.out)
        have n2_:=AM (bD BK168.out)
        have n3_:=AM (wD HB.out)
        clear HO_3;clear HO_4;clear BK168;clear HB;have HO_3:=n0_;have HO_4:=n1_;have BK168:=n2_;have HB:=n3_;clear n0_ n1_ n2_ n3_;have p169 : 0 ≤ (x6_1 : Int):=of_decide_eq_true (by first|(with_reducible assumption)|assumption)
        have q169 : x6_1 < (t162.length : Int):=of_decide_eq_true (by first|(with_reducible assumption)|assumption)
        obtain ⟨ad169,e169,hx169_0⟩:=Kd.at_int (Kd.R_reads' HO_3.out).2.2 x6_1 p169 q169
        cases e169
        replace p169:=eq_true p169
        replace q169:=eq_true q169
        obtain ⟨Ao32,co32,eo32⟩:=Kd.R_slice HO_4.out
        (first|subst eo32|(injection eo32 with f1_ f2_ f3_;have f4_:=f1_.symm;have f5_:=f3_.symm;clear f1_ f2_ f3_;subst f4_;subst f5_))
        have p170 : 0 ≤ (x6_1 : Int):=of_decide_eq_true (by first|(with_reducible assumption)|assumption)
        have q170 : x6_1 < (t163.length : Int):=of_decide_eq_true (by first|(with_reducible assumption)|assumption)
        obtain ⟨ad170,e170,hx170_0⟩:=Kd.at_int (Kd.R_reads' HO_4.out).2.2 x6_1 p170 q170
        cases e170
        replace p170:=eq_true p170
        replace q170:=eq_true q170
        refine start_ (n:=16) (S:=fun w' => w'.cell? ⟨gb168,0,none⟩ = some (.string x169000_1) ∧ w'.cell? ⟨gb168,1,none⟩ = some (.int .i64 x169001_1) ∧ w'.cell? (ad169.add (x6_1).toNat) = some (.int .i64 (rd t162 x6_1)) ∧ w'.cell? (ad170.add (x6_1).toNat) = some (.int .i64 (rd t163 x6_1))) (ds:=[]) #[Z,Z,Z,Z,Z,Z,Z,Z,Z,Z,Z,Z,Z,Z,Z,Z] (by kernel_rfl) rfl rfl ⟨(blk_cell BK168.out 0).trans rfl,(blk_cell BK168.out 1).trans rfl,hx169_0,hx170_0⟩ (fun hHeld => ?_);refine with_tabW laws_FnBits.tab8 laws_FnBits.bits8 (fun HT_ HW_ => ?_)
        generalize wr.drew = w31 at HO_3 HO_4 BK168 HB hx169_0 hx170_0 hHeld ⊢
        refine pure_ (i:=1) (N:=some 39) (v:=?_) (a':=?_) #[Z,Y,Z,Z,Z,Z,Z,Z,Z,Z,Z,Z,Z,Z,Z,Z] rfl rfl (any_of HT_.out (by kernel_rfl)) (fun _ _ _ h => h) (Or.inl ⟨by rfl,?_⟩) ?_ ?_
        rotate_left
        ·intro w'
         go_simp
         with_reducible rfl
        rotate_left
        ·simp only[p0,p1,p2,p3,p4,p5];rfl
        refine pure_ (i:=2) (N:=some 40) (v:=?_) (a':=?_) #[Z,Y,Y,Z,Z,Z,Z,Z,Z,Z,Z,Z,Z,Z,Z,Z] rfl rfl (any_of HT_.out (by kernel_rfl)) (fun _ _ _ h => h) (Or.inl ⟨by rfl,?_⟩) ?_ ?_
        rotate_left
        ·intro w'
         go_simp
         with_reducible rfl
        rotate_left
        ·simp only[p0,p1,p2,p3,p4,p5];rfl
        refine pure_ (i:=3) (N:=some 41) (v:=?_) (a':=?_) #[Z,Y,Y,Y,Z,Z,Z,Z,Z,Z,Z,Z,Z,Z,Z,Z] rfl rfl (any_of HT_.out (by kernel_rfl)) (fun _ _ _ h => h) (Or.inl ⟨by rfl,?_⟩) ?_ ?_
        rotate_left
        ·intro w'
         go_simp
         with_reducible rfl
        rotate_left
        ·simp only[p0,p1,p2,p3,p4,p5];rfl
        refine pure_ (i:=5) (N:=some 43) (v:=?_) (a':=?_) #[Z,Y,Y,Y,Z,Y,Z,Z,Z,Z,Z,Z,Z,Z,Z,Z] rfl rfl (any_of HT_.out (by kernel_rfl)) (fun _ _ _ h => h) (Or.inl ⟨by rfl,?_⟩) ?_ ?_
        rotate_left
        ·intro w'
         go_simp
         with_reducible rfl
        rotate_left
        ·simp only[p0,p1,p2,p3,p4,p5];rfl
        refine pure_ (i:=6) (N:=some 44) (v:=?_) (a':=?_) #[Z,Y,Y,Y,Z,Y,Y,Z,Z,Z,Z,Z,Z,Z,Z,Z] rfl rfl (any_of HT_.out (by kernel_rfl)) (fun _ _ _ h => h) (Or.inl ⟨by rfl,?_⟩) ?_ ?_
        rotate_left
        ·intro w'
         go_simp
         with_reducible rfl
        rotate_left
        ·simp only[p0,p1,p2,p3,p4,p5];rfl
        refine pure_ (i:=7) (N:=some 45) (v:=?_) (a':=?_) #[Z,Y,Y,Y,Z,Y,Y,Y,Z,Z,Z,Z,Z,Z,Z,Z] rfl rfl (any_of HT_.out (by kernel_rfl)) (fun _ _ _ h => h) (Or.inl ⟨by rfl,?_⟩) ?_ ?_
        rotate_left
        ·intro w'
         go_simp
         with_reducible rfl
        rotate_left
        ·simp only[p0,p1,p2,p3,p4,p5];rfl
        refine take_ (i:=0) (N:=some 38) (v:=?_) (a':=?_) #[Y,Y,Y,Y,Z,Y,Y,Y,Z,Z,Z,Z,Z,Z,Z,Z] rfl rfl (take_ofW HT_.out HW_.out (by kernel_rfl)) (fun _ _ _ h => h) (Or.inl ⟨by rfl,?_⟩) hHeld ?_ ?_
        rotate_left
        ·rintro w' ⟨s0,s1,s2,s3⟩
         go_simp
         with_reducible rfl
        rotate_left
        ·simp only[p0,p1,p2,p3,p4,p5];rfl
        refine take_ (i:=4) (N:=some 42) (v:=?_) (a':=?_) #[Y,Y,Y,Y,Y,Y,Y,Y,Z,Z,Z,Z,Z,Z,Z,Z] rfl rfl (take_ofW HT_.out HW_.out (by kernel_rfl)) (fun _ _ _ h => h) (Or.inl ⟨by rfl,?_⟩) hHeld ?_ ?_
        rotate_left
        ·rintro w' ⟨s0,s1,s2,s3⟩
         go_simp
         with_reducible rfl
        rotate_left
        ·simp only[p0,p1,p2,p3,p4,p5];rfl
        refine take_ (i:=8) (N:=some 46) (v:=?_) (a':=?_) #[Y,Y,Y,Y,Y,Y,Y,Y,Y,Z,Z,Z,Z,Z,Z,Z] rfl rfl (take_ofW HT_.out HW_.out (by kernel_rfl)) (fun _ _ _ h => h) (Or.inl ⟨by rfl,?_⟩) hHeld ?_ ?_
        rotate_left
        ·rintro w' ⟨s0,s1,s2,s3⟩
         go_simp
         with_reducible rfl
        rotate_left
        ·simp only[p0,p1,p2,p3,p4,p5];rfl
        refine join_ (σ:=Nat) 2 #[Y,Y,Y,Y,Y,Y,Y,Y,Y,Y,Y,Y,Y,Y,Z,Z] (fun s_ => [(47,.tuple #[.agg #[.string t171,.int .i64 t172],.bool true]),(7,.pointer (some ⟨s_,0,none⟩)),(37,.tuple #[.agg #[.string t171,.int .i64 t172],.bool true]),(48,.agg #[.string t171,.int .i64 t172]),(49,.bool true)]) (fun s_ w' => (w'.cell? ⟨gb168,0,none⟩ = some (.string x169000_1) ∧ w'.cell? ⟨gb168,1,none⟩ = some (.int .i64 x169001_1) ∧ w'.cell? (ad169.add (x6_1).toNat) = some (.int .i64 (rd t162 x6_1)) ∧ w'.cell? (ad170.add (x6_1).toNat) = some (.int .i64 (rd t163 x6_1))) ∧ (Kd.R (Kd.int .i64) 3 w' w.heap.size (fun k_ => some k_ ≠ (.slice (some ad170) t163.length co32 : Value).ownBlock) (.slice (some ad169) t162.length co30) t162) ∧ (Kd.R (Kd.int .i64) 3 w' w.heap.size (fun k_ => some k_ ≠ (.slice (some ad169) t162.length co30 : Value).ownBlock) (.slice (some ad170) t163.length co32) t163) ∧ (w'.heap[gb168]? = some (.cells #[.string x169000_1,.int .i64 x169001_1] 50 (0,0))) ∧ (w'.heap[s_]? = some (.cells #[.string (⟨#[]⟩ : ByteArray),.int .i64 0] 50 (0,0))) ∧ (w.heap.size ≤ s_) ∧ (w.heap.size ≤ s_) ∧ (gb168 ≠ s_) ∧ (s_ ≠ gb168) ∧ (Below w.heap.size w w')) ?_ ?_
        rotate_left
        ·intro hCont
         refine two_ (i:=9) (j:=13) (Ni:=some 47) (Nj:=some 7) #[Y,Y,Y,Y,Y,Y,Y,Y,Y,Y,Z,Z,Z,Z,Z,Z] #[Y,Y,Y,Y,Y,Y,Y,Y,Y,Z,Z,Z,Z,Y,Z,Z] rfl rfl rfl rfl (two_of HT_.out (by kernel_rfl)) (by decide) (by decide) (fun K hK => ?_) (fun K hK => ?_)
         ·skip
          refine goes_ Try.func38 (by kernel_rfl) rfl #[.agg #[.string x169000_1,.int .i64 x169001_1],.int .i64 (rd t162 x6_1),.int .i64 (rd t163 x6_1)] (by rfl) rfl rfl (by (try simp only [List.map_toArray,List.map_cons,List.map_nil]);first|done|rfl|(simp only [List.length_drop,List.length_take];rfl)) ?_
          with_reducible refine (impl_PutBits.calls x169000_1 x169001_1 (rd t162 x6_1) (rd t163 x6_1) t171 t172 true _ A11.out).mono ?_
          rintro e w33 ⟨rfl,hb⟩
          have HS2_:=(hb.cell (World.block_lt_of_cell? _ _ (hHeld.2.2.1))).trans (hHeld.2.2.1)
          have HS3_:=(hb.cell (World.block_lt_of_cell? _ _ (hHeld.2.2.2))).trans (hHeld.2.2.2)
          refine ⟨_,rfl,?_⟩
          have n0_:=AM (RB (by (with_reducible repeat (first|apply Ra|apply Rn|apply Rd));exact HO_3.out) hb)
          have n1_:=AM (RB (by (with_reducible repeat (first|apply Ra|apply Rn|apply Rd));exact HO_4.out) hb)
          have n2_:=AM (bB (g:=gb168) (o:=.cells #[.string x169000_1,.int .i64 x169001_1] 50 (0,0)) (by (with_reducible repeat (first|refine bN ?_ _|refine bD ?_|refine bA ?_ _));exact BK168.out) hb)
          have n3_:=AM (below_step (by repeat (first|(with_reducible first|exact HB.out|apply wA|apply wN|apply wD|refine wS ?_ GE168.out)|exact HB.out)) hb)
          clear HO_3;clear HO_4;clear BK168;clear HB;have HO_3:=n0_;have HO_4:=n1_;have BK168:=n2_;have HB:=n3_;clear n0_ n1_ n2_ n3_;(try clear hb);(try clear hb2);(try clear hk);(try clear hi);refine hK.out _ _ ⟨(blk_cell BK168.out 0).trans rfl,(blk_cell BK168.out 1).trans rfl,HS2_,HS3_⟩ (fun hHeld => ?_)
          clear hK K;refine norm_ (a':=?_) ?_ ?_
          rotate_left
          ·show Act.put _ (some 47) _ = _
           simp only[p0,p1,p2,p3,p4,p5];rfl
          refine pure_ (i:=10) (N:=some 37) (v:=?_) (a':=?_) #[Y,Y,Y,Y,Y,Y,Y,Y,Y,Y,Y,Z,Z,Z,Z,Z] rfl rfl (any_of HT_.out (by kernel_rfl)) (fun _ _ _ h => h) (Or.inl ⟨by rfl,?_⟩) ?_ ?_
          rotate_left
          ·intro w'
           go_simp
           with_reducible rfl
          rotate_left
          ·simp only[p0,p1,p2,p3,p4,p5];rfl
          refine pure_ (i:=11) (N:=some 48) (v:=?_) (a':=?_) #[Y,Y,Y,Y,Y,Y,Y,Y,Y,Y,Y,Y,Z,Z,Z,Z] rfl rfl (any_of HT_.out (by kernel_rfl)) (fun _ _ _ h => h) (Or.inl ⟨by rfl,?_⟩) ?_ ?_
          rotate_left
          ·intro w'
           go_simp
           with_reducible rfl
          rotate_left
          ·simp only[p0,p1,p2,p3,p4,p5];rfl
          refine pure_ (i:=12) (N:=some 49) (v:=?_) (a':=?_) #[Y,Y,Y,Y,Y,Y,Y,Y,Y,Y,Y,Y,Y,Z,Z,Z] rfl rfl (any_of HT_.out (by kernel_rfl)) (fun _ _ _ h => h) (Or.inl ⟨by rfl,?_⟩) ?_ ?_
          rotate_left
          ·intro w'
           go_simp
           with_reducible rfl
          rotate_left
          ·simp only[p0,p1,p2,p3,p4,p5];rfl
          refine one_ (i:=13) (N:=some 7) #[Y,Y,Y,Y,Y,Y,Y,Y,Y,Y,Y,Y,Y,Y,Z,Z] rfl rfl (one_of HT_.out (by kernel_rfl)) (by decide) (fun K hK => ?_)
          refine box_step ?hg (N:=7) ?hd (cs:=#[.string (⟨#[]⟩ : ByteArray),.int .i64 0]) (t:=50) ?hr ?_;(case hd => rfl);(case hg => rfl);(case hr => first|(go_simp;done)|(go_simp;rfl))
          intro gb174 hg w34 hbox hb
          have HS2_:=(hb.cell (World.block_lt_of_cell? _ _ (hHeld.2.2.1))).trans (hHeld.2.2.1)
          have HS3_:=(hb.cell (World.block_lt_of_cell? _ _ (hHeld.2.2.2))).trans (hHeld.2.2.2)
          have n0_:=AM (RB (by (with_reducible repeat (first|apply Ra|apply Rn|apply Rd));exact HO_3.out) hb)
          have n1_:=AM (RB (by (with_reducible repeat (first|apply Ra|apply Rn|apply Rd));exact HO_4.out) hb)
          have n2_:=AM (bB (g:=gb168) (o:=.cells #[.string x169000_1,.int .i64 x169001_1] 50 (0,0)) (by (with_reducible repeat (first|refine bN ?_ _|refine bD ?_|refine bA ?_ _));exact BK168.out) hb)
          have n3_:=AM (below_step (by repeat (first|(with_reducible first|exact HB.out|apply wA|apply wN|apply wD|refine wS ?_ GE168.out)|exact HB.out)) hb)
          have n4_:=AM (hbox)
          have n5_:=AM ((by rw [hg];exact (below_size (by repeat (first|(with_reducible first|exact HB.out|apply wA|apply wN|apply wD|refine wS ?_ GE168.out)|exact HB.out))) : w.heap.size ≤ gb174))
          have n6_:=AM ((by rw [hg];exact (below_size (by repeat (first|(with_reducible first|exact HB.out|apply wA|apply wN|apply wD|refine wS ?_ GE168.out)|exact HB.out))) : w.heap.size ≤ gb174))
          have n7_:=AM ((by rw [hg];exact Nat.ne_of_lt (bL (g:=gb168) (o:=.cells #[.string x169000_1,.int .i64 x169001_1] 50 (0,0)) (by (with_reducible repeat (first|refine bN ?_ _|refine bD ?_|refine bA ?_ _));exact BK168.out)) : gb168 ≠ gb174))
          have n8_:=AM ((by rw [hg];exact Nat.ne_of_gt (bL (g:=gb168) (o:=.cells #[.string x169000_1,.int .i64 x169001_1] 50 (0,0)) (by (with_reducible repeat (first|refine bN ?_ _|refine bD ?_|refine bA ?_ _));exact BK168.out)) : gb174 ≠ gb168))
          clear HO_3;clear HO_4;clear BK168;clear HB;have HO_3:=n0_;have HO_4:=n1_;have BK168:=n2_;have HB:=n3_;have BK174:=n4_;have GW174:=n5_;have GE174:=n6_;have NB168_174:=n7_;have NB174_168:=n8_;clear n0_ n1_ n2_ n3_ n4_ n5_ n6_ n7_ n8_;clear hb hbox hg;refine hK.out _ _ ⟨(blk_cell BK168.out 0).trans rfl,(blk_cell BK168.out 1).trans rfl,HS2_,HS3_⟩ (fun hHeld => ?_)
          clear hK K;refine norm_ (a':=?_) ?_ ?_
          rotate_left
          ·show Act.put _ (some 7) _ = _
           simp only[p0,p1,p2,p3,p4,p5];rfl
          exact norm_ (by simp only[putAll,p0,p1,p2,p3]) (hCont (gb174) _ ⟨hHeld,(by (with_reducible repeat (first|apply Ra|apply Rn|apply Rd));exact HO_3.out),(by (with_reducible repeat (first|apply Ra|apply Rn|apply Rd));exact HO_4.out),(by (with_reducible repeat (first|refine bN ?_ _|refine bD ?_|refine bA ?_ _));exact BK168.out),(by (with_reducible repeat (first|refine bN ?_ _|refine bD ?_|refine bA ?_ _));exact BK174.out),GW174.out,GE174.out,NB168_174.out,NB174_168.out,(by repeat (first|(with_reducible first|exact HB.out|apply wA|apply wN|apply wD|refine wS ?_ GE168.out|refine wS ?_ GE174.out)|exact HB.out))⟩)
         skip
         refine box_step ?hg (N:=7) ?hd (cs:=#[.string (⟨#[]⟩ : ByteArray),.int .i64 0]) (t:=50) ?hr ?_;(case hd => rfl);(case hg => rfl);(case hr => first|(go_simp;done)|(go_simp;rfl))
         intro gb174 hg w33 hbox hb
         have HS2_:=(hb.cell (World.block_lt_of_cell? _ _ (hHeld.2.2.1))).trans (hHeld.2.2.1)
         have HS3_:=(hb.cell (World.block_lt_of_cell? _ _ (hHeld.2.2.2))).trans (hHeld.2.2.2)
         have n0_:=AM (RB (by (with_reducible repeat (first|apply Ra|apply Rn|apply Rd));exact HO_3.out) hb)
         have n1_:=AM (RB (by (with_reducible repeat (first|apply Ra|apply Rn|apply Rd));exact HO_4.out) hb)
         have n2_:=AM (bB (g:=gb168) (o:=.cells #[.string x169000_1,.int .i64 x169001_1] 50 (0,0)) (by (with_reducible repeat (first|refine bN ?_ _|refine bD ?_|refine bA ?_ _));exact BK168.out) hb)
         have n3_:=AM (below_step (by repeat (first|(with_reducible first|exact HB.out|apply wA|apply wN|apply wD|refine wS ?_ GE168.out)|exact HB.out)) hb)
         have n4_:=AM (hbox)
         have n5_:=AM ((by rw [hg];exact (below_size (by repeat (first|(with_reducible first|exact HB.out|apply wA|apply wN|apply wD|refine wS ?_ GE168.out)|exact HB.out))) : w.heap.size ≤ gb174))
         have n6_:=AM ((by rw [hg];exact (below_size (by repeat (first|(with_reducible first|exact HB.out|apply wA|apply wN|apply wD|refine wS ?_ GE168.out)|exact HB.out))) : w.heap.size ≤ gb174))
         have n7_:=AM ((by rw [hg];exact Nat.ne_of_lt (bL (g:=gb168) (o:=.cells #[.string x169000_1,.int .i64 x169001_1] 50 (0,0)) (by (with_reducible repeat (first|refine bN ?_ _|refine bD ?_|refine bA ?_ _));exact BK168.out)) : gb168 ≠ gb174))
         have n8_:=AM ((by rw [hg];exact Nat.ne_of_gt (bL (g:=gb168) (o:=.cells #[.string x169000_1,.int .i64 x169001_1] 50 (0,0)) (by (with_reducible repeat (first|refine bN ?_ _|refine bD ?_|refine bA ?_ _));exact BK168.out)) : gb174 ≠ gb168))
         clear HO_3;clear HO_4;clear BK168;clear HB;have HO_3:=n0_;have HO_4:=n1_;have BK168:=n2_;have HB:=n3_;have BK174:=n4_;have GW174:=n5_;have GE174:=n6_;have NB168_174:=n7_;have NB174_168:=n8_;clear n0_ n1_ n2_ n3_ n4_ n5_ n6_ n7_ n8_;clear hb hbox hg;refine hK.out _ _ ⟨(blk_cell BK168.out 0).trans rfl,(blk_cell BK168.out 1).trans rfl,HS2_,HS3_⟩ (fun hHeld => ?_)
         clear hK K;refine norm_ (a':=?_) ?_ ?_
         rotate_left
         ·show Act.put _ (some 7) _ = _
          simp only[p0,p1,p2,p3,p4,p5];rfl
         refine one_ (i:=9) (N:=some 47) #[Y,Y,Y,Y,Y,Y,Y,Y,Y,Y,Z,Z,Z,Y,Z,Z] rfl rfl (one_of HT_.out (by kernel_rfl)) (by decide) (fun K hK => ?_)
         refine goes_ Try.func38 (by kernel_rfl) rfl #[.agg #[.string x169000_1,.int .i64 x169001_1],.int .i64 (rd t162 x6_1),.int .i64 (rd t163 x6_1)] (by rfl) rfl rfl (by (try simp only [List.map_toArray,List.map_cons,List.map_nil]);first|done|rfl|(simp only [List.length_drop,List.length_take];rfl)) ?_
         with_reducible refine (impl_PutBits.calls x169000_1 x169001_1 (rd t162 x6_1) (rd t163 x6_1) t171 t172 true _ A11.out).mono ?_
         rintro e w34 ⟨rfl,hb⟩
         have HS2_:=(hb.cell (World.block_lt_of_cell? _ _ (hHeld.2.2.1))).trans (hHeld.2.2.1)
         have HS3_:=(hb.cell (World.block_lt_of_cell? _ _ (hHeld.2.2.2))).trans (hHeld.2.2.2)
         refine ⟨_,rfl,?_⟩
         have n0_:=AM (RB (by (with_reducible repeat (first|apply Ra|apply Rn|apply Rd));exact HO_3.out) hb)
         have n1_:=AM (RB (by (with_reducible repeat (first|apply Ra|apply Rn|apply Rd));exact HO_4.out) hb)
         have n2_:=AM (bB (g:=gb168) (o:=.cells #[.string x169000_1,.int .i64 x169001_1] 50 (0,0)) (by (with_reducible repeat (first|refine bN ?_ _|refine bD ?_|refine bA ?_ _));exact BK168.out) hb)
         have n3_:=AM (bB (g:=gb174) (o:=.cells #[.string (⟨#[]⟩ : ByteArray),.int .i64 0] 50 (0,0)) (by (with_reducible repeat (first|refine bN ?_ _|refine bD ?_|refine bA ?_ _));exact BK174.out) hb)
         have n4_:=AM (below_step (by repeat (first|(with_reducible first|exact HB.out|apply wA|apply wN|apply wD|refine wS ?_ GE168.out|refine wS ?_ GE174.out)|exact HB.out)) hb)
         clear HO_3;clear HO_4;clear BK168;clear BK174;clear HB;have HO_3:=n0_;have HO_4:=n1_;have BK168:=n2_;have BK174:=n3_;have HB:=n4_;clear n0_ n1_ n2_ n3_ n4_;(try clear hb);(try clear hb2);(try clear hk);(try clear hi);refine hK.out _ _ ⟨(blk_cell BK168.out 0).trans rfl,(blk_cell BK168.out 1).trans rfl,HS2_,HS3_⟩ (fun hHeld => ?_)
         clear hK K;refine norm_ (a':=?_) ?_ ?_
         rotate_left
         ·show Act.put _ (some 47) _ = _
          simp only[p0,p1,p2,p3,p4,p5];rfl
         refine pure_ (i:=10) (N:=some 37) (v:=?_) (a':=?_) #[Y,Y,Y,Y,Y,Y,Y,Y,Y,Y,Y,Z,Z,Y,Z,Z] rfl rfl (any_of HT_.out (by kernel_rfl)) (fun _ _ _ h => h) (Or.inl ⟨by rfl,?_⟩) ?_ ?_
         rotate_left
         ·intro w'
          go_simp
          with_reducible rfl
         rotate_left
         ·simp only[p0,p1,p2,p3,p4,p5];rfl
         refine pure_ (i:=11) (N:=some 48) (v:=?_) (a':=?_) #[Y,Y,Y,Y,Y,Y,Y,Y,Y,Y,Y,Y,Z,Y,Z,Z] rfl rfl (any_of HT_.out (by kernel_rfl)) (fun _ _ _ h => h) (Or.inl ⟨by rfl,?_⟩) ?_ ?_
         rotate_left
         ·intro w'
          go_simp
          with_reducible rfl
         rotate_left
         ·simp only[p0,p1,p2,p3,p4,p5];rfl
         refine pure_ (i:=12) (N:=some 49) (v:=?_) (a':=?_) #[Y,Y,Y,Y,Y,Y,Y,Y,Y,Y,Y,Y,Y,Y,Z,Z] rfl rfl (any_of HT_.out (by kernel_rfl)) (fun _ _ _ h => h) (Or.inl ⟨by rfl,?_⟩) ?_ ?_
         rotate_left
         ·intro w'
          go_simp
          with_reducible rfl
         rotate_left
         ·simp only[p0,p1,p2,p3,p4,p5];rfl
         exact norm_ (by simp only[putAll,p0,p1,p2,p3]) (hCont (gb174) _ ⟨hHeld,(by (with_reducible repeat (first|apply Ra|apply Rn|apply Rd));exact HO_3.out),(by (with_reducible repeat (first|apply Ra|apply Rn|apply Rd));exact HO_4.out),(by (with_reducible repeat (first|refine bN ?_ _|refine bD ?_|refine bA ?_ _));exact BK168.out),(by (with_reducible repeat (first|refine bN ?_ _|refine bD ?_|refine bA ?_ _));exact BK174.out),GW174.out,GE174.out,NB168_174.out,NB174_168.out,(by repeat (first|(with_reducible first|exact HB.out|apply wA|apply wN|apply wD|refine wS ?_ GE168.out|refine wS ?_ GE174.out)|exact HB.out))⟩)
        rintro gb174 w35 ⟨hS_,h0_,h1_,h2_,h3_,h4_,h5_,h6_,h7_,h8_⟩
        have n0_ : Aside0 (Kd.R (Kd.int .i64) 3 w35 w.heap.size (fun k_ => some k_ ≠ (.slice (some ad170) t163.length co32 : Value).ownBlock) (.slice (some ad169) t162.length co30) t162):=⟨h0_⟩
        have n1_ : Aside0 (Kd.R (Kd.int .i64) 3 w35 w.heap.size (fun k_ => some k_ ≠ (.slice (some ad169) t162.length co30 : Value).ownBlock) (.slice (some ad170) t163.length co32) t163):=⟨h1_⟩
        have n2_ : Aside0 (w35.heap[gb168]? = some (.cells #[.string x169000_1,.int .i64 x169001_1] 50 (0,0))):=⟨h2_⟩
        have n3_ : Aside0 (w35.heap[gb174]? = some (.cells #[.string (⟨#[]⟩ : ByteArray),.int .i64 0] 50 (0,0))):=⟨h3_⟩
        have n4_ : Aside0 (w.heap.size ≤ gb174):=⟨h4_⟩
        have n5_ : Aside0 (w.heap.size ≤ gb174):=⟨h5_⟩
        have n6_ : Aside0 (gb168 ≠ gb174):=⟨h6_⟩
        have n7_ : Aside0 (gb174 ≠ gb168):=⟨h7_⟩
        have n8_ : Aside0 (Below w.heap.size w w35):=⟨h8_⟩
        clear HO_3;clear HO_4;clear BK168;clear HB;clear h0_ h1_ h2_ h3_ h4_ h5_ h6_ h7_ h8_;have HO_3:=n0_;have HO_4:=n1_;have BK168:=n2_;have BK174:=n3_;have GW174:=n4_;have GE174:=n5_;have NB168_174:=n6_;have NB174_168:=n7_;have HB:=n8_;clear n0_ n1_ n2_ n3_ n4_ n5_ n6_ n7_ n8_;have hHeld : w35.cell? ⟨gb168,0,none⟩ = some (.string x169000_1) ∧ w35.cell? ⟨gb168,1,none⟩ = some (.int .i64 x169001_1) ∧ w35.cell? (ad169.add (x6_1).toNat) = some (.int .i64 (rd t162 x6_1)) ∧ w35.cell? (ad170.add (x6_1).toNat) = some (.int .i64 (rd t163 x6_1)):=hS_
        refine norm_ (a':=?_) ?_ ?_
        rotate_left
        ·simp only[putAll,p0,p1,p2,p3]
         rfl
        refine one_ (i:=14) (N:=none) #[Y,Y,Y,Y,Y,Y,Y,Y,Y,Y,Y,Y,Y,Y,Y,Z] rfl rfl (one_of HT_.out (by kernel_rfl)) (by decide) (fun K hK => ?_)
        have hs36 : w35.cell? ⟨gb174,0,none⟩ = some (.string (⟨#[]⟩ : ByteArray)):=(blk_cell BK174.out 0).trans rfl
        have hfs36:=blk_frozen BK174.out 0
        have hns36_0:=NB168_174.out
        have hms36_0:=NB174_168.out
        have hs37 : w35.cell? ⟨gb174,1,none⟩ = some (.int .i64 0):=(blk_cell BK174.out 1).trans rfl
        have hfs37:=blk_frozen BK174.out 1
        have hns37_0:=NB168_174.out
        have hms37_0:=NB174_168.out
        refine skip_ (w1:=?_) (by rfl) rfl ?_ ?_
        rotate_left
        ·go_simp
         rfl
        refine hK.out _ _ ⟨((cell_far (p:=⟨gb174,_,none⟩) NB168_174.out _).trans (((cell_far (p:=⟨gb174,_,none⟩) NB168_174.out _).trans (hHeld.1)))),((cell_far (p:=⟨gb174,_,none⟩) NB168_174.out _).trans (((cell_far (p:=⟨gb174,_,none⟩) NB168_174.out _).trans (hHeld.2.1)))),((cell_far (p:=⟨gb174,_,none⟩) (by first|exact Kd.own_blk (Kd.R_ne HO_3.out BK174.out (by decide))|(rw [add_block];exact Kd.own_blk (Kd.R_ne HO_3.out BK174.out (by decide)))|(show (Addr.add _ _).block ≠ _;rw [add_block];exact Kd.own_blk (Kd.R_ne HO_3.out BK174.out (by decide)))|(dsimp only;exact Kd.own_blk (Kd.R_ne HO_3.out BK174.out (by decide)))) _).trans (((cell_far (p:=⟨gb174,_,none⟩) (by first|exact Kd.own_blk (Kd.R_ne HO_3.out BK174.out (by decide))|(rw [add_block];exact Kd.own_blk (Kd.R_ne HO_3.out BK174.out (by decide)))|(show (Addr.add _ _).block ≠ _;rw [add_block];exact Kd.own_blk (Kd.R_ne HO_3.out BK174.out (by decide)))|(dsimp only;exact Kd.own_blk (Kd.R_ne HO_3.out BK174.out (by decide)))) _).trans (hHeld.2.2.1)))),((cell_far (p:=⟨gb174,_,none⟩) (by first|exact Kd.own_blk (Kd.R_ne HO_4.out BK174.out (by decide))|(rw [add_block];exact Kd.own_blk (Kd.R_ne HO_4.out BK174.out (by decide)))|(show (Addr.add _ _).block ≠ _;rw [add_block];exact Kd.own_blk (Kd.R_ne HO_4.out BK174.out (by decide)))|(dsimp only;exact Kd.own_blk (Kd.R_ne HO_4.out BK174.out (by decide)))) _).trans (((cell_far (p:=⟨gb174,_,none⟩) (by first|exact Kd.own_blk (Kd.R_ne HO_4.out BK174.out (by decide))|(rw [add_block];exact Kd.own_blk (Kd.R_ne HO_4.out BK174.out (by decide)))|(show (Addr.add _ _).block ≠ _;rw [add_block];exact Kd.own_blk (Kd.R_ne HO_4.out BK174.out (by decide)))|(dsimp only;exact Kd.own_blk (Kd.R_ne HO_4.out BK174.out (by decide)))) _).trans (hHeld.2.2.2))))⟩ (fun hHeld => ?_)
        clear hK K;refine pure_ (i:=15) (N:=some 8) (v:=?_) (a':=?_) #[Y,Y,Y,Y,Y,Y,Y,Y,Y,Y,Y,Y,Y,Y,Y,Y] rfl rfl (any_of HT_.out (by kernel_rfl)) (fun _ _ _ h => h) (Or.inl ⟨by rfl,?_⟩) ?_ ?_
        rotate_left
        ·intro w'
         go_simp
         with_reducible rfl
        rotate_left
        ·simp only[p0,p1,p2,p3,p4,p5];rfl
        refine done_ (done_of HT_.out (by kernel_rfl)) ?_
        try go_wp2
        have n0_ : Aside0 (Kd.R (Kd.int .i64) 3 ((w35.setCell ⟨gb174,0,none⟩ (.string t171)).setCell ⟨gb174,1,none⟩ (.int .i64 t172)) w.heap.size (fun k_ => some k_ ≠ (.slice (some ad170) t163.length co32 : Value).ownBlock) (.slice (some ad169) t162.length co30) t162):=⟨by (with_reducible repeat (first|apply Ra|apply Rn|apply Rd));exact Kd.R_mono (Kd.R_far (p:=⟨gb174,1,none⟩) (Kd.R_far (p:=⟨gb174,0,none⟩) (Kd.R_types HO_3.out BK174.out (by decide)) (fun _ hk => hk.2) (.string t171)) (fun _ hk => hk.2) (.int .i64 t172)) (fun _ hk => hk.1)⟩
        have n1_ : Aside0 (Kd.R (Kd.int .i64) 3 ((w35.setCell ⟨gb174,0,none⟩ (.string t171)).setCell ⟨gb174,1,none⟩ (.int .i64 t172)) w.heap.size (fun k_ => some k_ ≠ (.slice (some ad169) t162.length co30 : Value).ownBlock) (.slice (some ad170) t163.length co32) t163):=⟨by (with_reducible repeat (first|apply Ra|apply Rn|apply Rd));exact Kd.R_mono (Kd.R_far (p:=⟨gb174,1,none⟩) (Kd.R_far (p:=⟨gb174,0,none⟩) (Kd.R_types HO_4.out BK174.out (by decide)) (fun _ hk => hk.2) (.string t171)) (fun _ hk => hk.2) (.int .i64 t172)) (fun _ hk => hk.1)⟩
        have n2_ : Aside0 (((w35.setCell ⟨gb174,0,none⟩ (.string t171)).setCell ⟨gb174,1,none⟩ (.int .i64 t172)).heap[gb168]? = some (.cells #[.string x169000_1,.int .i64 x169001_1] 50 (0,0))):=⟨by (with_reducible repeat (first|refine bN ?_ _|refine bD ?_|refine bA ?_ _));refine blk_far ?_ NB168_174.out _;(with_reducible repeat (first|refine bN ?_ _|refine bD ?_|refine bA ?_ _));refine blk_far ?_ NB168_174.out _;(with_reducible repeat (first|refine bN ?_ _|refine bD ?_|refine bA ?_ _));exact BK168.out⟩
        have n3_ : Aside0 (((w35.setCell ⟨gb174,0,none⟩ (.string t171)).setCell ⟨gb174,1,none⟩ (.int .i64 t172)).heap[gb174]? = some (.cells #[.string t171,.int .i64 t172] 50 (0,0))):=⟨by (with_reducible repeat (first|refine bN ?_ _|refine bD ?_|refine bA ?_ _));refine blk_put (cs:=#[.string t171,.int .i64 0]) ?_ 1 _ rfl;(with_reducible repeat (first|refine bN ?_ _|refine bD ?_|refine bA ?_ _));refine blk_put (cs:=#[.string (⟨#[]⟩ : ByteArray),.int .i64 0]) ?_ 0 _ rfl;(with_reducible repeat (first|refine bN ?_ _|refine bD ?_|refine bA ?_ _));exact BK174.out⟩
        have n4_ : Aside0 (Below w.heap.size w ((w35.setCell ⟨gb174,0,none⟩ (.string t171)).setCell ⟨gb174,1,none⟩ (.int .i64 t172))):=⟨by repeat (first|(with_reducible first|exact HB.out|apply wA|apply wN|apply wD|refine wS ?_ GE168.out|refine wS ?_ GE174.out)|exact HB.out)⟩
        (try clear HO_3);(try clear HO_4);(try clear BK168);(try clear BK174);(try clear HB);generalize ((w35.setCell ⟨gb174,0,none⟩ (.string t171)).setCell ⟨gb174,1,none⟩ (.int .i64 t172)) = w38 at n0_ n1_ n2_ n3_ n4_ ⊢
        have HO_3:=n0_;have HO_4:=n1_;have BK168:=n2_;have BK174:=n3_;have HB:=n4_;clear n0_ n1_ n2_ n3_ n4_;have n0_:=AM (Rd HO_3.out)
        have n1_:=AM (Rd HO_4.out)
        have n2_:=AM (bD BK168.out)
        have n3_:=AM (bD BK174.out)
        have n4_:=AM (wD HB.out)
        clear HO_3;clear HO_4;clear BK168;clear BK174;clear HB;have HO_3:=n0_;have HO_4:=n1_;have BK168:=n2_;have BK174:=n3_;have HB:=n4_;clear n0_ n1_ n2_ n3_ n4_;have p176 : 0 ≤ (x6_1 : Int):=of_decide_eq_true (by first|(with_reducible assumption)|assumption)
        have q176 : x6_1 < (t163.length : Int):=of_decide_eq_true (by first|(with_reducible assumption)|assumption)
        obtain ⟨ad176,e176,hx176_0⟩:=Kd.at_int (Kd.R_reads' HO_4.out).2.2 x6_1 p176 q176
        obtain rfl : ad170 = ad176:=(by injection e176)
        replace p176:=eq_true p176
        replace q176:=eq_true q176
        refine start_ (n:=19) (S:=fun w' => w'.cell? ⟨gb174,0,none⟩ = some (.string t171) ∧ w'.cell? ⟨gb174,1,none⟩ = some (.int .i64 t172) ∧ w'.cell? ⟨gb168,0,none⟩ = some (.string x169000_1) ∧ w'.cell? ⟨gb168,1,none⟩ = some (.int .i64 x169001_1) ∧ w'.cell? (ad170.add (x6_1).toNat) = some (.int .i64 (rd t163 x6_1))) (ds:=[]) #[Z,Z,Z,Z,Z,Z,Z,Z,Z,Z,Z,Z,Z,Z,Z,Z,Z,Z,Z] (by kernel_rfl) rfl rfl ⟨(blk_cell BK174.out 0).trans rfl,(blk_cell BK174.out 1).trans rfl,(blk_cell BK168.out 0).trans rfl,(blk_cell BK168.out 1).trans rfl,hx176_0⟩ (fun hHeld => ?_);refine with_tabW laws_FnBits.tab9 laws_FnBits.bits9 (fun HT_ HW_ => ?_)
        generalize w38.drew = w39 at HO_3 HO_4 BK168 BK174 HB hx176_0 hHeld ⊢
        refine pure_ (i:=0) (N:=some 50) (v:=?_) (a':=?_) #[Y,Z,Z,Z,Z,Z,Z,Z,Z,Z,Z,Z,Z,Z,Z,Z,Z,Z,Z] rfl rfl (any_of HT_.out (by kernel_rfl)) (fun _ _ _ h => h) (Or.inl ⟨by rfl,?_⟩) ?_ ?_
        rotate_left
        ·intro w'
         go_simp
         with_reducible rfl
        rotate_left
        ·simp only[p0,p1,p2,p3,p4,p5];rfl
        refine pure_ (i:=1) (N:=some 51) (v:=?_) (a':=?_) #[Y,Y,Z,Z,Z,Z,Z,Z,Z,Z,Z,Z,Z,Z,Z,Z,Z,Z,Z] rfl rfl (any_of HT_.out (by kernel_rfl)) (fun _ _ _ h => h) (Or.inl ⟨by rfl,?_⟩) ?_ ?_
        rotate_left
        ·intro w'
         go_simp
         with_reducible rfl
        rotate_left
        ·simp only[p0,p1,p2,p3,p4,p5];rfl
        refine pure_ (i:=2) (N:=some 52) (v:=?_) (a':=?_) #[Y,Y,Y,Z,Z,Z,Z,Z,Z,Z,Z,Z,Z,Z,Z,Z,Z,Z,Z] rfl rfl (any_of HT_.out (by kernel_rfl)) (fun _ _ _ h => h) (Or.inl ⟨by rfl,?_⟩) ?_ ?_
        rotate_left
        ·intro w'
         go_simp
         with_reducible rfl
        rotate_left
        ·simp only[p0,p1,p2,p3,p4,p5];rfl
        refine take_ (i:=3) (N:=some 53) (v:=?_) (a':=?_) #[Y,Y,Y,Y,Z,Z,Z,Z,Z,Z,Z,Z,Z,Z,Z,Z,Z,Z,Z] rfl rfl (take_ofW HT_.out HW_.out (by kernel_rfl)) (fun _ _ _ h => h) (Or.inl ⟨by rfl,?_⟩) hHeld ?_ ?_
        rotate_left
        ·rintro w' ⟨s0,s1,s2,s3,s4⟩
         go_simp
         with_reducible rfl
        rotate_left
        ·simp only[p0,p1,p2,p3,p4,p5];rfl
        refine one_ (i:=4) (N:=some 54) #[Y,Y,Y,Y,Y,Z,Z,Z,Z,Z,Z,Z,Z,Z,Z,Z,Z,Z,Z] rfl rfl (one_of HT_.out (by kernel_rfl)) (by decide) (fun K hK => ?_)
        refine goes_ Try.func42 (by kernel_rfl) rfl #[.agg #[.string t171,.int .i64 t172]] (by rfl) rfl rfl (by (try simp only [List.map_toArray,List.map_cons,List.map_nil]);first|done|rfl|(simp only [List.length_drop,List.length_take];rfl)) ?_
        with_reducible refine (impl_OutOk.calls t171 t172 true _ A13.out).mono ?_
        rintro e w40 ⟨rfl,hb⟩
        have HS4_:=(hb.cell (World.block_lt_of_cell? _ _ (hHeld.2.2.2.2))).trans (hHeld.2.2.2.2)
        refine ⟨_,rfl,?_⟩
        have n0_:=AM (RB (by (with_reducible repeat (first|apply Ra|apply Rn|apply Rd));exact HO_3.out) hb)
        have n1_:=AM (RB (by (with_reducible repeat (first|apply Ra|apply Rn|apply Rd));exact HO_4.out) hb)
        have n2_:=AM (bB (g:=gb168) (o:=.cells #[.string x169000_1,.int .i64 x169001_1] 50 (0,0)) (by (with_reducible repeat (first|refine bN ?_ _|refine bD ?_|refine bA ?_ _));exact BK168.out) hb)
        have n3_:=AM (bB (g:=gb174) (o:=.cells #[.string t171,.int .i64 t172] 50 (0,0)) (by (with_reducible repeat (first|refine bN ?_ _|refine bD ?_|refine bA ?_ _));exact BK174.out) hb)
        have n4_:=AM (below_step (by repeat (first|(with_reducible first|exact HB.out|apply wA|apply wN|apply wD|refine wS ?_ GE168.out|refine wS ?_ GE174.out)|exact HB.out)) hb)
        clear HO_3;clear HO_4;clear BK168;clear BK174;clear HB;have HO_3:=n0_;have HO_4:=n1_;have BK168:=n2_;have BK174:=n3_;have HB:=n4_;clear n0_ n1_ n2_ n3_ n4_;(try clear hb);(try clear hb2);(try clear hk);(try clear hi);refine hK.out _ _ ⟨(blk_cell BK174.out 0).trans rfl,(blk_cell BK174.out 1).trans rfl,(blk_cell BK168.out 0).trans rfl,(blk_cell BK168.out 1).trans rfl,HS4_⟩ (fun hHeld => ?_)
        clear hK K;refine norm_ (a':=?_) ?_ ?_
        rotate_left
        ·show Act.put _ (some 54) _ = _
         simp only[p0,p1,p2,p3,p4,p5];rfl
        refine pure_ (i:=5) (N:=some 55) (v:=?_) (a':=?_) #[Y,Y,Y,Y,Y,Y,Z,Z,Z,Z,Z,Z,Z,Z,Z,Z,Z,Z,Z] rfl rfl (any_of HT_.out (by kernel_rfl)) (fun _ _ _ h => h) (Or.inl ⟨by rfl,?_⟩) ?_ ?_
        rotate_left
        ·intro w'
         go_simp
         with_reducible rfl
        rotate_left
        ·simp only[p0,p1,p2,p3,p4,p5];rfl
        refine pure_ (i:=6) (N:=some 56) (v:=?_) (a':=?_) #[Y,Y,Y,Y,Y,Y,Y,Z,Z,Z,Z,Z,Z,Z,Z,Z,Z,Z,Z] rfl rfl (any_of HT_.out (by kernel_rfl)) (fun _ _ _ h => h) (Or.inl ⟨by rfl,?_⟩) ?_ ?_
        rotate_left
        ·intro w'
         go_simp
         with_reducible rfl
        rotate_left
        ·simp only[p0,p1,p2,p3,p4,p5];rfl
        refine pure_ (i:=7) (N:=some 57) (v:=?_) (a':=?_) #[Y,Y,Y,Y,Y,Y,Y,Y,Z,Z,Z,Z,Z,Z,Z,Z,Z,Z,Z] rfl rfl (any_of HT_.out (by kernel_rfl)) (fun _ _ _ h => h) (Or.inl ⟨by rfl,?_⟩) ?_ ?_
        rotate_left
        ·intro w'
         go_simp
         with_reducible rfl
        rotate_left
        ·simp only[p0,p1,p2,p3,p4,p5];rfl
        refine pure_ (i:=8) (N:=some 58) (v:=?_) (a':=?_) #[Y,Y,Y,Y,Y,Y,Y,Y,Y,Z,Z,Z,Z,Z,Z,Z,Z,Z,Z] rfl rfl (any_of HT_.out (by kernel_rfl)) (fun _ _ _ h => h) (Or.inl ⟨by rfl,?_⟩) ?_ ?_
        rotate_left
        ·intro w'
         go_simp
         with_reducible rfl
        rotate_left
        ·simp only[p0,p1,p2,p3,p4,p5];rfl
        refine pure_ (i:=10) (N:=some 60) (v:=?_) (a':=?_) #[Y,Y,Y,Y,Y,Y,Y,Y,Y,Z,Y,Z,Z,Z,Z,Z,Z,Z,Z] rfl rfl (any_of HT_.out (by kernel_rfl)) (fun _ _ _ h => h) (Or.inl ⟨by rfl,?_⟩) ?_ ?_
        rotate_left
        ·intro w'
         go_simp
         with_reducible rfl
        rotate_left
        ·simp only[p0,p1,p2,p3,p4,p5];rfl
        refine pure_ (i:=12) (N:=some 62) (v:=?_) (a':=?_) #[Y,Y,Y,Y,Y,Y,Y,Y,Y,Z,Y,Z,Y,Z,Z,Z,Z,Z,Z] rfl rfl (any_of HT_.out (by kernel_rfl)) (fun _ _ _ h => h) (Or.inl ⟨by rfl,?_⟩) ?_ ?_
        rotate_left
        ·intro w'
         go_simp
         with_reducible rfl
        rotate_left
        ·simp only[p0,p1,p2,p3,p4,p5];rfl
        refine pure_ (i:=13) (N:=some 63) (v:=?_) (a':=?_) #[Y,Y,Y,Y,Y,Y,Y,Y,Y,Z,Y,Z,Y,Y,Z,Z,Z,Z,Z] rfl rfl (any_of HT_.out (by kernel_rfl)) (fun _ _ _ h => h) (Or.inl ⟨by rfl,?_⟩) ?_ ?_
        rotate_left
        ·intro w'
         go_simp
         with_reducible rfl
        rotate_left
        ·simp only[p0,p1,p2,p3,p4,p5];rfl
        refine pure_ (i:=14) (N:=some 64) (v:=?_) (a':=?_) #[Y,Y,Y,Y,Y,Y,Y,Y,Y,Z,Y,Z,Y,Y,Y,Z,Z,Z,Z] rfl rfl (any_of HT_.out (by kernel_rfl)) (fun _ _ _ h => h) (Or.inl ⟨by rfl,?_⟩) ?_ ?_
        rotate_left
        ·intro w'
         go_simp
         with_reducible rfl
        rotate_left
        ·simp only[p0,p1,p2,p3,p4,p5];rfl
        refine take_ (i:=9) (N:=some 59) (v:=?_) (a':=?_) #[Y,Y,Y,Y,Y,Y,Y,Y,Y,Y,Y,Z,Y,Y,Y,Z,Z,Z,Z] rfl rfl (take_ofW HT_.out HW_.out (by kernel_rfl)) (fun _ _ _ h => h) (Or.inl ⟨by rfl,?_⟩) hHeld ?_ ?_
        rotate_left
        ·rintro w' ⟨s0,s1,s2,s3,s4⟩
         go_simp
         with_reducible rfl
        rotate_left
        ·simp only[p0,p1,p2,p3,p4,p5];rfl
        refine take_ (i:=11) (N:=some 61) (v:=?_) (a':=?_) #[Y,Y,Y,Y,Y,Y,Y,Y,Y,Y,Y,Y,Y,Y,Y,Z,Z,Z,Z] rfl rfl (take_ofW HT_.out HW_.out (by kernel_rfl)) (fun _ _ _ h => h) (Or.inl ⟨by rfl,?_⟩) hHeld ?_ ?_
        rotate_left
        ·rintro w' ⟨s0,s1,s2,s3,s4⟩
         go_simp
         with_reducible rfl
        rotate_left
        ·simp only[p0,p1,p2,p3,p4,p5];rfl
        refine take_ (i:=15) (N:=some 65) (v:=?_) (a':=?_) #[Y,Y,Y,Y,Y,Y,Y,Y,Y,Y,Y,Y,Y,Y,Y,Y,Z,Z,Z] rfl rfl (take_ofW HT_.out HW_.out (by kernel_rfl)) (fun _ _ _ h => h) (Or.inl ⟨by rfl,?_⟩) hHeld ?_ ?_
        rotate_left
        ·rintro w' ⟨s0,s1,s2,s3,s4⟩
         go_simp
         with_reducible rfl
        rotate_left
        ·simp only[p0,p1,p2,p3,p4,p5];rfl
        refine pure_ (i:=16) (N:=some 66) (v:=?_) (a':=?_) #[Y,Y,Y,Y,Y,Y,Y,Y,Y,Y,Y,Y,Y,Y,Y,Y,Y,Z,Z] rfl rfl (any_of HT_.out (by kernel_rfl)) (fun _ _ _ h => h) (Or.inl ⟨by rfl,?_⟩) ?_ ?_
        rotate_left
        ·intro w'
         go_simp
         with_reducible rfl
        rotate_left
        ·simp only[p0,p1,p2,p3,p4,p5];rfl
        refine pure_ (i:=17) (N:=some 67) (v:=?_) (a':=?_) #[Y,Y,Y,Y,Y,Y,Y,Y,Y,Y,Y,Y,Y,Y,Y,Y,Y,Y,Z] rfl rfl (any_of HT_.out (by kernel_rfl)) (fun _ _ _ h => h) (Or.inl ⟨by rfl,?_⟩) ?_ ?_
        rotate_left
        ·intro w'
         go_simp
         with_reducible rfl
        rotate_left
        ·simp only[p0,p1,p2,p3,p4,p5];rfl
        refine pure_ (i:=18) (N:=some 68) (v:=?_) (a':=?_) #[Y,Y,Y,Y,Y,Y,Y,Y,Y,Y,Y,Y,Y,Y,Y,Y,Y,Y,Y] rfl rfl (any_of HT_.out (by kernel_rfl)) (fun _ _ _ h => h) (Or.inl ⟨by rfl,?_⟩) ?_ ?_
        rotate_left
        ·intro w'
         go_simp
         with_reducible rfl
        rotate_left
        ·simp only[p0,p1,p2,p3,p4,p5];rfl
        refine done_ (done_of HT_.out (by kernel_rfl)) ?_
        try go_wp2
        go_ret
        exact ⟨by first|rfl|(simp [errW_none,errW_some] <;> rfl)|(simp [*,errW_none,errW_some] <;> rfl),by repeat (first|(with_reducible first|exact HB.out|apply wA|apply wN|apply wD|refine wS ?_ GE168.out|refine wS ?_ GE174.out)|exact HB.out)⟩
       replace c14:=Bool.eq_false_iff.mpr c14
       subst c14;have H1 : (some false) = some r:=by rw [if_neg (show ¬ (false = true) by decide)] at H;exact H
       clear H;have H:=H1
       clear H1;obtain rfl:=Option.some.inj H
       obtain ⟨Ao41,co41,eo41⟩:=Kd.R_slice HO_3.out
       subst eo41;try go_wp2
       have n0_:=AM (Rd HO_3.out)
       have n1_:=AM (Rd HO_4.out)
       have n2_:=AM (bD BK168.out)
       have n3_:=AM (wD HB.out)
       clear HO_3;clear HO_4;clear BK168;clear HB;have HO_3:=n0_;have HO_4:=n1_;have BK168:=n2_;have HB:=n3_;clear n0_ n1_ n2_ n3_;have p169 : 0 ≤ (x6_1 : Int):=of_decide_eq_true (by first|(with_reducible assumption)|assumption)
       have q169 : x6_1 < (t162.length : Int):=of_decide_eq_true (by first|(with_reducible assumption)|assumption)
       obtain ⟨ad169,e169,hx169_0⟩:=Kd.at_int (Kd.R_reads' HO_3.out).2.2 x6_1 p169 q169
       cases e169
       replace p169:=eq_true p169
       replace q169:=eq_true q169
       obtain ⟨Ao43,co43,eo43⟩:=Kd.R_slice HO_4.out
       (first|subst eo43|(injection eo43 with f1_ f2_ f3_;have f4_:=f1_.symm;have f5_:=f3_.symm;clear f1_ f2_ f3_;subst f4_;subst f5_))
       have p170 : 0 ≤ (x6_1 : Int):=of_decide_eq_true (by first|(with_reducible assumption)|assumption)
       have q170 : x6_1 < (t163.length : Int):=of_decide_eq_true (by first|(with_reducible assumption)|assumption)
       obtain ⟨ad170,e170,hx170_0⟩:=Kd.at_int (Kd.R_reads' HO_4.out).2.2 x6_1 p170 q170
       cases e170
       replace p170:=eq_true p170
       replace q170:=eq_true q170
       refine start_ (n:=16) (S:=fun w' => w'.cell? ⟨gb168,0,none⟩ = some (.string x169000_1) ∧ w'.cell? ⟨gb168,1,none⟩ = some (.int .i64 x169001_1) ∧ w'.cell? (ad169.add (x6_1).toNat) = some (.int .i64 (rd t162 x6_1)) ∧ w'.cell? (ad170.add (x6_1).toNat) = some (.int .i64 (rd t163 x6_1))) (ds:=[]) #[Z,Z,Z,Z,Z,Z,Z,Z,Z,Z,Z,Z,Z,Z,Z,Z] (by kernel_rfl) rfl rfl ⟨(blk_cell BK168.out 0).trans rfl,(blk_cell BK168.out 1).trans rfl,hx169_0,hx170_0⟩ (fun hHeld => ?_);refine with_tabW laws_FnBits.tab8 laws_FnBits.bits8 (fun HT_ HW_ => ?_)
       generalize wr.drew = w42 at HO_3 HO_4 BK168 HB hx169_0 hx170_0 hHeld ⊢
       refine pure_ (i:=1) (N:=some 39) (v:=?_) (a':=?_) #[Z,Y,Z,Z,Z,Z,Z,Z,Z,Z,Z,Z,Z,Z,Z,Z] rfl rfl (any_of HT_.out (by kernel_rfl)) (fun _ _ _ h => h) (Or.inl ⟨by rfl,?_⟩) ?_ ?_
       rotate_left
       ·intro w'
        go_simp
        with_reducible rfl
       rotate_left
       ·simp only[p0,p1,p2,p3,p4,p5];rfl
       refine pure_ (i:=2) (N:=some 40) (v:=?_) (a':=?_) #[Z,Y,Y,Z,Z,Z,Z,Z,Z,Z,Z,Z,Z,Z,Z,Z] rfl rfl (any_of HT_.out (by kernel_rfl)) (fun _ _ _ h => h) (Or.inl ⟨by rfl,?_⟩) ?_ ?_
       rotate_left
       ·intro w'
        go_simp
        with_reducible rfl
       rotate_left
       ·simp only[p0,p1,p2,p3,p4,p5];rfl
       refine pure_ (i:=3) (N:=some 41) (v:=?_) (a':=?_) #[Z,Y,Y,Y,Z,Z,Z,Z,Z,Z,Z,Z,Z,Z,Z,Z] rfl rfl (any_of HT_.out (by kernel_rfl)) (fun _ _ _ h => h) (Or.inl ⟨by rfl,?_⟩) ?_ ?_
       rotate_left
       ·intro w'
        go_simp
        with_reducible rfl
       rotate_left
       ·simp only[p0,p1,p2,p3,p4,p5];rfl
       refine pure_ (i:=5) (N:=some 43) (v:=?_) (a':=?_) #[Z,Y,Y,Y,Z,Y,Z,Z,Z,Z,Z,Z,Z,Z,Z,Z] rfl rfl (any_of HT_.out (by kernel_rfl)) (fun _ _ _ h => h) (Or.inl ⟨by rfl,?_⟩) ?_ ?_
       rotate_left
       ·intro w'
        go_simp
        with_reducible rfl
       rotate_left
       ·simp only[p0,p1,p2,p3,p4,p5];rfl
       refine pure_ (i:=6) (N:=some 44) (v:=?_) (a':=?_) #[Z,Y,Y,Y,Z,Y,Y,Z,Z,Z,Z,Z,Z,Z,Z,Z] rfl rfl (any_of HT_.out (by kernel_rfl)) (fun _ _ _ h => h) (Or.inl ⟨by rfl,?_⟩) ?_ ?_
       rotate_left
       ·intro w'
        go_simp
        with_reducible rfl
       rotate_left
       ·simp only[p0,p1,p2,p3,p4,p5];rfl
       refine pure_ (i:=7) (N:=some 45) (v:=?_) (a':=?_) #[Z,Y,Y,Y,Z,Y,Y,Y,Z,Z,Z,Z,Z,Z,Z,Z] rfl rfl (any_of HT_.out (by kernel_rfl)) (fun _ _ _ h => h) (Or.inl ⟨by rfl,?_⟩) ?_ ?_
       rotate_left
       ·intro w'
        go_simp
        with_reducible rfl
       rotate_left
       ·simp only[p0,p1,p2,p3,p4,p5];rfl
       refine take_ (i:=0) (N:=some 38) (v:=?_) (a':=?_) #[Y,Y,Y,Y,Z,Y,Y,Y,Z,Z,Z,Z,Z,Z,Z,Z] rfl rfl (take_ofW HT_.out HW_.out (by kernel_rfl)) (fun _ _ _ h => h) (Or.inl ⟨by rfl,?_⟩) hHeld ?_ ?_
       rotate_left
       ·rintro w' ⟨s0,s1,s2,s3⟩
        go_simp
        with_reducible rfl
       rotate_left
       ·simp only[p0,p1,p2,p3,p4,p5];rfl
       refine take_ (i:=4) (N:=some 42) (v:=?_) (a':=?_) #[Y,Y,Y,Y,Y,Y,Y,Y,Z,Z,Z,Z,Z,Z,Z,Z] rfl rfl (take_ofW HT_.out HW_.out (by kernel_rfl)) (fun _ _ _ h => h) (Or.inl ⟨by rfl,?_⟩) hHeld ?_ ?_
       rotate_left
       ·rintro w' ⟨s0,s1,s2,s3⟩
        go_simp
        with_reducible rfl
       rotate_left
       ·simp only[p0,p1,p2,p3,p4,p5];rfl
       refine take_ (i:=8) (N:=some 46) (v:=?_) (a':=?_) #[Y,Y,Y,Y,Y,Y,Y,Y,Y,Z,Z,Z,Z,Z,Z,Z] rfl rfl (take_ofW HT_.out HW_.out (by kernel_rfl)) (fun _ _ _ h => h) (Or.inl ⟨by rfl,?_⟩) hHeld ?_ ?_
       rotate_left
       ·rintro w' ⟨s0,s1,s2,s3⟩
        go_simp
        with_reducible rfl
       rotate_left
       ·simp only[p0,p1,p2,p3,p4,p5];rfl
       refine join_ (σ:=Nat) 2 #[Y,Y,Y,Y,Y,Y,Y,Y,Y,Y,Y,Y,Y,Y,Z,Z] (fun s_ => [(47,.tuple #[.agg #[.string t171,.int .i64 t172],.bool true]),(7,.pointer (some ⟨s_,0,none⟩)),(37,.tuple #[.agg #[.string t171,.int .i64 t172],.bool true]),(48,.agg #[.string t171,.int .i64 t172]),(49,.bool true)]) (fun s_ w' => (w'.cell? ⟨gb168,0,none⟩ = some (.string x169000_1) ∧ w'.cell? ⟨gb168,1,none⟩ = some (.int .i64 x169001_1) ∧ w'.cell? (ad169.add (x6_1).toNat) = some (.int .i64 (rd t162 x6_1)) ∧ w'.cell? (ad170.add (x6_1).toNat) = some (.int .i64 (rd t163 x6_1))) ∧ (Kd.R (Kd.int .i64) 3 w' w.heap.size (fun k_ => some k_ ≠ (.slice (some ad170) t163.length co43 : Value).ownBlock) (.slice (some ad169) t162.length co41) t162) ∧ (Kd.R (Kd.int .i64) 3 w' w.heap.size (fun k_ => some k_ ≠ (.slice (some ad169) t162.length co41 : Value).ownBlock) (.slice (some ad170) t163.length co43) t163) ∧ (w'.heap[gb168]? = some (.cells #[.string x169000_1,.int .i64 x169001_1] 50 (0,0))) ∧ (w'.heap[s_]? = some (.cells #[.string (⟨#[]⟩ : ByteArray),.int .i64 0] 50 (0,0))) ∧ (w.heap.size ≤ s_) ∧ (w.heap.size ≤ s_) ∧ (gb168 ≠ s_) ∧ (s_ ≠ gb168) ∧ (Below w.heap.size w w')) ?_ ?_
       rotate_left
       ·intro hCont
        refine two_ (i:=9) (j:=13) (Ni:=some 47) (Nj:=some 7) #[Y,Y,Y,Y,Y,Y,Y,Y,Y,Y,Z,Z,Z,Z,Z,Z] #[Y,Y,Y,Y,Y,Y,Y,Y,Y,Z,Z,Z,Z,Y,Z,Z] rfl rfl rfl rfl (two_of HT_.out (by kernel_rfl)) (by decide) (by decide) (fun K hK => ?_) (fun K hK => ?_)
        ·skip
         refine goes_ Try.func38 (by kernel_rfl) rfl #[.agg #[.string x169000_1,.int .i64 x169001_1],.int .i64 (rd t162 x6_1),.int .i64 (rd t163 x6_1)] (by rfl) rfl rfl (by (try simp only [List.map_toArray,List.map_cons,List.map_nil]);first|done|rfl|(simp only [List.length_drop,List.length_take];rfl)) ?_
         with_reducible refine (impl_PutBits.calls x169000_1 x169001_1 (rd t162 x6_1) (rd t163 x6_1) t171 t172 true _ A11.out).mono ?_
         rintro e w44 ⟨rfl,hb⟩
         have HS2_:=(hb.cell (World.block_lt_of_cell? _ _ (hHeld.2.2.1))).trans (hHeld.2.2.1)
         have HS3_:=(hb.cell (World.block_lt_of_cell? _ _ (hHeld.2.2.2))).trans (hHeld.2.2.2)
         refine ⟨_,rfl,?_⟩
         have n0_:=AM (RB (by (with_reducible repeat (first|apply Ra|apply Rn|apply Rd));exact HO_3.out) hb)
         have n1_:=AM (RB (by (with_reducible repeat (first|apply Ra|apply Rn|apply Rd));exact HO_4.out) hb)
         have n2_:=AM (bB (g:=gb168) (o:=.cells #[.string x169000_1,.int .i64 x169001_1] 50 (0,0)) (by (with_reducible repeat (first|refine bN ?_ _|refine bD ?_|refine bA ?_ _));exact BK168.out) hb)
         have n3_:=AM (below_step (by repeat (first|(with_reducible first|exact HB.out|apply wA|apply wN|apply wD|refine wS ?_ GE168.out)|exact HB.out)) hb)
         clear HO_3;clear HO_4;clear BK168;clear HB;have HO_3:=n0_;have HO_4:=n1_;have BK168:=n2_;have HB:=n3_;clear n0_ n1_ n2_ n3_;(try clear hb);(try clear hb2);(try clear hk);(try clear hi);refine hK.out _ _ ⟨(blk_cell BK168.out 0).trans rfl,(blk_cell BK168.out 1).trans rfl,HS2_,HS3_⟩ (fun hHeld => ?_)
         clear hK K;refine norm_ (a':=?_) ?_ ?_
         rotate_left
         ·show Act.put _ (some 47) _ = _
          simp only[p0,p1,p2,p3,p4,p5];rfl
         refine pure_ (i:=10) (N:=some 37) (v:=?_) (a':=?_) #[Y,Y,Y,Y,Y,Y,Y,Y,Y,Y,Y,Z,Z,Z,Z,Z] rfl rfl (any_of HT_.out (by kernel_rfl)) (fun _ _ _ h => h) (Or.inl ⟨by rfl,?_⟩) ?_ ?_
         rotate_left
         ·intro w'
          go_simp
          with_reducible rfl
         rotate_left
         ·simp only[p0,p1,p2,p3,p4,p5];rfl
         refine pure_ (i:=11) (N:=some 48) (v:=?_) (a':=?_) #[Y,Y,Y,Y,Y,Y,Y,Y,Y,Y,Y,Y,Z,Z,Z,Z] rfl rfl (any_of HT_.out (by kernel_rfl)) (fun _ _ _ h => h) (Or.inl ⟨by rfl,?_⟩) ?_ ?_
         rotate_left
         ·intro w'
          go_simp
          with_reducible rfl
         rotate_left
         ·simp only[p0,p1,p2,p3,p4,p5];rfl
         refine pure_ (i:=12) (N:=some 49) (v:=?_) (a':=?_) #[Y,Y,Y,Y,Y,Y,Y,Y,Y,Y,Y,Y,Y,Z,Z,Z] rfl rfl (any_of HT_.out (by kernel_rfl)) (fun _ _ _ h => h) (Or.inl ⟨by rfl,?_⟩) ?_ ?_
         rotate_left
         ·intro w'
          go_simp
          with_reducible rfl
         rotate_left
         ·simp only[p0,p1,p2,p3,p4,p5];rfl
         refine one_ (i:=13) (N:=some 7) #[Y,Y,Y,Y,Y,Y,Y,Y,Y,Y,Y,Y,Y,Y,Z,Z] rfl rfl (one_of HT_.out (by kernel_rfl)) (by decide) (fun K hK => ?_)
         refine box_step ?hg (N:=7) ?hd (cs:=#[.string (⟨#[]⟩ : ByteArray),.int .i64 0]) (t:=50) ?hr ?_;(case hd => rfl);(case hg => rfl);(case hr => first|(go_simp;done)|(go_simp;rfl))
         intro gb174 hg w45 hbox hb
         have HS2_:=(hb.cell (World.block_lt_of_cell? _ _ (hHeld.2.2.1))).trans (hHeld.2.2.1)
         have HS3_:=(hb.cell (World.block_lt_of_cell? _ _ (hHeld.2.2.2))).trans (hHeld.2.2.2)
         have n0_:=AM (RB (by (with_reducible repeat (first|apply Ra|apply Rn|apply Rd));exact HO_3.out) hb)
         have n1_:=AM (RB (by (with_reducible repeat (first|apply Ra|apply Rn|apply Rd));exact HO_4.out) hb)
         have n2_:=AM (bB (g:=gb168) (o:=.cells #[.string x169000_1,.int .i64 x169001_1] 50 (0,0)) (by (with_reducible repeat (first|refine bN ?_ _|refine bD ?_|refine bA ?_ _));exact BK168.out) hb)
         have n3_:=AM (below_step (by repeat (first|(with_reducible first|exact HB.out|apply wA|apply wN|apply wD|refine wS ?_ GE168.out)|exact HB.out)) hb)
         have n4_:=AM (hbox)
         have n5_:=AM ((by rw [hg];exact (below_size (by repeat (first|(with_reducible first|exact HB.out|apply wA|apply wN|apply wD|refine wS ?_ GE168.out)|exact HB.out))) : w.heap.size ≤ gb174))
         have n6_:=AM ((by rw [hg];exact (below_size (by repeat (first|(with_reducible first|exact HB.out|apply wA|apply wN|apply wD|refine wS ?_ GE168.out)|exact HB.out))) : w.heap.size ≤ gb174))
         have n7_:=AM ((by rw [hg];exact Nat.ne_of_lt (bL (g:=gb168) (o:=.cells #[.string x169000_1,.int .i64 x169001_1] 50 (0,0)) (by (with_reducible repeat (first|refine bN ?_ _|refine bD ?_|refine bA ?_ _));exact BK168.out)) : gb168 ≠ gb174))
         have n8_:=AM ((by rw [hg];exact Nat.ne_of_gt (bL (g:=gb168) (o:=.cells #[.string x169000_1,.int .i64 x169001_1] 50 (0,0)) (by (with_reducible repeat (first|refine bN ?_ _|refine bD ?_|refine bA ?_ _));exact BK168.out)) : gb174 ≠ gb168))
         clear HO_3;clear HO_4;clear BK168;clear HB;have HO_3:=n0_;have HO_4:=n1_;have BK168:=n2_;have HB:=n3_;have BK174:=n4_;have GW174:=n5_;have GE174:=n6_;have NB168_174:=n7_;have NB174_168:=n8_;clear n0_ n1_ n2_ n3_ n4_ n5_ n6_ n7_ n8_;clear hb hbox hg;refine hK.out _ _ ⟨(blk_cell BK168.out 0).trans rfl,(blk_cell BK168.out 1).trans rfl,HS2_,HS3_⟩ (fun hHeld => ?_)
         clear hK K;refine norm_ (a':=?_) ?_ ?_
         rotate_left
         ·show Act.put _ (some 7) _ = _
          simp only[p0,p1,p2,p3,p4,p5];rfl
         exact norm_ (by simp only[putAll,p0,p1,p2,p3]) (hCont (gb174) _ ⟨hHeld,(by (with_reducible repeat (first|apply Ra|apply Rn|apply Rd));exact HO_3.out),(by (with_reducible repeat (first|apply Ra|apply Rn|apply Rd));exact HO_4.out),(by (with_reducible repeat (first|refine bN ?_ _|refine bD ?_|refine bA ?_ _));exact BK168.out),(by (with_reducible repeat (first|refine bN ?_ _|refine bD ?_|refine bA ?_ _));exact BK174.out),GW174.out,GE174.out,NB168_174.out,NB174_168.out,(by repeat (first|(with_reducible first|exact HB.out|apply wA|apply wN|apply wD|refine wS ?_ GE168.out|refine wS ?_ GE174.out)|exact HB.out))⟩)
        skip
        refine box_step ?hg (N:=7) ?hd (cs:=#[.string (⟨#[]⟩ : ByteArray),.int .i64 0]) (t:=50) ?hr ?_;(case hd => rfl);(case hg => rfl);(case hr => first|(go_simp;done)|(go_simp;rfl))
        intro gb174 hg w44 hbox hb
        have HS2_:=(hb.cell (World.block_lt_of_cell? _ _ (hHeld.2.2.1))).trans (hHeld.2.2.1)
        have HS3_:=(hb.cell (World.block_lt_of_cell? _ _ (hHeld.2.2.2))).trans (hHeld.2.2.2)
        have n0_:=AM (RB (by (with_reducible repeat (first|apply Ra|apply Rn|apply Rd));exact HO_3.out) hb)
        have n1_:=AM (RB (by (with_reducible repeat (first|apply Ra|apply Rn|apply Rd));exact HO_4.out) hb)
        have n2_:=AM (bB (g:=gb168) (o:=.cells #[.string x169000_1,.int .i64 x169001_1] 50 (0,0)) (by (with_reducible repeat (first|refine bN ?_ _|refine bD ?_|refine bA ?_ _));exact BK168.out) hb)
        have n3_:=AM (below_step (by repeat (first|(with_reducible first|exact HB.out|apply wA|apply wN|apply wD|refine wS ?_ GE168.out)|exact HB.out)) hb)
        have n4_:=AM (hbox)
        have n5_:=AM ((by rw [hg];exact (below_size (by repeat (first|(with_reducible first|exact HB.out|apply wA|apply wN|apply wD|refine wS ?_ GE168.out)|exact HB.out))) : w.heap.size ≤ gb174))
        have n6_:=AM ((by rw [hg];exact (below_size (by repeat (first|(with_reducible first|exact HB.out|apply wA|apply wN|apply wD|refine wS ?_ GE168.out)|exact HB.out))) : w.heap.size ≤ gb174))
        have n7_:=AM ((by rw [hg];exact Nat.ne_of_lt (bL (g:=gb168) (o:=.cells #[.string x169000_1,.int .i64 x169001_1] 50 (0,0)) (by (with_reducible repeat (first|refine bN ?_ _|refine bD ?_|refine bA ?_ _));exact BK168.out)) : gb168 ≠ gb174))
        have n8_:=AM ((by rw [hg];exact Nat.ne_of_gt (bL (g:=gb168) (o:=.cells #[.string x169000_1,.int .i64 x169001_1] 50 (0,0)) (by (with_reducible repeat (first|refine bN ?_ _|refine bD ?_|refine bA ?_ _));exact BK168.out)) : gb174 ≠ gb168))
        clear HO_3;clear HO_4;clear BK168;clear HB;have HO_3:=n0_;have HO_4:=n1_;have BK168:=n2_;have HB:=n3_;have BK174:=n4_;have GW174:=n5_;have GE174:=n6_;have NB168_174:=n7_;have NB174_168:=n8_;clear n0_ n1_ n2_ n3_ n4_ n5_ n6_ n7_ n8_;clear hb hbox hg;refine hK.out _ _ ⟨(blk_cell BK168.out 0).trans rfl,(blk_cell BK168.out 1).trans rfl,HS2_,HS3_⟩ (fun hHeld => ?_)
        clear hK K;refine norm_ (a':=?_) ?_ ?_
        rotate_left
        ·show Act.put _ (some 7) _ = _
         simp only[p0,p1,p2,p3,p4,p5];rfl
        refine one_ (i:=9) (N:=some 47) #[Y,Y,Y,Y,Y,Y,Y,Y,Y,Y,Z,Z,Z,Y,Z,Z] rfl rfl (one_of HT_.out (by kernel_rfl)) (by decide) (fun K hK => ?_)
        refine goes_ Try.func38 (by kernel_rfl) rfl #[.agg #[.string x169000_1,.int .i64 x169001_1],.int .i64 (rd t162 x6_1),.int .i64 (rd t163 x6_1)] (by rfl) rfl rfl (by (try simp only [List.map_toArray,List.map_cons,List.map_nil]);first|done|rfl|(simp only [List.length_drop,List.length_take];rfl)) ?_
        with_reducible refine (impl_PutBits.calls x169000_1 x169001_1 (rd t162 x6_1) (rd t163 x6_1) t171 t172 true _ A11.out).mono ?_
        rintro e w45 ⟨rfl,hb⟩
        have HS2_:=(hb.cell (World.block_lt_of_cell? _ _ (hHeld.2.2.1))).trans (hHeld.2.2.1)
        have HS3_:=(hb.cell (World.block_lt_of_cell? _ _ (hHeld.2.2.2))).trans (hHeld.2.2.2)
        refine ⟨_,rfl,?_⟩
        have n0_:=AM (RB (by (with_reducible repeat (first|apply Ra|apply Rn|apply Rd));exact HO_3.out) hb)
        have n1_:=AM (RB (by (with_reducible repeat (first|apply Ra|apply Rn|apply Rd));exact HO_4.out) hb)
        have n2_:=AM (bB (g:=gb168) (o:=.cells #[.string x169000_1,.int .i64 x169001_1] 50 (0,0)) (by (with_reducible repeat (first|refine bN ?_ _|refine bD ?_|refine bA ?_ _));exact BK168.out) hb)
        have n3_:=AM (bB (g:=gb174) (o:=.cells #[.string (⟨#[]⟩ : ByteArray),.int .i64 0] 50 (0,0)) (by (with_reducible repeat (first|refine bN ?_ _|refine bD ?_|refine bA ?_ _));exact BK174.out) hb)
        have n4_:=AM (below_step (by repeat (first|(with_reducible first|exact HB.out|apply wA|apply wN|apply wD|refine wS ?_ GE168.out|refine wS ?_ GE174.out)|exact HB.out)) hb)
        clear HO_3;clear HO_4;clear BK168;clear BK174;clear HB;have HO_3:=n0_;have HO_4:=n1_;have BK168:=n2_;have BK174:=n3_;have HB:=n4_;clear n0_ n1_ n2_ n3_ n4_;(try clear hb);(try clear hb2);(try clear hk);(try clear hi);refine hK.out _ _ ⟨(blk_cell BK168.out 0).trans rfl,(blk_cell BK168.out 1).trans rfl,HS2_,HS3_⟩ (fun hHeld => ?_)
        clear hK K;refine norm_ (a':=?_) ?_ ?_
        rotate_left
        ·show Act.put _ (some 47) _ = _
         simp only[p0,p1,p2,p3,p4,p5];rfl
        refine pure_ (i:=10) (N:=some 37) (v:=?_) (a':=?_) #[Y,Y,Y,Y,Y,Y,Y,Y,Y,Y,Y,Z,Z,Y,Z,Z] rfl rfl (any_of HT_.out (by kernel_rfl)) (fun _ _ _ h => h) (Or.inl ⟨by rfl,?_⟩) ?_ ?_
        rotate_left
        ·intro w'
         go_simp
         with_reducible rfl
        rotate_left
        ·simp only[p0,p1,p2,p3,p4,p5];rfl
        refine pure_ (i:=11) (N:=some 48) (v:=?_) (a':=?_) #[Y,Y,Y,Y,Y,Y,Y,Y,Y,Y,Y,Y,Z,Y,Z,Z] rfl rfl (any_of HT_.out (by kernel_rfl)) (fun _ _ _ h => h) (Or.inl ⟨by rfl,?_⟩) ?_ ?_
        rotate_left
        ·intro w'
         go_simp
         with_reducible rfl
        rotate_left
        ·simp only[p0,p1,p2,p3,p4,p5];rfl
        refine pure_ (i:=12) (N:=some 49) (v:=?_) (a':=?_) #[Y,Y,Y,Y,Y,Y,Y,Y,Y,Y,Y,Y,Y,Y,Z,Z] rfl rfl (any_of HT_.out (by kernel_rfl)) (fun _ _ _ h => h) (Or.inl ⟨by rfl,?_⟩) ?_ ?_
        rotate_left
        ·intro w'
         go_simp
         with_reducible rfl
        rotate_left
        ·simp only[p0,p1,p2,p3,p4,p5];rfl
        exact norm_ (by simp only[putAll,p0,p1,p2,p3]) (hCont (gb174) _ ⟨hHeld,(by (with_reducible repeat (first|apply Ra|apply Rn|apply Rd));exact HO_3.out),(by (with_reducible repeat (first|apply Ra|apply Rn|apply Rd));exact HO_4.out),(by (with_reducible repeat (first|refine bN ?_ _|refine bD ?_|refine bA ?_ _));exact BK168.out),(by (with_reducible repeat (first|refine bN ?_ _|refine bD ?_|refine bA ?_ _));exact BK174.out),GW174.out,GE174.out,NB168_174.out,NB174_168.out,(by repeat (first|(with_reducible first|exact HB.out|apply wA|apply wN|apply wD|refine wS ?_ GE168.out|refine wS ?_ GE174.out)|exact HB.out))⟩)
       rintro gb174 w46 ⟨hS_,h0_,h1_,h2_,h3_,h4_,h5_,h6_,h7_,h8_⟩
       have n0_ : Aside0 (Kd.R (Kd.int .i64) 3 w46 w.heap.size (fun k_ => some k_ ≠ (.slice (some ad170) t163.length co43 : Value).ownBlock) (.slice (some ad169) t162.length co41) t162):=⟨h0_⟩
       have n1_ : Aside0 (Kd.R (Kd.int .i64) 3 w46 w.heap.size (fun k_ => some k_ ≠ (.slice (some ad169) t162.length co41 : Value).ownBlock) (.slice (some ad170) t163.length co43) t163):=⟨h1_⟩
       have n2_ : Aside0 (w46.heap[gb168]? = some (.cells #[.string x169000_1,.int .i64 x169001_1] 50 (0,0))):=⟨h2_⟩
       have n3_ : Aside0 (w46.heap[gb174]? = some (.cells #[.string (⟨#[]⟩ : ByteArray),.int .i64 0] 50 (0,0))):=⟨h3_⟩
       have n4_ : Aside0 (w.heap.size ≤ gb174):=⟨h4_⟩
       have n5_ : Aside0 (w.heap.size ≤ gb174):=⟨h5_⟩
       have n6_ : Aside0 (gb168 ≠ gb174):=⟨h6_⟩
       have n7_ : Aside0 (gb174 ≠ gb168):=⟨h7_⟩
       have n8_ : Aside0 (Below w.heap.size w w46):=⟨h8_⟩
       clear HO_3;clear HO_4;clear BK168;clear HB;clear h0_ h1_ h2_ h3_ h4_ h5_ h6_ h7_ h8_;have HO_3:=n0_;have HO_4:=n1_;have BK168:=n2_;have BK174:=n3_;have GW174:=n4_;have GE174:=n5_;have NB168_174:=n6_;have NB174_168:=n7_;have HB:=n8_;clear n0_ n1_ n2_ n3_ n4_ n5_ n6_ n7_ n8_;have hHeld : w46.cell? ⟨gb168,0,none⟩ = some (.string x169000_1) ∧ w46.cell? ⟨gb168,1,none⟩ = some (.int .i64 x169001_1) ∧ w46.cell? (ad169.add (x6_1).toNat) = some (.int .i64 (rd t162 x6_1)) ∧ w46.cell? (ad170.add (x6_1).toNat) = some (.int .i64 (rd t163 x6_1)):=hS_
       refine norm_ (a':=?_) ?_ ?_
       rotate_left
       ·simp only[putAll,p0,p1,p2,p3]
        rfl
       refine one_ (i:=14) (N:=none) #[Y,Y,Y,Y,Y,Y,Y,Y,Y,Y,Y,Y,Y,Y,Y,Z] rfl rfl (one_of HT_.out (by kernel_rfl)) (by decide) (fun K hK => ?_)
       have hs47 : w46.cell? ⟨gb174,0,none⟩ = some (.string (⟨#[]⟩ : ByteArray)):=(blk_cell BK174.out 0).trans rfl
       have hfs47:=blk_frozen BK174.out 0
       have hns47_0:=NB168_174.out
       have hms47_0:=NB174_168.out
       have hs48 : w46.cell? ⟨gb174,1,none⟩ = some (.int .i64 0):=(blk_cell BK174.out 1).trans rfl
       have hfs48:=blk_frozen BK174.out 1
       have hns48_0:=NB168_174.out
       have hms48_0:=NB174_168.out
       refine skip_ (w1:=?_) (by rfl) rfl ?_ ?_
       rotate_left
       ·go_simp
        rfl
       refine hK.out _ _ ⟨((cell_far (p:=⟨gb174,_,none⟩) NB168_174.out _).trans (((cell_far (p:=⟨gb174,_,none⟩) NB168_174.out _).trans (hHeld.1)))),((cell_far (p:=⟨gb174,_,none⟩) NB168_174.out _).trans (((cell_far (p:=⟨gb174,_,none⟩) NB168_174.out _).trans (hHeld.2.1)))),((cell_far (p:=⟨gb174,_,none⟩) (by first|exact Kd.own_blk (Kd.R_ne HO_3.out BK174.out (by decide))|(rw [add_block];exact Kd.own_blk (Kd.R_ne HO_3.out BK174.out (by decide)))|(show (Addr.add _ _).block ≠ _;rw [add_block];exact Kd.own_blk (Kd.R_ne HO_3.out BK174.out (by decide)))|(dsimp only;exact Kd.own_blk (Kd.R_ne HO_3.out BK174.out (by decide)))) _).trans (((cell_far (p:=⟨gb174,_,none⟩) (by first|exact Kd.own_blk (Kd.R_ne HO_3.out BK174.out (by decide))|(rw [add_block];exact Kd.own_blk (Kd.R_ne HO_3.out BK174.out (by decide)))|(show (Addr.add _ _).block ≠ _;rw [add_block];exact Kd.own_blk (Kd.R_ne HO_3.out BK174.out (by decide)))|(dsimp only;exact Kd.own_blk (Kd.R_ne HO_3.out BK174.out (by decide)))) _).trans (hHeld.2.2.1)))),((cell_far (p:=⟨gb174,_,none⟩) (by first|exact Kd.own_blk (Kd.R_ne HO_4.out BK174.out (by decide))|(rw [add_block];exact Kd.own_blk (Kd.R_ne HO_4.out BK174.out (by decide)))|(show (Addr.add _ _).block ≠ _;rw [add_block];exact Kd.own_blk (Kd.R_ne HO_4.out BK174.out (by decide)))|(dsimp only;exact Kd.own_blk (Kd.R_ne HO_4.out BK174.out (by decide)))) _).trans (((cell_far (p:=⟨gb174,_,none⟩) (by first|exact Kd.own_blk (Kd.R_ne HO_4.out BK174.out (by decide))|(rw [add_block];exact Kd.own_blk (Kd.R_ne HO_4.out BK174.out (by decide)))|(show (Addr.add _ _).block ≠ _;rw [add_block];exact Kd.own_blk (Kd.R_ne HO_4.out BK174.out (by decide)))|(dsimp only;exact Kd.own_blk (Kd.R_ne HO_4.out BK174.out (by decide)))) _).trans (hHeld.2.2.2))))⟩ (fun hHeld => ?_)
       clear hK K;refine pure_ (i:=15) (N:=some 8) (v:=?_) (a':=?_) #[Y,Y,Y,Y,Y,Y,Y,Y,Y,Y,Y,Y,Y,Y,Y,Y] rfl rfl (any_of HT_.out (by kernel_rfl)) (fun _ _ _ h => h) (Or.inl ⟨by rfl,?_⟩) ?_ ?_
       rotate_left
       ·intro w'
        go_simp
        with_reducible rfl
       rotate_left
       ·simp only[p0,p1,p2,p3,p4,p5];rfl
       refine done_ (done_of HT_.out (by kernel_rfl)) ?_
       try go_wp2
       have n0_ : Aside0 (Kd.R (Kd.int .i64) 3 ((w46.setCell ⟨gb174,0,none⟩ (.string t171)).setCell ⟨gb174,1,none⟩ (.int .i64 t172)) w.heap.size (fun k_ => some k_ ≠ (.slice (some ad170) t163.length co43 : Value).ownBlock) (.slice (some ad169) t162.length co41) t162):=⟨by (with_reducible repeat (first|apply Ra|apply Rn|apply Rd));exact Kd.R_mono (Kd.R_far (p:=⟨gb174,1,none⟩) (Kd.R_far (p:=⟨gb174,0,none⟩) (Kd.R_types HO_3.out BK174.out (by decide)) (fun _ hk => hk.2) (.string t171)) (fun _ hk => hk.2) (.int .i64 t172)) (fun _ hk => hk.1)⟩
       have n1_ : Aside0 (Kd.R (Kd.int .i64) 3 ((w46.setCell ⟨gb174,0,none⟩ (.string t171)).setCell ⟨gb174,1,none⟩ (.int .i64 t172)) w.heap.size (fun k_ => some k_ ≠ (.slice (some ad169) t162.length co41 : Value).ownBlock) (.slice (some ad170) t163.length co43) t163):=⟨by (with_reducible repeat (first|apply Ra|apply Rn|apply Rd));exact Kd.R_mono (Kd.R_far (p:=⟨gb174,1,none⟩) (Kd.R_far (p:=⟨gb174,0,none⟩) (Kd.R_types HO_4.out BK174.out (by decide)) (fun _ hk => hk.2) (.string t171)) (fun _ hk => hk.2) (.int .i64 t172)) (fun _ hk => hk.1)⟩
       have n2_ : Aside0 (((w46.setCell ⟨gb174,0,none⟩ (.string t171)).setCell ⟨gb174,1,none⟩ (.int .i64 t172)).heap[gb168]? = some (.cells #[.string x169000_1,.int .i64 x169001_1] 50 (0,0))):=⟨by (with_reducible repeat (first|refine bN ?_ _|refine bD ?_|refine bA ?_ _));refine blk_far ?_ NB168_174.out _;(with_reducible repeat (first|refine bN ?_ _|refine bD ?_|refine bA ?_ _));refine blk_far ?_ NB168_174.out _;(with_reducible repeat (first|refine bN ?_ _|refine bD ?_|refine bA ?_ _));exact BK168.out⟩
       have n3_ : Aside0 (((w46.setCell ⟨gb174,0,none⟩ (.string t171)).setCell ⟨gb174,1,none⟩ (.int .i64 t172)).heap[gb174]? = some (.cells #[.string t171,.int .i64 t172] 50 (0,0))):=⟨by (with_reducible repeat (first|refine bN ?_ _|refine bD ?_|refine bA ?_ _));refine blk_put (cs:=#[.string t171,.int .i64 0]) ?_ 1 _ rfl;(with_reducible repeat (first|refine bN ?_ _|refine bD ?_|refine bA ?_ _));refine blk_put (cs:=#[.string (⟨#[]⟩ : ByteArray),.int .i64 0]) ?_ 0 _ rfl;(with_reducible repeat (first|refine bN ?_ _|refine bD ?_|refine bA ?_ _));exact BK174.out⟩
       have n4_ : Aside0 (Below w.heap.size w ((w46.setCell ⟨gb174,0,none⟩ (.string t171)).setCell ⟨gb174,1,none⟩ (.int .i64 t172))):=⟨by repeat (first|(with_reducible first|exact HB.out|apply wA|apply wN|apply wD|refine wS ?_ GE168.out|refine wS ?_ GE174.out)|exact HB.out)⟩
       (try clear HO_3);(try clear HO_4);(try clear BK168);(try clear BK174);(try clear HB);generalize ((w46.setCell ⟨gb174,0,none⟩ (.string t171)).setCell ⟨gb174,1,none⟩ (.int .i64 t172)) = w49 at n0_ n1_ n2_ n3_ n4_ ⊢
       have HO_3:=n0_;have HO_4:=n1_;have BK168:=n2_;have BK174:=n3_;have HB:=n4_;clear n0_ n1_ n2_ n3_ n4_;have n0_:=AM (Rd HO_3.out)
       have n1_:=AM (Rd HO_4.out)
       have n2_:=AM (bD BK168.out)
       have n3_:=AM (bD BK174.out)
       have n4_:=AM (wD HB.out)
       clear HO_3;clear HO_4;clear BK168;clear BK174;clear HB;have HO_3:=n0_;have HO_4:=n1_;have BK168:=n2_;have BK174:=n3_;have HB:=n4_;clear n0_ n1_ n2_ n3_ n4_;refine start_ (n:=19) (S:=fun w' => w'.cell? ⟨gb174,0,none⟩ = some (.string t171) ∧ w'.cell? ⟨gb174,1,none⟩ = some (.int .i64 t172)) (ds:=[]) #[Z,Z,Z,Z,Z,Z,Z,Z,Z,Z,Z,Z,Z,Z,Z,Z,Z,Z,Z] (by kernel_rfl) rfl rfl ⟨(blk_cell BK174.out 0).trans rfl,(blk_cell BK174.out 1).trans rfl⟩ (fun hHeld => ?_);refine with_tabW laws_FnBits.tab9 laws_FnBits.bits9 (fun HT_ HW_ => ?_)
       generalize w49.drew = w50 at HO_3 HO_4 BK168 BK174 HB hHeld ⊢
       refine pure_ (i:=0) (N:=some 50) (v:=?_) (a':=?_) #[Y,Z,Z,Z,Z,Z,Z,Z,Z,Z,Z,Z,Z,Z,Z,Z,Z,Z,Z] rfl rfl (any_of HT_.out (by kernel_rfl)) (fun _ _ _ h => h) (Or.inl ⟨by rfl,?_⟩) ?_ ?_
       rotate_left
       ·intro w'
        go_simp
        with_reducible rfl
       rotate_left
       ·simp only[p0,p1,p2,p3,p4,p5];rfl
       refine pure_ (i:=1) (N:=some 51) (v:=?_) (a':=?_) #[Y,Y,Z,Z,Z,Z,Z,Z,Z,Z,Z,Z,Z,Z,Z,Z,Z,Z,Z] rfl rfl (any_of HT_.out (by kernel_rfl)) (fun _ _ _ h => h) (Or.inl ⟨by rfl,?_⟩) ?_ ?_
       rotate_left
       ·intro w'
        go_simp
        with_reducible rfl
       rotate_left
       ·simp only[p0,p1,p2,p3,p4,p5];rfl
       refine pure_ (i:=2) (N:=some 52) (v:=?_) (a':=?_) #[Y,Y,Y,Z,Z,Z,Z,Z,Z,Z,Z,Z,Z,Z,Z,Z,Z,Z,Z] rfl rfl (any_of HT_.out (by kernel_rfl)) (fun _ _ _ h => h) (Or.inl ⟨by rfl,?_⟩) ?_ ?_
       rotate_left
       ·intro w'
        go_simp
        with_reducible rfl
       rotate_left
       ·simp only[p0,p1,p2,p3,p4,p5];rfl
       refine take_ (i:=3) (N:=some 53) (v:=?_) (a':=?_) #[Y,Y,Y,Y,Z,Z,Z,Z,Z,Z,Z,Z,Z,Z,Z,Z,Z,Z,Z] rfl rfl (take_ofW HT_.out HW_.out (by kernel_rfl)) (fun _ _ _ h => h) (Or.inl ⟨by rfl,?_⟩) hHeld ?_ ?_
       rotate_left
       ·rintro w' ⟨s0,s1⟩
        go_simp
        with_reducible rfl
       rotate_left
       ·simp only[p0,p1,p2,p3,p4,p5];rfl
       refine one_ (i:=4) (N:=some 54) #[Y,Y,Y,Y,Y,Z,Z,Z,Z,Z,Z,Z,Z,Z,Z,Z,Z,Z,Z] rfl rfl (one_of HT_.out (by kernel_rfl)) (by decide) (fun K hK => ?_)
       refine goes_ Try.func42 (by kernel_rfl) rfl #[.agg #[.string t171,.int .i64 t172]] (by rfl) rfl rfl (by (try simp only [List.map_toArray,List.map_cons,List.map_nil]);first|done|rfl|(simp only [List.length_drop,List.length_take];rfl)) ?_
       with_reducible refine (impl_OutOk.calls t171 t172 false _ A13.out).mono ?_
       rintro e w51 ⟨rfl,hb⟩
       refine ⟨_,rfl,?_⟩
       have n0_:=AM (RB (by (with_reducible repeat (first|apply Ra|apply Rn|apply Rd));exact HO_3.out) hb)
       have n1_:=AM (RB (by (with_reducible repeat (first|apply Ra|apply Rn|apply Rd));exact HO_4.out) hb)
       have n2_:=AM (bB (g:=gb168) (o:=.cells #[.string x169000_1,.int .i64 x169001_1] 50 (0,0)) (by (with_reducible repeat (first|refine bN ?_ _|refine bD ?_|refine bA ?_ _));exact BK168.out) hb)
       have n3_:=AM (bB (g:=gb174) (o:=.cells #[.string t171,.int .i64 t172] 50 (0,0)) (by (with_reducible repeat (first|refine bN ?_ _|refine bD ?_|refine bA ?_ _));exact BK174.out) hb)
       have n4_:=AM (below_step (by repeat (first|(with_reducible first|exact HB.out|apply wA|apply wN|apply wD|refine wS ?_ GE168.out|refine wS ?_ GE174.out)|exact HB.out)) hb)
       clear HO_3;clear HO_4;clear BK168;clear BK174;clear HB;have HO_3:=n0_;have HO_4:=n1_;have BK168:=n2_;have BK174:=n3_;have HB:=n4_;clear n0_ n1_ n2_ n3_ n4_;(try clear hb);(try clear hb2);(try clear hk);(try clear hi);refine hK.out _ _ ⟨(blk_cell BK174.out 0).trans rfl,(blk_cell BK174.out 1).trans rfl⟩ (fun hHeld => ?_)
       clear hK K;refine norm_ (a':=?_) ?_ ?_
       rotate_left
       ·show Act.put _ (some 54) _ = _
        simp only[p0,p1,p2,p3,p4,p5];rfl
       refine pure_ (i:=5) (N:=some 55) (v:=?_) (a':=?_) #[Y,Y,Y,Y,Y,Y,Z,Z,Z,Z,Z,Z,Z,Z,Z,Z,Z,Z,Z] rfl rfl (any_of HT_.out (by kernel_rfl)) (fun _ _ _ h => h) (Or.inl ⟨by rfl,?_⟩) ?_ ?_
       rotate_left
       ·intro w'
        go_simp
        with_reducible rfl
       rotate_left
       ·simp only[p0,p1,p2,p3,p4,p5];rfl
       refine pure_ (i:=6) (N:=some 56) (v:=?_) (a':=?_) #[Y,Y,Y,Y,Y,Y,Y,Z,Z,Z,Z,Z,Z,Z,Z,Z,Z,Z,Z] rfl rfl (any_of HT_.out (by kernel_rfl)) (fun _ _ _ h => h) (Or.inl ⟨by rfl,?_⟩) ?_ ?_
       rotate_left
       ·intro w'
        go_simp
        with_reducible rfl
       rotate_left
       ·simp only[p0,p1,p2,p3,p4,p5];rfl
       refine pure_ (i:=7) (N:=some 57) (v:=?_) (a':=?_) #[Y,Y,Y,Y,Y,Y,Y,Y,Z,Z,Z,Z,Z,Z,Z,Z,Z,Z,Z] rfl rfl (any_of HT_.out (by kernel_rfl)) (fun _ _ _ h => h) (Or.inl ⟨by rfl,?_⟩) ?_ ?_
       rotate_left
       ·intro w'
        go_simp
        with_reducible rfl
       rotate_left
       ·simp only[p0,p1,p2,p3,p4,p5];rfl
       refine pure_ (i:=8) (N:=some 58) (v:=undef) (a':=?_) #[Y,Y,Y,Y,Y,Y,Y,Y,Y,Z,Z,Z,Z,Z,Z,Z,Z,Z,Z] rfl rfl (any_of HT_.out (by kernel_rfl)) (fun _ _ _ h => h) (Or.inr ⟨by rfl,rfl⟩) ?_ ?_
       rotate_left
       ·simp only[p0,p1,p2,p3,p4,p5];rfl
       refine pure_ (i:=9) (N:=some 59) (v:=undef) (a':=?_) #[Y,Y,Y,Y,Y,Y,Y,Y,Y,Y,Z,Z,Z,Z,Z,Z,Z,Z,Z] rfl rfl (any_of HT_.out (by kernel_rfl)) (fun _ _ _ h => h) (Or.inr ⟨by rfl,rfl⟩) ?_ ?_
       rotate_left
       ·simp only[p0,p1,p2,p3,p4,p5];rfl
       refine pure_ (i:=10) (N:=some 60) (v:=undef) (a':=?_) #[Y,Y,Y,Y,Y,Y,Y,Y,Y,Y,Y,Z,Z,Z,Z,Z,Z,Z,Z] rfl rfl (any_of HT_.out (by kernel_rfl)) (fun _ _ _ h => h) (Or.inr ⟨by rfl,rfl⟩) ?_ ?_
       rotate_left
       ·simp only[p0,p1,p2,p3,p4,p5];rfl
       refine pure_ (i:=11) (N:=some 61) (v:=undef) (a':=?_) #[Y,Y,Y,Y,Y,Y,Y,Y,Y,Y,Y,Y,Z,Z,Z,Z,Z,Z,Z] rfl rfl (any_of HT_.out (by kernel_rfl)) (fun _ _ _ h => h) (Or.inr ⟨by rfl,rfl⟩) ?_ ?_
       rotate_left
       ·simp only[p0,p1,p2,p3,p4,p5];rfl
       refine pure_ (i:=12) (N:=some 62) (v:=undef) (a':=?_) #[Y,Y,Y,Y,Y,Y,Y,Y,Y,Y,Y,Y,Y,Z,Z,Z,Z,Z,Z] rfl rfl (any_of HT_.out (by kernel_rfl)) (fun _ _ _ h => h) (Or.inr ⟨by rfl,rfl⟩) ?_ ?_
       rotate_left
       ·simp only[p0,p1,p2,p3,p4,p5];rfl
       refine pure_ (i:=13) (N:=some 63) (v:=undef) (a':=?_) #[Y,Y,Y,Y,Y,Y,Y,Y,Y,Y,Y,Y,Y,Y,Z,Z,Z,Z,Z] rfl rfl (any_of HT_.out (by kernel_rfl)) (fun _ _ _ h => h) (Or.inr ⟨by rfl,rfl⟩) ?_ ?_
       rotate_left
       ·simp only[p0,p1,p2,p3,p4,p5];rfl
       refine pure_ (i:=14) (N:=some 64) (v:=undef) (a':=?_) #[Y,Y,Y,Y,Y,Y,Y,Y,Y,Y,Y,Y,Y,Y,Y,Z,Z,Z,Z] rfl rfl (any_of HT_.out (by kernel_rfl)) (fun _ _ _ h => h) (Or.inr ⟨by rfl,rfl⟩) ?_ ?_
       rotate_left
       ·simp only[p0,p1,p2,p3,p4,p5];rfl
       refine pure_ (i:=15) (N:=some 65) (v:=undef) (a':=?_) #[Y,Y,Y,Y,Y,Y,Y,Y,Y,Y,Y,Y,Y,Y,Y,Y,Z,Z,Z] rfl rfl (any_of HT_.out (by kernel_rfl)) (fun _ _ _ h => h) (Or.inr ⟨by rfl,rfl⟩) ?_ ?_
       rotate_left
       ·simp only[p0,p1,p2,p3,p4,p5];rfl
       refine pure_ (i:=16) (N:=some 66) (v:=undef) (a':=?_) #[Y,Y,Y,Y,Y,Y,Y,Y,Y,Y,Y,Y,Y,Y,Y,Y,Y,Z,Z] rfl rfl (any_of HT_.out (by kernel_rfl)) (fun _ _ _ h => h) (Or.inr ⟨by rfl,rfl⟩) ?_ ?_
       rotate_left
       ·simp only[p0,p1,p2,p3,p4,p5];rfl
       refine pure_ (i:=17) (N:=some 67) (v:=undef) (a':=?_) #[Y,Y,Y,Y,Y,Y,Y,Y,Y,Y,Y,Y,Y,Y,Y,Y,Y,Y,Z] rfl rfl (any_of HT_.out (by kernel_rfl)) (fun _ _ _ h => h) (Or.inr ⟨by rfl,rfl⟩) ?_ ?_
       rotate_left
       ·simp only[p0,p1,p2,p3,p4,p5];rfl
       refine pure_ (i:=18) (N:=some 68) (v:=?_) (a':=?_) #[Y,Y,Y,Y,Y,Y,Y,Y,Y,Y,Y,Y,Y,Y,Y,Y,Y,Y,Y] rfl rfl (any_of HT_.out (by kernel_rfl)) (fun _ _ _ h => h) (Or.inl ⟨by rfl,?_⟩) ?_ ?_
       rotate_left
       ·intro w'
        go_simp
        with_reducible rfl
       rotate_left
       ·simp only[p0,p1,p2,p3,p4,p5];rfl
       refine done_ (done_of HT_.out (by kernel_rfl)) ?_
       try go_wp2
       go_ret
       exact ⟨by first|rfl|(simp [errW_none,errW_some] <;> rfl)|(simp [*,errW_none,errW_some] <;> rfl),by repeat (first|(with_reducible first|exact HB.out|apply wA|apply wN|apply wD|refine wS ?_ GE168.out|refine wS ?_ GE174.out)|exact HB.out)⟩
      replace c12:=Bool.eq_false_iff.mpr c12
      subst c12;have H1 : (some false) = some r:=by rw [if_neg (show ¬ (false = true) by decide)] at H;exact H
      clear H;have H:=H1
      clear H1;obtain rfl:=Option.some.inj H
      obtain ⟨Ao52,co52,eo52⟩:=Kd.R_slice HO_3.out
      subst eo52;try go_wp2
      have n0_:=AM (Rd HO_3.out)
      have n1_:=AM (Rd HO_4.out)
      have n2_:=AM (bD BK168.out)
      have n3_:=AM (wD HB.out)
      clear HO_3;clear HO_4;clear BK168;clear HB;have HO_3:=n0_;have HO_4:=n1_;have BK168:=n2_;have HB:=n3_;clear n0_ n1_ n2_ n3_;have p169 : 0 ≤ (x6_1 : Int):=of_decide_eq_true (by first|(with_reducible assumption)|assumption)
      have q169 : x6_1 < (t162.length : Int):=of_decide_eq_true (by first|(with_reducible assumption)|assumption)
      obtain ⟨ad169,e169,hx169_0⟩:=Kd.at_int (Kd.R_reads' HO_3.out).2.2 x6_1 p169 q169
      cases e169
      replace p169:=eq_true p169
      replace q169:=eq_true q169
      obtain ⟨Ao54,co54,eo54⟩:=Kd.R_slice HO_4.out
      (first|subst eo54|(injection eo54 with f1_ f2_ f3_;have f4_:=f1_.symm;have f5_:=f3_.symm;clear f1_ f2_ f3_;subst f4_;subst f5_))
      have p170 : 0 ≤ (x6_1 : Int):=of_decide_eq_true (by first|(with_reducible assumption)|assumption)
      have q170 : x6_1 < (t163.length : Int):=of_decide_eq_true (by first|(with_reducible assumption)|assumption)
      obtain ⟨ad170,e170,hx170_0⟩:=Kd.at_int (Kd.R_reads' HO_4.out).2.2 x6_1 p170 q170
      cases e170
      replace p170:=eq_true p170
      replace q170:=eq_true q170
      refine start_ (n:=16) (S:=fun w' => w'.cell? ⟨gb168,0,none⟩ = some (.string x169000_1) ∧ w'.cell? ⟨gb168,1,none⟩ = some (.int .i64 x169001_1) ∧ w'.cell? (ad169.add (x6_1).toNat) = some (.int .i64 (rd t162 x6_1)) ∧ w'.cell? (ad170.add (x6_1).toNat) = some (.int .i64 (rd t163 x6_1))) (ds:=[]) #[Z,Z,Z,Z,Z,Z,Z,Z,Z,Z,Z,Z,Z,Z,Z,Z] (by kernel_rfl) rfl rfl ⟨(blk_cell BK168.out 0).trans rfl,(blk_cell BK168.out 1).trans rfl,hx169_0,hx170_0⟩ (fun hHeld => ?_);refine with_tabW laws_FnBits.tab8 laws_FnBits.bits8 (fun HT_ HW_ => ?_)
      generalize wr.drew = w53 at HO_3 HO_4 BK168 HB hx169_0 hx170_0 hHeld ⊢
      refine pure_ (i:=1) (N:=some 39) (v:=?_) (a':=?_) #[Z,Y,Z,Z,Z,Z,Z,Z,Z,Z,Z,Z,Z,Z,Z,Z] rfl rfl (any_of HT_.out (by kernel_rfl)) (fun _ _ _ h => h) (Or.inl ⟨by rfl,?_⟩) ?_ ?_
      rotate_left
      ·intro w'
       go_simp
       with_reducible rfl
      rotate_left
      ·simp only[p0,p1,p2,p3,p4,p5];rfl
      refine pure_ (i:=2) (N:=some 40) (v:=?_) (a':=?_) #[Z,Y,Y,Z,Z,Z,Z,Z,Z,Z,Z,Z,Z,Z,Z,Z] rfl rfl (any_of HT_.out (by kernel_rfl)) (fun _ _ _ h => h) (Or.inl ⟨by rfl,?_⟩) ?_ ?_
      rotate_left
      ·intro w'
       go_simp
       with_reducible rfl
      rotate_left
      ·simp only[p0,p1,p2,p3,p4,p5];rfl
      refine pure_ (i:=3) (N:=some 41) (v:=?_) (a':=?_) #[Z,Y,Y,Y,Z,Z,Z,Z,Z,Z,Z,Z,Z,Z,Z,Z] rfl rfl (any_of HT_.out (by kernel_rfl)) (fun _ _ _ h => h) (Or.inl ⟨by rfl,?_⟩) ?_ ?_
      rotate_left
      ·intro w'
       go_simp
       with_reducible rfl
      rotate_left
      ·simp only[p0,p1,p2,p3,p4,p5];rfl
      refine pure_ (i:=5) (N:=some 43) (v:=?_) (a':=?_) #[Z,Y,Y,Y,Z,Y,Z,Z,Z,Z,Z,Z,Z,Z,Z,Z] rfl rfl (any_of HT_.out (by kernel_rfl)) (fun _ _ _ h => h) (Or.inl ⟨by rfl,?_⟩) ?_ ?_
      rotate_left
      ·intro w'
       go_simp
       with_reducible rfl
      rotate_left
      ·simp only[p0,p1,p2,p3,p4,p5];rfl
      refine pure_ (i:=6) (N:=some 44) (v:=?_) (a':=?_) #[Z,Y,Y,Y,Z,Y,Y,Z,Z,Z,Z,Z,Z,Z,Z,Z] rfl rfl (any_of HT_.out (by kernel_rfl)) (fun _ _ _ h => h) (Or.inl ⟨by rfl,?_⟩) ?_ ?_
      rotate_left
      ·intro w'
       go_simp
       with_reducible rfl
      rotate_left
      ·simp only[p0,p1,p2,p3,p4,p5];rfl
      refine pure_ (i:=7) (N:=some 45) (v:=?_) (a':=?_) #[Z,Y,Y,Y,Z,Y,Y,Y,Z,Z,Z,Z,Z,Z,Z,Z] rfl rfl (any_of HT_.out (by kernel_rfl)) (fun _ _ _ h => h) (Or.inl ⟨by rfl,?_⟩) ?_ ?_
      rotate_left
      ·intro w'
       go_simp
       with_reducible rfl
      rotate_left
      ·simp only[p0,p1,p2,p3,p4,p5];rfl
      refine take_ (i:=0) (N:=some 38) (v:=?_) (a':=?_) #[Y,Y,Y,Y,Z,Y,Y,Y,Z,Z,Z,Z,Z,Z,Z,Z] rfl rfl (take_ofW HT_.out HW_.out (by kernel_rfl)) (fun _ _ _ h => h) (Or.inl ⟨by rfl,?_⟩) hHeld ?_ ?_
      rotate_left
      ·rintro w' ⟨s0,s1,s2,s3⟩
       go_simp
       with_reducible rfl
      rotate_left
      ·simp only[p0,p1,p2,p3,p4,p5];rfl
      refine take_ (i:=4) (N:=some 42) (v:=?_) (a':=?_) #[Y,Y,Y,Y,Y,Y,Y,Y,Z,Z,Z,Z,Z,Z,Z,Z] rfl rfl (take_ofW HT_.out HW_.out (by kernel_rfl)) (fun _ _ _ h => h) (Or.inl ⟨by rfl,?_⟩) hHeld ?_ ?_
      rotate_left
      ·rintro w' ⟨s0,s1,s2,s3⟩
       go_simp
       with_reducible rfl
      rotate_left
      ·simp only[p0,p1,p2,p3,p4,p5];rfl
      refine take_ (i:=8) (N:=some 46) (v:=?_) (a':=?_) #[Y,Y,Y,Y,Y,Y,Y,Y,Y,Z,Z,Z,Z,Z,Z,Z] rfl rfl (take_ofW HT_.out HW_.out (by kernel_rfl)) (fun _ _ _ h => h) (Or.inl ⟨by rfl,?_⟩) hHeld ?_ ?_
      rotate_left
      ·rintro w' ⟨s0,s1,s2,s3⟩
       go_simp
       with_reducible rfl
      rotate_left
      ·simp only[p0,p1,p2,p3,p4,p5];rfl
      refine join_ (σ:=Nat) 2 #[Y,Y,Y,Y,Y,Y,Y,Y,Y,Y,Y,Y,Y,Y,Z,Z] (fun s_ => [(47,.tuple #[.agg #[.string t171,.int .i64 t172],.bool false]),(7,.pointer (some ⟨s_,0,none⟩)),(37,.tuple #[.agg #[.string t171,.int .i64 t172],.bool false]),(48,.agg #[.string t171,.int .i64 t172]),(49,.bool false)]) (fun s_ w' => (w'.cell? ⟨gb168,0,none⟩ = some (.string x169000_1) ∧ w'.cell? ⟨gb168,1,none⟩ = some (.int .i64 x169001_1) ∧ w'.cell? (ad169.add (x6_1).toNat) = some (.int .i64 (rd t162 x6_1)) ∧ w'.cell? (ad170.add (x6_1).toNat) = some (.int .i64 (rd t163 x6_1))) ∧ (Kd.R (Kd.int .i64) 3 w' w.heap.size (fun k_ => some k_ ≠ (.slice (some ad170) t163.length co54 : Value).ownBlock) (.slice (some ad169) t162.length co52) t162) ∧ (Kd.R (Kd.int .i64) 3 w' w.heap.size (fun k_ => some k_ ≠ (.slice (some ad169) t162.length co52 : Value).ownBlock) (.slice (some ad170) t163.length co54) t163) ∧ (w'.heap[gb168]? = some (.cells #[.string x169000_1,.int .i64 x169001_1] 50 (0,0))) ∧ (w'.heap[s_]? = some (.cells #[.string (⟨#[]⟩ : ByteArray),.int .i64 0] 50 (0,0))) ∧ (w.heap.size ≤ s_) ∧ (w.heap.size ≤ s_) ∧ (gb168 ≠ s_) ∧ (s_ ≠ gb168) ∧ (Below w.heap.size w w')) ?_ ?_
      rotate_left
      ·intro hCont
       refine two_ (i:=9) (j:=13) (Ni:=some 47) (Nj:=some 7) #[Y,Y,Y,Y,Y,Y,Y,Y,Y,Y,Z,Z,Z,Z,Z,Z] #[Y,Y,Y,Y,Y,Y,Y,Y,Y,Z,Z,Z,Z,Y,Z,Z] rfl rfl rfl rfl (two_of HT_.out (by kernel_rfl)) (by decide) (by decide) (fun K hK => ?_) (fun K hK => ?_)
       ·skip
        refine goes_ Try.func38 (by kernel_rfl) rfl #[.agg #[.string x169000_1,.int .i64 x169001_1],.int .i64 (rd t162 x6_1),.int .i64 (rd t163 x6_1)] (by rfl) rfl rfl (by (try simp only [List.map_toArray,List.map_cons,List.map_nil]);first|done|rfl|(simp only [List.length_drop,List.length_take];rfl)) ?_
        with_reducible refine (impl_PutBits.calls x169000_1 x169001_1 (rd t162 x6_1) (rd t163 x6_1) t171 t172 false _ A11.out).mono ?_
        rintro e w55 ⟨rfl,hb⟩
        have HS2_:=(hb.cell (World.block_lt_of_cell? _ _ (hHeld.2.2.1))).trans (hHeld.2.2.1)
        have HS3_:=(hb.cell (World.block_lt_of_cell? _ _ (hHeld.2.2.2))).trans (hHeld.2.2.2)
        refine ⟨_,rfl,?_⟩
        have n0_:=AM (RB (by (with_reducible repeat (first|apply Ra|apply Rn|apply Rd));exact HO_3.out) hb)
        have n1_:=AM (RB (by (with_reducible repeat (first|apply Ra|apply Rn|apply Rd));exact HO_4.out) hb)
        have n2_:=AM (bB (g:=gb168) (o:=.cells #[.string x169000_1,.int .i64 x169001_1] 50 (0,0)) (by (with_reducible repeat (first|refine bN ?_ _|refine bD ?_|refine bA ?_ _));exact BK168.out) hb)
        have n3_:=AM (below_step (by repeat (first|(with_reducible first|exact HB.out|apply wA|apply wN|apply wD|refine wS ?_ GE168.out)|exact HB.out)) hb)
        clear HO_3;clear HO_4;clear BK168;clear HB;have HO_3:=n0_;have HO_4:=n1_;have BK168:=n2_;have HB:=n3_;clear n0_ n1_ n2_ n3_;(try clear hb);(try clear hb2);(try clear hk);(try clear hi);refine hK.out _ _ ⟨(blk_cell BK168.out 0).trans rfl,(blk_cell BK168.out 1).trans rfl,HS2_,HS3_⟩ (fun hHeld => ?_)
        clear hK K;refine norm_ (a':=?_) ?_ ?_
        rotate_left
        ·show Act.put _ (some 47) _ = _
         simp only[p0,p1,p2,p3,p4,p5];rfl
        refine pure_ (i:=10) (N:=some 37) (v:=?_) (a':=?_) #[Y,Y,Y,Y,Y,Y,Y,Y,Y,Y,Y,Z,Z,Z,Z,Z] rfl rfl (any_of HT_.out (by kernel_rfl)) (fun _ _ _ h => h) (Or.inl ⟨by rfl,?_⟩) ?_ ?_
        rotate_left
        ·intro w'
         go_simp
         with_reducible rfl
        rotate_left
        ·simp only[p0,p1,p2,p3,p4,p5];rfl
        refine pure_ (i:=11) (N:=some 48) (v:=?_) (a':=?_) #[Y,Y,Y,Y,Y,Y,Y,Y,Y,Y,Y,Y,Z,Z,Z,Z] rfl rfl (any_of HT_.out (by kernel_rfl)) (fun _ _ _ h => h) (Or.inl ⟨by rfl,?_⟩) ?_ ?_
        rotate_left
        ·intro w'
         go_simp
         with_reducible rfl
        rotate_left
        ·simp only[p0,p1,p2,p3,p4,p5];rfl
        refine pure_ (i:=12) (N:=some 49) (v:=?_) (a':=?_) #[Y,Y,Y,Y,Y,Y,Y,Y,Y,Y,Y,Y,Y,Z,Z,Z] rfl rfl (any_of HT_.out (by kernel_rfl)) (fun _ _ _ h => h) (Or.inl ⟨by rfl,?_⟩) ?_ ?_
        rotate_left
        ·intro w'
         go_simp
         with_reducible rfl
        rotate_left
        ·simp only[p0,p1,p2,p3,p4,p5];rfl
        refine one_ (i:=13) (N:=some 7) #[Y,Y,Y,Y,Y,Y,Y,Y,Y,Y,Y,Y,Y,Y,Z,Z] rfl rfl (one_of HT_.out (by kernel_rfl)) (by decide) (fun K hK => ?_)
        refine box_step ?hg (N:=7) ?hd (cs:=#[.string (⟨#[]⟩ : ByteArray),.int .i64 0]) (t:=50) ?hr ?_;(case hd => rfl);(case hg => rfl);(case hr => first|(go_simp;done)|(go_simp;rfl))
        intro gb174 hg w56 hbox hb
        have HS2_:=(hb.cell (World.block_lt_of_cell? _ _ (hHeld.2.2.1))).trans (hHeld.2.2.1)
        have HS3_:=(hb.cell (World.block_lt_of_cell? _ _ (hHeld.2.2.2))).trans (hHeld.2.2.2)
        have n0_:=AM (RB (by (with_reducible repeat (first|apply Ra|apply Rn|apply Rd));exact HO_3.out) hb)
        have n1_:=AM (RB (by (with_reducible repeat (first|apply Ra|apply Rn|apply Rd));exact HO_4.out) hb)
        have n2_:=AM (bB (g:=gb168) (o:=.cells #[.string x169000_1,.int .i64 x169001_1] 50 (0,0)) (by (with_reducible repeat (first|refine bN ?_ _|refine bD ?_|refine bA ?_ _));exact BK168.out) hb)
        have n3_:=AM (below_step (by repeat (first|(with_reducible first|exact HB.out|apply wA|apply wN|apply wD|refine wS ?_ GE168.out)|exact HB.out)) hb)
        have n4_:=AM (hbox)
        have n5_:=AM ((by rw [hg];exact (below_size (by repeat (first|(with_reducible first|exact HB.out|apply wA|apply wN|apply wD|refine wS ?_ GE168.out)|exact HB.out))) : w.heap.size ≤ gb174))
        have n6_:=AM ((by rw [hg];exact (below_size (by repeat (first|(with_reducible first|exact HB.out|apply wA|apply wN|apply wD|refine wS ?_ GE168.out)|exact HB.out))) : w.heap.size ≤ gb174))
        have n7_:=AM ((by rw [hg];exact Nat.ne_of_lt (bL (g:=gb168) (o:=.cells #[.string x169000_1,.int .i64 x169001_1] 50 (0,0)) (by (with_reducible repeat (first|refine bN ?_ _|refine bD ?_|refine bA ?_ _));exact BK168.out)) : gb168 ≠ gb174))
        have n8_:=AM ((by rw [hg];exact Nat.ne_of_gt (bL (g:=gb168) (o:=.cells #[.string x169000_1,.int .i64 x169001_1] 50 (0,0)) (by (with_reducible repeat (first|refine bN ?_ _|refine bD ?_|refine bA ?_ _));exact BK168.out)) : gb174 ≠ gb168))
        clear HO_3;clear HO_4;clear BK168;clear HB;have HO_3:=n0_;have HO_4:=n1_;have BK168:=n2_;have HB:=n3_;have BK174:=n4_;have GW174:=n5_;have GE174:=n6_;have NB168_174:=n7_;have NB174_168:=n8_;clear n0_ n1_ n2_ n3_ n4_ n5_ n6_ n7_ n8_;clear hb hbox hg;refine hK.out _ _ ⟨(blk_cell BK168.out 0).trans rfl,(blk_cell BK168.out 1).trans rfl,HS2_,HS3_⟩ (fun hHeld => ?_)
        clear hK K;refine norm_ (a':=?_) ?_ ?_
        rotate_left
        ·show Act.put _ (some 7) _ = _
         simp only[p0,p1,p2,p3,p4,p5];rfl
        exact norm_ (by simp only[putAll,p0,p1,p2,p3]) (hCont (gb174) _ ⟨hHeld,(by (with_reducible repeat (first|apply Ra|apply Rn|apply Rd));exact HO_3.out),(by (with_reducible repeat (first|apply Ra|apply Rn|apply Rd));exact HO_4.out),(by (with_reducible repeat (first|refine bN ?_ _|refine bD ?_|refine bA ?_ _));exact BK168.out),(by (with_reducible repeat (first|refine bN ?_ _|refine bD ?_|refine bA ?_ _));exact BK174.out),GW174.out,GE174.out,NB168_174.out,NB174_168.out,(by repeat (first|(with_reducible first|exact HB.out|apply wA|apply wN|apply wD|refine wS ?_ GE168.out|refine wS ?_ GE174.out)|exact HB.out))⟩)
       skip
       refine box_step ?hg (N:=7) ?hd (cs:=#[.string (⟨#[]⟩ : ByteArray),.int .i64 0]) (t:=50) ?hr ?_;(case hd => rfl);(case hg => rfl);(case hr => first|(go_simp;done)|(go_simp;rfl))
       intro gb174 hg w55 hbox hb
       have HS2_:=(hb.cell (World.block_lt_of_cell? _ _ (hHeld.2.2.1))).trans (hHeld.2.2.1)
       have HS3_:=(hb.cell (World.block_lt_of_cell? _ _ (hHeld.2.2.2))).trans (hHeld.2.2.2)
       have n0_:=AM (RB (by (with_reducible repeat (first|apply Ra|apply Rn|apply Rd));exact HO_3.out) hb)
       have n1_:=AM (RB (by (with_reducible repeat (first|apply Ra|apply Rn|apply Rd));exact HO_4.out) hb)
       have n2_:=AM (bB (g:=gb168) (o:=.cells #[.string x169000_1,.int .i64 x169001_1] 50 (0,0)) (by (with_reducible repeat (first|refine bN ?_ _|refine bD ?_|refine bA ?_ _));exact BK168.out) hb)
       have n3_:=AM (below_step (by repeat (first|(with_reducible first|exact HB.out|apply wA|apply wN|apply wD|refine wS ?_ GE168.out)|exact HB.out)) hb)
       have n4_:=AM (hbox)
       have n5_:=AM ((by rw [hg];exact (below_size (by repeat (first|(with_reducible first|exact HB.out|apply wA|apply wN|apply wD|refine wS ?_ GE168.out)|exact HB.out))) : w.heap.size ≤ gb174))
       have n6_:=AM ((by rw [hg];exact (below_size (by repeat (first|(with_reducible first|exact HB.out|apply wA|apply wN|apply wD|refine wS ?_ GE168.out)|exact HB.out))) : w.heap.size ≤ gb174))
       have n7_:=AM ((by rw [hg];exact Nat.ne_of_lt (bL (g:=gb168) (o:=.cells #[.string x169000_1,.int .i64 x169001_1] 50 (0,0)) (by (with_reducible repeat (first|refine bN ?_ _|refine bD ?_|refine bA ?_ _));exact BK168.out)) : gb168 ≠ gb174))
       have n8_:=AM ((by rw [hg];exact Nat.ne_of_gt (bL (g:=gb168) (o:=.cells #[.string x169000_1,.int .i64 x169001_1] 50 (0,0)) (by (with_reducible repeat (first|refine bN ?_ _|refine bD ?_|refine bA ?_ _));exact BK168.out)) : gb174 ≠ gb168))
       clear HO_3;clear HO_4;clear BK168;clear HB;have HO_3:=n0_;have HO_4:=n1_;have BK168:=n2_;have HB:=n3_;have BK174:=n4_;have GW174:=n5_;have GE174:=n6_;have NB168_174:=n7_;have NB174_168:=n8_;clear n0_ n1_ n2_ n3_ n4_ n5_ n6_ n7_ n8_;clear hb hbox hg;refine hK.out _ _ ⟨(blk_cell BK168.out 0).trans rfl,(blk_cell BK168.out 1).trans rfl,HS2_,HS3_⟩ (fun hHeld => ?_)
       clear hK K;refine norm_ (a':=?_) ?_ ?_
       rotate_left
       ·show Act.put _ (some 7) _ = _
        simp only[p0,p1,p2,p3,p4,p5];rfl
       refine one_ (i:=9) (N:=some 47) #[Y,Y,Y,Y,Y,Y,Y,Y,Y,Y,Z,Z,Z,Y,Z,Z] rfl rfl (one_of HT_.out (by kernel_rfl)) (by decide) (fun K hK => ?_)
       refine goes_ Try.func38 (by kernel_rfl) rfl #[.agg #[.string x169000_1,.int .i64 x169001_1],.int .i64 (rd t162 x6_1),.int .i64 (rd t163 x6_1)] (by rfl) rfl rfl (by (try simp only [List.map_toArray,List.map_cons,List.map_nil]);first|done|rfl|(simp only [List.length_drop,List.length_take];rfl)) ?_
       with_reducible refine (impl_PutBits.calls x169000_1 x169001_1 (rd t162 x6_1) (rd t163 x6_1) t171 t172 false _ A11.out).mono ?_
       rintro e w56 ⟨rfl,hb⟩
       have HS2_:=(hb.cell (World.block_lt_of_cell? _ _ (hHeld.2.2.1))).trans (hHeld.2.2.1)
       have HS3_:=(hb.cell (World.block_lt_of_cell? _ _ (hHeld.2.2.2))).trans (hHeld.2.2.2)
       refine ⟨_,rfl,?_⟩
       have n0_:=AM (RB (by (with_reducible repeat (first|apply Ra|apply Rn|apply Rd));exact HO_3.out) hb)
       have n1_:=AM (RB (by (with_reducible repeat (first|apply Ra|apply Rn|apply Rd));exact HO_4.out) hb)
       have n2_:=AM (bB (g:=gb168) (o:=.cells #[.string x169000_1,.int .i64 x169001_1] 50 (0,0)) (by (with_reducible repeat (first|refine bN ?_ _|refine bD ?_|refine bA ?_ _));exact BK168.out) hb)
       have n3_:=AM (bB (g:=gb174) (o:=.cells #[.string (⟨#[]⟩ : ByteArray),.int .i64 0] 50 (0,0)) (by (with_reducible repeat (first|refine bN ?_ _|refine bD ?_|refine bA ?_ _));exact BK174.out) hb)
       have n4_:=AM (below_step (by repeat (first|(with_reducible first|exact HB.out|apply wA|apply wN|apply wD|refine wS ?_ GE168.out|refine wS ?_ GE174.out)|exact HB.out)) hb)
       clear HO_3;clear HO_4;clear BK168;clear BK174;clear HB;have HO_3:=n0_;have HO_4:=n1_;have BK168:=n2_;have BK174:=n3_;have HB:=n4_;clear n0_ n1_ n2_ n3_ n4_;(try clear hb);(try clear hb2);(try clear hk);(try clear hi);refine hK.out _ _ ⟨(blk_cell BK168.out 0).trans rfl,(blk_cell BK168.out 1).trans rfl,HS2_,HS3_⟩ (fun hHeld => ?_)
       clear hK K;refine norm_ (a':=?_) ?_ ?_
       rotate_left
       ·show Act.put _ (some 47) _ = _
        simp only[p0,p1,p2,p3,p4,p5];rfl
       refine pure_ (i:=10) (N:=some 37) (v:=?_) (a':=?_) #[Y,Y,Y,Y,Y,Y,Y,Y,Y,Y,Y,Z,Z,Y,Z,Z] rfl rfl (any_of HT_.out (by kernel_rfl)) (fun _ _ _ h => h) (Or.inl ⟨by rfl,?_⟩) ?_ ?_
       rotate_left
       ·intro w'
        go_simp
        with_reducible rfl
       rotate_left
       ·simp only[p0,p1,p2,p3,p4,p5];rfl
       refine pure_ (i:=11) (N:=some 48) (v:=?_) (a':=?_) #[Y,Y,Y,Y,Y,Y,Y,Y,Y,Y,Y,Y,Z,Y,Z,Z] rfl rfl (any_of HT_.out (by kernel_rfl)) (fun _ _ _ h => h) (Or.inl ⟨by rfl,?_⟩) ?_ ?_
       rotate_left
       ·intro w'
        go_simp
        with_reducible rfl
       rotate_left
       ·simp only[p0,p1,p2,p3,p4,p5];rfl
       refine pure_ (i:=12) (N:=some 49) (v:=?_) (a':=?_) #[Y,Y,Y,Y,Y,Y,Y,Y,Y,Y,Y,Y,Y,Y,Z,Z] rfl rfl (any_of HT_.out (by kernel_rfl)) (fun _ _ _ h => h) (Or.inl ⟨by rfl,?_⟩) ?_ ?_
       rotate_left
       ·intro w'
        go_simp
        with_reducible rfl
       rotate_left
       ·simp only[p0,p1,p2,p3,p4,p5];rfl
       exact norm_ (by simp only[putAll,p0,p1,p2,p3]) (hCont (gb174) _ ⟨hHeld,(by (with_reducible repeat (first|apply Ra|apply Rn|apply Rd));exact HO_3.out),(by (with_reducible repeat (first|apply Ra|apply Rn|apply Rd));exact HO_4.out),(by (with_reducible repeat (first|refine bN ?_ _|refine bD ?_|refine bA ?_ _));exact BK168.out),(by (with_reducible repeat (first|refine bN ?_ _|refine bD ?_|refine bA ?_ _));exact BK174.out),GW174.out,GE174.out,NB168_174.out,NB174_168.out,(by repeat (first|(with_reducible first|exact HB.out|apply wA|apply wN|apply wD|refine wS ?_ GE168.out|refine wS ?_ GE174.out)|exact HB.out))⟩)
      rintro gb174 w57 ⟨hS_,h0_,h1_,h2_,h3_,h4_,h5_,h6_,h7_,h8_⟩
      have n0_ : Aside0 (Kd.R (Kd.int .i64) 3 w57 w.heap.size (fun k_ => some k_ ≠ (.slice (some ad170) t163.length co54 : Value).ownBlock) (.slice (some ad169) t162.length co52) t162):=⟨h0_⟩
      have n1_ : Aside0 (Kd.R (Kd.int .i64) 3 w57 w.heap.size (fun k_ => some k_ ≠ (.slice (some ad169) t162.length co52 : Value).ownBlock) (.slice (some ad170) t163.length co54) t163):=⟨h1_⟩
      have n2_ : Aside0 (w57.heap[gb168]? = some (.cells #[.string x169000_1,.int .i64 x169001_1] 50 (0,0))):=⟨h2_⟩
      have n3_ : Aside0 (w57.heap[gb174]? = some (.cells #[.string (⟨#[]⟩ : ByteArray),.int .i64 0] 50 (0,0))):=⟨h3_⟩
      have n4_ : Aside0 (w.heap.size ≤ gb174):=⟨h4_⟩
      have n5_ : Aside0 (w.heap.size ≤ gb174):=⟨h5_⟩
      have n6_ : Aside0 (gb168 ≠ gb174):=⟨h6_⟩
      have n7_ : Aside0 (gb174 ≠ gb168):=⟨h7_⟩
      have n8_ : Aside0 (Below w.heap.size w w57):=⟨h8_⟩
      clear HO_3;clear HO_4;clear BK168;clear HB;clear h0_ h1_ h2_ h3_ h4_ h5_ h6_ h7_ h8_;have HO_3:=n0_;have HO_4:=n1_;have BK168:=n2_;have BK174:=n3_;have GW174:=n4_;have GE174:=n5_;have NB168_174:=n6_;have NB174_168:=n7_;have HB:=n8_;clear n0_ n1_ n2_ n3_ n4_ n5_ n6_ n7_ n8_;have hHeld : w57.cell? ⟨gb168,0,none⟩ = some (.string x169000_1) ∧ w57.cell? ⟨gb168,1,none⟩ = some (.int .i64 x169001_1) ∧ w57.cell? (ad169.add (x6_1).toNat) = some (.int .i64 (rd t162 x6_1)) ∧ w57.cell? (ad170.add (x6_1).toNat) = some (.int .i64 (rd t163 x6_1)):=hS_
      refine norm_ (a':=?_) ?_ ?_
      rotate_left
      ·simp only[putAll,p0,p1,p2,p3]
       rfl
      refine one_ (i:=14) (N:=none) #[Y,Y,Y,Y,Y,Y,Y,Y,Y,Y,Y,Y,Y,Y,Y,Z] rfl rfl (one_of HT_.out (by kernel_rfl)) (by decide) (fun K hK => ?_)
      have hs58 : w57.cell? ⟨gb174,0,none⟩ = some (.string (⟨#[]⟩ : ByteArray)):=(blk_cell BK174.out 0).trans rfl
      have hfs58:=blk_frozen BK174.out 0
      have hns58_0:=NB168_174.out
      have hms58_0:=NB174_168.out
      have hs59 : w57.cell? ⟨gb174,1,none⟩ = some (.int .i64 0):=(blk_cell BK174.out 1).trans rfl
      have hfs59:=blk_frozen BK174.out 1
      have hns59_0:=NB168_174.out
      have hms59_0:=NB174_168.out
      refine skip_ (w1:=?_) (by rfl) rfl ?_ ?_
      rotate_left
      ·go_simp
       rfl
      refine hK.out _ _ ⟨((cell_far (p:=⟨gb174,_,none⟩) NB168_174.out _).trans (((cell_far (p:=⟨gb174,_,none⟩) NB168_174.out _).trans (hHeld.1)))),((cell_far (p:=⟨gb174,_,none⟩) NB168_174.out _).trans (((cell_far (p:=⟨gb174,_,none⟩) NB168_174.out _).trans (hHeld.2.1)))),((cell_far (p:=⟨gb174,_,none⟩) (by first|exact Kd.own_blk (Kd.R_ne HO_3.out BK174.out (by decide))|(rw [add_block];exact Kd.own_blk (Kd.R_ne HO_3.out BK174.out (by decide)))|(show (Addr.add _ _).block ≠ _;rw [add_block];exact Kd.own_blk (Kd.R_ne HO_3.out BK174.out (by decide)))|(dsimp only;exact Kd.own_blk (Kd.R_ne HO_3.out BK174.out (by decide)))) _).trans (((cell_far (p:=⟨gb174,_,none⟩) (by first|exact Kd.own_blk (Kd.R_ne HO_3.out BK174.out (by decide))|(rw [add_block];exact Kd.own_blk (Kd.R_ne HO_3.out BK174.out (by decide)))|(show (Addr.add _ _).block ≠ _;rw [add_block];exact Kd.own_blk (Kd.R_ne HO_3.out BK174.out (by decide)))|(dsimp only;exact Kd.own_blk (Kd.R_ne HO_3.out BK174.out (by decide)))) _).trans (hHeld.2.2.1)))),((cell_far (p:=⟨gb174,_,none⟩) (by first|exact Kd.own_blk (Kd.R_ne HO_4.out BK174.out (by decide))|(rw [add_block];exact Kd.own_blk (Kd.R_ne HO_4.out BK174.out (by decide)))|(show (Addr.add _ _).block ≠ _;rw [add_block];exact Kd.own_blk (Kd.R_ne HO_4.out BK174.out (by decide)))|(dsimp only;exact Kd.own_blk (Kd.R_ne HO_4.out BK174.out (by decide)))) _).trans (((cell_far (p:=⟨gb174,_,none⟩) (by first|exact Kd.own_blk (Kd.R_ne HO_4.out BK174.out (by decide))|(rw [add_block];exact Kd.own_blk (Kd.R_ne HO_4.out BK174.out (by decide)))|(show (Addr.add _ _).block ≠ _;rw [add_block];exact Kd.own_blk (Kd.R_ne HO_4.out BK174.out (by decide)))|(dsimp only;exact Kd.own_blk (Kd.R_ne HO_4.out BK174.out (by decide)))) _).trans (hHeld.2.2.2))))⟩ (fun hHeld => ?_)
      clear hK K;refine pure_ (i:=15) (N:=some 8) (v:=?_) (a':=?_) #[Y,Y,Y,Y,Y,Y,Y,Y,Y,Y,Y,Y,Y,Y,Y,Y] rfl rfl (any_of HT_.out (by kernel_rfl)) (fun _ _ _ h => h) (Or.inl ⟨by rfl,?_⟩) ?_ ?_
      rotate_left
      ·intro w'
       go_simp
       with_reducible rfl
      rotate_left
      ·simp only[p0,p1,p2,p3,p4,p5];rfl
      refine done_ (done_of HT_.out (by kernel_rfl)) ?_
      try go_wp2
      have n0_ : Aside0 (Kd.R (Kd.int .i64) 3 ((w57.setCell ⟨gb174,0,none⟩ (.string t171)).setCell ⟨gb174,1,none⟩ (.int .i64 t172)) w.heap.size (fun k_ => some k_ ≠ (.slice (some ad170) t163.length co54 : Value).ownBlock) (.slice (some ad169) t162.length co52) t162):=⟨by (with_reducible repeat (first|apply Ra|apply Rn|apply Rd));exact Kd.R_mono (Kd.R_far (p:=⟨gb174,1,none⟩) (Kd.R_far (p:=⟨gb174,0,none⟩) (Kd.R_types HO_3.out BK174.out (by decide)) (fun _ hk => hk.2) (.string t171)) (fun _ hk => hk.2) (.int .i64 t172)) (fun _ hk => hk.1)⟩
      have n1_ : Aside0 (Kd.R (Kd.int .i64) 3 ((w57.setCell ⟨gb174,0,none⟩ (.string t171)).setCell ⟨gb174,1,none⟩ (.int .i64 t172)) w.heap.size (fun k_ => some k_ ≠ (.slice (some ad169) t162.length co52 : Value).ownBlock) (.slice (some ad170) t163.length co54) t163):=⟨by (with_reducible repeat (first|apply Ra|apply Rn|apply Rd));exact Kd.R_mono (Kd.R_far (p:=⟨gb174,1,none⟩) (Kd.R_far (p:=⟨gb174,0,none⟩) (Kd.R_types HO_4.out BK174.out (by decide)) (fun _ hk => hk.2) (.string t171)) (fun _ hk => hk.2) (.int .i64 t172)) (fun _ hk => hk.1)⟩
      have n2_ : Aside0 (((w57.setCell ⟨gb174,0,none⟩ (.string t171)).setCell ⟨gb174,1,none⟩ (.int .i64 t172)).heap[gb168]? = some (.cells #[.string x169000_1,.int .i64 x169001_1] 50 (0,0))):=⟨by (with_reducible repeat (first|refine bN ?_ _|refine bD ?_|refine bA ?_ _));refine blk_far ?_ NB168_174.out _;(with_reducible repeat (first|refine bN ?_ _|refine bD ?_|refine bA ?_ _));refine blk_far ?_ NB168_174.out _;(with_reducible repeat (first|refine bN ?_ _|refine bD ?_|refine bA ?_ _));exact BK168.out⟩
      have n3_ : Aside0 (((w57.setCell ⟨gb174,0,none⟩ (.string t171)).setCell ⟨gb174,1,none⟩ (.int .i64 t172)).heap[gb174]? = some (.cells #[.string t171,.int .i64 t172] 50 (0,0))):=⟨by (with_reducible repeat (first|refine bN ?_ _|refine bD ?_|refine bA ?_ _));refine blk_put (cs:=#[.string t171,.int .i64 0]) ?_ 1 _ rfl;(with_reducible repeat (first|refine bN ?_ _|refine bD ?_|refine bA ?_ _));refine blk_put (cs:=#[.string (⟨#[]⟩ : ByteArray),.int .i64 0]) ?_ 0 _ rfl;(with_reducible repeat (first|refine bN ?_ _|refine bD ?_|refine bA ?_ _));exact BK174.out⟩
      have n4_ : Aside0 (Below w.heap.size w ((w57.setCell ⟨gb174,0,none⟩ (.string t171)).setCell ⟨gb174,1,none⟩ (.int .i64 t172))):=⟨by repeat (first|(with_reducible first|exact HB.out|apply wA|apply wN|apply wD|refine wS ?_ GE168.out|refine wS ?_ GE174.out)|exact HB.out)⟩
      (try clear HO_3);(try clear HO_4);(try clear BK168);(try clear BK174);(try clear HB);generalize ((w57.setCell ⟨gb174,0,none⟩ (.string t171)).setCell ⟨gb174,1,none⟩ (.int .i64 t172)) = w60 at n0_ n1_ n2_ n3_ n4_ ⊢
      have HO_3:=n0_;have HO_4:=n1_;have BK168:=n2_;have BK174:=n3_;have HB:=n4_;clear n0_ n1_ n2_ n3_ n4_;have n0_:=AM (Rd HO_3.out)
      have n1_:=AM (Rd HO_4.out)
      have n2_:=AM (bD BK168.out)
      have n3_:=AM (bD BK174.out)
      have n4_:=AM (wD HB.out)
      clear HO_3;clear HO_4;clear BK168;clear BK174;clear HB;have HO_3:=n0_;have HO_4:=n1_;have BK168:=n2_;have BK174:=n3_;have HB:=n4_;clear n0_ n1_ n2_ n3_ n4_;refine start_ (n:=19) (S:=fun w' => True) (ds:=[]) #[Z,Z,Z,Z,Z,Z,Z,Z,Z,Z,Z,Z,Z,Z,Z,Z,Z,Z,Z] (by kernel_rfl) rfl rfl trivial (fun hHeld => ?_);refine with_tabW laws_FnBits.tab9 laws_FnBits.bits9 (fun HT_ HW_ => ?_)
      generalize w60.drew = w61 at HO_3 HO_4 BK168 BK174 HB hHeld ⊢
      refine pure_ (i:=0) (N:=some 50) (v:=?_) (a':=?_) #[Y,Z,Z,Z,Z,Z,Z,Z,Z,Z,Z,Z,Z,Z,Z,Z,Z,Z,Z] rfl rfl (any_of HT_.out (by kernel_rfl)) (fun _ _ _ h => h) (Or.inl ⟨by rfl,?_⟩) ?_ ?_
      rotate_left
      ·intro w'
       go_simp
       with_reducible rfl
      rotate_left
      ·simp only[p0,p1,p2,p3,p4,p5];rfl
      refine pure_ (i:=1) (N:=some 51) (v:=?_) (a':=?_) #[Y,Y,Z,Z,Z,Z,Z,Z,Z,Z,Z,Z,Z,Z,Z,Z,Z,Z,Z] rfl rfl (any_of HT_.out (by kernel_rfl)) (fun _ _ _ h => h) (Or.inl ⟨by rfl,?_⟩) ?_ ?_
      rotate_left
      ·intro w'
       go_simp
       with_reducible rfl
      rotate_left
      ·simp only[p0,p1,p2,p3,p4,p5];rfl
      refine pure_ (i:=2) (N:=some 52) (v:=?_) (a':=?_) #[Y,Y,Y,Z,Z,Z,Z,Z,Z,Z,Z,Z,Z,Z,Z,Z,Z,Z,Z] rfl rfl (any_of HT_.out (by kernel_rfl)) (fun _ _ _ h => h) (Or.inl ⟨by rfl,?_⟩) ?_ ?_
      rotate_left
      ·intro w'
       go_simp
       with_reducible rfl
      rotate_left
      ·simp only[p0,p1,p2,p3,p4,p5];rfl
      refine pure_ (i:=3) (N:=some 53) (v:=undef) (a':=?_) #[Y,Y,Y,Y,Z,Z,Z,Z,Z,Z,Z,Z,Z,Z,Z,Z,Z,Z,Z] rfl rfl (any_of HT_.out (by kernel_rfl)) (fun _ _ _ h => h) (Or.inr ⟨by rfl,rfl⟩) ?_ ?_
      rotate_left
      ·simp only[p0,p1,p2,p3,p4,p5];rfl
      refine pure_ (i:=4) (N:=some 54) (v:=undef) (a':=?_) #[Y,Y,Y,Y,Y,Z,Z,Z,Z,Z,Z,Z,Z,Z,Z,Z,Z,Z,Z] rfl rfl (any_of HT_.out (by kernel_rfl)) (fun _ _ _ h => h) (Or.inr ⟨by rfl,rfl⟩) ?_ ?_
      rotate_left
      ·simp only[p0,p1,p2,p3,p4,p5];rfl
      refine pure_ (i:=5) (N:=some 55) (v:=undef) (a':=?_) #[Y,Y,Y,Y,Y,Y,Z,Z,Z,Z,Z,Z,Z,Z,Z,Z,Z,Z,Z] rfl rfl (any_of HT_.out (by kernel_rfl)) (fun _ _ _ h => h) (Or.inr ⟨by rfl,rfl⟩) ?_ ?_
      rotate_left
      ·simp only[p0,p1,p2,p3,p4,p5];rfl
      refine pure_ (i:=6) (N:=some 56) (v:=?_) (a':=?_) #[Y,Y,Y,Y,Y,Y,Y,Z,Z,Z,Z,Z,Z,Z,Z,Z,Z,Z,Z] rfl rfl (any_of HT_.out (by kernel_rfl)) (fun _ _ _ h => h) (Or.inl ⟨by rfl,?_⟩) ?_ ?_
      rotate_left
      ·intro w'
       go_simp
       with_reducible rfl
      rotate_left
      ·simp only[p0,p1,p2,p3,p4,p5];rfl
      refine pure_ (i:=7) (N:=some 57) (v:=?_) (a':=?_) #[Y,Y,Y,Y,Y,Y,Y,Y,Z,Z,Z,Z,Z,Z,Z,Z,Z,Z,Z] rfl rfl (any_of HT_.out (by kernel_rfl)) (fun _ _ _ h => h) (Or.inl ⟨by rfl,?_⟩) ?_ ?_
      rotate_left
      ·intro w'
       go_simp
       with_reducible rfl
      rotate_left
      ·simp only[p0,p1,p2,p3,p4,p5];rfl
      refine pure_ (i:=8) (N:=some 58) (v:=undef) (a':=?_) #[Y,Y,Y,Y,Y,Y,Y,Y,Y,Z,Z,Z,Z,Z,Z,Z,Z,Z,Z] rfl rfl (any_of HT_.out (by kernel_rfl)) (fun _ _ _ h => h) (Or.inr ⟨by rfl,rfl⟩) ?_ ?_
      rotate_left
      ·simp only[p0,p1,p2,p3,p4,p5];rfl
      refine pure_ (i:=9) (N:=some 59) (v:=undef) (a':=?_) #[Y,Y,Y,Y,Y,Y,Y,Y,Y,Y,Z,Z,Z,Z,Z,Z,Z,Z,Z] rfl rfl (any_of HT_.out (by kernel_rfl)) (fun _ _ _ h => h) (Or.inr ⟨by rfl,rfl⟩) ?_ ?_
      rotate_left
      ·simp only[p0,p1,p2,p3,p4,p5];rfl
      refine pure_ (i:=10) (N:=some 60) (v:=undef) (a':=?_) #[Y,Y,Y,Y,Y,Y,Y,Y,Y,Y,Y,Z,Z,Z,Z,Z,Z,Z,Z] rfl rfl (any_of HT_.out (by kernel_rfl)) (fun _ _ _ h => h) (Or.inr ⟨by rfl,rfl⟩) ?_ ?_
      rotate_left
      ·simp only[p0,p1,p2,p3,p4,p5];rfl
      refine pure_ (i:=11) (N:=some 61) (v:=undef) (a':=?_) #[Y,Y,Y,Y,Y,Y,Y,Y,Y,Y,Y,Y,Z,Z,Z,Z,Z,Z,Z] rfl rfl (any_of HT_.out (by kernel_rfl)) (fun _ _ _ h => h) (Or.inr ⟨by rfl,rfl⟩) ?_ ?_
      rotate_left
      ·simp only[p0,p1,p2,p3,p4,p5];rfl
      refine pure_ (i:=12) (N:=some 62) (v:=undef) (a':=?_) #[Y,Y,Y,Y,Y,Y,Y,Y,Y,Y,Y,Y,Y,Z,Z,Z,Z,Z,Z] rfl rfl (any_of HT_.out (by kernel_rfl)) (fun _ _ _ h => h) (Or.inr ⟨by rfl,rfl⟩) ?_ ?_
      rotate_left
      ·simp only[p0,p1,p2,p3,p4,p5];rfl
      refine pure_ (i:=13) (N:=some 63) (v:=undef) (a':=?_) #[Y,Y,Y,Y,Y,Y,Y,Y,Y,Y,Y,Y,Y,Y,Z,Z,Z,Z,Z] rfl rfl (any_of HT_.out (by kernel_rfl)) (fun _ _ _ h => h) (Or.inr ⟨by rfl,rfl⟩) ?_ ?_
      rotate_left
      ·simp only[p0,p1,p2,p3,p4,p5];rfl
      refine pure_ (i:=14) (N:=some 64) (v:=undef) (a':=?_) #[Y,Y,Y,Y,Y,Y,Y,Y,Y,Y,Y,Y,Y,Y,Y,Z,Z,Z,Z] rfl rfl (any_of HT_.out (by kernel_rfl)) (fun _ _ _ h => h) (Or.inr ⟨by rfl,rfl⟩) ?_ ?_
      rotate_left
      ·simp only[p0,p1,p2,p3,p4,p5];rfl
      refine pure_ (i:=15) (N:=some 65) (v:=undef) (a':=?_) #[Y,Y,Y,Y,Y,Y,Y,Y,Y,Y,Y,Y,Y,Y,Y,Y,Z,Z,Z] rfl rfl (any_of HT_.out (by kernel_rfl)) (fun _ _ _ h => h) (Or.inr ⟨by rfl,rfl⟩) ?_ ?_
      rotate_left
      ·simp only[p0,p1,p2,p3,p4,p5];rfl
      refine pure_ (i:=16) (N:=some 66) (v:=undef) (a':=?_) #[Y,Y,Y,Y,Y,Y,Y,Y,Y,Y,Y,Y,Y,Y,Y,Y,Y,Z,Z] rfl rfl (any_of HT_.out (by kernel_rfl)) (fun _ _ _ h => h) (Or.inr ⟨by rfl,rfl⟩) ?_ ?_
      rotate_left
      ·simp only[p0,p1,p2,p3,p4,p5];rfl
      refine pure_ (i:=17) (N:=some 67) (v:=undef) (a':=?_) #[Y,Y,Y,Y,Y,Y,Y,Y,Y,Y,Y,Y,Y,Y,Y,Y,Y,Y,Z] rfl rfl (any_of HT_.out (by kernel_rfl)) (fun _ _ _ h => h) (Or.inr ⟨by rfl,rfl⟩) ?_ ?_
      rotate_left
      ·simp only[p0,p1,p2,p3,p4,p5];rfl
      refine pure_ (i:=18) (N:=some 68) (v:=?_) (a':=?_) #[Y,Y,Y,Y,Y,Y,Y,Y,Y,Y,Y,Y,Y,Y,Y,Y,Y,Y,Y] rfl rfl (any_of HT_.out (by kernel_rfl)) (fun _ _ _ h => h) (Or.inl ⟨by rfl,?_⟩) ?_ ?_
      rotate_left
      ·intro w'
       go_simp
       with_reducible rfl
      rotate_left
      ·simp only[p0,p1,p2,p3,p4,p5];rfl
      refine done_ (done_of HT_.out (by kernel_rfl)) ?_
      try go_wp2
      go_ret
      exact ⟨by first|rfl|(simp [errW_none,errW_some] <;> rfl)|(simp [*,errW_none,errW_some] <;> rfl),by repeat (first|(with_reducible first|exact HB.out|apply wA|apply wN|apply wD|refine wS ?_ GE168.out|refine wS ?_ GE174.out)|exact HB.out)⟩
     rw [if_neg c10] at H
     exact absurd H (by simp)
    rw [if_neg c9] at H
    exact absurd H (by simp)
   rw [if_neg c8] at H
   have c8b0 : decide (x6_1 < (t162.length : Int)) = false:=decide_eq_false c8
   clear c8;have H':=AM H
   clear H;obtain ⟨Ao62,co62,eo62⟩:=Kd.R_slice HO_3.out
   subst eo62;have hcz63_0 : wr.cell? ⟨gb168,0,none⟩ = some (.string x169000_1):=(blk_cell BK168.out 0).trans rfl
   have hcz63_1 : wr.cell? ⟨gb168,1,none⟩ = some (.int .i64 x169001_1):=(blk_cell BK168.out 1).trans rfl
   have hfz63_0:=blk_frozen BK168.out 0
   have hfz63_1:=blk_frozen BK168.out 1
   go_wp2_with (first|((with_reducible refine gate_dst (N:=9) rfl ?_);refine box_event ?hg (N:=9) ?hd (cs:=#[.string (⟨#[]⟩ : ByteArray),.int .i64 0]) (t:=61) ?hr ?_;(case hd => rfl);(case hg => rfl);(case hr => first|(go_simp;done)|(go_simp;rfl));intro gb177 hg w64 hbox hb;have n0_:=AM (RB (by (with_reducible repeat (first|apply Ra|apply Rn|apply Rd));exact HO_3.out) hb);have n1_:=AM (RB (by (with_reducible repeat (first|apply Ra|apply Rn|apply Rd));exact HO_4.out) hb);have n2_:=AM (bB (g:=gb168) (o:=.cells #[.string x169000_1,.int .i64 x169001_1] 50 (0,0)) (by (with_reducible repeat (first|refine bN ?_ _|refine bD ?_|refine bA ?_ _));exact BK168.out) hb);have n3_:=AM (below_step (by repeat (first|(with_reducible first|exact HB.out|apply wA|apply wN|apply wD|refine wS ?_ GE168.out)|exact HB.out)) hb);have n4_:=AM (hbox);have n5_:=AM ((by rw [hg];exact (below_size (by repeat (first|(with_reducible first|exact HB.out|apply wA|apply wN|apply wD|refine wS ?_ GE168.out)|exact HB.out))) : w.heap.size ≤ gb177));have n6_:=AM ((by rw [hg];exact (below_size (by repeat (first|(with_reducible first|exact HB.out|apply wA|apply wN|apply wD|refine wS ?_ GE168.out)|exact HB.out))) : w.heap.size ≤ gb177));have n7_:=AM ((by rw [hg];exact Nat.ne_of_lt (bL (g:=gb168) (o:=.cells #[.string x169000_1,.int .i64 x169001_1] 50 (0,0)) (by (with_reducible repeat (first|refine bN ?_ _|refine bD ?_|refine bA ?_ _));exact BK168.out)) : gb168 ≠ gb177));have n8_:=AM ((by rw [hg];exact Nat.ne_of_gt (bL (g:=gb168) (o:=.cells #[.string x169000_1,.int .i64 x169001_1] 50 (0,0)) (by (with_reducible repeat (first|refine bN ?_ _|refine bD ?_|refine bA ?_ _));exact BK168.out)) : gb177 ≠ gb168));clear HO_3;clear HO_4;clear BK168;clear HB;have HO_3:=n0_;have HO_4:=n1_;have BK168:=n2_;have HB:=n3_;have BK177:=n4_;have GW177:=n5_;have GE177:=n6_;have NB168_177:=n7_;have NB177_168:=n8_;clear n0_ n1_ n2_ n3_ n4_ n5_ n6_ n7_ n8_;clear hb hbox hg;have hnb65:=NB177_168.out;have hnc65:=NB168_177.out;have hcz66_0 : w64.cell? ⟨gb177,0,none⟩ = some (.string (⟨#[]⟩ : ByteArray)):=(blk_cell BK177.out 0).trans rfl;have hcz66_1 : w64.cell? ⟨gb177,1,none⟩ = some (.int .i64 0):=(blk_cell BK177.out 1).trans rfl;have hfz66_0:=blk_frozen BK177.out 0;have hfz66_1:=blk_frozen BK177.out 1))
   go_loopg [10] k1 (fun kq v10 w' => ∃ (x10_2 : Int) (x178000_2 : ByteArray) (x178001_2 : Int),v10 = .int .i64 x10_2 ∧ Aside0 (laws_FnBits.l1 kq t162 t163 x10_2 x169000_1 x169001_1 x178000_2 x178001_2 = some r) ∧ Aside0 (kq ≤ k1) ∧ Aside0 (Kd.R (Kd.int .i64) 3 w' w.heap.size (fun k_ => some k_ ≠ (v166 : Value).ownBlock) (.slice Ao62 t162.length co62) t162) ∧ Aside0 (Kd.R (Kd.int .i64) 3 w' w.heap.size (fun k_ => some k_ ≠ ((.slice Ao62 t162.length co62) : Value).ownBlock) v166 t163) ∧ Aside0 (w'.heap[gb168]? = some (.cells #[.string x169000_1,.int .i64 x169001_1] 50 (0,0))) ∧ Aside0 (w'.heap[gb177]? = some (.cells #[.string x178000_2,.int .i64 x178001_2] 61 (0,0))) ∧ Aside0 (Below w.heap.size w w'))
   case atStart => exact ⟨(0),(x169000_1),(0),(by first|rfl|(simp;done)|(simp [*];done)),H',⟨Nat.le_refl _⟩,⟨by (with_reducible repeat (first|apply Ra|apply Rn|apply Rd));exact Kd.R_mono (Kd.R_far (p:=⟨gb177,1,none⟩) (Kd.R_far (p:=⟨gb177,0,none⟩) (Kd.R_types HO_3.out BK177.out (by decide)) (fun _ hk => hk.2) (.string x169000_1)) (fun _ hk => hk.2) (.int .i64 0)) (fun _ hk => hk.1)⟩,⟨by (with_reducible repeat (first|apply Ra|apply Rn|apply Rd));exact Kd.R_mono (Kd.R_far (p:=⟨gb177,1,none⟩) (Kd.R_far (p:=⟨gb177,0,none⟩) (Kd.R_types HO_4.out BK177.out (by decide)) (fun _ hk => hk.2) (.string x169000_1)) (fun _ hk => hk.2) (.int .i64 0)) (fun _ hk => hk.1)⟩,⟨by (with_reducible repeat (first|refine bN ?_ _|refine bD ?_|refine bA ?_ _));refine blk_far ?_ NB168_177.out _;(with_reducible repeat (first|refine bN ?_ _|refine bD ?_|refine bA ?_ _));refine blk_far ?_ NB168_177.out _;(with_reducible repeat (first|refine bN ?_ _|refine bD ?_|refine bA ?_ _));exact BK168.out⟩,⟨by (with_reducible repeat (first|refine bN ?_ _|refine bD ?_|refine bA ?_ _));refine blk_put (cs:=#[.string x169000_1,.int .i64 0]) ?_ 1 _ rfl;(with_reducible repeat (first|refine bN ?_ _|refine bD ?_|refine bA ?_ _));refine blk_put (cs:=#[.string (⟨#[]⟩ : ByteArray),.int .i64 0]) ?_ 0 _ rfl;(with_reducible repeat (first|refine bN ?_ _|refine bD ?_|refine bA ?_ _));exact BK177.out⟩,⟨by repeat (first|(with_reducible first|exact HB.out|apply wA|apply wN|apply wD|refine wS ?_ GE168.out|refine wS ?_ GE177.out)|exact HB.out)⟩⟩
   case round =>
    clear H'
    try clear c1
    try clear p1
    try clear q1
    try clear hx1
    try clear p2
    try clear c3
    try clear c6
    try clear c8
    try clear c8b0
    try clear c9
    try clear c10
    try clear c12
    try clear p16
    try clear q16
    try clear hx16
    try clear p17
    try clear q17
    try clear hx17
    try clear c38
    try clear c65
    try clear hcz63_0
    try clear hcz63_1
    try clear hcz66_0
    try clear hcz66_1
    try clear hfz63_0
    try clear hfz63_1
    try clear hfz66_0
    try clear hfz66_1
    try clear hx169_0
    try clear hx170_0
    try clear p169
    try clear p170
    try clear q169
    try clear q170
    obtain ⟨x10_2,x178000_2,x178001_2,rfl,HA,HK2,HO_3,HO_4,BK168,BK177,HB⟩:=hrel
    cases gk with
    | zero => exact absurd HA.out (by simp [laws_FnBits.l1])
    | succ k2 =>
     have H:=HA.out
     clear HA;simp only [laws_FnBits.l1] at H
     by_cases c67 : x10_2 < (t162.length : Int)
     ·rw [if_pos c67] at H
      have c67b0 : decide (x10_2 < (t162.length : Int)) = true:=decide_eq_true c67
      clear c67;by_cases c68 : 0 ≤ x10_2
      ·rw [if_pos c68] at H
       have c68b0 : decide (0 ≤ x10_2) = true:=decide_eq_true c68
       clear c68;by_cases c69 : x10_2 < (t163.length : Int)
       ·rw [if_pos c69] at H
        have c69b0 : decide (x10_2 < (t163.length : Int)) = true:=decide_eq_true c69
        clear c69;replace H:=Option.bind_eq_some_iff.mp H
        obtain ⟨⟨t179,t180,t181,t182⟩,A700,H⟩:=H
        replace H : (if t182 = true then (if t179 = (rd t162 x10_2) then (laws_FnBits.l1 k2 t162 t163 (wrap64 (x10_2 + 1)) x169000_1 x169001_1 t180 t181) else (some false)) else (some false)) = some r:=H
        have A70:=AM A700
        clear A700;by_cases c71 : t182 = true
        ·subst c71;have H1 : (if t179 = (rd t162 x10_2) then (laws_FnBits.l1 k2 t162 t163 (wrap64 (x10_2 + 1)) x169000_1 x169001_1 t180 t181) else (some false)) = some r:=by rw [if_pos rfl] at H;exact H
         clear H;have H:=H1
         clear H1;by_cases c72 : t179 = (rd t162 x10_2)
         ·rw [if_pos c72] at H
          have c72b0 : (t179 == (rd t162 x10_2)) = true:=beq_iff_eq.mpr c72
          have c72b1 : (t179 != (rd t162 x10_2)) = false:=bne_eq_false_iff_eq.mpr c72
          clear c72;have H':=AM H
          clear H;try go_wp2
          have n0_:=AM (Rd HO_3.out)
          have n1_:=AM (Rd HO_4.out)
          have n2_:=AM (bD BK168.out)
          have n3_:=AM (bD BK177.out)
          have n4_:=AM (wD HB.out)
          clear HO_3;clear HO_4;clear BK168;clear BK177;clear HB;have HO_3:=n0_;have HO_4:=n1_;have BK168:=n2_;have BK177:=n3_;have HB:=n4_;clear n0_ n1_ n2_ n3_ n4_;obtain ⟨Ao74,co74,eo74⟩:=Kd.R_slice HO_4.out
          (first|subst eo74|(injection eo74 with f1_ f2_ f3_;have f4_:=f1_.symm;have f5_:=f3_.symm;clear f1_ f2_ f3_;subst f4_;subst f5_))
          have p178 : 0 ≤ (x10_2 : Int):=of_decide_eq_true (by first|(with_reducible assumption)|assumption)
          have q178 : x10_2 < (t163.length : Int):=of_decide_eq_true (by first|(with_reducible assumption)|assumption)
          obtain ⟨ad178,e178,hx178_0⟩:=Kd.at_int (Kd.R_reads' HO_4.out).2.2 x10_2 p178 q178
          cases e178
          replace p178:=eq_true p178
          replace q178:=eq_true q178
          refine start_ (n:=14) (S:=fun w' => w'.cell? ⟨gb177,0,none⟩ = some (.string x178000_2) ∧ w'.cell? ⟨gb177,1,none⟩ = some (.int .i64 x178001_2) ∧ w'.cell? (ad178.add (x10_2).toNat) = some (.int .i64 (rd t163 x10_2))) (ds:=[]) #[Z,Z,Z,Z,Z,Z,Z,Z,Z,Z,Z,Z,Z,Z] (by kernel_rfl) rfl rfl ⟨(blk_cell BK177.out 0).trans rfl,(blk_cell BK177.out 1).trans rfl,hx178_0⟩ (fun hHeld => ?_);refine with_tabW laws_FnBits.tab16 laws_FnBits.bits16 (fun HT_ HW_ => ?_)
          generalize wr.drew = w73 at HO_3 HO_4 BK168 BK177 HB hx178_0 hHeld ⊢
          refine pure_ (i:=1) (N:=some 81) (v:=?_) (a':=?_) #[Z,Y,Z,Z,Z,Z,Z,Z,Z,Z,Z,Z,Z,Z] rfl rfl (any_of HT_.out (by kernel_rfl)) (fun _ _ _ h => h) (Or.inl ⟨by rfl,?_⟩) ?_ ?_
          rotate_left
          ·intro w'
           go_simp
           with_reducible rfl
          rotate_left
          ·simp only[p0,p1,p2,p3,p4,p5];rfl
          refine pure_ (i:=2) (N:=some 82) (v:=?_) (a':=?_) #[Z,Y,Y,Z,Z,Z,Z,Z,Z,Z,Z,Z,Z,Z] rfl rfl (any_of HT_.out (by kernel_rfl)) (fun _ _ _ h => h) (Or.inl ⟨by rfl,?_⟩) ?_ ?_
          rotate_left
          ·intro w'
           go_simp
           with_reducible rfl
          rotate_left
          ·simp only[p0,p1,p2,p3,p4,p5];rfl
          refine pure_ (i:=3) (N:=some 83) (v:=?_) (a':=?_) #[Z,Y,Y,Y,Z,Z,Z,Z,Z,Z,Z,Z,Z,Z] rfl rfl (any_of HT_.out (by kernel_rfl)) (fun _ _ _ h => h) (Or.inl ⟨by rfl,?_⟩) ?_ ?_
          rotate_left
          ·intro w'
           go_simp
           with_reducible rfl
          rotate_left
          ·simp only[p0,p1,p2,p3,p4,p5];rfl
          refine take_ (i:=0) (N:=some 80) (v:=?_) (a':=?_) #[Y,Y,Y,Y,Z,Z,Z,Z,Z,Z,Z,Z,Z,Z] rfl rfl (take_ofW HT_.out HW_.out (by kernel_rfl)) (fun _ _ _ h => h) (Or.inl ⟨by rfl,?_⟩) hHeld ?_ ?_
          rotate_left
          ·rintro w' ⟨s0,s1,s2⟩
           go_simp
           with_reducible rfl
          rotate_left
          ·simp only[p0,p1,p2,p3,p4,p5];rfl
          refine take_ (i:=4) (N:=some 84) (v:=?_) (a':=?_) #[Y,Y,Y,Y,Y,Z,Z,Z,Z,Z,Z,Z,Z,Z] rfl rfl (take_ofW HT_.out HW_.out (by kernel_rfl)) (fun _ _ _ h => h) (Or.inl ⟨by rfl,?_⟩) hHeld ?_ ?_
          rotate_left
          ·rintro w' ⟨s0,s1,s2⟩
           go_simp
           with_reducible rfl
          rotate_left
          ·simp only[p0,p1,p2,p3,p4,p5];rfl
          refine join_ (σ:=Nat) 3 #[Y,Y,Y,Y,Y,Y,Y,Y,Y,Y,Y,Z,Z,Z] (fun s_ => [(85,.tuple #[.int .i64 t179,.agg #[.string t180,.int .i64 t181],.bool true]),(12,.pointer (some ⟨s_,0,none⟩)),(79,.tuple #[.int .i64 t179,.agg #[.string t180,.int .i64 t181],.bool true]),(86,.int .i64 t179),(87,.agg #[.string t180,.int .i64 t181]),(88,.bool true)]) (fun s_ w' => (w'.cell? ⟨gb177,0,none⟩ = some (.string x178000_2) ∧ w'.cell? ⟨gb177,1,none⟩ = some (.int .i64 x178001_2) ∧ w'.cell? (ad178.add (x10_2).toNat) = some (.int .i64 (rd t163 x10_2))) ∧ (Kd.R (Kd.int .i64) 3 w' w.heap.size (fun k_ => some k_ ≠ (.slice (some ad178) t163.length co74 : Value).ownBlock) (.slice Ao62 t162.length co62) t162) ∧ (Kd.R (Kd.int .i64) 3 w' w.heap.size (fun k_ => some k_ ≠ (.slice Ao62 t162.length co62 : Value).ownBlock) (.slice (some ad178) t163.length co74) t163) ∧ (w'.heap[gb168]? = some (.cells #[.string x169000_1,.int .i64 x169001_1] 50 (0,0))) ∧ (w'.heap[gb177]? = some (.cells #[.string x178000_2,.int .i64 x178001_2] 61 (0,0))) ∧ (w'.heap[s_]? = some (.cells #[.string (⟨#[]⟩ : ByteArray),.int .i64 0] 61 (0,0))) ∧ (w.heap.size ≤ s_) ∧ (w.heap.size ≤ s_) ∧ (gb168 ≠ s_) ∧ (s_ ≠ gb168) ∧ (gb177 ≠ s_) ∧ (s_ ≠ gb177) ∧ (Below w.heap.size w w')) ?_ ?_
          rotate_left
          ·intro hCont
           refine two_ (i:=5) (j:=10) (Ni:=some 85) (Nj:=some 12) #[Y,Y,Y,Y,Y,Y,Z,Z,Z,Z,Z,Z,Z,Z] #[Y,Y,Y,Y,Y,Z,Z,Z,Z,Z,Y,Z,Z,Z] rfl rfl rfl rfl (two_of HT_.out (by kernel_rfl)) (by decide) (by decide) (fun K hK => ?_) (fun K hK => ?_)
           ·skip
            refine goes_ Try.func43 (by kernel_rfl) rfl #[.agg #[.string x178000_2,.int .i64 x178001_2],.int .i64 (rd t163 x10_2)] (by rfl) rfl rfl (by (try simp only [List.map_toArray,List.map_cons,List.map_nil]);first|done|rfl|(simp only [List.length_drop,List.length_take];rfl)) ?_
            with_reducible refine (impl_TakeBits.calls k2 x178000_2 x178001_2 (rd t163 x10_2) t179 t180 t181 true _ A70.out).mono ?_
            rintro e w75 ⟨rfl,hb⟩
            have HS2_:=(hb.cell (World.block_lt_of_cell? _ _ (hHeld.2.2))).trans (hHeld.2.2)
            refine ⟨_,rfl,?_⟩
            have n0_:=AM (RB (by (with_reducible repeat (first|apply Ra|apply Rn|apply Rd));exact HO_3.out) hb)
            have n1_:=AM (RB (by (with_reducible repeat (first|apply Ra|apply Rn|apply Rd));exact HO_4.out) hb)
            have n2_:=AM (bB (g:=gb168) (o:=.cells #[.string x169000_1,.int .i64 x169001_1] 50 (0,0)) (by (with_reducible repeat (first|refine bN ?_ _|refine bD ?_|refine bA ?_ _));exact BK168.out) hb)
            have n3_:=AM (bB (g:=gb177) (o:=.cells #[.string x178000_2,.int .i64 x178001_2] 61 (0,0)) (by (with_reducible repeat (first|refine bN ?_ _|refine bD ?_|refine bA ?_ _));exact BK177.out) hb)
            have n4_:=AM (below_step (by repeat (first|(with_reducible first|exact HB.out|apply wA|apply wN|apply wD|refine wS ?_ GE168.out|refine wS ?_ GE177.out)|exact HB.out)) hb)
            clear HO_3;clear HO_4;clear BK168;clear BK177;clear HB;have HO_3:=n0_;have HO_4:=n1_;have BK168:=n2_;have BK177:=n3_;have HB:=n4_;clear n0_ n1_ n2_ n3_ n4_;(try clear hb);(try clear hb2);(try clear hk);(try clear hi);refine hK.out _ _ ⟨(blk_cell BK177.out 0).trans rfl,(blk_cell BK177.out 1).trans rfl,HS2_⟩ (fun hHeld => ?_)
            clear hK K;refine norm_ (a':=?_) ?_ ?_
            rotate_left
            ·show Act.put _ (some 85) _ = _
             simp only[p0,p1,p2,p3,p4,p5];rfl
            refine pure_ (i:=6) (N:=some 79) (v:=?_) (a':=?_) #[Y,Y,Y,Y,Y,Y,Y,Z,Z,Z,Z,Z,Z,Z] rfl rfl (any_of HT_.out (by kernel_rfl)) (fun _ _ _ h => h) (Or.inl ⟨by rfl,?_⟩) ?_ ?_
            rotate_left
            ·intro w'
             go_simp
             with_reducible rfl
            rotate_left
            ·simp only[p0,p1,p2,p3,p4,p5];rfl
            refine pure_ (i:=7) (N:=some 86) (v:=?_) (a':=?_) #[Y,Y,Y,Y,Y,Y,Y,Y,Z,Z,Z,Z,Z,Z] rfl rfl (any_of HT_.out (by kernel_rfl)) (fun _ _ _ h => h) (Or.inl ⟨by rfl,?_⟩) ?_ ?_
            rotate_left
            ·intro w'
             go_simp
             with_reducible rfl
            rotate_left
            ·simp only[p0,p1,p2,p3,p4,p5];rfl
            refine pure_ (i:=8) (N:=some 87) (v:=?_) (a':=?_) #[Y,Y,Y,Y,Y,Y,Y,Y,Y,Z,Z,Z,Z,Z] rfl rfl (any_of HT_.out (by kernel_rfl)) (fun _ _ _ h => h) (Or.inl ⟨by rfl,?_⟩) ?_ ?_
            rotate_left
            ·intro w'
             go_simp
             with_reducible rfl
            rotate_left
            ·simp only[p0,p1,p2,p3,p4,p5];rfl
            refine pure_ (i:=9) (N:=some 88) (v:=?_) (a':=?_) #[Y,Y,Y,Y,Y,Y,Y,Y,Y,Y,Z,Z,Z,Z] rfl rfl (any_of HT_.out (by kernel_rfl)) (fun _ _ _ h => h) (Or.inl ⟨by rfl,?_⟩) ?_ ?_
            rotate_left
            ·intro w'
             go_simp
             with_reducible rfl
            rotate_left
            ·simp only[p0,p1,p2,p3,p4,p5];rfl
            refine one_ (i:=10) (N:=some 12) #[Y,Y,Y,Y,Y,Y,Y,Y,Y,Y,Y,Z,Z,Z] rfl rfl (one_of HT_.out (by kernel_rfl)) (by decide) (fun K hK => ?_)
            refine box_step ?hg (N:=12) ?hd (cs:=#[.string (⟨#[]⟩ : ByteArray),.int .i64 0]) (t:=61) ?hr ?_;(case hd => rfl);(case hg => rfl);(case hr => first|(go_simp;done)|(go_simp;rfl))
            intro gb183 hg w76 hbox hb
            have HS2_:=(hb.cell (World.block_lt_of_cell? _ _ (hHeld.2.2))).trans (hHeld.2.2)
            have n0_:=AM (RB (by (with_reducible repeat (first|apply Ra|apply Rn|apply Rd));exact HO_3.out) hb)
            have n1_:=AM (RB (by (with_reducible repeat (first|apply Ra|apply Rn|apply Rd));exact HO_4.out) hb)
            have n2_:=AM (bB (g:=gb168) (o:=.cells #[.string x169000_1,.int .i64 x169001_1] 50 (0,0)) (by (with_reducible repeat (first|refine bN ?_ _|refine bD ?_|refine bA ?_ _));exact BK168.out) hb)
            have n3_:=AM (bB (g:=gb177) (o:=.cells #[.string x178000_2,.int .i64 x178001_2] 61 (0,0)) (by (with_reducible repeat (first|refine bN ?_ _|refine bD ?_|refine bA ?_ _));exact BK177.out) hb)
            have n4_:=AM (below_step (by repeat (first|(with_reducible first|exact HB.out|apply wA|apply wN|apply wD|refine wS ?_ GE168.out|refine wS ?_ GE177.out)|exact HB.out)) hb)
            have n5_:=AM (hbox)
            have n6_:=AM ((by rw [hg];exact (below_size (by repeat (first|(with_reducible first|exact HB.out|apply wA|apply wN|apply wD|refine wS ?_ GE168.out|refine wS ?_ GE177.out)|exact HB.out))) : w.heap.size ≤ gb183))
            have n7_:=AM ((by rw [hg];exact (below_size (by repeat (first|(with_reducible first|exact HB.out|apply wA|apply wN|apply wD|refine wS ?_ GE168.out|refine wS ?_ GE177.out)|exact HB.out))) : w.heap.size ≤ gb183))
            have n8_:=AM ((by rw [hg];exact Nat.ne_of_lt (bL (g:=gb168) (o:=.cells #[.string x169000_1,.int .i64 x169001_1] 50 (0,0)) (by (with_reducible repeat (first|refine bN ?_ _|refine bD ?_|refine bA ?_ _));exact BK168.out)) : gb168 ≠ gb183))
            have n9_:=AM ((by rw [hg];exact Nat.ne_of_gt (bL (g:=gb168) (o:=.cells #[.string x169000_1,.int .i64 x169001_1] 50 (0,0)) (by (with_reducible repeat (first|refine bN ?_ _|refine bD ?_|refine bA ?_ _));exact BK168.out)) : gb183 ≠ gb168))
            have n10_:=AM ((by rw [hg];exact Nat.ne_of_lt (bL (g:=gb177) (o:=.cells #[.string x178000_2,.int .i64 x178001_2] 61 (0,0)) (by (with_reducible repeat (first|refine bN ?_ _|refine bD ?_|refine bA ?_ _));exact BK177.out)) : gb177 ≠ gb183))
            have n11_:=AM ((by rw [hg];exact Nat.ne_of_gt (bL (g:=gb177) (o:=.cells #[.string x178000_2,.int .i64 x178001_2] 61 (0,0)) (by (with_reducible repeat (first|refine bN ?_ _|refine bD ?_|refine bA ?_ _));exact BK177.out)) : gb183 ≠ gb177))
            clear HO_3;clear HO_4;clear BK168;clear BK177;clear HB;have HO_3:=n0_;have HO_4:=n1_;have BK168:=n2_;have BK177:=n3_;have HB:=n4_;have BK183:=n5_;have GW183:=n6_;have GE183:=n7_;have NB168_183:=n8_;have NB183_168:=n9_;have NB177_183:=n10_;have NB183_177:=n11_;clear n0_ n1_ n2_ n3_ n4_ n5_ n6_ n7_ n8_ n9_ n10_ n11_;clear hb hbox hg;refine hK.out _ _ ⟨(blk_cell BK177.out 0).trans rfl,(blk_cell BK177.out 1).trans rfl,HS2_⟩ (fun hHeld => ?_)
            clear hK K;refine norm_ (a':=?_) ?_ ?_
            rotate_left
            ·show Act.put _ (some 12) _ = _
             simp only[p0,p1,p2,p3,p4,p5];rfl
            exact norm_ (by simp only[putAll,p0,p1,p2,p3]) (hCont (gb183) _ ⟨hHeld,(by (with_reducible repeat (first|apply Ra|apply Rn|apply Rd));exact HO_3.out),(by (with_reducible repeat (first|apply Ra|apply Rn|apply Rd));exact HO_4.out),(by (with_reducible repeat (first|refine bN ?_ _|refine bD ?_|refine bA ?_ _));exact BK168.out),(by (with_reducible repeat (first|refine bN ?_ _|refine bD ?_|refine bA ?_ _));exact BK177.out),(by (with_reducible repeat (first|refine bN ?_ _|refine bD ?_|refine bA ?_ _));exact BK183.out),GW183.out,GE183.out,NB168_183.out,NB183_168.out,NB177_183.out,NB183_177.out,(by repeat (first|(with_reducible first|exact HB.out|apply wA|apply wN|apply wD|refine wS ?_ GE168.out|refine wS ?_ GE177.out|refine wS ?_ GE183.out)|exact HB.out))⟩)
           skip
           refine box_step ?hg (N:=12) ?hd (cs:=#[.string (⟨#[]⟩ : ByteArray),.int .i64 0]) (t:=61) ?hr ?_;(case hd => rfl);(case hg => rfl);(case hr => first|(go_simp;done)|(go_simp;rfl))
           intro gb183 hg w75 hbox hb
           have HS2_:=(hb.cell (World.block_lt_of_cell? _ _ (hHeld.2.2))).trans (hHeld.2.2)
           have n0_:=AM (RB (by (with_reducible repeat (first|apply Ra|apply Rn|apply Rd));exact HO_3.out) hb)
           have n1_:=AM (RB (by (with_reducible repeat (first|apply Ra|apply Rn|apply Rd));exact HO_4.out) hb)
           have n2_:=AM (bB (g:=gb168) (o:=.cells #[.string x169000_1,.int .i64 x169001_1] 50 (0,0)) (by (with_reducible repeat (first|refine bN ?_ _|refine bD ?_|refine bA ?_ _));exact BK168.out) hb)
           have n3_:=AM (bB (g:=gb177) (o:=.cells #[.string x178000_2,.int .i64 x178001_2] 61 (0,0)) (by (with_reducible repeat (first|refine bN ?_ _|refine bD ?_|refine bA ?_ _));exact BK177.out) hb)
           have n4_:=AM (below_step (by repeat (first|(with_reducible first|exact HB.out|apply wA|apply wN|apply wD|refine wS ?_ GE168.out|refine wS ?_ GE177.out)|exact HB.out)) hb)
           have n5_:=AM (hbox)
           have n6_:=AM ((by rw [hg];exact (below_size (by repeat (first|(with_reducible first|exact HB.out|apply wA|apply wN|apply wD|refine wS ?_ GE168.out|refine wS ?_ GE177.out)|exact HB.out))) : w.heap.size ≤ gb183))
           have n7_:=AM ((by rw [hg];exact (below_size (by repeat (first|(with_reducible first|exact HB.out|apply wA|apply wN|apply wD|refine wS ?_ GE168.out|refine wS ?_ GE177.out)|exact HB.out))) : w.heap.size ≤ gb183))
           have n8_:=AM ((by rw [hg];exact Nat.ne_of_lt (bL (g:=gb168) (o:=.cells #[.string x169000_1,.int .i64 x169001_1] 50 (0,0)) (by (with_reducible repeat (first|refine bN ?_ _|refine bD ?_|refine bA ?_ _));exact BK168.out)) : gb168 ≠ gb183))
           have n9_:=AM ((by rw [hg];exact Nat.ne_of_gt (bL (g:=gb168) (o:=.cells #[.string x169000_1,.int .i64 x169001_1] 50 (0,0)) (by (with_reducible repeat (first|refine bN ?_ _|refine bD ?_|refine bA ?_ _));exact BK168.out)) : gb183 ≠ gb168))
           have n10_:=AM ((by rw [hg];exact Nat.ne_of_lt (bL (g:=gb177) (o:=.cells #[.string x178000_2,.int .i64 x178001_2] 61 (0,0)) (by (with_reducible repeat (first|refine bN ?_ _|refine bD ?_|refine bA ?_ _));exact BK177.out)) : gb177 ≠ gb183))
           have n11_:=AM ((by rw [hg];exact Nat.ne_of_gt (bL (g:=gb177) (o:=.cells #[.string x178000_2,.int .i64 x178001_2] 61 (0,0)) (by (with_reducible repeat (first|refine bN ?_ _|refine bD ?_|refine bA ?_ _));exact BK177.out)) : gb183 ≠ gb177))
           clear HO_3;clear HO_4;clear BK168;clear BK177;clear HB;have HO_3:=n0_;have HO_4:=n1_;have BK168:=n2_;have BK177:=n3_;have HB:=n4_;have BK183:=n5_;have GW183:=n6_;have GE183:=n7_;have NB168_183:=n8_;have NB183_168:=n9_;have NB177_183:=n10_;have NB183_177:=n11_;clear n0_ n1_ n2_ n3_ n4_ n5_ n6_ n7_ n8_ n9_ n10_ n11_;clear hb hbox hg;refine hK.out _ _ ⟨(blk_cell BK177.out 0).trans rfl,(blk_cell BK177.out 1).trans rfl,HS2_⟩ (fun hHeld => ?_)
           clear hK K;refine norm_ (a':=?_) ?_ ?_
           rotate_left
           ·show Act.put _ (some 12) _ = _
            simp only[p0,p1,p2,p3,p4,p5];rfl
           refine one_ (i:=5) (N:=some 85) #[Y,Y,Y,Y,Y,Y,Z,Z,Z,Z,Y,Z,Z,Z] rfl rfl (one_of HT_.out (by kernel_rfl)) (by decide) (fun K hK => ?_)
           refine goes_ Try.func43 (by kernel_rfl) rfl #[.agg #[.string x178000_2,.int .i64 x178001_2],.int .i64 (rd t163 x10_2)] (by rfl) rfl rfl (by (try simp only [List.map_toArray,List.map_cons,List.map_nil]);first|done|rfl|(simp only [List.length_drop,List.length_take];rfl)) ?_
           with_reducible refine (impl_TakeBits.calls k2 x178000_2 x178001_2 (rd t163 x10_2) t179 t180 t181 true _ A70.out).mono ?_
           rintro e w76 ⟨rfl,hb⟩
           have HS2_:=(hb.cell (World.block_lt_of_cell? _ _ (hHeld.2.2))).trans (hHeld.2.2)
           refine ⟨_,rfl,?_⟩
           have n0_:=AM (RB (by (with_reducible repeat (first|apply Ra|apply Rn|apply Rd));exact HO_3.out) hb)
           have n1_:=AM (RB (by (with_reducible repeat (first|apply Ra|apply Rn|apply Rd));exact HO_4.out) hb)
           have n2_:=AM (bB (g:=gb168) (o:=.cells #[.string x169000_1,.int .i64 x169001_1] 50 (0,0)) (by (with_reducible repeat (first|refine bN ?_ _|refine bD ?_|refine bA ?_ _));exact BK168.out) hb)
           have n3_:=AM (bB (g:=gb177) (o:=.cells #[.string x178000_2,.int .i64 x178001_2] 61 (0,0)) (by (with_reducible repeat (first|refine bN ?_ _|refine bD ?_|refine bA ?_ _));exact BK177.out) hb)
           have n4_:=AM (bB (g:=gb183) (o:=.cells #[.string (⟨#[]⟩ : ByteArray),.int .i64 0] 61 (0,0)) (by (with_reducible repeat (first|refine bN ?_ _|refine bD ?_|refine bA ?_ _));exact BK183.out) hb)
           have n5_:=AM (below_step (by repeat (first|(with_reducible first|exact HB.out|apply wA|apply wN|apply wD|refine wS ?_ GE168.out|refine wS ?_ GE177.out|refine wS ?_ GE183.out)|exact HB.out)) hb)
           clear HO_3;clear HO_4;clear BK168;clear BK177;clear BK183;clear HB;have HO_3:=n0_;have HO_4:=n1_;have BK168:=n2_;have BK177:=n3_;have BK183:=n4_;have HB:=n5_;clear n0_ n1_ n2_ n3_ n4_ n5_;(try clear hb);(try clear hb2);(try clear hk);(try clear hi);refine hK.out _ _ ⟨(blk_cell BK177.out 0).trans rfl,(blk_cell BK177.out 1).trans rfl,HS2_⟩ (fun hHeld => ?_)
           clear hK K;refine norm_ (a':=?_) ?_ ?_
           rotate_left
           ·show Act.put _ (some 85) _ = _
            simp only[p0,p1,p2,p3,p4,p5];rfl
           refine pure_ (i:=6) (N:=some 79) (v:=?_) (a':=?_) #[Y,Y,Y,Y,Y,Y,Y,Z,Z,Z,Y,Z,Z,Z] rfl rfl (any_of HT_.out (by kernel_rfl)) (fun _ _ _ h => h) (Or.inl ⟨by rfl,?_⟩) ?_ ?_
           rotate_left
           ·intro w'
            go_simp
            with_reducible rfl
           rotate_left
           ·simp only[p0,p1,p2,p3,p4,p5];rfl
           refine pure_ (i:=7) (N:=some 86) (v:=?_) (a':=?_) #[Y,Y,Y,Y,Y,Y,Y,Y,Z,Z,Y,Z,Z,Z] rfl rfl (any_of HT_.out (by kernel_rfl)) (fun _ _ _ h => h) (Or.inl ⟨by rfl,?_⟩) ?_ ?_
           rotate_left
           ·intro w'
            go_simp
            with_reducible rfl
           rotate_left
           ·simp only[p0,p1,p2,p3,p4,p5];rfl
           refine pure_ (i:=8) (N:=some 87) (v:=?_) (a':=?_) #[Y,Y,Y,Y,Y,Y,Y,Y,Y,Z,Y,Z,Z,Z] rfl rfl (any_of HT_.out (by kernel_rfl)) (fun _ _ _ h => h) (Or.inl ⟨by rfl,?_⟩) ?_ ?_
           rotate_left
           ·intro w'
            go_simp
            with_reducible rfl
           rotate_left
           ·simp only[p0,p1,p2,p3,p4,p5];rfl
           refine pure_ (i:=9) (N:=some 88) (v:=?_) (a':=?_) #[Y,Y,Y,Y,Y,Y,Y,Y,Y,Y,Y,Z,Z,Z] rfl rfl (any_of HT_.out (by kernel_rfl)) (fun _ _ _ h => h) (Or.inl ⟨by rfl,?_⟩) ?_ ?_
           rotate_left
           ·intro w'
            go_simp
            with_reducible rfl
           rotate_left
           ·simp only[p0,p1,p2,p3,p4,p5];rfl
           exact norm_ (by simp only[putAll,p0,p1,p2,p3]) (hCont (gb183) _ ⟨hHeld,(by (with_reducible repeat (first|apply Ra|apply Rn|apply Rd));exact HO_3.out),(by (with_reducible repeat (first|apply Ra|apply Rn|apply Rd));exact HO_4.out),(by (with_reducible repeat (first|refine bN ?_ _|refine bD ?_|refine bA ?_ _));exact BK168.out),(by (with_reducible repeat (first|refine bN ?_ _|refine bD ?_|refine bA ?_ _));exact BK177.out),(by (with_reducible repeat (first|refine bN ?_ _|refine bD ?_|refine bA ?_ _));exact BK183.out),GW183.out,GE183.out,NB168_183.out,NB183_168.out,NB177_183.out,NB183_177.out,(by repeat (first|(with_reducible first|exact HB.out|apply wA|apply wN|apply wD|refine wS ?_ GE168.out|refine wS ?_ GE177.out|refine wS ?_ GE183.out)|exact HB.out))⟩)
          rintro gb183 w77 ⟨hS_,h0_,h1_,h2_,h3_,h4_,h5_,h6_,h7_,h8_,h9_,h10_,h11_⟩
          have n0_ : Aside0 (Kd.R (Kd.int .i64) 3 w77 w.heap.size (fun k_ => some k_ ≠ (.slice (some ad178) t163.length co74 : Value).ownBlock) (.slice Ao62 t162.length co62) t162):=⟨h0_⟩
          have n1_ : Aside0 (Kd.R (Kd.int .i64) 3 w77 w.heap.size (fun k_ => some k_ ≠ (.slice Ao62 t162.length co62 : Value).ownBlock) (.slice (some ad178) t163.length co74) t163):=⟨h1_⟩
          have n2_ : Aside0 (w77.heap[gb168]? = some (.cells #[.string x169000_1,.int .i64 x169001_1] 50 (0,0))):=⟨h2_⟩
          have n3_ : Aside0 (w77.heap[gb177]? = some (.cells #[.string x178000_2,.int .i64 x178001_2] 61 (0,0))):=⟨h3_⟩
          have n4_ : Aside0 (w77.heap[gb183]? = some (.cells #[.string (⟨#[]⟩ : ByteArray),.int .i64 0] 61 (0,0))):=⟨h4_⟩
          have n5_ : Aside0 (w.heap.size ≤ gb183):=⟨h5_⟩
          have n6_ : Aside0 (w.heap.size ≤ gb183):=⟨h6_⟩
          have n7_ : Aside0 (gb168 ≠ gb183):=⟨h7_⟩
          have n8_ : Aside0 (gb183 ≠ gb168):=⟨h8_⟩
          have n9_ : Aside0 (gb177 ≠ gb183):=⟨h9_⟩
          have n10_ : Aside0 (gb183 ≠ gb177):=⟨h10_⟩
          have n11_ : Aside0 (Below w.heap.size w w77):=⟨h11_⟩
          clear HO_3;clear HO_4;clear BK168;clear BK177;clear HB;clear h0_ h1_ h2_ h3_ h4_ h5_ h6_ h7_ h8_ h9_ h10_ h11_;have HO_3:=n0_;have HO_4:=n1_;have BK168:=n2_;have BK177:=n3_;have BK183:=n4_;have GW183:=n5_;have GE183:=n6_;have NB168_183:=n7_;have NB183_168:=n8_;have NB177_183:=n9_;have NB183_177:=n10_;have HB:=n11_;clear n0_ n1_ n2_ n3_ n4_ n5_ n6_ n7_ n8_ n9_ n10_ n11_;have hHeld : w77.cell? ⟨gb177,0,none⟩ = some (.string x178000_2) ∧ w77.cell? ⟨gb177,1,none⟩ = some (.int .i64 x178001_2) ∧ w77.cell? (ad178.add (x10_2).toNat) = some (.int .i64 (rd t163 x10_2)):=hS_
          refine norm_ (a':=?_) ?_ ?_
          rotate_left
          ·simp only[putAll,p0,p1,p2,p3]
           rfl
          refine pure_ (i:=11) (N:=some 11) (v:=?_) (a':=?_) #[Y,Y,Y,Y,Y,Y,Y,Y,Y,Y,Y,Y,Z,Z] rfl rfl (any_of HT_.out (by kernel_rfl)) (fun _ _ _ h => h) (Or.inl ⟨by rfl,?_⟩) ?_ ?_
          rotate_left
          ·intro w'
           go_simp
           with_reducible rfl
          rotate_left
          ·simp only[p0,p1,p2,p3,p4,p5];rfl
          refine one_ (i:=12) (N:=none) #[Y,Y,Y,Y,Y,Y,Y,Y,Y,Y,Y,Y,Y,Z] rfl rfl (one_of HT_.out (by kernel_rfl)) (by decide) (fun K hK => ?_)
          have hs78 : w77.cell? ⟨gb183,0,none⟩ = some (.string (⟨#[]⟩ : ByteArray)):=(blk_cell BK183.out 0).trans rfl
          have hfs78:=blk_frozen BK183.out 0
          have hns78_0:=NB168_183.out
          have hns78_1:=NB177_183.out
          have hms78_0:=NB183_168.out
          have hms78_1:=NB183_177.out
          have hs79 : w77.cell? ⟨gb183,1,none⟩ = some (.int .i64 0):=(blk_cell BK183.out 1).trans rfl
          have hfs79:=blk_frozen BK183.out 1
          have hns79_0:=NB168_183.out
          have hns79_1:=NB177_183.out
          have hms79_0:=NB183_168.out
          have hms79_1:=NB183_177.out
          refine skip_ (w1:=?_) (by rfl) rfl ?_ ?_
          rotate_left
          ·go_simp
           rfl
          refine hK.out _ _ ⟨((cell_far (p:=⟨gb183,_,none⟩) NB177_183.out _).trans (((cell_far (p:=⟨gb183,_,none⟩) NB177_183.out _).trans (hHeld.1)))),((cell_far (p:=⟨gb183,_,none⟩) NB177_183.out _).trans (((cell_far (p:=⟨gb183,_,none⟩) NB177_183.out _).trans (hHeld.2.1)))),((cell_far (p:=⟨gb183,_,none⟩) (by first|exact Kd.own_blk (Kd.R_ne HO_4.out BK183.out (by decide))|(rw [add_block];exact Kd.own_blk (Kd.R_ne HO_4.out BK183.out (by decide)))|(show (Addr.add _ _).block ≠ _;rw [add_block];exact Kd.own_blk (Kd.R_ne HO_4.out BK183.out (by decide)))|(dsimp only;exact Kd.own_blk (Kd.R_ne HO_4.out BK183.out (by decide)))) _).trans (((cell_far (p:=⟨gb183,_,none⟩) (by first|exact Kd.own_blk (Kd.R_ne HO_4.out BK183.out (by decide))|(rw [add_block];exact Kd.own_blk (Kd.R_ne HO_4.out BK183.out (by decide)))|(show (Addr.add _ _).block ≠ _;rw [add_block];exact Kd.own_blk (Kd.R_ne HO_4.out BK183.out (by decide)))|(dsimp only;exact Kd.own_blk (Kd.R_ne HO_4.out BK183.out (by decide)))) _).trans (hHeld.2.2))))⟩ (fun hHeld => ?_)
          clear hK K;refine pure_ (i:=13) (N:=some 13) (v:=?_) (a':=?_) #[Y,Y,Y,Y,Y,Y,Y,Y,Y,Y,Y,Y,Y,Y] rfl rfl (any_of HT_.out (by kernel_rfl)) (fun _ _ _ h => h) (Or.inl ⟨by rfl,?_⟩) ?_ ?_
          rotate_left
          ·intro w'
           go_simp
           with_reducible rfl
          rotate_left
          ·simp only[p0,p1,p2,p3,p4,p5];rfl
          refine done_ (done_of HT_.out (by kernel_rfl)) ?_
          have p184 : 0 ≤ (x10_2 : Int):=of_decide_eq_true (by first|(with_reducible assumption)|assumption)
          have q184 : x10_2 < (t162.length : Int):=of_decide_eq_true (by first|(with_reducible assumption)|assumption)
          obtain ⟨ad184,e184,hx184_0⟩:=Kd.at_int (Kd.R_reads' HO_3.out).2.2 x10_2 p184 q184
          cases e184
          have hn184_0 : ad184.block ≠ gb183:=Kd.own_blk (Kd.R_ne HO_3.out BK183.out (by decide))
          have hn184_1 : ad184.block ≠ gb183:=Kd.own_blk (Kd.R_ne HO_3.out BK183.out (by decide))
          replace hx184_0:=(cell_far (p:=⟨gb183,0,none⟩) (by first|(rw [add_block];exact hn184_0)|(show (Addr.add _ _).block ≠ _;rw [add_block];exact hn184_0)|exact hn184_0) (.string t180)).trans hx184_0
          replace hx184_0:=(cell_far (p:=⟨gb183,1,none⟩) (by first|(rw [add_block];exact hn184_1)|(show (Addr.add _ _).block ≠ _;rw [add_block];exact hn184_1)|exact hn184_1) (.int .i64 t181)).trans hx184_0
          clear hn184_0;clear hn184_1;replace p184:=eq_true p184
          replace q184:=eq_true q184
          have hnb80:=NB183_168.out
          have hnc80:=NB168_183.out
          have hnb81:=NB183_177.out
          have hnc81:=NB177_183.out
          have hcz82_0 : w77.cell? ⟨gb183,0,none⟩ = some (.string (⟨#[]⟩ : ByteArray)):=(blk_cell BK183.out 0).trans rfl
          have hcz82_1 : w77.cell? ⟨gb183,1,none⟩ = some (.int .i64 0):=(blk_cell BK183.out 1).trans rfl
          have hfz82_0:=blk_frozen BK183.out 0
          have hfz82_1:=blk_frozen BK183.out 1
          have hnb83:=NB177_168.out
          have hnc83:=NB168_177.out
          have hcz84_0 : w77.cell? ⟨gb177,0,none⟩ = some (.string x178000_2):=(blk_cell BK177.out 0).trans rfl
          have hcz84_1 : w77.cell? ⟨gb177,1,none⟩ = some (.int .i64 x178001_2):=(blk_cell BK177.out 1).trans rfl
          have hfz84_0:=blk_frozen BK177.out 0
          have hfz84_1:=blk_frozen BK177.out 1
          try go_wp2
          go_roundg k2
          case measure => have:=HK1.out;have:=HK2.out;omega
          case rel => exact ⟨(wrap64 (x10_2 + 1)),(t180),(t181),(by first|rfl|(simp;done)|(simp [*];done)),H',⟨by have:=HK1.out;have:=HK2.out;omega⟩,⟨by (with_reducible repeat (first|apply Ra|apply Rn|apply Rd));exact Kd.R_mono (Kd.R_far (p:=⟨gb177,1,none⟩) (Kd.R_far (p:=⟨gb177,0,none⟩) (Kd.R_far (p:=⟨gb183,1,none⟩) (Kd.R_far (p:=⟨gb183,0,none⟩) (Kd.R_types (Kd.R_types HO_3.out BK183.out (by decide)) BK177.out (by decide)) (fun _ hk => hk.1.2) (.string t180)) (fun _ hk => hk.1.2) (.int .i64 t181)) (fun _ hk => hk.2) (.string t180)) (fun _ hk => hk.2) (.int .i64 t181)) (fun _ hk => hk.1.1)⟩,⟨by (with_reducible repeat (first|apply Ra|apply Rn|apply Rd));exact Kd.R_mono (Kd.R_far (p:=⟨gb177,1,none⟩) (Kd.R_far (p:=⟨gb177,0,none⟩) (Kd.R_far (p:=⟨gb183,1,none⟩) (Kd.R_far (p:=⟨gb183,0,none⟩) (Kd.R_types (Kd.R_types HO_4.out BK183.out (by decide)) BK177.out (by decide)) (fun _ hk => hk.1.2) (.string t180)) (fun _ hk => hk.1.2) (.int .i64 t181)) (fun _ hk => hk.2) (.string t180)) (fun _ hk => hk.2) (.int .i64 t181)) (fun _ hk => hk.1.1)⟩,⟨by (with_reducible repeat (first|refine bN ?_ _|refine bD ?_|refine bA ?_ _));refine blk_far ?_ NB168_177.out _;(with_reducible repeat (first|refine bN ?_ _|refine bD ?_|refine bA ?_ _));refine blk_far ?_ NB168_177.out _;(with_reducible repeat (first|refine bN ?_ _|refine bD ?_|refine bA ?_ _));refine blk_far ?_ NB168_183.out _;(with_reducible repeat (first|refine bN ?_ _|refine bD ?_|refine bA ?_ _));refine blk_far ?_ NB168_183.out _;(with_reducible repeat (first|refine bN ?_ _|refine bD ?_|refine bA ?_ _));exact BK168.out⟩,⟨by (with_reducible repeat (first|refine bN ?_ _|refine bD ?_|refine bA ?_ _));refine blk_put (cs:=#[.string t180,.int .i64 x178001_2]) ?_ 1 _ rfl;(with_reducible repeat (first|refine bN ?_ _|refine bD ?_|refine bA ?_ _));refine blk_put (cs:=#[.string x178000_2,.int .i64 x178001_2]) ?_ 0 _ rfl;(with_reducible repeat (first|refine bN ?_ _|refine bD ?_|refine bA ?_ _));refine blk_far ?_ NB177_183.out _;(with_reducible repeat (first|refine bN ?_ _|refine bD ?_|refine bA ?_ _));refine blk_far ?_ NB177_183.out _;(with_reducible repeat (first|refine bN ?_ _|refine bD ?_|refine bA ?_ _));exact BK177.out⟩,⟨by repeat (first|(with_reducible first|exact HB.out|apply wA|apply wN|apply wD|refine wS ?_ GE168.out|refine wS ?_ GE177.out|refine wS ?_ GE183.out)|exact HB.out)⟩⟩
         rw [if_neg c72] at H
         have c72b0 : (t179 == (rd t162 x10_2)) = false:=beq_eq_false_iff_ne.mpr c72
         have c72b1 : (t179 != (rd t162 x10_2)) = true:=bne_iff_ne.mpr c72
         obtain rfl:=Option.some.inj H
         try go_wp2
         have n0_:=AM (Rd HO_3.out)
         have n1_:=AM (Rd HO_4.out)
         have n2_:=AM (bD BK168.out)
         have n3_:=AM (bD BK177.out)
         have n4_:=AM (wD HB.out)
         clear HO_3;clear HO_4;clear BK168;clear BK177;clear HB;have HO_3:=n0_;have HO_4:=n1_;have BK168:=n2_;have BK177:=n3_;have HB:=n4_;clear n0_ n1_ n2_ n3_ n4_;obtain ⟨Ao86,co86,eo86⟩:=Kd.R_slice HO_4.out
         (first|subst eo86|(injection eo86 with f1_ f2_ f3_;have f4_:=f1_.symm;have f5_:=f3_.symm;clear f1_ f2_ f3_;subst f4_;subst f5_))
         have p178 : 0 ≤ (x10_2 : Int):=of_decide_eq_true (by first|(with_reducible assumption)|assumption)
         have q178 : x10_2 < (t163.length : Int):=of_decide_eq_true (by first|(with_reducible assumption)|assumption)
         obtain ⟨ad178,e178,hx178_0⟩:=Kd.at_int (Kd.R_reads' HO_4.out).2.2 x10_2 p178 q178
         cases e178
         replace p178:=eq_true p178
         replace q178:=eq_true q178
         refine start_ (n:=14) (S:=fun w' => w'.cell? ⟨gb177,0,none⟩ = some (.string x178000_2) ∧ w'.cell? ⟨gb177,1,none⟩ = some (.int .i64 x178001_2) ∧ w'.cell? (ad178.add (x10_2).toNat) = some (.int .i64 (rd t163 x10_2))) (ds:=[]) #[Z,Z,Z,Z,Z,Z,Z,Z,Z,Z,Z,Z,Z,Z] (by kernel_rfl) rfl rfl ⟨(blk_cell BK177.out 0).trans rfl,(blk_cell BK177.out 1).trans rfl,hx178_0⟩ (fun hHeld => ?_);refine with_tabW laws_FnBits.tab16 laws_FnBits.bits16 (fun HT_ HW_ => ?_)
         generalize wr.drew = w85 at HO_3 HO_4 BK168 BK177 HB hx178_0 hHeld ⊢
         refine pure_ (i:=1) (N:=some 81) (v:=?_) (a':=?_) #[Z,Y,Z,Z,Z,Z,Z,Z,Z,Z,Z,Z,Z,Z] rfl rfl (any_of HT_.out (by kernel_rfl)) (fun _ _ _ h => h) (Or.inl ⟨by rfl,?_⟩) ?_ ?_
         rotate_left
         ·intro w'
          go_simp
          with_reducible rfl
         rotate_left
         ·simp only[p0,p1,p2,p3,p4,p5];rfl
         refine pure_ (i:=2) (N:=some 82) (v:=?_) (a':=?_) #[Z,Y,Y,Z,Z,Z,Z,Z,Z,Z,Z,Z,Z,Z] rfl rfl (any_of HT_.out (by kernel_rfl)) (fun _ _ _ h => h) (Or.inl ⟨by rfl,?_⟩) ?_ ?_
         rotate_left
         ·intro w'
          go_simp
          with_reducible rfl
         rotate_left
         ·simp only[p0,p1,p2,p3,p4,p5];rfl
         refine pure_ (i:=3) (N:=some 83) (v:=?_) (a':=?_) #[Z,Y,Y,Y,Z,Z,Z,Z,Z,Z,Z,Z,Z,Z] rfl rfl (any_of HT_.out (by kernel_rfl)) (fun _ _ _ h => h) (Or.inl ⟨by rfl,?_⟩) ?_ ?_
         rotate_left
         ·intro w'
          go_simp
          with_reducible rfl
         rotate_left
         ·simp only[p0,p1,p2,p3,p4,p5];rfl
         refine take_ (i:=0) (N:=some 80) (v:=?_) (a':=?_) #[Y,Y,Y,Y,Z,Z,Z,Z,Z,Z,Z,Z,Z,Z] rfl rfl (take_ofW HT_.out HW_.out (by kernel_rfl)) (fun _ _ _ h => h) (Or.inl ⟨by rfl,?_⟩) hHeld ?_ ?_
         rotate_left
         ·rintro w' ⟨s0,s1,s2⟩
          go_simp
          with_reducible rfl
         rotate_left
         ·simp only[p0,p1,p2,p3,p4,p5];rfl
         refine take_ (i:=4) (N:=some 84) (v:=?_) (a':=?_) #[Y,Y,Y,Y,Y,Z,Z,Z,Z,Z,Z,Z,Z,Z] rfl rfl (take_ofW HT_.out HW_.out (by kernel_rfl)) (fun _ _ _ h => h) (Or.inl ⟨by rfl,?_⟩) hHeld ?_ ?_
         rotate_left
         ·rintro w' ⟨s0,s1,s2⟩
          go_simp
          with_reducible rfl
         rotate_left
         ·simp only[p0,p1,p2,p3,p4,p5];rfl
         refine join_ (σ:=Nat) 3 #[Y,Y,Y,Y,Y,Y,Y,Y,Y,Y,Y,Z,Z,Z] (fun s_ => [(85,.tuple #[.int .i64 t179,.agg #[.string t180,.int .i64 t181],.bool true]),(12,.pointer (some ⟨s_,0,none⟩)),(79,.tuple #[.int .i64 t179,.agg #[.string t180,.int .i64 t181],.bool true]),(86,.int .i64 t179),(87,.agg #[.string t180,.int .i64 t181]),(88,.bool true)]) (fun s_ w' => (w'.cell? ⟨gb177,0,none⟩ = some (.string x178000_2) ∧ w'.cell? ⟨gb177,1,none⟩ = some (.int .i64 x178001_2) ∧ w'.cell? (ad178.add (x10_2).toNat) = some (.int .i64 (rd t163 x10_2))) ∧ (Kd.R (Kd.int .i64) 3 w' w.heap.size (fun k_ => some k_ ≠ (.slice (some ad178) t163.length co86 : Value).ownBlock) (.slice Ao62 t162.length co62) t162) ∧ (Kd.R (Kd.int .i64) 3 w' w.heap.size (fun k_ => some k_ ≠ (.slice Ao62 t162.length co62 : Value).ownBlock) (.slice (some ad178) t163.length co86) t163) ∧ (w'.heap[gb168]? = some (.cells #[.string x169000_1,.int .i64 x169001_1] 50 (0,0))) ∧ (w'.heap[gb177]? = some (.cells #[.string x178000_2,.int .i64 x178001_2] 61 (0,0))) ∧ (w'.heap[s_]? = some (.cells #[.string (⟨#[]⟩ : ByteArray),.int .i64 0] 61 (0,0))) ∧ (w.heap.size ≤ s_) ∧ (w.heap.size ≤ s_) ∧ (gb168 ≠ s_) ∧ (s_ ≠ gb168) ∧ (gb177 ≠ s_) ∧ (s_ ≠ gb177) ∧ (Below w.heap.size w w')) ?_ ?_
         rotate_left
         ·intro hCont
          refine two_ (i:=5) (j:=10) (Ni:=some 85) (Nj:=some 12) #[Y,Y,Y,Y,Y,Y,Z,Z,Z,Z,Z,Z,Z,Z] #[Y,Y,Y,Y,Y,Z,Z,Z,Z,Z,Y,Z,Z,Z] rfl rfl rfl rfl (two_of HT_.out (by kernel_rfl)) (by decide) (by decide) (fun K hK => ?_) (fun K hK => ?_)
          ·skip
           refine goes_ Try.func43 (by kernel_rfl) rfl #[.agg #[.string x178000_2,.int .i64 x178001_2],.int .i64 (rd t163 x10_2)] (by rfl) rfl rfl (by (try simp only [List.map_toArray,List.map_cons,List.map_nil]);first|done|rfl|(simp only [List.length_drop,List.length_take];rfl)) ?_
           with_reducible refine (impl_TakeBits.calls k2 x178000_2 x178001_2 (rd t163 x10_2) t179 t180 t181 true _ A70.out).mono ?_
           rintro e w87 ⟨rfl,hb⟩
           have HS2_:=(hb.cell (World.block_lt_of_cell? _ _ (hHeld.2.2))).trans (hHeld.2.2)
           refine ⟨_,rfl,?_⟩
           have n0_:=AM (RB (by (with_reducible repeat (first|apply Ra|apply Rn|apply Rd));exact HO_3.out) hb)
           have n1_:=AM (RB (by (with_reducible repeat (first|apply Ra|apply Rn|apply Rd));exact HO_4.out) hb)
           have n2_:=AM (bB (g:=gb168) (o:=.cells #[.string x169000_1,.int .i64 x169001_1] 50 (0,0)) (by (with_reducible repeat (first|refine bN ?_ _|refine bD ?_|refine bA ?_ _));exact BK168.out) hb)
           have n3_:=AM (bB (g:=gb177) (o:=.cells #[.string x178000_2,.int .i64 x178001_2] 61 (0,0)) (by (with_reducible repeat (first|refine bN ?_ _|refine bD ?_|refine bA ?_ _));exact BK177.out) hb)
           have n4_:=AM (below_step (by repeat (first|(with_reducible first|exact HB.out|apply wA|apply wN|apply wD|refine wS ?_ GE168.out|refine wS ?_ GE177.out)|exact HB.out)) hb)
           clear HO_3;clear HO_4;clear BK168;clear BK177;clear HB;have HO_3:=n0_;have HO_4:=n1_;have BK168:=n2_;have BK177:=n3_;have HB:=n4_;clear n0_ n1_ n2_ n3_ n4_;(try clear hb);(try clear hb2);(try clear hk);(try clear hi);refine hK.out _ _ ⟨(blk_cell BK177.out 0).trans rfl,(blk_cell BK177.out 1).trans rfl,HS2_⟩ (fun hHeld => ?_)
           clear hK K;refine norm_ (a':=?_) ?_ ?_
           rotate_left
           ·show Act.put _ (some 85) _ = _
            simp only[p0,p1,p2,p3,p4,p5];rfl
           refine pure_ (i:=6) (N:=some 79) (v:=?_) (a':=?_) #[Y,Y,Y,Y,Y,Y,Y,Z,Z,Z,Z,Z,Z,Z] rfl rfl (any_of HT_.out (by kernel_rfl)) (fun _ _ _ h => h) (Or.inl ⟨by rfl,?_⟩) ?_ ?_
           rotate_left
           ·intro w'
            go_simp
            with_reducible rfl
           rotate_left
           ·simp only[p0,p1,p2,p3,p4,p5];rfl
           refine pure_ (i:=7) (N:=some 86) (v:=?_) (a':=?_) #[Y,Y,Y,Y,Y,Y,Y,Y,Z,Z,Z,Z,Z,Z] rfl rfl (any_of HT_.out (by kernel_rfl)) (fun _ _ _ h => h) (Or.inl ⟨by rfl,?_⟩) ?_ ?_
           rotate_left
           ·intro w'
            go_simp
            with_reducible rfl
           rotate_left
           ·simp only[p0,p1,p2,p3,p4,p5];rfl
           refine pure_ (i:=8) (N:=some 87) (v:=?_) (a':=?_) #[Y,Y,Y,Y,Y,Y,Y,Y,Y,Z,Z,Z,Z,Z] rfl rfl (any_of HT_.out (by kernel_rfl)) (fun _ _ _ h => h) (Or.inl ⟨by rfl,?_⟩) ?_ ?_
           rotate_left
           ·intro w'
            go_simp
            with_reducible rfl
           rotate_left
           ·simp only[p0,p1,p2,p3,p4,p5];rfl
           refine pure_ (i:=9) (N:=some 88) (v:=?_) (a':=?_) #[Y,Y,Y,Y,Y,Y,Y,Y,Y,Y,Z,Z,Z,Z] rfl rfl (any_of HT_.out (by kernel_rfl)) (fun _ _ _ h => h) (Or.inl ⟨by rfl,?_⟩) ?_ ?_
           rotate_left
           ·intro w'
            go_simp
            with_reducible rfl
           rotate_left
           ·simp only[p0,p1,p2,p3,p4,p5];rfl
           refine one_ (i:=10) (N:=some 12) #[Y,Y,Y,Y,Y,Y,Y,Y,Y,Y,Y,Z,Z,Z] rfl rfl (one_of HT_.out (by kernel_rfl)) (by decide) (fun K hK => ?_)
           refine box_step ?hg (N:=12) ?hd (cs:=#[.string (⟨#[]⟩ : ByteArray),.int .i64 0]) (t:=61) ?hr ?_;(case hd => rfl);(case hg => rfl);(case hr => first|(go_simp;done)|(go_simp;rfl))
           intro gb183 hg w88 hbox hb
           have HS2_:=(hb.cell (World.block_lt_of_cell? _ _ (hHeld.2.2))).trans (hHeld.2.2)
           have n0_:=AM (RB (by (with_reducible repeat (first|apply Ra|apply Rn|apply Rd));exact HO_3.out) hb)
           have n1_:=AM (RB (by (with_reducible repeat (first|apply Ra|apply Rn|apply Rd));exact HO_4.out) hb)
           have n2_:=AM (bB (g:=gb168) (o:=.cells #[.string x169000_1,.int .i64 x169001_1] 50 (0,0)) (by (with_reducible repeat (first|refine bN ?_ _|refine bD ?_|refine bA ?_ _));exact BK168.out) hb)
           have n3_:=AM (bB (g:=gb177) (o:=.cells #[.string x178000_2,.int .i64 x178001_2] 61 (0,0)) (by (with_reducible repeat (first|refine bN ?_ _|refine bD ?_|refine bA ?_ _));exact BK177.out) hb)
           have n4_:=AM (below_step (by repeat (first|(with_reducible first|exact HB.out|apply wA|apply wN|apply wD|refine wS ?_ GE168.out|refine wS ?_ GE177.out)|exact HB.out)) hb)
           have n5_:=AM (hbox)
           have n6_:=AM ((by rw [hg];exact (below_size (by repeat (first|(with_reducible first|exact HB.out|apply wA|apply wN|apply wD|refine wS ?_ GE168.out|refine wS ?_ GE177.out)|exact HB.out))) : w.heap.size ≤ gb183))
           have n7_:=AM ((by rw [hg];exact (below_size (by repeat (first|(with_reducible first|exact HB.out|apply wA|apply wN|apply wD|refine wS ?_ GE168.out|refine wS ?_ GE177.out)|exact HB.out))) : w.heap.size ≤ gb183))
           have n8_:=AM ((by rw [hg];exact Nat.ne_of_lt (bL (g:=gb168) (o:=.cells #[.string x169000_1,.int .i64 x169001_1] 50 (0,0)) (by (with_reducible repeat (first|refine bN ?_ _|refine bD ?_|refine bA ?_ _));exact BK168.out)) : gb168 ≠ gb183))
           have n9_:=AM ((by rw [hg];exact Nat.ne_of_gt (bL (g:=gb168) (o:=.cells #[.string x169000_1,.int .i64 x169001_1] 50 (0,0)) (by (with_reducible repeat (first|refine bN ?_ _|refine bD ?_|refine bA ?_ _));exact BK168.out)) : gb183 ≠ gb168))
           have n10_:=AM ((by rw [hg];exact Nat.ne_of_lt (bL (g:=gb177) (o:=.cells #[.string x178000_2,.int .i64 x178001_2] 61 (0,0)) (by (with_reducible repeat (first|refine bN ?_ _|refine bD ?_|refine bA ?_ _));exact BK177.out)) : gb177 ≠ gb183))
           have n11_:=AM ((by rw [hg];exact Nat.ne_of_gt (bL (g:=gb177) (o:=.cells #[.string x178000_2,.int .i64 x178001_2] 61 (0,0)) (by (with_reducible repeat (first|refine bN ?_ _|refine bD ?_|refine bA ?_ _));exact BK177.out)) : gb183 ≠ gb177))
           clear HO_3;clear HO_4;clear BK168;clear BK177;clear HB;have HO_3:=n0_;have HO_4:=n1_;have BK168:=n2_;have BK177:=n3_;have HB:=n4_;have BK183:=n5_;have GW183:=n6_;have GE183:=n7_;have NB168_183:=n8_;have NB183_168:=n9_;have NB177_183:=n10_;have NB183_177:=n11_;clear n0_ n1_ n2_ n3_ n4_ n5_ n6_ n7_ n8_ n9_ n10_ n11_;clear hb hbox hg;refine hK.out _ _ ⟨(blk_cell BK177.out 0).trans rfl,(blk_cell BK177.out 1).trans rfl,HS2_⟩ (fun hHeld => ?_)
           clear hK K;refine norm_ (a':=?_) ?_ ?_
           rotate_left
           ·show Act.put _ (some 12) _ = _
            simp only[p0,p1,p2,p3,p4,p5];rfl
           exact norm_ (by simp only[putAll,p0,p1,p2,p3]) (hCont (gb183) _ ⟨hHeld,(by (with_reducible repeat (first|apply Ra|apply Rn|apply Rd));exact HO_3.out),(by (with_reducible repeat (first|apply Ra|apply Rn|apply Rd));exact HO_4.out),(by (with_reducible repeat (first|refine bN ?_ _|refine bD ?_|refine bA ?_ _));exact BK168.out),(by (with_reducible repeat (first|refine bN ?_ _|refine bD ?_|refine bA ?_ _));exact BK177.out),(by (with_reducible repeat (first|refine bN ?_ _|refine bD ?_|refine bA ?_ _));exact BK183.out),GW183.out,GE183.out,NB168_183.out,NB183_168.out,NB177_183.out,NB183_177.out,(by repeat (first|(with_reducible first|exact HB.out|apply wA|apply wN|apply wD|refine wS ?_ GE168.out|refine wS ?_ GE177.out|refine wS ?_ GE183.out)|exact HB.out))⟩)
          skip
          refine box_step ?hg (N:=12) ?hd (cs:=#[.string (⟨#[]⟩ : ByteArray),.int .i64 0]) (t:=61) ?hr ?_;(case hd => rfl);(case hg => rfl);(case hr => first|(go_simp;done)|(go_simp;rfl))
          intro gb183 hg w87 hbox hb
          have HS2_:=(hb.cell (World.block_lt_of_cell? _ _ (hHeld.2.2))).trans (hHeld.2.2)
          have n0_:=AM (RB (by (with_reducible repeat (first|apply Ra|apply Rn|apply Rd));exact HO_3.out) hb)
          have n1_:=AM (RB (by (with_reducible repeat (first|apply Ra|apply Rn|apply Rd));exact HO_4.out) hb)
          have n2_:=AM (bB (g:=gb168) (o:=.cells #[.string x169000_1,.int .i64 x169001_1] 50 (0,0)) (by (with_reducible repeat (first|refine bN ?_ _|refine bD ?_|refine bA ?_ _));exact BK168.out) hb)
          have n3_:=AM (bB (g:=gb177) (o:=.cells #[.string x178000_2,.int .i64 x178001_2] 61 (0,0)) (by (with_reducible repeat (first|refine bN ?_ _|refine bD ?_|refine bA ?_ _));exact BK177.out) hb)
          have n4_:=AM (below_step (by repeat (first|(with_reducible first|exact HB.out|apply wA|apply wN|apply wD|refine wS ?_ GE168.out|refine wS ?_ GE177.out)|exact HB.out)) hb)
          have n5_:=AM (hbox)
          have n6_:=AM ((by rw [hg];exact (below_size (by repeat (first|(with_reducible first|exact HB.out|apply wA|apply wN|apply wD|refine wS ?_ GE168.out|refine wS ?_ GE177.out)|exact HB.out))) : w.heap.size ≤ gb183))
          have n7_:=AM ((by rw [hg];exact (below_size (by repeat (first|(with_reducible first|exact HB.out|apply wA|apply wN|apply wD|refine wS ?_ GE168.out|refine wS ?_ GE177.out)|exact HB.out))) : w.heap.size ≤ gb183))
          have n8_:=AM ((by rw [hg];exact Nat.ne_of_lt (bL (g:=gb168) (o:=.cells #[.string x169000_1,.int .i64 x169001_1] 50 (0,0)) (by (with_reducible repeat (first|refine bN ?_ _|refine bD ?_|refine bA ?_ _));exact BK168.out)) : gb168 ≠ gb183))
          have n9_:=AM ((by rw [hg];exact Nat.ne_of_gt (bL (g:=gb168) (o:=.cells #[.string x169000_1,.int .i64 x169001_1] 50 (0,0)) (by (with_reducible repeat (first|refine bN ?_ _|refine bD ?_|refine bA ?_ _));exact BK168.out)) : gb183 ≠ gb168))
          have n10_:=AM ((by rw [hg];exact Nat.ne_of_lt (bL (g:=gb177) (o:=.cells #[.string x178000_2,.int .i64 x178001_2] 61 (0,0)) (by (with_reducible repeat (first|refine bN ?_ _|refine bD ?_|refine bA ?_ _));exact BK177.out)) : gb177 ≠ gb183))
          have n11_:=AM ((by rw [hg];exact Nat.ne_of_gt (bL (g:=gb177) (o:=.cells #[.string x178000_2,.int .i64 x178001_2] 61 (0,0)) (by (with_reducible repeat (first|refine bN ?_ _|refine bD ?_|refine bA ?_ _));exact BK177.out)) : gb183 ≠ gb177))
          clear HO_3;clear HO_4;clear BK168;clear BK177;clear HB;have HO_3:=n0_;have HO_4:=n1_;have BK168:=n2_;have BK177:=n3_;have HB:=n4_;have BK183:=n5_;have GW183:=n6_;have GE183:=n7_;have NB168_183:=n8_;have NB183_168:=n9_;have NB177_183:=n10_;have NB183_177:=n11_;clear n0_ n1_ n2_ n3_ n4_ n5_ n6_ n7_ n8_ n9_ n10_ n11_;clear hb hbox hg;refine hK.out _ _ ⟨(blk_cell BK177.out 0).trans rfl,(blk_cell BK177.out 1).trans rfl,HS2_⟩ (fun hHeld => ?_)
          clear hK K;refine norm_ (a':=?_) ?_ ?_
          rotate_left
          ·show Act.put _ (some 12) _ = _
           simp only[p0,p1,p2,p3,p4,p5];rfl
          refine one_ (i:=5) (N:=some 85) #[Y,Y,Y,Y,Y,Y,Z,Z,Z,Z,Y,Z,Z,Z] rfl rfl (one_of HT_.out (by kernel_rfl)) (by decide) (fun K hK => ?_)
          refine goes_ Try.func43 (by kernel_rfl) rfl #[.agg #[.string x178000_2,.int .i64 x178001_2],.int .i64 (rd t163 x10_2)] (by rfl) rfl rfl (by (try simp only [List.map_toArray,List.map_cons,List.map_nil]);first|done|rfl|(simp only [List.length_drop,List.length_take];rfl)) ?_
          with_reducible refine (impl_TakeBits.calls k2 x178000_2 x178001_2 (rd t163 x10_2) t179 t180 t181 true _ A70.out).mono ?_
          rintro e w88 ⟨rfl,hb⟩
          have HS2_:=(hb.cell (World.block_lt_of_cell? _ _ (hHeld.2.2))).trans (hHeld.2.2)
          refine ⟨_,rfl,?_⟩
          have n0_:=AM (RB (by (with_reducible repeat (first|apply Ra|apply Rn|apply Rd));exact HO_3.out) hb)
          have n1_:=AM (RB (by (with_reducible repeat (first|apply Ra|apply Rn|apply Rd));exact HO_4.out) hb)
          have n2_:=AM (bB (g:=gb168) (o:=.cells #[.string x169000_1,.int .i64 x169001_1] 50 (0,0)) (by (with_reducible repeat (first|refine bN ?_ _|refine bD ?_|refine bA ?_ _));exact BK168.out) hb)
          have n3_:=AM (bB (g:=gb177) (o:=.cells #[.string x178000_2,.int .i64 x178001_2] 61 (0,0)) (by (with_reducible repeat (first|refine bN ?_ _|refine bD ?_|refine bA ?_ _));exact BK177.out) hb)
          have n4_:=AM (bB (g:=gb183) (o:=.cells #[.string (⟨#[]⟩ : ByteArray),.int .i64 0] 61 (0,0)) (by (with_reducible repeat (first|refine bN ?_ _|refine bD ?_|refine bA ?_ _));exact BK183.out) hb)
          have n5_:=AM (below_step (by repeat (first|(with_reducible first|exact HB.out|apply wA|apply wN|apply wD|refine wS ?_ GE168.out|refine wS ?_ GE177.out|refine wS ?_ GE183.out)|exact HB.out)) hb)
          clear HO_3;clear HO_4;clear BK168;clear BK177;clear BK183;clear HB;have HO_3:=n0_;have HO_4:=n1_;have BK168:=n2_;have BK177:=n3_;have BK183:=n4_;have HB:=n5_;clear n0_ n1_ n2_ n3_ n4_ n5_;(try clear hb);(try clear hb2);(try clear hk);(try clear hi);refine hK.out _ _ ⟨(blk_cell BK177.out 0).trans rfl,(blk_cell BK177.out 1).trans rfl,HS2_⟩ (fun hHeld => ?_)
          clear hK K;refine norm_ (a':=?_) ?_ ?_
          rotate_left
          ·show Act.put _ (some 85) _ = _
           simp only[p0,p1,p2,p3,p4,p5];rfl
          refine pure_ (i:=6) (N:=some 79) (v:=?_) (a':=?_) #[Y,Y,Y,Y,Y,Y,Y,Z,Z,Z,Y,Z,Z,Z] rfl rfl (any_of HT_.out (by kernel_rfl)) (fun _ _ _ h => h) (Or.inl ⟨by rfl,?_⟩) ?_ ?_
          rotate_left
          ·intro w'
           go_simp
           with_reducible rfl
          rotate_left
          ·simp only[p0,p1,p2,p3,p4,p5];rfl
          refine pure_ (i:=7) (N:=some 86) (v:=?_) (a':=?_) #[Y,Y,Y,Y,Y,Y,Y,Y,Z,Z,Y,Z,Z,Z] rfl rfl (any_of HT_.out (by kernel_rfl)) (fun _ _ _ h => h) (Or.inl ⟨by rfl,?_⟩) ?_ ?_
          rotate_left
          ·intro w'
           go_simp
           with_reducible rfl
          rotate_left
          ·simp only[p0,p1,p2,p3,p4,p5];rfl
          refine pure_ (i:=8) (N:=some 87) (v:=?_) (a':=?_) #[Y,Y,Y,Y,Y,Y,Y,Y,Y,Z,Y,Z,Z,Z] rfl rfl (any_of HT_.out (by kernel_rfl)) (fun _ _ _ h => h) (Or.inl ⟨by rfl,?_⟩) ?_ ?_
          rotate_left
          ·intro w'
           go_simp
           with_reducible rfl
          rotate_left
          ·simp only[p0,p1,p2,p3,p4,p5];rfl
          refine pure_ (i:=9) (N:=some 88) (v:=?_) (a':=?_) #[Y,Y,Y,Y,Y,Y,Y,Y,Y,Y,Y,Z,Z,Z] rfl rfl (any_of HT_.out (by kernel_rfl)) (fun _ _ _ h => h) (Or.inl ⟨by rfl,?_⟩) ?_ ?_
          rotate_left
          ·intro w'
           go_simp
           with_reducible rfl
          rotate_left
          ·simp only[p0,p1,p2,p3,p4,p5];rfl
          exact norm_ (by simp only[putAll,p0,p1,p2,p3]) (hCont (gb183) _ ⟨hHeld,(by (with_reducible repeat (first|apply Ra|apply Rn|apply Rd));exact HO_3.out),(by (with_reducible repeat (first|apply Ra|apply Rn|apply Rd));exact HO_4.out),(by (with_reducible repeat (first|refine bN ?_ _|refine bD ?_|refine bA ?_ _));exact BK168.out),(by (with_reducible repeat (first|refine bN ?_ _|refine bD ?_|refine bA ?_ _));exact BK177.out),(by (with_reducible repeat (first|refine bN ?_ _|refine bD ?_|refine bA ?_ _));exact BK183.out),GW183.out,GE183.out,NB168_183.out,NB183_168.out,NB177_183.out,NB183_177.out,(by repeat (first|(with_reducible first|exact HB.out|apply wA|apply wN|apply wD|refine wS ?_ GE168.out|refine wS ?_ GE177.out|refine wS ?_ GE183.out)|exact HB.out))⟩)
         rintro gb183 w89 ⟨hS_,h0_,h1_,h2_,h3_,h4_,h5_,h6_,h7_,h8_,h9_,h10_,h11_⟩
         have n0_ : Aside0 (Kd.R (Kd.int .i64) 3 w89 w.heap.size (fun k_ => some k_ ≠ (.slice (some ad178) t163.length co86 : Value).ownBlock) (.slice Ao62 t162.length co62) t162):=⟨h0_⟩
         have n1_ : Aside0 (Kd.R (Kd.int .i64) 3 w89 w.heap.size (fun k_ => some k_ ≠ (.slice Ao62 t162.length co62 : Value).ownBlock) (.slice (some ad178) t163.length co86) t163):=⟨h1_⟩
         have n2_ : Aside0 (w89.heap[gb168]? = some (.cells #[.string x169000_1,.int .i64 x169001_1] 50 (0,0))):=⟨h2_⟩
         have n3_ : Aside0 (w89.heap[gb177]? = some (.cells #[.string x178000_2,.int .i64 x178001_2] 61 (0,0))):=⟨h3_⟩
         have n4_ : Aside0 (w89.heap[gb183]? = some (.cells #[.string (⟨#[]⟩ : ByteArray),.int .i64 0] 61 (0,0))):=⟨h4_⟩
         have n5_ : Aside0 (w.heap.size ≤ gb183):=⟨h5_⟩
         have n6_ : Aside0 (w.heap.size ≤ gb183):=⟨h6_⟩
         have n7_ : Aside0 (gb168 ≠ gb183):=⟨h7_⟩
         have n8_ : Aside0 (gb183 ≠ gb168):=⟨h8_⟩
         have n9_ : Aside0 (gb177 ≠ gb183):=⟨h9_⟩
         have n10_ : Aside0 (gb183 ≠ gb177):=⟨h10_⟩
         have n11_ : Aside0 (Below w.heap.size w w89):=⟨h11_⟩
         clear HO_3;clear HO_4;clear BK168;clear BK177;clear HB;clear h0_ h1_ h2_ h3_ h4_ h5_ h6_ h7_ h8_ h9_ h10_ h11_;have HO_3:=n0_;have HO_4:=n1_;have BK168:=n2_;have BK177:=n3_;have BK183:=n4_;have GW183:=n5_;have GE183:=n6_;have NB168_183:=n7_;have NB183_168:=n8_;have NB177_183:=n9_;have NB183_177:=n10_;have HB:=n11_;clear n0_ n1_ n2_ n3_ n4_ n5_ n6_ n7_ n8_ n9_ n10_ n11_;have hHeld : w89.cell? ⟨gb177,0,none⟩ = some (.string x178000_2) ∧ w89.cell? ⟨gb177,1,none⟩ = some (.int .i64 x178001_2) ∧ w89.cell? (ad178.add (x10_2).toNat) = some (.int .i64 (rd t163 x10_2)):=hS_
         refine norm_ (a':=?_) ?_ ?_
         rotate_left
         ·simp only[putAll,p0,p1,p2,p3]
          rfl
         refine pure_ (i:=11) (N:=some 11) (v:=?_) (a':=?_) #[Y,Y,Y,Y,Y,Y,Y,Y,Y,Y,Y,Y,Z,Z] rfl rfl (any_of HT_.out (by kernel_rfl)) (fun _ _ _ h => h) (Or.inl ⟨by rfl,?_⟩) ?_ ?_
         rotate_left
         ·intro w'
          go_simp
          with_reducible rfl
         rotate_left
         ·simp only[p0,p1,p2,p3,p4,p5];rfl
         refine one_ (i:=12) (N:=none) #[Y,Y,Y,Y,Y,Y,Y,Y,Y,Y,Y,Y,Y,Z] rfl rfl (one_of HT_.out (by kernel_rfl)) (by decide) (fun K hK => ?_)
         have hs90 : w89.cell? ⟨gb183,0,none⟩ = some (.string (⟨#[]⟩ : ByteArray)):=(blk_cell BK183.out 0).trans rfl
         have hfs90:=blk_frozen BK183.out 0
         have hns90_0:=NB168_183.out
         have hns90_1:=NB177_183.out
         have hms90_0:=NB183_168.out
         have hms90_1:=NB183_177.out
         have hs91 : w89.cell? ⟨gb183,1,none⟩ = some (.int .i64 0):=(blk_cell BK183.out 1).trans rfl
         have hfs91:=blk_frozen BK183.out 1
         have hns91_0:=NB168_183.out
         have hns91_1:=NB177_183.out
         have hms91_0:=NB183_168.out
         have hms91_1:=NB183_177.out
         refine skip_ (w1:=?_) (by rfl) rfl ?_ ?_
         rotate_left
         ·go_simp
          rfl
         refine hK.out _ _ ⟨((cell_far (p:=⟨gb183,_,none⟩) NB177_183.out _).trans (((cell_far (p:=⟨gb183,_,none⟩) NB177_183.out _).trans (hHeld.1)))),((cell_far (p:=⟨gb183,_,none⟩) NB177_183.out _).trans (((cell_far (p:=⟨gb183,_,none⟩) NB177_183.out _).trans (hHeld.2.1)))),((cell_far (p:=⟨gb183,_,none⟩) (by first|exact Kd.own_blk (Kd.R_ne HO_4.out BK183.out (by decide))|(rw [add_block];exact Kd.own_blk (Kd.R_ne HO_4.out BK183.out (by decide)))|(show (Addr.add _ _).block ≠ _;rw [add_block];exact Kd.own_blk (Kd.R_ne HO_4.out BK183.out (by decide)))|(dsimp only;exact Kd.own_blk (Kd.R_ne HO_4.out BK183.out (by decide)))) _).trans (((cell_far (p:=⟨gb183,_,none⟩) (by first|exact Kd.own_blk (Kd.R_ne HO_4.out BK183.out (by decide))|(rw [add_block];exact Kd.own_blk (Kd.R_ne HO_4.out BK183.out (by decide)))|(show (Addr.add _ _).block ≠ _;rw [add_block];exact Kd.own_blk (Kd.R_ne HO_4.out BK183.out (by decide)))|(dsimp only;exact Kd.own_blk (Kd.R_ne HO_4.out BK183.out (by decide)))) _).trans (hHeld.2.2))))⟩ (fun hHeld => ?_)
         clear hK K;refine pure_ (i:=13) (N:=some 13) (v:=?_) (a':=?_) #[Y,Y,Y,Y,Y,Y,Y,Y,Y,Y,Y,Y,Y,Y] rfl rfl (any_of HT_.out (by kernel_rfl)) (fun _ _ _ h => h) (Or.inl ⟨by rfl,?_⟩) ?_ ?_
         rotate_left
         ·intro w'
          go_simp
          with_reducible rfl
         rotate_left
         ·simp only[p0,p1,p2,p3,p4,p5];rfl
         refine done_ (done_of HT_.out (by kernel_rfl)) ?_
         have p184 : 0 ≤ (x10_2 : Int):=of_decide_eq_true (by first|(with_reducible assumption)|assumption)
         have q184 : x10_2 < (t162.length : Int):=of_decide_eq_true (by first|(with_reducible assumption)|assumption)
         obtain ⟨ad184,e184,hx184_0⟩:=Kd.at_int (Kd.R_reads' HO_3.out).2.2 x10_2 p184 q184
         cases e184
         have hn184_0 : ad184.block ≠ gb183:=Kd.own_blk (Kd.R_ne HO_3.out BK183.out (by decide))
         have hn184_1 : ad184.block ≠ gb183:=Kd.own_blk (Kd.R_ne HO_3.out BK183.out (by decide))
         replace hx184_0:=(cell_far (p:=⟨gb183,0,none⟩) (by first|(rw [add_block];exact hn184_0)|(show (Addr.add _ _).block ≠ _;rw [add_block];exact hn184_0)|exact hn184_0) (.string t180)).trans hx184_0
         replace hx184_0:=(cell_far (p:=⟨gb183,1,none⟩) (by first|(rw [add_block];exact hn184_1)|(show (Addr.add _ _).block ≠ _;rw [add_block];exact hn184_1)|exact hn184_1) (.int .i64 t181)).trans hx184_0
         clear hn184_0;clear hn184_1;replace p184:=eq_true p184
         replace q184:=eq_true q184
         try go_wp2
         go_ret
         exact ⟨by first|rfl|(simp [errW_none,errW_some] <;> rfl)|(simp [*,errW_none,errW_some] <;> rfl),by repeat (first|(with_reducible first|exact HB.out|apply wA|apply wN|apply wD|refine wS ?_ GE168.out|refine wS ?_ GE177.out|refine wS ?_ GE183.out)|exact HB.out)⟩
        replace c71:=Bool.eq_false_iff.mpr c71
        subst c71;have H1 : (some false) = some r:=by rw [if_neg (show ¬ (false = true) by decide)] at H;exact H
        clear H;have H:=H1
        clear H1;obtain rfl:=Option.some.inj H
        try go_wp2
        have n0_:=AM (Rd HO_3.out)
        have n1_:=AM (Rd HO_4.out)
        have n2_:=AM (bD BK168.out)
        have n3_:=AM (bD BK177.out)
        have n4_:=AM (wD HB.out)
        clear HO_3;clear HO_4;clear BK168;clear BK177;clear HB;have HO_3:=n0_;have HO_4:=n1_;have BK168:=n2_;have BK177:=n3_;have HB:=n4_;clear n0_ n1_ n2_ n3_ n4_;obtain ⟨Ao93,co93,eo93⟩:=Kd.R_slice HO_4.out
        (first|subst eo93|(injection eo93 with f1_ f2_ f3_;have f4_:=f1_.symm;have f5_:=f3_.symm;clear f1_ f2_ f3_;subst f4_;subst f5_))
        have p178 : 0 ≤ (x10_2 : Int):=of_decide_eq_true (by first|(with_reducible assumption)|assumption)
        have q178 : x10_2 < (t163.length : Int):=of_decide_eq_true (by first|(with_reducible assumption)|assumption)
        obtain ⟨ad178,e178,hx178_0⟩:=Kd.at_int (Kd.R_reads' HO_4.out).2.2 x10_2 p178 q178
        cases e178
        replace p178:=eq_true p178
        replace q178:=eq_true q178
        refine start_ (n:=14) (S:=fun w' => w'.cell? ⟨gb177,0,none⟩ = some (.string x178000_2) ∧ w'.cell? ⟨gb177,1,none⟩ = some (.int .i64 x178001_2) ∧ w'.cell? (ad178.add (x10_2).toNat) = some (.int .i64 (rd t163 x10_2))) (ds:=[]) #[Z,Z,Z,Z,Z,Z,Z,Z,Z,Z,Z,Z,Z,Z] (by kernel_rfl) rfl rfl ⟨(blk_cell BK177.out 0).trans rfl,(blk_cell BK177.out 1).trans rfl,hx178_0⟩ (fun hHeld => ?_);refine with_tabW laws_FnBits.tab16 laws_FnBits.bits16 (fun HT_ HW_ => ?_)
        generalize wr.drew = w92 at HO_3 HO_4 BK168 BK177 HB hx178_0 hHeld ⊢
        refine pure_ (i:=1) (N:=some 81) (v:=?_) (a':=?_) #[Z,Y,Z,Z,Z,Z,Z,Z,Z,Z,Z,Z,Z,Z] rfl rfl (any_of HT_.out (by kernel_rfl)) (fun _ _ _ h => h) (Or.inl ⟨by rfl,?_⟩) ?_ ?_
        rotate_left
        ·intro w'
         go_simp
         with_reducible rfl
        rotate_left
        ·simp only[p0,p1,p2,p3,p4,p5];rfl
        refine pure_ (i:=2) (N:=some 82) (v:=?_) (a':=?_) #[Z,Y,Y,Z,Z,Z,Z,Z,Z,Z,Z,Z,Z,Z] rfl rfl (any_of HT_.out (by kernel_rfl)) (fun _ _ _ h => h) (Or.inl ⟨by rfl,?_⟩) ?_ ?_
        rotate_left
        ·intro w'
         go_simp
         with_reducible rfl
        rotate_left
        ·simp only[p0,p1,p2,p3,p4,p5];rfl
        refine pure_ (i:=3) (N:=some 83) (v:=?_) (a':=?_) #[Z,Y,Y,Y,Z,Z,Z,Z,Z,Z,Z,Z,Z,Z] rfl rfl (any_of HT_.out (by kernel_rfl)) (fun _ _ _ h => h) (Or.inl ⟨by rfl,?_⟩) ?_ ?_
        rotate_left
        ·intro w'
         go_simp
         with_reducible rfl
        rotate_left
        ·simp only[p0,p1,p2,p3,p4,p5];rfl
        refine take_ (i:=0) (N:=some 80) (v:=?_) (a':=?_) #[Y,Y,Y,Y,Z,Z,Z,Z,Z,Z,Z,Z,Z,Z] rfl rfl (take_ofW HT_.out HW_.out (by kernel_rfl)) (fun _ _ _ h => h) (Or.inl ⟨by rfl,?_⟩) hHeld ?_ ?_
        rotate_left
        ·rintro w' ⟨s0,s1,s2⟩
         go_simp
         with_reducible rfl
        rotate_left
        ·simp only[p0,p1,p2,p3,p4,p5];rfl
        refine take_ (i:=4) (N:=some 84) (v:=?_) (a':=?_) #[Y,Y,Y,Y,Y,Z,Z,Z,Z,Z,Z,Z,Z,Z] rfl rfl (take_ofW HT_.out HW_.out (by kernel_rfl)) (fun _ _ _ h => h) (Or.inl ⟨by rfl,?_⟩) hHeld ?_ ?_
        rotate_left
        ·rintro w' ⟨s0,s1,s2⟩
         go_simp
         with_reducible rfl
        rotate_left
        ·simp only[p0,p1,p2,p3,p4,p5];rfl
        refine join_ (σ:=Nat) 3 #[Y,Y,Y,Y,Y,Y,Y,Y,Y,Y,Y,Z,Z,Z] (fun s_ => [(85,.tuple #[.int .i64 t179,.agg #[.string t180,.int .i64 t181],.bool false]),(12,.pointer (some ⟨s_,0,none⟩)),(79,.tuple #[.int .i64 t179,.agg #[.string t180,.int .i64 t181],.bool false]),(86,.int .i64 t179),(87,.agg #[.string t180,.int .i64 t181]),(88,.bool false)]) (fun s_ w' => (w'.cell? ⟨gb177,0,none⟩ = some (.string x178000_2) ∧ w'.cell? ⟨gb177,1,none⟩ = some (.int .i64 x178001_2) ∧ w'.cell? (ad178.add (x10_2).toNat) = some (.int .i64 (rd t163 x10_2))) ∧ (Kd.R (Kd.int .i64) 3 w' w.heap.size (fun k_ => some k_ ≠ (.slice (some ad178) t163.length co93 : Value).ownBlock) (.slice Ao62 t162.length co62) t162) ∧ (Kd.R (Kd.int .i64) 3 w' w.heap.size (fun k_ => some k_ ≠ (.slice Ao62 t162.length co62 : Value).ownBlock) (.slice (some ad178) t163.length co93) t163) ∧ (w'.heap[gb168]? = some (.cells #[.string x169000_1,.int .i64 x169001_1] 50 (0,0))) ∧ (w'.heap[gb177]? = some (.cells #[.string x178000_2,.int .i64 x178001_2] 61 (0,0))) ∧ (w'.heap[s_]? = some (.cells #[.string (⟨#[]⟩ : ByteArray),.int .i64 0] 61 (0,0))) ∧ (w.heap.size ≤ s_) ∧ (w.heap.size ≤ s_) ∧ (gb168 ≠ s_) ∧ (s_ ≠ gb168) ∧ (gb177 ≠ s_) ∧ (s_ ≠ gb177) ∧ (Below w.heap.size w w')) ?_ ?_
        rotate_left
        ·intro hCont
         refine two_ (i:=5) (j:=10) (Ni:=some 85) (Nj:=some 12) #[Y,Y,Y,Y,Y,Y,Z,Z,Z,Z,Z,Z,Z,Z] #[Y,Y,Y,Y,Y,Z,Z,Z,Z,Z,Y,Z,Z,Z] rfl rfl rfl rfl (two_of HT_.out (by kernel_rfl)) (by decide) (by decide) (fun K hK => ?_) (fun K hK => ?_)
         ·skip
          refine goes_ Try.func43 (by kernel_rfl) rfl #[.agg #[.string x178000_2,.int .i64 x178001_2],.int .i64 (rd t163 x10_2)] (by rfl) rfl rfl (by (try simp only [List.map_toArray,List.map_cons,List.map_nil]);first|done|rfl|(simp only [List.length_drop,List.length_take];rfl)) ?_
          with_reducible refine (impl_TakeBits.calls k2 x178000_2 x178001_2 (rd t163 x10_2) t179 t180 t181 false _ A70.out).mono ?_
          rintro e w94 ⟨rfl,hb⟩
          have HS2_:=(hb.cell (World.block_lt_of_cell? _ _ (hHeld.2.2))).trans (hHeld.2.2)
          refine ⟨_,rfl,?_⟩
          have n0_:=AM (RB (by (with_reducible repeat (first|apply Ra|apply Rn|apply Rd));exact HO_3.out) hb)
          have n1_:=AM (RB (by (with_reducible repeat (first|apply Ra|apply Rn|apply Rd));exact HO_4.out) hb)
          have n2_:=AM (bB (g:=gb168) (o:=.cells #[.string x169000_1,.int .i64 x169001_1] 50 (0,0)) (by (with_reducible repeat (first|refine bN ?_ _|refine bD ?_|refine bA ?_ _));exact BK168.out) hb)
          have n3_:=AM (bB (g:=gb177) (o:=.cells #[.string x178000_2,.int .i64 x178001_2] 61 (0,0)) (by (with_reducible repeat (first|refine bN ?_ _|refine bD ?_|refine bA ?_ _));exact BK177.out) hb)
          have n4_:=AM (below_step (by repeat (first|(with_reducible first|exact HB.out|apply wA|apply wN|apply wD|refine wS ?_ GE168.out|refine wS ?_ GE177.out)|exact HB.out)) hb)
          clear HO_3;clear HO_4;clear BK168;clear BK177;clear HB;have HO_3:=n0_;have HO_4:=n1_;have BK168:=n2_;have BK177:=n3_;have HB:=n4_;clear n0_ n1_ n2_ n3_ n4_;(try clear hb);(try clear hb2);(try clear hk);(try clear hi);refine hK.out _ _ ⟨(blk_cell BK177.out 0).trans rfl,(blk_cell BK177.out 1).trans rfl,HS2_⟩ (fun hHeld => ?_)
          clear hK K;refine norm_ (a':=?_) ?_ ?_
          rotate_left
          ·show Act.put _ (some 85) _ = _
           simp only[p0,p1,p2,p3,p4,p5];rfl
          refine pure_ (i:=6) (N:=some 79) (v:=?_) (a':=?_) #[Y,Y,Y,Y,Y,Y,Y,Z,Z,Z,Z,Z,Z,Z] rfl rfl (any_of HT_.out (by kernel_rfl)) (fun _ _ _ h => h) (Or.inl ⟨by rfl,?_⟩) ?_ ?_
          rotate_left
          ·intro w'
           go_simp
           with_reducible rfl
          rotate_left
          ·simp only[p0,p1,p2,p3,p4,p5];rfl
          refine pure_ (i:=7) (N:=some 86) (v:=?_) (a':=?_) #[Y,Y,Y,Y,Y,Y,Y,Y,Z,Z,Z,Z,Z,Z] rfl rfl (any_of HT_.out (by kernel_rfl)) (fun _ _ _ h => h) (Or.inl ⟨by rfl,?_⟩) ?_ ?_
          rotate_left
          ·intro w'
           go_simp
           with_reducible rfl
          rotate_left
          ·simp only[p0,p1,p2,p3,p4,p5];rfl
          refine pure_ (i:=8) (N:=some 87) (v:=?_) (a':=?_) #[Y,Y,Y,Y,Y,Y,Y,Y,Y,Z,Z,Z,Z,Z] rfl rfl (any_of HT_.out (by kernel_rfl)) (fun _ _ _ h => h) (Or.inl ⟨by rfl,?_⟩) ?_ ?_
          rotate_left
          ·intro w'
           go_simp
           with_reducible rfl
          rotate_left
          ·simp only[p0,p1,p2,p3,p4,p5];rfl
          refine pure_ (i:=9) (N:=some 88) (v:=?_) (a':=?_) #[Y,Y,Y,Y,Y,Y,Y,Y,Y,Y,Z,Z,Z,Z] rfl rfl (any_of HT_.out (by kernel_rfl)) (fun _ _ _ h => h) (Or.inl ⟨by rfl,?_⟩) ?_ ?_
          rotate_left
          ·intro w'
           go_simp
           with_reducible rfl
          rotate_left
          ·simp only[p0,p1,p2,p3,p4,p5];rfl
          refine one_ (i:=10) (N:=some 12) #[Y,Y,Y,Y,Y,Y,Y,Y,Y,Y,Y,Z,Z,Z] rfl rfl (one_of HT_.out (by kernel_rfl)) (by decide) (fun K hK => ?_)
          refine box_step ?hg (N:=12) ?hd (cs:=#[.string (⟨#[]⟩ : ByteArray),.int .i64 0]) (t:=61) ?hr ?_;(case hd => rfl);(case hg => rfl);(case hr => first|(go_simp;done)|(go_simp;rfl))
          intro gb183 hg w95 hbox hb
          have HS2_:=(hb.cell (World.block_lt_of_cell? _ _ (hHeld.2.2))).trans (hHeld.2.2)
          have n0_:=AM (RB (by (with_reducible repeat (first|apply Ra|apply Rn|apply Rd));exact HO_3.out) hb)
          have n1_:=AM (RB (by (with_reducible repeat (first|apply Ra|apply Rn|apply Rd));exact HO_4.out) hb)
          have n2_:=AM (bB (g:=gb168) (o:=.cells #[.string x169000_1,.int .i64 x169001_1] 50 (0,0)) (by (with_reducible repeat (first|refine bN ?_ _|refine bD ?_|refine bA ?_ _));exact BK168.out) hb)
          have n3_:=AM (bB (g:=gb177) (o:=.cells #[.string x178000_2,.int .i64 x178001_2] 61 (0,0)) (by (with_reducible repeat (first|refine bN ?_ _|refine bD ?_|refine bA ?_ _));exact BK177.out) hb)
          have n4_:=AM (below_step (by repeat (first|(with_reducible first|exact HB.out|apply wA|apply wN|apply wD|refine wS ?_ GE168.out|refine wS ?_ GE177.out)|exact HB.out)) hb)
          have n5_:=AM (hbox)
          have n6_:=AM ((by rw [hg];exact (below_size (by repeat (first|(with_reducible first|exact HB.out|apply wA|apply wN|apply wD|refine wS ?_ GE168.out|refine wS ?_ GE177.out)|exact HB.out))) : w.heap.size ≤ gb183))
          have n7_:=AM ((by rw [hg];exact (below_size (by repeat (first|(with_reducible first|exact HB.out|apply wA|apply wN|apply wD|refine wS ?_ GE168.out|refine wS ?_ GE177.out)|exact HB.out))) : w.heap.size ≤ gb183))
          have n8_:=AM ((by rw [hg];exact Nat.ne_of_lt (bL (g:=gb168) (o:=.cells #[.string x169000_1,.int .i64 x169001_1] 50 (0,0)) (by (with_reducible repeat (first|refine bN ?_ _|refine bD ?_|refine bA ?_ _));exact BK168.out)) : gb168 ≠ gb183))
          have n9_:=AM ((by rw [hg];exact Nat.ne_of_gt (bL (g:=gb168) (o:=.cells #[.string x169000_1,.int .i64 x169001_1] 50 (0,0)) (by (with_reducible repeat (first|refine bN ?_ _|refine bD ?_|refine bA ?_ _));exact BK168.out)) : gb183 ≠ gb168))
          have n10_:=AM ((by rw [hg];exact Nat.ne_of_lt (bL (g:=gb177) (o:=.cells #[.string x178000_2,.int .i64 x178001_2] 61 (0,0)) (by (with_reducible repeat (first|refine bN ?_ _|refine bD ?_|refine bA ?_ _));exact BK177.out)) : gb177 ≠ gb183))
          have n11_:=AM ((by rw [hg];exact Nat.ne_of_gt (bL (g:=gb177) (o:=.cells #[.string x178000_2,.int .i64 x178001_2] 61 (0,0)) (by (with_reducible repeat (first|refine bN ?_ _|refine bD ?_|refine bA ?_ _));exact BK177.out)) : gb183 ≠ gb177))
          clear HO_3;clear HO_4;clear BK168;clear BK177;clear HB;have HO_3:=n0_;have HO_4:=n1_;have BK168:=n2_;have BK177:=n3_;have HB:=n4_;have BK183:=n5_;have GW183:=n6_;have GE183:=n7_;have NB168_183:=n8_;have NB183_168:=n9_;have NB177_183:=n10_;have NB183_177:=n11_;clear n0_ n1_ n2_ n3_ n4_ n5_ n6_ n7_ n8_ n9_ n10_ n11_;clear hb hbox hg;refine hK.out _ _ ⟨(blk_cell BK177.out 0).trans rfl,(blk_cell BK177.out 1).trans rfl,HS2_⟩ (fun hHeld => ?_)
          clear hK K;refine norm_ (a':=?_) ?_ ?_
          rotate_left
          ·show Act.put _ (some 12) _ = _
           simp only[p0,p1,p2,p3,p4,p5];rfl
          exact norm_ (by simp only[putAll,p0,p1,p2,p3]) (hCont (gb183) _ ⟨hHeld,(by (with_reducible repeat (first|apply Ra|apply Rn|apply Rd));exact HO_3.out),(by (with_reducible repeat (first|apply Ra|apply Rn|apply Rd));exact HO_4.out),(by (with_reducible repeat (first|refine bN ?_ _|refine bD ?_|refine bA ?_ _));exact BK168.out),(by (with_reducible repeat (first|refine bN ?_ _|refine bD ?_|refine bA ?_ _));exact BK177.out),(by (with_reducible repeat (first|refine bN ?_ _|refine bD ?_|refine bA ?_ _));exact BK183.out),GW183.out,GE183.out,NB168_183.out,NB183_168.out,NB177_183.out,NB183_177.out,(by repeat (first|(with_reducible first|exact HB.out|apply wA|apply wN|apply wD|refine wS ?_ GE168.out|refine wS ?_ GE177.out|refine wS ?_ GE183.out)|exact HB.out))⟩)
         skip
         refine box_step ?hg (N:=12) ?hd (cs:=#[.string (⟨#[]⟩ : ByteArray),.int .i64 0]) (t:=61) ?hr ?_;(case hd => rfl);(case hg => rfl);(case hr => first|(go_simp;done)|(go_simp;rfl))
         intro gb183 hg w94 hbox hb
         have HS2_:=(hb.cell (World.block_lt_of_cell? _ _ (hHeld.2.2))).trans (hHeld.2.2)
         have n0_:=AM (RB (by (with_reducible repeat (first|apply Ra|apply Rn|apply Rd));exact HO_3.out) hb)
         have n1_:=AM (RB (by (with_reducible repeat (first|apply Ra|apply Rn|apply Rd));exact HO_4.out) hb)
         have n2_:=AM (bB (g:=gb168) (o:=.cells #[.string x169000_1,.int .i64 x169001_1] 50 (0,0)) (by (with_reducible repeat (first|refine bN ?_ _|refine bD ?_|refine bA ?_ _));exact BK168.out) hb)
         have n3_:=AM (bB (g:=gb177) (o:=.cells #[.string x178000_2,.int .i64 x178001_2] 61 (0,0)) (by (with_reducible repeat (first|refine bN ?_ _|refine bD ?_|refine bA ?_ _));exact BK177.out) hb)
         have n4_:=AM (below_step (by repeat (first|(with_reducible first|exact HB.out|apply wA|apply wN|apply wD|refine wS ?_ GE168.out|refine wS ?_ GE177.out)|exact HB.out)) hb)
         have n5_:=AM (hbox)
         have n6_:=AM ((by rw [hg];exact (below_size (by repeat (first|(with_reducible first|exact HB.out|apply wA|apply wN|apply wD|refine wS ?_ GE168.out|refine wS ?_ GE177.out)|exact HB.out))) : w.heap.size ≤ gb183))
         have n7_:=AM ((by rw [hg];exact (below_size (by repeat (first|(with_reducible first|exact HB.out|apply wA|apply wN|apply wD|refine wS ?_ GE168.out|refine wS ?_ GE177.out)|exact HB.out))) : w.heap.size ≤ gb183))
         have n8_:=AM ((by rw [hg];exact Nat.ne_of_lt (bL (g:=gb168) (o:=.cells #[.string x169000_1,.int .i64 x169001_1] 50 (0,0)) (by (with_reducible repeat (first|refine bN ?_ _|refine bD ?_|refine bA ?_ _));exact BK168.out)) : gb168 ≠ gb183))
         have n9_:=AM ((by rw [hg];exact Nat.ne_of_gt (bL (g:=gb168) (o:=.cells #[.string x169000_1,.int .i64 x169001_1] 50 (0,0)) (by (with_reducible repeat (first|refine bN ?_ _|refine bD ?_|refine bA ?_ _));exact BK168.out)) : gb183 ≠ gb168))
         have n10_:=AM ((by rw [hg];exact Nat.ne_of_lt (bL (g:=gb177) (o:=.cells #[.string x178000_2,.int .i64 x178001_2] 61 (0,0)) (by (with_reducible repeat (first|refine bN ?_ _|refine bD ?_|refine bA ?_ _));exact BK177.out)) : gb177 ≠ gb183))
         have n11_:=AM ((by rw [hg];exact Nat.ne_of_gt (bL (g:=gb177) (o:=.cells #[.string x178000_2,.int .i64 x178001_2] 61 (0,0)) (by (with_reducible repeat (first|refine bN ?_ _|refine bD ?_|refine bA ?_ _));exact BK177.out)) : gb183 ≠ gb177))
         clear HO_3;clear HO_4;clear BK168;clear BK177;clear HB;have HO_3:=n0_;have HO_4:=n1_;have BK168:=n2_;have BK177:=n3_;have HB:=n4_;have BK183:=n5_;have GW183:=n6_;have GE183:=n7_;have NB168_183:=n8_;have NB183_168:=n9_;have NB177_183:=n10_;have NB183_177:=n11_;clear n0_ n1_ n2_ n3_ n4_ n5_ n6_ n7_ n8_ n9_ n10_ n11_;clear hb hbox hg;refine hK.out _ _ ⟨(blk_cell BK177.out 0).trans rfl,(blk_cell BK177.out 1).trans rfl,HS2_⟩ (fun hHeld => ?_)
         clear hK K;refine norm_ (a':=?_) ?_ ?_
         rotate_left
         ·show Act.put _ (some 12) _ = _
          simp only[p0,p1,p2,p3,p4,p5];rfl
         refine one_ (i:=5) (N:=some 85) #[Y,Y,Y,Y,Y,Y,Z,Z,Z,Z,Y,Z,Z,Z] rfl rfl (one_of HT_.out (by kernel_rfl)) (by decide) (fun K hK => ?_)
         refine goes_ Try.func43 (by kernel_rfl) rfl #[.agg #[.string x178000_2,.int .i64 x178001_2],.int .i64 (rd t163 x10_2)] (by rfl) rfl rfl (by (try simp only [List.map_toArray,List.map_cons,List.map_nil]);first|done|rfl|(simp only [List.length_drop,List.length_take];rfl)) ?_
         with_reducible refine (impl_TakeBits.calls k2 x178000_2 x178001_2 (rd t163 x10_2) t179 t180 t181 false _ A70.out).mono ?_
         rintro e w95 ⟨rfl,hb⟩
         have HS2_:=(hb.cell (World.block_lt_of_cell? _ _ (hHeld.2.2))).trans (hHeld.2.2)
         refine ⟨_,rfl,?_⟩
         have n0_:=AM (RB (by (with_reducible repeat (first|apply Ra|apply Rn|apply Rd));exact HO_3.out) hb)
         have n1_:=AM (RB (by (with_reducible repeat (first|apply Ra|apply Rn|apply Rd));exact HO_4.out) hb)
         have n2_:=AM (bB (g:=gb168) (o:=.cells #[.string x169000_1,.int .i64 x169001_1] 50 (0,0)) (by (with_reducible repeat (first|refine bN ?_ _|refine bD ?_|refine bA ?_ _));exact BK168.out) hb)
         have n3_:=AM (bB (g:=gb177) (o:=.cells #[.string x178000_2,.int .i64 x178001_2] 61 (0,0)) (by (with_reducible repeat (first|refine bN ?_ _|refine bD ?_|refine bA ?_ _));exact BK177.out) hb)
         have n4_:=AM (bB (g:=gb183) (o:=.cells #[.string (⟨#[]⟩ : ByteArray),.int .i64 0] 61 (0,0)) (by (with_reducible repeat (first|refine bN ?_ _|refine bD ?_|refine bA ?_ _));exact BK183.out) hb)
         have n5_:=AM (below_step (by repeat (first|(with_reducible first|exact HB.out|apply wA|apply wN|apply wD|refine wS ?_ GE168.out|refine wS ?_ GE177.out|refine wS ?_ GE183.out)|exact HB.out)) hb)
         clear HO_3;clear HO_4;clear BK168;clear BK177;clear BK183;clear HB;have HO_3:=n0_;have HO_4:=n1_;have BK168:=n2_;have BK177:=n3_;have BK183:=n4_;have HB:=n5_;clear n0_ n1_ n2_ n3_ n4_ n5_;(try clear hb);(try clear hb2);(try clear hk);(try clear hi);refine hK.out _ _ ⟨(blk_cell BK177.out 0).trans rfl,(blk_cell BK177.out 1).trans rfl,HS2_⟩ (fun hHeld => ?_)
         clear hK K;refine norm_ (a':=?_) ?_ ?_
         rotate_left
         ·show Act.put _ (some 85) _ = _
          simp only[p0,p1,p2,p3,p4,p5];rfl
         refine pure_ (i:=6) (N:=some 79) (v:=?_) (a':=?_) #[Y,Y,Y,Y,Y,Y,Y,Z,Z,Z,Y,Z,Z,Z] rfl rfl (any_of HT_.out (by kernel_rfl)) (fun _ _ _ h => h) (Or.inl ⟨by rfl,?_⟩) ?_ ?_
         rotate_left
         ·intro w'
          go_simp
          with_reducible rfl
         rotate_left
         ·simp only[p0,p1,p2,p3,p4,p5];rfl
         refine pure_ (i:=7) (N:=some 86) (v:=?_) (a':=?_) #[Y,Y,Y,Y,Y,Y,Y,Y,Z,Z,Y,Z,Z,Z] rfl rfl (any_of HT_.out (by kernel_rfl)) (fun _ _ _ h => h) (Or.inl ⟨by rfl,?_⟩) ?_ ?_
         rotate_left
         ·intro w'
          go_simp
          with_reducible rfl
         rotate_left
         ·simp only[p0,p1,p2,p3,p4,p5];rfl
         refine pure_ (i:=8) (N:=some 87) (v:=?_) (a':=?_) #[Y,Y,Y,Y,Y,Y,Y,Y,Y,Z,Y,Z,Z,Z] rfl rfl (any_of HT_.out (by kernel_rfl)) (fun _ _ _ h => h) (Or.inl ⟨by rfl,?_⟩) ?_ ?_
         rotate_left
         ·intro w'
          go_simp
          with_reducible rfl
         rotate_left
         ·simp only[p0,p1,p2,p3,p4,p5];rfl
         refine pure_ (i:=9) (N:=some 88) (v:=?_) (a':=?_) #[Y,Y,Y,Y,Y,Y,Y,Y,Y,Y,Y,Z,Z,Z] rfl rfl (any_of HT_.out (by kernel_rfl)) (fun _ _ _ h => h) (Or.inl ⟨by rfl,?_⟩) ?_ ?_
         rotate_left
         ·intro w'
          go_simp
          with_reducible rfl
         rotate_left
         ·simp only[p0,p1,p2,p3,p4,p5];rfl
         exact norm_ (by simp only[putAll,p0,p1,p2,p3]) (hCont (gb183) _ ⟨hHeld,(by (with_reducible repeat (first|apply Ra|apply Rn|apply Rd));exact HO_3.out),(by (with_reducible repeat (first|apply Ra|apply Rn|apply Rd));exact HO_4.out),(by (with_reducible repeat (first|refine bN ?_ _|refine bD ?_|refine bA ?_ _));exact BK168.out),(by (with_reducible repeat (first|refine bN ?_ _|refine bD ?_|refine bA ?_ _));exact BK177.out),(by (with_reducible repeat (first|refine bN ?_ _|refine bD ?_|refine bA ?_ _));exact BK183.out),GW183.out,GE183.out,NB168_183.out,NB183_168.out,NB177_183.out,NB183_177.out,(by repeat (first|(with_reducible first|exact HB.out|apply wA|apply wN|apply wD|refine wS ?_ GE168.out|refine wS ?_ GE177.out|refine wS ?_ GE183.out)|exact HB.out))⟩)
        rintro gb183 w96 ⟨hS_,h0_,h1_,h2_,h3_,h4_,h5_,h6_,h7_,h8_,h9_,h10_,h11_⟩
        have n0_ : Aside0 (Kd.R (Kd.int .i64) 3 w96 w.heap.size (fun k_ => some k_ ≠ (.slice (some ad178) t163.length co93 : Value).ownBlock) (.slice Ao62 t162.length co62) t162):=⟨h0_⟩
        have n1_ : Aside0 (Kd.R (Kd.int .i64) 3 w96 w.heap.size (fun k_ => some k_ ≠ (.slice Ao62 t162.length co62 : Value).ownBlock) (.slice (some ad178) t163.length co93) t163):=⟨h1_⟩
        have n2_ : Aside0 (w96.heap[gb168]? = some (.cells #[.string x169000_1,.int .i64 x169001_1] 50 (0,0))):=⟨h2_⟩
        have n3_ : Aside0 (w96.heap[gb177]? = some (.cells #[.string x178000_2,.int .i64 x178001_2] 61 (0,0))):=⟨h3_⟩
        have n4_ : Aside0 (w96.heap[gb183]? = some (.cells #[.string (⟨#[]⟩ : ByteArray),.int .i64 0] 61 (0,0))):=⟨h4_⟩
        have n5_ : Aside0 (w.heap.size ≤ gb183):=⟨h5_⟩
        have n6_ : Aside0 (w.heap.size ≤ gb183):=⟨h6_⟩
        have n7_ : Aside0 (gb168 ≠ gb183):=⟨h7_⟩
        have n8_ : Aside0 (gb183 ≠ gb168):=⟨h8_⟩
        have n9_ : Aside0 (gb177 ≠ gb183):=⟨h9_⟩
        have n10_ : Aside0 (gb183 ≠ gb177):=⟨h10_⟩
        have n11_ : Aside0 (Below w.heap.size w w96):=⟨h11_⟩
        clear HO_3;clear HO_4;clear BK168;clear BK177;clear HB;clear h0_ h1_ h2_ h3_ h4_ h5_ h6_ h7_ h8_ h9_ h10_ h11_;have HO_3:=n0_;have HO_4:=n1_;have BK168:=n2_;have BK177:=n3_;have BK183:=n4_;have GW183:=n5_;have GE183:=n6_;have NB168_183:=n7_;have NB183_168:=n8_;have NB177_183:=n9_;have NB183_177:=n10_;have HB:=n11_;clear n0_ n1_ n2_ n3_ n4_ n5_ n6_ n7_ n8_ n9_ n10_ n11_;have hHeld : w96.cell? ⟨gb177,0,none⟩ = some (.string x178000_2) ∧ w96.cell? ⟨gb177,1,none⟩ = some (.int .i64 x178001_2) ∧ w96.cell? (ad178.add (x10_2).toNat) = some (.int .i64 (rd t163 x10_2)):=hS_
        refine norm_ (a':=?_) ?_ ?_
        rotate_left
        ·simp only[putAll,p0,p1,p2,p3]
         rfl
        refine pure_ (i:=11) (N:=some 11) (v:=?_) (a':=?_) #[Y,Y,Y,Y,Y,Y,Y,Y,Y,Y,Y,Y,Z,Z] rfl rfl (any_of HT_.out (by kernel_rfl)) (fun _ _ _ h => h) (Or.inl ⟨by rfl,?_⟩) ?_ ?_
        rotate_left
        ·intro w'
         go_simp
         with_reducible rfl
        rotate_left
        ·simp only[p0,p1,p2,p3,p4,p5];rfl
        refine one_ (i:=12) (N:=none) #[Y,Y,Y,Y,Y,Y,Y,Y,Y,Y,Y,Y,Y,Z] rfl rfl (one_of HT_.out (by kernel_rfl)) (by decide) (fun K hK => ?_)
        have hs97 : w96.cell? ⟨gb183,0,none⟩ = some (.string (⟨#[]⟩ : ByteArray)):=(blk_cell BK183.out 0).trans rfl
        have hfs97:=blk_frozen BK183.out 0
        have hns97_0:=NB168_183.out
        have hns97_1:=NB177_183.out
        have hms97_0:=NB183_168.out
        have hms97_1:=NB183_177.out
        have hs98 : w96.cell? ⟨gb183,1,none⟩ = some (.int .i64 0):=(blk_cell BK183.out 1).trans rfl
        have hfs98:=blk_frozen BK183.out 1
        have hns98_0:=NB168_183.out
        have hns98_1:=NB177_183.out
        have hms98_0:=NB183_168.out
        have hms98_1:=NB183_177.out
        refine skip_ (w1:=?_) (by rfl) rfl ?_ ?_
        rotate_left
        ·go_simp
         rfl
        refine hK.out _ _ ⟨((cell_far (p:=⟨gb183,_,none⟩) NB177_183.out _).trans (((cell_far (p:=⟨gb183,_,none⟩) NB177_183.out _).trans (hHeld.1)))),((cell_far (p:=⟨gb183,_,none⟩) NB177_183.out _).trans (((cell_far (p:=⟨gb183,_,none⟩) NB177_183.out _).trans (hHeld.2.1)))),((cell_far (p:=⟨gb183,_,none⟩) (by first|exact Kd.own_blk (Kd.R_ne HO_4.out BK183.out (by decide))|(rw [add_block];exact Kd.own_blk (Kd.R_ne HO_4.out BK183.out (by decide)))|(show (Addr.add _ _).block ≠ _;rw [add_block];exact Kd.own_blk (Kd.R_ne HO_4.out BK183.out (by decide)))|(dsimp only;exact Kd.own_blk (Kd.R_ne HO_4.out BK183.out (by decide)))) _).trans (((cell_far (p:=⟨gb183,_,none⟩) (by first|exact Kd.own_blk (Kd.R_ne HO_4.out BK183.out (by decide))|(rw [add_block];exact Kd.own_blk (Kd.R_ne HO_4.out BK183.out (by decide)))|(show (Addr.add _ _).block ≠ _;rw [add_block];exact Kd.own_blk (Kd.R_ne HO_4.out BK183.out (by decide)))|(dsimp only;exact Kd.own_blk (Kd.R_ne HO_4.out BK183.out (by decide)))) _).trans (hHeld.2.2))))⟩ (fun hHeld => ?_)
        clear hK K;refine pure_ (i:=13) (N:=some 13) (v:=?_) (a':=?_) #[Y,Y,Y,Y,Y,Y,Y,Y,Y,Y,Y,Y,Y,Y] rfl rfl (any_of HT_.out (by kernel_rfl)) (fun _ _ _ h => h) (Or.inl ⟨by rfl,?_⟩) ?_ ?_
        rotate_left
        ·intro w'
         go_simp
         with_reducible rfl
        rotate_left
        ·simp only[p0,p1,p2,p3,p4,p5];rfl
        refine done_ (done_of HT_.out (by kernel_rfl)) ?_
        try go_wp2
        go_ret
        exact ⟨by first|rfl|(simp [errW_none,errW_some] <;> rfl)|(simp [*,errW_none,errW_some] <;> rfl),by repeat (first|(with_reducible first|exact HB.out|apply wA|apply wN|apply wD|refine wS ?_ GE168.out|refine wS ?_ GE177.out|refine wS ?_ GE183.out)|exact HB.out)⟩
       rw [if_neg c69] at H
       exact absurd H (by simp)
      rw [if_neg c68] at H
      exact absurd H (by simp)
     rw [if_neg c67] at H
     have c67b0 : decide (x10_2 < (t162.length : Int)) = false:=decide_eq_false c67
     clear c67;by_cases c99 : 0 < (t163.length : Int)
     ·rw [if_pos c99] at H
      have c99b0 : decide (0 < (t163.length : Int)) = true:=decide_eq_true c99
      have c99b1 : decide (0 < t163.length) = true:=decide_eq_true (by omega)
      clear c99;by_cases c100 : 0 < (t162.length : Int)
      ·rw [if_pos c100] at H
       have c100b0 : decide (0 < (t162.length : Int)) = true:=decide_eq_true c100
       have c100b1 : decide (0 < t162.length) = true:=decide_eq_true (by omega)
       clear c100;replace H:=Option.bind_eq_some_iff.mp H
       obtain ⟨⟨t187,t188,t189⟩,A1010,H⟩:=H
       replace H : (laws_FnBits.l2 k2 t162 (rd t163 0) t189 0 0 x169000_1 x169001_1 x178000_2 x178001_2 t187 0) = some r:=H
       have A101:=AM A1010
       clear A1010;have H':=AM H
       clear H;obtain ⟨Ao102,co102,eo102⟩:=Kd.R_slice HO_4.out
       subst eo102;have p185 : 0 ≤ (0 : Int):=(by omega)
       have q185 : 0 < (t163.length : Int):=of_decide_eq_true (by first|(with_reducible assumption)|assumption)
       obtain ⟨ad185,e185,hx185_0⟩:=Kd.at_int (Kd.R_reads' HO_4.out).2.2 0 p185 q185
       cases e185
       have qi185 : (0 < t163.length) = True:=eq_true (by omega)
       (try rw [show ((0 : Int)).toNat = 0 from rfl] at hx185_0)
       (try rw [Addr.add_zero'] at hx185_0)
       replace p185:=eq_true p185
       replace q185:=eq_true q185
       have p186 : 0 ≤ (0 : Int):=(by omega)
       have q186 : 0 < (t162.length : Int):=of_decide_eq_true (by first|(with_reducible assumption)|assumption)
       obtain ⟨ad186,e186,hx186_0⟩:=Kd.at_int (Kd.R_reads' HO_3.out).2.2 0 p186 q186
       cases e186
       have qi186 : (0 < t162.length) = True:=eq_true (by omega)
       (try rw [show ((0 : Int)).toNat = 0 from rfl] at hx186_0)
       (try rw [Addr.add_zero'] at hx186_0)
       replace p186:=eq_true p186
       replace q186:=eq_true q186
       go_wp2_with (first|((with_reducible refine gate_callee (f:=40) rfl ?_);refine goesL_ (some 109) rfl rfl Try.func40 (by kernel_rfl) rfl #[.agg #[.string (⟨#[]⟩ : ByteArray),.int .i64 0],.int .i64 (rd t162 0),.int .i64 (rd t163 0)] rfl (by (try simp only [List.map_toArray,List.map_cons,List.map_nil]);first|done|rfl|(simp only [List.length_drop,List.length_take];rfl)) ?_;(with_reducible refine (impl_PutCode.calls (⟨#[]⟩ : ByteArray) 0 (rd t162 0) (rd t163 0) t187 t188 t189 _ A101.out).mono ?_);rintro e w103 ⟨rfl,hb⟩;refine ⟨_,rfl,?_⟩;have n0_:=AM (RB (by (with_reducible repeat (first|apply Ra|apply Rn|apply Rd));exact HO_3.out) hb);have n1_:=AM (RB (by (with_reducible repeat (first|apply Ra|apply Rn|apply Rd));exact HO_4.out) hb);have n2_:=AM (bB (g:=gb168) (o:=.cells #[.string x169000_1,.int .i64 x169001_1] 50 (0,0)) (by (with_reducible repeat (first|refine bN ?_ _|refine bD ?_|refine bA ?_ _));exact BK168.out) hb);have n3_:=AM (bB (g:=gb177) (o:=.cells #[.string x178000_2,.int .i64 x178001_2] 61 (0,0)) (by (with_reducible repeat (first|refine bN ?_ _|refine bD ?_|refine bA ?_ _));exact BK177.out) hb);have n4_:=AM (below_step (by repeat (first|(with_reducible first|exact HB.out|apply wA|apply wN|apply wD|refine wS ?_ GE168.out|refine wS ?_ GE177.out)|exact HB.out)) hb);clear HO_3;clear HO_4;clear BK168;clear BK177;clear HB;have HO_3:=n0_;have HO_4:=n1_;have BK168:=n2_;have BK177:=n3_;have HB:=n4_;clear n0_ n1_ n2_ n3_ n4_;(try clear hb);(try clear hb2);(try clear hk);(try clear hi))|((with_reducible refine gate_dst (N:=15) rfl ?_);refine box_event ?hg (N:=15) ?hd (cs:=#[.string (⟨#[]⟩ : ByteArray),.int .i64 0]) (t:=50) ?hr ?_;(case hd => rfl);(case hg => rfl);(case hr => first|(go_simp;done)|(go_simp;rfl));intro gb190 hg w104 hbox hb;have n0_:=AM (RB (by (with_reducible repeat (first|apply Ra|apply Rn|apply Rd));exact HO_3.out) hb);have n1_:=AM (RB (by (with_reducible repeat (first|apply Ra|apply Rn|apply Rd));exact HO_4.out) hb);have n2_:=AM (bB (g:=gb168) (o:=.cells #[.string x169000_1,.int .i64 x169001_1] 50 (0,0)) (by (with_reducible repeat (first|refine bN ?_ _|refine bD ?_|refine bA ?_ _));exact BK168.out) hb);have n3_:=AM (bB (g:=gb177) (o:=.cells #[.string x178000_2,.int .i64 x178001_2] 61 (0,0)) (by (with_reducible repeat (first|refine bN ?_ _|refine bD ?_|refine bA ?_ _));exact BK177.out) hb);have n4_:=AM (below_step (by repeat (first|(with_reducible first|exact HB.out|apply wA|apply wN|apply wD|refine wS ?_ GE168.out|refine wS ?_ GE177.out)|exact HB.out)) hb);have n5_:=AM (hbox);have n6_:=AM ((by rw [hg];exact (below_size (by repeat (first|(with_reducible first|exact HB.out|apply wA|apply wN|apply wD|refine wS ?_ GE168.out|refine wS ?_ GE177.out)|exact HB.out))) : w.heap.size ≤ gb190));have n7_:=AM ((by rw [hg];exact (below_size (by repeat (first|(with_reducible first|exact HB.out|apply wA|apply wN|apply wD|refine wS ?_ GE168.out|refine wS ?_ GE177.out)|exact HB.out))) : w.heap.size ≤ gb190));have n8_:=AM ((by rw [hg];exact Nat.ne_of_lt (bL (g:=gb168) (o:=.cells #[.string x169000_1,.int .i64 x169001_1] 50 (0,0)) (by (with_reducible repeat (first|refine bN ?_ _|refine bD ?_|refine bA ?_ _));exact BK168.out)) : gb168 ≠ gb190));have n9_:=AM ((by rw [hg];exact Nat.ne_of_gt (bL (g:=gb168) (o:=.cells #[.string x169000_1,.int .i64 x169001_1] 50 (0,0)) (by (with_reducible repeat (first|refine bN ?_ _|refine bD ?_|refine bA ?_ _));exact BK168.out)) : gb190 ≠ gb168));have n10_:=AM ((by rw [hg];exact Nat.ne_of_lt (bL (g:=gb177) (o:=.cells #[.string x178000_2,.int .i64 x178001_2] 61 (0,0)) (by (with_reducible repeat (first|refine bN ?_ _|refine bD ?_|refine bA ?_ _));exact BK177.out)) : gb177 ≠ gb190));have n11_:=AM ((by rw [hg];exact Nat.ne_of_gt (bL (g:=gb177) (o:=.cells #[.string x178000_2,.int .i64 x178001_2] 61 (0,0)) (by (with_reducible repeat (first|refine bN ?_ _|refine bD ?_|refine bA ?_ _));exact BK177.out)) : gb190 ≠ gb177));clear HO_3;clear HO_4;clear BK168;clear BK177;clear HB;have HO_3:=n0_;have HO_4:=n1_;have BK168:=n2_;have BK177:=n3_;have HB:=n4_;have BK190:=n5_;have GW190:=n6_;have GE190:=n7_;have NB168_190:=n8_;have NB190_168:=n9_;have NB177_190:=n10_;have NB190_177:=n11_;clear n0_ n1_ n2_ n3_ n4_ n5_ n6_ n7_ n8_ n9_ n10_ n11_;clear hb hbox hg;have hnb105:=NB190_168.out;have hnc105:=NB168_190.out;have hnb106:=NB190_177.out;have hnc106:=NB177_190.out;have hcz107_0 : w104.cell? ⟨gb190,0,none⟩ = some (.string (⟨#[]⟩ : ByteArray)):=(blk_cell BK190.out 0).trans rfl;have hcz107_1 : w104.cell? ⟨gb190,1,none⟩ = some (.int .i64 0):=(blk_cell BK190.out 1).trans rfl;have hfz107_0:=blk_frozen BK190.out 0;have hfz107_1:=blk_frozen BK190.out 1)|((with_reducible refine gate_dst (N:=18) rfl ?_);refine box_event ?hg (N:=18) ?hd (cs:=#[.string (⟨#[]⟩ : ByteArray),.int .i64 0]) (t:=61) ?hr ?_;(case hd => rfl);(case hg => rfl);(case hr => first|(go_simp;done)|(go_simp;rfl));intro gb191 hg w108 hbox hb;have n0_:=AM (RB (by (with_reducible repeat (first|apply Ra|apply Rn|apply Rd));exact (Kd.R_mono (Kd.R_far (p:=⟨gb190,1,none⟩) (Kd.R_far (p:=⟨gb190,0,none⟩) (Kd.R_types HO_3.out BK190.out (by decide)) (fun _ hk => hk.2) (.string t187)) (fun _ hk => hk.2) (.int .i64 t188)) (fun _ h_ => h_.1))) hb);have n1_:=AM (RB (by (with_reducible repeat (first|apply Ra|apply Rn|apply Rd));exact (Kd.R_mono (Kd.R_far (p:=⟨gb190,1,none⟩) (Kd.R_far (p:=⟨gb190,0,none⟩) (Kd.R_types HO_4.out BK190.out (by decide)) (fun _ hk => hk.2) (.string t187)) (fun _ hk => hk.2) (.int .i64 t188)) (fun _ h_ => h_.1))) hb);have n2_:=AM (bB (g:=gb168) (o:=.cells #[.string x169000_1,.int .i64 x169001_1] 50 (0,0)) (by (with_reducible repeat (first|refine bN ?_ _|refine bD ?_|refine bA ?_ _));refine blk_far ?_ NB168_190.out _;(with_reducible repeat (first|refine bN ?_ _|refine bD ?_|refine bA ?_ _));refine blk_far ?_ NB168_190.out _;(with_reducible repeat (first|refine bN ?_ _|refine bD ?_|refine bA ?_ _));exact BK168.out) hb);have n3_:=AM (bB (g:=gb177) (o:=.cells #[.string x178000_2,.int .i64 x178001_2] 61 (0,0)) (by (with_reducible repeat (first|refine bN ?_ _|refine bD ?_|refine bA ?_ _));refine blk_far ?_ NB177_190.out _;(with_reducible repeat (first|refine bN ?_ _|refine bD ?_|refine bA ?_ _));refine blk_far ?_ NB177_190.out _;(with_reducible repeat (first|refine bN ?_ _|refine bD ?_|refine bA ?_ _));exact BK177.out) hb);have n4_:=AM (bB (g:=gb190) (o:=.cells #[.string t187,.int .i64 t188] 50 (0,0)) (by (with_reducible repeat (first|refine bN ?_ _|refine bD ?_|refine bA ?_ _));refine blk_put (cs:=#[.string t187,.int .i64 0]) ?_ 1 _ rfl;(with_reducible repeat (first|refine bN ?_ _|refine bD ?_|refine bA ?_ _));refine blk_put (cs:=#[.string (⟨#[]⟩ : ByteArray),.int .i64 0]) ?_ 0 _ rfl;(with_reducible repeat (first|refine bN ?_ _|refine bD ?_|refine bA ?_ _));exact BK190.out) hb);have n5_:=AM (below_step (by repeat (first|(with_reducible first|exact HB.out|apply wA|apply wN|apply wD|refine wS ?_ GE168.out|refine wS ?_ GE177.out|refine wS ?_ GE190.out)|exact HB.out)) hb);have n6_:=AM (hbox);have n7_:=AM ((by rw [hg];exact (below_size (by repeat (first|(with_reducible first|exact HB.out|apply wA|apply wN|apply wD|refine wS ?_ GE168.out|refine wS ?_ GE177.out|refine wS ?_ GE190.out)|exact HB.out))) : w.heap.size ≤ gb191));have n8_:=AM ((by rw [hg];exact (below_size (by repeat (first|(with_reducible first|exact HB.out|apply wA|apply wN|apply wD|refine wS ?_ GE168.out|refine wS ?_ GE177.out|refine wS ?_ GE190.out)|exact HB.out))) : w.heap.size ≤ gb191));have n9_:=AM ((by rw [hg];exact Nat.ne_of_lt (bL (g:=gb168) (o:=.cells #[.string x169000_1,.int .i64 x169001_1] 50 (0,0)) (by (with_reducible repeat (first|refine bN ?_ _|refine bD ?_|refine bA ?_ _));refine blk_far ?_ NB168_190.out _;(with_reducible repeat (first|refine bN ?_ _|refine bD ?_|refine bA ?_ _));refine blk_far ?_ NB168_190.out _;(with_reducible repeat (first|refine bN ?_ _|refine bD ?_|refine bA ?_ _));exact BK168.out)) : gb168 ≠ gb191));have n10_:=AM ((by rw [hg];exact Nat.ne_of_gt (bL (g:=gb168) (o:=.cells #[.string x169000_1,.int .i64 x169001_1] 50 (0,0)) (by (with_reducible repeat (first|refine bN ?_ _|refine bD ?_|refine bA ?_ _));refine blk_far ?_ NB168_190.out _;(with_reducible repeat (first|refine bN ?_ _|refine bD ?_|refine bA ?_ _));refine blk_far ?_ NB168_190.out _;(with_reducible repeat (first|refine bN ?_ _|refine bD ?_|refine bA ?_ _));exact BK168.out)) : gb191 ≠ gb168));have n11_:=AM ((by rw [hg];exact Nat.ne_of_lt (bL (g:=gb177) (o:=.cells #[.string x178000_2,.int .i64 x178001_2] 61 (0,0)) (by (with_reducible repeat (first|refine bN ?_ _|refine bD ?_|refine bA ?_ _));refine blk_far ?_ NB177_190.out _;(with_reducible repeat (first|refine bN ?_ _|refine bD ?_|refine bA ?_ _));refine blk_far ?_ NB177_190.out _;(with_reducible repeat (first|refine bN ?_ _|refine bD ?_|refine bA ?_ _));exact BK177.out)) : gb177 ≠ gb191));have n12_:=AM ((by rw [hg];exact Nat.ne_of_gt (bL (g:=gb177) (o:=.cells #[.string x178000_2,.int .i64 x178001_2] 61 (0,0)) (by (with_reducible repeat (first|refine bN ?_ _|refine bD ?_|refine bA ?_ _));refine blk_far ?_ NB177_190.out _;(with_reducible repeat (first|refine bN ?_ _|refine bD ?_|refine bA ?_ _));refine blk_far ?_ NB177_190.out _;(with_reducible repeat (first|refine bN ?_ _|refine bD ?_|refine bA ?_ _));exact BK177.out)) : gb191 ≠ gb177));have n13_:=AM ((by rw [hg];exact Nat.ne_of_lt (bL (g:=gb190) (o:=.cells #[.string t187,.int .i64 t188] 50 (0,0)) (by (with_reducible repeat (first|refine bN ?_ _|refine bD ?_|refine bA ?_ _));refine blk_put (cs:=#[.string t187,.int .i64 0]) ?_ 1 _ rfl;(with_reducible repeat (first|refine bN ?_ _|refine bD ?_|refine bA ?_ _));refine blk_put (cs:=#[.string (⟨#[]⟩ : ByteArray),.int .i64 0]) ?_ 0 _ rfl;(with_reducible repeat (first|refine bN ?_ _|refine bD ?_|refine bA ?_ _));exact BK190.out)) : gb190 ≠ gb191));have n14_:=AM ((by rw [hg];exact Nat.ne_of_gt (bL (g:=gb190) (o:=.cells #[.string t187,.int .i64 t188] 50 (0,0)) (by (with_reducible repeat (first|refine bN ?_ _|refine bD ?_|refine bA ?_ _));refine blk_put (cs:=#[.string t187,.int .i64 0]) ?_ 1 _ rfl;(with_reducible repeat (first|refine bN ?_ _|refine bD ?_|refine bA ?_ _));refine blk_put (cs:=#[.string (⟨#[]⟩ : ByteArray),.int .i64 0]) ?_ 0 _ rfl;(with_reducible repeat (first|refine bN ?_ _|refine bD ?_|refine bA ?_ _));exact BK190.out)) : gb191 ≠ gb190));clear HO_3;clear HO_4;clear BK168;clear BK177;clear BK190;clear HB;have HO_3:=n0_;have HO_4:=n1_;have BK168:=n2_;have BK177:=n3_;have BK190:=n4_;have HB:=n5_;have BK191:=n6_;have GW191:=n7_;have GE191:=n8_;have NB168_191:=n9_;have NB191_168:=n10_;have NB177_191:=n11_;have NB191_177:=n12_;have NB190_191:=n13_;have NB191_190:=n14_;clear n0_ n1_ n2_ n3_ n4_ n5_ n6_ n7_ n8_ n9_ n10_ n11_ n12_ n13_ n14_;clear hb hbox hg;have hnb109:=NB191_168.out;have hnc109:=NB168_191.out;have hnb110:=NB191_177.out;have hnc110:=NB177_191.out;have hnb111:=NB191_190.out;have hnc111:=NB190_191.out;have hcz112_0 : w108.cell? ⟨gb191,0,none⟩ = some (.string (⟨#[]⟩ : ByteArray)):=(blk_cell BK191.out 0).trans rfl;have hcz112_1 : w108.cell? ⟨gb191,1,none⟩ = some (.int .i64 0):=(blk_cell BK191.out 1).trans rfl;have hfz112_0:=blk_frozen BK191.out 0;have hfz112_1:=blk_frozen BK191.out 1))
       go_loopg [17,19] k2 (fun kq v17 v19 w' => ∃ (x17_3 : Int) (x19_3 : Int) (x192000_3 : ByteArray) (x192001_3 : Int),v17 = .int .i64 x17_3 ∧ v19 = .int .i64 x19_3 ∧ Aside0 (laws_FnBits.l2 kq t162 (rd t163 0) t189 x17_3 x19_3 x169000_1 x169001_1 x178000_2 x178001_2 x192000_3 x192001_3 = some r) ∧ Aside0 (kq ≤ k2) ∧ Aside0 (Kd.R (Kd.int .i64) 3 w' w.heap.size (fun _ => True) (.slice (some ad186) t162.length co62) t162) ∧ Aside0 (w'.heap[gb168]? = some (.cells #[.string x169000_1,.int .i64 x169001_1] 50 (0,0))) ∧ Aside0 (w'.heap[gb177]? = some (.cells #[.string x178000_2,.int .i64 x178001_2] 61 (0,0))) ∧ Aside0 (w'.heap[gb190]? = some (.cells #[.string t187,.int .i64 t188] 50 (0,0))) ∧ Aside0 (w'.heap[gb191]? = some (.cells #[.string x192000_3,.int .i64 x192001_3] 61 (0,0))) ∧ Aside0 (Below w.heap.size w w'))
       case atStart => exact ⟨(0),(0),(t187),(0),(by first|rfl|(simp;done)|(simp [*];done)),(by first|rfl|(simp;done)|(simp [*];done)),H',⟨Nat.le_refl _⟩,⟨by (with_reducible repeat (first|apply Ra|apply Rn|apply Rd));exact Kd.R_mono (Kd.R_far (p:=⟨gb191,1,none⟩) (Kd.R_far (p:=⟨gb191,0,none⟩) (Kd.R_types HO_3.out BK191.out (by decide)) (fun _ hk => hk.2) (.string t187)) (fun _ hk => hk.2) (.int .i64 0)) (fun _ hk => trivial)⟩,⟨by (with_reducible repeat (first|refine bN ?_ _|refine bD ?_|refine bA ?_ _));refine blk_far ?_ NB168_191.out _;(with_reducible repeat (first|refine bN ?_ _|refine bD ?_|refine bA ?_ _));refine blk_far ?_ NB168_191.out _;(with_reducible repeat (first|refine bN ?_ _|refine bD ?_|refine bA ?_ _));exact BK168.out⟩,⟨by (with_reducible repeat (first|refine bN ?_ _|refine bD ?_|refine bA ?_ _));refine blk_far ?_ NB177_191.out _;(with_reducible repeat (first|refine bN ?_ _|refine bD ?_|refine bA ?_ _));refine blk_far ?_ NB177_191.out _;(with_reducible repeat (first|refine bN ?_ _|refine bD ?_|refine bA ?_ _));exact BK177.out⟩,⟨by (with_reducible repeat (first|refine bN ?_ _|refine bD ?_|refine bA ?_ _));refine blk_far ?_ NB190_191.out _;(with_reducible repeat (first|refine bN ?_ _|refine bD ?_|refine bA ?_ _));refine blk_far ?_ NB190_191.out _;(with_reducible repeat (first|refine bN ?_ _|refine bD ?_|refine bA ?_ _));exact BK190.out⟩,⟨by (with_reducible repeat (first|refine bN ?_ _|refine bD ?_|refine bA ?_ _));refine blk_put (cs:=#[.string t187,.int .i64 0]) ?_ 1 _ rfl;(with_reducible repeat (first|refine bN ?_ _|refine bD ?_|refine bA ?_ _));refine blk_put (cs:=#[.string (⟨#[]⟩ : ByteArray),.int .i64 0]) ?_ 0 _ rfl;(with_reducible repeat (first|refine bN ?_ _|refine bD ?_|refine bA ?_ _));exact BK191.out⟩,⟨by repeat (first|(with_reducible first|exact HB.out|apply wA|apply wN|apply wD|refine wS ?_ GE168.out|refine wS ?_ GE177.out|refine wS ?_ GE190.out|refine wS ?_ GE191.out)|exact HB.out)⟩⟩
       case round =>
        clear H'
        try clear c1
        try clear p1
        try clear q1
        try clear hx1
        try clear qi1
        try clear p2
        try clear c4
        try clear c6
        try clear c7
        try clear c9
        try clear c10
        try clear c11
        try clear p17
        try clear q17
        try clear hx17
        try clear p18
        try clear q18
        try clear hx18
        try clear qi18
        try clear c40
        try clear c43
        try clear c67
        try clear c67b0
        try clear c68
        try clear c69
        try clear c71
        try clear c99
        try clear c99b0
        try clear c99b1
        try clear c100
        try clear c100b0
        try clear c100b1
        try clear c105
        try clear c106
        try clear c109
        try clear c110
        try clear c111
        try clear hcz107_0
        try clear hcz107_1
        try clear hcz112_0
        try clear hcz112_1
        try clear hfz107_0
        try clear hfz107_1
        try clear hfz112_0
        try clear hfz112_1
        try clear hx178_0
        try clear hx184_0
        try clear hx185_0
        try clear hx186_0
        try clear p178
        try clear p184
        try clear p185
        try clear p186
        try clear q178
        try clear q184
        try clear q185
        try clear q186
        obtain ⟨x17_3,x19_3,x192000_3,x192001_3,rfl,rfl,HA,HK3,HO_3,BK168,BK177,BK190,BK191,HB⟩:=hrel
        cases gk with
        | zero => exact absurd HA.out (by simp [laws_FnBits.l2])
        | succ k3 =>
         have H:=HA.out
         clear HA;simp only [laws_FnBits.l2] at H
         by_cases c113 : x19_3 < (rd t163 0)
         ·rw [if_pos c113] at H
          have c113b0 : decide (x19_3 < (rd t163 0)) = true:=decide_eq_true c113
          clear c113;replace H:=Option.bind_eq_some_iff.mp H
          obtain ⟨⟨t192,t193,t194,t195⟩,A1140,H⟩:=H
          replace H : (if t195 = true then (laws_FnBits.l2 k3 t162 (rd t163 0) t189 (wrap64 ((wrap64 (2 * x17_3)) + t192)) (wrap64 (x19_3 + 1)) x169000_1 x169001_1 x178000_2 x178001_2 t193 t194) else (some false)) = some r:=H
          have A114:=AM A1140
          clear A1140;by_cases c115 : t195 = true
          ·subst c115;have H1 : (laws_FnBits.l2 k3 t162 (rd t163 0) t189 (wrap64 ((wrap64 (2 * x17_3)) + t192)) (wrap64 (x19_3 + 1)) x169000_1 x169001_1 x178000_2 x178001_2 t193 t194) = some r:=by rw [if_pos rfl] at H;exact H
           clear H;have H:=H1
           clear H1;have H':=AM H
           clear H;have hnb116:=NB191_168.out
           have hnc116:=NB168_191.out
           have hnb117:=NB191_177.out
           have hnc117:=NB177_191.out
           have hnb118:=NB191_190.out
           have hnc118:=NB190_191.out
           have hcz119_0 : wr.cell? ⟨gb191,0,none⟩ = some (.string x192000_3):=(blk_cell BK191.out 0).trans rfl
           have hcz119_1 : wr.cell? ⟨gb191,1,none⟩ = some (.int .i64 x192001_3):=(blk_cell BK191.out 1).trans rfl
           have hfz119_0:=blk_frozen BK191.out 0
           have hfz119_1:=blk_frozen BK191.out 1
           go_wp2_with (first|((with_reducible refine gate_callee (f:=43) rfl ?_);refine goesL_ (some 122) rfl rfl Try.func43 (by kernel_rfl) rfl #[.agg #[.string x192000_3,.int .i64 x192001_3],.int .i64 1] rfl (by (try simp only [List.map_toArray,List.map_cons,List.map_nil]);first|done|rfl|(simp only [List.length_drop,List.length_take];rfl)) ?_;(with_reducible refine (impl_TakeBits.calls k3 x192000_3 x192001_3 1 t192 t193 t194 true _ A114.out).mono ?_);rintro e w120 ⟨rfl,hb⟩;refine ⟨_,rfl,?_⟩;have n0_:=AM (RB (by (with_reducible repeat (first|apply Ra|apply Rn|apply Rd));exact HO_3.out) hb);have n1_:=AM (bB (g:=gb168) (o:=.cells #[.string x169000_1,.int .i64 x169001_1] 50 (0,0)) (by (with_reducible repeat (first|refine bN ?_ _|refine bD ?_|refine bA ?_ _));exact BK168.out) hb);have n2_:=AM (bB (g:=gb177) (o:=.cells #[.string x178000_2,.int .i64 x178001_2] 61 (0,0)) (by (with_reducible repeat (first|refine bN ?_ _|refine bD ?_|refine bA ?_ _));exact BK177.out) hb);have n3_:=AM (bB (g:=gb190) (o:=.cells #[.string t187,.int .i64 t188] 50 (0,0)) (by (with_reducible repeat (first|refine bN ?_ _|refine bD ?_|refine bA ?_ _));exact BK190.out) hb);have n4_:=AM (bB (g:=gb191) (o:=.cells #[.string x192000_3,.int .i64 x192001_3] 61 (0,0)) (by (with_reducible repeat (first|refine bN ?_ _|refine bD ?_|refine bA ?_ _));exact BK191.out) hb);have n5_:=AM (below_step (by repeat (first|(with_reducible first|exact HB.out|apply wA|apply wN|apply wD|refine wS ?_ GE168.out|refine wS ?_ GE177.out|refine wS ?_ GE190.out|refine wS ?_ GE191.out)|exact HB.out)) hb);clear HO_3;clear BK168;clear BK177;clear BK190;clear BK191;clear HB;have HO_3:=n0_;have BK168:=n1_;have BK177:=n2_;have BK190:=n3_;have BK191:=n4_;have HB:=n5_;clear n0_ n1_ n2_ n3_ n4_ n5_;(try clear hb);(try clear hb2);(try clear hk);(try clear hi))|((with_reducible refine gate_dst (N:=21) rfl ?_);refine box_event ?hg (N:=21) ?hd (cs:=#[.string (⟨#[]⟩ : ByteArray),.int .i64 0]) (t:=61) ?hr ?_;(case hd => rfl);(case hg => rfl);(case hr => first|(go_simp;done)|(go_simp;rfl));intro gb196 hg w121 hbox hb;have n0_:=AM (RB (by (with_reducible repeat (first|apply Ra|apply Rn|apply Rd));exact HO_3.out) hb);have n1_:=AM (bB (g:=gb168) (o:=.cells #[.string x169000_1,.int .i64 x169001_1] 50 (0,0)) (by (with_reducible repeat (first|refine bN ?_ _|refine bD ?_|refine bA ?_ _));exact BK168.out) hb);have n2_:=AM (bB (g:=gb177) (o:=.cells #[.string x178000_2,.int .i64 x178001_2] 61 (0,0)) (by (with_reducible repeat (first|refine bN ?_ _|refine bD ?_|refine bA ?_ _));exact BK177.out) hb);have n3_:=AM (bB (g:=gb190) (o:=.cells #[.string t187,.int .i64 t188] 50 (0,0)) (by (with_reducible repeat (first|refine bN ?_ _|refine bD ?_|refine bA ?_ _));exact BK190.out) hb);have n4_:=AM (bB (g:=gb191) (o:=.cells #[.string x192000_3,.int .i64 x192001_3] 61 (0,0)) (by (with_reducible repeat (first|refine bN ?_ _|refine bD ?_|refine bA ?_ _));exact BK191.out) hb);have n5_:=AM (below_step (by repeat (first|(with_reducible first|exact HB.out|apply wA|apply wN|apply wD|refine wS ?_ GE168.out|refine wS ?_ GE177.out|refine wS ?_ GE190.out|refine wS ?_ GE191.out)|exact HB.out)) hb);have n6_:=AM (hbox);have n7_:=AM ((by rw [hg];exact (below_size (by repeat (first|(with_reducible first|exact HB.out|apply wA|apply wN|apply wD|refine wS ?_ GE168.out|refine wS ?_ GE177.out|refine wS ?_ GE190.out|refine wS ?_ GE191.out)|exact HB.out))) : w.heap.size ≤ gb196));have n8_:=AM ((by rw [hg];exact (below_size (by repeat (first|(with_reducible first|exact HB.out|apply wA|apply wN|apply wD|refine wS ?_ GE168.out|refine wS ?_ GE177.out|refine wS ?_ GE190.out|refine wS ?_ GE191.out)|exact HB.out))) : w.heap.size ≤ gb196));have n9_:=AM ((by rw [hg];exact Nat.ne_of_lt (bL (g:=gb168) (o:=.cells #[.string x169000_1,.int .i64 x169001_1] 50 (0,0)) (by (with_reducible repeat (first|refine bN ?_ _|refine bD ?_|refine bA ?_ _));exact BK168.out)) : gb168 ≠ gb196));have n10_:=AM ((by rw [hg];exact Nat.ne_of_gt (bL (g:=gb168) (o:=.cells #[.string x169000_1,.int .i64 x169001_1] 50 (0,0)) (by (with_reducible repeat (first|refine bN ?_ _|refine bD ?_|refine bA ?_ _));exact BK168.out)) : gb196 ≠ gb168));have n11_:=AM ((by rw [hg];exact Nat.ne_of_lt (bL (g:=gb177) (o:=.cells #[.string x178000_2,.int .i64 x178001_2] 61 (0,0)) (by (with_reducible repeat (first|refine bN ?_ _|refine bD ?_|refine bA ?_ _));exact BK177.out)) : gb177 ≠ gb196));have n12_:=AM ((by rw [hg];exact Nat.ne_of_gt (bL (g:=gb177) (o:=.cells #[.string x178000_2,.int .i64 x178001_2] 61 (0,0)) (by (with_reducible repeat (first|refine bN ?_ _|refine bD ?_|refine bA ?_ _));exact BK177.out)) : gb196 ≠ gb177));have n13_:=AM ((by rw [hg];exact Nat.ne_of_lt (bL (g:=gb190) (o:=.cells #[.string t187,.int .i64 t188] 50 (0,0)) (by (with_reducible repeat (first|refine bN ?_ _|refine bD ?_|refine bA ?_ _));exact BK190.out)) : gb190 ≠ gb196));have n14_:=AM ((by rw [hg];exact Nat.ne_of_gt (bL (g:=gb190) (o:=.cells #[.string t187,.int .i64 t188] 50 (0,0)) (by (with_reducible repeat (first|refine bN ?_ _|refine bD ?_|refine bA ?_ _));exact BK190.out)) : gb196 ≠ gb190));have n15_:=AM ((by rw [hg];exact Nat.ne_of_lt (bL (g:=gb191) (o:=.cells #[.string x192000_3,.int .i64 x192001_3] 61 (0,0)) (by (with_reducible repeat (first|refine bN ?_ _|refine bD ?_|refine bA ?_ _));exact BK191.out)) : gb191 ≠ gb196));have n16_:=AM ((by rw [hg];exact Nat.ne_of_gt (bL (g:=gb191) (o:=.cells #[.string x192000_3,.int .i64 x192001_3] 61 (0,0)) (by (with_reducible repeat (first|refine bN ?_ _|refine bD ?_|refine bA ?_ _));exact BK191.out)) : gb196 ≠ gb191));clear HO_3;clear BK168;clear BK177;clear BK190;clear BK191;clear HB;have HO_3:=n0_;have BK168:=n1_;have BK177:=n2_;have BK190:=n3_;have BK191:=n4_;have HB:=n5_;have BK196:=n6_;have GW196:=n7_;have GE196:=n8_;have NB168_196:=n9_;have NB196_168:=n10_;have NB177_196:=n11_;have NB196_177:=n12_;have NB190_196:=n13_;have NB196_190:=n14_;have NB191_196:=n15_;have NB196_191:=n16_;clear n0_ n1_ n2_ n3_ n4_ n5_ n6_ n7_ n8_ n9_ n10_ n11_ n12_ n13_ n14_ n15_ n16_;clear hb hbox hg;have hnb122:=NB196_168.out;have hnc122:=NB168_196.out;have hnb123:=NB196_177.out;have hnc123:=NB177_196.out;have hnb124:=NB196_190.out;have hnc124:=NB190_196.out;have hnb125:=NB196_191.out;have hnc125:=NB191_196.out;have hcz126_0 : w121.cell? ⟨gb196,0,none⟩ = some (.string (⟨#[]⟩ : ByteArray)):=(blk_cell BK196.out 0).trans rfl;have hcz126_1 : w121.cell? ⟨gb196,1,none⟩ = some (.int .i64 0):=(blk_cell BK196.out 1).trans rfl;have hfz126_0:=blk_frozen BK196.out 0;have hfz126_1:=blk_frozen BK196.out 1;have hcz127_0 : w121.cell? ⟨gb191,0,none⟩ = some (.string x192000_3):=(blk_cell BK191.out 0).trans rfl;have hcz127_1 : w121.cell? ⟨gb191,1,none⟩ = some (.int .i64 x192001_3):=(blk_cell BK191.out 1).trans rfl;have hfz127_0:=blk_frozen BK191.out 0;have hfz127_1:=blk_frozen BK191.out 1))
           go_roundg k3
           case measure => have:=HK1.out;have:=HK2.out;have:=HK3.out;omega
           case rel => exact ⟨(wrap64 ((wrap64 (2 * x17_3)) + t192)),(wrap64 (x19_3 + 1)),(t193),(t194),(by first|rfl|(simp;done)|(simp [*];done)),(by first|rfl|(simp;done)|(simp [*];done)),H',⟨by have:=HK1.out;have:=HK2.out;have:=HK3.out;omega⟩,⟨by (with_reducible repeat (first|apply Ra|apply Rn|apply Rd));exact Kd.R_mono (Kd.R_far (p:=⟨gb191,1,none⟩) (Kd.R_far (p:=⟨gb191,0,none⟩) (Kd.R_far (p:=⟨gb196,1,none⟩) (Kd.R_far (p:=⟨gb196,0,none⟩) (Kd.R_types (Kd.R_types HO_3.out BK196.out (by decide)) BK191.out (by decide)) (fun _ hk => hk.1.2) (.string t193)) (fun _ hk => hk.1.2) (.int .i64 t194)) (fun _ hk => hk.2) (.string t193)) (fun _ hk => hk.2) (.int .i64 t194)) (fun _ hk => trivial)⟩,⟨by (with_reducible repeat (first|refine bN ?_ _|refine bD ?_|refine bA ?_ _));refine blk_far ?_ NB168_191.out _;(with_reducible repeat (first|refine bN ?_ _|refine bD ?_|refine bA ?_ _));refine blk_far ?_ NB168_191.out _;(with_reducible repeat (first|refine bN ?_ _|refine bD ?_|refine bA ?_ _));refine blk_far ?_ NB168_196.out _;(with_reducible repeat (first|refine bN ?_ _|refine bD ?_|refine bA ?_ _));refine blk_far ?_ NB168_196.out _;(with_reducible repeat (first|refine bN ?_ _|refine bD ?_|refine bA ?_ _));exact BK168.out⟩,⟨by (with_reducible repeat (first|refine bN ?_ _|refine bD ?_|refine bA ?_ _));refine blk_far ?_ NB177_191.out _;(with_reducible repeat (first|refine bN ?_ _|refine bD ?_|refine bA ?_ _));refine blk_far ?_ NB177_191.out _;(with_reducible repeat (first|refine bN ?_ _|refine bD ?_|refine bA ?_ _));refine blk_far ?_ NB177_196.out _;(with_reducible repeat (first|refine bN ?_ _|refine bD ?_|refine bA ?_ _));refine blk_far ?_ NB177_196.out _;(with_reducible repeat (first|refine bN ?_ _|refine bD ?_|refine bA ?_ _));exact BK177.out⟩,⟨by (with_reducible repeat (first|refine bN ?_ _|refine bD ?_|refine bA ?_ _));refine blk_far ?_ NB190_191.out _;(with_reducible repeat (first|refine bN ?_ _|refine bD ?_|refine bA ?_ _));refine blk_far ?_ NB190_191.out _;(with_reducible repeat (first|refine bN ?_ _|refine bD ?_|refine bA ?_ _));refine blk_far ?_ NB190_196.out _;(with_reducible repeat (first|refine bN ?_ _|refine bD ?_|refine bA ?_ _));refine blk_far ?_ NB190_196.out _;(with_reducible repeat (first|refine bN ?_ _|refine bD ?_|refine bA ?_ _));exact BK190.out⟩,⟨by (with_reducible repeat (first|refine bN ?_ _|refine bD ?_|refine bA ?_ _));refine blk_put (cs:=#[.string t193,.int .i64 x192001_3]) ?_ 1 _ rfl;(with_reducible repeat (first|refine bN ?_ _|refine bD ?_|refine bA ?_ _));refine blk_put (cs:=#[.string x192000_3,.int .i64 x192001_3]) ?_ 0 _ rfl;(with_reducible repeat (first|refine bN ?_ _|refine bD ?_|refine bA ?_ _));refine blk_far ?_ NB191_196.out _;(with_reducible repeat (first|refine bN ?_ _|refine bD ?_|refine bA ?_ _));refine blk_far ?_ NB191_196.out _;(with_reducible repeat (first|refine bN ?_ _|refine bD ?_|refine bA ?_ _));exact BK191.out⟩,⟨by repeat (first|(with_reducible first|exact HB.out|apply wA|apply wN|apply wD|refine wS ?_ GE168.out|refine wS ?_ GE177.out|refine wS ?_ GE190.out|refine wS ?_ GE191.out|refine wS ?_ GE196.out)|exact HB.out)⟩⟩
          replace c115:=Bool.eq_false_iff.mpr c115
          subst c115;have H1 : (some false) = some r:=by rw [if_neg (show ¬ (false = true) by decide)] at H;exact H
          clear H;have H:=H1
          clear H1;obtain rfl:=Option.some.inj H
          have hnb128:=NB191_168.out
          have hnc128:=NB168_191.out
          have hnb129:=NB191_177.out
          have hnc129:=NB177_191.out
          have hnb130:=NB191_190.out
          have hnc130:=NB190_191.out
          have hcz131_0 : wr.cell? ⟨gb191,0,none⟩ = some (.string x192000_3):=(blk_cell BK191.out 0).trans rfl
          have hcz131_1 : wr.cell? ⟨gb191,1,none⟩ = some (.int .i64 x192001_3):=(blk_cell BK191.out 1).trans rfl
          have hfz131_0:=blk_frozen BK191.out 0
          have hfz131_1:=blk_frozen BK191.out 1
          go_wp2_with (first|((with_reducible refine gate_callee (f:=43) rfl ?_);refine goesL_ (some 122) rfl rfl Try.func43 (by kernel_rfl) rfl #[.agg #[.string x192000_3,.int .i64 x192001_3],.int .i64 1] rfl (by (try simp only [List.map_toArray,List.map_cons,List.map_nil]);first|done|rfl|(simp only [List.length_drop,List.length_take];rfl)) ?_;(with_reducible refine (impl_TakeBits.calls k3 x192000_3 x192001_3 1 t192 t193 t194 false _ A114.out).mono ?_);rintro e w132 ⟨rfl,hb⟩;refine ⟨_,rfl,?_⟩;have n0_:=AM (RB (by (with_reducible repeat (first|apply Ra|apply Rn|apply Rd));exact HO_3.out) hb);have n1_:=AM (bB (g:=gb168) (o:=.cells #[.string x169000_1,.int .i64 x169001_1] 50 (0,0)) (by (with_reducible repeat (first|refine bN ?_ _|refine bD ?_|refine bA ?_ _));exact BK168.out) hb);have n2_:=AM (bB (g:=gb177) (o:=.cells #[.string x178000_2,.int .i64 x178001_2] 61 (0,0)) (by (with_reducible repeat (first|refine bN ?_ _|refine bD ?_|refine bA ?_ _));exact BK177.out) hb);have n3_:=AM (bB (g:=gb190) (o:=.cells #[.string t187,.int .i64 t188] 50 (0,0)) (by (with_reducible repeat (first|refine bN ?_ _|refine bD ?_|refine bA ?_ _));exact BK190.out) hb);have n4_:=AM (bB (g:=gb191) (o:=.cells #[.string x192000_3,.int .i64 x192001_3] 61 (0,0)) (by (with_reducible repeat (first|refine bN ?_ _|refine bD ?_|refine bA ?_ _));exact BK191.out) hb);have n5_:=AM (below_step (by repeat (first|(with_reducible first|exact HB.out|apply wA|apply wN|apply wD|refine wS ?_ GE168.out|refine wS ?_ GE177.out|refine wS ?_ GE190.out|refine wS ?_ GE191.out)|exact HB.out)) hb);clear HO_3;clear BK168;clear BK177;clear BK190;clear BK191;clear HB;have HO_3:=n0_;have BK168:=n1_;have BK177:=n2_;have BK190:=n3_;have BK191:=n4_;have HB:=n5_;clear n0_ n1_ n2_ n3_ n4_ n5_;(try clear hb);(try clear hb2);(try clear hk);(try clear hi))|((with_reducible refine gate_dst (N:=21) rfl ?_);refine box_event ?hg (N:=21) ?hd (cs:=#[.string (⟨#[]⟩ : ByteArray),.int .i64 0]) (t:=61) ?hr ?_;(case hd => rfl);(case hg => rfl);(case hr => first|(go_simp;done)|(go_simp;rfl));intro gb196 hg w133 hbox hb;have n0_:=AM (RB (by (with_reducible repeat (first|apply Ra|apply Rn|apply Rd));exact HO_3.out) hb);have n1_:=AM (bB (g:=gb168) (o:=.cells #[.string x169000_1,.int .i64 x169001_1] 50 (0,0)) (by (with_reducible repeat (first|refine bN ?_ _|refine bD ?_|refine bA ?_ _));exact BK168.out) hb);have n2_:=AM (bB (g:=gb177) (o:=.cells #[.string x178000_2,.int .i64 x178001_2] 61 (0,0)) (by (with_reducible repeat (first|refine bN ?_ _|refine bD ?_|refine bA ?_ _));exact BK177.out) hb);have n3_:=AM (bB (g:=gb190) (o:=.cells #[.string t187,.int .i64 t188] 50 (0,0)) (by (with_reducible repeat (first|refine bN ?_ _|refine bD ?_|refine bA ?_ _));exact BK190.out) hb);have n4_:=AM (bB (g:=gb191) (o:=.cells #[.string x192000_3,.int .i64 x192001_3] 61 (0,0)) (by (with_reducible repeat (first|refine bN ?_ _|refine bD ?_|refine bA ?_ _));exact BK191.out) hb);have n5_:=AM (below_step (by repeat (first|(with_reducible first|exact HB.out|apply wA|apply wN|apply wD|refine wS ?_ GE168.out|refine wS ?_ GE177.out|refine wS ?_ GE190.out|refine wS ?_ GE191.out)|exact HB.out)) hb);have n6_:=AM (hbox);have n7_:=AM ((by rw [hg];exact (below_size (by repeat (first|(with_reducible first|exact HB.out|apply wA|apply wN|apply wD|refine wS ?_ GE168.out|refine wS ?_ GE177.out|refine wS ?_ GE190.out|refine wS ?_ GE191.out)|exact HB.out))) : w.heap.size ≤ gb196));have n8_:=AM ((by rw [hg];exact (below_size (by repeat (first|(with_reducible first|exact HB.out|apply wA|apply wN|apply wD|refine wS ?_ GE168.out|refine wS ?_ GE177.out|refine wS ?_ GE190.out|refine wS ?_ GE191.out)|exact HB.out))) : w.heap.size ≤ gb196));have n9_:=AM ((by rw [hg];exact Nat.ne_of_lt (bL (g:=gb168) (o:=.cells #[.string x169000_1,.int .i64 x169001_1] 50 (0,0)) (by (with_reducible repeat (first|refine bN ?_ _|refine bD ?_|refine bA ?_ _));exact BK168.out)) : gb168 ≠ gb196));have n10_:=AM ((by rw [hg];exact Nat.ne_of_gt (bL (g:=gb168) (o:=.cells #[.string x169000_1,.int .i64 x169001_1] 50 (0,0)) (by (with_reducible repeat (first|refine bN ?_ _|refine bD ?_|refine bA ?_ _));exact BK168.out)) : gb196 ≠ gb168));have n11_:=AM ((by rw [hg];exact Nat.ne_of_lt (bL (g:=gb177) (o:=.cells #[.string x178000_2,.int .i64 x178001_2] 61 (0,0)) (by (with_reducible repeat (first|refine bN ?_ _|refine bD ?_|refine bA ?_ _));exact BK177.out)) : gb177 ≠ gb196));have n12_:=AM ((by rw [hg];exact Nat.ne_of_gt (bL (g:=gb177) (o:=.cells #[.string x178000_2,.int .i64 x178001_2] 61 (0,0)) (by (with_reducible repeat (first|refine bN ?_ _|refine bD ?_|refine bA ?_ _));exact BK177.out)) : gb196 ≠ gb177));have n13_:=AM ((by rw [hg];exact Nat.ne_of_lt (bL (g:=gb190) (o:=.cells #[.string t187,.int .i64 t188] 50 (0,0)) (by (with_reducible repeat (first|refine bN ?_ _|refine bD ?_|refine bA ?_ _));exact BK190.out)) : gb190 ≠ gb196));have n14_:=AM ((by rw [hg];exact Nat.ne_of_gt (bL (g:=gb190) (o:=.cells #[.string t187,.int .i64 t188] 50 (0,0)) (by (with_reducible repeat (first|refine bN ?_ _|refine bD ?_|refine bA ?_ _));exact BK190.out)) : gb196 ≠ gb190));have n15_:=AM ((by rw [hg];exact Nat.ne_of_lt (bL (g:=gb191) (o:=.cells #[.string x192000_3,.int .i64 x192001_3] 61 (0,0)) (by (with_reducible repeat (first|refine bN ?_ _|refine bD ?_|refine bA ?_ _));exact BK191.out)) : gb191 ≠ gb196));have n16_:=AM ((by rw [hg];exact Nat.ne_of_gt (bL (g:=gb191) (o:=.cells #[.string x192000_3,.int .i64 x192001_3] 61 (0,0)) (by (with_reducible repeat (first|refine bN ?_ _|refine bD ?_|refine bA ?_ _));exact BK191.out)) : gb196 ≠ gb191));clear HO_3;clear BK168;clear BK177;clear BK190;clear BK191;clear HB;have HO_3:=n0_;have BK168:=n1_;have BK177:=n2_;have BK190:=n3_;have BK191:=n4_;have HB:=n5_;have BK196:=n6_;have GW196:=n7_;have GE196:=n8_;have NB168_196:=n9_;have NB196_168:=n10_;have NB177_196:=n11_;have NB196_177:=n12_;have NB190_196:=n13_;have NB196_190:=n14_;have NB191_196:=n15_;have NB196_191:=n16_;clear n0_ n1_ n2_ n3_ n4_ n5_ n6_ n7_ n8_ n9_ n10_ n11_ n12_ n13_ n14_ n15_ n16_;clear hb hbox hg;have hnb134:=NB196_168.out;have hnc134:=NB168_196.out;have hnb135:=NB196_177.out;have hnc135:=NB177_196.out;have hnb136:=NB196_190.out;have hnc136:=NB190_196.out;have hnb137:=NB196_191.out;have hnc137:=NB191_196.out;have hcz138_0 : w133.cell? ⟨gb196,0,none⟩ = some (.string (⟨#[]⟩ : ByteArray)):=(blk_cell BK196.out 0).trans rfl;have hcz138_1 : w133.cell? ⟨gb196,1,none⟩ = some (.int .i64 0):=(blk_cell BK196.out 1).trans rfl;have hfz138_0:=blk_frozen BK196.out 0;have hfz138_1:=blk_frozen BK196.out 1))
          go_ret
          exact ⟨by first|rfl|(simp [errW_none,errW_some] <;> rfl)|(simp [*,errW_none,errW_some] <;> rfl),by repeat (first|(with_reducible first|exact HB.out|apply wA|apply wN|apply wD|refine wS ?_ GE168.out|refine wS ?_ GE177.out|refine wS ?_ GE190.out|refine wS ?_ GE191.out|refine wS ?_ GE196.out)|exact HB.out)⟩
         rw [if_neg c113] at H
         have c113b0 : decide (x19_3 < (rd t163 0)) = false:=decide_eq_false c113
         clear c113;by_cases c139 : t189 = true
         ·subst c139;have H1 : (if 0 < (t162.length : Int) then (if x17_3 = (rd t162 0) then (some (x178001_2 == x169001_1)) else (some false)) else (none)) = some r:=by rw [if_pos rfl] at H;exact H
          clear H;have H:=H1
          clear H1;by_cases c140 : 0 < (t162.length : Int)
          ·rw [if_pos c140] at H
           have c140b0 : decide (0 < (t162.length : Int)) = true:=decide_eq_true c140
           have c140b1 : decide (0 < t162.length) = true:=decide_eq_true (by omega)
           clear c140;by_cases c141 : x17_3 = (rd t162 0)
           ·rw [if_pos c141] at H
            have c141b0 : (x17_3 == (rd t162 0)) = true:=beq_iff_eq.mpr c141
            have c141b1 : (x17_3 != (rd t162 0)) = false:=bne_eq_false_iff_eq.mpr c141
            clear c141;obtain rfl:=Option.some.inj H
            have p197 : 0 ≤ (0 : Int):=(by omega)
            have q197 : 0 < (t162.length : Int):=of_decide_eq_true (by first|(with_reducible assumption)|assumption)
            obtain ⟨ad197,e197,hx197_0⟩:=Kd.at_int (Kd.R_reads' HO_3.out).2.2 0 p197 q197
            obtain rfl : ad186 = ad197:=(by injection e197)
            have qi197 : (0 < t162.length) = True:=eq_true (by omega)
            (try rw [show ((0 : Int)).toNat = 0 from rfl] at hx197_0)
            (try rw [Addr.add_zero'] at hx197_0)
            replace p197:=eq_true p197
            replace q197:=eq_true q197
            have hnb142:=NB177_168.out
            have hnc142:=NB168_177.out
            have hnb143:=NB177_190.out
            have hnc143:=NB190_177.out
            have hnb144:=NB177_191.out
            have hnc144:=NB191_177.out
            have hcz145_0 : wr.cell? ⟨gb177,0,none⟩ = some (.string x178000_2):=(blk_cell BK177.out 0).trans rfl
            have hcz145_1 : wr.cell? ⟨gb177,1,none⟩ = some (.int .i64 x178001_2):=(blk_cell BK177.out 1).trans rfl
            have hfz145_0:=blk_frozen BK177.out 0
            have hfz145_1:=blk_frozen BK177.out 1
            have hnb146:=NB168_190.out
            have hnc146:=NB190_168.out
            have hnb147:=NB168_191.out
            have hnc147:=NB191_168.out
            have hcz148_0 : wr.cell? ⟨gb168,0,none⟩ = some (.string x169000_1):=(blk_cell BK168.out 0).trans rfl
            have hcz148_1 : wr.cell? ⟨gb168,1,none⟩ = some (.int .i64 x169001_1):=(blk_cell BK168.out 1).trans rfl
            have hfz148_0:=blk_frozen BK168.out 0
            have hfz148_1:=blk_frozen BK168.out 1
            go_wp2
            go_ret
            exact ⟨by first|rfl|(simp [errW_none,errW_some] <;> rfl)|(simp [*,errW_none,errW_some] <;> rfl),by repeat (first|(with_reducible first|exact HB.out|apply wA|apply wN|apply wD|refine wS ?_ GE168.out|refine wS ?_ GE177.out|refine wS ?_ GE190.out|refine wS ?_ GE191.out)|exact HB.out)⟩
           rw [if_neg c141] at H
           have c141b0 : (x17_3 == (rd t162 0)) = false:=beq_eq_false_iff_ne.mpr c141
           have c141b1 : (x17_3 != (rd t162 0)) = true:=bne_iff_ne.mpr c141
           obtain rfl:=Option.some.inj H
           have p197 : 0 ≤ (0 : Int):=(by omega)
           have q197 : 0 < (t162.length : Int):=of_decide_eq_true (by first|(with_reducible assumption)|assumption)
           obtain ⟨ad197,e197,hx197_0⟩:=Kd.at_int (Kd.R_reads' HO_3.out).2.2 0 p197 q197
           obtain rfl : ad186 = ad197:=(by injection e197)
           have qi197 : (0 < t162.length) = True:=eq_true (by omega)
           (try rw [show ((0 : Int)).toNat = 0 from rfl] at hx197_0)
           (try rw [Addr.add_zero'] at hx197_0)
           replace p197:=eq_true p197
           replace q197:=eq_true q197
           go_wp2
           go_ret
           exact ⟨by first|rfl|(simp [errW_none,errW_some] <;> rfl)|(simp [*,errW_none,errW_some] <;> rfl),by repeat (first|(with_reducible first|exact HB.out|apply wA|apply wN|apply wD|refine wS ?_ GE168.out|refine wS ?_ GE177.out|refine wS ?_ GE190.out|refine wS ?_ GE191.out)|exact HB.out)⟩
          rw [if_neg c140] at H
          exact absurd H (by simp)
         replace c139:=Bool.eq_false_iff.mpr c139
         subst c139;have H1 : (some false) = some r:=by rw [if_neg (show ¬ (false = true) by decide)] at H;exact H
         clear H;have H:=H1
         clear H1;obtain rfl:=Option.some.inj H
         go_wp2
         go_ret
         exact ⟨by first|rfl|(simp [errW_none,errW_some] <;> rfl)|(simp [*,errW_none,errW_some] <;> rfl),by repeat (first|(with_reducible first|exact HB.out|apply wA|apply wN|apply wD|refine wS ?_ GE168.out|refine wS ?_ GE177.out|refine wS ?_ GE190.out|refine wS ?_ GE191.out)|exact HB.out)⟩
      rw [if_neg c100] at H
      exact absurd H (by simp)
     rw [if_neg c99] at H
     exact absurd H (by simp)

/-- THE ONE PURE STATEMENT of laws_FnBits: yours. -/
def laws_FnBits.Pure : Prop:=∀ (l0 : List Int),l0.length ≤ maxLen → l0.length * 1 ≤ 140737488351232 → (∀ x ∈ l0,(Lit.int .u8 x).wf = true) → ∃ k,laws_FnBits.f k l0 = some true
theorem laws_FnBits.walk (P : laws_FnBits.Pure) (w : World) (A0 : Option Addr) (c0 : Nat) (l0 : List Int) (hr0 : Kd.C (Kd.int .u8) w A0 l0.length l0) (hc0 : l0.length ≤ c0) (hm0 : l0.length ≤ maxLen) (y0 : l0.length * 1 ≤ 140737488351232) (hw0 : ∀ x ∈ l0,(Lit.int .u8 x).wf = true) :
  Calls Try.prog 10 #[.slice A0 l0.length c0] w fun e w' => e = .returned (.bool true) ∧ Below w.heap.size w w' := by
 obtain ⟨k,h⟩:=P l0 hm0 y0 hw0
 refine (laws_FnBits.calls k A0 c0 l0 true w hr0 hc0 h).mono ?_
 rintro e w' ⟨rfl,hd⟩
 exact ⟨rfl,hd⟩

end Go.Proofs.Ytfmdenifbbhmdaa.PFnBits
