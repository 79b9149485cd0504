/- Part 11 of the proof of NaturalGCD: the functions' walks and what they compute, in the order of the calls; each holds for all arguments that its row allows. -/
import Derived.Test.YtjaflmhdclmolaaDoorMNaturalGCD6
import Derived.Test.YtjaflmhdclmolaaDoorMNaturalGCD10
import Derived.Test.YtjaflmhdclmolaaDoorMNaturalGCD8
import Derived.Test.YtjaflmhdclmolaaDoorMNaturalGCD9
import Derived.Test.YtjaflmhdclmolaaDoorMNaturalGCD7
import Derived.KernelRfl
import Derived.Lib.ItoaNum
section
namespace Go.Proofs.YtjaflmhdclmolaaDoor.F
open Go.RowKit Go.Proofs.YtjaflmhdclmolaaDoorW.PrintWords Go.Proofs.YtjaflmhdclmolaaDoorW.PrintLast Go.Proofs.YtjaflmhdclmolaaDoorW.PrintMore
attribute [local go_sem] max2_int min2_int max_two min_two max_three min_three max_four min_four   
set_option linter.unusedVariables false
set_option linter.unusedSimpArgs false
def insolvencyref1_NatAdd.f (k:Nat) (a0:ByteArray) (a1:ByteArray):Option (ByteArray):=(insolvencyref1_limbs.f k a0).bind fun t692=>((insolvencyref1_limbs.f k a1).bind fun t695=>((insolvencyref1_plus.f k t692 t695).bind fun t698=>((insolvencyref1_text.f k t698).bind fun t701=>(some t701))))
theorem insolvencyref1_NatAdd.mono:∀ a0 a1 k,LeO (insolvencyref1_NatAdd.f k a0 a1) (insolvencyref1_NatAdd.f (k+1) a0 a1):=by
 intro a0 a1 k
 unfold insolvencyref1_NatAdd.f
 repeat' first
  | (with_reducible exact insolvencyref1_limbs.mono _ _)
  | (with_reducible exact insolvencyref1_plus.mono _ _ _)
  | (with_reducible exact insolvencyref1_text.mono _ _)
  | (with_reducible exact LeO.refl _)
  | (with_reducible exact LeO.none _)
  | (with_reducible refine LeO.ite ?_ ?_)
  | (with_reducible refine LeO.bind ?_ (fun _=>?_))
  | exact insolvencyref1_limbs.mono _ _
  | exact insolvencyref1_plus.mono _ _ _
  | exact insolvencyref1_text.mono _ _
  | exact LeO.none _
  | refine LeO.ite ?_ ?_
  | refine LeO.bind ?_ (fun _=>?_)
set_option maxHeartbeats 8000000 in
set_option maxRecDepth 100000 in
theorem insolvencyref1_NatAdd.calls (k:Nat) (a0:ByteArray) (a1:ByteArray) (r:ByteArray) (w:World) (h:insolvencyref1_NatAdd.f k a0 a1=some r) :
 Calls Tryd.prog 40 #[.string a0,.string a1] w fun e w'=>e = .returned (.string r)∧Below w.heap.size w w':=by
 have HB:=Aside0.mk (Below.refl w.heap.size w)
 have H:((insolvencyref1_limbs.f k a0).bind fun t692=>((insolvencyref1_limbs.f k a1).bind fun t695=>((insolvencyref1_plus.f k t692 t695).bind fun t698=>((insolvencyref1_text.f k t698).bind fun t701=>(some t701)))))=some r:=h
 clear h
 replace H:=Option.bind_eq_some_iff.mp H
 obtain ⟨t692,A30,H⟩:=H
 replace H:((insolvencyref1_limbs.f k a1).bind fun t695=>((insolvencyref1_plus.f k t692 t695).bind fun t698=>((insolvencyref1_text.f k t698).bind fun t701=>(some t701))))=some r:=H
 have A3:=Aside0.mk A30
 clear A30
 replace H:=Option.bind_eq_some_iff.mp H
 obtain ⟨t695,A40,H⟩:=H
 replace H:((insolvencyref1_plus.f k t692 t695).bind fun t698=>((insolvencyref1_text.f k t698).bind fun t701=>(some t701)))=some r:=H
 have A4:=Aside0.mk A40
 clear A40
 replace H:=Option.bind_eq_some_iff.mp H
 obtain ⟨t698,A50,H⟩:=H
 replace H:((insolvencyref1_text.f k t698).bind fun t701=>(some t701))=some r:=H
 have A5:=Aside0.mk A50
 clear A50
 replace H:=Option.bind_eq_some_iff.mp H
 obtain ⟨t701,A60,H⟩:=H
 replace H:(some t701)=some r:=H
 have A6:=Aside0.mk A60
 clear A60
 obtain rfl:=Option.some.inj H
 go_enter Tryd.func40,Tryd.ntmps40
 go_wp2_with (first|((with_reducible refine gate_callee (f:=45) rfl ?_);refine goesL_ (some 6) rfl rfl Tryd.func45 (by kernel_rfl) rfl #[.string a0] rfl (by (try simp only [List.map_toArray,List.map_cons,List.map_nil]);first|done|rfl|(simp only [List.length_drop,List.length_take];rfl)) ?_;(with_reducible refine (insolvencyref1_limbs.calls k a0 t692 _ A3.out).mono ?_);rintro e w7 ⟨v693,rfl,ho0,hb⟩;refine ⟨_,rfl,?_⟩;have n0_:=Aside0.mk (Kd.R_lower ho0 (below_size (by repeat (first|(with_reducible first|exact HB.out|apply below_alloc|apply pw_below_drewN|apply below_drew1)|exact HB.out))));have n1_:=Aside0.mk (below_step (by repeat (first|(with_reducible first|exact HB.out|apply below_alloc|apply pw_below_drewN|apply below_drew1)|exact HB.out)) hb);clear HB;have HO694:=n0_;have HB:=n1_;clear n0_ n1_;(try clear hb);(try clear hb2);(try clear hk);(try clear hi);(try clear ho0))|((with_reducible refine gate_callee (f:=45) rfl ?_);refine goesL_ (some 8) rfl rfl Tryd.func45 (by kernel_rfl) rfl #[.string a1] rfl (by (try simp only [List.map_toArray,List.map_cons,List.map_nil]);first|done|rfl|(simp only [List.length_drop,List.length_take];rfl)) ?_;(with_reducible refine (insolvencyref1_limbs.calls k a1 t695 _ A4.out).mono ?_);rintro e w8 ⟨v696,rfl,ho0,hb⟩;refine ⟨_,rfl,?_⟩;have n0_:=Aside0.mk (Kd.R_elder' (by (with_reducible repeat (first|apply Kd.R_alloc|apply Kd.R_drewN|apply Kd.R_drew));exact HO694.out) (Kd.R_base ho0) hb);have n1_:=Aside0.mk (Kd.R_lower (Kd.R_new' ho0 (Kd.R_lt (by (with_reducible repeat (first|apply Kd.R_alloc|apply Kd.R_drewN|apply Kd.R_drew));exact HO694.out))) (below_size (by repeat (first|(with_reducible first|exact HB.out|apply below_alloc|apply pw_below_drewN|apply below_drew1)|exact HB.out))));have n2_:=Aside0.mk (below_step (by repeat (first|(with_reducible first|exact HB.out|apply below_alloc|apply pw_below_drewN|apply below_drew1)|exact HB.out)) hb);clear HO694;clear HB;have HO694:=n0_;have HO697:=n1_;have HB:=n2_;clear n0_ n1_ n2_;(try clear hb);(try clear hb2);(try clear hk);(try clear hi);(try clear ho0);obtain ⟨Ao9,co9,eo9⟩:=Kd.R_slice HO694.out;subst eo9;obtain ⟨Ao10,co10,eo10⟩:=Kd.R_slice HO697.out;subst eo10)|((with_reducible refine gate_callee (f:=65) rfl ?_);refine goesL_ (some 9) rfl rfl Tryd.func65 (by kernel_rfl) rfl #[.slice Ao9 t692.length co9,.slice Ao10 t695.length co10] rfl (by (try simp only [List.map_toArray,List.map_cons,List.map_nil]);first|done|rfl|(simp only [List.length_drop,List.length_take];rfl)) ?_;(with_reducible refine (insolvencyref1_plus.calls k _ _ t692 _ _ t695 t698 _ ?side1 ?side2 ?side3 ?side4 A5.out).mono ?_);(case side1=>repeat (first|exact (Kd.R_reads' HO694.out).2.2|(with_reducible refine Kd.C_alloc ?_ _)|(with_reducible refine Kd.C_drewN ?_ _)|(with_reducible refine Kd.C_drew ?_)));(case side2=>exact (Kd.R_reads' HO694.out).2.1);(case side3=>repeat (first|exact (Kd.R_reads' HO697.out).2.2|(with_reducible refine Kd.C_alloc ?_ _)|(with_reducible refine Kd.C_drewN ?_ _)|(with_reducible refine Kd.C_drew ?_)));(case side4=>exact (Kd.R_reads' HO697.out).2.1);rintro e w11 ⟨v699,rfl,ho0,hb⟩;refine ⟨_,rfl,?_⟩;have n0_:=Aside0.mk (Kd.R_elder' (by (with_reducible repeat (first|apply Kd.R_alloc|apply Kd.R_drewN|apply Kd.R_drew));exact HO694.out) (Kd.R_base ho0) hb);have n1_:=Aside0.mk (Kd.R_elder' (by (with_reducible repeat (first|apply Kd.R_alloc|apply Kd.R_drewN|apply Kd.R_drew));exact HO697.out) (Kd.R_base ho0) hb);have n2_:=Aside0.mk (Kd.R_lower (Kd.R_new' (Kd.R_new' ho0 (Kd.R_lt (by (with_reducible repeat (first|apply Kd.R_alloc|apply Kd.R_drewN|apply Kd.R_drew));exact HO694.out))) (Kd.R_lt (by (with_reducible repeat (first|apply Kd.R_alloc|apply Kd.R_drewN|apply Kd.R_drew));exact HO697.out))) (below_size (by repeat (first|(with_reducible first|exact HB.out|apply below_alloc|apply pw_below_drewN|apply below_drew1)|exact HB.out))));have n3_:=Aside0.mk (below_step (by repeat (first|(with_reducible first|exact HB.out|apply below_alloc|apply pw_below_drewN|apply below_drew1)|exact HB.out)) hb);clear HO694;clear HO697;clear HB;have HO694:=n0_;have HO697:=n1_;have HO700:=n2_;have HB:=n3_;clear n0_ n1_ n2_ n3_;(try clear hb);(try clear hb2);(try clear hk);(try clear hi);(try clear ho0);obtain ⟨Ao12,co12,eo12⟩:=Kd.R_slice HO700.out;subst eo12)|((with_reducible refine gate_callee (f:=47) rfl ?_);refine goesL_ (some 10) rfl rfl Tryd.func47 (by kernel_rfl) rfl #[.slice Ao12 t698.length co12] rfl (by (try simp only [List.map_toArray,List.map_cons,List.map_nil]);first|done|rfl|(simp only [List.length_drop,List.length_take];rfl)) ?_;(with_reducible refine (insolvencyref1_text.calls k (fun k_=>some k_=(.slice Ao12 t698.length co12:Value).ownBlock) (.slice Ao12 t698.length co12) t698 t701 w _ ?side1 ?side2 A6.out).mono ?_);(case side1=>repeat (first|(with_reducible first|exact HB.out|apply below_alloc|apply pw_below_drewN|apply below_drew1)|exact HB.out));(case side2=>exact Kd.R_tight rfl HO700.out);rintro e w13 ⟨rfl,hb,hkp⟩;refine ⟨_,rfl,?_⟩;have n0_:=Aside0.mk (Kd.R_mono (ok':=fun k_=>some k_≠(.slice Ao10 t695.length co10:Value).ownBlock) (Kd.R_keptB (HO694.out) hkp (fun k_ hk_ hs_=>(hk_.2) hs_)) (fun k_ hk_=>hk_.1.1.2));have n1_:=Aside0.mk (Kd.R_mono (ok':=fun k_=>some k_≠(.slice Ao9 t692.length co9:Value).ownBlock) (Kd.R_keptB (HO697.out) hkp (fun k_ hk_ hs_=>(hk_.2) hs_)) (fun k_ hk_=>hk_.1.1.2));have n2_:=Aside0.mk (hb);clear HO694;clear HO697;clear HB;clear HO700;have HO694:=n0_;have HO697:=n1_;have HB:=n2_;clear n0_ n1_ n2_;(try clear hb);(try clear hkp)))
 go_ret
 exact ⟨by first|rfl|(simp [errW_none,errW_some] <;> rfl)|(simp [*,errW_none,errW_some] <;> rfl),by repeat (first|(with_reducible first|exact HB.out|apply below_alloc|apply pw_below_drewN|apply below_drew1)|exact HB.out)⟩
end Go.Proofs.YtjaflmhdclmolaaDoor.F
end
section
namespace Go.Proofs.YtjaflmhdclmolaaDoor.F
open Go.RowKit Go.Proofs.YtjaflmhdclmolaaDoorW.PrintWords Go.Proofs.YtjaflmhdclmolaaDoorW.PrintLast Go.Proofs.YtjaflmhdclmolaaDoorW.PrintMore
attribute [local go_sem] max2_int min2_int max_two min_two max_three min_three max_four min_four   
set_option linter.unusedVariables false
set_option linter.unusedSimpArgs false
def insolvencyref1_minus.l0:Nat→List Int→List Int→List Int→Int→Int→Option (List Int)
 | 0,_,_,_,_,_=>none
 | k+1,x0,x1,x5,x6,x7=>if x7<(x0.length:Int) then (if x7<(x1.length:Int) then (if 0≤x7 then (if (IntKind.u64.wrap (rd x0 x7))<(IntKind.u64.wrap (x6+(IntKind.u64.wrap (rd x1 x7)))) then (if x7<(x5.length:Int) then (insolvencyref1_minus.l0 k x0 x1 (x5.set (x7:Int).toNat ((IntKind.u64.wrap ((IntKind.u64.wrap ((IntKind.u64.wrap (rd x0 x7))+4294967296))-(IntKind.u64.wrap (x6+(IntKind.u64.wrap (rd x1 x7))))))%4294967296)) 1 (wrap64 (x7+1))) else (none)) else (if x7<(x5.length:Int) then (insolvencyref1_minus.l0 k x0 x1 (x5.set (x7:Int).toNat ((IntKind.u64.wrap ((IntKind.u64.wrap (rd x0 x7))-(IntKind.u64.wrap (x6+(IntKind.u64.wrap (rd x1 x7))))))%4294967296)) 0 (wrap64 (x7+1))) else (none))) else (none)) else (if 0≤x7 then (if (IntKind.u64.wrap (rd x0 x7))<x6 then (if x7<(x5.length:Int) then (insolvencyref1_minus.l0 k x0 x1 (x5.set (x7:Int).toNat ((IntKind.u64.wrap ((IntKind.u64.wrap ((IntKind.u64.wrap (rd x0 x7))+4294967296))-x6))%4294967296)) 1 (wrap64 (x7+1))) else (none)) else (if x7<(x5.length:Int) then (insolvencyref1_minus.l0 k x0 x1 (x5.set (x7:Int).toNat ((IntKind.u64.wrap ((IntKind.u64.wrap (rd x0 x7))-x6))%4294967296)) 0 (wrap64 (x7+1))) else (none))) else (none))) else ((insolvencyref1_strip.f k x5).bind fun t656=>(some t656))
def insolvencyref1_minus.f (k:Nat) (l0:List Int) (l1:List Int):Option (List Int):=if 0≤(l0.length:Int) then (if ((l0.length:Int):Int).toNat≤70368744177664 then (insolvencyref1_minus.l0 k l0 l1 (List.replicate ((l0.length:Int):Int).toNat 0) 0 0) else (none)) else (none)
theorem insolvencyref1_minus.mono_l:∀ k,(∀ y0 y1 y2 y3 y4,LeO (insolvencyref1_minus.l0 k y0 y1 y2 y3 y4) (insolvencyref1_minus.l0 (k+1) y0 y1 y2 y3 y4))
 | 0=>fun _ _ _ _ _ r h=>by simp [insolvencyref1_minus.l0] at h
 | k+1=>by
  have ih0:=insolvencyref1_minus.mono_l k
  ·intro y0 y1 y2 y3 y4
   unfold insolvencyref1_minus.l0
   repeat' first
   | (with_reducible exact ih0 _ _ _ _ _)
   | (with_reducible exact insolvencyref1_strip.mono _ _)
   | (with_reducible exact LeO.refl _)
   | (with_reducible exact LeO.none _)
   | (with_reducible refine LeO.ite ?_ ?_)
   | (with_reducible refine LeO.bind ?_ (fun _=>?_))
   | exact ih0 _ _ _ _ _
   | exact insolvencyref1_strip.mono _ _
   | exact LeO.none _
   | refine LeO.ite ?_ ?_
   | refine LeO.bind ?_ (fun _=>?_)
theorem insolvencyref1_minus.mono:∀ a0 a1 k,LeO (insolvencyref1_minus.f k a0 a1) (insolvencyref1_minus.f (k+1) a0 a1):=by
 intro a0 a1 k
 have ih0:=insolvencyref1_minus.mono_l k
 unfold insolvencyref1_minus.f
 repeat' first
  | (with_reducible exact ih0 _ _ _ _ _)
  | (with_reducible exact insolvencyref1_strip.mono _ _)
  | (with_reducible exact LeO.refl _)
  | (with_reducible exact LeO.none _)
  | (with_reducible refine LeO.ite ?_ ?_)
  | (with_reducible refine LeO.bind ?_ (fun _=>?_))
  | exact ih0 _ _ _ _ _
  | exact insolvencyref1_strip.mono _ _
  | exact LeO.none _
  | refine LeO.ite ?_ ?_
  | refine LeO.bind ?_ (fun _=>?_)
set_option maxHeartbeats 8000000 in
set_option maxRecDepth 100000 in
theorem insolvencyref1_minus.calls (k:Nat) (A0:Option Addr) (c0:Nat) (l0:List Int) (A1:Option Addr) (c1:Nat) (l1:List Int) (r:List Int) (w:World) (hr0:Kd.C (Kd.int .u32) w A0 l0.length l0) (hc0:l0.length≤c0) (hr1:Kd.C (Kd.int .u32) w A1 l1.length l1) (hc1:l1.length≤c1) (h:insolvencyref1_minus.f k l0 l1=some r) :
 Calls Tryd.prog 64 #[.slice A0 l0.length c0,.slice A1 l1.length c1] w fun e w'=>∃ v0_:Value,e = .returned (v0_)∧Kd.R (Kd.int .u32) 60 w' w.heap.size (fun _=>True) v0_ r∧Below w.heap.size w w':=by
 have HR0:=Aside0.mk hr0
 have HC0:=Aside0.mk hc0
 clear hr0 hc0
 have HR1:=Aside0.mk hr1
 have HC1:=Aside0.mk hc1
 clear hr1 hc1
 have HB:=Aside0.mk (Below.refl w.heap.size w)
 have H:(if 0≤(l0.length:Int) then (if ((l0.length:Int):Int).toNat≤70368744177664 then (insolvencyref1_minus.l0 k l0 l1 (List.replicate ((l0.length:Int):Int).toNat 0) 0 0) else (none)) else (none))=some r:=h
 clear h
 by_cases c3:0≤(l0.length:Int)
 ·rw [if_pos c3] at H
  have c3b0:=eq_true c3
  have c3b1:decide (0≤(l0.length:Int))=true:=decide_eq_true c3
  clear c3
  by_cases c4:((l0.length:Int):Int).toNat≤70368744177664
  ·rw [if_pos c4] at H
   have c4b0:=eq_true c4
   have c4b1:decide (((l0.length:Int):Int).toNat≤70368744177664)=true:=decide_eq_true c4
   clear c4
   obtain ⟨y653,hy653⟩:∃ y_:List Int,y_=(List.replicate ((l0.length:Int):Int).toNat 0):=⟨_,rfl⟩
   replace H:(insolvencyref1_minus.l0 k l0 l1 y653 0 0)=some r:=by first|(rw [hy653];with_reducible exact H)|(have H2_:=(Option.bind_some _ _).symm.trans H;rw [hy653];with_reducible exact H2_)|(have H2_:=(Option.bind_some _ _).symm.trans H;with_reducible exact H2_)|with_reducible exact H|(rw [hy653];exact H)|exact H
   have Ny653:=Aside0.mk hy653
   clear hy653
   have H':=Aside0.mk H
   clear H
   go_enter Tryd.func64,Tryd.ntmps64
   go_wp2_with (first|((with_reducible refine gate_dst (N:=12) rfl ?_);refine Kd.R_make (Kd.int .u32) _ 60 rfl (N:=12) rfl 49 _ _ rfl (l0.length:Int) rfl rfl Tryd.underlying49 (.int .u32 0) 4 info60 rfl (by decide) (by omega) 0 (ok:=fun _=>True) (okp:=fun _=>True) rfl (fun _ hk=>hk) trivial (of_decide_eq_true (by first|(with_reducible assumption)|assumption)) (Nat.le_trans (Nat.mul_le_mul_right _ (of_decide_eq_true (by first|(with_reducible assumption)|assumption):(l0.length:Int).toNat≤70368744177664)) (by omega)) (Below.refl _ _) (Nat.le_refl _) ?_;intro v654 w5 ho6 hb hg_ hnew_;clear hg_ hnew_;(first|rw [← Ny653.out] at ho6|(simp only [Int.reduceToNat] at ho6;rw [← Ny653.out] at ho6));have n0_:=Aside0.mk (Kd.R_lower ho6 (below_size (by repeat (first|(with_reducible first|exact HB.out|apply below_alloc|apply pw_below_drewN|apply below_drew1)|exact HB.out))));have n1_:=Aside0.mk (below_step (by repeat (first|(with_reducible first|exact HB.out|apply below_alloc|apply pw_below_drewN|apply below_drew1)|exact HB.out)) hb);clear HB;have HO655:=n0_;have HB:=n1_;clear n0_ n1_;clear hb ho6))
   go_loopg [6,7] k (fun kq v6 v7 w'=>∃ (x5_1:List Int) (x6_1:Int) (x7_1:Int),v6 = .int .u64 x6_1∧v7 = .int .i64 x7_1∧Aside0 (insolvencyref1_minus.l0 kq l0 l1 x5_1 x6_1 x7_1=some r)∧Aside0 (kq≤k)∧Aside0 (Kd.R (Kd.int .u32) 60 w' w.heap.size (fun _=>True) v654 x5_1)∧Aside0 (Below w.heap.size w w'))
   case atStart=>exact ⟨(y653),(0),(0),(by first|rfl|(simp;done)|(simp [*];done)),(by first|rfl|(simp;done)|(simp [*];done)),H',⟨Nat.le_refl _⟩,⟨by (with_reducible repeat (first|apply Kd.R_alloc|apply Kd.R_drewN|apply Kd.R_drew));exact HO655.out⟩,⟨by repeat (first|(with_reducible first|exact HB.out|apply below_alloc|apply pw_below_drewN|apply below_drew1)|exact HB.out)⟩⟩
   case round=>
    clear H'
    try clear c1
    try clear p2
    try clear c3
    try clear c3b0
    try clear c3b1
    try clear c4
    try clear c4b0
    try clear c4b1
    try clear c6
    obtain ⟨x5_1,x6_1,x7_1,rfl,rfl,HA,HK1,HO_5,HB⟩:=hrel
    cases gk with
    | zero=>exact absurd HA.out (by simp [insolvencyref1_minus.l0])
    | succ k1=>
     have H:=HA.out
     clear HA
     simp only [insolvencyref1_minus.l0] at H
     by_cases c7:x7_1<(l0.length:Int)
     ·rw [if_pos c7] at H
      have c7b0:decide (x7_1<(l0.length:Int))=true:=decide_eq_true c7
      clear c7
      by_cases c8:x7_1<(l1.length:Int)
      ·rw [if_pos c8] at H
       have c8b0:decide (x7_1<(l1.length:Int))=true:=decide_eq_true c8
       clear c8
       by_cases c9:0≤x7_1
       ·rw [if_pos c9] at H
        have c9b0:decide (0≤x7_1)=true:=decide_eq_true c9
        clear c9
        by_cases c10:(IntKind.u64.wrap (rd l0 x7_1))<(IntKind.u64.wrap (x6_1+(IntKind.u64.wrap (rd l1 x7_1))))
        ·rw [if_pos c10] at H
         have c10b0:decide ((IntKind.u64.wrap (rd l0 x7_1))<(IntKind.u64.wrap (x6_1+(IntKind.u64.wrap (rd l1 x7_1)))))=true:=decide_eq_true c10
         clear c10
         by_cases c11:x7_1<(x5_1.length:Int)
         ·rw [if_pos c11] at H
          have c11b0:decide (x7_1<(x5_1.length:Int))=true:=decide_eq_true c11
          clear c11
          obtain ⟨y661,hy661⟩:∃ y_:List Int,y_=(x5_1.set (x7_1:Int).toNat ((IntKind.u64.wrap ((IntKind.u64.wrap ((IntKind.u64.wrap (rd l0 x7_1))+4294967296))-(IntKind.u64.wrap (x6_1+(IntKind.u64.wrap (rd l1 x7_1))))))%4294967296)):=⟨_,rfl⟩
          replace H:(insolvencyref1_minus.l0 k1 l0 l1 y661 1 (wrap64 (x7_1+1)))=some r:=by first|(rw [hy661];with_reducible exact H)|(have H2_:=(Option.bind_some _ _).symm.trans H;rw [hy661];with_reducible exact H2_)|(have H2_:=(Option.bind_some _ _).symm.trans H;with_reducible exact H2_)|with_reducible exact H|(rw [hy661];exact H)|exact H
          have Ny661:=Aside0.mk hy661
          clear hy661
          have H':=Aside0.mk H
          clear H
          have p659:0≤(x7_1:Int):=of_decide_eq_true (by first|(with_reducible assumption)|assumption)
          have q659:x7_1<(l1.length:Int):=of_decide_eq_true (by first|(with_reducible assumption)|assumption)
          obtain ⟨ad659,e659,hx659_0⟩:=Kd.at_int HR1.out x7_1 p659 q659
          cases e659
          replace hx659_0:=(HB.out.cell (World.block_lt_of_cell? w _ hx659_0)).trans hx659_0
          replace p659:=eq_true p659
          replace q659:=eq_true q659
          have p660:0≤(x7_1:Int):=of_decide_eq_true (by first|(with_reducible assumption)|assumption)
          have q660:x7_1<(l0.length:Int):=of_decide_eq_true (by first|(with_reducible assumption)|assumption)
          obtain ⟨ad660,e660,hx660_0⟩:=Kd.at_int HR0.out x7_1 p660 q660
          cases e660
          replace hx660_0:=(HB.out.cell (World.block_lt_of_cell? w _ hx660_0)).trans hx660_0
          replace p660:=eq_true p660
          replace q660:=eq_true q660
          have p12:0≤(x7_1:Int):=of_decide_eq_true (by first|(with_reducible assumption)|assumption)
          have q12:(x7_1:Int)<((x5_1.length:Int):Int):=of_decide_eq_true (by first|(with_reducible assumption)|assumption)
          obtain ⟨go12,co12,eo12,gb12,gl12,cl12,HG12⟩:=Kd.R_form HO_5.out (by omega)
          (first|cases eo12|(injection eo12 with ea_ en_ ec_;(first|subst ea_|(injection ea_ with ea_;subst ea_));subst ec_;clear en_))
          have GB12:=Aside0.mk gb12
          have GG12:=Aside0.mk HG12
          clear gb12 gl12 HG12
          obtain ⟨hx12_0,hf12_0⟩:=Kd.R_celln 0 HO_5.out (x7_1:Int) p12 q12
          replace p12:=eq_true p12
          replace q12:=eq_true q12
          have HP13:=Kd.R_putg HO_5.out (x7_1:Int) ((IntKind.u64.wrap ((IntKind.u64.wrap ((IntKind.u64.wrap (rd l0 x7_1))+4294967296))-(IntKind.u64.wrap (x6_1+(IntKind.u64.wrap (rd l1 x7_1))))))%4294967296)
          go_wp2_with (first|((with_reducible refine gate_store (t:=60) (p:=47) rfl ?_);refine store_event (t:=60) (p:=47) (v:=?vo_w14) (w1:=(wr.setCell ⟨go12,(x7_1:Int).toNat,none⟩ (.int .u32 ((IntKind.u64.wrap ((IntKind.u64.wrap ((IntKind.u64.wrap (rd l0 x7_1))+4294967296))-(IntKind.u64.wrap (x6_1+(IntKind.u64.wrap (rd l1 x7_1))))))%4294967296)))) ?hg ?ho ?hn ?hr ?_;(case ho=>rfl);(case hg=>rfl);(case hn=>rfl);(case hr=>first|(go_simp;done)|(go_simp;rfl));intro w14 hw;have hg:wr.grownBy w14 (some go12):=(by rw [hw];exact HP13.2);have hp_:Kd.R (Kd.int .u32) 60 w14 w.heap.size (fun _=>True) (.slice (some ⟨go12,0,none⟩) x5_1.length co12) y661:=(by rw [hw,Ny661.out];exact HP13.1);clear HP13;have n0_:=Aside0.mk (hp_);have n1_:=Aside0.mk ((by rw [hw];exact below_set (HB.out) GB12.out:Below w.heap.size w w14));clear HO_5;clear HB;have HO_5:=n0_;have HB:=n1_;clear n0_ n1_;clear hg hw hp_))
          go_roundg k1
          case measure=>have:=HK1.out;omega
          case rel=>exact ⟨(y661),(1),(wrap64 (x7_1+1)),(by first|rfl|(simp;done)|(simp [*];done)),(by first|rfl|(simp;done)|(simp [*];done)),H',⟨by have:=HK1.out;omega⟩,⟨by (with_reducible repeat (first|apply Kd.R_alloc|apply Kd.R_drewN|apply Kd.R_drew));exact HO_5.out⟩,⟨by repeat (first|(with_reducible first|exact HB.out|apply below_alloc|apply pw_below_drewN|apply below_drew1)|exact HB.out)⟩⟩
         ·rw [if_neg c11] at H
          exact absurd H (by simp)
        ·rw [if_neg c10] at H
         have c10b0:decide ((IntKind.u64.wrap (rd l0 x7_1))<(IntKind.u64.wrap (x6_1+(IntKind.u64.wrap (rd l1 x7_1)))))=false:=decide_eq_false c10
         clear c10
         by_cases c15:x7_1<(x5_1.length:Int)
         ·rw [if_pos c15] at H
          have c15b0:decide (x7_1<(x5_1.length:Int))=true:=decide_eq_true c15
          clear c15
          obtain ⟨y662,hy662⟩:∃ y_:List Int,y_=(x5_1.set (x7_1:Int).toNat ((IntKind.u64.wrap ((IntKind.u64.wrap (rd l0 x7_1))-(IntKind.u64.wrap (x6_1+(IntKind.u64.wrap (rd l1 x7_1))))))%4294967296)):=⟨_,rfl⟩
          replace H:(insolvencyref1_minus.l0 k1 l0 l1 y662 0 (wrap64 (x7_1+1)))=some r:=by first|(rw [hy662];with_reducible exact H)|(have H2_:=(Option.bind_some _ _).symm.trans H;rw [hy662];with_reducible exact H2_)|(have H2_:=(Option.bind_some _ _).symm.trans H;with_reducible exact H2_)|with_reducible exact H|(rw [hy662];exact H)|exact H
          have Ny662:=Aside0.mk hy662
          clear hy662
          have H':=Aside0.mk H
          clear H
          have p659:0≤(x7_1:Int):=of_decide_eq_true (by first|(with_reducible assumption)|assumption)
          have q659:x7_1<(l1.length:Int):=of_decide_eq_true (by first|(with_reducible assumption)|assumption)
          obtain ⟨ad659,e659,hx659_0⟩:=Kd.at_int HR1.out x7_1 p659 q659
          cases e659
          replace hx659_0:=(HB.out.cell (World.block_lt_of_cell? w _ hx659_0)).trans hx659_0
          replace p659:=eq_true p659
          replace q659:=eq_true q659
          have p660:0≤(x7_1:Int):=of_decide_eq_true (by first|(with_reducible assumption)|assumption)
          have q660:x7_1<(l0.length:Int):=of_decide_eq_true (by first|(with_reducible assumption)|assumption)
          obtain ⟨ad660,e660,hx660_0⟩:=Kd.at_int HR0.out x7_1 p660 q660
          cases e660
          replace hx660_0:=(HB.out.cell (World.block_lt_of_cell? w _ hx660_0)).trans hx660_0
          replace p660:=eq_true p660
          replace q660:=eq_true q660
          have p16:0≤(x7_1:Int):=of_decide_eq_true (by first|(with_reducible assumption)|assumption)
          have q16:(x7_1:Int)<((x5_1.length:Int):Int):=of_decide_eq_true (by first|(with_reducible assumption)|assumption)
          obtain ⟨go16,co16,eo16,gb16,gl16,cl16,HG16⟩:=Kd.R_form HO_5.out (by omega)
          (first|cases eo16|(injection eo16 with ea_ en_ ec_;(first|subst ea_|(injection ea_ with ea_;subst ea_));subst ec_;clear en_))
          have GB16:=Aside0.mk gb16
          have GG16:=Aside0.mk HG16
          clear gb16 gl16 HG16
          obtain ⟨hx16_0,hf16_0⟩:=Kd.R_celln 0 HO_5.out (x7_1:Int) p16 q16
          replace p16:=eq_true p16
          replace q16:=eq_true q16
          have HP17:=Kd.R_putg HO_5.out (x7_1:Int) ((IntKind.u64.wrap ((IntKind.u64.wrap (rd l0 x7_1))-(IntKind.u64.wrap (x6_1+(IntKind.u64.wrap (rd l1 x7_1))))))%4294967296)
          go_wp2_with (first|((with_reducible refine gate_store (t:=60) (p:=47) rfl ?_);refine store_event (t:=60) (p:=47) (v:=?vo_w18) (w1:=(wr.setCell ⟨go16,(x7_1:Int).toNat,none⟩ (.int .u32 ((IntKind.u64.wrap ((IntKind.u64.wrap (rd l0 x7_1))-(IntKind.u64.wrap (x6_1+(IntKind.u64.wrap (rd l1 x7_1))))))%4294967296)))) ?hg ?ho ?hn ?hr ?_;(case ho=>rfl);(case hg=>rfl);(case hn=>rfl);(case hr=>first|(go_simp;done)|(go_simp;rfl));intro w18 hw;have hg:wr.grownBy w18 (some go16):=(by rw [hw];exact HP17.2);have hp_:Kd.R (Kd.int .u32) 60 w18 w.heap.size (fun _=>True) (.slice (some ⟨go16,0,none⟩) x5_1.length co16) y662:=(by rw [hw,Ny662.out];exact HP17.1);clear HP17;have n0_:=Aside0.mk (hp_);have n1_:=Aside0.mk ((by rw [hw];exact below_set (HB.out) GB16.out:Below w.heap.size w w18));clear HO_5;clear HB;have HO_5:=n0_;have HB:=n1_;clear n0_ n1_;clear hg hw hp_))
          go_roundg k1
          case measure=>have:=HK1.out;omega
          case rel=>exact ⟨(y662),(0),(wrap64 (x7_1+1)),(by first|rfl|(simp;done)|(simp [*];done)),(by first|rfl|(simp;done)|(simp [*];done)),H',⟨by have:=HK1.out;omega⟩,⟨by (with_reducible repeat (first|apply Kd.R_alloc|apply Kd.R_drewN|apply Kd.R_drew));exact HO_5.out⟩,⟨by repeat (first|(with_reducible first|exact HB.out|apply below_alloc|apply pw_below_drewN|apply below_drew1)|exact HB.out)⟩⟩
         ·rw [if_neg c15] at H
          exact absurd H (by simp)
       ·rw [if_neg c9] at H
        exact absurd H (by simp)
      ·rw [if_neg c8] at H
       have c8b0:decide (x7_1<(l1.length:Int))=false:=decide_eq_false c8
       clear c8
       by_cases c19:0≤x7_1
       ·rw [if_pos c19] at H
        have c19b0:decide (0≤x7_1)=true:=decide_eq_true c19
        clear c19
        by_cases c20:(IntKind.u64.wrap (rd l0 x7_1))<x6_1
        ·rw [if_pos c20] at H
         have c20b0:decide ((IntKind.u64.wrap (rd l0 x7_1))<x6_1)=true:=decide_eq_true c20
         clear c20
         by_cases c21:x7_1<(x5_1.length:Int)
         ·rw [if_pos c21] at H
          have c21b0:decide (x7_1<(x5_1.length:Int))=true:=decide_eq_true c21
          clear c21
          obtain ⟨y664,hy664⟩:∃ y_:List Int,y_=(x5_1.set (x7_1:Int).toNat ((IntKind.u64.wrap ((IntKind.u64.wrap ((IntKind.u64.wrap (rd l0 x7_1))+4294967296))-x6_1))%4294967296)):=⟨_,rfl⟩
          replace H:(insolvencyref1_minus.l0 k1 l0 l1 y664 1 (wrap64 (x7_1+1)))=some r:=by first|(rw [hy664];with_reducible exact H)|(have H2_:=(Option.bind_some _ _).symm.trans H;rw [hy664];with_reducible exact H2_)|(have H2_:=(Option.bind_some _ _).symm.trans H;with_reducible exact H2_)|with_reducible exact H|(rw [hy664];exact H)|exact H
          have Ny664:=Aside0.mk hy664
          clear hy664
          have H':=Aside0.mk H
          clear H
          have p663:0≤(x7_1:Int):=of_decide_eq_true (by first|(with_reducible assumption)|assumption)
          have q663:x7_1<(l0.length:Int):=of_decide_eq_true (by first|(with_reducible assumption)|assumption)
          obtain ⟨ad663,e663,hx663_0⟩:=Kd.at_int HR0.out x7_1 p663 q663
          cases e663
          replace hx663_0:=(HB.out.cell (World.block_lt_of_cell? w _ hx663_0)).trans hx663_0
          replace p663:=eq_true p663
          replace q663:=eq_true q663
          have p22:0≤(x7_1:Int):=of_decide_eq_true (by first|(with_reducible assumption)|assumption)
          have q22:(x7_1:Int)<((x5_1.length:Int):Int):=of_decide_eq_true (by first|(with_reducible assumption)|assumption)
          obtain ⟨go22,co22,eo22,gb22,gl22,cl22,HG22⟩:=Kd.R_form HO_5.out (by omega)
          (first|cases eo22|(injection eo22 with ea_ en_ ec_;(first|subst ea_|(injection ea_ with ea_;subst ea_));subst ec_;clear en_))
          have GB22:=Aside0.mk gb22
          have GG22:=Aside0.mk HG22
          clear gb22 gl22 HG22
          obtain ⟨hx22_0,hf22_0⟩:=Kd.R_celln 0 HO_5.out (x7_1:Int) p22 q22
          replace p22:=eq_true p22
          replace q22:=eq_true q22
          have HP23:=Kd.R_putg HO_5.out (x7_1:Int) ((IntKind.u64.wrap ((IntKind.u64.wrap ((IntKind.u64.wrap (rd l0 x7_1))+4294967296))-x6_1))%4294967296)
          go_wp2_with (first|((with_reducible refine gate_store (t:=60) (p:=47) rfl ?_);refine store_event (t:=60) (p:=47) (v:=?vo_w24) (w1:=(wr.setCell ⟨go22,(x7_1:Int).toNat,none⟩ (.int .u32 ((IntKind.u64.wrap ((IntKind.u64.wrap ((IntKind.u64.wrap (rd l0 x7_1))+4294967296))-x6_1))%4294967296)))) ?hg ?ho ?hn ?hr ?_;(case ho=>rfl);(case hg=>rfl);(case hn=>rfl);(case hr=>first|(go_simp;done)|(go_simp;rfl));intro w24 hw;have hg:wr.grownBy w24 (some go22):=(by rw [hw];exact HP23.2);have hp_:Kd.R (Kd.int .u32) 60 w24 w.heap.size (fun _=>True) (.slice (some ⟨go22,0,none⟩) x5_1.length co22) y664:=(by rw [hw,Ny664.out];exact HP23.1);clear HP23;have n0_:=Aside0.mk (hp_);have n1_:=Aside0.mk ((by rw [hw];exact below_set (HB.out) GB22.out:Below w.heap.size w w24));clear HO_5;clear HB;have HO_5:=n0_;have HB:=n1_;clear n0_ n1_;clear hg hw hp_))
          go_roundg k1
          case measure=>have:=HK1.out;omega
          case rel=>exact ⟨(y664),(1),(wrap64 (x7_1+1)),(by first|rfl|(simp;done)|(simp [*];done)),(by first|rfl|(simp;done)|(simp [*];done)),H',⟨by have:=HK1.out;omega⟩,⟨by (with_reducible repeat (first|apply Kd.R_alloc|apply Kd.R_drewN|apply Kd.R_drew));exact HO_5.out⟩,⟨by repeat (first|(with_reducible first|exact HB.out|apply below_alloc|apply pw_below_drewN|apply below_drew1)|exact HB.out)⟩⟩
         ·rw [if_neg c21] at H
          exact absurd H (by simp)
        ·rw [if_neg c20] at H
         have c20b0:decide ((IntKind.u64.wrap (rd l0 x7_1))<x6_1)=false:=decide_eq_false c20
         clear c20
         by_cases c25:x7_1<(x5_1.length:Int)
         ·rw [if_pos c25] at H
          have c25b0:decide (x7_1<(x5_1.length:Int))=true:=decide_eq_true c25
          clear c25
          obtain ⟨y665,hy665⟩:∃ y_:List Int,y_=(x5_1.set (x7_1:Int).toNat ((IntKind.u64.wrap ((IntKind.u64.wrap (rd l0 x7_1))-x6_1))%4294967296)):=⟨_,rfl⟩
          replace H:(insolvencyref1_minus.l0 k1 l0 l1 y665 0 (wrap64 (x7_1+1)))=some r:=by first|(rw [hy665];with_reducible exact H)|(have H2_:=(Option.bind_some _ _).symm.trans H;rw [hy665];with_reducible exact H2_)|(have H2_:=(Option.bind_some _ _).symm.trans H;with_reducible exact H2_)|with_reducible exact H|(rw [hy665];exact H)|exact H
          have Ny665:=Aside0.mk hy665
          clear hy665
          have H':=Aside0.mk H
          clear H
          have p663:0≤(x7_1:Int):=of_decide_eq_true (by first|(with_reducible assumption)|assumption)
          have q663:x7_1<(l0.length:Int):=of_decide_eq_true (by first|(with_reducible assumption)|assumption)
          obtain ⟨ad663,e663,hx663_0⟩:=Kd.at_int HR0.out x7_1 p663 q663
          cases e663
          replace hx663_0:=(HB.out.cell (World.block_lt_of_cell? w _ hx663_0)).trans hx663_0
          replace p663:=eq_true p663
          replace q663:=eq_true q663
          have p26:0≤(x7_1:Int):=of_decide_eq_true (by first|(with_reducible assumption)|assumption)
          have q26:(x7_1:Int)<((x5_1.length:Int):Int):=of_decide_eq_true (by first|(with_reducible assumption)|assumption)
          obtain ⟨go26,co26,eo26,gb26,gl26,cl26,HG26⟩:=Kd.R_form HO_5.out (by omega)
          (first|cases eo26|(injection eo26 with ea_ en_ ec_;(first|subst ea_|(injection ea_ with ea_;subst ea_));subst ec_;clear en_))
          have GB26:=Aside0.mk gb26
          have GG26:=Aside0.mk HG26
          clear gb26 gl26 HG26
          obtain ⟨hx26_0,hf26_0⟩:=Kd.R_celln 0 HO_5.out (x7_1:Int) p26 q26
          replace p26:=eq_true p26
          replace q26:=eq_true q26
          have HP27:=Kd.R_putg HO_5.out (x7_1:Int) ((IntKind.u64.wrap ((IntKind.u64.wrap (rd l0 x7_1))-x6_1))%4294967296)
          go_wp2_with (first|((with_reducible refine gate_store (t:=60) (p:=47) rfl ?_);refine store_event (t:=60) (p:=47) (v:=?vo_w28) (w1:=(wr.setCell ⟨go26,(x7_1:Int).toNat,none⟩ (.int .u32 ((IntKind.u64.wrap ((IntKind.u64.wrap (rd l0 x7_1))-x6_1))%4294967296)))) ?hg ?ho ?hn ?hr ?_;(case ho=>rfl);(case hg=>rfl);(case hn=>rfl);(case hr=>first|(go_simp;done)|(go_simp;rfl));intro w28 hw;have hg:wr.grownBy w28 (some go26):=(by rw [hw];exact HP27.2);have hp_:Kd.R (Kd.int .u32) 60 w28 w.heap.size (fun _=>True) (.slice (some ⟨go26,0,none⟩) x5_1.length co26) y665:=(by rw [hw,Ny665.out];exact HP27.1);clear HP27;have n0_:=Aside0.mk (hp_);have n1_:=Aside0.mk ((by rw [hw];exact below_set (HB.out) GB26.out:Below w.heap.size w w28));clear HO_5;clear HB;have HO_5:=n0_;have HB:=n1_;clear n0_ n1_;clear hg hw hp_))
          go_roundg k1
          case measure=>have:=HK1.out;omega
          case rel=>exact ⟨(y665),(0),(wrap64 (x7_1+1)),(by first|rfl|(simp;done)|(simp [*];done)),(by first|rfl|(simp;done)|(simp [*];done)),H',⟨by have:=HK1.out;omega⟩,⟨by (with_reducible repeat (first|apply Kd.R_alloc|apply Kd.R_drewN|apply Kd.R_drew));exact HO_5.out⟩,⟨by repeat (first|(with_reducible first|exact HB.out|apply below_alloc|apply pw_below_drewN|apply below_drew1)|exact HB.out)⟩⟩
         ·rw [if_neg c25] at H
          exact absurd H (by simp)
       ·rw [if_neg c19] at H
        exact absurd H (by simp)
     ·rw [if_neg c7] at H
      have c7b0:decide (x7_1<(l0.length:Int))=false:=decide_eq_false c7
      clear c7
      replace H:=Option.bind_eq_some_iff.mp H
      obtain ⟨t656,A290,H⟩:=H
      replace H:(some t656)=some r:=H
      have A29:=Aside0.mk A290
      clear A290
      obtain rfl:=Option.some.inj H
      obtain ⟨Ao30,co30,eo30⟩:=Kd.R_slice HO_5.out
      subst eo30
      go_wp2_with (first|((with_reducible refine gate_callee (f:=75) rfl ?_);refine goesL_ (some 49) rfl rfl Tryd.func75 (by kernel_rfl) rfl #[.slice Ao30 x5_1.length co30] rfl (by (try simp only [List.map_toArray,List.map_cons,List.map_nil]);first|done|rfl|(simp only [List.length_drop,List.length_take];rfl)) ?_;(with_reducible refine (insolvencyref1_strip.calls k1 (fun k_=>some k_=(.slice Ao30 x5_1.length co30:Value).ownBlock) (.slice Ao30 x5_1.length co30) x5_1 t656 w _ ?side1 ?side2 A29.out).mono ?_);(case side1=>repeat (first|(with_reducible first|exact HB.out|apply below_alloc|apply pw_below_drewN|apply below_drew1)|exact HB.out));(case side2=>exact Kd.R_tight rfl HO_5.out);rintro e w31 ⟨v657,rfl,ho0,hb,hkp⟩;refine ⟨_,rfl,?_⟩;have n0_:=Aside0.mk (Kd.R_mono (ok':=fun k_=>True) ho0 (fun k_ hk_=>trivial));have n1_:=Aside0.mk (hb);clear HB;clear HO_5;have HO658:=n0_;have HB:=n1_;clear n0_ n1_;(try clear hb);(try clear hkp);(try clear ho0)))
      go_ret
      exact ⟨_,by first|rfl|(simp [errW_none,errW_some] <;> rfl)|(simp [*,errW_none,errW_some] <;> rfl),by (with_reducible repeat (first|apply Kd.R_alloc|apply Kd.R_drewN|apply Kd.R_drew));exact HO658.out,by repeat (first|(with_reducible first|exact HB.out|apply below_alloc|apply pw_below_drewN|apply below_drew1)|exact HB.out)⟩
  ·rw [if_neg c4] at H
   exact absurd H (by simp)
 ·rw [if_neg c3] at H
  exact absurd H (by simp)
end Go.Proofs.YtjaflmhdclmolaaDoor.F
end
section
namespace Go.Proofs.YtjaflmhdclmolaaDoor.F
open Go.RowKit Go.Proofs.YtjaflmhdclmolaaDoorW.PrintWords Go.Proofs.YtjaflmhdclmolaaDoorW.PrintLast Go.Proofs.YtjaflmhdclmolaaDoorW.PrintMore
attribute [local go_sem] max2_int min2_int max_two min_two max_three min_three max_four min_four   
set_option linter.unusedVariables false
set_option linter.unusedSimpArgs false
def insolvencyref1_NatSubtract.f (k:Nat) (a0:ByteArray) (a1:ByteArray):Option (ByteArray×Bool):=(insolvencyref1_limbs.f k a0).bind fun t666=>((insolvencyref1_limbs.f k a1).bind fun t669=>((insolvencyref1_order.f k t666 t669).bind fun t672=>(if t672<0 then (some ((⟨#[]⟩:ByteArray),false)) else ((insolvencyref1_minus.f k t666 t669).bind fun t673=>((insolvencyref1_text.f k t673).bind fun t676=>(some (t676,true)))))))
theorem insolvencyref1_NatSubtract.mono:∀ a0 a1 k,LeO (insolvencyref1_NatSubtract.f k a0 a1) (insolvencyref1_NatSubtract.f (k+1) a0 a1):=by
 intro a0 a1 k
 unfold insolvencyref1_NatSubtract.f
 repeat' first
  | (with_reducible exact insolvencyref1_limbs.mono _ _)
  | (with_reducible exact insolvencyref1_minus.mono _ _ _)
  | (with_reducible exact insolvencyref1_order.mono _ _ _)
  | (with_reducible exact insolvencyref1_text.mono _ _)
  | (with_reducible exact LeO.refl _)
  | (with_reducible exact LeO.none _)
  | (with_reducible refine LeO.ite ?_ ?_)
  | (with_reducible refine LeO.bind ?_ (fun _=>?_))
  | exact insolvencyref1_limbs.mono _ _
  | exact insolvencyref1_minus.mono _ _ _
  | exact insolvencyref1_order.mono _ _ _
  | exact insolvencyref1_text.mono _ _
  | exact LeO.none _
  | refine LeO.ite ?_ ?_
  | refine LeO.bind ?_ (fun _=>?_)
set_option maxHeartbeats 8000000 in
set_option maxRecDepth 100000 in
theorem insolvencyref1_NatSubtract.calls (k:Nat) (a0:ByteArray) (a1:ByteArray) (r1:ByteArray) (r2:Bool) (w:World) (h:insolvencyref1_NatSubtract.f k a0 a1=some (r1,r2)) :
 Calls Tryd.prog 39 #[.string a0,.string a1] w fun e w'=>e = .returned (.tuple #[.string r1,.bool r2])∧Below w.heap.size w w':=by
 have HB:=Aside0.mk (Below.refl w.heap.size w)
 have H:((insolvencyref1_limbs.f k a0).bind fun t666=>((insolvencyref1_limbs.f k a1).bind fun t669=>((insolvencyref1_order.f k t666 t669).bind fun t672=>(if t672<0 then (some ((⟨#[]⟩:ByteArray),false)) else ((insolvencyref1_minus.f k t666 t669).bind fun t673=>((insolvencyref1_text.f k t673).bind fun t676=>(some (t676,true))))))))=some (r1,r2):=h
 clear h
 replace H:=Option.bind_eq_some_iff.mp H
 obtain ⟨t666,A30,H⟩:=H
 replace H:((insolvencyref1_limbs.f k a1).bind fun t669=>((insolvencyref1_order.f k t666 t669).bind fun t672=>(if t672<0 then (some ((⟨#[]⟩:ByteArray),false)) else ((insolvencyref1_minus.f k t666 t669).bind fun t673=>((insolvencyref1_text.f k t673).bind fun t676=>(some (t676,true)))))))=some (r1,r2):=H
 have A3:=Aside0.mk A30
 clear A30
 replace H:=Option.bind_eq_some_iff.mp H
 obtain ⟨t669,A40,H⟩:=H
 replace H:((insolvencyref1_order.f k t666 t669).bind fun t672=>(if t672<0 then (some ((⟨#[]⟩:ByteArray),false)) else ((insolvencyref1_minus.f k t666 t669).bind fun t673=>((insolvencyref1_text.f k t673).bind fun t676=>(some (t676,true))))))=some (r1,r2):=H
 have A4:=Aside0.mk A40
 clear A40
 replace H:=Option.bind_eq_some_iff.mp H
 obtain ⟨t672,A50,H⟩:=H
 replace H:(if t672<0 then (some ((⟨#[]⟩:ByteArray),false)) else ((insolvencyref1_minus.f k t666 t669).bind fun t673=>((insolvencyref1_text.f k t673).bind fun t676=>(some (t676,true)))))=some (r1,r2):=H
 have A5:=Aside0.mk A50
 clear A50
 by_cases c6:t672<0
 ·rw [if_pos c6] at H
  have c6b0:decide (t672<0)=true:=decide_eq_true c6
  clear c6
  simp only [Option.some.injEq,Prod.mk.injEq] at H
  obtain ⟨rfl,rfl⟩:=H
  go_enter Tryd.func39,Tryd.ntmps39
  go_wp2_with (first|((with_reducible refine gate_callee (f:=45) rfl ?_);refine goesL_ (some 9) rfl rfl Tryd.func45 (by kernel_rfl) rfl #[.string a0] rfl (by (try simp only [List.map_toArray,List.map_cons,List.map_nil]);first|done|rfl|(simp only [List.length_drop,List.length_take];rfl)) ?_;(with_reducible refine (insolvencyref1_limbs.calls k a0 t666 _ A3.out).mono ?_);rintro e w7 ⟨v667,rfl,ho0,hb⟩;refine ⟨_,rfl,?_⟩;have n0_:=Aside0.mk (Kd.R_lower ho0 (below_size (by repeat (first|(with_reducible first|exact HB.out|apply below_alloc|apply pw_below_drewN|apply below_drew1)|exact HB.out))));have n1_:=Aside0.mk (below_step (by repeat (first|(with_reducible first|exact HB.out|apply below_alloc|apply pw_below_drewN|apply below_drew1)|exact HB.out)) hb);clear HB;have HO668:=n0_;have HB:=n1_;clear n0_ n1_;(try clear hb);(try clear hb2);(try clear hk);(try clear hi);(try clear ho0))|((with_reducible refine gate_callee (f:=45) rfl ?_);refine goesL_ (some 11) rfl rfl Tryd.func45 (by kernel_rfl) rfl #[.string a1] rfl (by (try simp only [List.map_toArray,List.map_cons,List.map_nil]);first|done|rfl|(simp only [List.length_drop,List.length_take];rfl)) ?_;(with_reducible refine (insolvencyref1_limbs.calls k a1 t669 _ A4.out).mono ?_);rintro e w8 ⟨v670,rfl,ho0,hb⟩;refine ⟨_,rfl,?_⟩;have n0_:=Aside0.mk (Kd.R_elder' (by (with_reducible repeat (first|apply Kd.R_alloc|apply Kd.R_drewN|apply Kd.R_drew));exact HO668.out) (Kd.R_base ho0) hb);have n1_:=Aside0.mk (Kd.R_lower (Kd.R_new' ho0 (Kd.R_lt (by (with_reducible repeat (first|apply Kd.R_alloc|apply Kd.R_drewN|apply Kd.R_drew));exact HO668.out))) (below_size (by repeat (first|(with_reducible first|exact HB.out|apply below_alloc|apply pw_below_drewN|apply below_drew1)|exact HB.out))));have n2_:=Aside0.mk (below_step (by repeat (first|(with_reducible first|exact HB.out|apply below_alloc|apply pw_below_drewN|apply below_drew1)|exact HB.out)) hb);clear HO668;clear HB;have HO668:=n0_;have HO671:=n1_;have HB:=n2_;clear n0_ n1_ n2_;(try clear hb);(try clear hb2);(try clear hk);(try clear hi);(try clear ho0);obtain ⟨Ao9,co9,eo9⟩:=Kd.R_slice HO668.out;subst eo9;obtain ⟨Ao10,co10,eo10⟩:=Kd.R_slice HO671.out;subst eo10)|((with_reducible refine gate_callee (f:=60) rfl ?_);refine goesL_ (some 14) rfl rfl Tryd.func60 (by kernel_rfl) rfl #[.slice Ao9 t666.length co9,.slice Ao10 t669.length co10] rfl (by (try simp only [List.map_toArray,List.map_cons,List.map_nil]);first|done|rfl|(simp only [List.length_drop,List.length_take];rfl)) ?_;(with_reducible refine (insolvencyref1_order.calls k _ _ t666 _ _ t669 t672 _ ?side1 ?side2 ?side3 ?side4 A5.out).mono ?_);(case side1=>repeat (first|exact (Kd.R_reads' HO668.out).2.2|(with_reducible refine Kd.C_alloc ?_ _)|(with_reducible refine Kd.C_drewN ?_ _)|(with_reducible refine Kd.C_drew ?_)));(case side2=>exact (Kd.R_reads' HO668.out).2.1);(case side3=>repeat (first|exact (Kd.R_reads' HO671.out).2.2|(with_reducible refine Kd.C_alloc ?_ _)|(with_reducible refine Kd.C_drewN ?_ _)|(with_reducible refine Kd.C_drew ?_)));(case side4=>exact (Kd.R_reads' HO671.out).2.1);rintro e w' ⟨rfl,⟨nd,rfl⟩⟩;refine ⟨_,rfl,?_⟩))
  go_ret2
  exact ⟨by first|rfl|(simp [errW_none,errW_some] <;> rfl)|(simp [*,errW_none,errW_some] <;> rfl),by repeat (first|(with_reducible first|exact HB.out|apply below_alloc|apply pw_below_drewN|apply below_drew1)|exact HB.out)⟩
 ·rw [if_neg c6] at H
  have c6b0:decide (t672<0)=false:=decide_eq_false c6
  clear c6
  replace H:=Option.bind_eq_some_iff.mp H
  obtain ⟨t673,A110,H⟩:=H
  replace H:((insolvencyref1_text.f k t673).bind fun t676=>(some (t676,true)))=some (r1,r2):=H
  have A11:=Aside0.mk A110
  clear A110
  replace H:=Option.bind_eq_some_iff.mp H
  obtain ⟨t676,A120,H⟩:=H
  replace H:(some (t676,true))=some (r1,r2):=H
  have A12:=Aside0.mk A120
  clear A120
  simp only [Option.some.injEq,Prod.mk.injEq] at H
  obtain ⟨rfl,rfl⟩:=H
  go_enter Tryd.func39,Tryd.ntmps39
  go_wp2_with (first|((with_reducible refine gate_callee (f:=45) rfl ?_);refine goesL_ (some 9) rfl rfl Tryd.func45 (by kernel_rfl) rfl #[.string a0] rfl (by (try simp only [List.map_toArray,List.map_cons,List.map_nil]);first|done|rfl|(simp only [List.length_drop,List.length_take];rfl)) ?_;(with_reducible refine (insolvencyref1_limbs.calls k a0 t666 _ A3.out).mono ?_);rintro e w13 ⟨v667,rfl,ho0,hb⟩;refine ⟨_,rfl,?_⟩;have n0_:=Aside0.mk (Kd.R_lower ho0 (below_size (by repeat (first|(with_reducible first|exact HB.out|apply below_alloc|apply pw_below_drewN|apply below_drew1)|exact HB.out))));have n1_:=Aside0.mk (below_step (by repeat (first|(with_reducible first|exact HB.out|apply below_alloc|apply pw_below_drewN|apply below_drew1)|exact HB.out)) hb);clear HB;have HO668:=n0_;have HB:=n1_;clear n0_ n1_;(try clear hb);(try clear hb2);(try clear hk);(try clear hi);(try clear ho0))|((with_reducible refine gate_callee (f:=45) rfl ?_);refine goesL_ (some 11) rfl rfl Tryd.func45 (by kernel_rfl) rfl #[.string a1] rfl (by (try simp only [List.map_toArray,List.map_cons,List.map_nil]);first|done|rfl|(simp only [List.length_drop,List.length_take];rfl)) ?_;(with_reducible refine (insolvencyref1_limbs.calls k a1 t669 _ A4.out).mono ?_);rintro e w14 ⟨v670,rfl,ho0,hb⟩;refine ⟨_,rfl,?_⟩;have n0_:=Aside0.mk (Kd.R_elder' (by (with_reducible repeat (first|apply Kd.R_alloc|apply Kd.R_drewN|apply Kd.R_drew));exact HO668.out) (Kd.R_base ho0) hb);have n1_:=Aside0.mk (Kd.R_lower (Kd.R_new' ho0 (Kd.R_lt (by (with_reducible repeat (first|apply Kd.R_alloc|apply Kd.R_drewN|apply Kd.R_drew));exact HO668.out))) (below_size (by repeat (first|(with_reducible first|exact HB.out|apply below_alloc|apply pw_below_drewN|apply below_drew1)|exact HB.out))));have n2_:=Aside0.mk (below_step (by repeat (first|(with_reducible first|exact HB.out|apply below_alloc|apply pw_below_drewN|apply below_drew1)|exact HB.out)) hb);clear HO668;clear HB;have HO668:=n0_;have HO671:=n1_;have HB:=n2_;clear n0_ n1_ n2_;(try clear hb);(try clear hb2);(try clear hk);(try clear hi);(try clear ho0);obtain ⟨Ao15,co15,eo15⟩:=Kd.R_slice HO668.out;subst eo15;obtain ⟨Ao16,co16,eo16⟩:=Kd.R_slice HO671.out;subst eo16)|((with_reducible refine gate_callee (f:=60) rfl ?_);refine goesL_ (some 14) rfl rfl Tryd.func60 (by kernel_rfl) rfl #[.slice Ao15 t666.length co15,.slice Ao16 t669.length co16] rfl (by (try simp only [List.map_toArray,List.map_cons,List.map_nil]);first|done|rfl|(simp only [List.length_drop,List.length_take];rfl)) ?_;(with_reducible refine (insolvencyref1_order.calls k _ _ t666 _ _ t669 t672 _ ?side1 ?side2 ?side3 ?side4 A5.out).mono ?_);(case side1=>repeat (first|exact (Kd.R_reads' HO668.out).2.2|(with_reducible refine Kd.C_alloc ?_ _)|(with_reducible refine Kd.C_drewN ?_ _)|(with_reducible refine Kd.C_drew ?_)));(case side2=>exact (Kd.R_reads' HO668.out).2.1);(case side3=>repeat (first|exact (Kd.R_reads' HO671.out).2.2|(with_reducible refine Kd.C_alloc ?_ _)|(with_reducible refine Kd.C_drewN ?_ _)|(with_reducible refine Kd.C_drew ?_)));(case side4=>exact (Kd.R_reads' HO671.out).2.1);rintro e w' ⟨rfl,⟨nd,rfl⟩⟩;refine ⟨_,rfl,?_⟩)|((with_reducible refine gate_callee (f:=64) rfl ?_);refine goesL_ (some 18) rfl rfl Tryd.func64 (by kernel_rfl) rfl #[.slice Ao15 t666.length co15,.slice Ao16 t669.length co16] rfl (by (try simp only [List.map_toArray,List.map_cons,List.map_nil]);first|done|rfl|(simp only [List.length_drop,List.length_take];rfl)) ?_;(with_reducible refine (insolvencyref1_minus.calls k _ _ t666 _ _ t669 t673 _ ?side1 ?side2 ?side3 ?side4 A11.out).mono ?_);(case side1=>repeat (first|exact (Kd.R_reads' HO668.out).2.2|(with_reducible refine Kd.C_alloc ?_ _)|(with_reducible refine Kd.C_drewN ?_ _)|(with_reducible refine Kd.C_drew ?_)));(case side2=>exact (Kd.R_reads' HO668.out).2.1);(case side3=>repeat (first|exact (Kd.R_reads' HO671.out).2.2|(with_reducible refine Kd.C_alloc ?_ _)|(with_reducible refine Kd.C_drewN ?_ _)|(with_reducible refine Kd.C_drew ?_)));(case side4=>exact (Kd.R_reads' HO671.out).2.1);rintro e w17 ⟨v674,rfl,ho0,hb⟩;refine ⟨_,rfl,?_⟩;have n0_:=Aside0.mk (Kd.R_elder' (by (with_reducible repeat (first|apply Kd.R_alloc|apply Kd.R_drewN|apply Kd.R_drew));exact HO668.out) (Kd.R_base ho0) hb);have n1_:=Aside0.mk (Kd.R_elder' (by (with_reducible repeat (first|apply Kd.R_alloc|apply Kd.R_drewN|apply Kd.R_drew));exact HO671.out) (Kd.R_base ho0) hb);have n2_:=Aside0.mk (Kd.R_lower (Kd.R_new' (Kd.R_new' ho0 (Kd.R_lt (by (with_reducible repeat (first|apply Kd.R_alloc|apply Kd.R_drewN|apply Kd.R_drew));exact HO668.out))) (Kd.R_lt (by (with_reducible repeat (first|apply Kd.R_alloc|apply Kd.R_drewN|apply Kd.R_drew));exact HO671.out))) (below_size (by repeat (first|(with_reducible first|exact HB.out|apply below_alloc|apply pw_below_drewN|apply below_drew1)|exact HB.out))));have n3_:=Aside0.mk (below_step (by repeat (first|(with_reducible first|exact HB.out|apply below_alloc|apply pw_below_drewN|apply below_drew1)|exact HB.out)) hb);clear HO668;clear HO671;clear HB;have HO668:=n0_;have HO671:=n1_;have HO675:=n2_;have HB:=n3_;clear n0_ n1_ n2_ n3_;(try clear hb);(try clear hb2);(try clear hk);(try clear hi);(try clear ho0);obtain ⟨Ao18,co18,eo18⟩:=Kd.R_slice HO675.out;subst eo18)|((with_reducible refine gate_callee (f:=47) rfl ?_);refine goesL_ (some 19) rfl rfl Tryd.func47 (by kernel_rfl) rfl #[.slice Ao18 t673.length co18] rfl (by (try simp only [List.map_toArray,List.map_cons,List.map_nil]);first|done|rfl|(simp only [List.length_drop,List.length_take];rfl)) ?_;(with_reducible refine (insolvencyref1_text.calls k (fun k_=>some k_=(.slice Ao18 t673.length co18:Value).ownBlock) (.slice Ao18 t673.length co18) t673 t676 w _ ?side1 ?side2 A12.out).mono ?_);(case side1=>repeat (first|(with_reducible first|exact HB.out|apply below_alloc|apply pw_below_drewN|apply below_drew1)|exact HB.out));(case side2=>exact Kd.R_tight rfl HO675.out);rintro e w19 ⟨rfl,hb,hkp⟩;refine ⟨_,rfl,?_⟩;have n0_:=Aside0.mk (Kd.R_mono (ok':=fun k_=>some k_≠(.slice Ao16 t669.length co16:Value).ownBlock) (Kd.R_keptB (HO668.out) hkp (fun k_ hk_ hs_=>(hk_.2) hs_)) (fun k_ hk_=>hk_.1.1.2));have n1_:=Aside0.mk (Kd.R_mono (ok':=fun k_=>some k_≠(.slice Ao15 t666.length co15:Value).ownBlock) (Kd.R_keptB (HO671.out) hkp (fun k_ hk_ hs_=>(hk_.2) hs_)) (fun k_ hk_=>hk_.1.1.2));have n2_:=Aside0.mk (hb);clear HO668;clear HO671;clear HB;clear HO675;have HO668:=n0_;have HO671:=n1_;have HB:=n2_;clear n0_ n1_ n2_;(try clear hb);(try clear hkp)))
  go_ret2
  exact ⟨by first|rfl|(simp [errW_none,errW_some] <;> rfl)|(simp [*,errW_none,errW_some] <;> rfl),by repeat (first|(with_reducible first|exact HB.out|apply below_alloc|apply pw_below_drewN|apply below_drew1)|exact HB.out)⟩
end Go.Proofs.YtjaflmhdclmolaaDoor.F
end
section
namespace Go.Proofs.YtjaflmhdclmolaaDoor.F
open Go.RowKit Go.Proofs.YtjaflmhdclmolaaDoorW.PrintWords Go.Proofs.YtjaflmhdclmolaaDoorW.PrintLast Go.Proofs.YtjaflmhdclmolaaDoorW.PrintMore
attribute [local go_sem] max2_int min2_int max_two min_two max_three min_three max_four min_four   
set_option linter.unusedVariables false
set_option linter.unusedSimpArgs false
mutual
def insolvencyref1_times.l0:Nat→List Int→List Int→List Int→Int→Option (List Int)
 | 0,_,_,_,_=>none
 | k+1,x0,x1,x5,x6=>if x6<(x0.length:Int) then (insolvencyref1_times.l1 k x0 x1 x5 x6 0 0) else ((insolvencyref1_strip.f k x5).bind fun t582=>(some t582))
def insolvencyref1_times.l1:Nat→List Int→List Int→List Int→Int→Int→Int→Option (List Int)
 | 0,_,_,_,_,_,_=>none
 | k+1,x0,x1,x5,x6,x7,x8=>if x8<(x1.length:Int) then (if 0≤x6 then (if x6<(x0.length:Int) then (if 0≤x8 then (if 0≤(wrap64 (x6+x8)) then (if (wrap64 (x6+x8))<(x5.length:Int) then (insolvencyref1_times.l1 k x0 x1 (x5.set ((wrap64 (x6+x8)):Int).toNat ((IntKind.u64.wrap ((IntKind.u64.wrap (x7+(IntKind.u64.wrap ((IntKind.u64.wrap (rd x0 x6))*(IntKind.u64.wrap (rd x1 x8))))))+(IntKind.u64.wrap (rd x5 (wrap64 (x6+x8))))))%4294967296)) x6 ((IntKind.u64.wrap ((IntKind.u64.wrap (x7+(IntKind.u64.wrap ((IntKind.u64.wrap (rd x0 x6))*(IntKind.u64.wrap (rd x1 x8))))))+(IntKind.u64.wrap (rd x5 (wrap64 (x6+x8))))))/4294967296) (wrap64 (x8+1))) else (none)) else (none)) else (none)) else (none)) else (none)) else (if 0≤(wrap64 (x6+(x1.length:Int))) then (if (wrap64 (x6+(x1.length:Int)))<(x5.length:Int) then (insolvencyref1_times.l0 k x0 x1 (x5.set ((wrap64 (x6+(x1.length:Int))):Int).toNat ((x7)%4294967296)) (wrap64 (x6+1))) else (none)) else (none))
end
def insolvencyref1_times.f (k:Nat) (l0:List Int) (l1:List Int):Option (List Int):=if 0≤(wrap64 ((l0.length:Int)+(l1.length:Int))) then (if (wrap64 ((l0.length:Int)+(l1.length:Int)):Int).toNat≤70368744177664 then (insolvencyref1_times.l0 k l0 l1 (List.replicate (wrap64 ((l0.length:Int)+(l1.length:Int)):Int).toNat 0) 0) else (none)) else (none)
theorem insolvencyref1_times.mono_l:∀ k,(∀ y0 y1 y2 y3,LeO (insolvencyref1_times.l0 k y0 y1 y2 y3) (insolvencyref1_times.l0 (k+1) y0 y1 y2 y3))∧(∀ y0 y1 y2 y3 y4 y5,LeO (insolvencyref1_times.l1 k y0 y1 y2 y3 y4 y5) (insolvencyref1_times.l1 (k+1) y0 y1 y2 y3 y4 y5))
 | 0=>⟨fun _ _ _ _ r h=>by simp [insolvencyref1_times.l0] at h,fun _ _ _ _ _ _ r h=>by simp [insolvencyref1_times.l1] at h⟩
 | k+1=>by
  obtain ⟨ih0,ih1⟩:=insolvencyref1_times.mono_l k
  refine ⟨?_,?_⟩
  ·intro y0 y1 y2 y3
   unfold insolvencyref1_times.l0
   repeat' first
   | (with_reducible exact ih0 _ _ _ _)
   | (with_reducible exact ih1 _ _ _ _ _ _)
   | (with_reducible exact insolvencyref1_strip.mono _ _)
   | (with_reducible exact LeO.refl _)
   | (with_reducible exact LeO.none _)
   | (with_reducible refine LeO.ite ?_ ?_)
   | (with_reducible refine LeO.bind ?_ (fun _=>?_))
   | exact ih0 _ _ _ _
   | exact ih1 _ _ _ _ _ _
   | exact insolvencyref1_strip.mono _ _
   | exact LeO.none _
   | refine LeO.ite ?_ ?_
   | refine LeO.bind ?_ (fun _=>?_)
  ·intro y0 y1 y2 y3 y4 y5
   unfold insolvencyref1_times.l1
   repeat' first
   | (with_reducible exact ih0 _ _ _ _)
   | (with_reducible exact ih1 _ _ _ _ _ _)
   | (with_reducible exact insolvencyref1_strip.mono _ _)
   | (with_reducible exact LeO.refl _)
   | (with_reducible exact LeO.none _)
   | (with_reducible refine LeO.ite ?_ ?_)
   | (with_reducible refine LeO.bind ?_ (fun _=>?_))
   | exact ih0 _ _ _ _
   | exact ih1 _ _ _ _ _ _
   | exact insolvencyref1_strip.mono _ _
   | exact LeO.none _
   | refine LeO.ite ?_ ?_
   | refine LeO.bind ?_ (fun _=>?_)
theorem insolvencyref1_times.mono:∀ a0 a1 k,LeO (insolvencyref1_times.f k a0 a1) (insolvencyref1_times.f (k+1) a0 a1):=by
 intro a0 a1 k
 obtain ⟨ih0,ih1⟩:=insolvencyref1_times.mono_l k
 unfold insolvencyref1_times.f
 repeat' first
  | (with_reducible exact ih0 _ _ _ _)
  | (with_reducible exact ih1 _ _ _ _ _ _)
  | (with_reducible exact insolvencyref1_strip.mono _ _)
  | (with_reducible exact LeO.refl _)
  | (with_reducible exact LeO.none _)
  | (with_reducible refine LeO.ite ?_ ?_)
  | (with_reducible refine LeO.bind ?_ (fun _=>?_))
  | exact ih0 _ _ _ _
  | exact ih1 _ _ _ _ _ _
  | exact insolvencyref1_strip.mono _ _
  | exact LeO.none _
  | refine LeO.ite ?_ ?_
  | refine LeO.bind ?_ (fun _=>?_)
set_option maxHeartbeats 8000000 in
set_option maxRecDepth 100000 in
theorem insolvencyref1_times.calls (k:Nat) (A0:Option Addr) (c0:Nat) (l0:List Int) (A1:Option Addr) (c1:Nat) (l1:List Int) (r:List Int) (w:World) (hr0:Kd.C (Kd.int .u32) w A0 l0.length l0) (hc0:l0.length≤c0) (hr1:Kd.C (Kd.int .u32) w A1 l1.length l1) (hc1:l1.length≤c1) (h:insolvencyref1_times.f k l0 l1=some r) :
 Calls Tryd.prog 61 #[.slice A0 l0.length c0,.slice A1 l1.length c1] w fun e w'=>∃ v0_:Value,e = .returned (v0_)∧Kd.R (Kd.int .u32) 60 w' w.heap.size (fun _=>True) v0_ r∧Below w.heap.size w w':=by
 have HR0:=Aside0.mk hr0
 have HC0:=Aside0.mk hc0
 clear hr0 hc0
 have HR1:=Aside0.mk hr1
 have HC1:=Aside0.mk hc1
 clear hr1 hc1
 have HB:=Aside0.mk (Below.refl w.heap.size w)
 have H:(if 0≤(wrap64 ((l0.length:Int)+(l1.length:Int))) then (if (wrap64 ((l0.length:Int)+(l1.length:Int)):Int).toNat≤70368744177664 then (insolvencyref1_times.l0 k l0 l1 (List.replicate (wrap64 ((l0.length:Int)+(l1.length:Int)):Int).toNat 0) 0) else (none)) else (none))=some r:=h
 clear h
 obtain ⟨ji3,hji3⟩:∃ j_:Int,(wrap64 ((l0.length:Int)+(l1.length:Int)))=j_:=⟨_,rfl⟩
 replace H:(if 0≤(ji3) then (if (ji3:Int).toNat≤70368744177664 then (insolvencyref1_times.l0 k l0 l1 (List.replicate (ji3:Int).toNat 0) 0) else (none)) else (none))=some r:=by first|(rw [hji3] at H;exact H)|(simp only [hji3] at H ⊢;exact H)
 have hji3w:(IntKind.i64.wrap ((l0.length:Int)+(l1.length:Int)))=ji3:=(i64_w _).trans hji3
 by_cases c4:0≤(ji3)
 ·rw [if_pos c4] at H
  have c4b0:=eq_true c4
  have c4b1:decide (0≤(ji3))=true:=decide_eq_true c4
  clear c4
  by_cases c5:(ji3:Int).toNat≤70368744177664
  ·rw [if_pos c5] at H
   have c5b0:=eq_true c5
   have c5b1:decide ((ji3:Int).toNat≤70368744177664)=true:=decide_eq_true c5
   clear c5
   obtain ⟨y579,hy579⟩:∃ y_:List Int,y_=(List.replicate (ji3:Int).toNat 0):=⟨_,rfl⟩
   replace H:(insolvencyref1_times.l0 k l0 l1 y579 0)=some r:=by first|(rw [hy579];with_reducible exact H)|(have H2_:=(Option.bind_some _ _).symm.trans H;rw [hy579];with_reducible exact H2_)|(have H2_:=(Option.bind_some _ _).symm.trans H;with_reducible exact H2_)|with_reducible exact H|(rw [hy579];exact H)|exact H
   have Ny579:=Aside0.mk hy579
   clear hy579
   have H':=Aside0.mk H
   clear H
   go_enter Tryd.func61,Tryd.ntmps61
   go_wp2_with (first|((with_reducible refine gate_dst (N:=14) rfl ?_);refine Kd.R_make (Kd.int .u32) _ 60 rfl (N:=14) rfl 49 _ _ rfl ji3 rfl rfl Tryd.underlying49 (.int .u32 0) 4 info60 rfl (by decide) (by omega) 0 (ok:=fun _=>True) (okp:=fun _=>True) rfl (fun _ hk=>hk) trivial (of_decide_eq_true (by first|(with_reducible assumption)|assumption)) (Nat.le_trans (Nat.mul_le_mul_right _ (of_decide_eq_true (by first|(with_reducible assumption)|assumption):ji3.toNat≤70368744177664)) (by omega)) (Below.refl _ _) (Nat.le_refl _) ?_;intro v580 w6 ho7 hb hg_ hnew_;clear hg_ hnew_;(first|rw [← Ny579.out] at ho7|(simp only [Int.reduceToNat] at ho7;rw [← Ny579.out] at ho7));have n0_:=Aside0.mk (Kd.R_lower ho7 (below_size (by repeat (first|(with_reducible first|exact HB.out|apply below_alloc|apply pw_below_drewN|apply below_drew1)|exact HB.out))));have n1_:=Aside0.mk (below_step (by repeat (first|(with_reducible first|exact HB.out|apply below_alloc|apply pw_below_drewN|apply below_drew1)|exact HB.out)) hb);clear HB;have HO581:=n0_;have HB:=n1_;clear n0_ n1_;clear hb ho7))
   repeat (go_quiet (first|((with_reducible refine gate_dst (N:=14) rfl ?_);refine Kd.R_make (Kd.int .u32) _ 60 rfl (N:=14) rfl 49 _ _ rfl ji3 rfl rfl Tryd.underlying49 (.int .u32 0) 4 info60 rfl (by decide) (by omega) 0 (ok:=fun _=>True) (okp:=fun _=>True) rfl (fun _ hk=>hk) trivial (of_decide_eq_true (by first|(with_reducible assumption)|assumption)) (Nat.le_trans (Nat.mul_le_mul_right _ (of_decide_eq_true (by first|(with_reducible assumption)|assumption):ji3.toNat≤70368744177664)) (by omega)) (Below.refl _ _) (Nat.le_refl _) ?_;intro v580 w6 ho7 hb hg_ hnew_;clear hg_ hnew_;(first|rw [← Ny579.out] at ho7|(simp only [Int.reduceToNat] at ho7;rw [← Ny579.out] at ho7));have n0_:=Aside0.mk (Kd.R_lower ho7 (below_size (by repeat (first|(with_reducible first|exact HB.out|apply below_alloc|apply pw_below_drewN|apply below_drew1)|exact HB.out))));have n1_:=Aside0.mk (below_step (by repeat (first|(with_reducible first|exact HB.out|apply below_alloc|apply pw_below_drewN|apply below_drew1)|exact HB.out)) hb);clear HB;have HO581:=n0_;have HB:=n1_;clear n0_ n1_;clear hb ho7));try go_wp2_with (first|((with_reducible refine gate_dst (N:=14) rfl ?_);refine Kd.R_make (Kd.int .u32) _ 60 rfl (N:=14) rfl 49 _ _ rfl ji3 rfl rfl Tryd.underlying49 (.int .u32 0) 4 info60 rfl (by decide) (by omega) 0 (ok:=fun _=>True) (okp:=fun _=>True) rfl (fun _ hk=>hk) trivial (of_decide_eq_true (by first|(with_reducible assumption)|assumption)) (Nat.le_trans (Nat.mul_le_mul_right _ (of_decide_eq_true (by first|(with_reducible assumption)|assumption):ji3.toNat≤70368744177664)) (by omega)) (Below.refl _ _) (Nat.le_refl _) ?_;intro v580 w6 ho7 hb hg_ hnew_;clear hg_ hnew_;(first|rw [← Ny579.out] at ho7|(simp only [Int.reduceToNat] at ho7;rw [← Ny579.out] at ho7));have n0_:=Aside0.mk (Kd.R_lower ho7 (below_size (by repeat (first|(with_reducible first|exact HB.out|apply below_alloc|apply pw_below_drewN|apply below_drew1)|exact HB.out))));have n1_:=Aside0.mk (below_step (by repeat (first|(with_reducible first|exact HB.out|apply below_alloc|apply pw_below_drewN|apply below_drew1)|exact HB.out)) hb);clear HB;have HO581:=n0_;have HB:=n1_;clear n0_ n1_;clear hb ho7)))
   go_loopg [6] k (fun kq v6 w'=>∃ (x5_1:List Int) (x6_1:Int),v6 = .int .i64 x6_1∧Aside0 (insolvencyref1_times.l0 kq l0 l1 x5_1 x6_1=some r)∧Aside0 (kq≤k)∧Aside0 (Kd.R (Kd.int .u32) 60 w' w.heap.size (fun _=>True) v580 x5_1)∧Aside0 (Below w.heap.size w w'))
   case atStart=>exact ⟨(y579),(0),(by first|rfl|(simp;done)|(simp [*];done)),H',⟨Nat.le_refl _⟩,⟨by (with_reducible repeat (first|apply Kd.R_alloc|apply Kd.R_drewN|apply Kd.R_drew));exact HO581.out⟩,⟨by repeat (first|(with_reducible first|exact HB.out|apply below_alloc|apply pw_below_drewN|apply below_drew1)|exact HB.out)⟩⟩
   case round=>
    clear H'
    try clear c1
    try clear p2
    try clear c4
    try clear c4b0
    try clear c4b1
    try clear c5
    try clear c5b0
    try clear c5b1
    try clear c6
    try clear p6
    obtain ⟨x5_1,x6_1,rfl,HA,HK1,HO_5,HB⟩:=hrel
    cases gk with
    | zero=>exact absurd HA.out (by simp [insolvencyref1_times.l0])
    | succ k1=>
     have H:=HA.out
     clear HA
     simp only [insolvencyref1_times.l0] at H
     by_cases c8:x6_1<(l0.length:Int)
     ·rw [if_pos c8] at H
      have c8b0:decide (x6_1<(l0.length:Int))=true:=decide_eq_true c8
      clear c8
      have H':=Aside0.mk H
      clear H
      go_wp2
      repeat (go_quiet (fail);try go_wp2)
      go_loopg [7,8] k1 (fun kq v7 v8 w'=>∃ (x5_2:List Int) (x7_2:Int) (x8_2:Int),v7 = .int .u64 x7_2∧v8 = .int .i64 x8_2∧Aside0 (insolvencyref1_times.l1 kq l0 l1 x5_2 x6_1 x7_2 x8_2=some r)∧Aside0 (kq≤k1)∧Aside0 (Kd.R (Kd.int .u32) 60 w' w.heap.size (fun _=>True) v580 x5_2)∧Aside0 (Below w.heap.size w w'))
      case atStart=>exact ⟨(x5_1),(0),(0),(by first|rfl|(simp;done)|(simp [*];done)),(by first|rfl|(simp;done)|(simp [*];done)),H',⟨Nat.le_refl _⟩,⟨by (with_reducible repeat (first|apply Kd.R_alloc|apply Kd.R_drewN|apply Kd.R_drew));exact HO_5.out⟩,⟨by repeat (first|(with_reducible first|exact HB.out|apply below_alloc|apply pw_below_drewN|apply below_drew1)|exact HB.out)⟩⟩
      case round=>
       clear H'
       try clear c1
       try clear p2
       try clear c4
       try clear c4b0
       try clear c4b1
       try clear c5
       try clear c5b0
       try clear c5b1
       try clear c6
       try clear p6
       try clear c8
       try clear c8b0
       try clear p2
       try clear p6
       obtain ⟨x5_2,x7_2,x8_2,rfl,rfl,HA,HK2,HO_5,HB⟩:=hrel
       cases gk with
       | zero=>exact absurd HA.out (by simp [insolvencyref1_times.l1])
       | succ k2=>
        have H:=HA.out
        clear HA
        simp only [insolvencyref1_times.l1] at H
        by_cases c9:x8_2<(l1.length:Int)
        ·rw [if_pos c9] at H
         have c9b0:decide (x8_2<(l1.length:Int))=true:=decide_eq_true c9
         clear c9
         by_cases c10:0≤x6_1
         ·rw [if_pos c10] at H
          have c10b0:decide (0≤x6_1)=true:=decide_eq_true c10
          clear c10
          by_cases c11:x6_1<(l0.length:Int)
          ·rw [if_pos c11] at H
           have c11b0:decide (x6_1<(l0.length:Int))=true:=decide_eq_true c11
           clear c11
           by_cases c12:0≤x8_2
           ·rw [if_pos c12] at H
            have c12b0:decide (0≤x8_2)=true:=decide_eq_true c12
            clear c12
            obtain ⟨ji13,hji13⟩:∃ j_:Int,(wrap64 (x6_1+x8_2))=j_:=⟨_,rfl⟩
            replace H:(if 0≤(ji13) then (if (ji13)<(x5_2.length:Int) then (insolvencyref1_times.l1 k2 l0 l1 (x5_2.set ((ji13):Int).toNat ((IntKind.u64.wrap ((IntKind.u64.wrap (x7_2+(IntKind.u64.wrap ((IntKind.u64.wrap (rd l0 x6_1))*(IntKind.u64.wrap (rd l1 x8_2))))))+(IntKind.u64.wrap (rd x5_2 (ji13)))))%4294967296)) x6_1 ((IntKind.u64.wrap ((IntKind.u64.wrap (x7_2+(IntKind.u64.wrap ((IntKind.u64.wrap (rd l0 x6_1))*(IntKind.u64.wrap (rd l1 x8_2))))))+(IntKind.u64.wrap (rd x5_2 (ji13)))))/4294967296) (wrap64 (x8_2+1))) else (none)) else (none))=some r:=by first|(rw [hji13] at H;exact H)|(simp only [hji13] at H ⊢;exact H)
            have hji13w:(IntKind.i64.wrap (x6_1+x8_2))=ji13:=(i64_w _).trans hji13
            by_cases c14:0≤(ji13)
            ·rw [if_pos c14] at H
             have c14b0:decide (0≤(ji13))=true:=decide_eq_true c14
             clear c14
             by_cases c15:(ji13)<(x5_2.length:Int)
             ·rw [if_pos c15] at H
              have c15b0:decide ((ji13)<(x5_2.length:Int))=true:=decide_eq_true c15
              clear c15
              obtain ⟨y588,hy588⟩:∃ y_:List Int,y_=(x5_2.set ((ji13):Int).toNat ((IntKind.u64.wrap ((IntKind.u64.wrap (x7_2+(IntKind.u64.wrap ((IntKind.u64.wrap (rd l0 x6_1))*(IntKind.u64.wrap (rd l1 x8_2))))))+(IntKind.u64.wrap (rd x5_2 (ji13)))))%4294967296)):=⟨_,rfl⟩
              replace H:(insolvencyref1_times.l1 k2 l0 l1 y588 x6_1 ((IntKind.u64.wrap ((IntKind.u64.wrap (x7_2+(IntKind.u64.wrap ((IntKind.u64.wrap (rd l0 x6_1))*(IntKind.u64.wrap (rd l1 x8_2))))))+(IntKind.u64.wrap (rd x5_2 (ji13)))))/4294967296) (wrap64 (x8_2+1)))=some r:=by first|(rw [hy588];with_reducible exact H)|(have H2_:=(Option.bind_some _ _).symm.trans H;rw [hy588];with_reducible exact H2_)|(have H2_:=(Option.bind_some _ _).symm.trans H;with_reducible exact H2_)|with_reducible exact H|(rw [hy588];exact H)|exact H
              have Ny588:=Aside0.mk hy588
              clear hy588
              have H':=Aside0.mk H
              clear H
              have p585:0≤(x6_1:Int):=of_decide_eq_true (by first|(with_reducible assumption)|assumption)
              have q585:x6_1<(l0.length:Int):=of_decide_eq_true (by first|(with_reducible assumption)|assumption)
              obtain ⟨ad585,e585,hx585_0⟩:=Kd.at_int HR0.out x6_1 p585 q585
              cases e585
              replace hx585_0:=(HB.out.cell (World.block_lt_of_cell? w _ hx585_0)).trans hx585_0
              replace p585:=eq_true p585
              replace q585:=eq_true q585
              have p586:0≤(x8_2:Int):=of_decide_eq_true (by first|(with_reducible assumption)|assumption)
              have q586:x8_2<(l1.length:Int):=of_decide_eq_true (by first|(with_reducible assumption)|assumption)
              obtain ⟨ad586,e586,hx586_0⟩:=Kd.at_int HR1.out x8_2 p586 q586
              cases e586
              replace hx586_0:=(HB.out.cell (World.block_lt_of_cell? w _ hx586_0)).trans hx586_0
              replace p586:=eq_true p586
              replace q586:=eq_true q586
              obtain ⟨Ao17,co17,eo17⟩:=Kd.R_slice HO_5.out
              subst eo17
              have p587:0≤((ji13):Int):=of_decide_eq_true (by first|(with_reducible assumption)|assumption)
              have q587:(ji13)<(x5_2.length:Int):=of_decide_eq_true (by first|(with_reducible assumption)|assumption)
              obtain ⟨ad587,e587,hx587_0⟩:=Kd.at_int (Kd.R_reads' HO_5.out).2.2 (ji13) p587 q587
              cases e587
              replace p587:=eq_true p587
              replace q587:=eq_true q587
              have p16:0≤((ji13):Int):=of_decide_eq_true (by first|(with_reducible assumption)|assumption)
              have q16:((ji13):Int)<((x5_2.length:Int):Int):=of_decide_eq_true (by first|(with_reducible assumption)|assumption)
              obtain ⟨go16,co16,eo16,gb16,gl16,cl16,HG16⟩:=Kd.R_form HO_5.out (by omega)
              (first|cases eo16|(injection eo16 with ea_ en_ ec_;(first|subst ea_|(injection ea_ with ea_;subst ea_));subst ec_;clear en_))
              have GB16:=Aside0.mk gb16
              have GG16:=Aside0.mk HG16
              clear gb16 gl16 HG16
              (first|simp only [add_plain] at hx587_0|skip)
              obtain ⟨hx16_0,hf16_0⟩:=Kd.R_celln 0 HO_5.out ((ji13):Int) p16 q16
              replace p16:=eq_true p16
              replace q16:=eq_true q16
              have HP18:=Kd.R_putg HO_5.out ((ji13):Int) ((IntKind.u64.wrap ((IntKind.u64.wrap (x7_2+(IntKind.u64.wrap ((IntKind.u64.wrap (rd l0 x6_1))*(IntKind.u64.wrap (rd l1 x8_2))))))+(IntKind.u64.wrap (rd x5_2 (ji13)))))%4294967296)
              go_wp2_with (first|((with_reducible refine gate_store (t:=60) (p:=54) rfl ?_);(try (rw [drewN_self wr];generalize hq_:World.drewN wr _=wr;have n0_:=Aside0.mk (Kd.R_at hq_ HO_5.out);have n1_:=Aside0.mk (below_at hq_ HB.out);clear hq_ HO_5 HB;have HO_5:=n0_;have HB:=n1_;clear n0_ n1_;(try (obtain ⟨hyZ_,hzZ_⟩:=Kd.R_celln 0 HO_5.out ((ji13):Int) (of_decide_eq_true (by first|(with_reducible assumption)|assumption)) (of_decide_eq_true (by first|(with_reducible assumption)|assumption))));(try (have HP18:=Kd.R_putg HO_5.out ((ji13):Int) ((IntKind.u64.wrap ((IntKind.u64.wrap (x7_2+(IntKind.u64.wrap ((IntKind.u64.wrap (rd l0 x6_1))*(IntKind.u64.wrap (rd l1 x8_2))))))+(IntKind.u64.wrap (rd x5_2 (ji13)))))%4294967296)))));refine store_event (t:=60) (p:=54) (v:=?vo_w19) (w1:=(wr.setCell ⟨go16,((ji13):Int).toNat,none⟩ (.int .u32 ((IntKind.u64.wrap ((IntKind.u64.wrap (x7_2+(IntKind.u64.wrap ((IntKind.u64.wrap (rd l0 x6_1))*(IntKind.u64.wrap (rd l1 x8_2))))))+(IntKind.u64.wrap (rd x5_2 (ji13)))))%4294967296)))) ?hg ?ho ?hn ?hr ?_;(case ho=>rfl);(case hg=>rfl);(case hn=>rfl);(case hr=>first|(go_simp;done)|(go_simp;rfl));intro w19 hw;have hg:wr.grownBy w19 (some go16):=(by rw [hw];exact HP18.2);have hp_:Kd.R (Kd.int .u32) 60 w19 w.heap.size (fun _=>True) (.slice (some ⟨go16,0,none⟩) x5_2.length co17) y588:=(by rw [hw,Ny588.out];exact HP18.1);clear HP18;have n0_:=Aside0.mk (hp_);have n1_:=Aside0.mk ((by rw [hw];exact below_set (HB.out) GB16.out:Below w.heap.size w w19));clear HO_5;clear HB;have HO_5:=n0_;have HB:=n1_;clear n0_ n1_;clear hg hw hp_))
              repeat (go_quiet (first|((with_reducible refine gate_store (t:=60) (p:=54) rfl ?_);(try (rw [drewN_self wr];generalize hq_:World.drewN wr _=wr;have n0_:=Aside0.mk (Kd.R_at hq_ HO_5.out);have n1_:=Aside0.mk (below_at hq_ HB.out);clear hq_ HO_5 HB;have HO_5:=n0_;have HB:=n1_;clear n0_ n1_;(try (obtain ⟨hyZ_,hzZ_⟩:=Kd.R_celln 0 HO_5.out ((ji13):Int) (of_decide_eq_true (by first|(with_reducible assumption)|assumption)) (of_decide_eq_true (by first|(with_reducible assumption)|assumption))));(try (have HP18:=Kd.R_putg HO_5.out ((ji13):Int) ((IntKind.u64.wrap ((IntKind.u64.wrap (x7_2+(IntKind.u64.wrap ((IntKind.u64.wrap (rd l0 x6_1))*(IntKind.u64.wrap (rd l1 x8_2))))))+(IntKind.u64.wrap (rd x5_2 (ji13)))))%4294967296)))));refine store_event (t:=60) (p:=54) (v:=?vo_w19) (w1:=(wr.setCell ⟨go16,((ji13):Int).toNat,none⟩ (.int .u32 ((IntKind.u64.wrap ((IntKind.u64.wrap (x7_2+(IntKind.u64.wrap ((IntKind.u64.wrap (rd l0 x6_1))*(IntKind.u64.wrap (rd l1 x8_2))))))+(IntKind.u64.wrap (rd x5_2 (ji13)))))%4294967296)))) ?hg ?ho ?hn ?hr ?_;(case ho=>rfl);(case hg=>rfl);(case hn=>rfl);(case hr=>first|(go_simp;done)|(go_simp;rfl));intro w19 hw;have hg:wr.grownBy w19 (some go16):=(by rw [hw];exact HP18.2);have hp_:Kd.R (Kd.int .u32) 60 w19 w.heap.size (fun _=>True) (.slice (some ⟨go16,0,none⟩) x5_2.length co17) y588:=(by rw [hw,Ny588.out];exact HP18.1);clear HP18;have n0_:=Aside0.mk (hp_);have n1_:=Aside0.mk ((by rw [hw];exact below_set (HB.out) GB16.out:Below w.heap.size w w19));clear HO_5;clear HB;have HO_5:=n0_;have HB:=n1_;clear n0_ n1_;clear hg hw hp_));try go_wp2_with (first|((with_reducible refine gate_store (t:=60) (p:=54) rfl ?_);(try (rw [drewN_self wr];generalize hq_:World.drewN wr _=wr;have n0_:=Aside0.mk (Kd.R_at hq_ HO_5.out);have n1_:=Aside0.mk (below_at hq_ HB.out);clear hq_ HO_5 HB;have HO_5:=n0_;have HB:=n1_;clear n0_ n1_;(try (obtain ⟨hyZ_,hzZ_⟩:=Kd.R_celln 0 HO_5.out ((ji13):Int) (of_decide_eq_true (by first|(with_reducible assumption)|assumption)) (of_decide_eq_true (by first|(with_reducible assumption)|assumption))));(try (have HP18:=Kd.R_putg HO_5.out ((ji13):Int) ((IntKind.u64.wrap ((IntKind.u64.wrap (x7_2+(IntKind.u64.wrap ((IntKind.u64.wrap (rd l0 x6_1))*(IntKind.u64.wrap (rd l1 x8_2))))))+(IntKind.u64.wrap (rd x5_2 (ji13)))))%4294967296)))));refine store_event (t:=60) (p:=54) (v:=?vo_w19) (w1:=(wr.setCell ⟨go16,((ji13):Int).toNat,none⟩ (.int .u32 ((IntKind.u64.wrap ((IntKind.u64.wrap (x7_2+(IntKind.u64.wrap ((IntKind.u64.wrap (rd l0 x6_1))*(IntKind.u64.wrap (rd l1 x8_2))))))+(IntKind.u64.wrap (rd x5_2 (ji13)))))%4294967296)))) ?hg ?ho ?hn ?hr ?_;(case ho=>rfl);(case hg=>rfl);(case hn=>rfl);(case hr=>first|(go_simp;done)|(go_simp;rfl));intro w19 hw;have hg:wr.grownBy w19 (some go16):=(by rw [hw];exact HP18.2);have hp_:Kd.R (Kd.int .u32) 60 w19 w.heap.size (fun _=>True) (.slice (some ⟨go16,0,none⟩) x5_2.length co17) y588:=(by rw [hw,Ny588.out];exact HP18.1);clear HP18;have n0_:=Aside0.mk (hp_);have n1_:=Aside0.mk ((by rw [hw];exact below_set (HB.out) GB16.out:Below w.heap.size w w19));clear HO_5;clear HB;have HO_5:=n0_;have HB:=n1_;clear n0_ n1_;clear hg hw hp_)))
              go_roundg k2
              case measure=>have:=HK1.out;have:=HK2.out;omega
              case rel=>exact ⟨(y588),((IntKind.u64.wrap ((IntKind.u64.wrap (x7_2+(IntKind.u64.wrap ((IntKind.u64.wrap (rd l0 x6_1))*(IntKind.u64.wrap (rd l1 x8_2))))))+(IntKind.u64.wrap (rd x5_2 (ji13)))))/4294967296),(wrap64 (x8_2+1)),(by first|rfl|(simp;done)|(simp only [← hji13] <;> (first|rfl|simp))|(simp [*];done)),(by first|rfl|(simp;done)|(simp [*];done)),H',⟨by have:=HK1.out;have:=HK2.out;omega⟩,⟨by (with_reducible repeat (first|apply Kd.R_alloc|apply Kd.R_drewN|apply Kd.R_drew));exact HO_5.out⟩,⟨by repeat (first|(with_reducible first|exact HB.out|apply below_alloc|apply pw_below_drewN|apply below_drew1)|exact HB.out)⟩⟩
             ·rw [if_neg c15] at H
              exact absurd H (by simp)
            ·rw [if_neg c14] at H
             exact absurd H (by simp)
           ·rw [if_neg c12] at H
            exact absurd H (by simp)
          ·rw [if_neg c11] at H
           exact absurd H (by simp)
         ·rw [if_neg c10] at H
          exact absurd H (by simp)
        ·rw [if_neg c9] at H
         have c9b0:decide (x8_2<(l1.length:Int))=false:=decide_eq_false c9
         clear c9
         obtain ⟨ji20,hji20⟩:∃ j_:Int,(wrap64 (x6_1+(l1.length:Int)))=j_:=⟨_,rfl⟩
         replace H:(if 0≤(ji20) then (if (ji20)<(x5_2.length:Int) then (insolvencyref1_times.l0 k2 l0 l1 (x5_2.set ((ji20):Int).toNat ((x7_2)%4294967296)) (wrap64 (x6_1+1))) else (none)) else (none))=some r:=by first|(rw [hji20] at H;exact H)|(simp only [hji20] at H ⊢;exact H)
         have hji20w:(IntKind.i64.wrap (x6_1+(l1.length:Int)))=ji20:=(i64_w _).trans hji20
         by_cases c21:0≤(ji20)
         ·rw [if_pos c21] at H
          have c21b0:decide (0≤(ji20))=true:=decide_eq_true c21
          clear c21
          by_cases c22:(ji20)<(x5_2.length:Int)
          ·rw [if_pos c22] at H
           have c22b0:decide ((ji20)<(x5_2.length:Int))=true:=decide_eq_true c22
           clear c22
           obtain ⟨y589,hy589⟩:∃ y_:List Int,y_=(x5_2.set ((ji20):Int).toNat ((x7_2)%4294967296)):=⟨_,rfl⟩
           replace H:(insolvencyref1_times.l0 k2 l0 l1 y589 (wrap64 (x6_1+1)))=some r:=by first|(rw [hy589];with_reducible exact H)|(have H2_:=(Option.bind_some _ _).symm.trans H;rw [hy589];with_reducible exact H2_)|(have H2_:=(Option.bind_some _ _).symm.trans H;with_reducible exact H2_)|with_reducible exact H|(rw [hy589];exact H)|exact H
           have Ny589:=Aside0.mk hy589
           clear hy589
           have H':=Aside0.mk H
           clear H
           have p23:0≤((ji20):Int):=of_decide_eq_true (by first|(with_reducible assumption)|assumption)
           have q23:((ji20):Int)<((x5_2.length:Int):Int):=of_decide_eq_true (by first|(with_reducible assumption)|assumption)
           obtain ⟨go23,co23,eo23,gb23,gl23,cl23,HG23⟩:=Kd.R_form HO_5.out (by omega)
           (first|cases eo23|(injection eo23 with ea_ en_ ec_;(first|subst ea_|(injection ea_ with ea_;subst ea_));subst ec_;clear en_))
           have GB23:=Aside0.mk gb23
           have GG23:=Aside0.mk HG23
           clear gb23 gl23 HG23
           obtain ⟨hx23_0,hf23_0⟩:=Kd.R_celln 0 HO_5.out ((ji20):Int) p23 q23
           replace p23:=eq_true p23
           replace q23:=eq_true q23
           have HP24:=Kd.R_putg HO_5.out ((ji20):Int) ((x7_2)%4294967296)
           go_wp2_with (first|((with_reducible refine gate_store (t:=60) (p:=64) rfl ?_);(try (rw [drewN_self wr];generalize hq_:World.drewN wr _=wr;have n0_:=Aside0.mk (Kd.R_at hq_ HO_5.out);have n1_:=Aside0.mk (below_at hq_ HB.out);clear hq_ HO_5 HB;have HO_5:=n0_;have HB:=n1_;clear n0_ n1_;(try (obtain ⟨hyZ_,hzZ_⟩:=Kd.R_celln 0 HO_5.out ((ji20):Int) (of_decide_eq_true (by first|(with_reducible assumption)|assumption)) (of_decide_eq_true (by first|(with_reducible assumption)|assumption))));(try (have HP24:=Kd.R_putg HO_5.out ((ji20):Int) ((x7_2)%4294967296)))));refine store_event (t:=60) (p:=64) (v:=?vo_w25) (w1:=(wr.setCell ⟨go23,((ji20):Int).toNat,none⟩ (.int .u32 ((x7_2)%4294967296)))) ?hg ?ho ?hn ?hr ?_;(case ho=>rfl);(case hg=>rfl);(case hn=>rfl);(case hr=>first|(go_simp;done)|(go_simp;rfl));intro w25 hw;have hg:wr.grownBy w25 (some go23):=(by rw [hw];exact HP24.2);have hp_:Kd.R (Kd.int .u32) 60 w25 w.heap.size (fun _=>True) (.slice (some ⟨go23,0,none⟩) x5_2.length co23) y589:=(by rw [hw,Ny589.out];exact HP24.1);clear HP24;have n0_:=Aside0.mk (hp_);have n1_:=Aside0.mk ((by rw [hw];exact below_set (HB.out) GB23.out:Below w.heap.size w w25));clear HO_5;clear HB;have HO_5:=n0_;have HB:=n1_;clear n0_ n1_;clear hg hw hp_))
           repeat (go_quiet (first|((with_reducible refine gate_store (t:=60) (p:=64) rfl ?_);(try (rw [drewN_self wr];generalize hq_:World.drewN wr _=wr;have n0_:=Aside0.mk (Kd.R_at hq_ HO_5.out);have n1_:=Aside0.mk (below_at hq_ HB.out);clear hq_ HO_5 HB;have HO_5:=n0_;have HB:=n1_;clear n0_ n1_;(try (obtain ⟨hyZ_,hzZ_⟩:=Kd.R_celln 0 HO_5.out ((ji20):Int) (of_decide_eq_true (by first|(with_reducible assumption)|assumption)) (of_decide_eq_true (by first|(with_reducible assumption)|assumption))));(try (have HP24:=Kd.R_putg HO_5.out ((ji20):Int) ((x7_2)%4294967296)))));refine store_event (t:=60) (p:=64) (v:=?vo_w25) (w1:=(wr.setCell ⟨go23,((ji20):Int).toNat,none⟩ (.int .u32 ((x7_2)%4294967296)))) ?hg ?ho ?hn ?hr ?_;(case ho=>rfl);(case hg=>rfl);(case hn=>rfl);(case hr=>first|(go_simp;done)|(go_simp;rfl));intro w25 hw;have hg:wr.grownBy w25 (some go23):=(by rw [hw];exact HP24.2);have hp_:Kd.R (Kd.int .u32) 60 w25 w.heap.size (fun _=>True) (.slice (some ⟨go23,0,none⟩) x5_2.length co23) y589:=(by rw [hw,Ny589.out];exact HP24.1);clear HP24;have n0_:=Aside0.mk (hp_);have n1_:=Aside0.mk ((by rw [hw];exact below_set (HB.out) GB23.out:Below w.heap.size w w25));clear HO_5;clear HB;have HO_5:=n0_;have HB:=n1_;clear n0_ n1_;clear hg hw hp_));try go_wp2_with (first|((with_reducible refine gate_store (t:=60) (p:=64) rfl ?_);(try (rw [drewN_self wr];generalize hq_:World.drewN wr _=wr;have n0_:=Aside0.mk (Kd.R_at hq_ HO_5.out);have n1_:=Aside0.mk (below_at hq_ HB.out);clear hq_ HO_5 HB;have HO_5:=n0_;have HB:=n1_;clear n0_ n1_;(try (obtain ⟨hyZ_,hzZ_⟩:=Kd.R_celln 0 HO_5.out ((ji20):Int) (of_decide_eq_true (by first|(with_reducible assumption)|assumption)) (of_decide_eq_true (by first|(with_reducible assumption)|assumption))));(try (have HP24:=Kd.R_putg HO_5.out ((ji20):Int) ((x7_2)%4294967296)))));refine store_event (t:=60) (p:=64) (v:=?vo_w25) (w1:=(wr.setCell ⟨go23,((ji20):Int).toNat,none⟩ (.int .u32 ((x7_2)%4294967296)))) ?hg ?ho ?hn ?hr ?_;(case ho=>rfl);(case hg=>rfl);(case hn=>rfl);(case hr=>first|(go_simp;done)|(go_simp;rfl));intro w25 hw;have hg:wr.grownBy w25 (some go23):=(by rw [hw];exact HP24.2);have hp_:Kd.R (Kd.int .u32) 60 w25 w.heap.size (fun _=>True) (.slice (some ⟨go23,0,none⟩) x5_2.length co23) y589:=(by rw [hw,Ny589.out];exact HP24.1);clear HP24;have n0_:=Aside0.mk (hp_);have n1_:=Aside0.mk ((by rw [hw];exact below_set (HB.out) GB23.out:Below w.heap.size w w25));clear HO_5;clear HB;have HO_5:=n0_;have HB:=n1_;clear n0_ n1_;clear hg hw hp_)))
           go_roundg k2
           case measure=>have:=HK1.out;have:=HK2.out;omega
           case rel=>exact ⟨(y589),(wrap64 (x6_1+1)),(by first|rfl|(simp;done)|(simp [*];done)),H',⟨by have:=HK1.out;have:=HK2.out;omega⟩,⟨by (with_reducible repeat (first|apply Kd.R_alloc|apply Kd.R_drewN|apply Kd.R_drew));exact HO_5.out⟩,⟨by repeat (first|(with_reducible first|exact HB.out|apply below_alloc|apply pw_below_drewN|apply below_drew1)|exact HB.out)⟩⟩
          ·rw [if_neg c22] at H
           exact absurd H (by simp)
         ·rw [if_neg c21] at H
          exact absurd H (by simp)
     ·rw [if_neg c8] at H
      have c8b0:decide (x6_1<(l0.length:Int))=false:=decide_eq_false c8
      clear c8
      replace H:=Option.bind_eq_some_iff.mp H
      obtain ⟨t582,A260,H⟩:=H
      replace H:(some t582)=some r:=H
      have A26:=Aside0.mk A260
      clear A260
      obtain rfl:=Option.some.inj H
      obtain ⟨Ao27,co27,eo27⟩:=Kd.R_slice HO_5.out
      subst eo27
      go_wp2_with (first|(go_at_call 75;(with_reducible refine (insolvencyref1_strip.calls k1 (fun k_=>some k_=(.slice Ao27 x5_1.length co27:Value).ownBlock) (.slice Ao27 x5_1.length co27) x5_1 t582 w _ ?side1 ?side2 A26.out).mono ?_);(case side1=>repeat (first|(with_reducible first|exact HB.out|apply below_alloc|apply pw_below_drewN|apply below_drew1)|exact HB.out));(case side2=>exact Kd.R_tight rfl HO_5.out);rintro e w28 ⟨v583,rfl,ho0,hb,hkp⟩;have n0_:=Aside0.mk (Kd.R_mono (ok':=fun k_=>True) ho0 (fun k_ hk_=>trivial));have n1_:=Aside0.mk (hb);clear HB;clear HO_5;have HO584:=n0_;have HB:=n1_;clear n0_ n1_;(try clear hb);(try clear hkp);(try clear ho0)))
      repeat (go_quiet (first|(go_at_call 75;(with_reducible refine (insolvencyref1_strip.calls k1 (fun k_=>some k_=(.slice Ao27 x5_1.length co27:Value).ownBlock) (.slice Ao27 x5_1.length co27) x5_1 t582 w _ ?side1 ?side2 A26.out).mono ?_);(case side1=>repeat (first|(with_reducible first|exact HB.out|apply below_alloc|apply pw_below_drewN|apply below_drew1)|exact HB.out));(case side2=>exact Kd.R_tight rfl HO_5.out);rintro e w28 ⟨v583,rfl,ho0,hb,hkp⟩;have n0_:=Aside0.mk (Kd.R_mono (ok':=fun k_=>True) ho0 (fun k_ hk_=>trivial));have n1_:=Aside0.mk (hb);clear HB;clear HO_5;have HO584:=n0_;have HB:=n1_;clear n0_ n1_;(try clear hb);(try clear hkp);(try clear ho0)));try go_wp2_with (first|(go_at_call 75;(with_reducible refine (insolvencyref1_strip.calls k1 (fun k_=>some k_=(.slice Ao27 x5_1.length co27:Value).ownBlock) (.slice Ao27 x5_1.length co27) x5_1 t582 w _ ?side1 ?side2 A26.out).mono ?_);(case side1=>repeat (first|(with_reducible first|exact HB.out|apply below_alloc|apply pw_below_drewN|apply below_drew1)|exact HB.out));(case side2=>exact Kd.R_tight rfl HO_5.out);rintro e w28 ⟨v583,rfl,ho0,hb,hkp⟩;have n0_:=Aside0.mk (Kd.R_mono (ok':=fun k_=>True) ho0 (fun k_ hk_=>trivial));have n1_:=Aside0.mk (hb);clear HB;clear HO_5;have HO584:=n0_;have HB:=n1_;clear n0_ n1_;(try clear hb);(try clear hkp);(try clear ho0))))
      go_ret
      exact ⟨_,by first|rfl|(simp [errW_none,errW_some] <;> rfl)|(simp only [← hji3];first|rfl|(simp [errW_none,errW_some] <;> rfl))|(simp [*,errW_none,errW_some] <;> rfl),by (with_reducible repeat (first|apply Kd.R_alloc|apply Kd.R_drewN|apply Kd.R_drew));exact HO584.out,by repeat (first|(with_reducible first|exact HB.out|apply below_alloc|apply pw_below_drewN|apply below_drew1)|exact HB.out)⟩
  ·rw [if_neg c5] at H
   exact absurd H (by simp)
 ·rw [if_neg c4] at H
  exact absurd H (by simp)
end Go.Proofs.YtjaflmhdclmolaaDoor.F
end
section
namespace Go.Proofs.YtjaflmhdclmolaaDoor.F
open Go.RowKit Go.Proofs.YtjaflmhdclmolaaDoorW.PrintWords Go.Proofs.YtjaflmhdclmolaaDoorW.PrintLast Go.Proofs.YtjaflmhdclmolaaDoorW.PrintMore
attribute [local go_sem] max2_int min2_int max_two min_two max_three min_three max_four min_four   
set_option linter.unusedVariables false
set_option linter.unusedSimpArgs false
def insolvencyref1_NatMultiply.f (k:Nat) (a0:ByteArray) (a1:ByteArray):Option (ByteArray):=(insolvencyref1_limbs.f k a0).bind fun t590=>((insolvencyref1_limbs.f k a1).bind fun t593=>((insolvencyref1_times.f k t590 t593).bind fun t596=>((insolvencyref1_text.f k t596).bind fun t599=>(some t599))))
theorem insolvencyref1_NatMultiply.mono:∀ a0 a1 k,LeO (insolvencyref1_NatMultiply.f k a0 a1) (insolvencyref1_NatMultiply.f (k+1) a0 a1):=by
 intro a0 a1 k
 unfold insolvencyref1_NatMultiply.f
 repeat' first
  | (with_reducible exact insolvencyref1_limbs.mono _ _)
  | (with_reducible exact insolvencyref1_text.mono _ _)
  | (with_reducible exact insolvencyref1_times.mono _ _ _)
  | (with_reducible exact LeO.refl _)
  | (with_reducible exact LeO.none _)
  | (with_reducible refine LeO.ite ?_ ?_)
  | (with_reducible refine LeO.bind ?_ (fun _=>?_))
  | exact insolvencyref1_limbs.mono _ _
  | exact insolvencyref1_text.mono _ _
  | exact insolvencyref1_times.mono _ _ _
  | exact LeO.none _
  | refine LeO.ite ?_ ?_
  | refine LeO.bind ?_ (fun _=>?_)
set_option maxHeartbeats 8000000 in
set_option maxRecDepth 100000 in
theorem insolvencyref1_NatMultiply.calls (k:Nat) (a0:ByteArray) (a1:ByteArray) (r:ByteArray) (w:World) (h:insolvencyref1_NatMultiply.f k a0 a1=some r) :
 Calls Tryd.prog 37 #[.string a0,.string a1] w fun e w'=>e = .returned (.string r)∧Below w.heap.size w w':=by
 have HB:=Aside0.mk (Below.refl w.heap.size w)
 have H:((insolvencyref1_limbs.f k a0).bind fun t590=>((insolvencyref1_limbs.f k a1).bind fun t593=>((insolvencyref1_times.f k t590 t593).bind fun t596=>((insolvencyref1_text.f k t596).bind fun t599=>(some t599)))))=some r:=h
 clear h
 replace H:=Option.bind_eq_some_iff.mp H
 obtain ⟨t590,A30,H⟩:=H
 replace H:((insolvencyref1_limbs.f k a1).bind fun t593=>((insolvencyref1_times.f k t590 t593).bind fun t596=>((insolvencyref1_text.f k t596).bind fun t599=>(some t599))))=some r:=H
 have A3:=Aside0.mk A30
 clear A30
 replace H:=Option.bind_eq_some_iff.mp H
 obtain ⟨t593,A40,H⟩:=H
 replace H:((insolvencyref1_times.f k t590 t593).bind fun t596=>((insolvencyref1_text.f k t596).bind fun t599=>(some t599)))=some r:=H
 have A4:=Aside0.mk A40
 clear A40
 replace H:=Option.bind_eq_some_iff.mp H
 obtain ⟨t596,A50,H⟩:=H
 replace H:((insolvencyref1_text.f k t596).bind fun t599=>(some t599))=some r:=H
 have A5:=Aside0.mk A50
 clear A50
 replace H:=Option.bind_eq_some_iff.mp H
 obtain ⟨t599,A60,H⟩:=H
 replace H:(some t599)=some r:=H
 have A6:=Aside0.mk A60
 clear A60
 obtain rfl:=Option.some.inj H
 go_enter Tryd.func37,Tryd.ntmps37
 go_wp2_with (first|((with_reducible refine gate_callee (f:=45) rfl ?_);refine goesL_ (some 6) rfl rfl Tryd.func45 (by kernel_rfl) rfl #[.string a0] rfl (by (try simp only [List.map_toArray,List.map_cons,List.map_nil]);first|done|rfl|(simp only [List.length_drop,List.length_take];rfl)) ?_;(with_reducible refine (insolvencyref1_limbs.calls k a0 t590 _ A3.out).mono ?_);rintro e w7 ⟨v591,rfl,ho0,hb⟩;refine ⟨_,rfl,?_⟩;have n0_:=Aside0.mk (Kd.R_lower ho0 (below_size (by repeat (first|(with_reducible first|exact HB.out|apply below_alloc|apply pw_below_drewN|apply below_drew1)|exact HB.out))));have n1_:=Aside0.mk (below_step (by repeat (first|(with_reducible first|exact HB.out|apply below_alloc|apply pw_below_drewN|apply below_drew1)|exact HB.out)) hb);clear HB;have HO592:=n0_;have HB:=n1_;clear n0_ n1_;(try clear hb);(try clear hb2);(try clear hk);(try clear hi);(try clear ho0))|((with_reducible refine gate_callee (f:=45) rfl ?_);refine goesL_ (some 8) rfl rfl Tryd.func45 (by kernel_rfl) rfl #[.string a1] rfl (by (try simp only [List.map_toArray,List.map_cons,List.map_nil]);first|done|rfl|(simp only [List.length_drop,List.length_take];rfl)) ?_;(with_reducible refine (insolvencyref1_limbs.calls k a1 t593 _ A4.out).mono ?_);rintro e w8 ⟨v594,rfl,ho0,hb⟩;refine ⟨_,rfl,?_⟩;have n0_:=Aside0.mk (Kd.R_elder' (by (with_reducible repeat (first|apply Kd.R_alloc|apply Kd.R_drewN|apply Kd.R_drew));exact HO592.out) (Kd.R_base ho0) hb);have n1_:=Aside0.mk (Kd.R_lower (Kd.R_new' ho0 (Kd.R_lt (by (with_reducible repeat (first|apply Kd.R_alloc|apply Kd.R_drewN|apply Kd.R_drew));exact HO592.out))) (below_size (by repeat (first|(with_reducible first|exact HB.out|apply below_alloc|apply pw_below_drewN|apply below_drew1)|exact HB.out))));have n2_:=Aside0.mk (below_step (by repeat (first|(with_reducible first|exact HB.out|apply below_alloc|apply pw_below_drewN|apply below_drew1)|exact HB.out)) hb);clear HO592;clear HB;have HO592:=n0_;have HO595:=n1_;have HB:=n2_;clear n0_ n1_ n2_;(try clear hb);(try clear hb2);(try clear hk);(try clear hi);(try clear ho0);obtain ⟨Ao9,co9,eo9⟩:=Kd.R_slice HO592.out;subst eo9;obtain ⟨Ao10,co10,eo10⟩:=Kd.R_slice HO595.out;subst eo10)|((with_reducible refine gate_callee (f:=61) rfl ?_);refine goesL_ (some 9) rfl rfl Tryd.func61 (by kernel_rfl) rfl #[.slice Ao9 t590.length co9,.slice Ao10 t593.length co10] rfl (by (try simp only [List.map_toArray,List.map_cons,List.map_nil]);first|done|rfl|(simp only [List.length_drop,List.length_take];rfl)) ?_;(with_reducible refine (insolvencyref1_times.calls k _ _ t590 _ _ t593 t596 _ ?side1 ?side2 ?side3 ?side4 A5.out).mono ?_);(case side1=>repeat (first|exact (Kd.R_reads' HO592.out).2.2|(with_reducible refine Kd.C_alloc ?_ _)|(with_reducible refine Kd.C_drewN ?_ _)|(with_reducible refine Kd.C_drew ?_)));(case side2=>exact (Kd.R_reads' HO592.out).2.1);(case side3=>repeat (first|exact (Kd.R_reads' HO595.out).2.2|(with_reducible refine Kd.C_alloc ?_ _)|(with_reducible refine Kd.C_drewN ?_ _)|(with_reducible refine Kd.C_drew ?_)));(case side4=>exact (Kd.R_reads' HO595.out).2.1);rintro e w11 ⟨v597,rfl,ho0,hb⟩;refine ⟨_,rfl,?_⟩;have n0_:=Aside0.mk (Kd.R_elder' (by (with_reducible repeat (first|apply Kd.R_alloc|apply Kd.R_drewN|apply Kd.R_drew));exact HO592.out) (Kd.R_base ho0) hb);have n1_:=Aside0.mk (Kd.R_elder' (by (with_reducible repeat (first|apply Kd.R_alloc|apply Kd.R_drewN|apply Kd.R_drew));exact HO595.out) (Kd.R_base ho0) hb);have n2_:=Aside0.mk (Kd.R_lower (Kd.R_new' (Kd.R_new' ho0 (Kd.R_lt (by (with_reducible repeat (first|apply Kd.R_alloc|apply Kd.R_drewN|apply Kd.R_drew));exact HO592.out))) (Kd.R_lt (by (with_reducible repeat (first|apply Kd.R_alloc|apply Kd.R_drewN|apply Kd.R_drew));exact HO595.out))) (below_size (by repeat (first|(with_reducible first|exact HB.out|apply below_alloc|apply pw_below_drewN|apply below_drew1)|exact HB.out))));have n3_:=Aside0.mk (below_step (by repeat (first|(with_reducible first|exact HB.out|apply below_alloc|apply pw_below_drewN|apply below_drew1)|exact HB.out)) hb);clear HO592;clear HO595;clear HB;have HO592:=n0_;have HO595:=n1_;have HO598:=n2_;have HB:=n3_;clear n0_ n1_ n2_ n3_;(try clear hb);(try clear hb2);(try clear hk);(try clear hi);(try clear ho0);obtain ⟨Ao12,co12,eo12⟩:=Kd.R_slice HO598.out;subst eo12)|((with_reducible refine gate_callee (f:=47) rfl ?_);refine goesL_ (some 10) rfl rfl Tryd.func47 (by kernel_rfl) rfl #[.slice Ao12 t596.length co12] rfl (by (try simp only [List.map_toArray,List.map_cons,List.map_nil]);first|done|rfl|(simp only [List.length_drop,List.length_take];rfl)) ?_;(with_reducible refine (insolvencyref1_text.calls k (fun k_=>some k_=(.slice Ao12 t596.length co12:Value).ownBlock) (.slice Ao12 t596.length co12) t596 t599 w _ ?side1 ?side2 A6.out).mono ?_);(case side1=>repeat (first|(with_reducible first|exact HB.out|apply below_alloc|apply pw_below_drewN|apply below_drew1)|exact HB.out));(case side2=>exact Kd.R_tight rfl HO598.out);rintro e w13 ⟨rfl,hb,hkp⟩;refine ⟨_,rfl,?_⟩;have n0_:=Aside0.mk (Kd.R_mono (ok':=fun k_=>some k_≠(.slice Ao10 t593.length co10:Value).ownBlock) (Kd.R_keptB (HO592.out) hkp (fun k_ hk_ hs_=>(hk_.2) hs_)) (fun k_ hk_=>hk_.1.1.2));have n1_:=Aside0.mk (Kd.R_mono (ok':=fun k_=>some k_≠(.slice Ao9 t590.length co9:Value).ownBlock) (Kd.R_keptB (HO595.out) hkp (fun k_ hk_ hs_=>(hk_.2) hs_)) (fun k_ hk_=>hk_.1.1.2));have n2_:=Aside0.mk (hb);clear HO592;clear HO595;clear HB;clear HO598;have HO592:=n0_;have HO595:=n1_;have HB:=n2_;clear n0_ n1_ n2_;(try clear hb);(try clear hkp)))
 go_ret
 exact ⟨by first|rfl|(simp [errW_none,errW_some] <;> rfl)|(simp [*,errW_none,errW_some] <;> rfl),by repeat (first|(with_reducible first|exact HB.out|apply below_alloc|apply pw_below_drewN|apply below_drew1)|exact HB.out)⟩
end Go.Proofs.YtjaflmhdclmolaaDoor.F
end
section
namespace Go.Proofs.YtjaflmhdclmolaaDoor.Num
open Go.RowKit Go.Proofs.YtjaflmhdclmolaaDoorW.PrintWords Go.Proofs.YtjaflmhdclmolaaDoorW.PrintLast Go.Proofs.YtjaflmhdclmolaaDoorW.PrintMore Go.Proofs.YtjaflmhdclmolaaDoor.F
set_option linter.unusedVariables false
theorem drop_cons {l:List Int} {i:Nat} {x:Int} {r:List Int} (h:l.drop i=x :: r):i<l.length∧rd l (i:Int)=x∧l.drop (i+1)=r∧x ∈ l:=by
 have hlt:i<l.length:=by
  rcases Nat.lt_or_ge i l.length with q|q
  ·exact q
  ·rw [List.drop_of_length_le q] at h;cases h
 obtain ⟨y,_,hr,_,hd⟩:=drop_split hlt
 rw [hd] at h
 have h1:=(List.cons.inj h).1
 have h2:=(List.cons.inj h).2
 refine ⟨hlt,by rw [hr,h1],h2,?_⟩
 have:x ∈ l.drop i:=by rw [hd,h1];exact List.mem_cons_self
 exact List.mem_of_mem_drop this
theorem drop_nil {l:List Int} {i:Nat} (h:l.drop i=[]):l.length≤i:=by
 have:=congrArg List.length h
 rw [List.length_drop,List.length_nil] at this
 omega
theorem drop_len {l:List Int} {i:Nat} {r:List Int} (h:l.drop i=r):r.length=l.length-i:=by rw [← h,List.length_drop]
theorem vsnoc (o:List Int) (d r:Int):val (o ++ [d])+4294967296 ^ (o ++ [d]).length*r=val o+4294967296 ^ o.length*(d+4294967296*r):=by
 rw [val_app,List.length_append,List.length_singleton,Int.pow_succ]
 simp only [val,Int.mul_zero,Int.add_zero,Int.mul_add,← Int.mul_assoc]
 omega
theorem snoc_len (o:List Int) (d:Int):(o ++ [d]).length=o.length+1:=by rw [List.length_append,List.length_singleton]
theorem snoc_dig {o:List Int} {d:Int} (h:Dig o) (h0:0≤d) (h1:d<4294967296):Dig (o ++ [d]):=h.app (Dig.cons h0 h1 Dig.nil)
theorem set_snoc (o:List Int) (d x:Int) (r:List Int):(o ++ x :: r).set o.length d=(o ++ [d]) ++ r:=by
 have:=set_at o x d r (o.length:Int) rfl
 rw [Int.toNat_natCast] at this
 rw [this,List.append_assoc,List.singleton_append]
theorem add32_eq {a b c:Int} (ha0:0≤a) (ha:a<4294967296) (hb0:0≤b) (hb:b<4294967296) (hc0:0≤c) (hc:c≤1):bits_Add32.f a b c=some ((a+b+c)%4294967296,(a+b+c)/4294967296):=by
 unfold bits_Add32.f
 rw [wu (n:=a) (by omega) (by omega),wu (n:=b) (by omega) (by omega),wu (n:=c) (by omega) (by omega),wu (n:=a+b) (by omega) (by omega),wu (by omega) (by omega),Int.emod_eq_of_lt (a:=(a+b+c)/4294967296) (by omega) (by omega)]
theorem sub32_eq {a b c:Int} (ha0:0≤a) (ha:a<4294967296) (hb0:0≤b) (hb:b<4294967296) (hc0:0≤c) (hc:c≤1):bits_Sub32.f a b c=some ((a-b-c)%4294967296,-((a-b-c)/4294967296)):=by
 unfold bits_Sub32.f
 rw [if_pos ⟨ha0,ha,hb0,hb,hc0,hc⟩]
 have:(if a<b+c then (1:Int) else 0) = -((a-b-c)/4294967296):=by split <;> omega
 rw [this]
theorem mul_le {u v:Int} (hu0:0≤u) (hu:u<4294967296) (hv0:0≤v) (hv:v<4294967296):0≤u*v∧u*v≤18446744065119617025:=by
 have h1:=Int.mul_nonneg hu0 hv0
 have h2:=Int.mul_le_mul_of_nonneg_right (show u≤4294967295 by omega) hv0
 omega
end Go.Proofs.YtjaflmhdclmolaaDoor.Num
end
section
namespace Go.Proofs.YtjaflmhdclmolaaDoor.Num
open Go.RowKit Go.Proofs.YtjaflmhdclmolaaDoorW.PrintWords Go.Proofs.YtjaflmhdclmolaaDoorW.PrintLast Go.Proofs.YtjaflmhdclmolaaDoorW.PrintMore Go.Proofs.YtjaflmhdclmolaaDoor.F
set_option maxRecDepth 100000 in
theorem awake_div:natural_Divide.f 40 ⟨#[3,232]⟩ ⟨#[7]⟩=some (⟨#[142]⟩,⟨#[6]⟩,true):=by kernel_rfl
set_option maxRecDepth 100000 in
theorem awake_parse:natural_Parse.f 40 ⟨#[48,48,55]⟩=some (⟨#[]⟩,3):=by kernel_rfl
set_option maxRecDepth 100000 in
theorem awake_add:natural_Add.f 40 ⟨#[255]⟩ ⟨#[1]⟩=some ⟨#[1,0]⟩:=by kernel_rfl
set_option maxRecDepth 100000 in
theorem awake_fmt1:natural_Format.f 40 ⟨#[142]⟩=some ⟨#[49,52,50]⟩:=by kernel_rfl
set_option maxRecDepth 100000 in
theorem awake_fmt2:natural_Format.f 40 ⟨#[6]⟩=some ⟨#[54]⟩:=by kernel_rfl
theorem awake_ev:Ev (fun k=>insolvencylaw1_awake.f k) true:=by
 refine Ev.of (fun k=>insolvencylaw1_awake.mono k) (k:=40) ?_
 unfold insolvencylaw1_awake.f
 rw [awake_div,Option.bind_some,awake_parse,Option.bind_some,awake_add,Option.bind_some,if_pos (by rw [Lib.toList_data]),if_pos rfl,awake_fmt1,Option.bind_some,if_pos (by rw [Lib.toList_data]),awake_fmt2,Option.bind_some,if_pos (by rw [Lib.toList_data])]
 rfl
end Go.Proofs.YtjaflmhdclmolaaDoor.Num
end
section
namespace Go.Proofs.YtjaflmhdclmolaaDoor.Num
open Go.RowKit Go.Proofs.YtjaflmhdclmolaaDoorW.PrintWords Go.Proofs.YtjaflmhdclmolaaDoorW.PrintLast Go.Proofs.YtjaflmhdclmolaaDoorW.PrintMore Go.Proofs.YtjaflmhdclmolaaDoor.F
theorem with_few {l:List ByteArray} (hl:l.length≤1000) {X:Nat→Option Bool} (h:(∀ s ∈ l,s.size≤60)→Ev X true):Ev (fun k=>(insolvencylaw1_few.f k l).bind fun t=>if t=true then X k else (insolvencylaw1_awake.f k).bind fun t=>some t) true:=by
 refine Ev.bind (few_ev l hl) ?_
 by_cases hf:(l.all fun s=>decide (s.size≤60))=true
 ·rw [hf]
  refine Ev.ite rfl (h fun s hs=>?_)
  have:=List.all_eq_true.1 hf s hs
  simpa using this
 ·rw [Bool.not_eq_true] at hf
  rw [hf]
  refine Ev.ite_not (by decide) ?_
  exact Ev.bind awake_ev (Ev.now _)
theorem some_of {g:Nat→Option Bool} (h:Ev g true):∃ k,g k=some true:=h.elim fun K hK=>⟨K,hK K (Nat.le_refl _)⟩
end Go.Proofs.YtjaflmhdclmolaaDoor.Num
end
section
namespace Go.Proofs.YtjaflmhdclmolaaDoor.Num
set_option linter.unusedVariables false
theorem divmod {n d q r:Int} (h:n=q*d+r) (h0:0≤r) (h1:r<d):n/d=q∧n%d=r:=
 (Int.ediv_emod_unique (by omega)).2 ⟨by rw [h,Int.mul_comm];omega,h0,h1⟩
theorem divmod_eq (n d:Int):n=(n/d)*d+n%d:=by
 have:=Int.emod_add_mul_ediv n d
 rw [Int.mul_comm (n/d)]
 omega
structure Kn (D U B dl ul v1 v2 u0 u1 u2 q:Int):Prop where
 hD:D=(v1*4294967296+v2)*B+dl
 hU:U=((u0*4294967296+u1)*4294967296+u2)*B+ul
 hB:0<B
 dl0:0≤dl
 dl1:dl<B
 ul0:0≤ul
 ul1:ul<B
 v10:2147483648≤v1
 v11:v1<4294967296
 v20:0≤v2
 v21:v2<4294967296
 u00:0≤u0
 u01:u0<4294967296
 u10:0≤u1
 u11:u1<4294967296
 u20:0≤u2
 u21:u2<4294967296
 q0:0≤q
 q1:q*D≤U
 q2:U<q*D+D
 hlt:U<4294967296*D
section
variable {D U B dl ul v1 v2 u0 u1 u2 q:Int}
theorem Kn.top (h:Kn D U B dl ul v1 v2 u0 u1 u2 q):q*(v1*4294967296+v2)≤(u0*4294967296+u1)*4294967296+u2:=by
 have e1:q*D=q*(v1*4294967296+v2)*B+q*dl:=by rw [h.hD,Int.mul_add,Int.mul_assoc]
 have e2:=Int.mul_nonneg h.q0 h.dl0
 have e3:=h.q1
 have e4:=h.hU
 have e5:q*(v1*4294967296+v2)*B<((u0*4294967296+u1)*4294967296+u2+1)*B:=by
  rw [Int.add_mul _ 1 B,Int.one_mul]
  have:=h.ul1
  omega
 have:=Int.lt_of_mul_lt_mul_right e5 (Int.le_of_lt h.hB)
 omega
theorem Kn.dpos (h:Kn D U B dl ul v1 v2 u0 u1 u2 q):4294967296*B≤D:=by
 have h1:=h.hD
 have h2:=h.dl0
 have h3:4294967296*B≤(v1*4294967296+v2)*B:=Int.mul_le_mul_of_nonneg_right (by have:=h.v10;have:=h.v20;omega) (Int.le_of_lt h.hB)
 omega
theorem Kn.qlt (h:Kn D U B dl ul v1 v2 u0 u1 u2 q):q<4294967296:=by
 have h1:=h.dpos
 have h2:=h.hB
 exact Int.lt_of_mul_lt_mul_right (Int.lt_of_le_of_lt h.q1 h.hlt) (by omega)
theorem Kn.uv (h:Kn D U B dl ul v1 v2 u0 u1 u2 q):u0≤v1:=by
 have h1:=h.hlt
 rw [h.hU,h.hD] at h1
 have h2:(u0*18446744073709551616)*B<((v1+1)*18446744073709551616)*B:=by
  have a1:(u0*18446744073709551616)*B≤((u0*4294967296+u1)*4294967296+u2)*B:=Int.mul_le_mul_of_nonneg_right (by have:=h.u10;have:=h.u20;omega) (Int.le_of_lt h.hB)
  have a2:(v1*4294967296+v2+1)*B≤(v1*4294967296+4294967296)*B:=Int.mul_le_mul_of_nonneg_right (by have:=h.v21;omega) (Int.le_of_lt h.hB)
  have a3:(v1*4294967296+v2+1)*B=(v1*4294967296+v2)*B+B:=by rw [Int.add_mul _ 1 B,Int.one_mul]
  have a4:((v1+1)*18446744073709551616)*B=4294967296*((v1*4294967296+4294967296)*B):=by rw [← Int.mul_assoc];congr 1;omega
  rw [a4]
  have:=h.dl1
  have:=h.ul0
  omega
 have:=Int.lt_of_mul_lt_mul_right h2 (Int.le_of_lt h.hB)
 omega
structure Gs (v1 u0 u1 q g r:Int):Prop where
 eq:g*v1+r=u0*4294967296+u1
 le:q≤g
 r0:0≤r
theorem Kn.start (h:Kn D U B dl ul v1 v2 u0 u1 u2 q):Gs v1 u0 u1 q ((u0*4294967296+u1)/v1) ((u0*4294967296+u1)%v1):=by
 have hv:=h.v10
 refine ⟨(divmod_eq _ _).symm,?_,Int.emod_nonneg _ (by omega)⟩
 refine (Int.le_ediv_iff_mul_le (by omega)).2 ?_
 have h1:=h.top
 have h2:(q*v1)*4294967296≤q*(v1*4294967296+v2):=by
  rw [Int.mul_add,Int.mul_assoc]
  have:=Int.mul_nonneg h.q0 h.v20
  omega
 have:=h.u21
 omega
theorem Gs.g0 (h:Kn D U B dl ul v1 v2 u0 u1 u2 q) {g r:Int} (a:Gs v1 u0 u1 q g r):0≤g:=by have:=a.le;have:=h.q0;omega
theorem Gs.next (h:Kn D U B dl ul v1 v2 u0 u1 u2 q) {g r:Int} (a:Gs v1 u0 u1 q g r) (c:4294967296≤g∨r*4294967296+u2<g*v2):Gs v1 u0 u1 q (g-1) (r+v1):=by
 have h1:=a.eq
 have h2:=a.le
 refine ⟨by rw [Int.sub_mul];omega,?_,by have:=a.r0;have:=h.v10;omega⟩
 have h3:q≠g:=by
  intro e
  rcases c with c|c
  ·have:=h.qlt;omega
  ·have h4:=h.top
   rw [e,Int.mul_add,← Int.mul_assoc,← h1] at h4
   omega
 omega
theorem Gs.done (h:Kn D U B dl ul v1 v2 u0 u1 u2 q) {g r:Int} (a:Gs v1 u0 u1 q g r) (c1:g<4294967296) (c2:g*v2≤r*4294967296+u2):g≤q+1:=by
 have h1:=a.eq
 have g0:=a.g0 h
 have e1:g*D=g*(v1*4294967296+v2)*B+g*dl:=by rw [h.hD,Int.mul_add,Int.mul_assoc]
 have e2:g*(v1*4294967296+v2)≤(u0*4294967296+u1)*4294967296+u2:=by
  rw [Int.mul_add,← Int.mul_assoc,← h1];omega
 have e3:=Int.mul_le_mul_of_nonneg_right e2 (Int.le_of_lt h.hB)
 have e4:g*dl≤4294967296*dl:=Int.mul_le_mul_of_nonneg_right (by omega) h.dl0
 have e5:=h.dpos
 have e6:=h.hU
 have e7:=h.dl1
 have e8:=h.ul0
 have e9:=h.q2
 have hlt:g*D<(q+2)*D:=by
  rw [Int.add_mul]
  omega
 have:=Int.lt_of_mul_lt_mul_right hlt (by have:=h.hB;omega)
 omega
theorem Gs.brk (h:Kn D U B dl ul v1 v2 u0 u1 u2 q) {g r:Int} (a:Gs v1 u0 u1 q g r) (c:4294967296≤r):g<4294967296∧g*v2≤r*4294967296+u2:=by
 have h1:=a.eq
 have g0:=a.g0 h
 have hu:=h.uv
 have hv:=h.v10
 have e1:g*v1<4294967296*v1:=by have:=h.u11;omega
 have e2:g<4294967296:=Int.lt_of_mul_lt_mul_right e1 (by omega)
 refine ⟨e2,?_⟩
 have e3:=Int.mul_le_mul_of_nonneg_right (show g≤4294967296 by omega) h.v20
 have:=h.v21
 have:=h.u20
 omega
theorem Kn.fix {D U q g W X bo:Int} (hD:0<D) (q1:q*D≤U) (q2:U<q*D+D) (hle:q≤g) (hge:g≤q+1) (hX0:0≤X) (hX1:X<W) (b0:0≤bo) (b1:bo≤1) (e:X+g*D=U+W*bo) :
 (bo=0→g=q∧X=U-q*D)∧(bo=1→g=q+1∧X+D-W=U-q*D):=by
 have hg:g=q∨g=q+1:=by omega
 constructor
 ·intro hb
  rw [hb,Int.mul_zero] at e
  rcases hg with rfl|rfl
  ·exact ⟨rfl,by omega⟩
  ·rw [Int.add_mul,Int.one_mul] at e;omega
 ·intro hb
  rw [hb,Int.mul_one] at e
  rcases hg with rfl|rfl
  ·omega
  ·rw [Int.add_mul,Int.one_mul] at e
   exact ⟨rfl,by omega⟩
end
end Go.Proofs.YtjaflmhdclmolaaDoor.Num
end
section
namespace Go.Proofs.YtjaflmhdclmolaaDoor.Num
open Go.RowKit Go.Proofs.YtjaflmhdclmolaaDoorW.PrintWords Go.Proofs.YtjaflmhdclmolaaDoorW.PrintLast Go.Proofs.YtjaflmhdclmolaaDoorW.PrintMore Go.Proofs.YtjaflmhdclmolaaDoor.F
set_option linter.unusedVariables false
theorem small_round {r a d:Int} (h0:0<d) (h1:d<4294967296) (r0:0≤r) (r1:r<d) (a0:0≤a) (a1:a<4294967296) :
 0≤(r*4294967296+a)/d∧(r*4294967296+a)/d<4294967296∧0≤(r*4294967296+a)%d∧(r*4294967296+a)%d<d:=by
 refine ⟨Int.ediv_nonneg (by omega) (by omega),?_,Int.emod_nonneg _ (by omega),Int.emod_lt_of_pos _ h0⟩
 exact Int.ediv_lt_of_lt_mul h0 (by omega)
theorem small_bits {r a:Int} (r0:0≤r) (r1:r<4294967296) (a0:0≤a) (a1:a<4294967296):Go.bits .or .u64 (IntKind.u64.wrap (r*4294967296)) (IntKind.u64.wrap a)=r*4294967296+a:=by
 rw [wu (by omega) (by omega),wu (by omega) (by omega),orHi r0 r1 a0 a1]
theorem small_val {t a d r q v:Int} (e1:t=r*4294967296+a) (e2:v=q*d+r):a+4294967296*v=(t/d+4294967296*q)*d+t%d:=by
 have h:=divmod_eq t d
 rw [e2,Int.add_mul,Int.mul_assoc,Int.mul_add]
 omega
theorem set_rep (i:Nat) (d:Int) (q:List Int):(List.replicate (i+1) 0 ++ q).set i d=List.replicate i 0 ++ d :: q:=by
 rw [List.replicate_succ',List.append_assoc,List.singleton_append]
 have:=set_at (List.replicate i 0) 0 d q (i:Int) (by rw [List.length_replicate])
 rwa [Int.toNat_natCast] at this
theorem divideSmall_loop (x:List Int) (hx:Dig x) (hl:x.length≤400000) (d:Int) (h0:0<d) (h1:d<4294967296) (i:Nat):∀ (q:List Int) (r:Int),i≤x.length→Dig q→i+q.length=x.length→0≤r→r<d→val (x.drop i)=val q*d+r →
 Ev (fun k=>natural_divideSmall.l0 k x d (List.replicate i 0 ++ q) r ((i:Int)-1)) (L (val x/d),val x%d):=by
 induction i with
 | zero=>
  intro q r hi hq hql r0 r1 hv
  obtain ⟨e1,e2⟩:=divmod hv r0 r1
  rw [List.drop_zero] at e1 e2
  refine Ev.step (f:=fun k=>(natural_limbs_trim.f k q).bind fun t=>some (t,r%4294967296)) (fun k=>?_) ?_
  ·simp only [natural_divideSmall.l0]
   rw [if_neg (by omega),List.replicate_zero,List.nil_append]
  ·refine Ev.bind (trim_ev q (by omega)) ?_
   rw [tr_L hq,e1,e2,Int.emod_eq_of_lt r0 (by omega)]
   exact Ev.now _
 | succ i ih=>
  intro q r hi hq hql r0 r1 hv
  obtain ⟨a,ea,ra,la,da⟩:=drop_split (l:=x) (i:=i) (by omega)
  have ba:0≤a∧a<4294967296:=by rw [← ra];exact hx.at _
  obtain ⟨t0,t1,t2,t3⟩:=small_round h0 h1 r0 r1 ba.1 ba.2
  have hb:=small_bits r0 (by omega) ba.1 ba.2
  have ht0:0≤r*4294967296+a:=by omega
  have ih:=ih ((r*4294967296+a)/d :: q) ((r*4294967296+a)%d) (by omega) (Dig.cons t0 t1 hq) (by rw [List.length_cons];omega) t2 t3 (by
   rw [da,val,val]
   exact small_val rfl hv)
  refine Ev.step (fun k=>?_) ih
  simp only [natural_divideSmall.l0]
  have hlen:(List.replicate (i+1) (0:Int) ++ q).length=x.length:=by rw [List.length_append,List.length_replicate];omega
  rw [show ((i+1:Nat):Int)-1=(i:Int) by omega,ra,hb,wu (n:=d) (by omega) (by omega),hlen,Int.tdiv_eq_ediv_of_nonneg ht0,Int.tmod_eq_emod_of_nonneg ht0,if_pos (by omega),if_pos (by omega),if_pos (by omega),if_neg (by omega),if_pos (by omega),Int.toNat_natCast,set_rep,w64 (by omega) (by omega),wu t0 (by omega),Int.emod_eq_of_lt t0 t1]
theorem divideSmall_ev (x:List Int) (hx:Dig x) (hl:x.length≤400000) (d:Int) (h0:0<d) (h1:d<4294967296):Ev (fun k=>natural_divideSmall.f k x d) (L (val x/d),val x%d):=by
 have g:=divideSmall_loop x hx hl d h0 h1 x.length [] 0 (Nat.le_refl _) Dig.nil rfl (Int.le_refl _) h0 (by rw [List.drop_length];simp [val])
 rw [List.append_nil] at g
 refine Ev.congr (fun k=>?_) g
 simp only [natural_divideSmall.f]
 rw [Int.toNat_natCast,if_pos (by omega),if_pos (by omega),w64 (by omega) (by omega)]
theorem short_loop (x:List Int) (hx:Dig x) (hl:x.length≤400000) (d:Int) (h0:0<d) (h1:d<4294967296) (i:Nat):∀ (q:List Int) (r:Int),i≤x.length→Dig q→i+q.length=x.length→0≤r→r<d→val (x.drop i)=val q*d+r →
 Ev (fun k=>insolvencyref1_short.l0 k x d (List.replicate i 0 ++ q) r ((i:Int)-1)) (L (val x/d),val x%d):=by
 induction i with
 | zero=>
  intro q r hi hq hql r0 r1 hv
  obtain ⟨e1,e2⟩:=divmod hv r0 r1
  rw [List.drop_zero] at e1 e2
  refine Ev.step (f:=fun k=>(insolvencyref1_strip.f k q).bind fun t=>some (t,r%4294967296)) (fun k=>?_) ?_
  ·simp only [insolvencyref1_short.l0]
   rw [if_neg (by omega),List.replicate_zero,List.nil_append]
  ·refine Ev.bind (strip_ev q (by omega)) ?_
   rw [tr_L hq,e1,e2,Int.emod_eq_of_lt r0 (by omega)]
   exact Ev.now _
 | succ i ih=>
  intro q r hi hq hql r0 r1 hv
  obtain ⟨a,ea,ra,la,da⟩:=drop_split (l:=x) (i:=i) (by omega)
  have ba:0≤a∧a<4294967296:=by rw [← ra];exact hx.at _
  obtain ⟨t0,t1,t2,t3⟩:=small_round h0 h1 r0 r1 ba.1 ba.2
  have hb:=small_bits r0 (by omega) ba.1 ba.2
  have ht0:0≤r*4294967296+a:=by omega
  have ih:=ih ((r*4294967296+a)/d :: q) ((r*4294967296+a)%d) (by omega) (Dig.cons t0 t1 hq) (by rw [List.length_cons];omega) t2 t3 (by
   rw [da,val,val]
   exact small_val rfl hv)
  refine Ev.step (fun k=>?_) ih
  simp only [insolvencyref1_short.l0]
  have hlen:(List.replicate (i+1) (0:Int) ++ q).length=x.length:=by rw [List.length_append,List.length_replicate];omega
  rw [show ((i+1:Nat):Int)-1=(i:Int) by omega,ra,hb,wu (n:=d) (by omega) (by omega),hlen,Int.tdiv_eq_ediv_of_nonneg ht0,Int.tmod_eq_emod_of_nonneg ht0,if_pos (by omega),if_pos (by omega),if_pos (by omega),if_neg (by omega),if_pos (by omega),Int.toNat_natCast,set_rep,w64 (by omega) (by omega),wu t0 (by omega),Int.emod_eq_of_lt t0 t1]
theorem short_ev (x:List Int) (hx:Dig x) (hl:x.length≤400000) (d:Int) (h0:0<d) (h1:d<4294967296):Ev (fun k=>insolvencyref1_short.f k x d) (L (val x/d),val x%d):=by
 have g:=short_loop x hx hl d h0 h1 x.length [] 0 (Nat.le_refl _) Dig.nil rfl (Int.le_refl _) h0 (by rw [List.drop_length];simp [val])
 rw [List.append_nil] at g
 refine Ev.congr (fun k=>?_) g
 simp only [insolvencyref1_short.f]
 rw [Int.toNat_natCast,if_pos (by omega),if_pos (by omega),w64 (by omega) (by omega)]
theorem shl64 {a:Int} {s:Nat} (a0:0≤a) (a1:a<4294967296) (hs:s<32):shl .u64 (IntKind.u64.wrap a) (s:Int)=a*2 ^ s∧0≤a*2 ^ s∧a*2 ^ s<4294967296*2 ^ s:=by
 have h1:(0:Int)<2 ^ s:=Int.pow_pos (by decide)
 have h2:(2:Int) ^ s≤2147483648:=by
  have e:((2 ^ s:Nat):Int)=(2:Int) ^ s:=Int.natCast_pow 2 s
  rw [← e]
  have:=Nat.pow_le_pow_right (show 0<2 by decide) (show s≤31 by omega)
  omega
 have h3:=Int.mul_nonneg a0 (Int.le_of_lt h1)
 have h4:=Int.mul_le_mul_of_nonneg_right (show a≤4294967295 by omega) (Int.le_of_lt h1)
 refine ⟨?_,h3,by omega⟩
 unfold shl
 rw [Int.toNat_natCast,show min s IntKind.u64.bits=s from Nat.min_eq_left (by show s≤64;omega),wu (n:=a) (by omega) (by omega),wu h3 (by omega)]
theorem pow32 {s:Nat} (hs:s<32):(0:Int)<2 ^ s∧(2:Int) ^ s≤2147483648∧(2:Int) ^ s*2 ^ (32-s)=4294967296∧(0:Int)<2 ^ (32-s):=by
 refine ⟨Int.pow_pos (by decide),?_,?_,Int.pow_pos (by decide)⟩
 ·have e:((2 ^ s:Nat):Int)=(2:Int) ^ s:=Int.natCast_pow 2 s
  rw [← e]
  have:=Nat.pow_le_pow_right (show 0<2 by decide) (show s≤31 by omega)
  omega
 ·rw [← Int.pow_add,show s+(32-s)=32 by omega];rfl
theorem shlow {a:Int} {s:Nat} (hs:s<32):a*2 ^ s%4294967296%2 ^ s=0∧a*2 ^ s%4294967296+(2:Int) ^ s≤4294967296:=by
 obtain ⟨p0,p1,p2,p3⟩:=pow32 hs
 have h1:a*2 ^ s%4294967296%2 ^ s=0:=by
  rw [Int.emod_emod_of_dvd _ ⟨2 ^ (32-s),p2.symm⟩,Int.mul_emod_left]
 refine ⟨h1,?_⟩
 have h2:=Int.emod_lt_of_pos (a*2 ^ s) (show (0:Int)<4294967296 by decide)
 have h3:=divmod_eq (a*2 ^ s%4294967296) (2 ^ s)
 rw [h1,Int.add_zero] at h3
 generalize a*2 ^ s%4294967296=y at *
 have h4:y/2 ^ s<2 ^ (32-s):=Int.ediv_lt_of_lt_mul p0 (by rw [Int.mul_comm,p2];exact h2)
 have h5:=Int.mul_le_mul_of_nonneg_right (show y/2 ^ s+1≤2 ^ (32-s) by omega) (Int.le_of_lt p0)
 rw [Int.mul_comm (2 ^ (32-s)),p2,Int.add_mul,← h3] at h5
 omega
theorem or_low {c y:Int} {s:Nat} (hs:s<32) (c0:0≤c) (c1:c<2 ^ s) (y0:0≤y) (y1:y<4294967296) (hy:y%2 ^ s=0):Go.bits .or .u32 c y=c+y:=by
 obtain ⟨p0,p1,p2,p3⟩:=pow32 hs
 rw [bitor_comm,bits_join .u32 32 (by decide) u32_in s y c y0 hy (by omega) c0 c1 (by omega)]
 omega
theorem or_zero {y:Int} (y0:0≤y) (y1:y<4294967296):Go.bits .or .u32 0 y=y:=by
 rw [bits_join .u32 32 (by decide) u32_in 32 0 y (by omega) (by omega) (by omega) y0 (by omega) (by omega)]
 omega
theorem shhigh {a:Int} {s:Nat} (a0:0≤a) (a1:a<4294967296) (hs:s<32):0≤a*2 ^ s/4294967296∧a*2 ^ s/4294967296<2 ^ s:=by
 obtain ⟨h1,h2,h3⟩:=shl64 a0 a1 hs
 exact ⟨Int.ediv_nonneg h2 (by decide),Int.ediv_lt_of_lt_mul (by decide) (by rw [Int.mul_comm (2 ^ s)];exact h3)⟩
theorem shift_loop (x:List Int) (hx:Dig x) (hl:x.length≤400000) (s:Nat) (hs:s<32) (n:Nat) (hn:n=x.length∨n=x.length+1) (xs:List Int):∀ (o:List Int) (c:Int),x.drop o.length=xs→o.length≤x.length→Dig o→0≤c→c<2 ^ s→(n=x.length→val xs*2 ^ s+c<4294967296 ^ xs.length) →
 ∃ l,Dig l∧l.length=n∧val l=val o+4294967296 ^ o.length*(c+val xs*2 ^ s)∧Ev (fun k=>natural_shift.l0 k (s:Int) (n:Int) (o ++ (if o.length<n then [c] else []) ++ List.replicate (n-o.length-1) 0) x (x.length:Int) (o.length:Int)) l:=by
 obtain ⟨p0,p1,p2,p3⟩:=pow32 hs
 induction xs with
 | nil=>
  intro o c h1 h2 ho c0 c1 hfit
  have e1:=drop_nil h1
  rcases hn with hn|hn
  ·have hc:=hfit hn
   simp only [val,List.length_nil,Int.zero_mul,Int.zero_add,Int.pow_zero] at hc
   refine ⟨o,ho,by omega,by simp only [val];rw [show c=0 by omega];simp,?_⟩
   refine Ev.step (f:=fun _=>some o) (fun k=>?_) (Ev.now _)
   simp only [natural_shift.l0]
   rw [if_neg (by omega),if_neg (by omega),show n-o.length-1=0 by omega]
   simp
  ·refine ⟨o ++ [c],snoc_dig ho c0 (by omega),by rw [snoc_len];omega,by rw [val_app];simp [val],?_⟩
   refine Ev.step (f:=fun _=>some (o ++ [c])) (fun k=>?_) (Ev.now _)
   simp only [natural_shift.l0]
   rw [if_neg (by omega),if_pos (by omega),show n-o.length-1=0 by omega]
   simp
 | cons a xs ih=>
  intro o c h1 h2 ho c0 c1 hfit
  obtain ⟨i1,r1,d1,m1⟩:=drop_cons h1
  have ba:=hx a m1
  obtain ⟨s1,s2,s3⟩:=shl64 ba.1 ba.2 hs
  obtain ⟨l1,l2⟩:=shlow (a:=a) hs
  obtain ⟨g1,g2⟩:=shhigh ba.1 ba.2 hs
  have y0:=Int.emod_nonneg (a*2 ^ s) (show (4294967296:Int)≠0 by decide)
  have y1:=Int.emod_lt_of_pos (a*2 ^ s) (show (0:Int)<4294967296 by decide)
  have hor:=or_low hs c0 c1 y0 y1 l1
  have hz:a*2 ^ s=4294967296*(a*2 ^ s/4294967296)+a*2 ^ s%4294967296:=by omega
  have hxl:=drop_len d1
  have hval:(c+a*2 ^ s%4294967296)+4294967296*(a*2 ^ s/4294967296+val xs*2 ^ s)=c+val (a :: xs)*2 ^ s:=by
   rw [val,Int.add_mul,Int.mul_assoc]
   omega
  have hsplit:o ++ (if o.length<n then [c] else []) ++ List.replicate (n-o.length-1) 0=o ++ c :: List.replicate (n-o.length-1) 0:=by
   rw [if_pos (by omega),List.append_assoc,List.singleton_append]
  have hrd:rd (o ++ c :: List.replicate (n-o.length-1) 0) (o.length:Int)=c:=rd_at _ _ _ _ rfl
  have hd1:=snoc_dig (d:=c+a*2 ^ s%4294967296) ho (by omega) (by omega)
  have hlen1:(o ++ c :: List.replicate (n-o.length-1) 0).length=n:=by
   rw [List.length_append,List.length_cons,List.length_replicate];omega
  obtain ⟨l,q1,q2,q3,q4⟩:=ih (o ++ [c+a*2 ^ s%4294967296]) (a*2 ^ s/4294967296) (by rw [snoc_len];exact d1) (by rw [snoc_len];omega) hd1 g1 g2 (by
   intro e
   have h5:=hfit e
   rw [← Int.add_comm c,← hval,List.length_cons,Int.pow_succ] at h5
   generalize (4294967296:Int) ^ xs.length=P at *
   omega)
  rw [vsnoc,hval] at q3
  refine ⟨l,q1,q2,q3,?_⟩
  rw [hsplit]
  refine Ev.step (fun k=>?_) q4
  simp only [natural_shift.l0]
  by_cases hlast:o.length+1<n
  ·obtain ⟨w,hw⟩:∃ w,n-o.length-1=w+1:=⟨n-o.length-2,by omega⟩
   have e2:o ++ [c+a*2 ^ s%4294967296] ++ List.replicate (n-o.length-1) 0=(o ++ [c+a*2 ^ s%4294967296]) ++ 0 :: List.replicate w 0:=by rw [hw,List.replicate_succ]
   have e3:rd ((o ++ [c+a*2 ^ s%4294967296]) ++ 0 :: List.replicate w 0) ((o.length+1:Nat):Int)=0:=rd_at _ _ _ _ (by rw [snoc_len])
   have e4:∀ d,((o ++ [c+a*2 ^ s%4294967296]) ++ 0 :: List.replicate w 0).set (o.length+1) d=o ++ [c+a*2 ^ s%4294967296] ++ [d] ++ List.replicate w 0:=fun d=>by
    have:=set_snoc (o ++ [c+a*2 ^ s%4294967296]) d 0 (List.replicate w 0)
    rwa [snoc_len] at this
   rw [hlen1,r1,s1,hrd,hor,if_pos (by omega),if_pos (by omega),if_pos (by omega),if_pos (by omega),if_pos (by omega),Option.bind_some,winc (by omega),if_pos (by omega),if_pos (by omega),Int.toNat_natCast,Int.toNat_natCast,set_snoc,e2,if_pos (by omega),e3,Int.emod_eq_of_lt g1 (by omega),or_zero g1 (by omega),e4,snoc_len,if_pos (by omega),show n-(o.length+1)-1=w by omega]
  ·rw [hlen1,r1,s1,hrd,hor,if_pos (by omega),if_pos (by omega),if_pos (by omega),if_pos (by omega),if_pos (by omega),Option.bind_some,winc (by omega),if_neg (by omega),Int.toNat_natCast,set_snoc,snoc_len,if_neg (by omega),show n-o.length-1=0 by omega,show n-(o.length+1)-1=0 by omega]
   simp only [List.replicate_zero,List.append_nil]
theorem shift_ev (x:List Int) (hx:Dig x) (hl:x.length≤400000) (s:Nat) (hs:s<32) (n:Nat) (hn:n=x.length∨n=x.length+1) (hfit:n=x.length→val x*2 ^ s<4294967296 ^ x.length) :
 ∃ l,Dig l∧l.length=n∧val l=val x*2 ^ s∧Ev (fun k=>natural_shift.f k x (s:Int) (n:Int)) l:=by
 obtain ⟨p0,p1,p2,p3⟩:=pow32 hs
 obtain ⟨l,q1,q2,q3,q4⟩:=shift_loop x hx hl s hs n hn x [] 0 rfl (Nat.zero_le _) Dig.nil (Int.le_refl _) p0 (fun e=>by have:=hfit e;omega)
 refine ⟨l,q1,q2,by rw [q3];simp [val],?_⟩
 refine Ev.congr (fun k=>?_) q4
 simp only [natural_shift.f]
 rw [Int.toNat_natCast,if_pos (by omega),if_pos (by omega)]
 by_cases h:n=0
 ·rw [h];rfl
 ·obtain ⟨m,rfl⟩:∃ m,n=m+1:=⟨n-1,by omega⟩
  rw [List.length_nil,if_pos (by omega),List.nil_append,List.replicate_succ]
  rfl
theorem shifted_loop (x:List Int) (hx:Dig x) (hl:x.length≤400000) (s:Nat) (hs:s<32) (xs:List Int):∀ (o:List Int) (c:Int),x.drop o.length=xs→o.length≤x.length→Dig o→0≤c→c<2 ^ s →
 ∃ l,Dig l∧l.length=x.length+1∧val l=val o+4294967296 ^ o.length*(c+val xs*2 ^ s)∧Ev (fun k=>insolvencyref1_shifted.l0 k x (s:Int) (o ++ c :: List.replicate xs.length 0) (o.length:Int)) l:=by
 obtain ⟨p0,p1,p2,p3⟩:=pow32 hs
 induction xs with
 | nil=>
  intro o c h1 h2 ho c0 c1
  have e1:=drop_nil h1
  refine ⟨o ++ [c],snoc_dig ho c0 (by omega),by rw [snoc_len];omega,by rw [val_app];simp [val],?_⟩
  refine Ev.step (f:=fun _=>some (o ++ [c])) (fun k=>?_) (Ev.now _)
  simp only [insolvencyref1_shifted.l0]
  rw [if_neg (by omega)]
  rfl
 | cons a xs ih=>
  intro o c h1 h2 ho c0 c1
  obtain ⟨i1,r1,d1,m1⟩:=drop_cons h1
  have ba:=hx a m1
  obtain ⟨s1,s2,s3⟩:=shl64 ba.1 ba.2 hs
  obtain ⟨l1,l2⟩:=shlow (a:=a) hs
  obtain ⟨g1,g2⟩:=shhigh ba.1 ba.2 hs
  have y0:=Int.emod_nonneg (a*2 ^ s) (show (4294967296:Int)≠0 by decide)
  have y1:=Int.emod_lt_of_pos (a*2 ^ s) (show (0:Int)<4294967296 by decide)
  have hor:=or_low hs c0 c1 y0 y1 l1
  have hz:a*2 ^ s=4294967296*(a*2 ^ s/4294967296)+a*2 ^ s%4294967296:=by omega
  have hxl:=drop_len d1
  have hval:(c+a*2 ^ s%4294967296)+4294967296*(a*2 ^ s/4294967296+val xs*2 ^ s)=c+val (a :: xs)*2 ^ s:=by
   rw [val,Int.add_mul,Int.mul_assoc]
   omega
  have hrd:rd (o ++ c :: List.replicate (a :: xs).length 0) (o.length:Int)=c:=rd_at _ _ _ _ rfl
  have hd1:=snoc_dig (d:=c+a*2 ^ s%4294967296) ho (by omega) (by omega)
  have hlen1:(o ++ c :: List.replicate (a :: xs).length 0).length=o.length+1+(xs.length+1):=by
   rw [List.length_append,List.length_cons,List.length_replicate,List.length_cons];omega
  obtain ⟨l,q1,q2,q3,q4⟩:=ih (o ++ [c+a*2 ^ s%4294967296]) (a*2 ^ s/4294967296) (by rw [snoc_len];exact d1) (by rw [snoc_len];omega) hd1 g1 g2
  rw [vsnoc,hval] at q3
  refine ⟨l,q1,q2,q3,?_⟩
  rw [snoc_len] at q4
  refine Ev.step (fun k=>?_) q4
  simp only [insolvencyref1_shifted.l0]
  have e4:∀ d,((o ++ [c+a*2 ^ s%4294967296]) ++ List.replicate (a :: xs).length 0).set (o.length+1) d=o ++ [c+a*2 ^ s%4294967296] ++ d :: List.replicate xs.length 0:=fun d=>by
   rw [List.length_cons,List.replicate_succ]
   have:=set_snoc (o ++ [c+a*2 ^ s%4294967296]) d 0 (List.replicate xs.length 0)
   rw [snoc_len] at this
   rw [this,List.append_assoc,List.singleton_append]
  rw [hlen1,r1,s1,hrd,hor,winc (by omega),if_pos (by omega),if_pos (by omega),if_pos (by omega),if_pos (by omega),if_pos (by omega),if_pos (by omega),Int.toNat_natCast,Int.toNat_natCast,set_snoc,Int.emod_eq_of_lt g1 (by omega),e4]
theorem shifted_ev (x:List Int) (hx:Dig x) (hl:x.length≤400000) (s:Nat) (hs:s<32):∃ l,Dig l∧l.length=x.length+1∧val l=val x*2 ^ s∧Ev (fun k=>insolvencyref1_shifted.f k x (s:Int)) l:=by
 obtain ⟨p0,p1,p2,p3⟩:=pow32 hs
 obtain ⟨l,q1,q2,q3,q4⟩:=shifted_loop x hx hl s hs x [] 0 rfl (Nat.zero_le _) Dig.nil (Int.le_refl _) p0
 refine ⟨l,q1,q2,by rw [q3];simp [val],?_⟩
 refine Ev.congr (fun k=>?_) q4
 simp only [insolvencyref1_shifted.f]
 rw [winc (by omega),Int.toNat_natCast,if_pos (by omega),if_pos (by omega),List.replicate_succ]
 rfl
end Go.Proofs.YtjaflmhdclmolaaDoor.Num
end
section
namespace Go.Proofs.YtjaflmhdclmolaaDoor.Num
open Go.RowKit Go.Proofs.YtjaflmhdclmolaaDoorW.PrintWords Go.Proofs.YtjaflmhdclmolaaDoorW.PrintLast Go.Proofs.YtjaflmhdclmolaaDoorW.PrintMore Go.Proofs.YtjaflmhdclmolaaDoor.F
set_option linter.unusedVariables false
theorem drop_rd {l:List Int} {i:Nat} (h:i<l.length):l.drop i=rd l (i:Int) :: l.drop (i+1):=by
 obtain ⟨x,_,h2,_,h4⟩:=drop_split h
 rw [h4,h2]
theorem val_top2 {l:List Int} {m:Nat} (h:l.length=m+2):val l=(rd l ((m+1:Nat):Int)*4294967296+rd l (m:Int))*4294967296 ^ m+val (l.take m):=by
 have e:l=l.take m ++ [rd l (m:Int),rd l ((m+1:Nat):Int)]:=by
  rw [← List.take_append_drop m l]
  conv=>lhs;rw [drop_rd (show m<l.length by omega),drop_rd (show m+1<l.length by omega),List.drop_of_length_le (show l.length≤m+1+1 by omega)]
  rw [List.take_append_drop]
 have hm:(l.take m).length=m:=by rw [List.length_take];omega
 conv=>lhs;rw [e]
 rw [val_app,hm]
 simp only [val,Int.mul_zero,Int.add_zero]
 rw [Int.mul_comm (4294967296 ^ m),Int.mul_comm 4294967296 (rd l ((m+1:Nat):Int)),Int.add_comm (rd l (m:Int))]
 omega
theorem val_top3 {l:List Int} {m:Nat} (h:l.length=m+3):val l=((rd l ((m+2:Nat):Int)*4294967296+rd l ((m+1:Nat):Int))*4294967296+rd l (m:Int))*4294967296 ^ m+val (l.take m):=by
 have e:l=l.take m ++ [rd l (m:Int),rd l ((m+1:Nat):Int),rd l ((m+2:Nat):Int)]:=by
  rw [← List.take_append_drop m l]
  conv=>lhs;rw [drop_rd (show m<l.length by omega),drop_rd (show m+1<l.length by omega),drop_rd (show m+1+1<l.length by omega),List.drop_of_length_le (show l.length≤m+1+1+1 by omega)]
  rw [List.take_append_drop]
 have hm:(l.take m).length=m:=by rw [List.length_take];omega
 conv=>lhs;rw [e]
 rw [val_app,hm]
 simp only [val,Int.mul_zero,Int.add_zero]
 rw [Int.mul_comm (4294967296 ^ m)]
 rw [show rd l (m:Int)+4294967296*(rd l ((m+1:Nat):Int)+4294967296*rd l ((m+2:Nat):Int))=(rd l ((m+2:Nat):Int)*4294967296+rd l ((m+1:Nat):Int))*4294967296+rd l (m:Int) by omega]
 omega
theorem kn_of {u d:List Int} {m:Nat} (hu:Dig u) (hd:Dig d) (hul:u.length=m+3) (hdl:d.length=m+2) (hv:2147483648≤rd d ((m+1:Nat):Int)) (hlt:val u<4294967296*val d) :
 Kn (val d) (val u) (4294967296 ^ m) (val (d.take m)) (val (u.take m)) (rd d ((m+1:Nat):Int)) (rd d (m:Int)) (rd u ((m+2:Nat):Int)) (rd u ((m+1:Nat):Int)) (rd u (m:Int)) (val u/val d):=by
 have hD:=val_top2 hdl
 have hB:=pw m
 have dl0:=val_nonneg (hd.take m)
 have dl1:=val_lt (hd.take m)
 have ul1:=val_lt (hu.take m)
 rw [List.length_take,Nat.min_eq_left (by omega)] at dl1 ul1
 have v1:=hd.at ((m+1:Nat):Int)
 have v2:=hd.at (m:Int)
 have hpos:0<val d:=by
  rw [hD]
  have:=Int.mul_pos (show 0<rd d ((m+1:Nat):Int)*4294967296+rd d (m:Int) by omega) hB
  omega
 have hq:=divmod_eq (val u) (val d)
 have r0:=Int.emod_nonneg (val u) (show val d≠0 by omega)
 have r1:=Int.emod_lt_of_pos (val u) hpos
 exact { hD:=hD,hU:=val_top3 hul,hB:=hB,dl0:=dl0,dl1:=dl1,ul0:=val_nonneg (hu.take m),ul1:=ul1,v10:=hv,v11:=v1.2,v20:=v2.1,v21:=v2.2,u00:=(hu.at _).1,u01:=(hu.at _).2,u10:=(hu.at _).1,u11:=(hu.at _).2,u20:=(hu.at _).1,u21:=(hu.at _).2,q0:=Int.ediv_nonneg (val_nonneg hu) (val_nonneg hd),q1:=by omega,q2:=by omega,hlt:=hlt }
section
variable {D U B dl ul v1 v2 u0 u1 u2 q:Int}
theorem Gs.gle (h:Kn D U B dl ul v1 v2 u0 u1 u2 q) {g r:Int} (a:Gs v1 u0 u1 q g r):0≤g∧g≤8589934592:=by
 have g0:=a.g0 h
 have h1:=a.eq
 have h2:=Int.mul_le_mul_of_nonneg_left h.v10 g0
 have:=h.u01
 have:=h.u11
 have:=a.r0
 omega
end
theorem guess_loop {u d:List Int} {m:Nat} {D U B dl ul q:Int} (hul:u.length=m+3) (hdl:d.length=m+2) (hm:m≤400000)
 (h:Kn D U B dl ul (rd d ((m+1:Nat):Int)) (rd d (m:Int)) (rd u ((m+2:Nat):Int)) (rd u ((m+1:Nat):Int)) (rd u (m:Int)) q) {R:Int×List Int}
 (hc:∀ g,0≤g→g<4294967296→q≤g→g≤q+1→Ev (fun k=>natural_step.j2 k u d ((m+2:Nat):Int) g) R) (f:Nat):∀ g r:Int,Gs (rd d ((m+1:Nat):Int)) (rd u ((m+2:Nat):Int)) (rd u ((m+1:Nat):Int)) q g r→r<4294967296→4294967296≤r+f*2147483648 →
 Ev (fun k=>natural_step.l0 k u d ((m+2:Nat):Int) g r) R:=by
 induction f with
 | zero=>intro g r a h1 h2;omega
 | succ f ih=>
  intro g r a h1 h2
  obtain ⟨g0,g1⟩:=a.gle h
  have r0:=a.r0
  have hv10:=h.v10
  have hv11:=h.v11
  have hv20:=h.v20
  have hv21:=h.v21
  have w1:wrap64 (((m+2:Nat):Int)-1)=((m+1:Nat):Int):=by rw [w64 (by omega) (by omega)];omega
  have w2:wrap64 (((m+2:Nat):Int)-2)=(m:Int):=by rw [w64 (by omega) (by omega)];omega
  have yes:(4294967296≤g∨r*4294967296+rd u (m:Int)<g*rd d (m:Int))→Ev (fun k=>natural_step.j1 k u d ((m+2:Nat):Int) g r true) R:=fun c=>by
   have a2:=a.next h c
   have b1:=a2.g0 h
   by_cases hb:4294967296≤r+rd d ((m+1:Nat):Int)
   ·obtain ⟨c1,c2⟩:=a2.brk h hb
    have g:=hc (g-1) b1 c1 a2.le (a2.done h c1 c2)
    refine Ev.step (fun k=>?_) g
    simp only [natural_step.j1]
    rw [if_pos trivial,w1,wu (n:=rd d ((m+1:Nat):Int)) (by omega) (by omega),wu (n:=r+rd d ((m+1:Nat):Int)) (by omega) (by omega),if_pos (by omega),if_pos (by omega),if_pos (by omega),wu (by omega) (by omega)]
   ·have g:=ih (g-1) (r+rd d ((m+1:Nat):Int)) a2 (by omega) (by omega)
    refine Ev.step (fun k=>?_) g
    simp only [natural_step.j1]
    rw [if_pos trivial,w1,wu (n:=rd d ((m+1:Nat):Int)) (by omega) (by omega),wu (n:=r+rd d ((m+1:Nat):Int)) (by omega) (by omega),if_pos (by omega),if_pos (by omega),if_neg (by omega),wu (by omega) (by omega)]
  by_cases hg:4294967296≤g
  ·refine Ev.step (fun k=>?_) (yes (.inl hg))
   simp only [natural_step.l0]
   rw [if_pos (by omega)]
  ·have hp:=mul_le g0 (show g<4294967296 by omega) hv20 hv21
   have ho:=small_bits r0 h1 h.u20 h.u21
   by_cases ht:r*4294967296+rd u (m:Int)<g*rd d (m:Int)
   ·refine Ev.step (fun k=>?_) (yes (.inr ht))
    simp only [natural_step.l0]
    rw [if_neg (by omega),w2,ho,wu (n:=rd d (m:Int)) (by omega) (by omega),wu (n:=g*rd d (m:Int)) (by omega) (by omega),decide_eq_true (show g*rd d (m:Int)>r*4294967296+rd u (m:Int) from ht),if_pos (by omega),if_pos (by omega),if_pos (by omega)]
   ·have g2:=hc g g0 (by omega) a.le (a.done h (by omega) (by omega))
    refine Ev.step (f:=fun k=>natural_step.j1 k u d ((m+2:Nat):Int) g r false) (fun k=>?_) (Ev.step (fun k=>?_) g2)
    ·simp only [natural_step.l0]
     rw [if_neg (by omega),w2,ho,wu (n:=rd d (m:Int)) (by omega) (by omega),wu (n:=g*rd d (m:Int)) (by omega) (by omega),decide_eq_false (show ¬ g*rd d (m:Int)>r*4294967296+rd u (m:Int) from ht),if_pos (by omega),if_pos (by omega),if_pos (by omega)]
    ·simp only [natural_step.j1]
     rw [if_neg (by decide)]
theorem mulsub_loop (d:List Int) (hd:Dig d) (hdl:d.length≤400002) (n g t:Int) (g0:0≤g) (g1:g<4294967296) (R:Int×List Int) (us:List Int):∀ (ys p:List Int) (c b:Int),d.drop p.length=ys→ys.length=us.length→p.length≤d.length→Dig p→Dig us→0≤c→c<4294967296→0≤b→b≤1 →
 (∀ p' c' b',Dig p'→p'.length=d.length→0≤c'→c'<4294967296→0≤b'→b'≤1→val p'+4294967296 ^ p.length*(g*val ys+c+b)=val p+4294967296 ^ p.length*val us+4294967296 ^ p'.length*(c'+b')→Ev (fun k=>natural_step.l1 k (p' ++ [t]) d n g c' b' d (d.length:Int) (d.length:Int)) R) →
 Ev (fun k=>natural_step.l1 k (p ++ (us ++ [t])) d n g c b d (d.length:Int) (p.length:Int)) R:=by
 induction us with
 | nil=>
  intro ys p c b h1 h2 h3 hp hus c0 c1 b0 b1 hcont
  have e2:ys=[]:=List.eq_nil_of_length_eq_zero (by simpa using h2)
  rw [e2] at h1 hcont
  have e1:=drop_nil h1
  have e3:p.length=d.length:=by omega
  have g2:=hcont p c b hp e3 c0 c1 b0 b1 (by simp [val])
  rw [List.nil_append,e3]
  exact g2
 | cons a us ih=>
  intro ys p c b h1 h2 h3 hp hus c0 c1 b0 b1 hcont
  cases ys with
  | nil=>simp at h2
  | cons v ys=>
   obtain ⟨i1,r1,d1,m1⟩:=drop_cons h1
   have bv:=hd v m1
   have ba:=hus.head
   have bp:=mul_le g0 g1 bv.1 bv.2
   have hq:∀ t:Int,0≤t→t≤18446744065119617025+4294967295→0≤t%4294967296∧t%4294967296<4294967296∧0≤t/4294967296∧t/4294967296<4294967296:=fun t _ _=>by omega
   have bt:=hq (g*v+c) (by omega) (by omega)
   have hs:=sub32_eq ba.1 ba.2 bt.1 bt.2.1 b0 b1
   have hb:∀ x y:Int,0≤x→x<4294967296→0≤y→y<4294967296→0≤(x-y-b)%4294967296∧(x-y-b)%4294967296<4294967296∧0 ≤ -((x-y-b)/4294967296) ∧ -((x-y-b)/4294967296)≤1:=fun x y _ _ _ _=>by omega
   have bb:=hb a ((g*v+c)%4294967296) ba.1 ba.2 bt.1 bt.2.1
   have ih:=ih ys (p ++ [(a-(g*v+c)%4294967296-b)%4294967296]) ((g*v+c)/4294967296) (-((a-(g*v+c)%4294967296-b)/4294967296)) (by rw [snoc_len];exact d1) (by simpa using h2) (by rw [snoc_len];omega) (snoc_dig hp bb.1 bb.2.1) hus.tail bt.2.2.1 bt.2.2.2 bb.2.2.1 bb.2.2.2 (by
    intro p' c' b' a1 a2 a3 a4 a5 a6 a7
    refine hcont p' c' b' a1 a2 a3 a4 a5 a6 ?_
    have s1:=vsnoc p ((a-(g*v+c)%4294967296-b)%4294967296) (val us)
    rw [snoc_len] at s1 a7
    have e5:val p+4294967296 ^ p.length*((a-(g*v+c)%4294967296-b)%4294967296+4294967296*val us)=val p+4294967296 ^ p.length*(val (a :: us))-4294967296 ^ p.length*(g*val (v :: ys)+c+b)+4294967296 ^ p.length*(4294967296*(g*val ys+(g*v+c)/4294967296 + -((a-(g*v+c)%4294967296-b)/4294967296))):=by
     rw [Int.add_sub_assoc,← Int.mul_sub,Int.add_assoc,← Int.mul_add]
     congr 2
     simp only [val,Int.mul_add]
     rw [Int.mul_left_comm g 4294967296]
     generalize g*v=q1
     generalize g*val ys=q2
     omega
    have e6:(4294967296:Int) ^ (p.length+1)*(g*val ys+(g*v+c)/4294967296 + -((a-(g*v+c)%4294967296-b)/4294967296))=4294967296 ^ p.length*(4294967296*(g*val ys+(g*v+c)/4294967296 + -((a-(g*v+c)%4294967296-b)/4294967296))):=by
     rw [Int.pow_succ,Int.mul_assoc]
    rw [e6,s1,e5] at a7
    omega)
   rw [snoc_len] at ih
   refine Ev.step (fun k=>?_) ih
   simp only [natural_step.l1]
   have hr:rd (p ++ (a :: us ++ [t])) (p.length:Int)=a:=rd_at _ _ _ _ rfl
   have he:∀ x,(p ++ (a :: us ++ [t])).set p.length x=(p ++ [x]) ++ (us ++ [t]):=fun x=>set_snoc p x a (us ++ [t])
   have hln:(p ++ (a :: us ++ [t])).length=p.length+us.length+2:=by simp only [List.length_append,List.length_cons,List.length_nil];omega
   rw [if_pos (by omega),r1,hr,hln,wu (n:=v) (by omega) (by omega),wu (n:=g*v) (by omega) (by omega),wu (n:=g*v+c) (by omega) (by omega),hs,Option.bind_some,if_pos (by omega),if_pos (by omega),if_pos (by omega),Int.toNat_natCast,he,winc (by omega)]
theorem addback_loop (d:List Int) (hd:Dig d) (hdl:d.length≤400002) (n g t:Int) (hn:n=(d.length:Int)) (g0:1≤g) (g1:g<4294967296) (us:List Int):∀ (ys p:List Int) (c:Int),d.drop p.length=ys→ys.length=us.length→p.length≤d.length→Dig p→Dig us→0≤c→c≤1 →
 ∃ p' c',Dig p'∧p'.length=d.length∧0≤c'∧c'≤1∧val p'+4294967296 ^ p'.length*c'=val p+4294967296 ^ p.length*(c+val us+val ys)∧Ev (fun k=>natural_step.l2 k (p ++ (us ++ [t])) n g c d (d.length:Int) (p.length:Int)) (g-1,p' ++ [(t+c')%4294967296]):=by
 induction us with
 | nil=>
  intro ys p c h1 h2 h3 hp hus c0 c1
  have e2:ys=[]:=List.eq_nil_of_length_eq_zero (by simpa using h2)
  rw [e2] at h1 ⊢
  have e1:=drop_nil h1
  have e3:p.length=d.length:=by omega
  refine ⟨p,c,hp,e3,c0,c1,by simp [val],?_⟩
  refine Ev.step (f:=fun _=>some (g-1,p ++ [(t+c)%4294967296])) (fun k=>?_) (Ev.now _)
  simp only [natural_step.l2]
  have hr:rd (p ++ ([] ++ [t])) n=t:=rd_at p t [] n (by omega)
  have he:∀ x,(p ++ ([] ++ [t])).set n.toNat x=p ++ [x]:=fun x=>by
   rw [show n.toNat=p.length by omega]
   exact (set_snoc p x t []).trans (List.append_nil _)
  have hln:(p ++ ([] ++ [t])).length=p.length+1:=by simp
  rw [if_neg (by omega),hr,he,hln,if_pos (by omega),if_pos (by omega),wu (by omega) (by omega),Int.emod_eq_of_lt (by omega) (by omega)]
 | cons a us ih=>
  intro ys p c h1 h2 h3 hp hus c0 c1
  cases ys with
  | nil=>simp at h2
  | cons v ys=>
   obtain ⟨i1,r1,d1,m1⟩:=drop_cons h1
   have bv:=hd v m1
   have ba:=hus.head
   have hs:=add32_eq ba.1 ba.2 bv.1 bv.2 c0 c1
   obtain ⟨p',c',q1,q2,q3,q4,q5,q6⟩:=ih ys (p ++ [(a+v+c)%4294967296]) ((a+v+c)/4294967296) (by rw [snoc_len];exact d1) (by simpa using h2) (by rw [snoc_len];omega) (snoc_dig hp (by omega) (by omega)) hus.tail (by omega) (by omega)
   rw [vsnoc,show (a+v+c)%4294967296+4294967296*((a+v+c)/4294967296+val us+val ys)=c+val (a :: us)+val (v :: ys) by simp only [val];omega] at q5
   refine ⟨p',c',q1,q2,q3,q4,q5,?_⟩
   rw [snoc_len] at q6
   refine Ev.step (fun k=>?_) q6
   simp only [natural_step.l2]
   have hr:rd (p ++ (a :: us ++ [t])) (p.length:Int)=a:=rd_at _ _ _ _ rfl
   have he:∀ x,(p ++ (a :: us ++ [t])).set p.length x=(p ++ [x]) ++ (us ++ [t]):=fun x=>set_snoc p x a (us ++ [t])
   have hln:(p ++ (a :: us ++ [t])).length=p.length+us.length+2:=by simp only [List.length_append,List.length_cons,List.length_nil];omega
   rw [if_pos (by omega),r1,hr,hln,hs,Option.bind_some,if_pos (by omega),if_pos (by omega),if_pos (by omega),Int.toNat_natCast,he,winc (by omega)]
theorem step_ev {u d:List Int} {m:Nat} (hu:Dig u) (hd:Dig d) (hul:u.length=m+3) (hdl:d.length=m+2) (hm:m≤400000) (hv:2147483648≤rd d ((m+1:Nat):Int)) (hlt:val u<4294967296*val d) :
 ∃ w,Dig w∧w.length=u.length∧val w=val u%val d∧Ev (fun k=>natural_step.f k u d) (val u/val d,w):=by
 have h:=kn_of hu hd hul hdl hv hlt
 have hD0:0<val d:=by have:=h.dpos;have:=h.hB;omega
 have hDlt:=val_lt hd
 have hPn:=pw d.length
 obtain ⟨w,w1,w2,w3,w4⟩:∃ w,Dig w∧w.length=u.length∧val w=val u%val d ∧ ∀ g,0≤g→g<4294967296→val u/val d≤g→g≤val u/val d+1→Ev (fun k=>natural_step.j2 k u d ((m+2:Nat):Int) g) (val u/val d,w):=by
  have hr0:=Int.emod_nonneg (val u) (show val d≠0 by omega)
  have hr1:=Int.emod_lt_of_pos (val u) hD0
  have hqr:=divmod_eq (val u) (val d)
  have huniq:∀ a b:List Int,Dig a→Dig b→a.length=b.length→val a=val b→a=b:=by
   intro a
   induction a with
   | nil=>intro b _ _ hl _;exact (List.eq_nil_of_length_eq_zero hl.symm).symm
   | cons x a ih=>
    intro b ha hb hl hv
    cases b with
    | nil=>simp at hl
    | cons y b=>
     have a0:=ha.head
     have b0:=hb.head
     simp only [val] at hv
     rw [show x=y by omega,ih b ha.tail hb.tail (by simpa using hl) (by omega)]
  refine ⟨L (val u%val d) ++ List.replicate (u.length-(L (val u%val d)).length) 0,(L_dig hr0).app (Dig.zeros _),?_,?_,?_⟩
  ·have:(L (val u%val d)).length≤d.length:=L_len hr0 (by omega)
   rw [List.length_append,List.length_replicate];omega
  ·rw [val_app,val_zeros,Int.mul_zero,Int.add_zero,L_val hr0]
  ·have hwlen:(L (val u%val d) ++ List.replicate (u.length-(L (val u%val d)).length) 0).length=u.length:=by
    have:(L (val u%val d)).length≤d.length:=L_len hr0 (by omega)
    rw [List.length_append,List.length_replicate];omega
   have hwval:val (L (val u%val d) ++ List.replicate (u.length-(L (val u%val d)).length) 0)=val u%val d:=by
    rw [val_app,val_zeros,Int.mul_zero,Int.add_zero,L_val hr0]
   have hwdig:Dig (L (val u%val d) ++ List.replicate (u.length-(L (val u%val d)).length) 0):=(L_dig hr0).app (Dig.zeros _)
   generalize L (val u%val d) ++ List.replicate (u.length-(L (val u%val d)).length) 0=w at hwlen hwval hwdig
   intro g g0 g1 gq gq1
   have hsp:u=u.take (m+2) ++ [rd u ((m+2:Nat):Int)]:=by
    conv=>lhs;rw [← List.take_append_drop (m+2) u,drop_rd (show m+2<u.length by omega),List.drop_of_length_le (show u.length≤m+2+1 by omega)]
   have ht:=hu.at ((m+2:Nat):Int)
   have hus:=hu.take (m+2)
   have husl:(u.take (m+2)).length=m+2:=by rw [List.length_take];omega
   have hUv:val u=val (u.take (m+2))+4294967296 ^ (m+2)*rd u ((m+2:Nat):Int):=by
    conv=>lhs;rw [hsp,val_app,husl]
    simp [val]
   generalize u.take (m+2)=us at hsp hus husl hUv
   generalize rd u ((m+2:Nat):Int)=t at hsp ht hUv
   have key:=mulsub_loop d hd (by omega) ((m+2:Nat):Int) g t g0 g1 (val u/val d,w) us d [] 0 0 rfl (by omega) (Nat.zero_le _) Dig.nil hus (Int.le_refl _) (by decide) (Int.le_refl _) (by decide) (by
    intro p c b hp hpl c0 c1 b0 b1 he
    have he:val p+g*val d=val us+4294967296 ^ (m+2)*(c+b):=by
     rw [hpl,hdl] at he
     simp only [List.length_nil,Int.pow_zero,Int.one_mul,Int.add_zero,val,Int.zero_add] at he
     exact he
    have hs:=sub32_eq ht.1 ht.2 c0 c1 b0 b1
    have hx0:=Int.emod_nonneg (t-c-b) (show (4294967296:Int)≠0 by decide)
    have hx1:=Int.emod_lt_of_pos (t-c-b) (show (0:Int)<4294967296 by decide)
    have hb2:0 ≤ -((t-c-b)/4294967296) ∧ -((t-c-b)/4294967296)≤1:=by omega
    have hz:(t-c-b)%4294967296=t-c-b+4294967296 * -((t-c-b)/4294967296):=by omega
    generalize (t-c-b)%4294967296=t2 at hs hx0 hx1 hz
    generalize -((t-c-b)/4294967296)=bo at hs hb2 hz
    have hXv:val (p ++ [t2])=val p+4294967296 ^ (m+2)*t2:=by rw [val_app,hpl,hdl];simp [val]
    have hXd:Dig (p ++ [t2]):=snoc_dig hp hx0 hx1
    have hXl:(p ++ [t2]).length=m+3:=by rw [snoc_len,hpl,hdl]
    have hXlt:=val_lt hXd
    rw [hXl] at hXlt
    have hP:(4294967296:Int) ^ (m+3)=4294967296 ^ (m+2)*4294967296:=Int.pow_succ ..
    have hfix:=Kn.fix (W:=4294967296 ^ (m+3)) (X:=val (p ++ [t2])) hD0 h.q1 h.q2 gq gq1 (val_nonneg hXd) hXlt hb2.1 hb2.2 (by
     rw [hXv,hUv,hP,hz]
     simp only [Int.mul_add,Int.mul_sub,Int.mul_assoc] at he ⊢
     omega)
    have hrd:rd (p ++ [t]) ((m+2:Nat):Int)=t:=rd_at p t [] _ (by omega)
    have hset:∀ x,(p ++ [t]).set (m+2) x=p ++ [x]:=fun x=>by
     have:=set_snoc p x t []
     rw [hpl,hdl,List.append_nil] at this
     exact this
    by_cases hbo:bo=0
    ·obtain ⟨f1,f2⟩:=hfix.1 hbo
     have e1:p ++ [t2]=w:=huniq _ _ hXd hwdig (by omega) (by rw [f2,hwval];omega)
     refine Ev.step (f:=fun _=>some (val u/val d,w)) (fun k=>?_) (Ev.now _)
     simp only [natural_step.l1]
     rw [if_neg (by omega),hrd,Int.emod_eq_of_lt c0 c1,hs,Option.bind_some,if_pos (by omega),if_pos (by rw [snoc_len];omega),Option.bind_some,if_pos hbo,Int.toNat_natCast,hset,e1,Int.emod_eq_of_lt g0 g1,f1]
    ·have hbo1:bo=1:=by omega
     obtain ⟨f1,f2⟩:=hfix.2 hbo1
     have hq0:=h.q0
     obtain ⟨p2,c2,q1,q2,q3,q4,q5,q6⟩:=addback_loop d hd (by omega) ((m+2:Nat):Int) g t2 (by omega) (by omega) g1 p d [] 0 rfl (by omega) (Nat.zero_le _) Dig.nil hp (Int.le_refl _) (by decide)
     have q5:val p2+4294967296 ^ (m+2)*c2=val p+val d:=by
      rw [q2,hdl] at q5
      simp only [List.length_nil,Int.pow_zero,Int.one_mul,val,Int.zero_add] at q5
      exact q5
     have hp2:=val_lt q1
     rw [q2,hdl] at hp2
     have hp20:=val_nonneg q1
     have hsum:val p2+4294967296 ^ (m+2)*(c2+t2)=val (p ++ [t2])+val d:=by
      rw [hXv,Int.mul_add];omega
     have hc2:c2+t2=4294967296:=by
      have hcase:c2+t2≤4294967295∨c2+t2=4294967296:=by omega
      rcases hcase with hcase|hcase
      ·have e2:=Int.mul_le_mul_of_nonneg_left hcase (Int.le_of_lt (pw (m+2)))
       have e3:val u%val d=val u-val u/val d*val d:=by omega
       rw [hP] at f2
       omega
      ·exact hcase
     rw [show (t2+c2)%4294967296=0 by omega] at q6
     have e1:p2 ++ [0]=w:=by
      refine huniq _ _ (snoc_dig q1 (by decide) (by decide)) hwdig (by rw [snoc_len];omega) ?_
      rw [hwval,val_app]
      rw [hc2] at hsum
      rw [hP] at f2
      simp only [val,Int.mul_zero,Int.add_zero]
      omega
     rw [e1,show g-1=val u/val d by omega] at q6
     refine Ev.step (fun k=>?_) q6
     simp only [natural_step.l1]
     rw [if_neg (by omega),hrd,Int.emod_eq_of_lt c0 c1,hs,Option.bind_some,if_pos (by omega),if_pos (by rw [snoc_len];omega),Option.bind_some,if_neg hbo,Int.toNat_natCast,hset,List.nil_append,List.length_nil]
     rfl)
   refine Ev.step (fun k=>?_) key
   simp only [natural_step.j2]
   rw [← hsp]
   rfl
 refine ⟨w,w1,w2,w3,?_⟩
 have hT:=kn_of hu hd hul hdl hv hlt
 have hu0:=hT.u00
 have hu01:=hT.u01
 have hst:=hT.start
 have hr1:=Int.emod_lt_of_pos (rd u ((m+2:Nat):Int)*4294967296+rd u ((m+1:Nat):Int)) (show 0<rd d ((m+1:Nat):Int) by omega)
 have hv11:=hT.v11
 have g:=guess_loop hul hdl hm hT w4 2 _ _ hst (by omega) (by have:=hst.r0;omega)
 have w5:wrap64 ((d.length:Int)-1)=((m+1:Nat):Int):=by rw [w64 (by omega) (by omega)];omega
 have hbits:=small_bits hu0 hu01 hT.u10 hT.u11
 have hnn:0≤rd u ((m+2:Nat):Int)*4294967296+rd u ((m+1:Nat):Int):=by have:=hT.u10;omega
 obtain ⟨gl0,gl1⟩:=hst.gle hT
 refine Ev.congr (fun k=>?_) g
 simp only [natural_step.f]
 rw [w5,hdl,wu (n:=rd u ((m+2:Nat):Int)) (by omega) (by omega),hbits,wu (n:=rd d ((m+1:Nat):Int)) (by omega) (by omega),Int.tdiv_eq_ediv_of_nonneg hnn,Int.tmod_eq_emod_of_nonneg hnn,wu gl0 (by omega),if_pos (by omega),if_pos (by omega),if_pos (by omega),if_pos (by omega),if_pos (by omega),if_neg (by omega)]
end Go.Proofs.YtjaflmhdclmolaaDoor.Num
end
section
namespace Go.Proofs.YtjaflmhdclmolaaDoor.Num
open Go.RowKit Go.Proofs.YtjaflmhdclmolaaDoorW.PrintWords Go.Proofs.YtjaflmhdclmolaaDoorW.PrintLast Go.Proofs.YtjaflmhdclmolaaDoorW.PrintMore Go.Proofs.YtjaflmhdclmolaaDoor.F
set_option linter.unusedVariables false
theorem shr64 {t:Int} {s:Nat} (hs:s<32):shr .u64 t (s:Int)=t/2 ^ s:=by
 unfold shr
 rw [Int.toNat_natCast,show min s IntKind.u64.bits=s from Nat.min_eq_left (by show s≤64;omega)]
theorem unshift_digit {x y v:Int} {s:Nat} (hs:s<32) (x0:0≤x) (x1:x<4294967296):(x+4294967296*(y+4294967296*v))/2 ^ s=(x+4294967296*y)/2 ^ s%4294967296+4294967296*((y+4294967296*v)/2 ^ s):=by
 obtain ⟨p0,p1,p2,p3⟩:=pow32 hs
 have e1:x+4294967296*(y+4294967296*v)=x+4294967296*y+2 ^ s*(2 ^ (32-s)*4294967296*v):=by
  rw [← Int.mul_assoc,← Int.mul_assoc,p2,Int.mul_assoc];omega
 have e2:(x+4294967296*(y+4294967296*v))/2 ^ s=(x+4294967296*y)/2 ^ s+2 ^ (32-s)*4294967296*v:=by
  rw [e1,Int.add_mul_ediv_left _ _ (by omega)]
 have e3:(x+4294967296*(y+4294967296*v))/2 ^ s%4294967296=(x+4294967296*y)/2 ^ s%4294967296:=by
  rw [e2,show (2:Int) ^ (32-s)*4294967296*v=4294967296*(2 ^ (32-s)*v) by rw [Int.mul_comm (2 ^ (32-s)),Int.mul_assoc],Int.add_mul_emod_self_left]
 have e4:(x+4294967296*(y+4294967296*v))/2 ^ s/4294967296=(y+4294967296*v)/2 ^ s:=by
  rw [Int.ediv_ediv_of_nonneg (by omega),Int.mul_comm (2 ^ s),← Int.ediv_ediv_of_nonneg (by decide),Int.add_mul_ediv_left _ _ (by decide),Int.ediv_eq_zero_of_lt x0 x1,Int.zero_add]
 have hq:=divmod_eq ((x+4294967296*(y+4294967296*v))/2 ^ s) 4294967296
 rw [e3,e4] at hq
 omega
theorem unshift_bits {x y:Int} (x0:0≤x) (x1:x<4294967296) (y0:0≤y) (y1:y<4294967296):Go.bits .or .u64 (IntKind.u64.wrap x) (IntKind.u64.wrap (IntKind.u64.wrap y*4294967296))=x+4294967296*y:=by
 rw [wu (n:=x) (by omega) (by omega),wu (n:=y) (by omega) (by omega),wu (by omega) (by omega),bitor_comm,orHi y0 y1 x0 x1]
 omega
theorem unshift_loop (x:List Int) (hx:Dig x) (hl:x.length≤400001) (s:Nat) (hs:s<32) (xs:List Int):∀ (o:List Int),x.drop o.length=xs→o.length≤x.length→Dig o →
 Ev (fun k=>natural_unshift.l0 k x (s:Int) (o ++ List.replicate xs.length 0) (x.length:Int) (o.length:Int)) (L (val o+4294967296 ^ o.length*(val xs/2 ^ s))):=by
 obtain ⟨p0,p1,p2,p3⟩:=pow32 hs
 induction xs with
 | nil=>
  intro o h1 h2 ho
  have e1:=drop_nil h1
  refine Ev.step (f:=fun k=>(natural_limbs_trim.f k o).bind fun t=>some t) (fun k=>?_) ?_
  ·simp only [natural_unshift.l0]
   rw [if_neg (by omega),List.length_nil,List.replicate_zero,List.append_nil]
  ·refine Ev.bind (trim_ev o (by omega)) ?_
   rw [tr_L ho]
   simp only [val,Int.zero_ediv,Int.mul_zero,Int.add_zero]
   exact Ev.now _
 | cons a xs ih=>
  intro o h1 h2 ho
  obtain ⟨i1,r1,d1,m1⟩:=drop_cons h1
  have ba:=hx a m1
  have hset:∀ d,(o ++ List.replicate (a :: xs).length 0).set o.length d=(o ++ [d]) ++ List.replicate xs.length 0:=fun d=>by
   rw [List.length_cons,List.replicate_succ]
   exact set_snoc o d 0 _
  have hlen:(o ++ List.replicate (a :: xs).length (0:Int)).length=o.length+xs.length+1:=by rw [List.length_append,List.length_replicate,List.length_cons];omega
  have key:∀ q,0≤q→q<4294967296→val (a :: xs)/2 ^ s=q+4294967296*(val xs/2 ^ s)→Ev (fun k=>natural_unshift.l0 k x (s:Int) (o ++ [q] ++ List.replicate xs.length 0) (x.length:Int) ((o.length+1:Nat):Int)) (L (val o+4294967296 ^ o.length*(val (a :: xs)/2 ^ s))):=fun q q0 q1 e=>by
   have ih:=ih (o ++ [q]) (by rw [snoc_len];exact d1) (by rw [snoc_len];omega) (snoc_dig ho q0 q1)
   rw [vsnoc,← e,snoc_len] at ih
   exact ih
  cases xs with
  | nil=>
   have e1:=drop_nil d1
   have hb:0≤a/2 ^ s∧a/2 ^ s<4294967296:=⟨Int.ediv_nonneg ba.1 (by omega),Int.lt_of_le_of_lt (Int.ediv_le_self _ ba.1) ba.2⟩
   refine Ev.step (fun k=>?_) (key (a/2 ^ s) hb.1 hb.2 (by simp [val]))
   simp only [natural_unshift.l0]
   rw [hlen,winc (by omega),if_pos (by omega),if_pos (by omega),if_pos (by omega),if_neg (by omega),if_pos (by omega),if_pos (by omega),r1,Int.toNat_natCast,hset,wu (n:=a) (by omega) (by omega),shr64 hs,Int.emod_eq_of_lt hb.1 hb.2]
  | cons y ys=>
   obtain ⟨i2,r2,d2,m2⟩:=drop_cons d1
   have by':=hx y m2
   have hub:=unshift_bits ba.1 ba.2 by'.1 by'.2
   refine Ev.step (fun k=>?_) (key ((a+4294967296*y)/2 ^ s%4294967296) (Int.emod_nonneg _ (by decide)) (Int.emod_lt_of_pos _ (by decide)) (by simp only [val];exact unshift_digit hs ba.1 ba.2))
   simp only [natural_unshift.l0]
   rw [hlen,winc (by omega),if_pos (by omega),if_pos (by omega),if_pos (by omega),if_pos (by omega),if_pos (by omega),if_pos (by omega),if_pos (by omega),r1,r2,hub,Int.toNat_natCast,hset,shr64 hs]
theorem unshift_ev (x:List Int) (hx:Dig x) (hl:x.length≤400001) (s:Nat) (hs:s<32):Ev (fun k=>natural_unshift.f k x (s:Int)) (L (val x/2 ^ s)):=by
 have g:=unshift_loop x hx hl s hs x [] rfl (Nat.zero_le _) Dig.nil
 rw [show val []+4294967296 ^ ([]:List Int).length*(val x/2 ^ s)=val x/2 ^ s by simp [val]] at g
 refine Ev.congr (fun k=>?_) g
 simp only [natural_unshift.f]
 rw [Int.toNat_natCast,if_pos (by omega),if_pos (by omega)]
 rfl
theorem val_take_drop (l:List Int) (i:Nat) (h:i≤l.length):val l=val (l.take i)+4294967296 ^ i*val (l.drop i):=by
 conv=>lhs;rw [← List.take_append_drop i l]
 rw [val_app,List.length_take,Nat.min_eq_left h]
theorem divide_loop {d:List Int} {m:Nat} (hd:Dig d) (hdl:d.length=m+2) (hm:m≤200000) (hv:2147483648≤rd d ((m+1:Nat):Int)) (A:Int) (s:Nat) (hs:s<32) (i:Nat):∀ (u qd:List Int),Dig u→Dig qd→i+qd.length+(m+2)=u.length→u.length≤400001→val (u.drop i)<val d→A=(val qd*4294967296 ^ i)*val d+val u →
 Ev (fun k=>natural_divide.l0 k ((m+2:Nat):Int) (s:Int) d u (List.replicate i 0 ++ qd) ((i:Int)-1)) (L (A/val d),L ((A%val d)/2 ^ s)):=by
 have hDlt:=val_lt hd
 induction i with
 | zero=>
  intro u qd hu hq hlen hul hlt hA
  rw [List.drop_zero] at hlt
  rw [Int.pow_zero,Int.mul_one] at hA
  obtain ⟨e1,e2⟩:=divmod hA (val_nonneg hu) hlt
  have ht:=val_take_drop u (m+2) (by omega)
  have hz:val (u.drop (m+2))=0:=by
   have h0:=val_nonneg (hu.drop (m+2))
   rcases Int.lt_or_le 0 (val (u.drop (m+2))) with h1|h1
   ·have h2:=Int.mul_le_mul_of_nonneg_left (show 1≤val (u.drop (m+2)) by omega) (Int.le_of_lt (pw (m+2)))
    have h3:=val_nonneg (hu.take (m+2))
    rw [hdl] at hDlt
    omega
   ·omega
  rw [hz,Int.mul_zero,Int.add_zero] at ht
  refine Ev.step (f:=fun k=>(natural_limbs_trim.f k qd).bind fun t=>(natural_unshiftAt.f k ((m+2:Nat):Int) u (s:Int)).bind fun t2=>some (t,t2)) (fun k=>?_) ?_
  ·simp only [natural_divide.l0]
   rw [if_neg (by omega),List.replicate_zero,List.nil_append]
  ·refine Ev.bind (trim_ev qd (by omega)) ?_
   have g:=unshift_ev (u.take (m+2)) (hu.take _) (by rw [List.length_take];omega) s hs
   rw [← ht] at g
   have g2:Ev (fun k=>natural_unshiftAt.f k ((m+2:Nat):Int) u (s:Int)) (L (val u/2 ^ s)):=by
    refine Ev.congr (fun k=>?_) g
    simp only [natural_unshiftAt.f]
    rw [if_pos ⟨by omega,by omega⟩,Int.toNat_natCast]
   refine Ev.bind g2 ?_
   rw [tr_L hq,e1,e2]
   exact Ev.now _
 | succ i ih=>
  intro u qd hu hq hlen hul hlt hA
  have hx:=drop_rd (l:=u) (i:=i) (by omega)
  have hxb:=hu.at (i:Int)
  have hdd:=val_take_drop (u.drop i) (m+3) (by rw [List.length_drop];omega)
  have hwd:Dig ((u.drop i).take (m+3)):=(hu.drop i).take _
  have hwl:((u.drop i).take (m+3)).length=m+3:=by rw [List.length_take,List.length_drop];omega
  have hhid:Dig ((u.drop i).drop (m+3)):=(hu.drop i).drop _
  have hD0:0≤val d:=val_nonneg hd
  have hvi:val (u.drop i)=rd u (i:Int)+4294967296*val (u.drop (i+1)):=by rw [hx,val]
  have hvlt:val (u.drop i)<4294967296*val d:=by omega
  have hhi:val ((u.drop i).drop (m+3))=0:=by
   have h0:=val_nonneg hhid
   rcases Int.lt_or_le 0 (val ((u.drop i).drop (m+3))) with h1|h1
   ·have h2:=Int.mul_le_mul_of_nonneg_left (show 1≤val ((u.drop i).drop (m+3)) by omega) (Int.le_of_lt (pw (m+3)))
    have h3:=val_nonneg hwd
    rw [hdl] at hDlt
    have h4:(4294967296:Int) ^ (m+3)=4294967296 ^ (m+2)*4294967296:=Int.pow_succ ..
    omega
   ·omega
  rw [hhi,Int.mul_zero,Int.add_zero] at hdd
  obtain ⟨w,w1,w2,w3,w4⟩:=step_ev hwd hd hwl hdl (by omega) hv (by omega)
  have hsp:u.take i ++ w ++ (u.drop i).drop (m+3)=u.take i ++ (w ++ (u.drop i).drop (m+3)):=List.append_assoc ..
  have htl:(u.take i).length=i:=by rw [List.length_take];omega
  have hu2d:Dig (u.take i ++ w ++ (u.drop i).drop (m+3)):=((hu.take i).app w1).app hhid
  have hu2l:(u.take i ++ w ++ (u.drop i).drop (m+3)).length=u.length:=by
   rw [List.length_append,List.length_append,htl,w2,hwl,List.length_drop,List.length_drop];omega
  have hu2v:val (u.take i ++ w ++ (u.drop i).drop (m+3))=val (u.take i)+4294967296 ^ i*(val ((u.drop i).take (m+3))%val d):=by
   rw [hsp,val_app,htl,val_app,hhi,Int.mul_zero,Int.add_zero,w3]
  have hu2t:val ((u.take i ++ w ++ (u.drop i).drop (m+3)).drop i)=val ((u.drop i).take (m+3))%val d:=by
   rw [hsp,List.drop_append,htl,Nat.sub_self,List.drop_zero,List.drop_of_length_le (by omega),List.nil_append,val_app,hhi,Int.mul_zero,Int.add_zero,w3]
  have hkn:=kn_of hwd hd hwl hdl hv (by omega)
  have hq0:=hkn.q0
  have hq1:=hkn.qlt
  have hDp:0<val d:=by have:=hkn.dpos;have:=hkn.hB;omega
  have hr1:=Int.emod_lt_of_pos (val ((u.drop i).take (m+3))) hDp
  have hqr:=divmod_eq (val ((u.drop i).take (m+3))) (val d)
  have hut:=val_take_drop u i (by omega)
  rw [hdd] at hut
  generalize val ((u.drop i).take (m+3))/val d=q at *
  generalize val ((u.drop i).take (m+3))%val d=r at *
  have ih:=ih (u.take i ++ w ++ (u.drop i).drop (m+3)) (q :: qd) hu2d (Dig.cons hq0 hq1 hq) (by rw [hu2l,List.length_cons];omega) (by omega) (by rw [hu2t];exact hr1) (by
   rw [hu2v,hA,hut,hqr,val,Int.pow_succ]
   simp only [Int.mul_add,Int.mul_assoc,Int.mul_comm,Int.mul_left_comm]
   omega)
  have hstep:Ev (fun k=>natural_stepAt.f k ((m+2:Nat):Int) u (i:Int) d) (q,u.take i ++ w ++ (u.drop i).drop (m+3)):=by
   unfold natural_stepAt.f
   refine Ev.ite ⟨by omega,by omega,by omega⟩ ?_
   rw [Int.toNat_natCast,Int.toNat_natCast]
   refine Ev.bind w4 ?_
   rw [List.drop_drop]
   exact Ev.now _
  refine Ev.step (f:=fun k=>(natural_stepAt.f k ((m+2:Nat):Int) u (i:Int) d).bind fun bt=>natural_divide.l0 k ((m+2:Nat):Int) (s:Int) d bt.2 (List.replicate i 0 ++ bt.1 :: qd) ((i:Int)-1)) (fun k=>?_) (Ev.bind hstep ih)
  simp only [natural_divide.l0]
  have hrl:(List.replicate (i+1) (0:Int) ++ qd).length=i+1+qd.length:=by rw [List.length_append,List.length_replicate]
  rw [show ((i+1:Nat):Int)-1=(i:Int) by omega,if_pos (by omega),hrl,Int.toNat_natCast,w64 (by omega) (by omega)]
  congr 1
  funext bt
  rw [if_pos (by omega),if_pos (by omega),set_rep]
end Go.Proofs.YtjaflmhdclmolaaDoor.Num
end
section
namespace Go.Proofs.YtjaflmhdclmolaaDoor.Num
open Go.RowKit Go.Proofs.YtjaflmhdclmolaaDoorW.PrintWords Go.Proofs.YtjaflmhdclmolaaDoorW.PrintLast Go.Proofs.YtjaflmhdclmolaaDoorW.PrintMore Go.Proofs.YtjaflmhdclmolaaDoor.F
set_option linter.unusedVariables false
theorem val_top1 {l:List Int} {m:Nat} (h:l.length=m+1):val l=val (l.take m)+4294967296 ^ m*rd l (m:Int):=by
 have h1:=val_take_drop l m (by omega)
 rw [drop_rd (show m<l.length by omega),List.drop_of_length_le (show l.length≤m+1 by omega)] at h1
 simp only [val,Int.mul_zero,Int.add_zero] at h1
 exact h1
theorem nz_top {l:List Int} : ∀ {m:Nat},Nz l→l.length=m+1→rd l (m:Int)≠0:=by
 induction l with
 | nil=>intro m _ h;simp at h
 | cons x r ih=>
  intro m hz h
  cases r with
  | nil=>
   have:m=0:=by simpa using h.symm
   rw [this]
   exact hz
  | cons y r=>
   obtain ⟨j,rfl⟩:∃ j,m=j+1:=⟨m-1,by simp at h;omega⟩
   rw [rd_cons_succ]
   exact ih hz.tail (by simpa using h)
theorem lead {v:Int} (h0:0<v) (h1:v<4294967296):∃ s:Nat,s<32∧bits_LeadingZeros32.f v=some (s:Int)∧2147483648≤v*2 ^ s∧(v+1)*2 ^ s≤4294967296:=by
 obtain ⟨n,rfl⟩:=Int.eq_ofNat_of_zero_le (Int.le_of_lt h0)
 obtain ⟨hb1,b2,b1⟩:=Lib.bitLenAux_bounds 64 n (by omega) (by omega)
 have hbl:Lib.bitLenAux 64 n=Lib.bitLen n:=rfl
 rw [hbl] at hb1 b1 b2
 have hb2:Lib.bitLen n≤32:=by
  rcases Nat.lt_or_ge 32 (Lib.bitLen n) with q|q
  ·have:=Nat.pow_le_pow_right (show 0<2 by decide) (show 32≤Lib.bitLen n-1 by omega)
   omega
  ·exact q
 have heq:bits_LeadingZeros32.f (n:Int)=some (((32-Lib.bitLen n:Nat):Nat):Int):=by
  unfold bits_LeadingZeros32.f
  rw [if_pos ⟨by omega,by omega⟩,Int.toNat_natCast]
  congr 1
  omega
 refine ⟨32-Lib.bitLen n,by omega,heq,?_,?_⟩
 ·have e:2 ^ (Lib.bitLen n-1)*2 ^ (32-Lib.bitLen n)=2147483648:=by rw [← Nat.pow_add,show Lib.bitLen n-1+(32-Lib.bitLen n)=31 by omega]
  have h2:=Nat.mul_le_mul_right (2 ^ (32-Lib.bitLen n)) b2
  rw [e] at h2
  have h3:((n*2 ^ (32-Lib.bitLen n):Nat):Int)=(n:Int)*2 ^ (32-Lib.bitLen n):=by rw [Int.natCast_mul,Int.natCast_pow];rfl
  omega
 ·have e:2 ^ Lib.bitLen n*2 ^ (32-Lib.bitLen n)=4294967296:=by rw [← Nat.pow_add,show Lib.bitLen n+(32-Lib.bitLen n)=32 by omega]
  have h2:=Nat.mul_le_mul_right (2 ^ (32-Lib.bitLen n)) (show n+1≤2 ^ Lib.bitLen n from b1)
  rw [e] at h2
  have h3:(((n+1)*2 ^ (32-Lib.bitLen n):Nat):Int)=((n:Int)+1)*2 ^ (32-Lib.bitLen n):=by rw [Int.natCast_mul,Int.natCast_pow];rfl
  omega
theorem scaled {a b:Int} {s:Nat} (hb:0<b):a*2 ^ s/(b*2 ^ s)=a/b∧a*2 ^ s%(b*2 ^ s)/2 ^ s=a%b:=by
 have p0:(0:Int)<2 ^ s:=Int.pow_pos (by decide)
 have h1:=divmod_eq a b
 have h2:=Int.emod_nonneg a (show b≠0 by omega)
 have h3:=Int.emod_lt_of_pos a hb
 have h4:a*2 ^ s=(a/b)*(b*2 ^ s)+(a%b)*2 ^ s:=by
  conv=>lhs;rw [h1]
  rw [Int.add_mul,Int.mul_assoc]
 obtain ⟨e1,e2⟩:=divmod h4 (Int.mul_nonneg h2 (Int.le_of_lt p0)) (Int.mul_lt_mul_of_pos_right h3 p0)
 rw [e1,e2]
 exact ⟨rfl,Int.mul_ediv_cancel _ (by omega)⟩
theorem one_L {r:Int} (h0:0≤r) (h1:r<4294967296):tr [r]=L r:=by
 have hd:Dig [r]:=Dig.cons h0 h1 Dig.nil
 rw [tr_L hd]
 simp [val]
theorem norm_facts {b:Int} {m:Nat} (hb:0<b) (hl:(L b).length=m+2):0<rd (L b) ((m+1:Nat):Int)∧rd (L b) ((m+1:Nat):Int)<4294967296 ∧
 ∀ s:Nat,2147483648≤rd (L b) ((m+1:Nat):Int)*2 ^ s→(rd (L b) ((m+1:Nat):Int)+1)*2 ^ s≤4294967296→b*2 ^ s<4294967296 ^ (m+2)∧2147483648*4294967296 ^ (m+1)≤b*2 ^ s:=by
 have hi:=L_is (Int.le_of_lt hb)
 have hv:=hi.1.at ((m+1:Nat):Int)
 have hn:=nz_top hi.2.1 hl
 refine ⟨by omega,hv.2,fun s h1 h2=>?_⟩
 have ht:=val_top1 (l:=L b) (m:=m+1) hl
 rw [hi.2.2] at ht
 have lo:=val_nonneg (hi.1.take (m+1))
 have hi':=val_lt (hi.1.take (m+1))
 rw [List.length_take,Nat.min_eq_left (by omega)] at hi'
 have p0:(0:Int)<2 ^ s:=Int.pow_pos (by decide)
 have hP:=pw (m+1)
 have e2:(4294967296:Int) ^ (m+2)=4294967296 ^ (m+1)*4294967296:=Int.pow_succ ..
 generalize rd (L b) ((m+1:Nat):Int)=v at *
 generalize (4294967296:Int) ^ (m+1)=P at *
 have h3:=Int.mul_le_mul_of_nonneg_left h1 (Int.le_of_lt hP)
 have h4:=Int.mul_le_mul_of_nonneg_left h2 (Int.le_of_lt hP)
 have h5:P*v*2 ^ s≤b*2 ^ s:=Int.mul_le_mul_of_nonneg_right (by omega) (Int.le_of_lt p0)
 have h6:b*2 ^ s<(P*v+P)*2 ^ s:=Int.mul_lt_mul_of_pos_right (by omega) p0
 rw [Int.mul_assoc] at h5
 rw [Int.add_mul,Int.mul_assoc] at h6
 rw [Int.add_mul,Int.one_mul,Int.mul_add] at h4
 rw [e2]
 constructor <;> omega
theorem top_bit {d:List Int} {m:Nat} (hd:Dig d) (hl:d.length=m+2) (h:2147483648*4294967296 ^ (m+1)≤val d):2147483648≤rd d ((m+1:Nat):Int):=by
 have ht:=val_top1 (l:=d) (m:=m+1) hl
 have hi':=val_lt (hd.take (m+1))
 rw [List.length_take,Nat.min_eq_left (by omega)] at hi'
 have hP:=pw (m+1)
 have h2:2147483648*4294967296 ^ (m+1)<(rd d ((m+1:Nat):Int)+1)*4294967296 ^ (m+1):=by
  rw [Int.add_mul,Int.one_mul,Int.mul_comm (rd d ((m+1:Nat):Int))]
  omega
 have:=Int.lt_of_mul_lt_mul_right h2 (Int.le_of_lt hP)
 omega
theorem first_small {u:List Int} {m c:Nat} {b a:Int} {s:Nat} (hu:Dig u) (hs:s<32) (hlen:c+(m+2)=u.length) (hv:val u=a*2 ^ s) (ha:a<4294967296 ^ (c+m+1)) (hb:2147483648*4294967296 ^ (m+1)≤b):val (u.drop c)<b:=by
 obtain ⟨p0,p1,p2,p3⟩:=pow32 hs
 have h1:=val_take_drop u c (by omega)
 have h2:=val_nonneg (hu.take c)
 have h3:=val_nonneg (hu.drop c)
 have e1:(4294967296:Int) ^ (c+m+1)=4294967296 ^ c*4294967296 ^ (m+1):=by rw [← Int.pow_add];rfl
 have hP:=pw c
 have hQ:=pw (m+1)
 have h4:a*2 ^ s<4294967296 ^ c*4294967296 ^ (m+1)*2 ^ s:=by rw [← e1];exact Int.mul_lt_mul_of_pos_right ha p0
 have h5:(4294967296:Int) ^ c*val (u.drop c)<4294967296 ^ c*(4294967296 ^ (m+1)*2 ^ s):=by
  rw [← Int.mul_assoc];omega
 have h6:=Int.lt_of_mul_lt_mul_left h5 (Int.le_of_lt hP)
 have h7:=Int.mul_le_mul_of_nonneg_left p1 (Int.le_of_lt hQ)
 omega
theorem ndivide_ev {a b:Int} (ha:0≤a) (hb:0<b) (hla:(L a).length≤200000) (hlb:(L b).length≤200000):Ev (fun k=>natural_divide.f k (L a) (L b)) (L (a/b),L (a%b)):=by
 unfold natural_divide.f
 refine Ev.bind (compare_ev ha (Int.le_of_lt hb) (by omega) (by omega)) ?_
 by_cases hlt:a<b
 ·refine Ev.ite (sgn_lt.2 hlt) ?_
  rw [Int.ediv_eq_zero_of_lt ha hlt,Int.emod_eq_of_lt ha hlt,L_zero]
  exact Ev.now _
 ·refine Ev.ite_not (fun q=>hlt (sgn_lt.1 q)) ?_
  have hbl:(L b).length≠0:=fun e=>L_ne hb (List.eq_nil_of_length_eq_zero e)
  have hab:=L_mono (Int.le_of_lt hb) (show b≤a by omega)
  by_cases h1:(L b).length=1
  ·refine Ev.ite (by omega) (Ev.ite (by omega) ?_)
   obtain ⟨d,hd⟩:∃ d,L b=[d]:=by
    cases hL:L b with
    | nil=>rw [hL] at h1;simp at h1
    | cons x r=>
     rw [hL] at h1
     exact ⟨x,by rw [List.eq_nil_of_length_eq_zero (show r.length=0 by simpa using h1)]⟩
   have hdb:d=b:=by have:=L_val (Int.le_of_lt hb);rw [hd] at this;simpa [val] using this
   have hdd:=(L_dig (Int.le_of_lt hb)) d (by rw [hd];exact List.mem_cons_self)
   have hr:rd (L b) 0=b:=by rw [hd,← hdb];rfl
   rw [hr]
   have g:=divideSmall_ev (L a) (L_dig ha) (by omega) b hb (by omega)
   rw [L_val ha] at g
   refine Ev.bind g ?_
   have r0:=Int.emod_nonneg a (show b≠0 by omega)
   have r1:=Int.emod_lt_of_pos a hb
   refine Ev.bind (trim_ev _ (by simp)) ?_
   rw [one_L r0 (by omega)]
   exact Ev.now _
  ·obtain ⟨m,hm⟩:∃ m,(L b).length=m+2:=⟨(L b).length-2,by omega⟩
   refine Ev.ite_not (by omega) ?_
   obtain ⟨v0,v1,hnf⟩:=norm_facts hb hm
   obtain ⟨s,hs,hlead,hs1,hs2⟩:=lead v0 v1
   obtain ⟨n1,n2⟩:=hnf s hs1 hs2
   have w1:wrap64 (((L b).length:Int)-1)=((m+1:Nat):Int):=by rw [w64 (by omega) (by omega)];omega
   rw [w1]
   refine Ev.ite (by omega) (Ev.ite (by omega) ?_)
   rw [hlead]
   simp only [Option.bind_some]
   rw [wu (n:=(s:Int)) (by omega) (by omega)]
   obtain ⟨d,d1,d2,d3,d4⟩:=shift_ev (L b) (L_dig (Int.le_of_lt hb)) (by omega) s hs (L b).length (.inl rfl) (fun _=>by rw [L_val (Int.le_of_lt hb),hm];exact n1)
   obtain ⟨u,u1,u2,u3,u4⟩:=shift_ev (L a) (L_dig ha) (by omega) s hs ((L a).length+1) (.inr rfl) (fun e=>by omega)
   rw [L_val (Int.le_of_lt hb)] at d3
   rw [L_val ha] at u3
   refine Ev.bind d4 ?_
   rw [winc (by omega)]
   refine Ev.bind u4 ?_
   have hc:wrap64 (wrap64 (((L a).length:Int)-((L b).length:Int))+1)=(((L a).length-(L b).length+1:Nat):Int):=by
    rw [w64 (n:=((L a).length:Int)-((L b).length:Int)) (by omega) (by omega),w64 (by omega) (by omega)];omega
   rw [hc,Int.toNat_natCast]
   refine Ev.ite (by omega) (Ev.ite (by omega) ?_)
   have hdl:d.length=m+2:=by omega
   have hv:=top_bit d1 hdl (by rw [d3];exact n2)
   have ha2:=L_lt ha
   have hfs:=first_small (c:=(L a).length-(L b).length+1) (m:=m) (b:=val d) u1 hs (by omega) u3 (by rw [show (L a).length-(L b).length+1+m+1=(L a).length by omega];exact ha2) (by rw [d3];exact n2)
   have g:=divide_loop d1 hdl (by omega) hv (a*2 ^ s) s hs ((L a).length-(L b).length+1) u [] u1 Dig.nil (by rw [List.length_nil];omega) (by omega) hfs (by rw [u3];simp [val])
   obtain ⟨e1,e2⟩:=scaled (a:=a) (s:=s) hb
   rw [d3,e1,e2,List.append_nil] at g
   refine Ev.congr (fun k=>?_) g
   rw [List.length_replicate,hm,w64 (by omega) (by omega)]
theorem div_len {a b:Int} (ha:0≤a) (hb:0<b):0≤a/b∧(L (a/b)).length≤(L a).length∧0≤a%b∧(L (a%b)).length≤(L a).length∧a%b<b:=by
 have h1:=Int.ediv_nonneg ha (Int.le_of_lt hb)
 have h2:=Int.emod_nonneg a (show b≠0 by omega)
 have h3:=Int.ediv_le_self b ha
 have h4:=Int.emod_lt_of_pos a hb
 have h5:a%b≤a:=by
  have h6:=divmod_eq a b
  have:=Int.mul_nonneg h1 (Int.le_of_lt hb)
  omega
 exact ⟨h1,L_mono h1 h3,h2,L_mono h2 h5,h4⟩
theorem ngcd_loop (n:Nat):∀ a b:Nat,b≤n→(L (a:Int)).length≤200000→(L (b:Int)).length≤200000→Ev (fun k=>natural_GCD.l0 k (L (a:Int)) (L (b:Int))) (S ((Nat.gcd a b:Nat):Int)):=by
 induction n with
 | zero=>
  intro a b hn ha hb
  rw [show b=0 by omega,Nat.gcd_zero_right]
  refine Ev.step (f:=fun k=>(natural_limbs_text.f k (L (a:Int))).bind fun t=>some t) (fun k=>?_) (Ev.bind (text_L (by omega) (by omega)) (Ev.now _))
  simp only [natural_GCD.l0]
  rw [show ((0:Nat):Int)=0 from rfl,L_zero,if_neg (by simp)]
 | succ n ih=>
  intro a b hn ha hb
  by_cases h:b=0
  ·exact ih a b (by omega) ha hb
  ·have hb0:(0:Int)<(b:Int):=by omega
   have hm:=Nat.mod_lt a (show b>0 by omega)
   have hc:((a%b:Nat):Int)=(a:Int)%(b:Int):=Int.natCast_emod a b
   obtain ⟨q1,q2,q3,q4,q5⟩:=div_len (a:=(a:Int)) (by omega) hb0
   have ih:=ih b (a%b) (by omega) hb (by rw [hc];omega)
   rw [show Nat.gcd b (a%b)=Nat.gcd a b by rw [Nat.gcd_comm a b,Nat.gcd_rec b a,Nat.gcd_comm]] at ih
   have hne:(L (b:Int)).length≠0:=fun e=>L_ne hb0 (List.eq_nil_of_length_eq_zero e)
   rw [hc] at ih
   refine Ev.step (f:=fun k=>(natural_divide.f k (L (a:Int)) (L (b:Int))).bind fun bt=>natural_GCD.l0 k (L (b:Int)) bt.2) (fun k=>?_) (Ev.bind (ndivide_ev (by omega) hb0 ha hb) ih)
   simp only [natural_GCD.l0]
   rw [if_pos (by omega)]
def gcdOf (a b:ByteArray):ByteArray:=S ((Nat.gcd (B a).toNat (B b).toNat:Nat):Int)
theorem GCD_ev (a b:ByteArray) (ha:a.size≤800000) (hb:b.size≤800000):Ev (fun k=>natural_GCD.f k a b) (gcdOf a b):=by
 have h1:=B_nonneg a
 have h2:=B_nonneg b
 have l1:=B_small (s:=a) (m:=200000) (by omega)
 have l2:=B_small (s:=b) (m:=200000) (by omega)
 refine Ev.bind (parse_ev a (by omega)) ?_
 refine Ev.bind (parse_ev b (by omega)) ?_
 have g:=ngcd_loop (B b).toNat (B a).toNat (B b).toNat (Nat.le_refl _)
 rw [Int.toNat_of_nonneg h1,Int.toNat_of_nonneg h2] at g
 exact g l1 l2
end Go.Proofs.YtjaflmhdclmolaaDoor.Num
end
section
namespace Go.Proofs.YtjaflmhdclmolaaDoor.Num
open Go.RowKit Go.Proofs.YtjaflmhdclmolaaDoorW.PrintWords Go.Proofs.YtjaflmhdclmolaaDoorW.PrintLast Go.Proofs.YtjaflmhdclmolaaDoorW.PrintMore Go.Proofs.YtjaflmhdclmolaaDoor.F
set_option linter.unusedVariables false
theorem widx {j i:Nat} (h:j+i≤4000000000):wrap64 ((j:Int)+(i:Int))=((j+i:Nat):Int):=by rw [w64 (by omega) (by omega)];omega
theorem widx1 {j i:Nat} (h:j+i≤4000000000):wrap64 (((j+(i+1):Nat):Int)-1)=((j+i:Nat):Int):=by rw [w64 (by omega) (by omega)];omega
theorem widx2 {j i:Nat} (h:j+i≤4000000000):wrap64 (((j+(i+2):Nat):Int)-2)=((j+i:Nat):Int):=by rw [w64 (by omega) (by omega)];omega
theorem wm1 {m:Nat} (h:m≤1000000000):wrap64 (((m+2:Nat):Int)-1)=((m+1:Nat):Int):=by rw [w64 (by omega) (by omega)];omega
theorem wm2 {m:Nat} (h:m≤1000000000):wrap64 (((m+2:Nat):Int)-2)=(m:Int):=by rw [w64 (by omega) (by omega)];omega
theorem rd_mid (lo p r:List Int) (x:Int):rd (lo ++ (p ++ x :: r)) ((lo.length+p.length:Nat):Int)=x:=by
 rw [← List.append_assoc]
 exact rd_at _ _ _ _ (by rw [List.length_append])
theorem set_mid3 (lo p r:List Int) (x d:Int):(lo ++ (p ++ x :: r)).set (lo.length+p.length) d=lo ++ ((p ++ [d]) ++ r):=by
 have:=set_snoc (lo ++ p) d x r
 rw [List.length_append,List.append_assoc] at this
 rw [this]
 simp only [List.append_assoc]
theorem rd_lo (lo w hi:List Int) (i:Nat) (h:i<w.length):rd (lo ++ (w ++ hi)) ((lo.length+i:Nat):Int)=rd w (i:Int):=by
 obtain ⟨x,h1,h2,h3,_⟩:=drop_split h
 have:=rd_mid lo (w.take i) (w.drop (i+1) ++ hi) x
 rw [h3] at this
 rw [h2]
 conv=>lhs;rw [h1]
 rw [List.append_assoc,List.cons_append]
 exact this
theorem val_inj (a:List Int):∀ b:List Int,Dig a→Dig b→a.length=b.length→val a=val b→a=b:=by
 induction a with
 | nil=>intro b _ _ hl _;exact (List.eq_nil_of_length_eq_zero hl.symm).symm
 | cons x a ih=>
  intro b ha hb hl hv
  cases b with
  | nil=>simp at hl
  | cons y b=>
   have a0:=ha.head
   have b0:=hb.head
   simp only [val] at hv
   rw [show x=y by omega,ih b ha.tail hb.tail (by simpa using hl) (by omega)]
theorem wsubB {x y:Int} (x0:0≤x) (x1:x<4294967296) (y0:0≤y) (y1:y≤4294967296):IntKind.u64.wrap (x-y)%4294967296=(x-y)%4294967296:=by
 rw [IntKind.wrap_u64]
 omega
section
variable {D U B dl ul v1 v2 u0 u1 u2 q:Int}
theorem refguess_loop (h:Kn D U B dl ul v1 v2 u0 u1 u2 q) {x8 x9 x10:List Int} {j m:Nat} {s:Int} (hj:j+m≤1000000) (hl8:j+(m+2)<x8.length) (hl9:x9.length=m+2)
 (e1:rd x9 ((m+1:Nat):Int)=v1) (e2:rd x9 (m:Int)=v2) (e3:rd x8 ((j+m:Nat):Int)=u2) {R:List Int×List Int}
 (hc:∀ g,0≤g→g<4294967296→q≤g→g≤q+1→Ev (fun k=>insolvencyref1_long.j4 k ((m+2:Nat):Int) s x8 x9 x10 (j:Int) g) R) (f:Nat):∀ g r:Int,Gs v1 u0 u1 q g r→r<4294967296→4294967296≤r+f*2147483648 →
 Ev (fun k=>insolvencyref1_long.l2 k ((m+2:Nat):Int) s x8 x9 x10 (j:Int) g r) R:=by
 induction f with
 | zero=>intro g r a h1 h2;omega
 | succ f ih=>
  intro g r a h1 h2
  obtain ⟨g0,g1⟩:=a.gle h
  have r0:=a.r0
  have hv10:=h.v10
  have hv11:=h.v11
  have hv20:=h.v20
  have hv21:=h.v21
  have yes:(4294967296≤g∨r*4294967296+u2<g*v2)→Ev (fun k=>insolvencyref1_long.j3 k ((m+2:Nat):Int) s x8 x9 x10 (j:Int) g r true) R:=fun c=>by
   have a2:=a.next h c
   have b1:=a2.g0 h
   by_cases hb:4294967296≤r+v1
   ·obtain ⟨c1,c2⟩:=a2.brk h hb
    have g:=hc (g-1) b1 c1 a2.le (a2.done h c1 c2)
    refine Ev.step (fun k=>?_) g
    simp only [insolvencyref1_long.j3]
    rw [if_pos trivial,wm1 (by omega),e1,wu (n:=v1) (by omega) (by omega),wu (n:=r+v1) (by omega) (by omega),if_pos (by omega),if_pos (by omega),if_pos (by omega),wu (by omega) (by omega)]
   ·have g:=ih (g-1) (r+v1) a2 (by omega) (by omega)
    refine Ev.step (fun k=>?_) g
    simp only [insolvencyref1_long.j3]
    rw [if_pos trivial,wm1 (by omega),e1,wu (n:=v1) (by omega) (by omega),wu (n:=r+v1) (by omega) (by omega),if_pos (by omega),if_pos (by omega),if_neg (by omega),wu (by omega) (by omega)]
  by_cases hg:4294967296≤g
  ·refine Ev.step (fun k=>?_) (yes (.inl hg))
   simp only [insolvencyref1_long.l2]
   rw [if_pos (by omega)]
  ·have hp:=mul_le g0 (show g<4294967296 by omega) hv20 hv21
   have ho:=small_bits r0 h1 h.u20 h.u21
   by_cases ht:r*4294967296+u2<g*v2
   ·refine Ev.step (fun k=>?_) (yes (.inr ht))
    simp only [insolvencyref1_long.l2]
    rw [if_neg (by omega),wm2 (by omega),widx (by omega),widx2 (by omega),e2,e3,ho,wu (n:=v2) (by omega) (by omega),wu (n:=g*v2) (by omega) (by omega),decide_eq_true (show g*v2>r*4294967296+u2 from ht),if_pos (by omega),if_pos (by omega),if_pos (by omega),if_pos (by omega)]
   ·have g2:=hc g g0 (by omega) a.le (a.done h (by omega) (by omega))
    refine Ev.step (f:=fun k=>insolvencyref1_long.j3 k ((m+2:Nat):Int) s x8 x9 x10 (j:Int) g r false) (fun k=>?_) (Ev.step (fun k=>?_) g2)
    ·simp only [insolvencyref1_long.l2]
     rw [if_neg (by omega),wm2 (by omega),widx (by omega),widx2 (by omega),e2,e3,ho,wu (n:=v2) (by omega) (by omega),wu (n:=g*v2) (by omega) (by omega),decide_eq_false (show ¬ g*v2>r*4294967296+u2 from ht),if_pos (by omega),if_pos (by omega),if_pos (by omega),if_pos (by omega)]
    ·simp only [insolvencyref1_long.j3]
     rw [if_neg (by decide)]
end
theorem refmulsub_loop (v:List Int) (hv:Dig v) (hvl:v.length≤400002) (lo hi:List Int) (hlo:lo.length≤400002) (s:Int) (q:List Int) (g t:Int) (g0:0≤g) (g1:g<4294967296) (R:List Int×List Int) (us:List Int):∀ (ys p:List Int) (c b:Int),v.drop p.length=ys→ys.length=us.length→p.length≤v.length→Dig p→Dig us→0≤c→c<4294967296→0≤b→b≤1 →
 (∀ p' c' b',Dig p'→p'.length=v.length→0≤c'→c'<4294967296→0≤b'→b'≤1→val p'+4294967296 ^ p.length*(g*val ys+c+b)=val p+4294967296 ^ p.length*val us+4294967296 ^ p'.length*(c'+b')→Ev (fun k=>insolvencyref1_long.l3 k (v.length:Int) s (lo ++ (p' ++ t :: hi)) v q (lo.length:Int) g c' b' (v.length:Int)) R) →
 Ev (fun k=>insolvencyref1_long.l3 k (v.length:Int) s (lo ++ (p ++ (us ++ t :: hi))) v q (lo.length:Int) g c b (p.length:Int)) R:=by
 induction us with
 | nil=>
  intro ys p c b h1 h2 h3 hp hus c0 c1 b0 b1 hcont
  have e2:ys=[]:=List.eq_nil_of_length_eq_zero (by simpa using h2)
  rw [e2] at h1 hcont
  have e1:=drop_nil h1
  have e3:p.length=v.length:=by omega
  have g2:=hcont p c b hp e3 c0 c1 b0 b1 (by simp [val])
  rw [List.nil_append,e3]
  exact g2
 | cons a us ih=>
  intro ys p c b h1 h2 h3 hp hus c0 c1 b0 b1 hcont
  cases ys with
  | nil=>simp at h2
  | cons v0 ys=>
   obtain ⟨i1,r1,d1,m1⟩:=drop_cons h1
   have bv:=hv v0 m1
   have ba:=hus.head
   have bp:=mul_le g0 g1 bv.1 bv.2
   have hq:∀ t:Int,0≤t→t≤18446744065119617025+4294967295→0≤t%4294967296∧t%4294967296<4294967296∧0≤t/4294967296∧t/4294967296<4294967296:=fun t _ _=>by omega
   have bt:=hq (c+g*v0) (by omega) (by omega)
   have key:∀ d bo,0≤d→d<4294967296→0≤bo→bo≤1→d=a+4294967296*bo-((c+g*v0)%4294967296+b)→Ev (fun k=>insolvencyref1_long.l3 k (v.length:Int) s (lo ++ ((p ++ [d]) ++ (us ++ t :: hi))) v q (lo.length:Int) g ((c+g*v0)/4294967296) bo ((p.length+1:Nat):Int)) R:=by
    intro d bo d0 d1' o0 o1 hd
    have ih:=ih ys (p ++ [d]) ((c+g*v0)/4294967296) bo (by rw [snoc_len];exact d1) (by simpa using h2) (by rw [snoc_len];omega) (snoc_dig hp d0 d1') hus.tail bt.2.2.1 bt.2.2.2 o0 o1 (by
     intro p' c' b' a1 a2 a3 a4 a5 a6 a7
     refine hcont p' c' b' a1 a2 a3 a4 a5 a6 ?_
     have s1:=vsnoc p d (val us)
     rw [snoc_len] at s1 a7
     have hdm:=divmod_eq (c+g*v0) 4294967296
     have e5:(4294967296:Int) ^ p.length*(g*val (v0 :: ys)+c+b)=4294967296 ^ p.length*(4294967296*(g*val ys+(c+g*v0)/4294967296+bo)+(a-d)):=by
      congr 1
      simp only [val,Int.mul_add]
      rw [Int.mul_left_comm g 4294967296]
      generalize (c+g*v0)/4294967296=z1 at *
      generalize (c+g*v0)%4294967296=z2 at *
      generalize g*v0=q1 at *
      generalize g*val ys=q2 at *
      omega
     have e6:(4294967296:Int) ^ p.length*(d+4294967296*val us)=4294967296 ^ p.length*(val (a :: us)-(a-d)):=by
      congr 1
      simp only [val]
      omega
     have e7:(4294967296:Int) ^ (p.length+1)*(g*val ys+(c+g*v0)/4294967296+bo)=4294967296 ^ p.length*(4294967296*(g*val ys+(c+g*v0)/4294967296+bo)):=by
      rw [Int.pow_succ,Int.mul_assoc]
     rw [Int.mul_add _ _ (a-d)] at e5
     rw [Int.mul_sub] at e6
     rw [e7,s1,e6] at a7
     rw [e5]
     omega)
    rw [snoc_len] at ih
    exact ih
   have hr:rd (lo ++ (p ++ (a :: us ++ t :: hi))) ((lo.length+p.length:Nat):Int)=a:=rd_mid lo p (us ++ t :: hi) a
   have he:∀ x,(lo ++ (p ++ (a :: us ++ t :: hi))).set (lo.length+p.length) x=lo ++ ((p ++ [x]) ++ (us ++ t :: hi)):=fun x=>set_mid3 lo p (us ++ t :: hi) a x
   have hln:(lo ++ (p ++ (a :: us ++ t :: hi))).length=lo.length+p.length+us.length+hi.length+2:=by simp only [List.length_append,List.length_cons];omega
   by_cases hlt:a<(c+g*v0)%4294967296+b
   ·have g2:=key (a+4294967296-((c+g*v0)%4294967296+b)) 1 (by omega) (by omega) (by decide) (by decide) (by omega)
    refine Ev.step (fun k=>?_) g2
    simp only [insolvencyref1_long.l3]
    rw [if_pos (by omega),r1,widx (by omega),hr,hln,wu (n:=v0) (by omega) (by omega),wu (n:=g*v0) (by omega) (by omega),wu (n:=c+g*v0) (by omega) (by omega),andLo (by omega) (by omega),wu (n:=a) (by omega) (by omega),wu (n:=(c+g*v0)%4294967296+b) (by omega) (by omega),wu (n:=a+4294967296) (by omega) (by omega),wu (n:=a+4294967296-((c+g*v0)%4294967296+b)) (by omega) (by omega),Int.emod_eq_of_lt (a:=a+4294967296-((c+g*v0)%4294967296+b)) (by omega) (by omega),if_pos (by omega),if_pos (by omega),if_pos (by omega),if_pos (by omega),if_pos hlt,Int.toNat_natCast,he,winc (by omega)]
   ·have g2:=key (a-((c+g*v0)%4294967296+b)) 0 (by omega) (by omega) (by decide) (by decide) (by omega)
    refine Ev.step (fun k=>?_) g2
    simp only [insolvencyref1_long.l3]
    rw [if_pos (by omega),r1,widx (by omega),hr,hln,wu (n:=v0) (by omega) (by omega),wu (n:=g*v0) (by omega) (by omega),wu (n:=c+g*v0) (by omega) (by omega),andLo (by omega) (by omega),wu (n:=a) (by omega) (by omega),wu (n:=(c+g*v0)%4294967296+b) (by omega) (by omega),wu (n:=a-((c+g*v0)%4294967296+b)) (by omega) (by omega),Int.emod_eq_of_lt (a:=a-((c+g*v0)%4294967296+b)) (by omega) (by omega),if_pos (by omega),if_pos (by omega),if_pos (by omega),if_pos (by omega),if_neg hlt,Int.toNat_natCast,he,winc (by omega)]
theorem refaddback_loop (v:List Int) (hv:Dig v) (hvl:v.length≤400002) (lo hi:List Int) (hlo:lo.length≤400002) (s:Int) (q:List Int) (g t:Int) (us:List Int):∀ (ys p:List Int) (c:Int),v.drop p.length=ys→ys.length=us.length→p.length≤v.length→Dig p→Dig us→0≤c→c≤1 →
 ∃ p' c',Dig p'∧p'.length=v.length∧0≤c'∧c'≤1∧val p'+4294967296 ^ p'.length*c'=val p+4294967296 ^ p.length*(c+val us+val ys) ∧ ∀ R,Ev (fun k=>insolvencyref1_long.l4 k (v.length:Int) s (lo ++ (p' ++ t :: hi)) v q (lo.length:Int) g c' (v.length:Int)) R→Ev (fun k=>insolvencyref1_long.l4 k (v.length:Int) s (lo ++ (p ++ (us ++ t :: hi))) v q (lo.length:Int) g c (p.length:Int)) R:=by
 induction us with
 | nil=>
  intro ys p c h1 h2 h3 hp hus c0 c1
  have e2:ys=[]:=List.eq_nil_of_length_eq_zero (by simpa using h2)
  rw [e2] at h1 ⊢
  have e1:=drop_nil h1
  have e3:p.length=v.length:=by omega
  refine ⟨p,c,hp,e3,c0,c1,by simp [val],fun R g2=>?_⟩
  rw [List.nil_append,e3]
  exact g2
 | cons a us ih=>
  intro ys p c h1 h2 h3 hp hus c0 c1
  cases ys with
  | nil=>simp at h2
  | cons v0 ys=>
   obtain ⟨i1,r1,d1,m1⟩:=drop_cons h1
   have bv:=hv v0 m1
   have ba:=hus.head
   obtain ⟨p',c',q1,q2,q3,q4,q5,q6⟩:=ih ys (p ++ [(c+a+v0)%4294967296]) ((c+a+v0)/4294967296) (by rw [snoc_len];exact d1) (by simpa using h2) (by rw [snoc_len];omega) (snoc_dig hp (by omega) (by omega)) hus.tail (by omega) (by omega)
   rw [vsnoc,show (c+a+v0)%4294967296+4294967296*((c+a+v0)/4294967296+val us+val ys)=c+val (a :: us)+val (v0 :: ys) by simp only [val];omega] at q5
   refine ⟨p',c',q1,q2,q3,q4,q5,fun R g2=>?_⟩
   have g3:=q6 R g2
   rw [snoc_len] at g3
   refine Ev.step (fun k=>?_) g3
   simp only [insolvencyref1_long.l4]
   have hr:rd (lo ++ (p ++ (a :: us ++ t :: hi))) ((lo.length+p.length:Nat):Int)=a:=rd_mid lo p (us ++ t :: hi) a
   have he:∀ x,(lo ++ (p ++ (a :: us ++ t :: hi))).set (lo.length+p.length) x=lo ++ ((p ++ [x]) ++ (us ++ t :: hi)):=fun x=>set_mid3 lo p (us ++ t :: hi) a x
   have hln:(lo ++ (p ++ (a :: us ++ t :: hi))).length=lo.length+p.length+us.length+hi.length+2:=by simp only [List.length_append,List.length_cons];omega
   rw [if_pos (by omega),r1,widx (by omega),hr,hln,wu (n:=a) (by omega) (by omega),wu (n:=v0) (by omega) (by omega),wu (n:=c+a) (by omega) (by omega),wu (n:=c+a+v0) (by omega) (by omega),if_pos (by omega),if_pos (by omega),if_pos (by omega),if_pos (by omega),Int.toNat_natCast,he,winc (by omega)]
theorem refstep {lo w hi v q:List Int} {m:Nat} {s:Int} (hw:Dig w) (hv:Dig v) (hwl:w.length=m+3) (hvl:v.length=m+2) (hm:m≤400000) (hlo:lo.length≤400002) (hql:lo.length<q.length) (htop:2147483648≤rd v ((m+1:Nat):Int)) (hlt:val w<4294967296*val v) :
 ∃ w',Dig w'∧w'.length=w.length∧val w'=val w%val v ∧ ∀ R,Ev (fun k=>insolvencyref1_long.l1 k ((m+2:Nat):Int) s (lo ++ (w' ++ hi)) v (q.set lo.length (val w/val v)) (wrap64 ((lo.length:Int)-1))) R→Ev (fun k=>insolvencyref1_long.l1 k ((m+2:Nat):Int) s (lo ++ (w ++ hi)) v q (lo.length:Int)) R:=by
 have h:=kn_of hw hv hwl hvl htop hlt
 have hD0:0<val v:=by have:=h.dpos;have:=h.hB;omega
 have hDlt:=val_lt hv
 have hr0:=Int.emod_nonneg (val w) (show val v≠0 by omega)
 have hr1:=Int.emod_lt_of_pos (val w) hD0
 have hqr:=divmod_eq (val w) (val v)
 obtain ⟨w',hwd,hwlen,hwval⟩:∃ w',Dig w'∧w'.length=w.length∧val w'=val w%val v:=by
  refine ⟨L (val w%val v) ++ List.replicate (w.length-(L (val w%val v)).length) 0,(L_dig hr0).app (Dig.zeros _),?_,?_⟩
  ·have:(L (val w%val v)).length≤v.length:=L_len hr0 (by omega)
   rw [List.length_append,List.length_replicate];omega
  ·rw [val_app,val_zeros,Int.mul_zero,Int.add_zero,L_val hr0]
 refine ⟨w',hwd,hwlen,hwval,fun R hR=>?_⟩
 have hsp:w=w.take (m+2) ++ [rd w ((m+2:Nat):Int)]:=by
  conv=>lhs;rw [← List.take_append_drop (m+2) w,drop_rd (show m+2<w.length by omega),List.drop_of_length_le (show w.length≤m+2+1 by omega)]
 have hq0:=h.q0
 have hqlt:=h.qlt
 have w4:∀ g,0≤g→g<4294967296→val w/val v≤g→g≤val w/val v+1→Ev (fun k=>insolvencyref1_long.j4 k ((m+2:Nat):Int) s (lo ++ (w ++ hi)) v q (lo.length:Int) g) R:=by
  intro g g0 g1 gq gq1
  have ht:=hw.at ((m+2:Nat):Int)
  have hus:=hw.take (m+2)
  have husl:(w.take (m+2)).length=m+2:=by rw [List.length_take];omega
  have hUv:val w=val (w.take (m+2))+4294967296 ^ (m+2)*rd w ((m+2:Nat):Int):=by
   conv=>lhs;rw [hsp,val_app,husl]
   simp [val]
  have hsp2:lo ++ (w ++ hi)=lo ++ ([] ++ (w.take (m+2) ++ rd w ((m+2:Nat):Int) :: hi)):=by
   conv=>lhs;rw [hsp]
   simp only [List.append_assoc,List.singleton_append,List.nil_append]
  generalize w.take (m+2)=us at hsp2 hus husl hUv
  generalize rd w ((m+2:Nat):Int)=t at hsp2 ht hUv
  have key:=refmulsub_loop v hv (by omega) lo hi hlo s q g t g0 g1 R us v [] 0 0 rfl (by omega) (Nat.zero_le _) Dig.nil hus (Int.le_refl _) (by decide) (Int.le_refl _) (by decide) (by
   intro p c b hp hpl c0 c1 b0 b1 he
   have he:val p+g*val v=val us+4294967296 ^ (m+2)*(c+b):=by
    rw [hpl,hvl] at he
    simp only [List.length_nil,Int.pow_zero,Int.one_mul,Int.add_zero,val,Int.zero_add] at he
    exact he
   have hx0:=Int.emod_nonneg (t-(c+b)) (show (4294967296:Int)≠0 by decide)
   have hx1:=Int.emod_lt_of_pos (t-(c+b)) (show (0:Int)<4294967296 by decide)
   have hsub:=wsubB ht.1 ht.2 (show 0≤c+b by omega) (show c+b≤4294967296 by omega)
   obtain ⟨bo,hb0,hb1,hz,hbo⟩:∃ bo:Int,0≤bo∧bo≤1∧(t-(c+b))%4294967296=t-c-b+4294967296*bo∧(bo=0 ↔ ¬ t<c+b):=by
    by_cases hq:t<c+b
    ·exact ⟨1,by decide,by decide,by omega,by constructor <;> intro <;> omega⟩
    ·exact ⟨0,by decide,by decide,by omega,by constructor <;> intro <;> omega⟩
   generalize (t-(c+b))%4294967296=t2 at hsub hx0 hx1 hz
   have hXv:val (p ++ [t2])=val p+4294967296 ^ (m+2)*t2:=by rw [val_app,hpl,hvl];simp [val]
   have hXd:Dig (p ++ [t2]):=snoc_dig hp hx0 hx1
   have hXl:(p ++ [t2]).length=m+3:=by rw [snoc_len,hpl,hvl]
   have hXlt:=val_lt hXd
   rw [hXl] at hXlt
   have hP:(4294967296:Int) ^ (m+3)=4294967296 ^ (m+2)*4294967296:=Int.pow_succ ..
   have hfix:=Kn.fix (W:=4294967296 ^ (m+3)) (X:=val (p ++ [t2])) hD0 h.q1 h.q2 gq gq1 (val_nonneg hXd) hXlt hb0 hb1 (by
    rw [hXv,hUv,hP,hz]
    simp only [Int.mul_add,Int.mul_sub,Int.mul_assoc] at he ⊢
    omega)
   have hrd:rd (lo ++ (p ++ t :: hi)) ((lo.length+v.length:Nat):Int)=t:=by rw [← hpl];exact rd_mid lo p hi t
   have hset:∀ x,(lo ++ (p ++ t :: hi)).set (lo.length+v.length) x=lo ++ ((p ++ [x]) ++ hi):=fun x=>by rw [← hpl];exact set_mid3 lo p hi t x
   have hln:(lo ++ (p ++ t :: hi)).length=lo.length+p.length+hi.length+1:=by simp only [List.length_append,List.length_cons];omega
   by_cases hbo0:bo=0
   ·obtain ⟨f1,f2⟩:=hfix.1 hbo0
    have e1:p ++ [t2]=w':=val_inj _ _ hXd hwd (by omega) (by rw [f2,hwval];omega)
    have hnl:=hbo.1 hbo0
    rw [← e1,← f1,← hvl] at hR
    refine Ev.step (fun k=>?_) hR
    simp only [insolvencyref1_long.l3]
    rw [if_neg (by omega),widx (by omega),hrd,hln,wu (n:=t) (by omega) (by omega),wu (n:=c+b) (by omega) (by omega),if_pos (by omega),if_pos (by omega),Option.bind_some,if_neg hnl,if_pos (by omega),if_pos (by omega),Int.toNat_natCast,Int.toNat_natCast,hset,hsub,Int.emod_eq_of_lt g0 g1]
   ·have hbo1:bo=1:=by omega
    obtain ⟨f1,f2⟩:=hfix.2 hbo1
    have hnl:t<c+b:=by
     rcases Int.lt_or_le t (c+b) with q1|q1
     ·exact q1
     ·exact absurd (hbo.2 (by omega)) hbo0
    obtain ⟨p2,c2,q1,q2,q3,q4,q5,q6⟩:=refaddback_loop v hv (by omega) lo hi hlo s q (g-1) t2 p v [] 0 rfl (by omega) (Nat.zero_le _) Dig.nil hp (Int.le_refl _) (by decide)
    have q5:val p2+4294967296 ^ (m+2)*c2=val p+val v:=by
     rw [q2,hvl] at q5
     simp only [List.length_nil,Int.pow_zero,Int.one_mul,val,Int.zero_add] at q5
     exact q5
    have hp2:=val_lt q1
    rw [q2,hvl] at hp2
    have hp20:=val_nonneg q1
    have hsum:val p2+4294967296 ^ (m+2)*(c2+t2)=val (p ++ [t2])+val v:=by
     rw [hXv,Int.mul_add];omega
    have hc2:c2+t2=4294967296:=by
     have hcase:c2+t2≤4294967295∨c2+t2=4294967296:=by omega
     rcases hcase with hcase|hcase
     ·have e2:=Int.mul_le_mul_of_nonneg_left hcase (Int.le_of_lt (pw (m+2)))
      have e3:val w%val v=val w-val w/val v*val v:=by omega
      rw [hP] at f2
      omega
     ·exact hcase
    have e1:p2 ++ [0]=w':=by
     refine val_inj _ _ (snoc_dig q1 (by decide) (by decide)) hwd (by rw [snoc_len];omega) ?_
     rw [hwval,val_app]
     rw [hc2] at hsum
     rw [hP] at f2
     simp only [val,Int.mul_zero,Int.add_zero]
     omega
    have hrd2:rd (lo ++ (p2 ++ t2 :: hi)) ((lo.length+v.length:Nat):Int)=t2:=by rw [← q2];exact rd_mid lo p2 hi t2
    have hset2:∀ x,(lo ++ (p2 ++ t2 :: hi)).set (lo.length+v.length) x=lo ++ ((p2 ++ [x]) ++ hi):=fun x=>by rw [← q2];exact set_mid3 lo p2 hi t2 x
    have hln2:(lo ++ (p2 ++ t2 :: hi)).length=lo.length+p2.length+hi.length+1:=by simp only [List.length_append,List.length_cons];omega
    rw [← e1,← hvl,show val w/val v=g-1 by omega] at hR
    have hlast:Ev (fun k=>insolvencyref1_long.l4 k (v.length:Int) s (lo ++ (p2 ++ t2 :: hi)) v q (lo.length:Int) (g-1) c2 (v.length:Int)) R:=by
     refine Ev.step (fun k=>?_) hR
     simp only [insolvencyref1_long.l4]
     rw [if_neg (by omega),widx (by omega),hrd2,hln2,if_pos (by omega),if_pos (by omega),if_pos (by omega),if_pos (by omega),Int.toNat_natCast,Int.toNat_natCast,hset2,Int.emod_eq_of_lt (a:=c2) (by omega) (by omega),show (t2+c2)%4294967296=0 by omega,Int.emod_eq_of_lt (a:=g-1) (by omega) (by omega)]
    have g4:=q6 R hlast
    refine Ev.step (fun k=>?_) g4
    simp only [insolvencyref1_long.l3]
    rw [if_neg (by omega),widx (by omega),hrd,hln,wu (n:=t) (by omega) (by omega),wu (n:=c+b) (by omega) (by omega),if_pos (by omega),if_pos (by omega),Option.bind_some,if_pos hnl,Int.toNat_natCast,hset,hsub,wu (n:=g-1) (by omega) (by omega),List.append_assoc]
    rfl)
  rw [hvl] at key
  refine Ev.step (fun k=>?_) key
  simp only [insolvencyref1_long.j4]
  rw [hsp2]
  rfl
 have hu0:=h.u00
 have hu01:=h.u01
 have hst:=h.start
 have hr1:=Int.emod_lt_of_pos (rd w ((m+2:Nat):Int)*4294967296+rd w ((m+1:Nat):Int)) (show 0<rd v ((m+1:Nat):Int) by omega)
 have hv11:=h.v11
 have hln:(lo ++ (w ++ hi)).length=lo.length+(m+3)+hi.length:=by rw [List.length_append,List.length_append];omega
 have r2:=rd_lo lo w hi (m+2) (by omega)
 have r1:=rd_lo lo w hi (m+1) (by omega)
 have r0:=rd_lo lo w hi m (by omega)
 have g:=refguess_loop h (x8:=lo ++ (w ++ hi)) (x9:=v) (x10:=q) (j:=lo.length) (m:=m) (s:=s) (by omega) (by omega) hvl rfl rfl r0 w4 2 _ _ hst (by omega) (by have:=hst.r0;omega)
 have hbits:=small_bits hu0 hu01 h.u10 h.u11
 have hnn:0≤rd w ((m+2:Nat):Int)*4294967296+rd w ((m+1:Nat):Int):=by have:=h.u10;omega
 obtain ⟨gl0,gl1⟩:=hst.gle h
 refine Ev.step (fun k=>?_) g
 simp only [insolvencyref1_long.l1]
 rw [if_pos (by omega),widx (by omega),widx1 (by omega),wm1 (by omega),r2,r1,hln,wu (n:=rd w ((m+2:Nat):Int)) (by omega) (by omega),hbits,wu (n:=rd v ((m+1:Nat):Int)) (by omega) (by omega),Int.tdiv_eq_ediv_of_nonneg hnn,Int.tmod_eq_emod_of_nonneg hnn,wu gl0 (by omega),if_pos (by omega),if_pos (by omega),if_pos (by omega),if_pos (by omega),if_pos (by omega),if_pos (by omega),if_neg (by omega)]
end Go.Proofs.YtjaflmhdclmolaaDoor.Num
end
section
namespace Go.Proofs.YtjaflmhdclmolaaDoor.F
open Go.RowKit Go.Proofs.YtjaflmhdclmolaaDoorW.PrintWords Go.Proofs.YtjaflmhdclmolaaDoorW.PrintLast Go.Proofs.YtjaflmhdclmolaaDoorW.PrintMore
attribute [local go_sem] max2_int min2_int max_two min_two max_three min_three max_four min_four   
set_option linter.unusedVariables false
set_option linter.unusedSimpArgs false
def insolvencyref1_NatDivide.f (k:Nat) (a0:ByteArray) (a1:ByteArray):Option (ByteArray×ByteArray×Bool):=(insolvencyref1_limbs.f k a1).bind fun t395=>(if (t395.length:Int)=0 then (some ((⟨#[]⟩:ByteArray),(⟨#[]⟩:ByteArray),false)) else ((insolvencyref1_limbs.f k a0).bind fun t398=>((insolvencyref1_divide.f k t398 t395).bind fun bt401=>((insolvencyref1_text.f k bt401.1).bind fun t407=>((insolvencyref1_text.f k bt401.2).bind fun t408=>(some (t407,t408,true)))))))
theorem insolvencyref1_NatDivide.mono:∀ a0 a1 k,LeO (insolvencyref1_NatDivide.f k a0 a1) (insolvencyref1_NatDivide.f (k+1) a0 a1):=by
 intro a0 a1 k
 unfold insolvencyref1_NatDivide.f
 repeat' first
  | (with_reducible exact insolvencyref1_divide.mono _ _ _)
  | (with_reducible exact insolvencyref1_limbs.mono _ _)
  | (with_reducible exact insolvencyref1_text.mono _ _)
  | (with_reducible exact LeO.refl _)
  | (with_reducible exact LeO.none _)
  | (with_reducible refine LeO.ite ?_ ?_)
  | (with_reducible refine LeO.bind ?_ (fun _=>?_))
  | exact insolvencyref1_divide.mono _ _ _
  | exact insolvencyref1_limbs.mono _ _
  | exact insolvencyref1_text.mono _ _
  | exact LeO.none _
  | refine LeO.ite ?_ ?_
  | refine LeO.bind ?_ (fun _=>?_)
set_option maxHeartbeats 8000000 in
set_option maxRecDepth 100000 in
theorem insolvencyref1_NatDivide.calls (k:Nat) (a0:ByteArray) (a1:ByteArray) (r1:ByteArray) (r2:ByteArray) (r3:Bool) (w:World) (h:insolvencyref1_NatDivide.f k a0 a1=some (r1,r2,r3)) :
 Calls Tryd.prog 22 #[.string a0,.string a1] w fun e w'=>e = .returned (.tuple #[.string r1,.string r2,.bool r3])∧Below w.heap.size w w':=by
 have HB:=Aside0.mk (Below.refl w.heap.size w)
 have H:((insolvencyref1_limbs.f k a1).bind fun t395=>(if (t395.length:Int)=0 then (some ((⟨#[]⟩:ByteArray),(⟨#[]⟩:ByteArray),false)) else ((insolvencyref1_limbs.f k a0).bind fun t398=>((insolvencyref1_divide.f k t398 t395).bind fun bt401=>((insolvencyref1_text.f k bt401.1).bind fun t407=>((insolvencyref1_text.f k bt401.2).bind fun t408=>(some (t407,t408,true))))))))=some (r1,r2,r3):=h
 clear h
 replace H:=Option.bind_eq_some_iff.mp H
 obtain ⟨t395,A30,H⟩:=H
 replace H:(if (t395.length:Int)=0 then (some ((⟨#[]⟩:ByteArray),(⟨#[]⟩:ByteArray),false)) else ((insolvencyref1_limbs.f k a0).bind fun t398=>((insolvencyref1_divide.f k t398 t395).bind fun bt401=>((insolvencyref1_text.f k bt401.1).bind fun t407=>((insolvencyref1_text.f k bt401.2).bind fun t408=>(some (t407,t408,true)))))))=some (r1,r2,r3):=H
 have A3:=Aside0.mk A30
 clear A30
 by_cases c4:(t395.length:Int)=0
 ·rw [if_pos c4] at H
  have c4b0:((t395.length:Int) == 0)=true:=beq_iff_eq.mpr c4
  have c4b1:((t395.length:Int) != 0)=false:=bne_eq_false_iff_eq.mpr c4
  clear c4
  simp only [Option.some.injEq,Prod.mk.injEq] at H
  obtain ⟨rfl,rfl,rfl⟩:=H
  go_enter Tryd.func22,Tryd.ntmps22
  go_wp2_with (first|((with_reducible refine gate_callee (f:=45) rfl ?_);refine goesL_ (some 11) rfl rfl Tryd.func45 (by kernel_rfl) rfl #[.string a1] rfl (by (try simp only [List.map_toArray,List.map_cons,List.map_nil]);first|done|rfl|(simp only [List.length_drop,List.length_take];rfl)) ?_;(with_reducible refine (insolvencyref1_limbs.calls k a1 t395 _ A3.out).mono ?_);rintro e w5 ⟨v396,rfl,ho0,hb⟩;refine ⟨_,rfl,?_⟩;have n0_:=Aside0.mk (Kd.R_lower ho0 (below_size (by repeat (first|(with_reducible first|exact HB.out|apply below_alloc|apply pw_below_drewN|apply below_drew1)|exact HB.out))));have n1_:=Aside0.mk (below_step (by repeat (first|(with_reducible first|exact HB.out|apply below_alloc|apply pw_below_drewN|apply below_drew1)|exact HB.out)) hb);clear HB;have HO397:=n0_;have HB:=n1_;clear n0_ n1_;(try clear hb);(try clear hb2);(try clear hk);(try clear hi);(try clear ho0);obtain ⟨Ao6,co6,eo6⟩:=Kd.R_slice HO397.out;subst eo6))
  go_ret3
  exact ⟨by first|rfl|(simp [errW_none,errW_some] <;> rfl)|(simp [*,errW_none,errW_some] <;> rfl),by repeat (first|(with_reducible first|exact HB.out|apply below_alloc|apply pw_below_drewN|apply below_drew1)|exact HB.out)⟩
 ·rw [if_neg c4] at H
  have c4b0:((t395.length:Int) == 0)=false:=beq_eq_false_iff_ne.mpr c4
  have c4b1:((t395.length:Int) != 0)=true:=bne_iff_ne.mpr c4
  have c4b2:¬ (t395=[]):=fun h_=>c4 (by rw [h_];rfl)
  replace H:=Option.bind_eq_some_iff.mp H
  obtain ⟨t398,A70,H⟩:=H
  replace H:((insolvencyref1_divide.f k t398 t395).bind fun bt401=>((insolvencyref1_text.f k bt401.1).bind fun t407=>((insolvencyref1_text.f k bt401.2).bind fun t408=>(some (t407,t408,true)))))=some (r1,r2,r3):=H
  have A7:=Aside0.mk A70
  clear A70
  replace H:=Option.bind_eq_some_iff.mp H
  obtain ⟨⟨t401,t404⟩,A80,H⟩:=H
  replace H:((insolvencyref1_text.f k t401).bind fun t407=>((insolvencyref1_text.f k t404).bind fun t408=>(some (t407,t408,true))))=some (r1,r2,r3):=H
  have A8:=Aside0.mk A80
  clear A80
  replace H:=Option.bind_eq_some_iff.mp H
  obtain ⟨t407,A90,H⟩:=H
  replace H:((insolvencyref1_text.f k t404).bind fun t408=>(some (t407,t408,true)))=some (r1,r2,r3):=H
  have A9:=Aside0.mk A90
  clear A90
  replace H:=Option.bind_eq_some_iff.mp H
  obtain ⟨t408,A100,H⟩:=H
  replace H:(some (t407,t408,true))=some (r1,r2,r3):=H
  have A10:=Aside0.mk A100
  clear A100
  simp only [Option.some.injEq,Prod.mk.injEq] at H
  obtain ⟨rfl,rfl,rfl⟩:=H
  go_enter Tryd.func22,Tryd.ntmps22
  go_wp2_with (first|((with_reducible refine gate_callee (f:=45) rfl ?_);refine goesL_ (some 11) rfl rfl Tryd.func45 (by kernel_rfl) rfl #[.string a1] rfl (by (try simp only [List.map_toArray,List.map_cons,List.map_nil]);first|done|rfl|(simp only [List.length_drop,List.length_take];rfl)) ?_;(with_reducible refine (insolvencyref1_limbs.calls k a1 t395 _ A3.out).mono ?_);rintro e w11 ⟨v396,rfl,ho0,hb⟩;refine ⟨_,rfl,?_⟩;have n0_:=Aside0.mk (Kd.R_lower ho0 (below_size (by repeat (first|(with_reducible first|exact HB.out|apply below_alloc|apply pw_below_drewN|apply below_drew1)|exact HB.out))));have n1_:=Aside0.mk (below_step (by repeat (first|(with_reducible first|exact HB.out|apply below_alloc|apply pw_below_drewN|apply below_drew1)|exact HB.out)) hb);clear HB;have HO397:=n0_;have HB:=n1_;clear n0_ n1_;(try clear hb);(try clear hb2);(try clear hk);(try clear hi);(try clear ho0);obtain ⟨Ao12,co12,eo12⟩:=Kd.R_slice HO397.out;subst eo12)|((with_reducible refine gate_callee (f:=45) rfl ?_);refine goesL_ (some 17) rfl rfl Tryd.func45 (by kernel_rfl) rfl #[.string a0] rfl (by (try simp only [List.map_toArray,List.map_cons,List.map_nil]);first|done|rfl|(simp only [List.length_drop,List.length_take];rfl)) ?_;(with_reducible refine (insolvencyref1_limbs.calls k a0 t398 _ A7.out).mono ?_);rintro e w13 ⟨v399,rfl,ho0,hb⟩;refine ⟨_,rfl,?_⟩;have n0_:=Aside0.mk (Kd.R_elder' (by (with_reducible repeat (first|apply Kd.R_alloc|apply Kd.R_drewN|apply Kd.R_drew));exact HO397.out) (Kd.R_base ho0) hb);have n1_:=Aside0.mk (Kd.R_lower (Kd.R_new' ho0 (Kd.R_lt (by (with_reducible repeat (first|apply Kd.R_alloc|apply Kd.R_drewN|apply Kd.R_drew));exact HO397.out))) (below_size (by repeat (first|(with_reducible first|exact HB.out|apply below_alloc|apply pw_below_drewN|apply below_drew1)|exact HB.out))));have n2_:=Aside0.mk (below_step (by repeat (first|(with_reducible first|exact HB.out|apply below_alloc|apply pw_below_drewN|apply below_drew1)|exact HB.out)) hb);clear HO397;clear HB;have HO397:=n0_;have HO400:=n1_;have HB:=n2_;clear n0_ n1_ n2_;(try clear hb);(try clear hb2);(try clear hk);(try clear hi);(try clear ho0);obtain ⟨Ao14,co14,eo14⟩:=Kd.R_slice HO400.out;subst eo14)|((with_reducible refine gate_callee (f:=46) rfl ?_);refine goesL_ (some 19) rfl rfl Tryd.func46 (by kernel_rfl) rfl #[.slice Ao14 t398.length co14,.slice Ao12 t395.length co12] rfl (by (try simp only [List.map_toArray,List.map_cons,List.map_nil]);first|done|rfl|(simp only [List.length_drop,List.length_take];rfl)) ?_;(with_reducible refine (insolvencyref1_divide.calls k (fun k_=>some k_=(.slice Ao14 t398.length co14:Value).ownBlock) (.slice Ao14 t398.length co14) t398 _ _ t395 t401 t404 w _ ?side1 ?side2 ?side3 ?side4 A8.out).mono ?_);(case side1=>repeat (first|(with_reducible first|exact HB.out|apply below_alloc|apply pw_below_drewN|apply below_drew1)|exact HB.out));(case side2=>exact Kd.R_tight rfl HO400.out);(case side3=>exact Kd.C_kept_own (HO397.out) (fun k_ hk_ hs_=>(hk_.2) hs_));(case side4=>exact (Kd.R_reads' HO397.out).2.1);rintro e w15 ⟨v402,v405,rfl,ho0,ho1,hb,hkp⟩;refine ⟨_,rfl,?_⟩;have n0_:=Aside0.mk (Kd.R_mono (ok':=fun k_=>some k_≠(v402:Value).ownBlock∧some k_≠(v405:Value).ownBlock) (Kd.R_keptB (HO397.out) hkp (fun k_ hk_ hs_=>(hk_.2) hs_)) (fun k_ hk_=>⟨fun e_=>Or.elim (ho0.1 k_ e_.symm).1 (fun hs_=>hk_.2.1 hs_) (fun hn_=>Nat.not_le.2 hk_.2.2 hn_),fun e_=>Or.elim (ho1.1 k_ e_.symm).1 (fun hs_=>hk_.2.1 hs_) (fun hn_=>Nat.not_le.2 hk_.2.2 hn_)⟩));have n1_:=Aside0.mk (Kd.R_mono (ok':=fun k_=>some k_≠(v405:Value).ownBlock∧some k_≠(.slice Ao12 t395.length co12:Value).ownBlock) ho0 (fun k_ hk_=>⟨hk_.2,Or.elim hk_.1 (fun hs_=>fun e_=>(((HO397.out).1 k_ e_.symm).2) hs_) (fun hn_=>(Kd.fresh' (Kd.R_lt (by (with_reducible repeat (first|apply Kd.R_alloc|apply Kd.R_drewN|apply Kd.R_drew));exact HO397.out)) k_ hn_))⟩));have n2_:=Aside0.mk (Kd.R_mono (ok':=fun k_=>some k_≠(v402:Value).ownBlock∧some k_≠(.slice Ao12 t395.length co12:Value).ownBlock) ho1 (fun k_ hk_=>⟨hk_.2,Or.elim hk_.1 (fun hs_=>fun e_=>(((HO397.out).1 k_ e_.symm).2) hs_) (fun hn_=>(Kd.fresh' (Kd.R_lt (by (with_reducible repeat (first|apply Kd.R_alloc|apply Kd.R_drewN|apply Kd.R_drew));exact HO397.out)) k_ hn_))⟩));have n3_:=Aside0.mk (hb);clear HO397;clear HB;clear HO400;have HO397:=n0_;have HO403:=n1_;have HO406:=n2_;have HB:=n3_;clear n0_ n1_ n2_ n3_;(try clear hb);(try clear hkp);(try clear ho0);(try clear ho1);obtain ⟨Ao16,co16,eo16⟩:=Kd.R_slice HO403.out;subst eo16)|((with_reducible refine gate_callee (f:=47) rfl ?_);refine goesL_ (some 23) rfl rfl Tryd.func47 (by kernel_rfl) rfl #[.slice Ao16 t401.length co16] rfl (by (try simp only [List.map_toArray,List.map_cons,List.map_nil]);first|done|rfl|(simp only [List.length_drop,List.length_take];rfl)) ?_;(with_reducible refine (insolvencyref1_text.calls k (fun k_=>some k_=(.slice Ao16 t401.length co16:Value).ownBlock) (.slice Ao16 t401.length co16) t401 t407 w _ ?side1 ?side2 A9.out).mono ?_);(case side1=>repeat (first|(with_reducible first|exact HB.out|apply below_alloc|apply pw_below_drewN|apply below_drew1)|exact HB.out));(case side2=>exact Kd.R_tight rfl HO403.out);rintro e w17 ⟨rfl,hb,hkp⟩;refine ⟨_,rfl,?_⟩;have n0_:=Aside0.mk (Kd.R_mono (ok':=fun k_=>some k_≠(v405:Value).ownBlock) (Kd.R_keptB (HO397.out) hkp (fun k_ hk_ hs_=>(hk_.1) hs_)) (fun k_ hk_=>hk_.1.2));have n1_:=Aside0.mk (Kd.R_mono (ok':=fun k_=>some k_≠(.slice Ao12 t395.length co12:Value).ownBlock) (Kd.R_keptB (HO406.out) hkp (fun k_ hk_ hs_=>(hk_.1) hs_)) (fun k_ hk_=>hk_.1.2));have n2_:=Aside0.mk (hb);clear HO397;clear HO406;clear HB;clear HO403;have HO397:=n0_;have HO406:=n1_;have HB:=n2_;clear n0_ n1_ n2_;(try clear hb);(try clear hkp);obtain ⟨Ao18,co18,eo18⟩:=Kd.R_slice HO406.out;subst eo18)|((with_reducible refine gate_callee (f:=47) rfl ?_);refine goesL_ (some 25) rfl rfl Tryd.func47 (by kernel_rfl) rfl #[.slice Ao18 t404.length co18] rfl (by (try simp only [List.map_toArray,List.map_cons,List.map_nil]);first|done|rfl|(simp only [List.length_drop,List.length_take];rfl)) ?_;(with_reducible refine (insolvencyref1_text.calls k (fun k_=>some k_=(.slice Ao18 t404.length co18:Value).ownBlock) (.slice Ao18 t404.length co18) t404 t408 w _ ?side1 ?side2 A10.out).mono ?_);(case side1=>repeat (first|(with_reducible first|exact HB.out|apply below_alloc|apply pw_below_drewN|apply below_drew1)|exact HB.out));(case side2=>exact Kd.R_tight rfl HO406.out);rintro e w19 ⟨rfl,hb,hkp⟩;refine ⟨_,rfl,?_⟩;have n0_:=Aside0.mk (Kd.R_mono (ok':=fun k_=>True) (Kd.R_keptB (HO397.out) hkp (fun k_ hk_ hs_=>(hk_) hs_)) (fun k_ hk_=>trivial));have n1_:=Aside0.mk (hb);clear HO397;clear HB;clear HO406;have HO397:=n0_;have HB:=n1_;clear n0_ n1_;(try clear hb);(try clear hkp)))
  go_ret3
  exact ⟨by first|rfl|(simp [errW_none,errW_some] <;> rfl)|(simp [*,errW_none,errW_some] <;> rfl),by repeat (first|(with_reducible first|exact HB.out|apply below_alloc|apply pw_below_drewN|apply below_drew1)|exact HB.out)⟩
end Go.Proofs.YtjaflmhdclmolaaDoor.F
end
section
namespace Go.Proofs.YtjaflmhdclmolaaDoor.Num
open Go.RowKit Go.Proofs.YtjaflmhdclmolaaDoorW.PrintWords Go.Proofs.YtjaflmhdclmolaaDoorW.PrintLast Go.Proofs.YtjaflmhdclmolaaDoorW.PrintMore Go.Proofs.YtjaflmhdclmolaaDoor.F
set_option linter.unusedVariables false
theorem refunshift_bits {x y:Int} (x0:0≤x) (x1:x<4294967296) (y0:0≤y) (y1:y<4294967296):Go.bits .or .u64 (IntKind.u64.wrap (IntKind.u64.wrap y*4294967296)) (IntKind.u64.wrap x)=x+4294967296*y:=by
 rw [bitor_comm]
 exact unshift_bits x0 x1 y0 y1
theorem refunshift_loop (x:List Int) (hx:Dig x) (hl:x.length≤400002) (s:Nat) (hs:s<32) (n:Nat) (hn:n+1≤x.length) (hz:val (x.drop n)=0) (q:List Int) (hq:q.length≤1000000) (m:Nat):∀ (o:List Int),o.length+m=n→Dig o →
 Ev (fun k=>insolvencyref1_long.l5 k (n:Int) (s:Int) x q (o ++ List.replicate m 0) (o.length:Int)) (tr q,L (val o+4294967296 ^ o.length*(val (x.drop o.length)/2 ^ s))):=by
 obtain ⟨p0,p1,p2,p3⟩:=pow32 hs
 induction m with
 | zero=>
  intro o h1 ho
  refine Ev.step (f:=fun k=>(insolvencyref1_strip.f k q).bind fun t=>(insolvencyref1_strip.f k o).bind fun t2=>some (t,t2)) (fun k=>?_) ?_
  ·simp only [insolvencyref1_long.l5]
   rw [if_neg (by omega),List.replicate_zero,List.append_nil]
  ·refine Ev.bind (strip_ev q (by omega)) ?_
   refine Ev.bind (strip_ev o (by omega)) ?_
   rw [tr_L ho,show o.length=n by omega,hz,Int.zero_ediv,Int.mul_zero,Int.add_zero]
   exact Ev.now _
 | succ m ih=>
  intro o h1 ho
  have d1:=drop_rd (l:=x) (i:=o.length) (by omega)
  have d2:=drop_rd (l:=x) (i:=o.length+1) (by omega)
  have ba:=hx.at (o.length:Int)
  have bb:=hx.at ((o.length+1:Nat):Int)
  have hub:=refunshift_bits ba.1 ba.2 bb.1 bb.2
  have hset:∀ d,(o ++ List.replicate (m+1) 0).set o.length d=(o ++ [d]) ++ List.replicate m 0:=fun d=>by
   rw [List.replicate_succ]
   exact set_snoc o d 0 _
  have hlen:(o ++ List.replicate (m+1) (0:Int)).length=n:=by rw [List.length_append,List.length_replicate];omega
  have e:=unshift_digit (x:=rd x (o.length:Int)) (y:=rd x ((o.length+1:Nat):Int)) (v:=val (x.drop (o.length+1+1))) hs ba.1 ba.2
  have ih:=ih (o ++ [(rd x (o.length:Int)+4294967296*rd x ((o.length+1:Nat):Int))/2 ^ s%4294967296]) (by rw [snoc_len];omega) (snoc_dig ho (Int.emod_nonneg _ (by decide)) (Int.emod_lt_of_pos _ (by decide)))
  rw [vsnoc,snoc_len] at ih
  have e3:val (x.drop o.length)=rd x (o.length:Int)+4294967296*(rd x ((o.length+1:Nat):Int)+4294967296*val (x.drop (o.length+1+1))):=by
   rw [d1,d2,val,val]
  have e4:val (x.drop (o.length+1))=rd x ((o.length+1:Nat):Int)+4294967296*val (x.drop (o.length+1+1)):=by
   rw [d2,val]
  rw [e4,← e,← e3] at ih
  refine Ev.step (fun k=>?_) ih
  simp only [insolvencyref1_long.l5]
  rw [hlen,winc (by omega),if_pos (by omega),if_pos (by omega),if_pos (by omega),if_pos (by omega),if_pos (by omega),if_pos (by omega),if_pos (by omega),hub,Int.toNat_natCast,hset,shr64 hs]
theorem refdivide_loop {v:List Int} {m:Nat} (hv:Dig v) (hvl:v.length=m+2) (hm:m≤200000) (htop:2147483648≤rd v ((m+1:Nat):Int)) (A:Int) (s:Nat) (hs:s<32) (i:Nat):∀ (u qd:List Int),Dig u→Dig qd→i+qd.length+(m+2)=u.length→1≤i+qd.length→u.length≤400001→val (u.drop i)<val v→A=(val qd*4294967296 ^ i)*val v+val u →
 Ev (fun k=>insolvencyref1_long.l1 k ((m+2:Nat):Int) (s:Int) u v (List.replicate i 0 ++ qd) ((i:Int)-1)) (L (A/val v),L ((A%val v)/2 ^ s)):=by
 have hDlt:=val_lt hv
 induction i with
 | zero=>
  intro u qd hu hq hlen h1q hul hlt hA
  rw [List.drop_zero] at hlt
  rw [Int.pow_zero,Int.mul_one] at hA
  obtain ⟨e1,e2⟩:=divmod hA (val_nonneg hu) hlt
  have ht:=val_take_drop u (m+2) (by omega)
  have hz:val (u.drop (m+2))=0:=by
   have h0:=val_nonneg (hu.drop (m+2))
   rcases Int.lt_or_le 0 (val (u.drop (m+2))) with h1|h1
   ·have h2:=Int.mul_le_mul_of_nonneg_left (show 1≤val (u.drop (m+2)) by omega) (Int.le_of_lt (pw (m+2)))
    have h3:=val_nonneg (hu.take (m+2))
    rw [hvl] at hDlt
    omega
   ·omega
  have g:=refunshift_loop u hu (by omega) s hs (m+2) (by omega) hz qd (by omega) (m+2) [] (by simp) Dig.nil
  rw [List.length_nil,List.drop_zero,tr_L hq,show val []+4294967296 ^ 0*(val u/2 ^ s)=val u/2 ^ s by simp [val]] at g
  rw [e1,e2]
  refine Ev.step (fun k=>?_) g
  simp only [insolvencyref1_long.l1]
  rw [if_neg (by omega),if_pos (by omega),if_pos (by omega),List.replicate_zero,List.nil_append,List.nil_append,Int.toNat_natCast]
  rfl
 | succ i ih=>
  intro u qd hu hq hlen h1q hul hlt hA
  have hx:=drop_rd (l:=u) (i:=i) (by omega)
  have hxb:=hu.at (i:Int)
  have hdd:=val_take_drop (u.drop i) (m+3) (by rw [List.length_drop];omega)
  have hwd:Dig ((u.drop i).take (m+3)):=(hu.drop i).take _
  have hwl:((u.drop i).take (m+3)).length=m+3:=by rw [List.length_take,List.length_drop];omega
  have hhid:Dig ((u.drop i).drop (m+3)):=(hu.drop i).drop _
  have hD0:0≤val v:=val_nonneg hv
  have hvi:val (u.drop i)=rd u (i:Int)+4294967296*val (u.drop (i+1)):=by rw [hx,val]
  have hvlt:val (u.drop i)<4294967296*val v:=by omega
  have hhi:val ((u.drop i).drop (m+3))=0:=by
   have h0:=val_nonneg hhid
   rcases Int.lt_or_le 0 (val ((u.drop i).drop (m+3))) with h1|h1
   ·have h2:=Int.mul_le_mul_of_nonneg_left (show 1≤val ((u.drop i).drop (m+3)) by omega) (Int.le_of_lt (pw (m+3)))
    have h3:=val_nonneg hwd
    rw [hvl] at hDlt
    have h4:(4294967296:Int) ^ (m+3)=4294967296 ^ (m+2)*4294967296:=Int.pow_succ ..
    omega
   ·omega
  rw [hhi,Int.mul_zero,Int.add_zero] at hdd
  have htl:(u.take i).length=i:=by rw [List.length_take];omega
  have hql:(u.take i).length<(List.replicate (i+1) (0:Int) ++ qd).length:=by rw [htl,List.length_append,List.length_replicate];omega
  obtain ⟨w',w1,w2,w3,w4⟩:=refstep (lo:=u.take i) (hi:=(u.drop i).drop (m+3)) (q:=List.replicate (i+1) 0 ++ qd) (s:=(s:Int)) hwd hv hwl hvl (by omega) (by omega) hql htop (by omega)
  have hus:u.take i ++ ((u.drop i).take (m+3) ++ (u.drop i).drop (m+3))=u:=by rw [List.take_append_drop,List.take_append_drop]
  have hu2d:Dig (u.take i ++ (w' ++ (u.drop i).drop (m+3))):=(hu.take i).app (w1.app hhid)
  have hu2l:(u.take i ++ (w' ++ (u.drop i).drop (m+3))).length=u.length:=by
   rw [List.length_append,List.length_append,htl,w2,hwl,List.length_drop,List.length_drop];omega
  have hu2v:val (u.take i ++ (w' ++ (u.drop i).drop (m+3)))=val (u.take i)+4294967296 ^ i*(val ((u.drop i).take (m+3))%val v):=by
   rw [val_app,htl,val_app,hhi,Int.mul_zero,Int.add_zero,w3]
  have hu2t:val ((u.take i ++ (w' ++ (u.drop i).drop (m+3))).drop i)=val ((u.drop i).take (m+3))%val v:=by
   rw [List.drop_append,htl,Nat.sub_self,List.drop_zero,List.drop_of_length_le (by omega),List.nil_append,val_app,hhi,Int.mul_zero,Int.add_zero,w3]
  have hkn:=kn_of hwd hv hwl hvl htop (by omega)
  have hq0:=hkn.q0
  have hq1:=hkn.qlt
  have hDp:0<val v:=by have:=hkn.dpos;have:=hkn.hB;omega
  have hr1:=Int.emod_lt_of_pos (val ((u.drop i).take (m+3))) hDp
  have hqr:=divmod_eq (val ((u.drop i).take (m+3))) (val v)
  have hut:=val_take_drop u i (by omega)
  rw [hdd] at hut
  rw [hus,htl,set_rep,w64 (n:=(i:Int)-1) (by omega) (by omega)] at w4
  generalize val ((u.drop i).take (m+3))/val v=q at *
  generalize val ((u.drop i).take (m+3))%val v=r at *
  have ih:=ih (u.take i ++ (w' ++ (u.drop i).drop (m+3))) (q :: qd) hu2d (Dig.cons hq0 hq1 hq) (by rw [hu2l,List.length_cons];omega) (by rw [List.length_cons];omega) (by omega) (by rw [hu2t];exact hr1) (by
   rw [hu2v,hA,hut,hqr,val,Int.pow_succ]
   simp only [Int.mul_add,Int.mul_assoc,Int.mul_comm,Int.mul_left_comm]
   omega)
  have g:=w4 _ ih
  rw [show ((i+1:Nat):Int)-1=(i:Int) by omega]
  exact g
theorem shl32 {v:Int} {s:Nat} (h0:0≤v) (hs:s≤32) (h1:v*2 ^ s<4294967296):shl .u32 v (s:Int)=v*2 ^ s:=by
 have hp:(0:Int)<2 ^ s:=Int.pow_pos (by decide)
 have h3:=Int.mul_nonneg h0 (Int.le_of_lt hp)
 unfold shl
 rw [Int.toNat_natCast,show min s IntKind.u32.bits=s from Nat.min_eq_left hs,u32_in _ h3 h1]
theorem pow2_le {a b:Nat} (h:a≤b):(2:Int) ^ a≤2 ^ b:=by
 have e1:((2 ^ a:Nat):Int)=(2:Int) ^ a:=Int.natCast_pow 2 a
 have e2:((2 ^ b:Nat):Int)=(2:Int) ^ b:=Int.natCast_pow 2 b
 rw [← e1,← e2]
 exact Int.ofNat_le.2 (Nat.pow_le_pow_right (by decide) h)
theorem wn1 {n:Nat} (h:1≤n) (h2:n≤1000000000):wrap64 ((n:Int)-1)=((n-1:Nat):Int):=by rw [w64 (by omega) (by omega)];omega
theorem long_search {x0 x1:List Int} {n s:Nat} {R:List Int×List Int} (hs:s<32) (hn:1≤n) (hnl:n=x1.length) (hnb:n≤1000000) (v0:0<rd x1 ((n-1:Nat):Int)) (h1:2147483648≤rd x1 ((n-1:Nat):Int)*2 ^ s) (h2:(rd x1 ((n-1:Nat):Int)+1)*2 ^ s≤4294967296)
 (hc:Ev (fun k=>insolvencyref1_long.l0 k x0 x1 (n:Int) (s:Int)) R) (f:Nat):∀ t:Nat,t+f=s→Ev (fun k=>insolvencyref1_long.l0 k x0 x1 (n:Int) (t:Int)) R:=by
 induction f with
 | zero=>intro t ht;rw [show t=s by omega];exact hc
 | succ f ih=>
  intro t ht
  have ih:=ih (t+1) (by omega)
  generalize hv:rd x1 ((n-1:Nat):Int)=v at *
  have p1:=pow2_le (show t+1≤s by omega)
  have p2:=Int.mul_le_mul_of_nonneg_left p1 (Int.le_of_lt v0)
  have p3:(0:Int)<2 ^ s:=Int.pow_pos (by decide)
  have p4:(2:Int) ^ (t+1)=2 ^ t*2:=Int.pow_succ ..
  rw [Int.add_mul,Int.one_mul] at h2
  rw [p4,← Int.mul_assoc] at p2
  have pt:(0:Int)<2 ^ t:=Int.pow_pos (by decide)
  have p0:=Int.mul_nonneg (Int.le_of_lt v0) (Int.le_of_lt pt)
  have e1:=shl32 (v:=v) (s:=t) (by omega) (by omega) (by omega)
  refine Ev.step (fun k=>?_) ih
  simp only [insolvencyref1_long.l0]
  rw [wn1 hn (by omega),hv,e1,wu (by omega) (by omega),if_pos (by omega),if_pos (by omega),if_pos (by omega),if_pos (by omega),show (t:Int)+1=((t+1:Nat):Int) by omega]
theorem long_ev {a b:Int} {m:Nat} (ha:0≤a) (hb:0<b) (hab:b≤a) (hm:(L b).length=m+2) (hla:(L a).length≤200000):Ev (fun k=>insolvencyref1_long.f k (L a) (L b)) (L (a/b),L (a%b)):=by
 have hmono:=L_mono (Int.le_of_lt hb) hab
 obtain ⟨v0,v1,hnf⟩:=norm_facts hb hm
 obtain ⟨s,hs,_,hs1,hs2⟩:=lead v0 v1
 obtain ⟨n1,n2⟩:=hnf s hs1 hs2
 obtain ⟨d,d1,d2,d3,d4⟩:=shifted_ev (L b) (L_dig (Int.le_of_lt hb)) (by omega) s hs
 obtain ⟨u,u1,u2,u3,u4⟩:=shifted_ev (L a) (L_dig ha) (by omega) s hs
 rw [L_val (Int.le_of_lt hb)] at d3
 rw [L_val ha] at u3
 have hdz:val (d.drop (m+2))=0:=by
  have h0:=val_nonneg (d1.drop (m+2))
  have ht:=val_take_drop d (m+2) (by omega)
  rcases Int.lt_or_le 0 (val (d.drop (m+2))) with h1|h1
  ·have h2:=Int.mul_le_mul_of_nonneg_left (show 1≤val (d.drop (m+2)) by omega) (Int.le_of_lt (pw (m+2)))
   have h3:=val_nonneg (d1.take (m+2))
   omega
  ·omega
 have hdt:=val_take_drop d (m+2) (by omega)
 rw [hdz,Int.mul_zero,Int.add_zero,d3] at hdt
 have hdl:(d.take (m+2)).length=m+2:=by rw [List.length_take];omega
 have hdd:=d1.take (m+2)
 have hv:=top_bit hdd hdl (by rw [← hdt];exact n2)
 have ha2:=L_lt ha
 have hfs:=first_small (c:=(L a).length-(L b).length+1) (m:=m) (b:=val (d.take (m+2))) u1 hs (by omega) u3 (by rw [show (L a).length-(L b).length+1+m+1=(L a).length by omega];exact ha2) (by rw [← hdt];exact n2)
 have g:=refdivide_loop hdd hdl (by omega) hv (a*2 ^ s) s hs ((L a).length-(L b).length+1) u [] u1 Dig.nil (by rw [List.length_nil];omega) (by rw [List.length_nil];omega) (by omega) hfs (by rw [u3];simp [val])
 obtain ⟨e1,e2⟩:=scaled (a:=a) (s:=s) hb
 rw [← hdt,e1,e2,List.append_nil] at g
 have hlast:Ev (fun k=>insolvencyref1_long.l0 k (L a) (L b) ((m+2:Nat):Int) (s:Int)) (L (a/b),L (a%b)):=by
  have e3:=shl32 (v:=rd (L b) ((m+1:Nat):Int)) (s:=s) (by omega) (by omega) (by
   rw [Int.add_mul,Int.one_mul] at hs2
   have:(0:Int)<2 ^ s:=Int.pow_pos (by decide)
   omega)
  have hc:wrap64 (wrap64 (((L a).length:Int)-((m+2:Nat):Int))+1)=(((L a).length-(L b).length+1:Nat):Int):=by
   rw [w64 (n:=((L a).length:Int)-((m+2:Nat):Int)) (by omega) (by omega),w64 (by omega) (by omega)];omega
  have hc2:wrap64 (((L a).length:Int)-((m+2:Nat):Int))=(((L a).length-(L b).length+1:Nat):Int)-1:=by
   rw [w64 (by omega) (by omega)];omega
  refine Ev.step (f:=fun k=>(insolvencyref1_shifted.f k (L a) (s:Int)).bind fun t319=>(insolvencyref1_shifted.f k (L b) (s:Int)).bind fun t322=>if ((m+2:Nat):Int)≤(t322.length:Int) then insolvencyref1_long.l1 k ((m+2:Nat):Int) (s:Int) t319 (t322.take (m+2)) (List.replicate ((L a).length-(L b).length+1) 0) ((((L a).length-(L b).length+1:Nat):Int)-1) else none) (fun k=>?_) (Ev.bind u4 (Ev.bind d4 (Ev.ite (by omega) g)))
  simp only [insolvencyref1_long.l0]
  rw [wm1 (by omega),e3,hc,hc2,if_pos (by omega),if_pos (by omega),if_pos (by omega),if_neg (by omega)]
  congr 1
  funext t319
  congr 1
  funext t322
  rw [if_pos (by omega),Int.toNat_natCast,Int.toNat_natCast,if_pos (c:=(0:Int)≤_) (by omega),if_pos (c:=_≤70368744177664) (by omega)]
 have g2:=long_search (x0:=L a) (x1:=L b) (n:=m+2) (s:=s) hs (by omega) hm.symm (by omega) v0 hs1 hs2 hlast s 0 (by omega)
 unfold insolvencyref1_long.f
 rw [hm]
 exact g2
theorem refndivide_ev {a b:Int} (ha:0≤a) (hb:0<b) (hla:(L a).length≤200000) (hlb:(L b).length≤200000):Ev (fun k=>insolvencyref1_divide.f k (L a) (L b)) (L (a/b),L (a%b)):=by
 unfold insolvencyref1_divide.f
 refine Ev.bind (order_ev ha (Int.le_of_lt hb) (by omega) (by omega)) ?_
 by_cases hlt:a<b
 ·refine Ev.ite (sgn_lt.2 hlt) ?_
  rw [Int.ediv_eq_zero_of_lt ha hlt,Int.emod_eq_of_lt ha hlt,L_zero]
  exact Ev.now _
 ·refine Ev.ite_not (fun q=>hlt (sgn_lt.1 q)) ?_
  have hbl:(L b).length≠0:=fun e=>L_ne hb (List.eq_nil_of_length_eq_zero e)
  by_cases h1:(L b).length=1
  ·refine Ev.ite (by omega) (Ev.ite (by omega) ?_)
   obtain ⟨d,hd⟩:∃ d,L b=[d]:=by
    cases hL:L b with
    | nil=>rw [hL] at h1;simp at h1
    | cons x r=>
     rw [hL] at h1
     exact ⟨x,by rw [List.eq_nil_of_length_eq_zero (show r.length=0 by simpa using h1)]⟩
   have hdb:d=b:=by have:=L_val (Int.le_of_lt hb);rw [hd] at this;simpa [val] using this
   have hdd:=(L_dig (Int.le_of_lt hb)) d (by rw [hd];exact List.mem_cons_self)
   have hr:rd (L b) 0=b:=by rw [hd,← hdb];rfl
   rw [hr]
   have g:=short_ev (L a) (L_dig ha) (by omega) b hb (by omega)
   rw [L_val ha] at g
   refine Ev.bind g ?_
   have r0:=Int.emod_nonneg a (show b≠0 by omega)
   have r1:=Int.emod_lt_of_pos a hb
   refine Ev.bind (strip_ev _ (by simp)) ?_
   rw [one_L r0 (by omega)]
   exact Ev.now _
  ·obtain ⟨m,hm⟩:∃ m,(L b).length=m+2:=⟨(L b).length-2,by omega⟩
   refine Ev.ite_not (by omega) ?_
   exact Ev.bind (long_ev ha hb (by omega) hm hla) (Ev.now _)
theorem refgcd_loop (n:Nat):∀ a b:Nat,b≤n→(L (a:Int)).length≤200000→(L (b:Int)).length≤200000→Ev (fun k=>insolvencyref1_common.l0 k (L (a:Int)) (L (b:Int))) (L ((Nat.gcd a b:Nat):Int)):=by
 induction n with
 | zero=>
  intro a b hn ha hb
  rw [show b=0 by omega,Nat.gcd_zero_right]
  refine Ev.step (f:=fun _=>some (L (a:Int))) (fun k=>?_) (Ev.now _)
  simp only [insolvencyref1_common.l0]
  rw [show ((0:Nat):Int)=0 from rfl,L_zero,if_neg (by simp)]
 | succ n ih=>
  intro a b hn ha hb
  by_cases h:b=0
  ·exact ih a b (by omega) ha hb
  ·have hb0:(0:Int)<(b:Int):=by omega
   have hm:=Nat.mod_lt a (show b>0 by omega)
   have hc:((a%b:Nat):Int)=(a:Int)%(b:Int):=Int.natCast_emod a b
   obtain ⟨q1,q2,q3,q4,q5⟩:=div_len (a:=(a:Int)) (by omega) hb0
   have ih:=ih b (a%b) (by omega) hb (by rw [hc];omega)
   rw [show Nat.gcd b (a%b)=Nat.gcd a b by rw [Nat.gcd_comm a b,Nat.gcd_rec b a,Nat.gcd_comm]] at ih
   have hne:(L (b:Int)).length≠0:=fun e=>L_ne hb0 (List.eq_nil_of_length_eq_zero e)
   rw [hc] at ih
   refine Ev.step (f:=fun k=>(insolvencyref1_divide.f k (L (a:Int)) (L (b:Int))).bind fun bt=>insolvencyref1_common.l0 k (L (b:Int)) bt.2) (fun k=>?_) (Ev.bind (refndivide_ev (by omega) hb0 ha hb) ih)
   simp only [insolvencyref1_common.l0]
   rw [if_pos (by omega)]
theorem refGCD_ev (a b:ByteArray) (ha:a.size≤800000) (hb:b.size≤800000):Ev (fun k=>insolvencyref1_GCD.f k a b) (gcdOf a b):=by
 have h1:=B_nonneg a
 have h2:=B_nonneg b
 have l1:=B_small (s:=a) (m:=200000) (by omega)
 have l2:=B_small (s:=b) (m:=200000) (by omega)
 refine Ev.bind (reflimbs_ev a (by omega)) ?_
 refine Ev.bind (reflimbs_ev b (by omega)) ?_
 have g:=refgcd_loop (B b).toNat (B a).toNat (B b).toNat (Nat.le_refl _)
 rw [Int.toNat_of_nonneg h1,Int.toNat_of_nonneg h2] at g
 refine Ev.bind (g l1 l2) ?_
 have hg:((Nat.gcd (B a).toNat (B b).toNat:Nat):Int)≤B a∨B a=0:=by
  by_cases h:B a=0
  ·exact .inr h
  ·have:=Nat.le_of_dvd (by omega) (Nat.gcd_dvd_left (B a).toNat (B b).toNat)
   exact .inl (by omega)
 have hl:(L ((Nat.gcd (B a).toNat (B b).toNat:Nat):Int)).length≤200000:=by
  rcases hg with hg|hg
  ·exact Nat.le_trans (L_mono (by omega) hg) l1
  ·rw [hg,show (0:Int).toNat=0 from rfl,Nat.gcd_zero_left,Int.toNat_of_nonneg h2];exact l2
 exact Ev.bind (reftext_L (by omega) (by omega)) (Ev.now _)
end Go.Proofs.YtjaflmhdclmolaaDoor.Num
end
section
namespace Go.Proofs.YtjaflmhdclmolaaDoor.Pure
open Go.RowKit Go.Proofs.YtjaflmhdclmolaaDoor.F Go.Proofs.YtjaflmhdclmolaaDoorW.PrintWords Go.Proofs.YtjaflmhdclmolaaDoorW.PrintLast
open Go.Proofs.YtjaflmhdclmolaaDoor.Num
theorem NaturalGCD:insolvencylaw1_NaturalGCD.Pure:=by
 intro a0 a1 h0 h1
 refine some_of (with_few (by simp) fun hf=>?_)
 have s0:=hf a0 (by simp)
 have s1:=hf a1 (by simp)
 refine Ev.bind awake_ev ?_
 refine Ev.ite rfl ?_
 refine Ev.bind (GCD_ev a0 a1 (by omega) (by omega)) ?_
 refine Ev.bind (refGCD_ev a0 a1 (by omega) (by omega)) ?_
 rw [BEq.rfl]
 exact Ev.now _
end Go.Proofs.YtjaflmhdclmolaaDoor.Pure
end
