/- Part 10 of the proof of NaturalLong: the functions' walks and what they compute, in the order of the calls; each holds for all arguments that its row allows. -/
import Derived.Test.YtjaflmhdclmolaaDoorMNaturalLong6
import Derived.Test.YtjaflmhdclmolaaDoorMNaturalLong8
import Derived.Test.YtjaflmhdclmolaaDoorMNaturalLong9
import Derived.Test.YtjaflmhdclmolaaDoorMNaturalLong7
import Derived.Lib.ItoaNum
import Derived.KernelRfl
section
namespace Go.Proofs.YtjaflmhdclmolaaDoor.F
open Go.RowKit Go.Proofs.YtjaflmhdclmolaaDoorW.PrintWords Go.Proofs.YtjaflmhdclmolaaDoorW.PrintLast Go.Proofs.YtjaflmhdclmolaaDoorW.PrintMore
attribute [local go_sem] max2_int min2_int max_two min_two max_three min_three max_four min_four   
set_option linter.unusedVariables false
set_option linter.unusedSimpArgs false
def insolvencyref1_short.l0:Nat→List Int→Int→List Int→Int→Int→Option (List Int×Int)
 | 0,_,_,_,_,_=>none
 | k+1,x0,x1,x6,x7,x8=>if x8≥0 then (if 0≤x8 then (if x8<(x0.length:Int) then (if (IntKind.u64.wrap (x1))=0 then (none) else (if x8<(x6.length:Int) then (insolvencyref1_short.l0 k x0 x1 (x6.set (x8:Int).toNat ((IntKind.u64.wrap (Int.tdiv (Go.bits .or .u64 (IntKind.u64.wrap (x7*4294967296)) (IntKind.u64.wrap (rd x0 x8))) (IntKind.u64.wrap (x1))))%4294967296)) (Int.tmod (Go.bits .or .u64 (IntKind.u64.wrap (x7*4294967296)) (IntKind.u64.wrap (rd x0 x8))) (IntKind.u64.wrap (x1))) (wrap64 (x8-1))) else (none))) else (none)) else (none)) else ((insolvencyref1_strip.f k x6).bind fun t308=>(some (t308,(x7)%4294967296)))
def insolvencyref1_short.f (k:Nat) (l0:List Int) (a1:Int):Option (List Int×Int):=if 0≤(l0.length:Int) then (if ((l0.length:Int):Int).toNat≤70368744177664 then (insolvencyref1_short.l0 k l0 a1 (List.replicate ((l0.length:Int):Int).toNat 0) 0 (wrap64 ((l0.length:Int)-1))) else (none)) else (none)
theorem insolvencyref1_short.mono_l:∀ k,(∀ y0 y1 y2 y3 y4,LeO (insolvencyref1_short.l0 k y0 y1 y2 y3 y4) (insolvencyref1_short.l0 (k+1) y0 y1 y2 y3 y4))
 | 0=>fun _ _ _ _ _ r h=>by simp [insolvencyref1_short.l0] at h
 | k+1=>by
  have ih0:=insolvencyref1_short.mono_l k
  ·intro y0 y1 y2 y3 y4
   unfold insolvencyref1_short.l0
   repeat' first
   | (with_reducible exact ih0 _ _ _ _ _)
   | (with_reducible exact insolvencyref1_strip.mono _ _)
   | (with_reducible exact LeO.refl _)
   | (with_reducible exact LeO.none _)
   | (with_reducible refine LeO.ite ?_ ?_)
   | (with_reducible refine LeO.bind ?_ (fun _=>?_))
   | exact ih0 _ _ _ _ _
   | exact insolvencyref1_strip.mono _ _
   | exact LeO.none _
   | refine LeO.ite ?_ ?_
   | refine LeO.bind ?_ (fun _=>?_)
theorem insolvencyref1_short.mono:∀ a0 a1 k,LeO (insolvencyref1_short.f k a0 a1) (insolvencyref1_short.f (k+1) a0 a1):=by
 intro a0 a1 k
 have ih0:=insolvencyref1_short.mono_l k
 unfold insolvencyref1_short.f
 repeat' first
  | (with_reducible exact ih0 _ _ _ _ _)
  | (with_reducible exact insolvencyref1_strip.mono _ _)
  | (with_reducible exact LeO.refl _)
  | (with_reducible exact LeO.none _)
  | (with_reducible refine LeO.ite ?_ ?_)
  | (with_reducible refine LeO.bind ?_ (fun _=>?_))
  | exact ih0 _ _ _ _ _
  | exact insolvencyref1_strip.mono _ _
  | exact LeO.none _
  | refine LeO.ite ?_ ?_
  | refine LeO.bind ?_ (fun _=>?_)
set_option maxHeartbeats 8000000 in
set_option maxRecDepth 100000 in
theorem insolvencyref1_short.calls (k:Nat) (A0:Option Addr) (c0:Nat) (l0:List Int) (a1:Int) (r1:List Int) (r2:Int) (w:World) (hr0:Kd.C (Kd.int .u32) w A0 l0.length l0) (hc0:l0.length≤c0) (h:insolvencyref1_short.f k l0 a1=some (r1,r2)) :
 Calls Tryd.prog 74 #[.slice A0 l0.length c0,.int .u32 a1] w fun e w'=>∃ v0_:Value,e = .returned (.tuple #[v0_,.int .u32 r2])∧Kd.R (Kd.int .u32) 60 w' w.heap.size (fun _=>True) v0_ r1∧Below w.heap.size w w':=by
 have HR0:=Aside0.mk hr0
 have HC0:=Aside0.mk hc0
 clear hr0 hc0
 have HB:=Aside0.mk (Below.refl w.heap.size w)
 have H:(if 0≤(l0.length:Int) then (if ((l0.length:Int):Int).toNat≤70368744177664 then (insolvencyref1_short.l0 k l0 a1 (List.replicate ((l0.length:Int):Int).toNat 0) 0 (wrap64 ((l0.length:Int)-1))) else (none)) else (none))=some (r1,r2):=h
 clear h
 by_cases c3:0≤(l0.length:Int)
 ·rw [if_pos c3] at H
  have c3b0:=eq_true c3
  have c3b1:decide (0≤(l0.length:Int))=true:=decide_eq_true c3
  clear c3
  by_cases c4:((l0.length:Int):Int).toNat≤70368744177664
  ·rw [if_pos c4] at H
   have c4b0:=eq_true c4
   have c4b1:decide (((l0.length:Int):Int).toNat≤70368744177664)=true:=decide_eq_true c4
   clear c4
   obtain ⟨y303,hy303⟩:∃ y_:List Int,y_=(List.replicate ((l0.length:Int):Int).toNat 0):=⟨_,rfl⟩
   replace H:(insolvencyref1_short.l0 k l0 a1 y303 0 (wrap64 ((l0.length:Int)-1)))=some (r1,r2):=by first|(rw [hy303];with_reducible exact H)|(have H2_:=(Option.bind_some _ _).symm.trans H;rw [hy303];with_reducible exact H2_)|(have H2_:=(Option.bind_some _ _).symm.trans H;with_reducible exact H2_)|with_reducible exact H|(rw [hy303];exact H)|exact H
   have Ny303:=Aside0.mk hy303
   clear hy303
   have H':=Aside0.mk H
   clear H
   go_enter Tryd.func74,Tryd.ntmps74
   go_wp2_with (first|((with_reducible refine gate_dst (N:=11) rfl ?_);refine Kd.R_make (Kd.int .u32) _ 60 rfl (N:=11) rfl 49 _ _ rfl (l0.length:Int) rfl rfl Tryd.underlying49 (.int .u32 0) 4 info60 rfl (by decide) (by omega) 0 (ok:=fun _=>True) (okp:=fun _=>True) rfl (fun _ hk=>hk) trivial (of_decide_eq_true (by first|(with_reducible assumption)|assumption)) (Nat.le_trans (Nat.mul_le_mul_right _ (of_decide_eq_true (by first|(with_reducible assumption)|assumption):(l0.length:Int).toNat≤70368744177664)) (by omega)) (Below.refl _ _) (Nat.le_refl _) ?_;intro v304 w5 ho6 hb hg_ hnew_;clear hg_ hnew_;(first|rw [← Ny303.out] at ho6|(simp only [Int.reduceToNat] at ho6;rw [← Ny303.out] at ho6));have n0_:=Aside0.mk (Kd.R_lower ho6 (below_size (by repeat (first|(with_reducible first|exact HB.out|apply below_alloc|apply pw_below_drewN|apply below_drew1)|exact HB.out))));have n1_:=Aside0.mk (below_step (by repeat (first|(with_reducible first|exact HB.out|apply below_alloc|apply pw_below_drewN|apply below_drew1)|exact HB.out)) hb);clear HB;have HO305:=n0_;have HB:=n1_;clear n0_ n1_;clear hb ho6))
   go_loopg [7,8] k (fun kq v7 v8 w'=>∃ (x6_1:List Int) (x7_1:Int) (x8_1:Int),v7 = .int .u64 x7_1∧v8 = .int .i64 x8_1∧Aside0 (insolvencyref1_short.l0 kq l0 a1 x6_1 x7_1 x8_1=some (r1,r2))∧Aside0 (kq≤k)∧Aside0 (Kd.R (Kd.int .u32) 60 w' w.heap.size (fun _=>True) v304 x6_1)∧Aside0 (Below w.heap.size w w'))
   case atStart=>exact ⟨(y303),(0),(wrap64 ((l0.length:Int)-1)),(by first|rfl|(simp;done)|(simp [*];done)),(by first|rfl|(simp;done)|(simp [*];done)),H',⟨Nat.le_refl _⟩,⟨by (with_reducible repeat (first|apply Kd.R_alloc|apply Kd.R_drewN|apply Kd.R_drew));exact HO305.out⟩,⟨by repeat (first|(with_reducible first|exact HB.out|apply below_alloc|apply pw_below_drewN|apply below_drew1)|exact HB.out)⟩⟩
   case round=>
    clear H'
    try clear p2
    try clear c3
    try clear c3b0
    try clear c3b1
    try clear c4
    try clear c4b0
    try clear c4b1
    try clear p6
    obtain ⟨x6_1,x7_1,x8_1,rfl,rfl,HA,HK1,HO_6,HB⟩:=hrel
    cases gk with
    | zero=>exact absurd HA.out (by simp [insolvencyref1_short.l0])
    | succ k1=>
     have H:=HA.out
     clear HA
     simp only [insolvencyref1_short.l0] at H
     by_cases c7:x8_1≥0
     ·rw [if_pos c7] at H
      have c7b0:decide (0≤x8_1)=true:=decide_eq_true c7
      clear c7
      by_cases c8:0≤x8_1
      ·rw [if_pos c8] at H
       have c8b0:decide (0≤x8_1)=true:=decide_eq_true c8
       clear c8
       by_cases c9:x8_1<(l0.length:Int)
       ·rw [if_pos c9] at H
        have c9b0:decide (x8_1<(l0.length:Int))=true:=decide_eq_true c9
        clear c9
        by_cases c10:(IntKind.u64.wrap (a1))=0
        ·rw [if_pos c10] at H
         exact absurd H (by simp)
        ·rw [if_neg c10] at H
         have c10b0:((IntKind.u64.wrap (a1)) == 0)=false:=beq_eq_false_iff_ne.mpr c10
         have c10b1:((IntKind.u64.wrap (a1)) != 0)=true:=bne_iff_ne.mpr c10
         by_cases c11:x8_1<(x6_1.length:Int)
         ·rw [if_pos c11] at H
          have c11b0:decide (x8_1<(x6_1.length:Int))=true:=decide_eq_true c11
          clear c11
          obtain ⟨y307,hy307⟩:∃ y_:List Int,y_=(x6_1.set (x8_1:Int).toNat ((IntKind.u64.wrap (Int.tdiv (Go.bits .or .u64 (IntKind.u64.wrap (x7_1*4294967296)) (IntKind.u64.wrap (rd l0 x8_1))) (IntKind.u64.wrap (a1))))%4294967296)):=⟨_,rfl⟩
          replace H:(insolvencyref1_short.l0 k1 l0 a1 y307 (Int.tmod (Go.bits .or .u64 (IntKind.u64.wrap (x7_1*4294967296)) (IntKind.u64.wrap (rd l0 x8_1))) (IntKind.u64.wrap (a1))) (wrap64 (x8_1-1)))=some (r1,r2):=by first|(rw [hy307];with_reducible exact H)|(have H2_:=(Option.bind_some _ _).symm.trans H;rw [hy307];with_reducible exact H2_)|(have H2_:=(Option.bind_some _ _).symm.trans H;with_reducible exact H2_)|with_reducible exact H|(rw [hy307];exact H)|exact H
          have Ny307:=Aside0.mk hy307
          clear hy307
          have H':=Aside0.mk H
          clear H
          have p306:0≤(x8_1:Int):=of_decide_eq_true (by first|(with_reducible assumption)|assumption)
          have q306:x8_1<(l0.length:Int):=of_decide_eq_true (by first|(with_reducible assumption)|assumption)
          obtain ⟨ad306,e306,hx306_0⟩:=Kd.at_int HR0.out x8_1 p306 q306
          cases e306
          replace hx306_0:=(HB.out.cell (World.block_lt_of_cell? w _ hx306_0)).trans hx306_0
          replace p306:=eq_true p306
          replace q306:=eq_true q306
          have p12:0≤(x8_1:Int):=of_decide_eq_true (by first|(with_reducible assumption)|assumption)
          have q12:(x8_1:Int)<((x6_1.length:Int):Int):=of_decide_eq_true (by first|(with_reducible assumption)|assumption)
          obtain ⟨go12,co12,eo12,gb12,gl12,cl12,HG12⟩:=Kd.R_form HO_6.out (by omega)
          (first|cases eo12|(injection eo12 with ea_ en_ ec_;(first|subst ea_|(injection ea_ with ea_;subst ea_));subst ec_;clear en_))
          have GB12:=Aside0.mk gb12
          have GG12:=Aside0.mk HG12
          clear gb12 gl12 HG12
          obtain ⟨hx12_0,hf12_0⟩:=Kd.R_celln 0 HO_6.out (x8_1:Int) p12 q12
          replace p12:=eq_true p12
          replace q12:=eq_true q12
          have HP13:=Kd.R_putg HO_6.out (x8_1:Int) ((IntKind.u64.wrap (Int.tdiv (Go.bits .or .u64 (IntKind.u64.wrap (x7_1*4294967296)) (IntKind.u64.wrap (rd l0 x8_1))) (IntKind.u64.wrap (a1))))%4294967296)
          go_wp2_with (first|((with_reducible refine gate_store (t:=60) (p:=34) rfl ?_);refine store_event (t:=60) (p:=34) (v:=?vo_w14) (w1:=(wr.setCell ⟨go12,(x8_1:Int).toNat,none⟩ (.int .u32 ((IntKind.u64.wrap (Int.tdiv (Go.bits .or .u64 (IntKind.u64.wrap (x7_1*4294967296)) (IntKind.u64.wrap (rd l0 x8_1))) (IntKind.u64.wrap (a1))))%4294967296)))) ?hg ?ho ?hn ?hr ?_;(case ho=>rfl);(case hg=>rfl);(case hn=>rfl);(case hr=>first|(go_simp;done)|(go_simp;rfl));intro w14 hw;have hg:wr.grownBy w14 (some go12):=(by rw [hw];exact HP13.2);have hp_:Kd.R (Kd.int .u32) 60 w14 w.heap.size (fun _=>True) (.slice (some ⟨go12,0,none⟩) x6_1.length co12) y307:=(by rw [hw,Ny307.out];exact HP13.1);clear HP13;have n0_:=Aside0.mk (hp_);have n1_:=Aside0.mk ((by rw [hw];exact below_set (HB.out) GB12.out:Below w.heap.size w w14));clear HO_6;clear HB;have HO_6:=n0_;have HB:=n1_;clear n0_ n1_;clear hg hw hp_))
          go_roundg k1
          case measure=>have:=HK1.out;omega
          case rel=>exact ⟨(y307),(Int.tmod (Go.bits .or .u64 (IntKind.u64.wrap (x7_1*4294967296)) (IntKind.u64.wrap (rd l0 x8_1))) (IntKind.u64.wrap (a1))),(wrap64 (x8_1-1)),(by first|rfl|(simp;done)|(simp [*];done)),(by first|rfl|(simp;done)|(simp [*];done)),H',⟨by have:=HK1.out;omega⟩,⟨by (with_reducible repeat (first|apply Kd.R_alloc|apply Kd.R_drewN|apply Kd.R_drew));exact HO_6.out⟩,⟨by repeat (first|(with_reducible first|exact HB.out|apply below_alloc|apply pw_below_drewN|apply below_drew1)|exact HB.out)⟩⟩
         ·rw [if_neg c11] at H
          exact absurd H (by simp)
       ·rw [if_neg c9] at H
        exact absurd H (by simp)
      ·rw [if_neg c8] at H
       exact absurd H (by simp)
     ·rw [if_neg c7] at H
      have c7b0:decide (0≤x8_1)=false:=decide_eq_false c7
      clear c7
      replace H:=Option.bind_eq_some_iff.mp H
      obtain ⟨t308,A150,H⟩:=H
      replace H:(some (t308,(x7_1)%4294967296))=some (r1,r2):=H
      have A15:=Aside0.mk A150
      clear A150
      simp only [Option.some.injEq,Prod.mk.injEq] at H
      obtain ⟨rfl,rfl⟩:=H
      obtain ⟨Ao16,co16,eo16⟩:=Kd.R_slice HO_6.out
      subst eo16
      go_wp2_with (first|((with_reducible refine gate_callee (f:=75) rfl ?_);refine goesL_ (some 40) rfl rfl Tryd.func75 (by kernel_rfl) rfl #[.slice Ao16 x6_1.length co16] rfl (by (try simp only [List.map_toArray,List.map_cons,List.map_nil]);first|done|rfl|(simp only [List.length_drop,List.length_take];rfl)) ?_;(with_reducible refine (insolvencyref1_strip.calls k1 (fun k_=>some k_=(.slice Ao16 x6_1.length co16:Value).ownBlock) (.slice Ao16 x6_1.length co16) x6_1 t308 w _ ?side1 ?side2 A15.out).mono ?_);(case side1=>repeat (first|(with_reducible first|exact HB.out|apply below_alloc|apply pw_below_drewN|apply below_drew1)|exact HB.out));(case side2=>exact Kd.R_tight rfl HO_6.out);rintro e w17 ⟨v309,rfl,ho0,hb,hkp⟩;refine ⟨_,rfl,?_⟩;have n0_:=Aside0.mk (Kd.R_mono (ok':=fun k_=>True) ho0 (fun k_ hk_=>trivial));have n1_:=Aside0.mk (hb);clear HB;clear HO_6;have HO310:=n0_;have HB:=n1_;clear n0_ n1_;(try clear hb);(try clear hkp);(try clear ho0)))
      go_ret2
      exact ⟨_,by first|rfl|(simp [errW_none,errW_some] <;> rfl)|(simp [*,errW_none,errW_some] <;> rfl),by (with_reducible repeat (first|apply Kd.R_alloc|apply Kd.R_drewN|apply Kd.R_drew));exact HO310.out,by repeat (first|(with_reducible first|exact HB.out|apply below_alloc|apply pw_below_drewN|apply below_drew1)|exact HB.out)⟩
  ·rw [if_neg c4] at H
   exact absurd H (by simp)
 ·rw [if_neg c3] at H
  exact absurd H (by simp)
end Go.Proofs.YtjaflmhdclmolaaDoor.F
end
section
namespace Go.Proofs.YtjaflmhdclmolaaDoor.F
open Go.RowKit Go.Proofs.YtjaflmhdclmolaaDoorW.PrintWords Go.Proofs.YtjaflmhdclmolaaDoorW.PrintLast Go.Proofs.YtjaflmhdclmolaaDoorW.PrintMore
attribute [local go_sem] max2_int min2_int max_two min_two max_three min_three max_four min_four   
set_option linter.unusedVariables false
set_option linter.unusedSimpArgs false
def insolvencyref1_shifted.l0:Nat→List Int→Int→List Int→Int→Option (List Int)
 | 0,_,_,_,_=>none
 | k+1,x0,x1,x5,x6=>if x6<(x0.length:Int) then (if 0≤x6 then (if 0≤x1 then (if x6<(x5.length:Int) then (if 0≤(wrap64 (x6+1)) then (if (wrap64 (x6+1))<(x5.length:Int) then (insolvencyref1_shifted.l0 k x0 x1 ((x5.set (x6:Int).toNat (Go.bits .or .u32 (rd x5 x6) ((shl .u64 (IntKind.u64.wrap (rd x0 x6)) x1)%4294967296))).set ((wrap64 (x6+1)):Int).toNat (((shl .u64 (IntKind.u64.wrap (rd x0 x6)) x1)/4294967296)%4294967296)) (wrap64 (x6+1))) else (none)) else (none)) else (none)) else (none)) else (none)) else (some x5)
def insolvencyref1_shifted.f (k:Nat) (l0:List Int) (a1:Int):Option (List Int):=if 0≤(wrap64 ((l0.length:Int)+1)) then (if (wrap64 ((l0.length:Int)+1):Int).toNat≤70368744177664 then (insolvencyref1_shifted.l0 k l0 a1 (List.replicate (wrap64 ((l0.length:Int)+1):Int).toNat 0) 0) else (none)) else (none)
theorem insolvencyref1_shifted.mono_l:∀ k,(∀ y0 y1 y2 y3,LeO (insolvencyref1_shifted.l0 k y0 y1 y2 y3) (insolvencyref1_shifted.l0 (k+1) y0 y1 y2 y3))
 | 0=>fun _ _ _ _ r h=>by simp [insolvencyref1_shifted.l0] at h
 | k+1=>by
  have ih0:=insolvencyref1_shifted.mono_l k
  ·intro y0 y1 y2 y3
   unfold insolvencyref1_shifted.l0
   repeat' first
   | (with_reducible exact ih0 _ _ _ _)
   | (with_reducible exact LeO.refl _)
   | (with_reducible exact LeO.none _)
   | (with_reducible refine LeO.ite ?_ ?_)
   | (with_reducible refine LeO.bind ?_ (fun _=>?_))
   | exact ih0 _ _ _ _
   | exact LeO.none _
   | refine LeO.ite ?_ ?_
   | refine LeO.bind ?_ (fun _=>?_)
theorem insolvencyref1_shifted.mono:∀ a0 a1 k,LeO (insolvencyref1_shifted.f k a0 a1) (insolvencyref1_shifted.f (k+1) a0 a1):=by
 intro a0 a1 k
 have ih0:=insolvencyref1_shifted.mono_l k
 unfold insolvencyref1_shifted.f
 repeat' first
  | (with_reducible exact ih0 _ _ _ _)
  | (with_reducible exact LeO.refl _)
  | (with_reducible exact LeO.none _)
  | (with_reducible refine LeO.ite ?_ ?_)
  | (with_reducible refine LeO.bind ?_ (fun _=>?_))
  | exact ih0 _ _ _ _
  | exact LeO.none _
  | refine LeO.ite ?_ ?_
  | refine LeO.bind ?_ (fun _=>?_)
set_option maxHeartbeats 8000000 in
set_option maxRecDepth 100000 in
theorem insolvencyref1_shifted.calls (k:Nat) (A0:Option Addr) (c0:Nat) (l0:List Int) (a1:Int) (r:List Int) (w:World) (hr0:Kd.C (Kd.int .u32) w A0 l0.length l0) (hc0:l0.length≤c0) (h:insolvencyref1_shifted.f k l0 a1=some r) :
 Calls Tryd.prog 86 #[.slice A0 l0.length c0,.int .u64 a1] w fun e w'=>∃ v0_:Value,e = .returned (v0_)∧Kd.R (Kd.int .u32) 60 w' w.heap.size (fun _=>True) v0_ r∧Below w.heap.size w w':=by
 have HR0:=Aside0.mk hr0
 have HC0:=Aside0.mk hc0
 clear hr0 hc0
 have HB:=Aside0.mk (Below.refl w.heap.size w)
 have H:(if 0≤(wrap64 ((l0.length:Int)+1)) then (if (wrap64 ((l0.length:Int)+1):Int).toNat≤70368744177664 then (insolvencyref1_shifted.l0 k l0 a1 (List.replicate (wrap64 ((l0.length:Int)+1):Int).toNat 0) 0) else (none)) else (none))=some r:=h
 clear h
 obtain ⟨ji3,hji3⟩:∃ j_:Int,(wrap64 ((l0.length:Int)+1))=j_:=⟨_,rfl⟩
 replace H:(if 0≤(ji3) then (if (ji3:Int).toNat≤70368744177664 then (insolvencyref1_shifted.l0 k l0 a1 (List.replicate (ji3:Int).toNat 0) 0) else (none)) else (none))=some r:=by first|(rw [hji3] at H;exact H)|(simp only [hji3] at H ⊢;exact H)
 have hji3w:(IntKind.i64.wrap ((l0.length:Int)+1))=ji3:=(i64_w _).trans hji3
 by_cases c4:0≤(ji3)
 ·rw [if_pos c4] at H
  have c4b0:=eq_true c4
  have c4b1:decide (0≤(ji3))=true:=decide_eq_true c4
  clear c4
  by_cases c5:(ji3:Int).toNat≤70368744177664
  ·rw [if_pos c5] at H
   have c5b0:=eq_true c5
   have c5b1:decide ((ji3:Int).toNat≤70368744177664)=true:=decide_eq_true c5
   clear c5
   obtain ⟨y311,hy311⟩:∃ y_:List Int,y_=(List.replicate (ji3:Int).toNat 0):=⟨_,rfl⟩
   replace H:(insolvencyref1_shifted.l0 k l0 a1 y311 0)=some r:=by first|(rw [hy311];with_reducible exact H)|(have H2_:=(Option.bind_some _ _).symm.trans H;rw [hy311];with_reducible exact H2_)|(have H2_:=(Option.bind_some _ _).symm.trans H;with_reducible exact H2_)|with_reducible exact H|(rw [hy311];exact H)|exact H
   have Ny311:=Aside0.mk hy311
   clear hy311
   have H':=Aside0.mk H
   clear H
   go_enter Tryd.func86,Tryd.ntmps86
   go_wp2_with (first|((with_reducible refine gate_dst (N:=11) rfl ?_);refine Kd.R_make (Kd.int .u32) _ 60 rfl (N:=11) rfl 49 _ _ rfl ji3 rfl rfl Tryd.underlying49 (.int .u32 0) 4 info60 rfl (by decide) (by omega) 0 (ok:=fun _=>True) (okp:=fun _=>True) rfl (fun _ hk=>hk) trivial (of_decide_eq_true (by first|(with_reducible assumption)|assumption)) (Nat.le_trans (Nat.mul_le_mul_right _ (of_decide_eq_true (by first|(with_reducible assumption)|assumption):ji3.toNat≤70368744177664)) (by omega)) (Below.refl _ _) (Nat.le_refl _) ?_;intro v312 w6 ho7 hb hg_ hnew_;clear hg_ hnew_;(first|rw [← Ny311.out] at ho7|(simp only [Int.reduceToNat] at ho7;rw [← Ny311.out] at ho7));have n0_:=Aside0.mk (Kd.R_lower ho7 (below_size (by repeat (first|(with_reducible first|exact HB.out|apply below_alloc|apply pw_below_drewN|apply below_drew1)|exact HB.out))));have n1_:=Aside0.mk (below_step (by repeat (first|(with_reducible first|exact HB.out|apply below_alloc|apply pw_below_drewN|apply below_drew1)|exact HB.out)) hb);clear HB;have HO313:=n0_;have HB:=n1_;clear n0_ n1_;clear hb ho7))
   go_loopg [6] k (fun kq v6 w'=>∃ (x5_1:List Int) (x6_1:Int),v6 = .int .i64 x6_1∧Aside0 (insolvencyref1_shifted.l0 kq l0 a1 x5_1 x6_1=some r)∧Aside0 (kq≤k)∧Aside0 (Kd.R (Kd.int .u32) 60 w' w.heap.size (fun _=>True) v312 x5_1)∧Aside0 (Below w.heap.size w w'))
   case atStart=>exact ⟨(y311),(0),(by first|rfl|(simp;done)|(simp [*];done)),H',⟨Nat.le_refl _⟩,⟨by (with_reducible repeat (first|apply Kd.R_alloc|apply Kd.R_drewN|apply Kd.R_drew));exact HO313.out⟩,⟨by repeat (first|(with_reducible first|exact HB.out|apply below_alloc|apply pw_below_drewN|apply below_drew1)|exact HB.out)⟩⟩
   case round=>
    clear H'
    try clear p2
    try clear c4
    try clear c4b0
    try clear c4b1
    try clear c5
    try clear c5b0
    try clear c5b1
    try clear p6
    obtain ⟨x5_1,x6_1,rfl,HA,HK1,HO_5,HB⟩:=hrel
    cases gk with
    | zero=>exact absurd HA.out (by simp [insolvencyref1_shifted.l0])
    | succ k1=>
     have H:=HA.out
     clear HA
     simp only [insolvencyref1_shifted.l0] at H
     by_cases c8:x6_1<(l0.length:Int)
     ·rw [if_pos c8] at H
      have c8b0:decide (x6_1<(l0.length:Int))=true:=decide_eq_true c8
      clear c8
      by_cases c9:0≤x6_1
      ·rw [if_pos c9] at H
       have c9b0:decide (0≤x6_1)=true:=decide_eq_true c9
       clear c9
       by_cases c10:0≤a1
       ·rw [if_pos c10] at H
        have c10b0:=eq_true c10
        have c10b1:decide (0≤a1)=true:=decide_eq_true c10
        clear c10
        obtain ⟨ji11,hji11⟩:∃ j_:Int,(shl .u64 (IntKind.u64.wrap (rd l0 x6_1)) a1)=j_:=⟨_,rfl⟩
        replace H:(if x6_1<(x5_1.length:Int) then (if 0≤(wrap64 (x6_1+1)) then (if (wrap64 (x6_1+1))<(x5_1.length:Int) then (insolvencyref1_shifted.l0 k1 l0 a1 ((x5_1.set (x6_1:Int).toNat (Go.bits .or .u32 (rd x5_1 x6_1) ((ji11)%4294967296))).set ((wrap64 (x6_1+1)):Int).toNat (((ji11)/4294967296)%4294967296)) (wrap64 (x6_1+1))) else (none)) else (none)) else (none))=some r:=by first|(rw [hji11] at H;exact H)|(simp only [hji11] at H ⊢;exact H)
        have hji11_:(IntKind.u64.wrap ((IntKind.u64.wrap (rd l0 x6_1))*2 ^ min a1.toNat 64))=ji11:=hji11
        have hji11z:a1≤64→(IntKind.u64.wrap ((IntKind.u64.wrap (rd l0 x6_1))*2 ^ a1.toNat))=ji11:=shl_small hji11
        by_cases c12:x6_1<(x5_1.length:Int)
        ·rw [if_pos c12] at H
         have c12b0:decide (x6_1<(x5_1.length:Int))=true:=decide_eq_true c12
         clear c12
         obtain ⟨y316,hy316⟩:∃ y_:List Int,y_=(x5_1.set (x6_1:Int).toNat (Go.bits .or .u32 (rd x5_1 x6_1) ((ji11)%4294967296))):=⟨_,rfl⟩
         replace H:(if 0≤(wrap64 (x6_1+1)) then (if (wrap64 (x6_1+1))<(x5_1.length:Int) then (insolvencyref1_shifted.l0 k1 l0 a1 (y316.set ((wrap64 (x6_1+1)):Int).toNat (((ji11)/4294967296)%4294967296)) (wrap64 (x6_1+1))) else (none)) else (none))=some r:=by first|(rw [hy316];with_reducible exact H)|(have H2_:=(Option.bind_some _ _).symm.trans H;rw [hy316];with_reducible exact H2_)|(have H2_:=(Option.bind_some _ _).symm.trans H;with_reducible exact H2_)|with_reducible exact H|(rw [hy316];exact H)|exact H
         have Ny316:=Aside0.mk hy316
         clear hy316
         obtain ⟨ji14,hji14⟩:∃ j_:Int,(wrap64 (x6_1+1))=j_:=⟨_,rfl⟩
         replace H:(if 0≤(ji14) then (if (ji14)<(x5_1.length:Int) then (insolvencyref1_shifted.l0 k1 l0 a1 (y316.set ((ji14):Int).toNat (((ji11)/4294967296)%4294967296)) ji14) else (none)) else (none))=some r:=by first|(rw [hji14] at H;exact H)|(simp only [hji14] at H ⊢;exact H)
         have hji14w:(IntKind.i64.wrap (x6_1+1))=ji14:=(i64_w _).trans hji14
         by_cases c15:0≤(ji14)
         ·rw [if_pos c15] at H
          have c15b0:decide (0≤(ji14))=true:=decide_eq_true c15
          clear c15
          by_cases c16:(ji14)<(x5_1.length:Int)
          ·rw [if_pos c16] at H
           have c16b0:decide ((ji14)<(x5_1.length:Int))=true:=decide_eq_true c16
           clear c16
           obtain ⟨y317,hy317⟩:∃ y_:List Int,y_=(y316.set ((ji14):Int).toNat (((ji11)/4294967296)%4294967296)):=⟨_,rfl⟩
           replace H:(insolvencyref1_shifted.l0 k1 l0 a1 y317 ji14)=some r:=by first|(rw [hy317];with_reducible exact H)|(have H2_:=(Option.bind_some _ _).symm.trans H;rw [hy317];with_reducible exact H2_)|(have H2_:=(Option.bind_some _ _).symm.trans H;with_reducible exact H2_)|with_reducible exact H|(rw [hy317];exact H)|exact H
           have Ny317:=Aside0.mk hy317
           clear hy317
           have H':=Aside0.mk H
           clear H
           have p314:0≤(x6_1:Int):=of_decide_eq_true (by first|(with_reducible assumption)|assumption)
           have q314:x6_1<(l0.length:Int):=of_decide_eq_true (by first|(with_reducible assumption)|assumption)
           obtain ⟨ad314,e314,hx314_0⟩:=Kd.at_int HR0.out x6_1 p314 q314
           cases e314
           replace hx314_0:=(HB.out.cell (World.block_lt_of_cell? w _ hx314_0)).trans hx314_0
           replace p314:=eq_true p314
           replace q314:=eq_true q314
           obtain ⟨Ao18,co18,eo18⟩:=Kd.R_slice HO_5.out
           subst eo18
           have p315:0≤(x6_1:Int):=of_decide_eq_true (by first|(with_reducible assumption)|assumption)
           have q315:x6_1<(x5_1.length:Int):=of_decide_eq_true (by first|(with_reducible assumption)|assumption)
           obtain ⟨ad315,e315,hx315_0⟩:=Kd.at_int (Kd.R_reads' HO_5.out).2.2 x6_1 p315 q315
           cases e315
           replace p315:=eq_true p315
           replace q315:=eq_true q315
           have p13:0≤(x6_1:Int):=of_decide_eq_true (by first|(with_reducible assumption)|assumption)
           have q13:(x6_1:Int)<((x5_1.length:Int):Int):=of_decide_eq_true (by first|(with_reducible assumption)|assumption)
           obtain ⟨go13,co13,eo13,gb13,gl13,cl13,HG13⟩:=Kd.R_form HO_5.out (by omega)
           (first|cases eo13|(injection eo13 with ea_ en_ ec_;(first|subst ea_|(injection ea_ with ea_;subst ea_));subst ec_;clear en_))
           have GB13:=Aside0.mk gb13
           have GG13:=Aside0.mk HG13
           clear gb13 gl13 HG13
           (first|simp only [add_plain] at hx315_0|skip)
           obtain ⟨hx13_0,hf13_0⟩:=Kd.R_celln 0 HO_5.out (x6_1:Int) p13 q13
           replace p13:=eq_true p13
           replace q13:=eq_true q13
           have HP19:=Kd.R_putg HO_5.out (x6_1:Int) (Go.bits .or .u32 (rd x5_1 x6_1) ((ji11)%4294967296))
           go_wp2_with (first|((with_reducible refine gate_store (t:=60) (p:=34) rfl ?_);refine store_event (t:=60) (p:=34) (v:=?vo_w20) (w1:=(wr.setCell ⟨go13,(x6_1:Int).toNat,none⟩ (.int .u32 (Go.bits .or .u32 (rd x5_1 x6_1) ((ji11)%4294967296))))) ?hg ?ho ?hn ?hr ?_;(case ho=>rfl);(case hg=>rfl);(case hn=>rfl);(case hr=>first|(go_simp;done)|(go_simp;rfl));intro w20 hw;have hg:wr.grownBy w20 (some go13):=(by rw [hw];exact HP19.2);have hp_:Kd.R (Kd.int .u32) 60 w20 w.heap.size (fun _=>True) (.slice (some ⟨go13,0,none⟩) x5_1.length co18) y316:=(by rw [hw,Ny316.out];exact HP19.1);clear HP19;have n0_:=Aside0.mk (hp_);have n1_:=Aside0.mk ((by rw [hw];exact below_set (HB.out) GB13.out:Below w.heap.size w w20));clear HO_5;clear HB;have HO_5:=n0_;have HB:=n1_;clear n0_ n1_;clear hg hw hp_;have p17:0≤((ji14):Int):=of_decide_eq_true (by first|(with_reducible assumption)|assumption);have q17:((ji14):Int)<((x5_1.length:Int):Int):=of_decide_eq_true (by first|(with_reducible assumption)|assumption);obtain ⟨hx17_0,hf17_0⟩:=Kd.R_celln 0 HO_5.out ((ji14):Int) p17 q17;replace p17:=eq_true p17;replace q17:=eq_true q17;obtain ⟨hy21_,hz21_⟩:=Kd.R_celln 0 HO_5.out ((ji14):Int) (of_decide_eq_true (by first|(with_reducible assumption)|assumption)) (of_decide_eq_true (by first|(with_reducible assumption)|assumption));have HP21:=Kd.R_putg HO_5.out ((ji14):Int) (((ji11)/4294967296)%4294967296))|((with_reducible refine gate_store (t:=60) (p:=41) rfl ?_);refine store_event (t:=60) (p:=41) (v:=?vo_w22) (w1:=(w20.setCell ⟨go13,((ji14):Int).toNat,none⟩ (.int .u32 (((ji11)/4294967296)%4294967296)))) ?hg ?ho ?hn ?hr ?_;(case ho=>rfl);(case hg=>rfl);(case hn=>rfl);(case hr=>first|(go_simp;done)|(go_simp;rfl));intro w22 hw;have hg:w20.grownBy w22 (some go13):=(by rw [hw];exact HP21.2);have hp_:Kd.R (Kd.int .u32) 60 w22 w.heap.size (fun _=>True) (.slice (some ⟨go13,0,none⟩) x5_1.length co18) y317:=(by rw [hw,Ny317.out];exact HP21.1);clear HP21;have n0_:=Aside0.mk (hp_);have n1_:=Aside0.mk ((by rw [hw];exact below_set (HB.out) GB13.out:Below w.heap.size w w22));clear HO_5;clear HB;have HO_5:=n0_;have HB:=n1_;clear n0_ n1_;clear hg hw hp_))
           go_roundg k1
           case measure=>have:=HK1.out;omega
           case rel=>exact ⟨(y317),(ji14),(by first|rfl|(simp;done)|(simp only [← hji14] <;> (first|rfl|simp))|(simp [*];done)),H',⟨by have:=HK1.out;omega⟩,⟨by (with_reducible repeat (first|apply Kd.R_alloc|apply Kd.R_drewN|apply Kd.R_drew));exact HO_5.out⟩,⟨by repeat (first|(with_reducible first|exact HB.out|apply below_alloc|apply pw_below_drewN|apply below_drew1)|exact HB.out)⟩⟩
          ·rw [if_neg c16] at H
           exact absurd H (by simp)
         ·rw [if_neg c15] at H
          exact absurd H (by simp)
        ·rw [if_neg c12] at H
         exact absurd H (by simp)
       ·rw [if_neg c10] at H
        exact absurd H (by simp)
      ·rw [if_neg c9] at H
       exact absurd H (by simp)
     ·rw [if_neg c8] at H
      have c8b0:decide (x6_1<(l0.length:Int))=false:=decide_eq_false c8
      clear c8
      obtain rfl:=Option.some.inj H
      go_wp2
      go_ret
      exact ⟨_,by first|rfl|(simp [errW_none,errW_some] <;> rfl)|(simp only [← hji3];first|rfl|(simp [errW_none,errW_some] <;> rfl))|(simp [*,errW_none,errW_some] <;> rfl),by (with_reducible repeat (first|apply Kd.R_alloc|apply Kd.R_drewN|apply Kd.R_drew));exact HO_5.out,by repeat (first|(with_reducible first|exact HB.out|apply below_alloc|apply pw_below_drewN|apply below_drew1)|exact HB.out)⟩
  ·rw [if_neg c5] at H
   exact absurd H (by simp)
 ·rw [if_neg c4] at H
  exact absurd H (by simp)
end Go.Proofs.YtjaflmhdclmolaaDoor.F
end
section
namespace Go.Proofs.YtjaflmhdclmolaaDoor.Num
open Go.RowKit Go.Proofs.YtjaflmhdclmolaaDoorW.PrintWords Go.Proofs.YtjaflmhdclmolaaDoorW.PrintLast Go.Proofs.YtjaflmhdclmolaaDoorW.PrintMore Go.Proofs.YtjaflmhdclmolaaDoor.F
set_option linter.unusedVariables false
theorem small_round {r a d:Int} (h0:0<d) (h1:d<4294967296) (r0:0≤r) (r1:r<d) (a0:0≤a) (a1:a<4294967296) :
 0≤(r*4294967296+a)/d∧(r*4294967296+a)/d<4294967296∧0≤(r*4294967296+a)%d∧(r*4294967296+a)%d<d:=by
 refine ⟨Int.ediv_nonneg (by omega) (by omega),?_,Int.emod_nonneg _ (by omega),Int.emod_lt_of_pos _ h0⟩
 exact Int.ediv_lt_of_lt_mul h0 (by omega)
theorem small_bits {r a:Int} (r0:0≤r) (r1:r<4294967296) (a0:0≤a) (a1:a<4294967296):Go.bits .or .u64 (IntKind.u64.wrap (r*4294967296)) (IntKind.u64.wrap a)=r*4294967296+a:=by
 rw [wu (by omega) (by omega),wu (by omega) (by omega),orHi r0 r1 a0 a1]
theorem small_val {t a d r q v:Int} (e1:t=r*4294967296+a) (e2:v=q*d+r):a+4294967296*v=(t/d+4294967296*q)*d+t%d:=by
 have h:=divmod_eq t d
 rw [e2,Int.add_mul,Int.mul_assoc,Int.mul_add]
 omega
theorem set_rep (i:Nat) (d:Int) (q:List Int):(List.replicate (i+1) 0 ++ q).set i d=List.replicate i 0 ++ d :: q:=by
 rw [List.replicate_succ',List.append_assoc,List.singleton_append]
 have:=set_at (List.replicate i 0) 0 d q (i:Int) (by rw [List.length_replicate])
 rwa [Int.toNat_natCast] at this
theorem divideSmall_loop (x:List Int) (hx:Dig x) (hl:x.length≤400000) (d:Int) (h0:0<d) (h1:d<4294967296) (i:Nat):∀ (q:List Int) (r:Int),i≤x.length→Dig q→i+q.length=x.length→0≤r→r<d→val (x.drop i)=val q*d+r →
 Ev (fun k=>natural_divideSmall.l0 k x d (List.replicate i 0 ++ q) r ((i:Int)-1)) (L (val x/d),val x%d):=by
 induction i with
 | zero=>
  intro q r hi hq hql r0 r1 hv
  obtain ⟨e1,e2⟩:=divmod hv r0 r1
  rw [List.drop_zero] at e1 e2
  refine Ev.step (f:=fun k=>(natural_limbs_trim.f k q).bind fun t=>some (t,r%4294967296)) (fun k=>?_) ?_
  ·simp only [natural_divideSmall.l0]
   rw [if_neg (by omega),List.replicate_zero,List.nil_append]
  ·refine Ev.bind (trim_ev q (by omega)) ?_
   rw [tr_L hq,e1,e2,Int.emod_eq_of_lt r0 (by omega)]
   exact Ev.now _
 | succ i ih=>
  intro q r hi hq hql r0 r1 hv
  obtain ⟨a,ea,ra,la,da⟩:=drop_split (l:=x) (i:=i) (by omega)
  have ba:0≤a∧a<4294967296:=by rw [← ra];exact hx.at _
  obtain ⟨t0,t1,t2,t3⟩:=small_round h0 h1 r0 r1 ba.1 ba.2
  have hb:=small_bits r0 (by omega) ba.1 ba.2
  have ht0:0≤r*4294967296+a:=by omega
  have ih:=ih ((r*4294967296+a)/d :: q) ((r*4294967296+a)%d) (by omega) (Dig.cons t0 t1 hq) (by rw [List.length_cons];omega) t2 t3 (by
   rw [da,val,val]
   exact small_val rfl hv)
  refine Ev.step (fun k=>?_) ih
  simp only [natural_divideSmall.l0]
  have hlen:(List.replicate (i+1) (0:Int) ++ q).length=x.length:=by rw [List.length_append,List.length_replicate];omega
  rw [show ((i+1:Nat):Int)-1=(i:Int) by omega,ra,hb,wu (n:=d) (by omega) (by omega),hlen,Int.tdiv_eq_ediv_of_nonneg ht0,Int.tmod_eq_emod_of_nonneg ht0,if_pos (by omega),if_pos (by omega),if_pos (by omega),if_neg (by omega),if_pos (by omega),Int.toNat_natCast,set_rep,w64 (by omega) (by omega),wu t0 (by omega),Int.emod_eq_of_lt t0 t1]
theorem divideSmall_ev (x:List Int) (hx:Dig x) (hl:x.length≤400000) (d:Int) (h0:0<d) (h1:d<4294967296):Ev (fun k=>natural_divideSmall.f k x d) (L (val x/d),val x%d):=by
 have g:=divideSmall_loop x hx hl d h0 h1 x.length [] 0 (Nat.le_refl _) Dig.nil rfl (Int.le_refl _) h0 (by rw [List.drop_length];simp [val])
 rw [List.append_nil] at g
 refine Ev.congr (fun k=>?_) g
 simp only [natural_divideSmall.f]
 rw [Int.toNat_natCast,if_pos (by omega),if_pos (by omega),w64 (by omega) (by omega)]
end Go.Proofs.YtjaflmhdclmolaaDoor.Num
end
section
namespace Go.Proofs.YtjaflmhdclmolaaDoor.Num
open Go.RowKit Go.Proofs.YtjaflmhdclmolaaDoorW.PrintWords Go.Proofs.YtjaflmhdclmolaaDoorW.PrintLast Go.Proofs.YtjaflmhdclmolaaDoorW.PrintMore Go.Proofs.YtjaflmhdclmolaaDoor.F
set_option linter.unusedVariables false
section
variable {D U B dl ul v1 v2 u0 u1 u2 q:Int}
end
end Go.Proofs.YtjaflmhdclmolaaDoor.Num
end
section
namespace Go.Proofs.YtjaflmhdclmolaaDoor.F
open Go.RowKit Go.Proofs.YtjaflmhdclmolaaDoorW.PrintWords Go.Proofs.YtjaflmhdclmolaaDoorW.PrintLast Go.Proofs.YtjaflmhdclmolaaDoorW.PrintMore
attribute [local go_sem] max2_int min2_int max_two min_two max_three min_three max_four min_four   
set_option linter.unusedVariables false
set_option linter.unusedSimpArgs false
def natural_GCD.l0:Nat→List Int→List Int→Option (ByteArray)
 | 0,_,_=>none
 | k+1,x5,x6=>if (x6.length:Int)>0 then ((natural_divide.f k x5 x6).bind fun bt511=>(natural_GCD.l0 k x6 bt511.2)) else ((natural_limbs_text.f k x5).bind fun t517=>(some t517))
def natural_GCD.f (k:Nat) (a0:ByteArray) (a1:ByteArray):Option (ByteArray):=(natural_parse.f k a0).bind fun t505=>((natural_parse.f k a1).bind fun t508=>(natural_GCD.l0 k t505 t508))
theorem natural_GCD.mono_l:∀ k,(∀ y0 y1,LeO (natural_GCD.l0 k y0 y1) (natural_GCD.l0 (k+1) y0 y1))
 | 0=>fun _ _ r h=>by simp [natural_GCD.l0] at h
 | k+1=>by
  have ih0:=natural_GCD.mono_l k
  ·intro y0 y1
   unfold natural_GCD.l0
   repeat' first
   | (with_reducible exact ih0 _ _)
   | (with_reducible exact natural_divide.mono _ _ _)
   | (with_reducible exact natural_limbs_text.mono _ _)
   | (with_reducible exact natural_parse.mono _ _)
   | (with_reducible exact LeO.refl _)
   | (with_reducible exact LeO.none _)
   | (with_reducible refine LeO.ite ?_ ?_)
   | (with_reducible refine LeO.bind ?_ (fun _=>?_))
   | exact ih0 _ _
   | exact natural_divide.mono _ _ _
   | exact natural_limbs_text.mono _ _
   | exact natural_parse.mono _ _
   | exact LeO.none _
   | refine LeO.ite ?_ ?_
   | refine LeO.bind ?_ (fun _=>?_)
theorem natural_GCD.mono:∀ a0 a1 k,LeO (natural_GCD.f k a0 a1) (natural_GCD.f (k+1) a0 a1):=by
 intro a0 a1 k
 have ih0:=natural_GCD.mono_l k
 unfold natural_GCD.f
 repeat' first
  | (with_reducible exact ih0 _ _)
  | (with_reducible exact natural_divide.mono _ _ _)
  | (with_reducible exact natural_limbs_text.mono _ _)
  | (with_reducible exact natural_parse.mono _ _)
  | (with_reducible exact LeO.refl _)
  | (with_reducible exact LeO.none _)
  | (with_reducible refine LeO.ite ?_ ?_)
  | (with_reducible refine LeO.bind ?_ (fun _=>?_))
  | exact ih0 _ _
  | exact natural_divide.mono _ _ _
  | exact natural_limbs_text.mono _ _
  | exact natural_parse.mono _ _
  | exact LeO.none _
  | refine LeO.ite ?_ ?_
  | refine LeO.bind ?_ (fun _=>?_)
set_option maxHeartbeats 8000000 in
set_option maxRecDepth 100000 in
theorem natural_GCD.calls (k:Nat) (a0:ByteArray) (a1:ByteArray) (r:ByteArray) (w:World) (h:natural_GCD.f k a0 a1=some r) :
 Calls Tryd.prog 30 #[.string a0,.string a1] w fun e w'=>e = .returned (.string r)∧Below w.heap.size w w':=by
 have HB:=Aside0.mk (Below.refl w.heap.size w)
 have H:((natural_parse.f k a0).bind fun t505=>((natural_parse.f k a1).bind fun t508=>(natural_GCD.l0 k t505 t508)))=some r:=h
 clear h
 replace H:=Option.bind_eq_some_iff.mp H
 obtain ⟨t505,A30,H⟩:=H
 replace H:((natural_parse.f k a1).bind fun t508=>(natural_GCD.l0 k t505 t508))=some r:=H
 have A3:=Aside0.mk A30
 clear A30
 replace H:=Option.bind_eq_some_iff.mp H
 obtain ⟨t508,A40,H⟩:=H
 replace H:(natural_GCD.l0 k t505 t508)=some r:=H
 have A4:=Aside0.mk A40
 clear A40
 have H':=Aside0.mk H
 clear H
 go_enter Tryd.func30,Tryd.ntmps30
 go_wp2_with (first|((with_reducible refine gate_callee (f:=42) rfl ?_);refine goesL_ (some 10) rfl rfl Tryd.func42 (by kernel_rfl) rfl #[.string a0] rfl (by (try simp only [List.map_toArray,List.map_cons,List.map_nil]);first|done|rfl|(simp only [List.length_drop,List.length_take];rfl)) ?_;(with_reducible refine (natural_parse.calls k a0 t505 _ A3.out).mono ?_);rintro e w5 ⟨v506,rfl,ho0,hb⟩;refine ⟨_,rfl,?_⟩;have n0_:=Aside0.mk (Kd.R_lower ho0 (below_size (by repeat (first|(with_reducible first|exact HB.out|apply below_alloc|apply pw_below_drewN|apply below_drew1)|exact HB.out))));have n1_:=Aside0.mk (below_step (by repeat (first|(with_reducible first|exact HB.out|apply below_alloc|apply pw_below_drewN|apply below_drew1)|exact HB.out)) hb);clear HB;have HO507:=n0_;have HB:=n1_;clear n0_ n1_;(try clear hb);(try clear hb2);(try clear hk);(try clear hi);(try clear ho0))|((with_reducible refine gate_callee (f:=42) rfl ?_);refine goesL_ (some 12) rfl rfl Tryd.func42 (by kernel_rfl) rfl #[.string a1] rfl (by (try simp only [List.map_toArray,List.map_cons,List.map_nil]);first|done|rfl|(simp only [List.length_drop,List.length_take];rfl)) ?_;(with_reducible refine (natural_parse.calls k a1 t508 _ A4.out).mono ?_);rintro e w6 ⟨v509,rfl,ho0,hb⟩;refine ⟨_,rfl,?_⟩;have n0_:=Aside0.mk (Kd.R_elder' (by (with_reducible repeat (first|apply Kd.R_alloc|apply Kd.R_drewN|apply Kd.R_drew));exact HO507.out) (Kd.R_base ho0) hb);have n1_:=Aside0.mk (Kd.R_lower (Kd.R_new' ho0 (Kd.R_lt (by (with_reducible repeat (first|apply Kd.R_alloc|apply Kd.R_drewN|apply Kd.R_drew));exact HO507.out))) (below_size (by repeat (first|(with_reducible first|exact HB.out|apply below_alloc|apply pw_below_drewN|apply below_drew1)|exact HB.out))));have n2_:=Aside0.mk (below_step (by repeat (first|(with_reducible first|exact HB.out|apply below_alloc|apply pw_below_drewN|apply below_drew1)|exact HB.out)) hb);clear HO507;clear HB;have HO507:=n0_;have HO510:=n1_;have HB:=n2_;clear n0_ n1_ n2_;(try clear hb);(try clear hb2);(try clear hk);(try clear hi);(try clear ho0)))
 go_loopg [5,6] k (fun kq v5 v6 w'=>∃ (x5_1:List Int) (x6_1:List Int),Aside0 (natural_GCD.l0 kq x5_1 x6_1=some r)∧Aside0 (kq≤k)∧Aside0 (Kd.R (Kd.int .u32) 60 w' w.heap.size (fun k_=>some k_≠(v6:Value).ownBlock) v5 x5_1)∧Aside0 (Kd.R (Kd.int .u32) 60 w' w.heap.size (fun k_=>some k_≠(v5:Value).ownBlock) v6 x6_1)∧Aside0 (Below w.heap.size w w'))
 case atStart=>exact ⟨(t505),(t508),H',⟨Nat.le_refl _⟩,⟨by (with_reducible repeat (first|apply Kd.R_alloc|apply Kd.R_drewN|apply Kd.R_drew));exact Kd.R_mono HO507.out (fun _ hk=>hk.2)⟩,⟨by (with_reducible repeat (first|apply Kd.R_alloc|apply Kd.R_drewN|apply Kd.R_drew));exact Kd.R_mono HO510.out (fun _ hk=>hk.2)⟩,⟨by repeat (first|(with_reducible first|exact HB.out|apply below_alloc|apply pw_below_drewN|apply below_drew1)|exact HB.out)⟩⟩
 case round=>
  clear H'
  try clear p2
  try clear c3
  try clear c4
  obtain ⟨x5_1,x6_1,HA,HK1,HO_5,HO_6,HB⟩:=hrel
  cases gk with
  | zero=>exact absurd HA.out (by simp [natural_GCD.l0])
  | succ k1=>
   have H:=HA.out
   clear HA
   simp only [natural_GCD.l0] at H
   by_cases c7:(x6_1.length:Int)>0
   ·rw [if_pos c7] at H
    have c7b0:decide (0<(x6_1.length:Int))=true:=decide_eq_true c7
    have c7b1:decide (0<x6_1.length)=true:=decide_eq_true (by omega)
    clear c7
    replace H:=Option.bind_eq_some_iff.mp H
    obtain ⟨⟨t511,t514⟩,A80,H⟩:=H
    replace H:(natural_GCD.l0 k1 x6_1 t514)=some r:=H
    have A8:=Aside0.mk A80
    clear A80
    have H':=Aside0.mk H
    clear H
    obtain ⟨Ao9,co9,eo9⟩:=Kd.R_slice HO_6.out
    subst eo9
    obtain ⟨Ao10,co10,eo10⟩:=Kd.R_slice HO_5.out
    subst eo10
    go_wp2_with (first|((with_reducible refine gate_callee (f:=43) rfl ?_);refine goesL_ (some 19) rfl rfl Tryd.func43 (by kernel_rfl) rfl #[.slice Ao10 x5_1.length co10,.slice Ao9 x6_1.length co9] rfl (by (try simp only [List.map_toArray,List.map_cons,List.map_nil]);first|done|rfl|(simp only [List.length_drop,List.length_take];rfl)) ?_;(with_reducible refine (natural_divide.calls k1 (fun k_=>some k_=(.slice Ao10 x5_1.length co10:Value).ownBlock) (.slice Ao10 x5_1.length co10) x5_1 _ _ x6_1 t511 t514 w _ ?side1 ?side2 ?side3 ?side4 A8.out).mono ?_);(case side1=>repeat (first|(with_reducible first|exact HB.out|apply below_alloc|apply pw_below_drewN|apply below_drew1)|exact HB.out));(case side2=>exact Kd.R_tight rfl HO_5.out);(case side3=>exact Kd.C_kept_own (HO_6.out) (fun k_ hk_ hs_=>(hk_) hs_));(case side4=>exact (Kd.R_reads' HO_6.out).2.1);rintro e w11 ⟨v512,v515,rfl,ho0,ho1,hb,hkp⟩;refine ⟨_,rfl,?_⟩;have n0_:=Aside0.mk (Kd.R_mono (ok':=fun k_=>some k_≠(v512:Value).ownBlock∧some k_≠(v515:Value).ownBlock) (Kd.R_keptB (HO_6.out) hkp (fun k_ hk_ hs_=>(hk_) hs_)) (fun k_ hk_=>⟨fun e_=>Or.elim (ho0.1 k_ e_.symm).1 (fun hs_=>hk_.2.1 hs_) (fun hn_=>Nat.not_le.2 hk_.2.2 hn_),fun e_=>Or.elim (ho1.1 k_ e_.symm).1 (fun hs_=>hk_.2.1 hs_) (fun hn_=>Nat.not_le.2 hk_.2.2 hn_)⟩));have n1_:=Aside0.mk (Kd.R_mono (ok':=fun k_=>some k_≠(v515:Value).ownBlock∧some k_≠(.slice Ao9 x6_1.length co9:Value).ownBlock) ho0 (fun k_ hk_=>⟨hk_.2,Or.elim hk_.1 (fun hs_=>fun e_=>(((HO_6.out).1 k_ e_.symm)) hs_) (fun hn_=>(Kd.fresh' (Kd.R_lt (by (with_reducible repeat (first|apply Kd.R_alloc|apply Kd.R_drewN|apply Kd.R_drew));exact HO_6.out)) k_ hn_))⟩));have n2_:=Aside0.mk (Kd.R_mono (ok':=fun k_=>some k_≠(v512:Value).ownBlock∧some k_≠(.slice Ao9 x6_1.length co9:Value).ownBlock) ho1 (fun k_ hk_=>⟨hk_.2,Or.elim hk_.1 (fun hs_=>fun e_=>(((HO_6.out).1 k_ e_.symm)) hs_) (fun hn_=>(Kd.fresh' (Kd.R_lt (by (with_reducible repeat (first|apply Kd.R_alloc|apply Kd.R_drewN|apply Kd.R_drew));exact HO_6.out)) k_ hn_))⟩));have n3_:=Aside0.mk (hb);clear HO_6;clear HB;clear HO_5;have HO_6:=n0_;have HO513:=n1_;have HO516:=n2_;have HB:=n3_;clear n0_ n1_ n2_ n3_;(try clear hb);(try clear hkp);(try clear ho0);(try clear ho1)))
    go_roundg k1
    case measure=>have:=HK1.out;omega
    case rel=>exact ⟨(x6_1),(t514),H',⟨by have:=HK1.out;omega⟩,⟨by (with_reducible repeat (first|apply Kd.R_alloc|apply Kd.R_drewN|apply Kd.R_drew));exact Kd.R_mono HO_6.out (fun _ hk=>hk.2)⟩,⟨by (with_reducible repeat (first|apply Kd.R_alloc|apply Kd.R_drewN|apply Kd.R_drew));exact Kd.R_mono HO516.out (fun _ hk=>hk.2)⟩,⟨by repeat (first|(with_reducible first|exact HB.out|apply below_alloc|apply pw_below_drewN|apply below_drew1)|exact HB.out)⟩⟩
   ·rw [if_neg c7] at H
    have c7b0:decide (0<(x6_1.length:Int))=false:=decide_eq_false c7
    have c7b1:decide (0<x6_1.length)=false:=decide_eq_false (by omega)
    clear c7
    replace H:=Option.bind_eq_some_iff.mp H
    obtain ⟨t517,A120,H⟩:=H
    replace H:(some t517)=some r:=H
    have A12:=Aside0.mk A120
    clear A120
    obtain rfl:=Option.some.inj H
    obtain ⟨Ao13,co13,eo13⟩:=Kd.R_slice HO_6.out
    subst eo13
    obtain ⟨Ao14,co14,eo14⟩:=Kd.R_slice HO_5.out
    subst eo14
    go_wp2_with (first|((with_reducible refine gate_callee (f:=44) rfl ?_);refine goesL_ (some 25) rfl rfl Tryd.func44 (by kernel_rfl) rfl #[.slice Ao14 x5_1.length co14] rfl (by (try simp only [List.map_toArray,List.map_cons,List.map_nil]);first|done|rfl|(simp only [List.length_drop,List.length_take];rfl)) ?_;(with_reducible refine (natural_limbs_text.calls k1 _ _ x5_1 t517 _ ?side1 ?side2 A12.out).mono ?_);(case side1=>repeat (first|exact (Kd.R_reads' HO_5.out).2.2|(with_reducible refine Kd.C_alloc ?_ _)|(with_reducible refine Kd.C_drewN ?_ _)|(with_reducible refine Kd.C_drew ?_)));(case side2=>exact (Kd.R_reads' HO_5.out).2.1);rintro e w15 ⟨rfl,hb⟩;refine ⟨_,rfl,?_⟩;have n0_:=Aside0.mk (Kd.R_below (by (with_reducible repeat (first|apply Kd.R_alloc|apply Kd.R_drewN|apply Kd.R_drew));exact HO_5.out) hb);have n1_:=Aside0.mk (Kd.R_below (by (with_reducible repeat (first|apply Kd.R_alloc|apply Kd.R_drewN|apply Kd.R_drew));exact HO_6.out) hb);have n2_:=Aside0.mk (below_step (by repeat (first|(with_reducible first|exact HB.out|apply below_alloc|apply pw_below_drewN|apply below_drew1)|exact HB.out)) hb);clear HO_5;clear HO_6;clear HB;have HO_5:=n0_;have HO_6:=n1_;have HB:=n2_;clear n0_ n1_ n2_;(try clear hb);(try clear hb2);(try clear hk);(try clear hi)))
    go_ret
    exact ⟨by first|rfl|(simp [errW_none,errW_some] <;> rfl)|(simp [*,errW_none,errW_some] <;> rfl),by repeat (first|(with_reducible first|exact HB.out|apply below_alloc|apply pw_below_drewN|apply below_drew1)|exact HB.out)⟩
end Go.Proofs.YtjaflmhdclmolaaDoor.F
end
section
namespace Go.Proofs.YtjaflmhdclmolaaDoor.Num
open Go.RowKit Go.Proofs.YtjaflmhdclmolaaDoorW.PrintWords Go.Proofs.YtjaflmhdclmolaaDoorW.PrintLast Go.Proofs.YtjaflmhdclmolaaDoorW.PrintMore Go.Proofs.YtjaflmhdclmolaaDoor.F
set_option linter.unusedVariables false
end Go.Proofs.YtjaflmhdclmolaaDoor.Num
end
section
namespace Go.Proofs.YtjaflmhdclmolaaDoor.Num
open Go.RowKit Go.Proofs.YtjaflmhdclmolaaDoorW.PrintWords Go.Proofs.YtjaflmhdclmolaaDoorW.PrintLast Go.Proofs.YtjaflmhdclmolaaDoorW.PrintMore Go.Proofs.YtjaflmhdclmolaaDoor.F
set_option linter.unusedVariables false
end Go.Proofs.YtjaflmhdclmolaaDoor.Num
end
section
namespace Go.Proofs.YtjaflmhdclmolaaDoor.F
open Go.RowKit Go.Proofs.YtjaflmhdclmolaaDoorW.PrintWords Go.Proofs.YtjaflmhdclmolaaDoorW.PrintLast Go.Proofs.YtjaflmhdclmolaaDoorW.PrintMore
attribute [local go_sem] max2_int min2_int max_two min_two max_three min_three max_four min_four   
set_option linter.unusedVariables false
set_option linter.unusedSimpArgs false
def insolvencyref1_Digits.l0:Nat→ByteArray→Int→Option (Bool)
 | 0,_,_=>none
 | k+1,x0,x3=>if x3<(x0.size:Int) then (if 0≤x3 then (if (bt x0 x3)<48 then (some false) else (if (bt x0 x3)>57 then (some false) else (insolvencyref1_Digits.l0 k x0 (wrap64 (x3+1))))) else (none)) else (if x0.toList=([]:List UInt8) then (some false) else (if 0<(x0.size:Int) then (if (bt x0 0)=48 then (some ((x0.size:Int) == 1)) else (some true)) else (none)))
def insolvencyref1_Digits.f (k:Nat) (a0:ByteArray):Option (Bool):=insolvencyref1_Digits.l0 k a0 0
theorem insolvencyref1_Digits.mono_l:∀ k,(∀ y0 y1,LeO (insolvencyref1_Digits.l0 k y0 y1) (insolvencyref1_Digits.l0 (k+1) y0 y1))
 | 0=>fun _ _ r h=>by simp [insolvencyref1_Digits.l0] at h
 | k+1=>by
  have ih0:=insolvencyref1_Digits.mono_l k
  ·intro y0 y1
   unfold insolvencyref1_Digits.l0
   repeat' first
   | (with_reducible exact ih0 _ _)
   | (with_reducible exact LeO.refl _)
   | (with_reducible exact LeO.none _)
   | (with_reducible refine LeO.ite ?_ ?_)
   | (with_reducible refine LeO.bind ?_ (fun _=>?_))
   | exact ih0 _ _
   | exact LeO.none _
   | refine LeO.ite ?_ ?_
   | refine LeO.bind ?_ (fun _=>?_)
theorem insolvencyref1_Digits.mono:∀ a0 k,LeO (insolvencyref1_Digits.f k a0) (insolvencyref1_Digits.f (k+1) a0):=by
 intro a0 k
 have ih0:=insolvencyref1_Digits.mono_l k
 unfold insolvencyref1_Digits.f
 repeat' first
  | (with_reducible exact ih0 _ _)
  | (with_reducible exact LeO.refl _)
  | (with_reducible exact LeO.none _)
  | (with_reducible refine LeO.ite ?_ ?_)
  | (with_reducible refine LeO.bind ?_ (fun _=>?_))
  | exact ih0 _ _
  | exact LeO.none _
  | refine LeO.ite ?_ ?_
  | refine LeO.bind ?_ (fun _=>?_)
set_option maxHeartbeats 8000000 in
set_option maxRecDepth 100000 in
theorem insolvencyref1_Digits.calls (k:Nat) (a0:ByteArray) (r:Bool) (w:World) (h:insolvencyref1_Digits.f k a0=some r) :
 Calls Tryd.prog 54 #[.string a0] w fun e w'=>e = .returned (.bool r)∧Drawn0 w w':=by
 have H:(insolvencyref1_Digits.l0 k a0 0)=some r:=h
 clear h
 have H':=Aside0.mk H
 clear H
 go_enter Tryd.func54,Tryd.ntmps54
 go_wp2
 go_loopg [3] k (fun kq v3 w'=>∃ (x3_1:Int),v3 = .int .i64 x3_1∧Aside0 (insolvencyref1_Digits.l0 kq a0 x3_1=some r)∧Aside0 (kq≤k)∧Drawn0 w w')
 case atStart=>exact ⟨(0),(by first|rfl|(simp;done)|(simp [*];done)),H',⟨Nat.le_refl _⟩,by repeat (first|exact Drawn0.refl _|apply Drawn0.step)⟩
 case round=>
  clear H'
  obtain ⟨x3_1,rfl,HA,HK1,⟨m1,rfl⟩⟩:=hrel
  cases gk with
  | zero=>exact absurd HA.out (by simp [insolvencyref1_Digits.l0])
  | succ k1=>
   have H:=HA.out
   clear HA
   simp only [insolvencyref1_Digits.l0] at H
   by_cases c2:x3_1<(a0.size:Int)
   ·rw [if_pos c2] at H
    have c2b0:decide (x3_1<(a0.size:Int))=true:=decide_eq_true c2
    clear c2
    by_cases c3:0≤x3_1
    ·rw [if_pos c3] at H
     have c3b0:decide (0≤x3_1)=true:=decide_eq_true c3
     clear c3
     by_cases c5:(bt a0 x3_1)<48
     ·rw [if_pos c5] at H
      have c5b0:decide ((bt a0 x3_1)<48)=true:=decide_eq_true c5
      clear c5
      obtain rfl:=Option.some.inj H
      have p4:0≤(x3_1:Int):=of_decide_eq_true (by first|(with_reducible assumption)|assumption)
      have q4:x3_1<(a0.size:Int):=of_decide_eq_true (by first|(with_reducible assumption)|assumption)
      have hx4:=bt_at a0 x3_1
      replace p4:=eq_true p4
      replace q4:=eq_true q4
      go_wp2
      go_ret
      exact ⟨by first|rfl|(simp;done)|(simp [*];done),by repeat (first|exact Drawn0.refl _|apply Drawn0.step)⟩
     ·rw [if_neg c5] at H
      have c5b0:decide ((bt a0 x3_1)<48)=false:=decide_eq_false c5
      clear c5
      by_cases c7:(bt a0 x3_1)>57
      ·rw [if_pos c7] at H
       have c7b0:decide (57<(bt a0 x3_1))=true:=decide_eq_true c7
       clear c7
       obtain rfl:=Option.some.inj H
       have p4:0≤(x3_1:Int):=of_decide_eq_true (by first|(with_reducible assumption)|assumption)
       have q4:x3_1<(a0.size:Int):=of_decide_eq_true (by first|(with_reducible assumption)|assumption)
       have hx4:=bt_at a0 x3_1
       replace p4:=eq_true p4
       replace q4:=eq_true q4
       have p6:0≤(x3_1:Int):=of_decide_eq_true (by first|(with_reducible assumption)|assumption)
       have q6:x3_1<(a0.size:Int):=of_decide_eq_true (by first|(with_reducible assumption)|assumption)
       have hx6:=bt_at a0 x3_1
       replace p6:=eq_true p6
       replace q6:=eq_true q6
       go_wp2
       go_ret
       exact ⟨by first|rfl|(simp;done)|(simp [*];done),by repeat (first|exact Drawn0.refl _|apply Drawn0.step)⟩
      ·rw [if_neg c7] at H
       have c7b0:decide (57<(bt a0 x3_1))=false:=decide_eq_false c7
       clear c7
       have H':=Aside0.mk H
       clear H
       have p4:0≤(x3_1:Int):=of_decide_eq_true (by first|(with_reducible assumption)|assumption)
       have q4:x3_1<(a0.size:Int):=of_decide_eq_true (by first|(with_reducible assumption)|assumption)
       have hx4:=bt_at a0 x3_1
       replace p4:=eq_true p4
       replace q4:=eq_true q4
       have p6:0≤(x3_1:Int):=of_decide_eq_true (by first|(with_reducible assumption)|assumption)
       have q6:x3_1<(a0.size:Int):=of_decide_eq_true (by first|(with_reducible assumption)|assumption)
       have hx6:=bt_at a0 x3_1
       replace p6:=eq_true p6
       replace q6:=eq_true q6
       go_wp2
       go_roundg k1
       case measure=>have:=HK1.out;omega
       case rel=>exact ⟨(wrap64 (x3_1+1)),(by first|rfl|(simp;done)|(simp [*];done)),H',⟨by have:=HK1.out;omega⟩,by repeat (first|exact Drawn0.refl _|apply Drawn0.step)⟩
    ·rw [if_neg c3] at H
     exact absurd H (by simp)
   ·rw [if_neg c2] at H
    have c2b0:decide (x3_1<(a0.size:Int))=false:=decide_eq_false c2
    clear c2
    by_cases c8:a0.toList=([]:List UInt8)
    ·rw [if_pos c8] at H
     have c8b0:(a0.toList == ([]:List UInt8))=true:=beq_iff_eq.mpr c8
     have c8b1:(a0.toList != ([]:List UInt8))=false:=bne_eq_false_iff_eq.mpr c8
     clear c8
     obtain rfl:=Option.some.inj H
     go_wp2
     go_ret
     exact ⟨by first|rfl|(simp;done)|(simp [*];done),by repeat (first|exact Drawn0.refl _|apply Drawn0.step)⟩
    ·rw [if_neg c8] at H
     have c8b0:(a0.toList == ([]:List UInt8))=false:=beq_eq_false_iff_ne.mpr c8
     have c8b1:(a0.toList != ([]:List UInt8))=true:=bne_iff_ne.mpr c8
     by_cases c9:0<(a0.size:Int)
     ·rw [if_pos c9] at H
      have c9b0:decide (0<(a0.size:Int))=true:=decide_eq_true c9
      have c9b1:decide (0<a0.size)=true:=decide_eq_true (by omega)
      clear c9
      by_cases c11:(bt a0 0)=48
      ·rw [if_pos c11] at H
       have c11b0:((bt a0 0) == 48)=true:=beq_iff_eq.mpr c11
       have c11b1:((bt a0 0) != 48)=false:=bne_eq_false_iff_eq.mpr c11
       clear c11
       obtain rfl:=Option.some.inj H
       have p10:0≤(0:Int):=(by omega)
       have q10:0<a0.size:=(by have:(0:Int)<(a0.size:Int):=of_decide_eq_true (by first|(with_reducible assumption)|assumption);omega)
       have hx10:∀ h:0<a0.size,((a0[0]'h).toNat:Int)=bt a0 0:=bt_at a0 0
       clear p10
       have qi10:(0<(a0.size:Int))=True:=eq_true (of_decide_eq_true (by first|(with_reducible assumption)|assumption))
       replace q10:=eq_true q10
       go_wp2
       go_ret
       exact ⟨by first|rfl|(simp;done)|(simp [*];done),by repeat (first|exact Drawn0.refl _|apply Drawn0.step)⟩
      ·rw [if_neg c11] at H
       have c11b0:((bt a0 0) == 48)=false:=beq_eq_false_iff_ne.mpr c11
       have c11b1:((bt a0 0) != 48)=true:=bne_iff_ne.mpr c11
       obtain rfl:=Option.some.inj H
       have p10:0≤(0:Int):=(by omega)
       have q10:0<a0.size:=(by have:(0:Int)<(a0.size:Int):=of_decide_eq_true (by first|(with_reducible assumption)|assumption);omega)
       have hx10:∀ h:0<a0.size,((a0[0]'h).toNat:Int)=bt a0 0:=bt_at a0 0
       clear p10
       have qi10:(0<(a0.size:Int))=True:=eq_true (of_decide_eq_true (by first|(with_reducible assumption)|assumption))
       replace q10:=eq_true q10
       go_wp2
       go_ret
       exact ⟨by first|rfl|(simp;done)|(simp [*];done),by repeat (first|exact Drawn0.refl _|apply Drawn0.step)⟩
     ·rw [if_neg c9] at H
      exact absurd H (by simp)
end Go.Proofs.YtjaflmhdclmolaaDoor.F
end
section
namespace Go.Proofs.YtjaflmhdclmolaaDoor.F
open Go.RowKit Go.Proofs.YtjaflmhdclmolaaDoorW.PrintWords Go.Proofs.YtjaflmhdclmolaaDoorW.PrintLast Go.Proofs.YtjaflmhdclmolaaDoorW.PrintMore
attribute [local go_sem] max2_int min2_int max_two min_two max_three min_three max_four min_four   
set_option linter.unusedVariables false
set_option linter.unusedSimpArgs false
mutual
def insolvencyref1_value.l0:Nat→ByteArray→List Int→Int→Option (List Int)
 | 0,_,_,_=>none
 | k+1,x0,x3,x4=>if x4<(x0.size:Int) then (if 0≤x4 then (insolvencyref1_value.l1 k x0 x3 x4 (((bt x0 x4)-48)%256) 0) else (none)) else (some x3)
def insolvencyref1_value.l1:Nat→ByteArray→List Int→Int→Int→Int→Option (List Int)
 | 0,_,_,_,_,_=>none
 | k+1,x0,x3,x4,x5,x6=>if x6<(x3.length:Int) then (if 0≤x6 then (insolvencyref1_value.l1 k x0 (x3.set (x6:Int).toNat ((IntKind.u64.wrap (x5+(IntKind.u64.wrap ((IntKind.u64.wrap (rd x3 x6))*10))))%4294967296)) x4 ((IntKind.u64.wrap (x5+(IntKind.u64.wrap ((IntKind.u64.wrap (rd x3 x6))*10))))/4294967296) (wrap64 (x6+1))) else (none)) else (if x5>0 then (if x3.length<35184372088832 then (insolvencyref1_value.l0 k x0 (x3 ++ [(x5)%4294967296]) (wrap64 (x4+1))) else (none)) else (insolvencyref1_value.l0 k x0 x3 (wrap64 (x4+1))))
end
def insolvencyref1_value.f (k:Nat) (a0:ByteArray):Option (List Int):=insolvencyref1_value.l0 k a0 ([]:List Int) 0
theorem insolvencyref1_value.mono_l:∀ k,(∀ y0 y1 y2,LeO (insolvencyref1_value.l0 k y0 y1 y2) (insolvencyref1_value.l0 (k+1) y0 y1 y2))∧(∀ y0 y1 y2 y3 y4,LeO (insolvencyref1_value.l1 k y0 y1 y2 y3 y4) (insolvencyref1_value.l1 (k+1) y0 y1 y2 y3 y4))
 | 0=>⟨fun _ _ _ r h=>by simp [insolvencyref1_value.l0] at h,fun _ _ _ _ _ r h=>by simp [insolvencyref1_value.l1] at h⟩
 | k+1=>by
  obtain ⟨ih0,ih1⟩:=insolvencyref1_value.mono_l k
  refine ⟨?_,?_⟩
  ·intro y0 y1 y2
   unfold insolvencyref1_value.l0
   repeat' first
   | (with_reducible exact ih0 _ _ _)
   | (with_reducible exact ih1 _ _ _ _ _)
   | (with_reducible exact LeO.refl _)
   | (with_reducible exact LeO.none _)
   | (with_reducible refine LeO.ite ?_ ?_)
   | (with_reducible refine LeO.bind ?_ (fun _=>?_))
   | exact ih0 _ _ _
   | exact ih1 _ _ _ _ _
   | exact LeO.none _
   | refine LeO.ite ?_ ?_
   | refine LeO.bind ?_ (fun _=>?_)
  ·intro y0 y1 y2 y3 y4
   unfold insolvencyref1_value.l1
   repeat' first
   | (with_reducible exact ih0 _ _ _)
   | (with_reducible exact ih1 _ _ _ _ _)
   | (with_reducible exact LeO.refl _)
   | (with_reducible exact LeO.none _)
   | (with_reducible refine LeO.ite ?_ ?_)
   | (with_reducible refine LeO.bind ?_ (fun _=>?_))
   | exact ih0 _ _ _
   | exact ih1 _ _ _ _ _
   | exact LeO.none _
   | refine LeO.ite ?_ ?_
   | refine LeO.bind ?_ (fun _=>?_)
theorem insolvencyref1_value.mono:∀ a0 k,LeO (insolvencyref1_value.f k a0) (insolvencyref1_value.f (k+1) a0):=by
 intro a0 k
 obtain ⟨ih0,ih1⟩:=insolvencyref1_value.mono_l k
 unfold insolvencyref1_value.f
 repeat' first
  | (with_reducible exact ih0 _ _ _)
  | (with_reducible exact ih1 _ _ _ _ _)
  | (with_reducible exact LeO.refl _)
  | (with_reducible exact LeO.none _)
  | (with_reducible refine LeO.ite ?_ ?_)
  | (with_reducible refine LeO.bind ?_ (fun _=>?_))
  | exact ih0 _ _ _
  | exact ih1 _ _ _ _ _
  | exact LeO.none _
  | refine LeO.ite ?_ ?_
  | refine LeO.bind ?_ (fun _=>?_)
set_option maxHeartbeats 8000000 in
set_option maxRecDepth 100000 in
theorem insolvencyref1_value.calls (k:Nat) (a0:ByteArray) (r:List Int) (w:World) (h:insolvencyref1_value.f k a0=some r) :
 Calls Tryd.prog 55 #[.string a0] w fun e w'=>∃ v0_:Value,e = .returned (v0_)∧Kd.R (Kd.int .u32) 60 w' w.heap.size (fun _=>True) v0_ r∧Below w.heap.size w w':=by
 have HB:=Aside0.mk (Below.refl w.heap.size w)
 have H:(insolvencyref1_value.l0 k a0 ([]:List Int) 0)=some r:=h
 clear h
 have H':=Aside0.mk H
 clear H
 go_enter Tryd.func55,Tryd.ntmps55
 go_wp2
 go_loopg [3,4] k (fun kq v3 v4 w'=>∃ (x3_1:List Int) (x4_1:Int),v4 = .int .i64 x4_1∧Aside0 (insolvencyref1_value.l0 kq a0 x3_1 x4_1=some r)∧Aside0 (kq≤k)∧Aside0 (Kd.R (Kd.int .u32) 60 w' w.heap.size (fun _=>True) v3 x3_1)∧Aside0 (Below w.heap.size w w'))
 case atStart=>exact ⟨(([]:List Int)),(0),(by first|rfl|(simp;done)|(simp [*];done)),H',⟨Nat.le_refl _⟩,⟨by first|exact Kd.R_nil _ _ _ _ _|exact Kd.N_nil _ _ _ _ _|exact Kd.V_nil _ _ _ _ _|exact Kd.Q_nil _ _ _ _ _|exact Kd.S_nil _ _ _ _ _⟩,⟨by repeat (first|(with_reducible first|exact HB.out|apply below_alloc|apply pw_below_drewN|apply below_drew1)|exact HB.out)⟩⟩
 case round=>
  clear H'
  obtain ⟨x3_1,x4_1,rfl,HA,HK1,HO_3,HB⟩:=hrel
  cases gk with
  | zero=>exact absurd HA.out (by simp [insolvencyref1_value.l0])
  | succ k1=>
   have H:=HA.out
   clear HA
   simp only [insolvencyref1_value.l0] at H
   by_cases c2:x4_1<(a0.size:Int)
   ·rw [if_pos c2] at H
    have c2b0:decide (x4_1<(a0.size:Int))=true:=decide_eq_true c2
    clear c2
    by_cases c3:0≤x4_1
    ·rw [if_pos c3] at H
     have c3b0:decide (0≤x4_1)=true:=decide_eq_true c3
     clear c3
     have H':=Aside0.mk H
     clear H
     have p4:0≤(x4_1:Int):=of_decide_eq_true (by first|(with_reducible assumption)|assumption)
     have q4:x4_1<(a0.size:Int):=of_decide_eq_true (by first|(with_reducible assumption)|assumption)
     have hx4:=bt_at a0 x4_1
     replace p4:=eq_true p4
     replace q4:=eq_true q4
     go_wp2
     go_loopg [5,6] k1 (fun kq v5 v6 w'=>∃ (x3_2:List Int) (x5_2:Int) (x6_2:Int),v5 = .int .u64 x5_2∧v6 = .int .i64 x6_2∧Aside0 (insolvencyref1_value.l1 kq a0 x3_2 x4_1 x5_2 x6_2=some r)∧Aside0 (kq≤k1)∧Aside0 (Kd.R (Kd.int .u32) 60 w' w.heap.size (fun _=>True) u3 x3_2)∧Aside0 (Below w.heap.size w w'))
     case atStart=>exact ⟨(x3_1),(((bt a0 x4_1)-48)%256),(0),(by first|rfl|(simp;done)|(simp [*];done)),(by first|rfl|(simp;done)|(simp [*];done)),H',⟨Nat.le_refl _⟩,⟨by (with_reducible repeat (first|apply Kd.R_alloc|apply Kd.R_drewN|apply Kd.R_drew));exact HO_3.out⟩,⟨by repeat (first|(with_reducible first|exact HB.out|apply below_alloc|apply pw_below_drewN|apply below_drew1)|exact HB.out)⟩⟩
     case round=>
      clear H'
      try clear c2
      try clear c2b0
      try clear p2
      try clear c3
      try clear c3b0
      try clear p4
      try clear q4
      try clear hx4
      try clear p4
      try clear q4
      obtain ⟨x3_2,x5_2,x6_2,rfl,rfl,HA,HK2,HO_3,HB⟩:=hrel
      cases gk with
      | zero=>exact absurd HA.out (by simp [insolvencyref1_value.l1])
      | succ k2=>
       have H:=HA.out
       clear HA
       simp only [insolvencyref1_value.l1] at H
       by_cases c5:x6_2<(x3_2.length:Int)
       ·rw [if_pos c5] at H
        have c5b0:decide (x6_2<(x3_2.length:Int))=true:=decide_eq_true c5
        clear c5
        by_cases c6:0≤x6_2
        ·rw [if_pos c6] at H
         have c6b0:decide (0≤x6_2)=true:=decide_eq_true c6
         clear c6
         obtain ⟨y456,hy456⟩:∃ y_:List Int,y_=(x3_2.set (x6_2:Int).toNat ((IntKind.u64.wrap (x5_2+(IntKind.u64.wrap ((IntKind.u64.wrap (rd x3_2 x6_2))*10))))%4294967296)):=⟨_,rfl⟩
         replace H:(insolvencyref1_value.l1 k2 a0 y456 x4_1 ((IntKind.u64.wrap (x5_2+(IntKind.u64.wrap ((IntKind.u64.wrap (rd x3_2 x6_2))*10))))/4294967296) (wrap64 (x6_2+1)))=some r:=by first|(rw [hy456];with_reducible exact H)|(have H2_:=(Option.bind_some _ _).symm.trans H;rw [hy456];with_reducible exact H2_)|(have H2_:=(Option.bind_some _ _).symm.trans H;with_reducible exact H2_)|with_reducible exact H|(rw [hy456];exact H)|exact H
         have Ny456:=Aside0.mk hy456
         clear hy456
         have H':=Aside0.mk H
         clear H
         obtain ⟨Ao8,co8,eo8⟩:=Kd.R_slice HO_3.out
         subst eo8
         have p455:0≤(x6_2:Int):=of_decide_eq_true (by first|(with_reducible assumption)|assumption)
         have q455:x6_2<(x3_2.length:Int):=of_decide_eq_true (by first|(with_reducible assumption)|assumption)
         obtain ⟨ad455,e455,hx455_0⟩:=Kd.at_int (Kd.R_reads' HO_3.out).2.2 x6_2 p455 q455
         cases e455
         replace p455:=eq_true p455
         replace q455:=eq_true q455
         have p7:0≤(x6_2:Int):=of_decide_eq_true (by first|(with_reducible assumption)|assumption)
         have q7:(x6_2:Int)<((x3_2.length:Int):Int):=of_decide_eq_true (by first|(with_reducible assumption)|assumption)
         obtain ⟨go7,co7,eo7,gb7,gl7,cl7,HG7⟩:=Kd.R_form HO_3.out (by omega)
         (first|cases eo7|(injection eo7 with ea_ en_ ec_;(first|subst ea_|(injection ea_ with ea_;subst ea_));subst ec_;clear en_))
         have GB7:=Aside0.mk gb7
         have GG7:=Aside0.mk HG7
         clear gb7 gl7 HG7
         (first|simp only [add_plain] at hx455_0|skip)
         obtain ⟨hx7_0,hf7_0⟩:=Kd.R_celln 0 HO_3.out (x6_2:Int) p7 q7
         replace p7:=eq_true p7
         replace q7:=eq_true q7
         have HP9:=Kd.R_putg HO_3.out (x6_2:Int) ((IntKind.u64.wrap (x5_2+(IntKind.u64.wrap ((IntKind.u64.wrap (rd x3_2 x6_2))*10))))%4294967296)
         go_wp2_with (first|((with_reducible refine gate_store (t:=60) (p:=36) rfl ?_);refine store_event (t:=60) (p:=36) (v:=?vo_w10) (w1:=(wr.setCell ⟨go7,(x6_2:Int).toNat,none⟩ (.int .u32 ((IntKind.u64.wrap (x5_2+(IntKind.u64.wrap ((IntKind.u64.wrap (rd x3_2 x6_2))*10))))%4294967296)))) ?hg ?ho ?hn ?hr ?_;(case ho=>rfl);(case hg=>rfl);(case hn=>rfl);(case hr=>first|(go_simp;done)|(go_simp;rfl));intro w10 hw;have hg:wr.grownBy w10 (some go7):=(by rw [hw];exact HP9.2);have hp_:Kd.R (Kd.int .u32) 60 w10 w.heap.size (fun _=>True) (.slice (some ⟨go7,0,none⟩) x3_2.length co8) y456:=(by rw [hw,Ny456.out];exact HP9.1);clear HP9;have n0_:=Aside0.mk (hp_);have n1_:=Aside0.mk ((by rw [hw];exact below_set (HB.out) GB7.out:Below w.heap.size w w10));clear HO_3;clear HB;have HO_3:=n0_;have HB:=n1_;clear n0_ n1_;clear hg hw hp_))
         go_roundg k2
         case measure=>have:=HK1.out;have:=HK2.out;omega
         case rel=>exact ⟨(y456),((IntKind.u64.wrap (x5_2+(IntKind.u64.wrap ((IntKind.u64.wrap (rd x3_2 x6_2))*10))))/4294967296),(wrap64 (x6_2+1)),(by first|rfl|(simp;done)|(simp [*];done)),(by first|rfl|(simp;done)|(simp [*];done)),H',⟨by have:=HK1.out;have:=HK2.out;omega⟩,⟨by (with_reducible repeat (first|apply Kd.R_alloc|apply Kd.R_drewN|apply Kd.R_drew));exact HO_3.out⟩,⟨by repeat (first|(with_reducible first|exact HB.out|apply below_alloc|apply pw_below_drewN|apply below_drew1)|exact HB.out)⟩⟩
        ·rw [if_neg c6] at H
         exact absurd H (by simp)
       ·rw [if_neg c5] at H
        have c5b0:decide (x6_2<(x3_2.length:Int))=false:=decide_eq_false c5
        clear c5
        by_cases c11:x5_2>0
        ·rw [if_pos c11] at H
         have c11b0:decide (0<x5_2)=true:=decide_eq_true c11
         clear c11
         by_cases c12:x3_2.length<35184372088832
         ·rw [if_pos c12] at H
          have LMc12:=Aside0.mk c12
          clear c12
          obtain ⟨y457,hy457⟩:∃ y_:List Int,y_=(x3_2 ++ [(x5_2)%4294967296]):=⟨_,rfl⟩
          replace H:(insolvencyref1_value.l0 k2 a0 y457 (wrap64 (x4_1+1)))=some r:=by first|(rw [hy457];with_reducible exact H)|(have H2_:=(Option.bind_some _ _).symm.trans H;rw [hy457];with_reducible exact H2_)|(have H2_:=(Option.bind_some _ _).symm.trans H;with_reducible exact H2_)|with_reducible exact H|(rw [hy457];exact H)|exact H
          have Ny457:=Aside0.mk hy457
          clear hy457
          have H':=Aside0.mk H
          clear H
          obtain ⟨Ao13,co13,eo13⟩:=Kd.R_slice HO_3.out
          subst eo13
          go_wp2_with (first|((with_reducible refine gate_builtin (b:=.append) (xs:=#[.tmp 41,.tmp 44]) rfl ?_);at_builtin;refine Kd.R_append (Kd.int .u32) (w0:=w) w.heap.size rfl (.tmp 41) (.tmp 44) 49 60 (.int .u32 0) 4 rfl Tryd.underlying49 info60 rfl (by decide) (by omega) (.slice Ao13 x3_2.length co13) x3_2 ((x5_2)%4294967296) [.int .u32 ((x5_2)%4294967296)] (fun _=>True) (fun _=>False) rfl rfl ?aP (fun _ hk=>hk.elim) ?aF ?aO ?aB ?aS ?aL ?_;(case aP=>exact rfl);(case aB=>exact (by repeat (first|(with_reducible first|exact HB.out|apply below_alloc|apply pw_below_drewN|apply below_drew1)|exact HB.out)));(case aF=>exact (fun _ _=>trivial));(case aO=>exact (by (with_reducible repeat (first|apply Kd.R_alloc|apply Kd.R_drewN|apply Kd.R_drew));exact HO_3.out));(case aS=>exact (below_size (by repeat (first|(with_reducible first|exact HB.out|apply below_alloc|apply pw_below_drewN|apply below_drew1)|exact HB.out))));(case aL=>have:=LMc12.out;omega);intro v458 w14 ho hb hg hat;rw [← Ny457.out] at ho;have n0_:=Aside0.mk (hb);have n1_:=Aside0.mk (ho);clear HB;clear HO_3;have HB:=n0_;have HO459:=n1_;clear n0_ n1_;clear ho hb hg hat))
          go_roundg k2
          case measure=>have:=HK1.out;have:=HK2.out;omega
          case rel=>exact ⟨(y457),(wrap64 (x4_1+1)),(by first|rfl|(simp;done)|(simp [*];done)),H',⟨by have:=HK1.out;have:=HK2.out;omega⟩,⟨by (with_reducible repeat (first|apply Kd.R_alloc|apply Kd.R_drewN|apply Kd.R_drew));exact HO459.out⟩,⟨by repeat (first|(with_reducible first|exact HB.out|apply below_alloc|apply pw_below_drewN|apply below_drew1)|exact HB.out)⟩⟩
         ·rw [if_neg c12] at H
          exact absurd H (by simp)
        ·rw [if_neg c11] at H
         have c11b0:decide (0<x5_2)=false:=decide_eq_false c11
         clear c11
         have H':=Aside0.mk H
         clear H
         obtain ⟨Ao15,co15,eo15⟩:=Kd.R_slice HO_3.out
         subst eo15
         go_wp2
         go_roundg k2
         case measure=>have:=HK1.out;have:=HK2.out;omega
         case rel=>exact ⟨(x3_2),(wrap64 (x4_1+1)),(by first|rfl|(simp;done)|(simp [*];done)),H',⟨by have:=HK1.out;have:=HK2.out;omega⟩,⟨by (with_reducible repeat (first|apply Kd.R_alloc|apply Kd.R_drewN|apply Kd.R_drew));exact HO_3.out⟩,⟨by repeat (first|(with_reducible first|exact HB.out|apply below_alloc|apply pw_below_drewN|apply below_drew1)|exact HB.out)⟩⟩
    ·rw [if_neg c3] at H
     exact absurd H (by simp)
   ·rw [if_neg c2] at H
    have c2b0:decide (x4_1<(a0.size:Int))=false:=decide_eq_false c2
    clear c2
    obtain rfl:=Option.some.inj H
    go_wp2
    go_ret
    exact ⟨_,by first|rfl|(simp [errW_none,errW_some] <;> rfl)|(simp [*,errW_none,errW_some] <;> rfl),by (with_reducible repeat (first|apply Kd.R_alloc|apply Kd.R_drewN|apply Kd.R_drew));exact HO_3.out,by repeat (first|(with_reducible first|exact HB.out|apply below_alloc|apply pw_below_drewN|apply below_drew1)|exact HB.out)⟩
end Go.Proofs.YtjaflmhdclmolaaDoor.F
end
section
namespace Go.Proofs.YtjaflmhdclmolaaDoor.F
open Go.RowKit Go.Proofs.YtjaflmhdclmolaaDoorW.PrintWords Go.Proofs.YtjaflmhdclmolaaDoorW.PrintLast Go.Proofs.YtjaflmhdclmolaaDoorW.PrintMore
attribute [local go_sem] max2_int min2_int max_two min_two max_three min_three max_four min_four   
set_option linter.unusedVariables false
set_option linter.unusedSimpArgs false
def insolvencyref1_NatParse.f (k:Nat) (a0:ByteArray):Option (ByteArray×Int):=(insolvencyref1_Digits.f k a0).bind fun t460=>(if t460=true then (if (a0.size:Int)>2000 then (some ((⟨#[]⟩:ByteArray),2)) else ((insolvencyref1_value.f k a0).bind fun t461=>((insolvencyref1_text.f k t461).bind fun t464=>(some (t464,0))))) else (some ((⟨#[]⟩:ByteArray),3)))
theorem insolvencyref1_NatParse.mono:∀ a0 k,LeO (insolvencyref1_NatParse.f k a0) (insolvencyref1_NatParse.f (k+1) a0):=by
 intro a0 k
 unfold insolvencyref1_NatParse.f
 repeat' first
  | (with_reducible exact insolvencyref1_Digits.mono _ _)
  | (with_reducible exact insolvencyref1_text.mono _ _)
  | (with_reducible exact insolvencyref1_value.mono _ _)
  | (with_reducible exact LeO.refl _)
  | (with_reducible exact LeO.none _)
  | (with_reducible refine LeO.ite ?_ ?_)
  | (with_reducible refine LeO.bind ?_ (fun _=>?_))
  | exact insolvencyref1_Digits.mono _ _
  | exact insolvencyref1_text.mono _ _
  | exact insolvencyref1_value.mono _ _
  | exact LeO.none _
  | refine LeO.ite ?_ ?_
  | refine LeO.bind ?_ (fun _=>?_)
set_option maxHeartbeats 8000000 in
set_option maxRecDepth 100000 in
theorem insolvencyref1_NatParse.calls (k:Nat) (a0:ByteArray) (r1:ByteArray) (r2:Int) (w:World) (h:insolvencyref1_NatParse.f k a0=some (r1,r2)) :
 Calls Tryd.prog 27 #[.string a0] w fun e w'=>e = .returned (.tuple #[.string r1,.int .i64 r2])∧Below w.heap.size w w':=by
 have HB:=Aside0.mk (Below.refl w.heap.size w)
 have H:((insolvencyref1_Digits.f k a0).bind fun t460=>(if t460=true then (if (a0.size:Int)>2000 then (some ((⟨#[]⟩:ByteArray),2)) else ((insolvencyref1_value.f k a0).bind fun t461=>((insolvencyref1_text.f k t461).bind fun t464=>(some (t464,0))))) else (some ((⟨#[]⟩:ByteArray),3))))=some (r1,r2):=h
 clear h
 replace H:=Option.bind_eq_some_iff.mp H
 obtain ⟨t460,A20,H⟩:=H
 replace H:(if t460=true then (if (a0.size:Int)>2000 then (some ((⟨#[]⟩:ByteArray),2)) else ((insolvencyref1_value.f k a0).bind fun t461=>((insolvencyref1_text.f k t461).bind fun t464=>(some (t464,0))))) else (some ((⟨#[]⟩:ByteArray),3)))=some (r1,r2):=H
 have A2:=Aside0.mk A20
 clear A20
 by_cases c3:t460=true
 ·subst c3
  have H1:(if (a0.size:Int)>2000 then (some ((⟨#[]⟩:ByteArray),2)) else ((insolvencyref1_value.f k a0).bind fun t461=>((insolvencyref1_text.f k t461).bind fun t464=>(some (t464,0)))))=some (r1,r2):=by rw [if_pos rfl] at H;exact H
  clear H
  have H:=H1
  clear H1
  by_cases c4:(a0.size:Int)>2000
  ·rw [if_pos c4] at H
   have c4b0:decide (2000<(a0.size:Int))=true:=decide_eq_true c4
   have c4b1:decide (2000<a0.size)=true:=decide_eq_true (by omega)
   clear c4
   simp only [Option.some.injEq,Prod.mk.injEq] at H
   obtain ⟨rfl,rfl⟩:=H
   go_enter Tryd.func27,Tryd.ntmps27
   go_wp2_with (first|((with_reducible refine gate_callee (f:=54) rfl ?_);refine goesL_ (some 5) rfl rfl Tryd.func54 (by kernel_rfl) rfl #[.string a0] rfl (by (try simp only [List.map_toArray,List.map_cons,List.map_nil]);first|done|rfl|(simp only [List.length_drop,List.length_take];rfl)) ?_;(with_reducible refine (insolvencyref1_Digits.calls k a0 true _ A2.out).mono ?_);rintro e w' ⟨rfl,⟨nd,rfl⟩⟩;refine ⟨_,rfl,?_⟩))
   go_ret2
   exact ⟨by first|rfl|(simp [errW_none,errW_some] <;> rfl)|(simp [*,errW_none,errW_some] <;> rfl),by repeat (first|(with_reducible first|exact HB.out|apply below_alloc|apply pw_below_drewN|apply below_drew1)|exact HB.out)⟩
  ·rw [if_neg c4] at H
   have c4b0:decide (2000<(a0.size:Int))=false:=decide_eq_false c4
   have c4b1:decide (2000<a0.size)=false:=decide_eq_false (by omega)
   clear c4
   replace H:=Option.bind_eq_some_iff.mp H
   obtain ⟨t461,A50,H⟩:=H
   replace H:((insolvencyref1_text.f k t461).bind fun t464=>(some (t464,0)))=some (r1,r2):=H
   have A5:=Aside0.mk A50
   clear A50
   replace H:=Option.bind_eq_some_iff.mp H
   obtain ⟨t464,A60,H⟩:=H
   replace H:(some (t464,0))=some (r1,r2):=H
   have A6:=Aside0.mk A60
   clear A60
   simp only [Option.some.injEq,Prod.mk.injEq] at H
   obtain ⟨rfl,rfl⟩:=H
   go_enter Tryd.func27,Tryd.ntmps27
   go_wp2_with (first|((with_reducible refine gate_callee (f:=54) rfl ?_);refine goesL_ (some 5) rfl rfl Tryd.func54 (by kernel_rfl) rfl #[.string a0] rfl (by (try simp only [List.map_toArray,List.map_cons,List.map_nil]);first|done|rfl|(simp only [List.length_drop,List.length_take];rfl)) ?_;(with_reducible refine (insolvencyref1_Digits.calls k a0 true _ A2.out).mono ?_);rintro e w' ⟨rfl,⟨nd,rfl⟩⟩;refine ⟨_,rfl,?_⟩)|((with_reducible refine gate_callee (f:=55) rfl ?_);refine goesL_ (some 11) rfl rfl Tryd.func55 (by kernel_rfl) rfl #[.string a0] rfl (by (try simp only [List.map_toArray,List.map_cons,List.map_nil]);first|done|rfl|(simp only [List.length_drop,List.length_take];rfl)) ?_;(with_reducible refine (insolvencyref1_value.calls k a0 t461 _ A5.out).mono ?_);rintro e w7 ⟨v462,rfl,ho0,hb⟩;refine ⟨_,rfl,?_⟩;have n0_:=Aside0.mk (Kd.R_lower ho0 (below_size (by repeat (first|(with_reducible first|exact HB.out|apply below_alloc|apply pw_below_drewN|apply below_drew1)|exact HB.out))));have n1_:=Aside0.mk (below_step (by repeat (first|(with_reducible first|exact HB.out|apply below_alloc|apply pw_below_drewN|apply below_drew1)|exact HB.out)) hb);clear HB;have HO463:=n0_;have HB:=n1_;clear n0_ n1_;(try clear hb);(try clear hb2);(try clear hk);(try clear hi);(try clear ho0);obtain ⟨Ao8,co8,eo8⟩:=Kd.R_slice HO463.out;subst eo8)|((with_reducible refine gate_callee (f:=47) rfl ?_);refine goesL_ (some 12) rfl rfl Tryd.func47 (by kernel_rfl) rfl #[.slice Ao8 t461.length co8] rfl (by (try simp only [List.map_toArray,List.map_cons,List.map_nil]);first|done|rfl|(simp only [List.length_drop,List.length_take];rfl)) ?_;(with_reducible refine (insolvencyref1_text.calls k (fun k_=>some k_=(.slice Ao8 t461.length co8:Value).ownBlock) (.slice Ao8 t461.length co8) t461 t464 w _ ?side1 ?side2 A6.out).mono ?_);(case side1=>repeat (first|(with_reducible first|exact HB.out|apply below_alloc|apply pw_below_drewN|apply below_drew1)|exact HB.out));(case side2=>exact Kd.R_tight rfl HO463.out);rintro e w9 ⟨rfl,hb,hkp⟩;refine ⟨_,rfl,?_⟩;have n0_:=Aside0.mk (hb);clear HB;clear HO463;have HB:=n0_;clear n0_;(try clear hb);(try clear hkp)))
   go_ret2
   exact ⟨by first|rfl|(simp [errW_none,errW_some] <;> rfl)|(simp [*,errW_none,errW_some] <;> rfl),by repeat (first|(with_reducible first|exact HB.out|apply below_alloc|apply pw_below_drewN|apply below_drew1)|exact HB.out)⟩
 ·replace c3:=Bool.eq_false_iff.mpr c3
  subst c3
  have H1:(some ((⟨#[]⟩:ByteArray),3))=some (r1,r2):=by rw [if_neg (show ¬ (false=true) by decide)] at H;exact H
  clear H
  have H:=H1
  clear H1
  simp only [Option.some.injEq,Prod.mk.injEq] at H
  obtain ⟨rfl,rfl⟩:=H
  go_enter Tryd.func27,Tryd.ntmps27
  go_wp2_with (first|((with_reducible refine gate_callee (f:=54) rfl ?_);refine goesL_ (some 5) rfl rfl Tryd.func54 (by kernel_rfl) rfl #[.string a0] rfl (by (try simp only [List.map_toArray,List.map_cons,List.map_nil]);first|done|rfl|(simp only [List.length_drop,List.length_take];rfl)) ?_;(with_reducible refine (insolvencyref1_Digits.calls k a0 false _ A2.out).mono ?_);rintro e w' ⟨rfl,⟨nd,rfl⟩⟩;refine ⟨_,rfl,?_⟩))
  go_ret2
  exact ⟨by first|rfl|(simp [errW_none,errW_some] <;> rfl)|(simp [*,errW_none,errW_some] <;> rfl),by repeat (first|(with_reducible first|exact HB.out|apply below_alloc|apply pw_below_drewN|apply below_drew1)|exact HB.out)⟩
end Go.Proofs.YtjaflmhdclmolaaDoor.F
end
section
namespace Go.Proofs.YtjaflmhdclmolaaDoor.F
open Go.RowKit Go.Proofs.YtjaflmhdclmolaaDoorW.PrintWords Go.Proofs.YtjaflmhdclmolaaDoorW.PrintLast Go.Proofs.YtjaflmhdclmolaaDoorW.PrintMore
attribute [local go_sem] max2_int min2_int max_two min_two max_three min_three max_four min_four   
set_option linter.unusedVariables false
set_option linter.unusedSimpArgs false
mutual
def insolvencyref1_written.l0:Nat→List Int→List Int→Option (ByteArray)
 | 0,_,_=>none
 | k+1,x0,x3=>if (x0.length:Int)>0 then ((insolvencyref1_short.f k x0 10).bind fun bt482=>(if x3.length<140737488355328 then (insolvencyref1_written.l0 k bt482.1 (x3 ++ [((48+bt482.2)%4294967296)%256])) else (none))) else (if (x3.length:Int)=0 then (some (⟨#[48]⟩:ByteArray)) else (insolvencyref1_written.l1 k x3 0))
def insolvencyref1_written.l1:Nat→List Int→Int→Option (ByteArray)
 | 0,_,_=>none
 | k+1,x3,x6=>if x6<(wrap64 ((x3.length:Int)/2)) then (if 0≤x6 then (if x6<(x3.length:Int) then (if 0≤(wrap64 ((wrap64 ((x3.length:Int)-1))-x6)) then (if (wrap64 ((wrap64 ((x3.length:Int)-1))-x6))<(x3.length:Int) then (insolvencyref1_written.l1 k ((x3.set (x6:Int).toNat (rd x3 (wrap64 ((wrap64 ((x3.length:Int)-1))-x6)))).set ((wrap64 ((wrap64 ((x3.length:Int)-1))-x6)):Int).toNat (rd x3 x6)) (wrap64 (x6+1))) else (none)) else (none)) else (none)) else (none)) else (some (strOfNums x3))
end
def insolvencyref1_written.f (k:Nat) (l0:List Int):Option (ByteArray):=insolvencyref1_written.l0 k l0 ([]:List Int)
theorem insolvencyref1_written.mono_l:∀ k,(∀ y0 y1,LeO (insolvencyref1_written.l0 k y0 y1) (insolvencyref1_written.l0 (k+1) y0 y1))∧(∀ y0 y1,LeO (insolvencyref1_written.l1 k y0 y1) (insolvencyref1_written.l1 (k+1) y0 y1))
 | 0=>⟨fun _ _ r h=>by simp [insolvencyref1_written.l0] at h,fun _ _ r h=>by simp [insolvencyref1_written.l1] at h⟩
 | k+1=>by
  obtain ⟨ih0,ih1⟩:=insolvencyref1_written.mono_l k
  refine ⟨?_,?_⟩
  ·intro y0 y1
   unfold insolvencyref1_written.l0
   repeat' first
   | (with_reducible exact ih0 _ _)
   | (with_reducible exact ih1 _ _)
   | (with_reducible exact insolvencyref1_short.mono _ _ _)
   | (with_reducible exact LeO.refl _)
   | (with_reducible exact LeO.none _)
   | (with_reducible refine LeO.ite ?_ ?_)
   | (with_reducible refine LeO.bind ?_ (fun _=>?_))
   | exact ih0 _ _
   | exact ih1 _ _
   | exact insolvencyref1_short.mono _ _ _
   | exact LeO.none _
   | refine LeO.ite ?_ ?_
   | refine LeO.bind ?_ (fun _=>?_)
  ·intro y0 y1
   unfold insolvencyref1_written.l1
   repeat' first
   | (with_reducible exact ih0 _ _)
   | (with_reducible exact ih1 _ _)
   | (with_reducible exact insolvencyref1_short.mono _ _ _)
   | (with_reducible exact LeO.refl _)
   | (with_reducible exact LeO.none _)
   | (with_reducible refine LeO.ite ?_ ?_)
   | (with_reducible refine LeO.bind ?_ (fun _=>?_))
   | exact ih0 _ _
   | exact ih1 _ _
   | exact insolvencyref1_short.mono _ _ _
   | exact LeO.none _
   | refine LeO.ite ?_ ?_
   | refine LeO.bind ?_ (fun _=>?_)
theorem insolvencyref1_written.mono:∀ a0 k,LeO (insolvencyref1_written.f k a0) (insolvencyref1_written.f (k+1) a0):=by
 intro a0 k
 obtain ⟨ih0,ih1⟩:=insolvencyref1_written.mono_l k
 unfold insolvencyref1_written.f
 repeat' first
  | (with_reducible exact ih0 _ _)
  | (with_reducible exact ih1 _ _)
  | (with_reducible exact insolvencyref1_short.mono _ _ _)
  | (with_reducible exact LeO.refl _)
  | (with_reducible exact LeO.none _)
  | (with_reducible refine LeO.ite ?_ ?_)
  | (with_reducible refine LeO.bind ?_ (fun _=>?_))
  | exact ih0 _ _
  | exact ih1 _ _
  | exact insolvencyref1_short.mono _ _ _
  | exact LeO.none _
  | refine LeO.ite ?_ ?_
  | refine LeO.bind ?_ (fun _=>?_)
set_option maxHeartbeats 8000000 in
set_option maxRecDepth 100000 in
theorem insolvencyref1_written.calls (k:Nat) (P0_:Nat→Prop) (A0:Option Addr) (c0:Nat) (l0:List Int) (r:ByteArray) (w:World) (hs0:Kd.V (Kd.int .u32) 60 w w.heap.size (fun k_=>P0_ k_) (.slice A0 l0.length c0) l0) (h:insolvencyref1_written.f k l0=some r) :
 Calls Tryd.prog 58 #[.slice A0 l0.length c0] w fun e w'=>e = .returned (.string r)∧Below w.heap.size w w':=by
 have HO0:=Aside0.mk (show Kd.V (Kd.int .u32) 60 w w.heap.size (fun k_=>(P0_ k_∨w.heap.size≤k_)) (.slice A0 l0.length c0) l0 from Kd.V_mono hs0 (fun k_ hk=>.inl hk))
 have HB:=Aside0.mk (Below.refl w.heap.size w)
 have H:(insolvencyref1_written.l0 k l0 ([]:List Int))=some r:=h
 clear h
 have H':=Aside0.mk H
 clear H
 go_enter Tryd.func58,Tryd.ntmps58
 go_wp2
 go_loopg [0,3] k (fun kq v0 v3 w'=>∃ (x0_1:List Int) (x3_1:List Int),Aside0 (insolvencyref1_written.l0 kq x0_1 x3_1=some r)∧Aside0 (kq≤k)∧Aside0 (Kd.V (Kd.int .u32) 60 w' w.heap.size (fun k_=>(P0_ k_∨w.heap.size≤k_)∧some k_≠(v3:Value).ownBlock) v0 x0_1)∧Aside0 (Kd.R (Kd.int .u8) 5 w' w.heap.size (fun k_=>(w.heap.size≤k_)) v3 x3_1)∧Aside0 (Below w.heap.size w w'))
 case atStart=>exact ⟨(l0),(([]:List Int)),H',⟨Nat.le_refl _⟩,⟨by (with_reducible repeat (first|apply Kd.V_alloc|apply Kd.V_drewN|apply Kd.V_drew));exact Kd.V_mono HO0.out (fun _ hk=>⟨hk,(by simp [Value.ownBlock])⟩)⟩,⟨by first|exact Kd.R_nil _ _ _ _ _|exact Kd.N_nil _ _ _ _ _|exact Kd.V_nil _ _ _ _ _|exact Kd.Q_nil _ _ _ _ _|exact Kd.S_nil _ _ _ _ _⟩,⟨by repeat (first|(with_reducible first|exact HB.out|apply below_alloc|apply pw_below_drewN|apply below_drew1)|exact HB.out)⟩⟩
 case round=>
  clear H'
  obtain ⟨x0_1,x3_1,HA,HK1,HO_0,HO_3,HB⟩:=hrel
  cases gk with
  | zero=>exact absurd HA.out (by simp [insolvencyref1_written.l0])
  | succ k1=>
   have H:=HA.out
   clear HA
   simp only [insolvencyref1_written.l0] at H
   by_cases c2:(x0_1.length:Int)>0
   ·rw [if_pos c2] at H
    have c2b0:decide (0<(x0_1.length:Int))=true:=decide_eq_true c2
    have c2b1:decide (0<x0_1.length)=true:=decide_eq_true (by omega)
    clear c2
    replace H:=Option.bind_eq_some_iff.mp H
    obtain ⟨⟨t482,t483⟩,A30,H⟩:=H
    replace H:(if x3_1.length<140737488355328 then (insolvencyref1_written.l0 k1 t482 (x3_1 ++ [((48+t483)%4294967296)%256])) else (none))=some r:=H
    have A3:=Aside0.mk A30
    clear A30
    by_cases c4:x3_1.length<140737488355328
    ·rw [if_pos c4] at H
     have LMc4:=Aside0.mk c4
     clear c4
     obtain ⟨y486,hy486⟩:∃ y_:List Int,y_=(x3_1 ++ [((48+t483)%4294967296)%256]):=⟨_,rfl⟩
     replace H:(insolvencyref1_written.l0 k1 t482 y486)=some r:=by first|(rw [hy486];with_reducible exact H)|(have H2_:=(Option.bind_some _ _).symm.trans H;rw [hy486];with_reducible exact H2_)|(have H2_:=(Option.bind_some _ _).symm.trans H;with_reducible exact H2_)|with_reducible exact H|(rw [hy486];exact H)|exact H
     have Ny486:=Aside0.mk hy486
     clear hy486
     have H':=Aside0.mk H
     clear H
     obtain ⟨Ao5,co5,eo5⟩:=Kd.V_slice HO_0.out
     subst eo5
     go_wp2_with (first|((with_reducible refine gate_callee (f:=74) rfl ?_);refine goesL_ (some 13) rfl rfl Tryd.func74 (by kernel_rfl) rfl #[.slice Ao5 x0_1.length co5,.int .u32 10] rfl (by (try simp only [List.map_toArray,List.map_cons,List.map_nil]);first|done|rfl|(simp only [List.length_drop,List.length_take];rfl)) ?_;(with_reducible refine (insolvencyref1_short.calls k1 _ _ x0_1 10 t482 t483 _ ?side1 ?side2 A3.out).mono ?_);(case side1=>repeat (first|exact (Kd.V_reads' HO_0.out).2.2|(with_reducible refine Kd.C_alloc ?_ _)|(with_reducible refine Kd.C_drewN ?_ _)|(with_reducible refine Kd.C_drew ?_)));(case side2=>exact (Kd.V_reads' HO_0.out).2.1);rintro e w6 ⟨v484,rfl,ho0,hb⟩;refine ⟨_,rfl,?_⟩;have n0_:=Aside0.mk (Kd.V_elder' (by (with_reducible repeat (first|apply Kd.V_alloc|apply Kd.V_drewN|apply Kd.V_drew));exact HO_0.out) (Kd.R_base ho0) hb);have n1_:=Aside0.mk (Kd.R_below (by (with_reducible repeat (first|apply Kd.R_alloc|apply Kd.R_drewN|apply Kd.R_drew));exact HO_3.out) hb);have n2_:=Aside0.mk (Kd.R_lower (Kd.R_newM (M:=fun k_=>(w.heap.size≤k_)) ho0 (below_size (by repeat (first|(with_reducible first|exact HB.out|apply below_alloc|apply pw_below_drewN|apply below_drew1)|exact HB.out))) (fun k_ h_=>h_)) (below_size (by repeat (first|(with_reducible first|exact HB.out|apply below_alloc|apply pw_below_drewN|apply below_drew1)|exact HB.out))));have n3_:=Aside0.mk (below_step (by repeat (first|(with_reducible first|exact HB.out|apply below_alloc|apply pw_below_drewN|apply below_drew1)|exact HB.out)) hb);clear HO_0;clear HO_3;clear HB;have HO_0:=n0_;have HO_3:=n1_;have HO485:=n2_;have HB:=n3_;clear n0_ n1_ n2_ n3_;(try clear hb);(try clear hb2);(try clear hk);(try clear hi);(try clear ho0))|((with_reducible refine gate_builtin (b:=.append) (xs:=#[.tmp 16,.tmp 20]) rfl ?_);at_builtin;refine Kd.R_append (Kd.int .u8) (w0:=w) w.heap.size rfl (.tmp 16) (.tmp 20) 37 5 (.int .u8 0) 1 rfl Tryd.underlying37 info5 rfl (by decide) (by omega) u3 x3_1 ((48+t483)%256) [.int .u8 ((48+t483)%256)] (fun k_=>(w.heap.size≤k_)) (fun _=>False) rfl rfl ?aP (fun _ hk=>hk.elim) ?aF ?aO ?aB ?aS ?aL ?_;(case aP=>exact rfl);(case aB=>exact (by repeat (first|(with_reducible first|exact HB.out|apply below_alloc|apply pw_below_drewN|apply below_drew1)|exact HB.out)));(case aF=>exact (fun k_ hk=>(Nat.le_trans (below_size (by repeat (first|(with_reducible first|exact HB.out|apply below_alloc|apply pw_below_drewN|apply below_drew1)|exact HB.out))) hk)));(case aO=>exact (by (with_reducible repeat (first|apply Kd.R_alloc|apply Kd.R_drewN|apply Kd.R_drew));exact HO_3.out));(case aS=>exact (below_size (by repeat (first|(with_reducible first|exact HB.out|apply below_alloc|apply pw_below_drewN|apply below_drew1)|exact HB.out))));(case aL=>have:=LMc4.out;omega);intro v487 w7 ho hb hg hat;have hN_:=Ny486.out;rw [Int.emod_emod_of_dvd _ (by decide)] at hN_;rw [← hN_] at ho;clear hN_;have n0_:=Aside0.mk (Kd.V_afterv (ok:=(fun k_=>(P0_ k_∨w.heap.size≤k_)∧some k_≠(v484:Value).ownBlock)) (by (with_reducible repeat (first|apply Kd.V_alloc|apply Kd.V_drewN|apply Kd.V_drew));exact Kd.V_mono HO_0.out (fun _ hk=>⟨⟨hk.1.1,hk.2⟩,hk.1.2⟩)) hg hat);have n1_:=Aside0.mk (Kd.R_over' (by (with_reducible repeat (first|apply Kd.R_alloc|apply Kd.R_drewN|apply Kd.R_drew));exact HO485.out) (Kd.R_typed (by (with_reducible repeat (first|apply Kd.R_alloc|apply Kd.R_drewN|apply Kd.R_drew));exact HO_3.out)) (by decide) hg);have n2_:=Aside0.mk (hb);have n3_:=Aside0.mk (ho);clear HO_0;clear HO485;clear HB;clear HO_3;have HO_0:=n0_;have HO485:=n1_;have HB:=n2_;have HO488:=n3_;clear n0_ n1_ n2_ n3_;clear ho hb hg hat))
     go_roundg k1
     case measure=>have:=HK1.out;omega
     case rel=>exact ⟨(t482),(y486),H',⟨by have:=HK1.out;omega⟩,⟨Kd.V_mono (Kd.R_V (Kd.R_apart' HO485.out (Kd.R_typed HO488.out) (by decide))) (fun k_ hk=>⟨.inr hk.1.1,hk.2⟩)⟩,⟨by (with_reducible repeat (first|apply Kd.R_alloc|apply Kd.R_drewN|apply Kd.R_drew));exact HO488.out⟩,⟨by repeat (first|(with_reducible first|exact HB.out|apply below_alloc|apply pw_below_drewN|apply below_drew1)|exact HB.out)⟩⟩
    ·rw [if_neg c4] at H
     exact absurd H (by simp)
   ·rw [if_neg c2] at H
    have c2b0:decide (0<(x0_1.length:Int))=false:=decide_eq_false c2
    have c2b1:decide (0<x0_1.length)=false:=decide_eq_false (by omega)
    clear c2
    by_cases c8:(x3_1.length:Int)=0
    ·rw [if_pos c8] at H
     have c8b0:((x3_1.length:Int) == 0)=true:=beq_iff_eq.mpr c8
     have c8b1:((x3_1.length:Int) != 0)=false:=bne_eq_false_iff_eq.mpr c8
     clear c8
     obtain rfl:=Option.some.inj H
     obtain ⟨Ao9,co9,eo9⟩:=Kd.V_slice HO_0.out
     subst eo9
     obtain ⟨Ao10,co10,eo10⟩:=Kd.R_slice HO_3.out
     subst eo10
     go_wp2
     go_ret
     exact ⟨by first|rfl|(simp [errW_none,errW_some] <;> rfl)|(simp [*,errW_none,errW_some] <;> rfl),by repeat (first|(with_reducible first|exact HB.out|apply below_alloc|apply pw_below_drewN|apply below_drew1)|exact HB.out)⟩
    ·rw [if_neg c8] at H
     have c8b0:((x3_1.length:Int) == 0)=false:=beq_eq_false_iff_ne.mpr c8
     have c8b1:((x3_1.length:Int) != 0)=true:=bne_iff_ne.mpr c8
     have c8b2:¬ (x3_1=[]):=fun h_=>c8 (by rw [h_];rfl)
     have H':=Aside0.mk H
     clear H
     obtain ⟨Ao11,co11,eo11⟩:=Kd.V_slice HO_0.out
     subst eo11
     obtain ⟨Ao12,co12,eo12⟩:=Kd.R_slice HO_3.out
     subst eo12
     go_wp2
     go_loopg [6] k1 (fun kq v6 w'=>∃ (x3_2:List Int) (x6_2:Int),v6 = .int .i64 x6_2∧Aside0 (insolvencyref1_written.l1 kq x3_2 x6_2=some r)∧Aside0 (kq≤k1)∧Aside0 (Kd.R (Kd.int .u8) 5 w' w.heap.size (fun k_=>(w.heap.size≤k_)) (.slice Ao12 x3_1.length co12) x3_2)∧Aside0 (Below w.heap.size w w'))
     case atStart=>exact ⟨(x3_1),(0),(by first|rfl|(simp;done)|(simp [*];done)),H',⟨Nat.le_refl _⟩,⟨by (with_reducible repeat (first|apply Kd.R_alloc|apply Kd.R_drewN|apply Kd.R_drew));exact HO_3.out⟩,⟨by repeat (first|(with_reducible first|exact HB.out|apply below_alloc|apply pw_below_drewN|apply below_drew1)|exact HB.out)⟩⟩
     case round=>
      clear H'
      try clear c2
      try clear c2b0
      try clear c2b1
      try clear p2
      try clear c4
      try clear c5
      try clear c7
      try clear c8
      try clear c8b0
      try clear c8b1
      try clear c8b2
      obtain ⟨x3_2,x6_2,rfl,HA,HK2,HO_3,HB⟩:=hrel
      have hl3_2:=(Kd.R_reads' HO_3.out).1
      rw [hl3_2] at HO_3
      (try simp only [hl3_2])
      cases gk with
      | zero=>exact absurd HA.out (by simp [insolvencyref1_written.l1])
      | succ k2=>
       have H:=HA.out
       clear HA
       simp only [insolvencyref1_written.l1] at H
       by_cases c13:x6_2<(wrap64 ((x3_2.length:Int)/2))
       ·rw [if_pos c13] at H
        have c13b0:decide (x6_2<(wrap64 ((x3_2.length:Int)/2)))=true:=decide_eq_true c13
        clear c13
        by_cases c14:0≤x6_2
        ·rw [if_pos c14] at H
         have c14b0:decide (0≤x6_2)=true:=decide_eq_true c14
         clear c14
         by_cases c15:x6_2<(x3_2.length:Int)
         ·rw [if_pos c15] at H
          have c15b0:decide (x6_2<(x3_2.length:Int))=true:=decide_eq_true c15
          clear c15
          obtain ⟨ji16,hji16⟩:∃ j_:Int,(wrap64 ((wrap64 ((x3_2.length:Int)-1))-x6_2))=j_:=⟨_,rfl⟩
          replace H:(if 0≤(ji16) then (if (ji16)<(x3_2.length:Int) then (insolvencyref1_written.l1 k2 ((x3_2.set (x6_2:Int).toNat (rd x3_2 (ji16))).set ((ji16):Int).toNat (rd x3_2 x6_2)) (wrap64 (x6_2+1))) else (none)) else (none))=some r:=by first|(rw [hji16] at H;exact H)|(simp only [hji16] at H ⊢;exact H)
          have hji16w:(IntKind.i64.wrap ((wrap64 ((x3_2.length:Int)-1))-x6_2))=ji16:=(i64_w _).trans hji16
          by_cases c17:0≤(ji16)
          ·rw [if_pos c17] at H
           have c17b0:decide (0≤(ji16))=true:=decide_eq_true c17
           clear c17
           by_cases c18:(ji16)<(x3_2.length:Int)
           ·rw [if_pos c18] at H
            have c18b0:decide ((ji16)<(x3_2.length:Int))=true:=decide_eq_true c18
            clear c18
            obtain ⟨y491,hy491⟩:∃ y_:List Int,y_=(x3_2.set (x6_2:Int).toNat (rd x3_2 (ji16))):=⟨_,rfl⟩
            replace H:(insolvencyref1_written.l1 k2 (y491.set ((ji16):Int).toNat (rd x3_2 x6_2)) (wrap64 (x6_2+1)))=some r:=by first|(rw [hy491];with_reducible exact H)|(have H2_:=(Option.bind_some _ _).symm.trans H;rw [hy491];with_reducible exact H2_)|(have H2_:=(Option.bind_some _ _).symm.trans H;with_reducible exact H2_)|with_reducible exact H|(rw [hy491];exact H)|exact H
            have Ny491:=Aside0.mk hy491
            clear hy491
            obtain ⟨y492,hy492⟩:∃ y_:List Int,y_=(y491.set ((ji16):Int).toNat (rd x3_2 x6_2)):=⟨_,rfl⟩
            replace H:(insolvencyref1_written.l1 k2 y492 (wrap64 (x6_2+1)))=some r:=by first|(rw [hy492];with_reducible exact H)|(have H2_:=(Option.bind_some _ _).symm.trans H;rw [hy492];with_reducible exact H2_)|(have H2_:=(Option.bind_some _ _).symm.trans H;with_reducible exact H2_)|with_reducible exact H|(rw [hy492];exact H)|exact H
            have Ny492:=Aside0.mk hy492
            clear hy492
            have H':=Aside0.mk H
            clear H
            have p489:0≤(x6_2:Int):=of_decide_eq_true (by first|(with_reducible assumption)|assumption)
            have q489:x6_2<(x3_2.length:Int):=of_decide_eq_true (by first|(with_reducible assumption)|assumption)
            obtain ⟨ad489,e489,hx489_0⟩:=Kd.at_int (Kd.R_reads' HO_3.out).2.2 x6_2 p489 q489
            cases e489
            replace p489:=eq_true p489
            replace q489:=eq_true q489
            have p490:0≤((ji16):Int):=of_decide_eq_true (by first|(with_reducible assumption)|assumption)
            have q490:(ji16)<(x3_2.length:Int):=of_decide_eq_true (by first|(with_reducible assumption)|assumption)
            obtain ⟨ad490,e490,hx490_0⟩:=Kd.at_int (Kd.R_reads' HO_3.out).2.2 (ji16) p490 q490
            obtain rfl:ad489=ad490:=(by injection e490)
            replace p490:=eq_true p490
            replace q490:=eq_true q490
            have p19:0≤(x6_2:Int):=of_decide_eq_true (by first|(with_reducible assumption)|assumption)
            have q19:(x6_2:Int)<((x3_2.length:Int):Int):=of_decide_eq_true (by first|(with_reducible assumption)|assumption)
            obtain ⟨go19,co19,eo19,gb19,gl19,cl19,HG19⟩:=Kd.R_form HO_3.out (by omega)
            (first|cases eo19|(injection eo19 with ea_ en_ ec_;(first|subst ea_|(injection ea_ with ea_;subst ea_));subst ec_;clear en_))
            have GB19:=Aside0.mk gb19
            have GG19:=Aside0.mk HG19
            clear gb19 gl19 HG19
            (first|simp only [add_plain] at hx489_0|skip)
            (first|simp only [add_plain] at hx490_0|skip)
            obtain ⟨hx19_0,hf19_0⟩:=Kd.R_celln 0 HO_3.out (x6_2:Int) p19 q19
            replace p19:=eq_true p19
            replace q19:=eq_true q19
            have HP21:=Kd.R_putg HO_3.out (x6_2:Int) (rd x3_2 (ji16))
            go_wp2_with (first|((with_reducible refine gate_store (t:=5) (p:=47) rfl ?_);refine store_event (t:=5) (p:=47) (v:=?vo_w22) (w1:=(wr.setCell ⟨go19,(x6_2:Int).toNat,none⟩ (.int .u8 (rd x3_2 (ji16))))) ?hg ?ho ?hn ?hr ?_;(case ho=>rfl);(case hg=>rfl);(case hn=>rfl);(case hr=>first|(go_simp;done)|(go_simp;rfl));intro w22 hw;have hg:wr.grownBy w22 (some go19):=(by rw [hw];exact HP21.2);have hp_:Kd.R (Kd.int .u8) 5 w22 w.heap.size (fun k_=>(w.heap.size≤k_)) (.slice (some ⟨go19,0,none⟩) x3_2.length co12) y491:=(by rw [hw,Ny491.out];exact HP21.1);clear HP21;have n0_:=Aside0.mk (hp_);have n1_:=Aside0.mk ((by rw [hw];exact below_set (HB.out) GB19.out:Below w.heap.size w w22));clear HO_3;clear HB;have HO_3:=n0_;have HB:=n1_;clear n0_ n1_;clear hg hw hp_;have p20:0≤((ji16):Int):=of_decide_eq_true (by first|(with_reducible assumption)|assumption);have q20:((ji16):Int)<((x3_2.length:Int):Int):=of_decide_eq_true (by first|(with_reducible assumption)|assumption);obtain ⟨hx20_0,hf20_0⟩:=Kd.R_celln 0 HO_3.out ((ji16):Int) p20 q20;replace p20:=eq_true p20;replace q20:=eq_true q20;obtain ⟨hy23_,hz23_⟩:=Kd.R_celln 0 HO_3.out ((ji16):Int) (of_decide_eq_true (by first|(with_reducible assumption)|assumption)) (of_decide_eq_true (by first|(with_reducible assumption)|assumption));have HP23:=Kd.R_putg HO_3.out ((ji16):Int) (rd x3_2 x6_2))|((with_reducible refine gate_store (t:=5) (p:=55) rfl ?_);refine store_event (t:=5) (p:=55) (v:=?vo_w24) (w1:=(w22.setCell ⟨go19,((ji16):Int).toNat,none⟩ (.int .u8 (rd x3_2 x6_2)))) ?hg ?ho ?hn ?hr ?_;(case ho=>rfl);(case hg=>rfl);(case hn=>rfl);(case hr=>first|(go_simp;done)|(go_simp;rfl));intro w24 hw;have hg:w22.grownBy w24 (some go19):=(by rw [hw];exact HP23.2);have hp_:Kd.R (Kd.int .u8) 5 w24 w.heap.size (fun k_=>(w.heap.size≤k_)) (.slice (some ⟨go19,0,none⟩) x3_2.length co12) y492:=(by rw [hw,Ny492.out];exact HP23.1);clear HP23;have n0_:=Aside0.mk (hp_);have n1_:=Aside0.mk ((by rw [hw];exact below_set (HB.out) GB19.out:Below w.heap.size w w24));clear HO_3;clear HB;have HO_3:=n0_;have HB:=n1_;clear n0_ n1_;clear hg hw hp_))
            (try simp only [← hl3_2])
            go_roundg k2
            case measure=>have:=HK1.out;have:=HK2.out;omega
            case rel=>exact ⟨(y492),(wrap64 (x6_2+1)),(by first|rfl|(simp;done)|(simp [*];done)),H',⟨by have:=HK1.out;have:=HK2.out;omega⟩,⟨by (try simp only [hl3_2]);(with_reducible repeat (first|apply Kd.R_alloc|apply Kd.R_drewN|apply Kd.R_drew));exact HO_3.out⟩,⟨by repeat (first|(with_reducible first|exact HB.out|apply below_alloc|apply pw_below_drewN|apply below_drew1)|exact HB.out)⟩⟩
           ·rw [if_neg c18] at H
            exact absurd H (by simp)
          ·rw [if_neg c17] at H
           exact absurd H (by simp)
         ·rw [if_neg c15] at H
          exact absurd H (by simp)
        ·rw [if_neg c14] at H
         exact absurd H (by simp)
       ·rw [if_neg c13] at H
        have c13b0:decide (x6_2<(wrap64 ((x3_2.length:Int)/2)))=false:=decide_eq_false c13
        clear c13
        obtain rfl:=Option.some.inj H
        have hcv25:=own_string (P:=Tryd.prog) Tryd.underlying37 Tryd.underlying5 Tryd.underlying9 (Kd.own_of_R HO_3.out)
        go_wp2
        go_ret
        exact ⟨by first|rfl|(simp [errW_none,errW_some] <;> rfl)|(simp [*,errW_none,errW_some] <;> rfl),by repeat (first|(with_reducible first|exact HB.out|apply below_alloc|apply pw_below_drewN|apply below_drew1)|exact HB.out)⟩
end Go.Proofs.YtjaflmhdclmolaaDoor.F
end
section
namespace Go.Proofs.YtjaflmhdclmolaaDoor.F
open Go.RowKit Go.Proofs.YtjaflmhdclmolaaDoorW.PrintWords Go.Proofs.YtjaflmhdclmolaaDoorW.PrintLast Go.Proofs.YtjaflmhdclmolaaDoorW.PrintMore
attribute [local go_sem] max2_int min2_int max_two min_two max_three min_three max_four min_four   
set_option linter.unusedVariables false
set_option linter.unusedSimpArgs false
def insolvencyref1_NatFormat.f (k:Nat) (a0:ByteArray):Option (ByteArray):=(insolvencyref1_limbs.f k a0).bind fun t493=>((insolvencyref1_written.f k t493).bind fun t496=>(some t496))
theorem insolvencyref1_NatFormat.mono:∀ a0 k,LeO (insolvencyref1_NatFormat.f k a0) (insolvencyref1_NatFormat.f (k+1) a0):=by
 intro a0 k
 unfold insolvencyref1_NatFormat.f
 repeat' first
  | (with_reducible exact insolvencyref1_limbs.mono _ _)
  | (with_reducible exact insolvencyref1_written.mono _ _)
  | (with_reducible exact LeO.refl _)
  | (with_reducible exact LeO.none _)
  | (with_reducible refine LeO.ite ?_ ?_)
  | (with_reducible refine LeO.bind ?_ (fun _=>?_))
  | exact insolvencyref1_limbs.mono _ _
  | exact insolvencyref1_written.mono _ _
  | exact LeO.none _
  | refine LeO.ite ?_ ?_
  | refine LeO.bind ?_ (fun _=>?_)
set_option maxHeartbeats 8000000 in
set_option maxRecDepth 100000 in
theorem insolvencyref1_NatFormat.calls (k:Nat) (a0:ByteArray) (r:ByteArray) (w:World) (h:insolvencyref1_NatFormat.f k a0=some r) :
 Calls Tryd.prog 29 #[.string a0] w fun e w'=>e = .returned (.string r)∧Below w.heap.size w w':=by
 have HB:=Aside0.mk (Below.refl w.heap.size w)
 have H:((insolvencyref1_limbs.f k a0).bind fun t493=>((insolvencyref1_written.f k t493).bind fun t496=>(some t496)))=some r:=h
 clear h
 replace H:=Option.bind_eq_some_iff.mp H
 obtain ⟨t493,A20,H⟩:=H
 replace H:((insolvencyref1_written.f k t493).bind fun t496=>(some t496))=some r:=H
 have A2:=Aside0.mk A20
 clear A20
 replace H:=Option.bind_eq_some_iff.mp H
 obtain ⟨t496,A30,H⟩:=H
 replace H:(some t496)=some r:=H
 have A3:=Aside0.mk A30
 clear A30
 obtain rfl:=Option.some.inj H
 go_enter Tryd.func29,Tryd.ntmps29
 go_wp2_with (first|((with_reducible refine gate_callee (f:=45) rfl ?_);refine goesL_ (some 4) rfl rfl Tryd.func45 (by kernel_rfl) rfl #[.string a0] rfl (by (try simp only [List.map_toArray,List.map_cons,List.map_nil]);first|done|rfl|(simp only [List.length_drop,List.length_take];rfl)) ?_;(with_reducible refine (insolvencyref1_limbs.calls k a0 t493 _ A2.out).mono ?_);rintro e w4 ⟨v494,rfl,ho0,hb⟩;refine ⟨_,rfl,?_⟩;have n0_:=Aside0.mk (Kd.R_lower ho0 (below_size (by repeat (first|(with_reducible first|exact HB.out|apply below_alloc|apply pw_below_drewN|apply below_drew1)|exact HB.out))));have n1_:=Aside0.mk (below_step (by repeat (first|(with_reducible first|exact HB.out|apply below_alloc|apply pw_below_drewN|apply below_drew1)|exact HB.out)) hb);clear HB;have HO495:=n0_;have HB:=n1_;clear n0_ n1_;(try clear hb);(try clear hb2);(try clear hk);(try clear hi);(try clear ho0);obtain ⟨Ao5,co5,eo5⟩:=Kd.R_slice HO495.out;subst eo5)|((with_reducible refine gate_callee (f:=58) rfl ?_);refine goesL_ (some 5) rfl rfl Tryd.func58 (by kernel_rfl) rfl #[.slice Ao5 t493.length co5] rfl (by (try simp only [List.map_toArray,List.map_cons,List.map_nil]);first|done|rfl|(simp only [List.length_drop,List.length_take];rfl)) ?_;(with_reducible refine (insolvencyref1_written.calls k (fun k_=>some k_=(.slice Ao5 t493.length co5:Value).ownBlock) _ _ t493 t496 _ ?side1 A3.out).mono ?_);(case side1=>exact Kd.R_V (Kd.R_tight rfl (HO495.out)));rintro e w6 ⟨rfl,hb⟩;refine ⟨_,rfl,?_⟩;have n0_:=Aside0.mk (Kd.R_below (by (with_reducible repeat (first|apply Kd.R_alloc|apply Kd.R_drewN|apply Kd.R_drew));exact HO495.out) hb);have n1_:=Aside0.mk (below_step (by repeat (first|(with_reducible first|exact HB.out|apply below_alloc|apply pw_below_drewN|apply below_drew1)|exact HB.out)) hb);clear HO495;clear HB;have HO495:=n0_;have HB:=n1_;clear n0_ n1_;(try clear hb);(try clear hb2);(try clear hk);(try clear hi)))
 go_ret
 exact ⟨by first|rfl|(simp [errW_none,errW_some] <;> rfl)|(simp [*,errW_none,errW_some] <;> rfl),by repeat (first|(with_reducible first|exact HB.out|apply below_alloc|apply pw_below_drewN|apply below_drew1)|exact HB.out)⟩
end Go.Proofs.YtjaflmhdclmolaaDoor.F
end
section
namespace Go.Proofs.YtjaflmhdclmolaaDoor.Num
open Go.RowKit Go.Proofs.YtjaflmhdclmolaaDoorW.PrintWords Go.Proofs.YtjaflmhdclmolaaDoorW.PrintLast Go.Proofs.YtjaflmhdclmolaaDoorW.PrintMore Go.Proofs.YtjaflmhdclmolaaDoor.F
set_option linter.unusedVariables false
def isD (b:UInt8):Bool:=decide (48≤b.toNat) && decide (b.toNat≤57)
theorem isD_iff (b:UInt8):isD b=true↔48≤b.toNat∧b.toNat≤57:=by unfold isD;simp
def dok (s:ByteArray):Bool:=s.data.toList.all isD && (decide (s.size≠0) && (decide (bt s 0≠48) || decide (s.size=1)))
def parseOf (s:ByteArray):ByteArray×Int:=if dok s=true then (if s.size>2000 then (⟨#[]⟩,2) else (S (dval s.data.toList:Int),0)) else (⟨#[]⟩,3)
theorem dok_ds {s:ByteArray} (h:dok s=true):Ds s.data.toList:=by
 unfold dok at h
 rw [Bool.and_eq_true] at h
 exact fun b hb=>(isD_iff b).1 (List.all_eq_true.1 h.1 b hb)
theorem drop_byte {s:ByteArray} {i:Nat} {b:UInt8} {r:List UInt8} (h:s.data.toList.drop i=b :: r):i<s.size∧bt s (i:Int)=(b.toNat:Int)∧s.data.toList.drop (i+1)=r∧s.data.toList.take (i+1)=s.data.toList.take i ++ [b]:=by
 have hi:i<s.data.toList.length:=by
  rcases Nat.lt_or_ge i s.data.toList.length with q|q
  ·exact q
  ·rw [List.drop_of_length_le q] at h;cases h
 have hs:i<s.size:=by rw [Array.length_toList] at hi;exact hi
 rw [← List.getElem_cons_drop hi] at h
 have h1:=(List.cons.inj h).1
 refine ⟨hs,?_,(List.cons.inj h).2,?_⟩
 ·rw [bt_get s i hs,h1]
 ·rw [← h1,List.take_append_getElem]
theorem drop_end {s:ByteArray} {i:Nat} (h:s.data.toList.drop i=[]):s.size≤i:=by
 have:=List.drop_eq_nil_iff.1 h
 rw [Array.length_toList] at this
 exact this
theorem size_nil {s:ByteArray} : s.toList=([]:List UInt8)↔s.size=0:=by
 rw [Lib.toList_data]
 constructor
 ·intro h
  have:=congrArg List.length h
  rw [Array.length_toList] at this
  exact this
 ·intro h
  exact List.eq_nil_of_length_eq_zero (by rw [Array.length_toList];exact h)
theorem muladd_loop (f:Int) (f0:0≤f) (f1:f<4294967296) (xs:List Int):∀ (o:List Int) (c:Int),Dig o→Dig xs→0≤c→c<4294967296→o.length+xs.length≤1000000 →
 ∃ l,Dig l∧l.length≤o.length+xs.length+1∧val l=val o+4294967296 ^ o.length*(f*val xs+c)∧Ev (fun k=>natural_multiplyAdd.l0 k (o ++ xs) f c ((o.length+xs.length:Nat):Int) (o.length:Int)) l:=by
 induction xs with
 | nil=>
  intro o c ho hx c0 c1 hl
  by_cases hc:0<c
  ·refine ⟨o ++ [c],snoc_dig ho c0 c1,by rw [snoc_len];simp,by rw [val_app];simp [val],?_⟩
   refine Ev.step (f:=fun _=>some (o ++ [c])) (fun k=>?_) (Ev.now _)
   simp only [natural_multiplyAdd.l0]
   rw [List.append_nil,List.length_nil,if_neg (by omega),if_pos hc,if_pos (by omega),Int.emod_eq_of_lt c0 c1]
  ·refine ⟨o,ho,by omega,by rw [show c=0 by omega];simp [val],?_⟩
   refine Ev.step (f:=fun _=>some o) (fun k=>?_) (Ev.now _)
   simp only [natural_multiplyAdd.l0]
   rw [List.append_nil,List.length_nil,if_neg (by omega),if_neg (by omega)]
 | cons a xs ih=>
  intro o c ho hx c0 c1 hl
  rw [List.length_cons] at hl
  have ba:=hx.head
  have bp:=mul_le ba.1 ba.2 f0 f1
  have hq:∀ t:Int,0≤t→t≤18446744065119617025+4294967295→0≤t%4294967296∧t%4294967296<4294967296∧0≤t/4294967296∧t/4294967296<4294967296:=fun t _ _=>by omega
  have bt:=hq (a*f+c) (by omega) (by omega)
  obtain ⟨l,l1,l2,l3,l4⟩:=ih (o ++ [(a*f+c)%4294967296]) ((a*f+c)/4294967296) (snoc_dig ho bt.1 bt.2.1) hx.tail bt.2.2.1 bt.2.2.2 (by rw [snoc_len];omega)
  rw [snoc_len] at l2 l4
  have e:=divmod_eq (a*f+c) 4294967296
  have e2:=vsnoc o ((a*f+c)%4294967296) (f*val xs+(a*f+c)/4294967296)
  refine ⟨l,l1,by rw [List.length_cons];omega,?_,?_⟩
  ·rw [l3,e2]
   congr 2
   simp only [val,Int.mul_add]
   rw [Int.mul_left_comm f 4294967296,Int.mul_comm f a]
   generalize (a*f+c)/4294967296=z1 at *
   generalize (a*f+c)%4294967296=z2 at *
   omega
  ·rw [List.append_assoc,List.singleton_append] at l4
   have hr:rd (o ++ a :: xs) (o.length:Int)=a:=rd_at _ _ _ _ rfl
   have hs:∀ d,(o ++ a :: xs).set o.length d=o ++ d :: xs:=fun d=>by rw [set_snoc,List.append_assoc,List.singleton_append]
   refine Ev.step (fun k=>?_) l4
   simp only [natural_multiplyAdd.l0]
   rw [List.length_cons,hr,wu (n:=a) (by omega) (by omega),wu (n:=f) (by omega) (by omega),wu (n:=a*f) (by omega) (by omega),wu (n:=a*f+c) (by omega) (by omega),if_pos (by omega),if_pos (by omega),if_pos (by rw [List.length_append,List.length_cons];omega),Int.toNat_natCast,hs,winc (by omega),show o.length+(xs.length+1)=o.length+1+xs.length by omega]
theorem muladd_ev (l:List Int) (hd:Dig l) (hl:l.length≤1000000) (f d:Int) (f0:0≤f) (f1:f<4294967296) (d0:0≤d) (d1:d<4294967296):∃ l',Dig l'∧l'.length≤l.length+1∧val l'=f*val l+d∧Ev (fun k=>natural_multiplyAdd.f k l f d) l':=by
 obtain ⟨l',h1,h2,h3,h4⟩:=muladd_loop f f0 f1 l [] d Dig.nil hd d0 d1 (by simpa using hl)
 refine ⟨l',h1,by simpa using h2,by rw [h3];simp [val],?_⟩
 unfold natural_multiplyAdd.f
 rw [wu (n:=d) (by omega) (by omega)]
 rw [List.nil_append,List.length_nil,Nat.zero_add] at h4
 exact h4
theorem decparse_loop (s:ByteArray) (hs:s.size≤100000) (hd:Ds s.data.toList) (r:List UInt8):∀ (i:Nat) (l:List Int),s.data.toList.drop i=r→i≤s.size→Dig l→l.length≤i→val l=(dval (s.data.toList.take i):Int)→Ev (fun k=>natural_Parse.l0 k s l (s.size:Int) (i:Int)) (S (dval s.data.toList:Int),0):=by
 induction r with
 | nil=>
  intro i l h1 h2 hl hll hv
  have h3:=drop_end h1
  rw [List.take_of_length_le (by rw [Array.length_toList];exact h3)] at hv
  refine Ev.step (f:=fun k=>(natural_limbs_trim.f k l).bind fun t=>(natural_limbs_text.f k t).bind fun t2=>some (t2,0)) (fun k=>?_) (Ev.bind (trim_ev l (by omega)) (Ev.bind (text_ev (tr_dig hl) (by have:=tr_len l;omega)) ?_))
  ·simp only [natural_Parse.l0]
   rw [if_neg (by omega)]
  ·rw [tr_val,hv]
   exact Ev.now _
 | cons b r ih=>
  intro i l h1 h2 hl hll hv
  obtain ⟨b1,b2,b3,b4⟩:=drop_byte h1
  have hb:=hd b (List.mem_of_mem_drop (by rw [h1];exact List.mem_cons_self))
  obtain ⟨l',q1,q2,q3,q4⟩:=muladd_ev l hl (by omega) 10 ((b.toNat:Int)-48) (by decide) (by decide) (by omega) (by omega)
  have ih:=ih (i+1) l' b3 (by omega) q1 (by omega) (by rw [q3,b4,dval_snoc,hv];omega)
  refine Ev.step (f:=fun k=>(natural_multiplyAdd.f k l 10 ((b.toNat:Int)-48)).bind fun t=>natural_Parse.l0 k s t (s.size:Int) ((i+1:Nat):Int)) (fun k=>?_) (Ev.bind q4 ih)
  simp only [natural_Parse.l0]
  rw [if_pos (by omega),if_pos (by omega),if_pos (by omega),b2,winc (by omega),Int.emod_eq_of_lt (a:=(b.toNat:Int)-48) (by omega) (by omega)]
theorem dw_nil {p:UInt8→Bool} (l:List UInt8):l.dropWhile p=[] ↔ ∀ b ∈ l,p b=true:=by
 induction l with
 | nil=>exact ⟨fun _ _ h=>absurd h List.not_mem_nil,fun _=>rfl⟩
 | cons x r ih=>
  by_cases h:p x=true
  ·rw [List.dropWhile_cons_of_pos h,ih]
   constructor
   ·intro q b hb
    rcases List.mem_cons.1 hb with e|e
    ·rw [e];exact h
    ·exact q b e
   ·exact fun q b hb=>q b (List.mem_cons_of_mem _ hb)
  ·rw [List.dropWhile_cons_of_neg h]
   exact ⟨fun q=>(by cases q),fun q=>absurd (q x List.mem_cons_self) h⟩
theorem trimS_nil (l cs:List UInt8):Lib.trimS l cs=[] ↔ ∀ b ∈ l,cs.contains b=true:=by
 unfold Lib.trimS Lib.trimLeftS Lib.trimRightS
 rw [dw_nil]
 constructor
 ·intro h
  have h2:l.reverse.dropWhile (fun x=>cs.contains x)=[]:=by
   cases hq:l.reverse.dropWhile (fun x=>cs.contains x) with
   | nil=>rfl
   | cons x r=>
    have h3:=h x (by rw [hq];simp)
    have h4:=List.head?_dropWhile_not (fun x=>cs.contains x) l.reverse
    rw [hq] at h4
    simp only [List.head?_cons] at h4
    rw [h3] at h4
    exact absurd h4 (by simp)
  rw [dw_nil] at h2
  exact fun b hb=>h2 b (List.mem_reverse.2 hb)
 ·intro h x hx
  rw [List.mem_reverse] at hx
  exact h x (List.mem_reverse.1 ((List.dropWhile_sublist _).subset hx))
theorem tens (b:UInt8):[48,49,50,51,52,53,54,55,56,57].contains b=isD b:=by
 rw [Bool.eq_iff_iff,isD_iff,List.contains_iff_mem]
 simp only [List.mem_cons,List.not_mem_nil,or_false,← UInt8.toNat_inj]
 simp only [show (48:UInt8).toNat=48 from rfl,show (49:UInt8).toNat=49 from rfl,show (50:UInt8).toNat=50 from rfl,show (51:UInt8).toNat=51 from rfl,show (52:UInt8).toNat=52 from rfl,show (53:UInt8).toNat=53 from rfl,show (54:UInt8).toNat=54 from rfl,show (55:UInt8).toNat=55 from rfl,show (56:UInt8).toNat=56 from rfl,show (57:UInt8).toNat=57 from rfl]
 omega
theorem Parse_ev (s:ByteArray) (hs:s.size≤100000):Ev (fun k=>natural_Parse.f k s) (parseOf s):=by
 have hno:dok s≠true→Ev (fun k=>natural_Parse.j0 k s true) (parseOf s):=fun h=>by
  unfold parseOf
  rw [if_neg h]
  refine Ev.step (f:=fun _=>some ((⟨#[]⟩:ByteArray),(3:Int))) (fun k=>?_) (Ev.now _)
  simp only [natural_Parse.j0]
  rw [if_pos trivial]
 have htr:strings_Trim.f s (⟨#[48,49,50,51,52,53,54,55,56,57]⟩:ByteArray)=some ⟨(Lib.trimS s.data.toList [48,49,50,51,52,53,54,55,56,57]).toArray⟩:=by
  unfold strings_Trim.f
  rw [if_pos (by omega),if_pos (by decide),if_pos (by decide)]
 have hall:(s.size≠0)→(bt s 0≠48∨s.size=1)→Ev (fun k=>(strings_Trim.f s (⟨#[48,49,50,51,52,53,54,55,56,57]⟩:ByteArray)).bind fun t=>natural_Parse.j0 k s (t.toList != ([]:List UInt8))) (parseOf s):=fun h0 h1=>by
  rw [htr]
  simp only [Option.bind_some]
  have hdk:dok s=s.data.toList.all isD:=by
   unfold dok
   rw [decide_eq_true h0,Bool.true_and]
   rcases h1 with h1|h1
   ·rw [decide_eq_true h1,Bool.true_or,Bool.and_true]
   ·rw [decide_eq_true h1,Bool.or_true,Bool.and_true]
  have hiff:Lib.trimS s.data.toList [48,49,50,51,52,53,54,55,56,57]=[]↔dok s=true:=by
   rw [trimS_nil,hdk,List.all_eq_true]
   constructor
   ·intro h b hb;rw [← tens];exact h b hb
   ·intro h b hb;rw [tens];exact h b hb
  rw [Lib.toList_data]
  show Ev (fun k=>natural_Parse.j0 k s (Lib.trimS s.data.toList [48,49,50,51,52,53,54,55,56,57] != [])) _
  by_cases h:dok s=true
  ·rw [hiff.2 h]
   unfold parseOf
   rw [if_pos h]
   by_cases h2:s.size>2000
   ·rw [if_pos h2]
    refine Ev.step (f:=fun _=>some ((⟨#[]⟩:ByteArray),(2:Int))) (fun k=>?_) (Ev.now _)
    simp only [natural_Parse.j0]
    rw [if_neg (by decide),if_pos (by omega)]
   ·rw [if_neg h2]
    have g:=decparse_loop s hs (dok_ds h) s.data.toList 0 [] rfl (Nat.zero_le _) Dig.nil (Nat.le_refl _) rfl
    refine Ev.step (fun k=>?_) g
    simp only [natural_Parse.j0]
    rw [if_neg (by decide),if_neg (by omega)]
    rfl
  ·have hne:Lib.trimS s.data.toList [48,49,50,51,52,53,54,55,56,57]≠[]:=fun q=>h (hiff.1 q)
   rw [show (Lib.trimS s.data.toList [48,49,50,51,52,53,54,55,56,57] != [])=true from bne_iff_ne.2 hne]
   exact hno h
 unfold natural_Parse.f
 by_cases h0:s.size=0
 ·refine Ev.ite (size_nil.2 h0) (hno ?_)
  unfold dok
  rw [decide_eq_false (show ¬ s.size≠0 from fun q=>q h0),Bool.false_and,Bool.and_false]
  decide
 ·refine Ev.ite_not (fun q=>h0 (size_nil.1 q)) ?_
  by_cases h1:s.size=1
  ·exact Ev.ite_not (by omega) (hall h0 (.inr h1))
  ·refine Ev.ite (by omega) (Ev.ite (by omega) ?_)
   by_cases hb:bt s 0=48
   ·refine Ev.ite hb (hno ?_)
    unfold dok
    rw [decide_eq_false (show ¬ bt s 0≠48 from fun q=>q hb),decide_eq_false h1,Bool.or_false,Bool.and_false,Bool.and_false]
    decide
   ·exact Ev.ite_not hb (hall h0 (.inl hb))
theorem rd_pq (P m Q:List Int) (y:Int):rd (P ++ (m ++ y :: Q)) ((P.length+m.length:Nat):Int)=y:=by
 rw [← List.append_assoc]
 exact rd_at _ _ _ _ (by rw [List.length_append])
theorem set_pq (P m Q:List Int) (x y z:Int):((P ++ (x :: (m ++ y :: Q))).set P.length z).set (P.length+1+m.length) x=(P ++ [z]) ++ (m ++ (x :: Q)):=by
 rw [set_snoc]
 have:=set_snoc ((P ++ [z]) ++ m) x y Q
 rw [List.length_append,snoc_len,List.append_assoc] at this
 rw [this]
 simp only [List.append_assoc,List.cons_append,List.nil_append]
theorem two_ends (m:List Int) (h:2≤m.length):∃ x r y,m=x :: (r ++ [y]):=by
 cases m with
 | nil=>simp at h
 | cons x m=>
  rcases snoc_cases m with rfl|⟨r,y,rfl⟩
  ·simp at h
  ·exact ⟨x,r,y,rfl⟩
theorem short_rev (m:List Int) (h:m.length<2):m.reverse=m:=by
 cases m with
 | nil=>rfl
 | cons x m=>
  cases m with
  | nil=>rfl
  | cons y m=>simp only [List.length_cons] at h;omega
theorem reverse_loop (n:Nat):∀ (P m Q:List Int),m.length≤n→P.length=Q.length→(P ++ (m ++ Q)).length≤1000000000 →
 Ev (fun k=>slices_Reverse_byte_byte.l0 k (P ++ (m ++ Q)) (P.length:Int) ((P.length:Int)+(m.length:Int)-1)) (P ++ (m.reverse ++ Q)):=by
 induction n with
 | zero=>
  intro P m Q h1 h2 h3
  rw [short_rev m (by omega)]
  refine Ev.step (f:=fun _=>some (P ++ (m ++ Q))) (fun k=>?_) (Ev.now _)
  simp only [slices_Reverse_byte_byte.l0]
  rw [if_neg (by omega)]
 | succ n ih=>
  intro P m Q h1 h2 h3
  by_cases hm:m.length<2
  ·rw [short_rev m hm]
   refine Ev.step (f:=fun _=>some (P ++ (m ++ Q))) (fun k=>?_) (Ev.now _)
   simp only [slices_Reverse_byte_byte.l0]
   rw [if_neg (by omega)]
  ·obtain ⟨x,r,y,rfl⟩:=two_ends m (by omega)
   have e0:P ++ (x :: (r ++ [y]) ++ Q)=P ++ (x :: (r ++ y :: Q)):=by simp
   have e1:(x :: (r ++ [y])).length=r.length+2:=by simp
   have hlen:(P ++ (x :: (r ++ y :: Q))).length=P.length+r.length+2+Q.length:=by simp only [List.length_append,List.length_cons];omega
   rw [e0,hlen] at h3
   have ih:=ih (P ++ [y]) r (x :: Q) (by rw [e1] at h1;omega) (by rw [snoc_len,List.length_cons];omega) (by simp only [List.length_append,List.length_cons,List.length_nil];omega)
   have e2:(P ++ [y]) ++ (r.reverse ++ x :: Q)=P ++ ((x :: (r ++ [y])).reverse ++ Q):=by simp
   rw [e2,snoc_len] at ih
   have r1:rd (P ++ (x :: (r ++ y :: Q))) (P.length:Int)=x:=rd_at _ _ _ _ rfl
   have r2:rd (P ++ (x :: (r ++ y :: Q))) ((P.length+1+r.length:Nat):Int)=y:=by
    have:=rd_pq (P ++ [x]) r Q y
    rw [snoc_len,List.append_assoc,List.singleton_append] at this
    exact this
   rw [e0,e1]
   refine Ev.step (fun k=>?_) ih
   simp only [slices_Reverse_byte_byte.l0]
   rw [show (P.length:Int)+((r.length+2:Nat):Int)-1=((P.length+1+r.length:Nat):Int) by omega,r1,r2,hlen,if_pos (by omega),if_pos (by omega),if_pos (by omega),if_pos (by omega),if_pos (by omega),Int.toNat_natCast,Int.toNat_natCast,set_pq,winc (by omega),w64 (n:=((P.length+1+r.length:Nat):Int)-1) (by omega) (by omega),show ((P.length+1+r.length:Nat):Int)-1=((P.length+1:Nat):Int)+(r.length:Int)-1 by omega]
theorem reverse_ev (l:List Int) (hl:l.length≤1000000000):Ev (fun k=>slices_Reverse_byte_byte.f k l) l.reverse:=by
 have g:=reverse_loop l.length [] l [] (Nat.le_refl _) rfl (by simpa using hl)
 rw [List.nil_append,List.nil_append,List.append_nil,List.append_nil,List.length_nil] at g
 unfold slices_Reverse_byte_byte.f
 rw [w64 (by omega) (by omega),show (l.length:Int)-1=((0:Nat):Int)+(l.length:Int)-1 by omega]
 exact g
def D (n:Int):ByteArray:=if n=0 then ⟨#[48]⟩ else ⟨(dec n.toNat).toArray⟩
theorem trim0 (l:List Int) (h:Dg l):strings_TrimLeft.f (strOfNums l.reverse) (⟨#[48]⟩:ByteArray)=some ⟨(dec (ldec l).toNat).toArray⟩:=by
 unfold strings_TrimLeft.f
 rw [if_pos (show (⟨#[48]⟩:ByteArray).size=1 from rfl),if_pos (show bt ⟨#[48]⟩ 0<128 by decide)]
 have h1:=dcanon _ (ds_nums l h)
 have h2:=dval_nums l h
 rw [← h2,Int.toNat_natCast,← h1]
 show some _=some _
 rw [show (⟨#[48]⟩:ByteArray).data.toList=[48] from rfl,Lib.trimLeftS_one,strOfNums_data]
 rfl
theorem Dg.nonneg {l:List Int} (h:Dg l):0≤ldec l:=by
 induction l with
 | nil=>exact Int.le_refl _
 | cons x r ih=>
  have:=h x List.mem_cons_self
  have:=ih (fun y hy=>h y (List.mem_cons_of_mem _ hy))
  simp only [ldec];omega
theorem ldec_snoc (l:List Int) (d v:Int):ldec (l ++ [48+d])+10 ^ (l ++ [48+d]).length*v=ldec l+10 ^ l.length*(d+10*v):=by
 rw [ldec_app,snoc_len,Int.pow_succ,Int.mul_add,Int.mul_assoc]
 simp only [ldec,Int.mul_zero,Int.add_zero]
 rw [show 48+d-48=d by omega]
 omega
theorem format_l1 (x3:List Int) (R:ByteArray) (m:Nat):∀ (i:Nat) (x4:List Int) (x5:Int),i+m=9→Dg x4→x4.length+m≤1000000000→0≤x5→x5<10 ^ m→x5<4294967296 →
 (∀ l,Dg l→l.length=x4.length+m→ldec l=ldec x4+10 ^ x4.length*x5→Ev (fun k=>natural_Format.l0 k x3 l) R)→Ev (fun k=>natural_Format.l1 k x3 x4 x5 (i:Int)) R:=by
 induction m with
 | zero=>
  intro i x4 x5 hi hd hl h0 h1 h2 hc
  have h5:x5=0:=by simp at h1;omega
  have g:=hc x4 hd rfl (by rw [h5];simp)
  refine Ev.step (fun k=>?_) g
  simp only [natural_Format.l1]
  rw [if_neg (by omega)]
 | succ m ih=>
  intro i x4 x5 hi hd hl h0 h1 h2 hc
  have hlt:x5/10<10 ^ m:=by
   rw [Int.pow_succ] at h1
   exact Int.ediv_lt_of_lt_mul (by decide) h1
  have g:=ih (i+1) (x4 ++ [48+x5%10]) (x5/10) (by omega) (hd.app (Dg.one (by omega) (by omega))) (by rw [snoc_len];omega) (by omega) hlt (by omega) (fun l a1 a2 a3=>hc l a1 (by rw [a2,snoc_len];omega) (by rw [a3,ldec_snoc,show x5%10+10*(x5/10)=x5 by omega]))
  refine Ev.step (fun k=>?_) g
  simp only [natural_Format.l1]
  rw [if_pos (by omega),if_pos (by omega),Int.tmod_eq_emod_of_nonneg h0,Int.tdiv_eq_ediv_of_nonneg h0,Int.emod_eq_of_lt (a:=48+x5%10) (b:=4294967296) (by omega) (by omega),Int.emod_eq_of_lt (a:=48+x5%10) (b:=256) (by omega) (by omega),Int.emod_eq_of_lt (a:=x5/10) (b:=4294967296) (by omega) (by omega),winc (by omega)]
theorem format_l0 (f:Nat):∀ (v:Int) (x4:List Int),0≤v→v<2 ^ f→(L v).length≤400000→Dg x4→x4.length+9*f≤1000000000→Ev (fun k=>natural_Format.l0 k (L v) x4) ⟨(dec (ldec x4+10 ^ x4.length*v).toNat).toArray⟩:=by
 have hz:∀ x4:List Int,Dg x4→x4.length≤1000000000→Ev (fun k=>natural_Format.l0 k (L 0) x4) ⟨(dec (ldec x4+10 ^ x4.length*0).toNat).toArray⟩:=fun x4 hd hl=>by
  rw [Int.mul_zero,Int.add_zero]
  refine Ev.step (f:=fun k=>(slices_Reverse_byte_byte.f k x4).bind fun t=>(strings_TrimLeft.f (strOfNums t) (⟨#[48]⟩:ByteArray)).bind fun t2=>some t2) (fun k=>?_) (Ev.bind (reverse_ev x4 hl) ?_)
  ·simp only [natural_Format.l0]
   rw [L_zero,if_neg (by simp)]
  ·rw [trim0 x4 hd]
   exact Ev.now _
 induction f with
 | zero=>
  intro v x4 h0 h1 hl hd hx
  have hv:v=0:=by simp at h1;omega
  rw [hv]
  exact hz x4 hd (by omega)
 | succ f ih=>
  intro v x4 h0 h1 hl hd hx
  by_cases hv:v=0
  ·rw [hv]
   exact hz x4 hd (by omega)
  ·have hv0:0<v:=by omega
   have q0:=Int.ediv_nonneg h0 (show (0:Int)≤1000000000 by decide)
   have q1:v/1000000000<2 ^ f:=by
    rw [Int.pow_succ] at h1
    have:(0:Int)<2 ^ f:=Int.pow_pos (by decide)
    omega
   have q2:=L_mono q0 (show v/1000000000≤v by omega)
   have r0:=Int.emod_nonneg v (show (1000000000:Int)≠0 by decide)
   have r1:=Int.emod_lt_of_pos v (show (0:Int)<1000000000 by decide)
   have g:=divideSmall_ev (L v) (L_dig h0) hl 1000000000 (by decide) (by decide)
   rw [L_val h0] at g
   have hne:(L v).length≠0:=fun e=>L_ne hv0 (List.eq_nil_of_length_eq_zero e)
   have g2:=format_l1 (L (v/1000000000)) ⟨(dec (ldec x4+10 ^ x4.length*v).toNat).toArray⟩ 9 0 x4 (v%1000000000) rfl hd (by omega) r0 (by simpa using r1) (by omega) (fun l a1 a2 a3=>by
    have ih:=ih (v/1000000000) l q0 q1 (by omega) a1 (by omega)
    rw [a3,a2] at ih
    have e1:ldec x4+10 ^ x4.length*(v%1000000000)+10 ^ (x4.length+9)*(v/1000000000)=ldec x4+10 ^ x4.length*v:=by
     rw [Int.pow_add,Int.mul_assoc,Int.add_assoc,← Int.mul_add]
     congr 2
     rw [show (10:Int) ^ 9=1000000000 by decide]
     omega
    rw [e1] at ih
    exact ih)
   refine Ev.step (f:=fun k=>(natural_divideSmall.f k (L v) 1000000000).bind fun bt=>natural_Format.l1 k bt.1 x4 bt.2 0) (fun k=>?_) (Ev.bind g g2)
   simp only [natural_Format.l0]
   rw [if_pos (by omega)]
theorem two_pow (n:Nat):(4294967296:Int) ^ n=2 ^ (32*n):=by
 rw [Int.pow_mul];rfl
theorem Format_ev (s:ByteArray) (hs:s.size≤800000):Ev (fun k=>natural_Format.f k s) (D (B s)):=by
 have h1:=B_nonneg s
 have l1:=B_small (s:=s) (m:=200000) (by omega)
 refine Ev.bind (parse_ev s (by omega)) ?_
 unfold D
 by_cases h:B s=0
 ·rw [if_pos h,h,L_zero]
  exact Ev.ite rfl (Ev.now _)
 ·rw [if_neg h]
  refine Ev.ite_not (fun e=>L_ne (show 0<B s by omega) (List.eq_nil_of_length_eq_zero (by omega))) ?_
  have hlt:=L_lt h1
  rw [two_pow] at hlt
  have g:=format_l0 (32*(L (B s)).length) (B s) [] h1 hlt (by omega) Dg.nil (by rw [List.length_nil];omega)
  rw [show ldec []+10 ^ ([]:List Int).length*B s=B s by simp [ldec]] at g
  exact g
end Go.Proofs.YtjaflmhdclmolaaDoor.Num
end
section
namespace Go.Proofs.YtjaflmhdclmolaaDoor.Num
open Go.RowKit Go.Proofs.YtjaflmhdclmolaaDoorW.PrintWords Go.Proofs.YtjaflmhdclmolaaDoorW.PrintLast Go.Proofs.YtjaflmhdclmolaaDoorW.PrintMore Go.Proofs.YtjaflmhdclmolaaDoor.F
set_option maxRecDepth 100000 in
theorem awake_div:natural_Divide.f 40 ⟨#[3,232]⟩ ⟨#[7]⟩=some (⟨#[142]⟩,⟨#[6]⟩,true):=by kernel_rfl
set_option maxRecDepth 100000 in
theorem awake_parse:natural_Parse.f 40 ⟨#[48,48,55]⟩=some (⟨#[]⟩,3):=by kernel_rfl
set_option maxRecDepth 100000 in
theorem awake_add:natural_Add.f 40 ⟨#[255]⟩ ⟨#[1]⟩=some ⟨#[1,0]⟩:=by kernel_rfl
set_option maxRecDepth 100000 in
theorem awake_fmt1:natural_Format.f 40 ⟨#[142]⟩=some ⟨#[49,52,50]⟩:=by kernel_rfl
set_option maxRecDepth 100000 in
theorem awake_fmt2:natural_Format.f 40 ⟨#[6]⟩=some ⟨#[54]⟩:=by kernel_rfl
theorem awake_ev:Ev (fun k=>insolvencylaw1_awake.f k) true:=by
 refine Ev.of (fun k=>insolvencylaw1_awake.mono k) (k:=40) ?_
 unfold insolvencylaw1_awake.f
 rw [awake_div,Option.bind_some,awake_parse,Option.bind_some,awake_add,Option.bind_some,if_pos (by rw [Lib.toList_data]),if_pos rfl,awake_fmt1,Option.bind_some,if_pos (by rw [Lib.toList_data]),awake_fmt2,Option.bind_some,if_pos (by rw [Lib.toList_data])]
 rfl
end Go.Proofs.YtjaflmhdclmolaaDoor.Num
end
section
namespace Go.Proofs.YtjaflmhdclmolaaDoor.Num
open Go.RowKit Go.Proofs.YtjaflmhdclmolaaDoorW.PrintWords Go.Proofs.YtjaflmhdclmolaaDoorW.PrintLast Go.Proofs.YtjaflmhdclmolaaDoorW.PrintMore Go.Proofs.YtjaflmhdclmolaaDoor.F
theorem some_of {g:Nat→Option Bool} (h:Ev g true):∃ k,g k=some true:=h.elim fun K hK=>⟨K,hK K (Nat.le_refl _)⟩
end Go.Proofs.YtjaflmhdclmolaaDoor.Num
end
section
namespace Go.Proofs.YtjaflmhdclmolaaDoor.F
open Go.RowKit Go.Proofs.YtjaflmhdclmolaaDoorW.PrintWords Go.Proofs.YtjaflmhdclmolaaDoorW.PrintLast Go.Proofs.YtjaflmhdclmolaaDoorW.PrintMore
attribute [local go_sem] max2_int min2_int max_two min_two max_three min_three max_four min_four   
set_option linter.unusedVariables false
set_option linter.unusedSimpArgs false
def insolvencylaw1_NaturalBack.f (k:Nat) (a0:ByteArray) (a1:ByteArray):Option (Bool):=(insolvencylaw1_few.f k (([a0,a1]:List ByteArray))).bind fun t717=>(if t717=true then ((natural_Format.f k a0).bind fun t719=>((natural_Parse.f k t719).bind fun bt720=>((natural_Add.f k a0 a1).bind fun t722=>((natural_Subtract.f k t722 a1).bind fun bt723=>((insolvencylaw1_awake.f k).bind fun t725=>(if t725=true then (if bt720.2=0 then ((natural_Normalize.f a0).bind fun t726=>(if bt720.1.toList=t726.toList then (if bt723.2=true then ((natural_Normalize.f a0).bind fun t727=>(some (bt723.1.toList == t727.toList))) else (some false)) else (some false))) else (some false)) else (some false))))))) else ((insolvencylaw1_awake.f k).bind fun t718=>(some t718)))
theorem insolvencylaw1_NaturalBack.mono:∀ a0 a1 k,LeO (insolvencylaw1_NaturalBack.f k a0 a1) (insolvencylaw1_NaturalBack.f (k+1) a0 a1):=by
 intro a0 a1 k
 unfold insolvencylaw1_NaturalBack.f
 repeat' first
  | (with_reducible exact insolvencylaw1_awake.mono _)
  | (with_reducible exact insolvencylaw1_few.mono _ _)
  | (with_reducible exact natural_Add.mono _ _ _)
  | (with_reducible exact natural_Format.mono _ _)
  | (with_reducible exact natural_Parse.mono _ _)
  | (with_reducible exact natural_Subtract.mono _ _ _)
  | (with_reducible exact LeO.refl _)
  | (with_reducible exact LeO.none _)
  | (with_reducible refine LeO.ite ?_ ?_)
  | (with_reducible refine LeO.bind ?_ (fun _=>?_))
  | exact insolvencylaw1_awake.mono _
  | exact insolvencylaw1_few.mono _ _
  | exact natural_Add.mono _ _ _
  | exact natural_Format.mono _ _
  | exact natural_Parse.mono _ _
  | exact natural_Subtract.mono _ _ _
  | exact LeO.none _
  | refine LeO.ite ?_ ?_
  | refine LeO.bind ?_ (fun _=>?_)
set_option maxHeartbeats 8000000 in
set_option maxRecDepth 100000 in
theorem insolvencylaw1_NaturalBack.calls (k:Nat) (a0:ByteArray) (a1:ByteArray) (r:Bool) (w:World) (h:insolvencylaw1_NaturalBack.f k a0 a1=some r) :
 Calls Tryd.prog 15 #[.string a0,.string a1] w fun e w'=>e = .returned (.bool r)∧Below w.heap.size w w':=by
 have HB:=Aside0.mk (Below.refl w.heap.size w)
 have H:((insolvencylaw1_few.f k (([a0,a1]:List ByteArray))).bind fun t717=>(if t717=true then ((natural_Format.f k a0).bind fun t719=>((natural_Parse.f k t719).bind fun bt720=>((natural_Add.f k a0 a1).bind fun t722=>((natural_Subtract.f k t722 a1).bind fun bt723=>((insolvencylaw1_awake.f k).bind fun t725=>(if t725=true then (if bt720.2=0 then ((natural_Normalize.f a0).bind fun t726=>(if bt720.1.toList=t726.toList then (if bt723.2=true then ((natural_Normalize.f a0).bind fun t727=>(some (bt723.1.toList == t727.toList))) else (some false)) else (some false))) else (some false)) else (some false))))))) else ((insolvencylaw1_awake.f k).bind fun t718=>(some t718))))=some r:=h
 clear h
 obtain ⟨y714,hy714⟩:∃ y_:List ByteArray,y_=(([a0,a1]:List ByteArray)):=⟨_,rfl⟩
 replace H:((insolvencylaw1_few.f k y714).bind fun t717=>(if t717=true then ((natural_Format.f k a0).bind fun t719=>((natural_Parse.f k t719).bind fun bt720=>((natural_Add.f k a0 a1).bind fun t722=>((natural_Subtract.f k t722 a1).bind fun bt723=>((insolvencylaw1_awake.f k).bind fun t725=>(if t725=true then (if bt720.2=0 then ((natural_Normalize.f a0).bind fun t726=>(if bt720.1.toList=t726.toList then (if bt723.2=true then ((natural_Normalize.f a0).bind fun t727=>(some (bt723.1.toList == t727.toList))) else (some false)) else (some false))) else (some false)) else (some false))))))) else ((insolvencylaw1_awake.f k).bind fun t718=>(some t718))))=some r:=by first|(rw [hy714];with_reducible exact H)|(have H2_:=(Option.bind_some _ _).symm.trans H;rw [hy714];with_reducible exact H2_)|(have H2_:=(Option.bind_some _ _).symm.trans H;with_reducible exact H2_)|with_reducible exact H|(rw [hy714];exact H)|exact H
 have Ny714:=Aside0.mk hy714
 clear hy714
 replace H:=Option.bind_eq_some_iff.mp H
 obtain ⟨t717,A30,H⟩:=H
 replace H:(if t717=true then ((natural_Format.f k a0).bind fun t719=>((natural_Parse.f k t719).bind fun bt720=>((natural_Add.f k a0 a1).bind fun t722=>((natural_Subtract.f k t722 a1).bind fun bt723=>((insolvencylaw1_awake.f k).bind fun t725=>(if t725=true then (if bt720.2=0 then ((natural_Normalize.f a0).bind fun t726=>(if bt720.1.toList=t726.toList then (if bt723.2=true then ((natural_Normalize.f a0).bind fun t727=>(some (bt723.1.toList == t727.toList))) else (some false)) else (some false))) else (some false)) else (some false))))))) else ((insolvencylaw1_awake.f k).bind fun t718=>(some t718)))=some r:=H
 have A3:=Aside0.mk A30
 clear A30
 by_cases c4:t717=true
 ·subst c4
  have H1:((natural_Format.f k a0).bind fun t719=>((natural_Parse.f k t719).bind fun bt720=>((natural_Add.f k a0 a1).bind fun t722=>((natural_Subtract.f k t722 a1).bind fun bt723=>((insolvencylaw1_awake.f k).bind fun t725=>(if t725=true then (if bt720.2=0 then ((natural_Normalize.f a0).bind fun t726=>(if bt720.1.toList=t726.toList then (if bt723.2=true then ((natural_Normalize.f a0).bind fun t727=>(some (bt723.1.toList == t727.toList))) else (some false)) else (some false))) else (some false)) else (some false)))))))=some r:=by rw [if_pos rfl] at H;exact H
  clear H
  have H:=H1
  clear H1
  replace H:=Option.bind_eq_some_iff.mp H
  obtain ⟨t719,A50,H⟩:=H
  replace H:((natural_Parse.f k t719).bind fun bt720=>((natural_Add.f k a0 a1).bind fun t722=>((natural_Subtract.f k t722 a1).bind fun bt723=>((insolvencylaw1_awake.f k).bind fun t725=>(if t725=true then (if bt720.2=0 then ((natural_Normalize.f a0).bind fun t726=>(if bt720.1.toList=t726.toList then (if bt723.2=true then ((natural_Normalize.f a0).bind fun t727=>(some (bt723.1.toList == t727.toList))) else (some false)) else (some false))) else (some false)) else (some false))))))=some r:=H
  have A5:=Aside0.mk A50
  clear A50
  replace H:=Option.bind_eq_some_iff.mp H
  obtain ⟨⟨t720,t721⟩,A60,H⟩:=H
  replace H:((natural_Add.f k a0 a1).bind fun t722=>((natural_Subtract.f k t722 a1).bind fun bt723=>((insolvencylaw1_awake.f k).bind fun t725=>(if t725=true then (if t721=0 then ((natural_Normalize.f a0).bind fun t726=>(if t720.toList=t726.toList then (if bt723.2=true then ((natural_Normalize.f a0).bind fun t727=>(some (bt723.1.toList == t727.toList))) else (some false)) else (some false))) else (some false)) else (some false)))))=some r:=H
  have A6:=Aside0.mk A60
  clear A60
  replace H:=Option.bind_eq_some_iff.mp H
  obtain ⟨t722,A70,H⟩:=H
  replace H:((natural_Subtract.f k t722 a1).bind fun bt723=>((insolvencylaw1_awake.f k).bind fun t725=>(if t725=true then (if t721=0 then ((natural_Normalize.f a0).bind fun t726=>(if t720.toList=t726.toList then (if bt723.2=true then ((natural_Normalize.f a0).bind fun t727=>(some (bt723.1.toList == t727.toList))) else (some false)) else (some false))) else (some false)) else (some false))))=some r:=H
  have A7:=Aside0.mk A70
  clear A70
  replace H:=Option.bind_eq_some_iff.mp H
  obtain ⟨⟨t723,t724⟩,A80,H⟩:=H
  replace H:((insolvencylaw1_awake.f k).bind fun t725=>(if t725=true then (if t721=0 then ((natural_Normalize.f a0).bind fun t726=>(if t720.toList=t726.toList then (if t724=true then ((natural_Normalize.f a0).bind fun t727=>(some (t723.toList == t727.toList))) else (some false)) else (some false))) else (some false)) else (some false)))=some r:=H
  have A8:=Aside0.mk A80
  clear A80
  replace H:=Option.bind_eq_some_iff.mp H
  obtain ⟨t725,A90,H⟩:=H
  replace H:(if t725=true then (if t721=0 then ((natural_Normalize.f a0).bind fun t726=>(if t720.toList=t726.toList then (if t724=true then ((natural_Normalize.f a0).bind fun t727=>(some (t723.toList == t727.toList))) else (some false)) else (some false))) else (some false)) else (some false))=some r:=H
  have A9:=Aside0.mk A90
  clear A90
  by_cases c10:t725=true
  ·subst c10
   have H1:(if t721=0 then ((natural_Normalize.f a0).bind fun t726=>(if t720.toList=t726.toList then (if t724=true then ((natural_Normalize.f a0).bind fun t727=>(some (t723.toList == t727.toList))) else (some false)) else (some false))) else (some false))=some r:=by rw [if_pos rfl] at H;exact H
   clear H
   have H:=H1
   clear H1
   by_cases c11:t721=0
   ·rw [if_pos c11] at H
    have c11b0:(t721 == 0)=true:=beq_iff_eq.mpr c11
    have c11b1:(t721 != 0)=false:=bne_eq_false_iff_eq.mpr c11
    clear c11
    replace H:=Option.bind_eq_some_iff.mp H
    obtain ⟨t726,A120,H⟩:=H
    replace H:(if t720.toList=t726.toList then (if t724=true then ((natural_Normalize.f a0).bind fun t727=>(some (t723.toList == t727.toList))) else (some false)) else (some false))=some r:=H
    have A12:=Aside0.mk A120
    clear A120
    by_cases c13:t720.toList=t726.toList
    ·rw [if_pos c13] at H
     have c13b0:(t720.toList == t726.toList)=true:=beq_iff_eq.mpr c13
     have c13b1:(t720.toList != t726.toList)=false:=bne_eq_false_iff_eq.mpr c13
     clear c13
     by_cases c14:t724=true
     ·subst c14
      have H1:((natural_Normalize.f a0).bind fun t727=>(some (t723.toList == t727.toList)))=some r:=by rw [if_pos rfl] at H;exact H
      clear H
      have H:=H1
      clear H1
      replace H:=Option.bind_eq_some_iff.mp H
      obtain ⟨t727,A150,H⟩:=H
      replace H:(some (t723.toList == t727.toList))=some r:=H
      have A15:=Aside0.mk A150
      clear A150
      obtain rfl:=Option.some.inj H
      have E_:=Aside0.mk (Option.some.inj (A12.out.symm.trans A15.out))
      go_enter Tryd.func15,Tryd.ntmps15
      go_wp2_with (first|((with_reducible refine gate_dst (N:=11) rfl ?_);refine Kd.R_lit Kd.string _ 9 ?hg (N:=11) ?hd (xs:=([a0,a1]:List ByteArray)) (inner:=[.string a0,.string a1]) (ok:=fun _=>True) (okp:=fun _=>True) ?hr ?hp (fun _ hk=>hk) trivial (Below.refl _ _) (Nat.le_refl _) (by simp) ?_;(case hd=>rfl);(case hg=>rfl);(case hr=>first|(go_simp;done)|(go_simp;rfl));(case hp=>exact (Reps.one (show Kd.M Kd.string _ _ _ a0 [.string a0] from rfl) (Reps.one (show Kd.M Kd.string _ _ _ a1 [.string a1] from rfl) (Reps.none _ _))));intro v715 w16 ho17 hb hg_ hnew_;clear hg_ hnew_;(first|rw [← Ny714.out] at ho17|(simp only [Int.reduceToNat] at ho17;rw [← Ny714.out] at ho17));have n0_:=Aside0.mk (Kd.R_lower ho17 (below_size (by repeat (first|(with_reducible first|exact HB.out|apply below_alloc|apply pw_below_drewN|apply below_drew1)|exact HB.out))));have n1_:=Aside0.mk (below_step (by repeat (first|(with_reducible first|exact HB.out|apply below_alloc|apply pw_below_drewN|apply below_drew1)|exact HB.out)) hb);clear HB;have HO716:=n0_;have HB:=n1_;clear n0_ n1_;clear hb ho17;obtain ⟨Ao18,co18,eo18⟩:=Kd.R_slice HO716.out;subst eo18)|((with_reducible refine gate_callee (f:=20) rfl ?_);refine goesL_ (some 12) rfl rfl Tryd.func20 (by kernel_rfl) rfl #[.slice Ao18 y714.length co18] rfl (by (try simp only [List.map_toArray,List.map_cons,List.map_nil]);first|done|rfl|(simp only [List.length_drop,List.length_take];rfl)) ?_;(with_reducible refine (insolvencylaw1_few.calls k _ _ y714 true _ ?side1 ?side2 A3.out).mono ?_);(case side1=>repeat (first|exact (Kd.R_reads' HO716.out).2.2|(with_reducible refine Kd.C_alloc ?_ _)|(with_reducible refine Kd.C_drewN ?_ _)|(with_reducible refine Kd.C_drew ?_)));(case side2=>exact (Kd.R_reads' HO716.out).2.1);rintro e w' ⟨rfl,⟨nd,rfl⟩⟩;refine ⟨_,rfl,?_⟩)|((with_reducible refine gate_callee (f:=28) rfl ?_);refine goesL_ (some 17) rfl rfl Tryd.func28 (by kernel_rfl) rfl #[.string a0] rfl (by (try simp only [List.map_toArray,List.map_cons,List.map_nil]);first|done|rfl|(simp only [List.length_drop,List.length_take];rfl)) ?_;(with_reducible refine (natural_Format.calls k a0 t719 _ A5.out).mono ?_);rintro e w19 ⟨rfl,hb⟩;refine ⟨_,rfl,?_⟩;have n0_:=Aside0.mk (Kd.R_below (by (with_reducible repeat (first|apply Kd.R_alloc|apply Kd.R_drewN|apply Kd.R_drew));exact HO716.out) hb);have n1_:=Aside0.mk (below_step (by repeat (first|(with_reducible first|exact HB.out|apply below_alloc|apply pw_below_drewN|apply below_drew1)|exact HB.out)) hb);clear HO716;clear HB;have HO716:=n0_;have HB:=n1_;clear n0_ n1_;(try clear hb);(try clear hb2);(try clear hk);(try clear hi))|((with_reducible refine gate_callee (f:=26) rfl ?_);refine goesL_ (some 18) rfl rfl Tryd.func26 (by kernel_rfl) rfl #[.string t719] rfl (by (try simp only [List.map_toArray,List.map_cons,List.map_nil]);first|done|rfl|(simp only [List.length_drop,List.length_take];rfl)) ?_;(with_reducible refine (natural_Parse.calls k t719 t720 t721 _ A6.out).mono ?_);rintro e w20 ⟨rfl,hb⟩;refine ⟨_,rfl,?_⟩;have n0_:=Aside0.mk (Kd.R_below (by (with_reducible repeat (first|apply Kd.R_alloc|apply Kd.R_drewN|apply Kd.R_drew));exact HO716.out) hb);have n1_:=Aside0.mk (below_step (by repeat (first|(with_reducible first|exact HB.out|apply below_alloc|apply pw_below_drewN|apply below_drew1)|exact HB.out)) hb);clear HO716;clear HB;have HO716:=n0_;have HB:=n1_;clear n0_ n1_;(try clear hb);(try clear hb2);(try clear hk);(try clear hi))|((with_reducible refine gate_callee (f:=24) rfl ?_);refine goesL_ (some 24) rfl rfl Tryd.func24 (by kernel_rfl) rfl #[.string a0,.string a1] rfl (by (try simp only [List.map_toArray,List.map_cons,List.map_nil]);first|done|rfl|(simp only [List.length_drop,List.length_take];rfl)) ?_;(with_reducible refine (natural_Add.calls k a0 a1 t722 _ A7.out).mono ?_);rintro e w21 ⟨rfl,hb⟩;refine ⟨_,rfl,?_⟩;have n0_:=Aside0.mk (Kd.R_below (by (with_reducible repeat (first|apply Kd.R_alloc|apply Kd.R_drewN|apply Kd.R_drew));exact HO716.out) hb);have n1_:=Aside0.mk (below_step (by repeat (first|(with_reducible first|exact HB.out|apply below_alloc|apply pw_below_drewN|apply below_drew1)|exact HB.out)) hb);clear HO716;clear HB;have HO716:=n0_;have HB:=n1_;clear n0_ n1_;(try clear hb);(try clear hb2);(try clear hk);(try clear hi))|((with_reducible refine gate_callee (f:=38) rfl ?_);refine goesL_ (some 26) rfl rfl Tryd.func38 (by kernel_rfl) rfl #[.string t722,.string a1] rfl (by (try simp only [List.map_toArray,List.map_cons,List.map_nil]);first|done|rfl|(simp only [List.length_drop,List.length_take];rfl)) ?_;(with_reducible refine (natural_Subtract.calls k t722 a1 t723 true _ A8.out).mono ?_);rintro e w22 ⟨rfl,hb⟩;refine ⟨_,rfl,?_⟩;have n0_:=Aside0.mk (Kd.R_below (by (with_reducible repeat (first|apply Kd.R_alloc|apply Kd.R_drewN|apply Kd.R_drew));exact HO716.out) hb);have n1_:=Aside0.mk (below_step (by repeat (first|(with_reducible first|exact HB.out|apply below_alloc|apply pw_below_drewN|apply below_drew1)|exact HB.out)) hb);clear HO716;clear HB;have HO716:=n0_;have HB:=n1_;clear n0_ n1_;(try clear hb);(try clear hb2);(try clear hk);(try clear hi))|((with_reducible refine gate_callee (f:=17) rfl ?_);refine goesL_ (some 29) rfl rfl Tryd.func17 (by kernel_rfl) rfl #[] rfl (by (try simp only [List.map_toArray,List.map_cons,List.map_nil]);first|done|rfl|(simp only [List.length_drop,List.length_take];rfl)) ?_;(with_reducible refine (insolvencylaw1_awake.calls k  true _ A9.out).mono ?_);rintro e w23 ⟨rfl,hb⟩;refine ⟨_,rfl,?_⟩;have n0_:=Aside0.mk (Kd.R_below (by (with_reducible repeat (first|apply Kd.R_alloc|apply Kd.R_drewN|apply Kd.R_drew));exact HO716.out) hb);have n1_:=Aside0.mk (below_step (by repeat (first|(with_reducible first|exact HB.out|apply below_alloc|apply pw_below_drewN|apply below_drew1)|exact HB.out)) hb);clear HO716;clear HB;have HO716:=n0_;have HB:=n1_;clear n0_ n1_;(try clear hb);(try clear hb2);(try clear hk);(try clear hi))|(go_at_call 18;(with_reducible refine (natural_Normalize.calls a0 t726 _ A12.out).mono ?_);rintro e w' ⟨rfl,⟨nd,rfl⟩⟩)|(go_at_call 18;(with_reducible refine (natural_Normalize.calls a0 t727 _ A15.out).mono ?_);rintro e w' ⟨rfl,⟨nd,rfl⟩⟩))
      go_ret
      exact ⟨by first|(rw [E_.out];rfl)|(rw [← E_.out];rfl)|rfl|(simp [errW_none,errW_some] <;> rfl)|(simp [*,errW_none,errW_some] <;> rfl),by repeat (first|(with_reducible first|exact HB.out|apply below_alloc|apply pw_below_drewN|apply below_drew1)|exact HB.out)⟩
     ·replace c14:=Bool.eq_false_iff.mpr c14
      subst c14
      have H1:(some false)=some r:=by rw [if_neg (show ¬ (false=true) by decide)] at H;exact H
      clear H
      have H:=H1
      clear H1
      obtain rfl:=Option.some.inj H
      go_enter Tryd.func15,Tryd.ntmps15
      go_wp2_with (first|((with_reducible refine gate_dst (N:=11) rfl ?_);refine Kd.R_lit Kd.string _ 9 ?hg (N:=11) ?hd (xs:=([a0,a1]:List ByteArray)) (inner:=[.string a0,.string a1]) (ok:=fun _=>True) (okp:=fun _=>True) ?hr ?hp (fun _ hk=>hk) trivial (Below.refl _ _) (Nat.le_refl _) (by simp) ?_;(case hd=>rfl);(case hg=>rfl);(case hr=>first|(go_simp;done)|(go_simp;rfl));(case hp=>exact (Reps.one (show Kd.M Kd.string _ _ _ a0 [.string a0] from rfl) (Reps.one (show Kd.M Kd.string _ _ _ a1 [.string a1] from rfl) (Reps.none _ _))));intro v715 w24 ho25 hb hg_ hnew_;clear hg_ hnew_;(first|rw [← Ny714.out] at ho25|(simp only [Int.reduceToNat] at ho25;rw [← Ny714.out] at ho25));have n0_:=Aside0.mk (Kd.R_lower ho25 (below_size (by repeat (first|(with_reducible first|exact HB.out|apply below_alloc|apply pw_below_drewN|apply below_drew1)|exact HB.out))));have n1_:=Aside0.mk (below_step (by repeat (first|(with_reducible first|exact HB.out|apply below_alloc|apply pw_below_drewN|apply below_drew1)|exact HB.out)) hb);clear HB;have HO716:=n0_;have HB:=n1_;clear n0_ n1_;clear hb ho25;obtain ⟨Ao26,co26,eo26⟩:=Kd.R_slice HO716.out;subst eo26)|((with_reducible refine gate_callee (f:=20) rfl ?_);refine goesL_ (some 12) rfl rfl Tryd.func20 (by kernel_rfl) rfl #[.slice Ao26 y714.length co26] rfl (by (try simp only [List.map_toArray,List.map_cons,List.map_nil]);first|done|rfl|(simp only [List.length_drop,List.length_take];rfl)) ?_;(with_reducible refine (insolvencylaw1_few.calls k _ _ y714 true _ ?side1 ?side2 A3.out).mono ?_);(case side1=>repeat (first|exact (Kd.R_reads' HO716.out).2.2|(with_reducible refine Kd.C_alloc ?_ _)|(with_reducible refine Kd.C_drewN ?_ _)|(with_reducible refine Kd.C_drew ?_)));(case side2=>exact (Kd.R_reads' HO716.out).2.1);rintro e w' ⟨rfl,⟨nd,rfl⟩⟩;refine ⟨_,rfl,?_⟩)|((with_reducible refine gate_callee (f:=28) rfl ?_);refine goesL_ (some 17) rfl rfl Tryd.func28 (by kernel_rfl) rfl #[.string a0] rfl (by (try simp only [List.map_toArray,List.map_cons,List.map_nil]);first|done|rfl|(simp only [List.length_drop,List.length_take];rfl)) ?_;(with_reducible refine (natural_Format.calls k a0 t719 _ A5.out).mono ?_);rintro e w27 ⟨rfl,hb⟩;refine ⟨_,rfl,?_⟩;have n0_:=Aside0.mk (Kd.R_below (by (with_reducible repeat (first|apply Kd.R_alloc|apply Kd.R_drewN|apply Kd.R_drew));exact HO716.out) hb);have n1_:=Aside0.mk (below_step (by repeat (first|(with_reducible first|exact HB.out|apply below_alloc|apply pw_below_drewN|apply below_drew1)|exact HB.out)) hb);clear HO716;clear HB;have HO716:=n0_;have HB:=n1_;clear n0_ n1_;(try clear hb);(try clear hb2);(try clear hk);(try clear hi))|((with_reducible refine gate_callee (f:=26) rfl ?_);refine goesL_ (some 18) rfl rfl Tryd.func26 (by kernel_rfl) rfl #[.string t719] rfl (by (try simp only [List.map_toArray,List.map_cons,List.map_nil]);first|done|rfl|(simp only [List.length_drop,List.length_take];rfl)) ?_;(with_reducible refine (natural_Parse.calls k t719 t720 t721 _ A6.out).mono ?_);rintro e w28 ⟨rfl,hb⟩;refine ⟨_,rfl,?_⟩;have n0_:=Aside0.mk (Kd.R_below (by (with_reducible repeat (first|apply Kd.R_alloc|apply Kd.R_drewN|apply Kd.R_drew));exact HO716.out) hb);have n1_:=Aside0.mk (below_step (by repeat (first|(with_reducible first|exact HB.out|apply below_alloc|apply pw_below_drewN|apply below_drew1)|exact HB.out)) hb);clear HO716;clear HB;have HO716:=n0_;have HB:=n1_;clear n0_ n1_;(try clear hb);(try clear hb2);(try clear hk);(try clear hi))|((with_reducible refine gate_callee (f:=24) rfl ?_);refine goesL_ (some 24) rfl rfl Tryd.func24 (by kernel_rfl) rfl #[.string a0,.string a1] rfl (by (try simp only [List.map_toArray,List.map_cons,List.map_nil]);first|done|rfl|(simp only [List.length_drop,List.length_take];rfl)) ?_;(with_reducible refine (natural_Add.calls k a0 a1 t722 _ A7.out).mono ?_);rintro e w29 ⟨rfl,hb⟩;refine ⟨_,rfl,?_⟩;have n0_:=Aside0.mk (Kd.R_below (by (with_reducible repeat (first|apply Kd.R_alloc|apply Kd.R_drewN|apply Kd.R_drew));exact HO716.out) hb);have n1_:=Aside0.mk (below_step (by repeat (first|(with_reducible first|exact HB.out|apply below_alloc|apply pw_below_drewN|apply below_drew1)|exact HB.out)) hb);clear HO716;clear HB;have HO716:=n0_;have HB:=n1_;clear n0_ n1_;(try clear hb);(try clear hb2);(try clear hk);(try clear hi))|((with_reducible refine gate_callee (f:=38) rfl ?_);refine goesL_ (some 26) rfl rfl Tryd.func38 (by kernel_rfl) rfl #[.string t722,.string a1] rfl (by (try simp only [List.map_toArray,List.map_cons,List.map_nil]);first|done|rfl|(simp only [List.length_drop,List.length_take];rfl)) ?_;(with_reducible refine (natural_Subtract.calls k t722 a1 t723 false _ A8.out).mono ?_);rintro e w30 ⟨rfl,hb⟩;refine ⟨_,rfl,?_⟩;have n0_:=Aside0.mk (Kd.R_below (by (with_reducible repeat (first|apply Kd.R_alloc|apply Kd.R_drewN|apply Kd.R_drew));exact HO716.out) hb);have n1_:=Aside0.mk (below_step (by repeat (first|(with_reducible first|exact HB.out|apply below_alloc|apply pw_below_drewN|apply below_drew1)|exact HB.out)) hb);clear HO716;clear HB;have HO716:=n0_;have HB:=n1_;clear n0_ n1_;(try clear hb);(try clear hb2);(try clear hk);(try clear hi))|((with_reducible refine gate_callee (f:=17) rfl ?_);refine goesL_ (some 29) rfl rfl Tryd.func17 (by kernel_rfl) rfl #[] rfl (by (try simp only [List.map_toArray,List.map_cons,List.map_nil]);first|done|rfl|(simp only [List.length_drop,List.length_take];rfl)) ?_;(with_reducible refine (insolvencylaw1_awake.calls k  true _ A9.out).mono ?_);rintro e w31 ⟨rfl,hb⟩;refine ⟨_,rfl,?_⟩;have n0_:=Aside0.mk (Kd.R_below (by (with_reducible repeat (first|apply Kd.R_alloc|apply Kd.R_drewN|apply Kd.R_drew));exact HO716.out) hb);have n1_:=Aside0.mk (below_step (by repeat (first|(with_reducible first|exact HB.out|apply below_alloc|apply pw_below_drewN|apply below_drew1)|exact HB.out)) hb);clear HO716;clear HB;have HO716:=n0_;have HB:=n1_;clear n0_ n1_;(try clear hb);(try clear hb2);(try clear hk);(try clear hi))|(go_at_call 18;(with_reducible refine (natural_Normalize.calls a0 t726 _ A12.out).mono ?_);rintro e w' ⟨rfl,⟨nd,rfl⟩⟩))
      go_ret
      exact ⟨by first|rfl|(simp [errW_none,errW_some] <;> rfl)|(simp [*,errW_none,errW_some] <;> rfl),by repeat (first|(with_reducible first|exact HB.out|apply below_alloc|apply pw_below_drewN|apply below_drew1)|exact HB.out)⟩
    ·rw [if_neg c13] at H
     have c13b0:(t720.toList == t726.toList)=false:=beq_eq_false_iff_ne.mpr c13
     have c13b1:(t720.toList != t726.toList)=true:=bne_iff_ne.mpr c13
     obtain rfl:=Option.some.inj H
     go_enter Tryd.func15,Tryd.ntmps15
     go_wp2_with (first|((with_reducible refine gate_dst (N:=11) rfl ?_);refine Kd.R_lit Kd.string _ 9 ?hg (N:=11) ?hd (xs:=([a0,a1]:List ByteArray)) (inner:=[.string a0,.string a1]) (ok:=fun _=>True) (okp:=fun _=>True) ?hr ?hp (fun _ hk=>hk) trivial (Below.refl _ _) (Nat.le_refl _) (by simp) ?_;(case hd=>rfl);(case hg=>rfl);(case hr=>first|(go_simp;done)|(go_simp;rfl));(case hp=>exact (Reps.one (show Kd.M Kd.string _ _ _ a0 [.string a0] from rfl) (Reps.one (show Kd.M Kd.string _ _ _ a1 [.string a1] from rfl) (Reps.none _ _))));intro v715 w32 ho33 hb hg_ hnew_;clear hg_ hnew_;(first|rw [← Ny714.out] at ho33|(simp only [Int.reduceToNat] at ho33;rw [← Ny714.out] at ho33));have n0_:=Aside0.mk (Kd.R_lower ho33 (below_size (by repeat (first|(with_reducible first|exact HB.out|apply below_alloc|apply pw_below_drewN|apply below_drew1)|exact HB.out))));have n1_:=Aside0.mk (below_step (by repeat (first|(with_reducible first|exact HB.out|apply below_alloc|apply pw_below_drewN|apply below_drew1)|exact HB.out)) hb);clear HB;have HO716:=n0_;have HB:=n1_;clear n0_ n1_;clear hb ho33;obtain ⟨Ao34,co34,eo34⟩:=Kd.R_slice HO716.out;subst eo34)|((with_reducible refine gate_callee (f:=20) rfl ?_);refine goesL_ (some 12) rfl rfl Tryd.func20 (by kernel_rfl) rfl #[.slice Ao34 y714.length co34] rfl (by (try simp only [List.map_toArray,List.map_cons,List.map_nil]);first|done|rfl|(simp only [List.length_drop,List.length_take];rfl)) ?_;(with_reducible refine (insolvencylaw1_few.calls k _ _ y714 true _ ?side1 ?side2 A3.out).mono ?_);(case side1=>repeat (first|exact (Kd.R_reads' HO716.out).2.2|(with_reducible refine Kd.C_alloc ?_ _)|(with_reducible refine Kd.C_drewN ?_ _)|(with_reducible refine Kd.C_drew ?_)));(case side2=>exact (Kd.R_reads' HO716.out).2.1);rintro e w' ⟨rfl,⟨nd,rfl⟩⟩;refine ⟨_,rfl,?_⟩)|((with_reducible refine gate_callee (f:=28) rfl ?_);refine goesL_ (some 17) rfl rfl Tryd.func28 (by kernel_rfl) rfl #[.string a0] rfl (by (try simp only [List.map_toArray,List.map_cons,List.map_nil]);first|done|rfl|(simp only [List.length_drop,List.length_take];rfl)) ?_;(with_reducible refine (natural_Format.calls k a0 t719 _ A5.out).mono ?_);rintro e w35 ⟨rfl,hb⟩;refine ⟨_,rfl,?_⟩;have n0_:=Aside0.mk (Kd.R_below (by (with_reducible repeat (first|apply Kd.R_alloc|apply Kd.R_drewN|apply Kd.R_drew));exact HO716.out) hb);have n1_:=Aside0.mk (below_step (by repeat (first|(with_reducible first|exact HB.out|apply below_alloc|apply pw_below_drewN|apply below_drew1)|exact HB.out)) hb);clear HO716;clear HB;have HO716:=n0_;have HB:=n1_;clear n0_ n1_;(try clear hb);(try clear hb2);(try clear hk);(try clear hi))|((with_reducible refine gate_callee (f:=26) rfl ?_);refine goesL_ (some 18) rfl rfl Tryd.func26 (by kernel_rfl) rfl #[.string t719] rfl (by (try simp only [List.map_toArray,List.map_cons,List.map_nil]);first|done|rfl|(simp only [List.length_drop,List.length_take];rfl)) ?_;(with_reducible refine (natural_Parse.calls k t719 t720 t721 _ A6.out).mono ?_);rintro e w36 ⟨rfl,hb⟩;refine ⟨_,rfl,?_⟩;have n0_:=Aside0.mk (Kd.R_below (by (with_reducible repeat (first|apply Kd.R_alloc|apply Kd.R_drewN|apply Kd.R_drew));exact HO716.out) hb);have n1_:=Aside0.mk (below_step (by repeat (first|(with_reducible first|exact HB.out|apply below_alloc|apply pw_below_drewN|apply below_drew1)|exact HB.out)) hb);clear HO716;clear HB;have HO716:=n0_;have HB:=n1_;clear n0_ n1_;(try clear hb);(try clear hb2);(try clear hk);(try clear hi))|((with_reducible refine gate_callee (f:=24) rfl ?_);refine goesL_ (some 24) rfl rfl Tryd.func24 (by kernel_rfl) rfl #[.string a0,.string a1] rfl (by (try simp only [List.map_toArray,List.map_cons,List.map_nil]);first|done|rfl|(simp only [List.length_drop,List.length_take];rfl)) ?_;(with_reducible refine (natural_Add.calls k a0 a1 t722 _ A7.out).mono ?_);rintro e w37 ⟨rfl,hb⟩;refine ⟨_,rfl,?_⟩;have n0_:=Aside0.mk (Kd.R_below (by (with_reducible repeat (first|apply Kd.R_alloc|apply Kd.R_drewN|apply Kd.R_drew));exact HO716.out) hb);have n1_:=Aside0.mk (below_step (by repeat (first|(with_reducible first|exact HB.out|apply below_alloc|apply pw_below_drewN|apply below_drew1)|exact HB.out)) hb);clear HO716;clear HB;have HO716:=n0_;have HB:=n1_;clear n0_ n1_;(try clear hb);(try clear hb2);(try clear hk);(try clear hi))|((with_reducible refine gate_callee (f:=38) rfl ?_);refine goesL_ (some 26) rfl rfl Tryd.func38 (by kernel_rfl) rfl #[.string t722,.string a1] rfl (by (try simp only [List.map_toArray,List.map_cons,List.map_nil]);first|done|rfl|(simp only [List.length_drop,List.length_take];rfl)) ?_;(with_reducible refine (natural_Subtract.calls k t722 a1 t723 t724 _ A8.out).mono ?_);rintro e w38 ⟨rfl,hb⟩;refine ⟨_,rfl,?_⟩;have n0_:=Aside0.mk (Kd.R_below (by (with_reducible repeat (first|apply Kd.R_alloc|apply Kd.R_drewN|apply Kd.R_drew));exact HO716.out) hb);have n1_:=Aside0.mk (below_step (by repeat (first|(with_reducible first|exact HB.out|apply below_alloc|apply pw_below_drewN|apply below_drew1)|exact HB.out)) hb);clear HO716;clear HB;have HO716:=n0_;have HB:=n1_;clear n0_ n1_;(try clear hb);(try clear hb2);(try clear hk);(try clear hi))|((with_reducible refine gate_callee (f:=17) rfl ?_);refine goesL_ (some 29) rfl rfl Tryd.func17 (by kernel_rfl) rfl #[] rfl (by (try simp only [List.map_toArray,List.map_cons,List.map_nil]);first|done|rfl|(simp only [List.length_drop,List.length_take];rfl)) ?_;(with_reducible refine (insolvencylaw1_awake.calls k  true _ A9.out).mono ?_);rintro e w39 ⟨rfl,hb⟩;refine ⟨_,rfl,?_⟩;have n0_:=Aside0.mk (Kd.R_below (by (with_reducible repeat (first|apply Kd.R_alloc|apply Kd.R_drewN|apply Kd.R_drew));exact HO716.out) hb);have n1_:=Aside0.mk (below_step (by repeat (first|(with_reducible first|exact HB.out|apply below_alloc|apply pw_below_drewN|apply below_drew1)|exact HB.out)) hb);clear HO716;clear HB;have HO716:=n0_;have HB:=n1_;clear n0_ n1_;(try clear hb);(try clear hb2);(try clear hk);(try clear hi))|(go_at_call 18;(with_reducible refine (natural_Normalize.calls a0 t726 _ A12.out).mono ?_);rintro e w' ⟨rfl,⟨nd,rfl⟩⟩))
     go_ret
     exact ⟨by first|rfl|(simp [errW_none,errW_some] <;> rfl)|(simp [*,errW_none,errW_some] <;> rfl),by repeat (first|(with_reducible first|exact HB.out|apply below_alloc|apply pw_below_drewN|apply below_drew1)|exact HB.out)⟩
   ·rw [if_neg c11] at H
    have c11b0:(t721 == 0)=false:=beq_eq_false_iff_ne.mpr c11
    have c11b1:(t721 != 0)=true:=bne_iff_ne.mpr c11
    obtain rfl:=Option.some.inj H
    go_enter Tryd.func15,Tryd.ntmps15
    go_wp2_with (first|((with_reducible refine gate_dst (N:=11) rfl ?_);refine Kd.R_lit Kd.string _ 9 ?hg (N:=11) ?hd (xs:=([a0,a1]:List ByteArray)) (inner:=[.string a0,.string a1]) (ok:=fun _=>True) (okp:=fun _=>True) ?hr ?hp (fun _ hk=>hk) trivial (Below.refl _ _) (Nat.le_refl _) (by simp) ?_;(case hd=>rfl);(case hg=>rfl);(case hr=>first|(go_simp;done)|(go_simp;rfl));(case hp=>exact (Reps.one (show Kd.M Kd.string _ _ _ a0 [.string a0] from rfl) (Reps.one (show Kd.M Kd.string _ _ _ a1 [.string a1] from rfl) (Reps.none _ _))));intro v715 w40 ho41 hb hg_ hnew_;clear hg_ hnew_;(first|rw [← Ny714.out] at ho41|(simp only [Int.reduceToNat] at ho41;rw [← Ny714.out] at ho41));have n0_:=Aside0.mk (Kd.R_lower ho41 (below_size (by repeat (first|(with_reducible first|exact HB.out|apply below_alloc|apply pw_below_drewN|apply below_drew1)|exact HB.out))));have n1_:=Aside0.mk (below_step (by repeat (first|(with_reducible first|exact HB.out|apply below_alloc|apply pw_below_drewN|apply below_drew1)|exact HB.out)) hb);clear HB;have HO716:=n0_;have HB:=n1_;clear n0_ n1_;clear hb ho41;obtain ⟨Ao42,co42,eo42⟩:=Kd.R_slice HO716.out;subst eo42)|((with_reducible refine gate_callee (f:=20) rfl ?_);refine goesL_ (some 12) rfl rfl Tryd.func20 (by kernel_rfl) rfl #[.slice Ao42 y714.length co42] rfl (by (try simp only [List.map_toArray,List.map_cons,List.map_nil]);first|done|rfl|(simp only [List.length_drop,List.length_take];rfl)) ?_;(with_reducible refine (insolvencylaw1_few.calls k _ _ y714 true _ ?side1 ?side2 A3.out).mono ?_);(case side1=>repeat (first|exact (Kd.R_reads' HO716.out).2.2|(with_reducible refine Kd.C_alloc ?_ _)|(with_reducible refine Kd.C_drewN ?_ _)|(with_reducible refine Kd.C_drew ?_)));(case side2=>exact (Kd.R_reads' HO716.out).2.1);rintro e w' ⟨rfl,⟨nd,rfl⟩⟩;refine ⟨_,rfl,?_⟩)|((with_reducible refine gate_callee (f:=28) rfl ?_);refine goesL_ (some 17) rfl rfl Tryd.func28 (by kernel_rfl) rfl #[.string a0] rfl (by (try simp only [List.map_toArray,List.map_cons,List.map_nil]);first|done|rfl|(simp only [List.length_drop,List.length_take];rfl)) ?_;(with_reducible refine (natural_Format.calls k a0 t719 _ A5.out).mono ?_);rintro e w43 ⟨rfl,hb⟩;refine ⟨_,rfl,?_⟩;have n0_:=Aside0.mk (Kd.R_below (by (with_reducible repeat (first|apply Kd.R_alloc|apply Kd.R_drewN|apply Kd.R_drew));exact HO716.out) hb);have n1_:=Aside0.mk (below_step (by repeat (first|(with_reducible first|exact HB.out|apply below_alloc|apply pw_below_drewN|apply below_drew1)|exact HB.out)) hb);clear HO716;clear HB;have HO716:=n0_;have HB:=n1_;clear n0_ n1_;(try clear hb);(try clear hb2);(try clear hk);(try clear hi))|((with_reducible refine gate_callee (f:=26) rfl ?_);refine goesL_ (some 18) rfl rfl Tryd.func26 (by kernel_rfl) rfl #[.string t719] rfl (by (try simp only [List.map_toArray,List.map_cons,List.map_nil]);first|done|rfl|(simp only [List.length_drop,List.length_take];rfl)) ?_;(with_reducible refine (natural_Parse.calls k t719 t720 t721 _ A6.out).mono ?_);rintro e w44 ⟨rfl,hb⟩;refine ⟨_,rfl,?_⟩;have n0_:=Aside0.mk (Kd.R_below (by (with_reducible repeat (first|apply Kd.R_alloc|apply Kd.R_drewN|apply Kd.R_drew));exact HO716.out) hb);have n1_:=Aside0.mk (below_step (by repeat (first|(with_reducible first|exact HB.out|apply below_alloc|apply pw_below_drewN|apply below_drew1)|exact HB.out)) hb);clear HO716;clear HB;have HO716:=n0_;have HB:=n1_;clear n0_ n1_;(try clear hb);(try clear hb2);(try clear hk);(try clear hi))|((with_reducible refine gate_callee (f:=24) rfl ?_);refine goesL_ (some 24) rfl rfl Tryd.func24 (by kernel_rfl) rfl #[.string a0,.string a1] rfl (by (try simp only [List.map_toArray,List.map_cons,List.map_nil]);first|done|rfl|(simp only [List.length_drop,List.length_take];rfl)) ?_;(with_reducible refine (natural_Add.calls k a0 a1 t722 _ A7.out).mono ?_);rintro e w45 ⟨rfl,hb⟩;refine ⟨_,rfl,?_⟩;have n0_:=Aside0.mk (Kd.R_below (by (with_reducible repeat (first|apply Kd.R_alloc|apply Kd.R_drewN|apply Kd.R_drew));exact HO716.out) hb);have n1_:=Aside0.mk (below_step (by repeat (first|(with_reducible first|exact HB.out|apply below_alloc|apply pw_below_drewN|apply below_drew1)|exact HB.out)) hb);clear HO716;clear HB;have HO716:=n0_;have HB:=n1_;clear n0_ n1_;(try clear hb);(try clear hb2);(try clear hk);(try clear hi))|((with_reducible refine gate_callee (f:=38) rfl ?_);refine goesL_ (some 26) rfl rfl Tryd.func38 (by kernel_rfl) rfl #[.string t722,.string a1] rfl (by (try simp only [List.map_toArray,List.map_cons,List.map_nil]);first|done|rfl|(simp only [List.length_drop,List.length_take];rfl)) ?_;(with_reducible refine (natural_Subtract.calls k t722 a1 t723 t724 _ A8.out).mono ?_);rintro e w46 ⟨rfl,hb⟩;refine ⟨_,rfl,?_⟩;have n0_:=Aside0.mk (Kd.R_below (by (with_reducible repeat (first|apply Kd.R_alloc|apply Kd.R_drewN|apply Kd.R_drew));exact HO716.out) hb);have n1_:=Aside0.mk (below_step (by repeat (first|(with_reducible first|exact HB.out|apply below_alloc|apply pw_below_drewN|apply below_drew1)|exact HB.out)) hb);clear HO716;clear HB;have HO716:=n0_;have HB:=n1_;clear n0_ n1_;(try clear hb);(try clear hb2);(try clear hk);(try clear hi))|((with_reducible refine gate_callee (f:=17) rfl ?_);refine goesL_ (some 29) rfl rfl Tryd.func17 (by kernel_rfl) rfl #[] rfl (by (try simp only [List.map_toArray,List.map_cons,List.map_nil]);first|done|rfl|(simp only [List.length_drop,List.length_take];rfl)) ?_;(with_reducible refine (insolvencylaw1_awake.calls k  true _ A9.out).mono ?_);rintro e w47 ⟨rfl,hb⟩;refine ⟨_,rfl,?_⟩;have n0_:=Aside0.mk (Kd.R_below (by (with_reducible repeat (first|apply Kd.R_alloc|apply Kd.R_drewN|apply Kd.R_drew));exact HO716.out) hb);have n1_:=Aside0.mk (below_step (by repeat (first|(with_reducible first|exact HB.out|apply below_alloc|apply pw_below_drewN|apply below_drew1)|exact HB.out)) hb);clear HO716;clear HB;have HO716:=n0_;have HB:=n1_;clear n0_ n1_;(try clear hb);(try clear hb2);(try clear hk);(try clear hi)))
    go_ret
    exact ⟨by first|rfl|(simp [errW_none,errW_some] <;> rfl)|(simp [*,errW_none,errW_some] <;> rfl),by repeat (first|(with_reducible first|exact HB.out|apply below_alloc|apply pw_below_drewN|apply below_drew1)|exact HB.out)⟩
  ·replace c10:=Bool.eq_false_iff.mpr c10
   subst c10
   have H1:(some false)=some r:=by rw [if_neg (show ¬ (false=true) by decide)] at H;exact H
   clear H
   have H:=H1
   clear H1
   obtain rfl:=Option.some.inj H
   go_enter Tryd.func15,Tryd.ntmps15
   go_wp2_with (first|((with_reducible refine gate_dst (N:=11) rfl ?_);refine Kd.R_lit Kd.string _ 9 ?hg (N:=11) ?hd (xs:=([a0,a1]:List ByteArray)) (inner:=[.string a0,.string a1]) (ok:=fun _=>True) (okp:=fun _=>True) ?hr ?hp (fun _ hk=>hk) trivial (Below.refl _ _) (Nat.le_refl _) (by simp) ?_;(case hd=>rfl);(case hg=>rfl);(case hr=>first|(go_simp;done)|(go_simp;rfl));(case hp=>exact (Reps.one (show Kd.M Kd.string _ _ _ a0 [.string a0] from rfl) (Reps.one (show Kd.M Kd.string _ _ _ a1 [.string a1] from rfl) (Reps.none _ _))));intro v715 w48 ho49 hb hg_ hnew_;clear hg_ hnew_;(first|rw [← Ny714.out] at ho49|(simp only [Int.reduceToNat] at ho49;rw [← Ny714.out] at ho49));have n0_:=Aside0.mk (Kd.R_lower ho49 (below_size (by repeat (first|(with_reducible first|exact HB.out|apply below_alloc|apply pw_below_drewN|apply below_drew1)|exact HB.out))));have n1_:=Aside0.mk (below_step (by repeat (first|(with_reducible first|exact HB.out|apply below_alloc|apply pw_below_drewN|apply below_drew1)|exact HB.out)) hb);clear HB;have HO716:=n0_;have HB:=n1_;clear n0_ n1_;clear hb ho49;obtain ⟨Ao50,co50,eo50⟩:=Kd.R_slice HO716.out;subst eo50)|((with_reducible refine gate_callee (f:=20) rfl ?_);refine goesL_ (some 12) rfl rfl Tryd.func20 (by kernel_rfl) rfl #[.slice Ao50 y714.length co50] rfl (by (try simp only [List.map_toArray,List.map_cons,List.map_nil]);first|done|rfl|(simp only [List.length_drop,List.length_take];rfl)) ?_;(with_reducible refine (insolvencylaw1_few.calls k _ _ y714 true _ ?side1 ?side2 A3.out).mono ?_);(case side1=>repeat (first|exact (Kd.R_reads' HO716.out).2.2|(with_reducible refine Kd.C_alloc ?_ _)|(with_reducible refine Kd.C_drewN ?_ _)|(with_reducible refine Kd.C_drew ?_)));(case side2=>exact (Kd.R_reads' HO716.out).2.1);rintro e w' ⟨rfl,⟨nd,rfl⟩⟩;refine ⟨_,rfl,?_⟩)|((with_reducible refine gate_callee (f:=28) rfl ?_);refine goesL_ (some 17) rfl rfl Tryd.func28 (by kernel_rfl) rfl #[.string a0] rfl (by (try simp only [List.map_toArray,List.map_cons,List.map_nil]);first|done|rfl|(simp only [List.length_drop,List.length_take];rfl)) ?_;(with_reducible refine (natural_Format.calls k a0 t719 _ A5.out).mono ?_);rintro e w51 ⟨rfl,hb⟩;refine ⟨_,rfl,?_⟩;have n0_:=Aside0.mk (Kd.R_below (by (with_reducible repeat (first|apply Kd.R_alloc|apply Kd.R_drewN|apply Kd.R_drew));exact HO716.out) hb);have n1_:=Aside0.mk (below_step (by repeat (first|(with_reducible first|exact HB.out|apply below_alloc|apply pw_below_drewN|apply below_drew1)|exact HB.out)) hb);clear HO716;clear HB;have HO716:=n0_;have HB:=n1_;clear n0_ n1_;(try clear hb);(try clear hb2);(try clear hk);(try clear hi))|((with_reducible refine gate_callee (f:=26) rfl ?_);refine goesL_ (some 18) rfl rfl Tryd.func26 (by kernel_rfl) rfl #[.string t719] rfl (by (try simp only [List.map_toArray,List.map_cons,List.map_nil]);first|done|rfl|(simp only [List.length_drop,List.length_take];rfl)) ?_;(with_reducible refine (natural_Parse.calls k t719 t720 t721 _ A6.out).mono ?_);rintro e w52 ⟨rfl,hb⟩;refine ⟨_,rfl,?_⟩;have n0_:=Aside0.mk (Kd.R_below (by (with_reducible repeat (first|apply Kd.R_alloc|apply Kd.R_drewN|apply Kd.R_drew));exact HO716.out) hb);have n1_:=Aside0.mk (below_step (by repeat (first|(with_reducible first|exact HB.out|apply below_alloc|apply pw_below_drewN|apply below_drew1)|exact HB.out)) hb);clear HO716;clear HB;have HO716:=n0_;have HB:=n1_;clear n0_ n1_;(try clear hb);(try clear hb2);(try clear hk);(try clear hi))|((with_reducible refine gate_callee (f:=24) rfl ?_);refine goesL_ (some 24) rfl rfl Tryd.func24 (by kernel_rfl) rfl #[.string a0,.string a1] rfl (by (try simp only [List.map_toArray,List.map_cons,List.map_nil]);first|done|rfl|(simp only [List.length_drop,List.length_take];rfl)) ?_;(with_reducible refine (natural_Add.calls k a0 a1 t722 _ A7.out).mono ?_);rintro e w53 ⟨rfl,hb⟩;refine ⟨_,rfl,?_⟩;have n0_:=Aside0.mk (Kd.R_below (by (with_reducible repeat (first|apply Kd.R_alloc|apply Kd.R_drewN|apply Kd.R_drew));exact HO716.out) hb);have n1_:=Aside0.mk (below_step (by repeat (first|(with_reducible first|exact HB.out|apply below_alloc|apply pw_below_drewN|apply below_drew1)|exact HB.out)) hb);clear HO716;clear HB;have HO716:=n0_;have HB:=n1_;clear n0_ n1_;(try clear hb);(try clear hb2);(try clear hk);(try clear hi))|((with_reducible refine gate_callee (f:=38) rfl ?_);refine goesL_ (some 26) rfl rfl Tryd.func38 (by kernel_rfl) rfl #[.string t722,.string a1] rfl (by (try simp only [List.map_toArray,List.map_cons,List.map_nil]);first|done|rfl|(simp only [List.length_drop,List.length_take];rfl)) ?_;(with_reducible refine (natural_Subtract.calls k t722 a1 t723 t724 _ A8.out).mono ?_);rintro e w54 ⟨rfl,hb⟩;refine ⟨_,rfl,?_⟩;have n0_:=Aside0.mk (Kd.R_below (by (with_reducible repeat (first|apply Kd.R_alloc|apply Kd.R_drewN|apply Kd.R_drew));exact HO716.out) hb);have n1_:=Aside0.mk (below_step (by repeat (first|(with_reducible first|exact HB.out|apply below_alloc|apply pw_below_drewN|apply below_drew1)|exact HB.out)) hb);clear HO716;clear HB;have HO716:=n0_;have HB:=n1_;clear n0_ n1_;(try clear hb);(try clear hb2);(try clear hk);(try clear hi))|((with_reducible refine gate_callee (f:=17) rfl ?_);refine goesL_ (some 29) rfl rfl Tryd.func17 (by kernel_rfl) rfl #[] rfl (by (try simp only [List.map_toArray,List.map_cons,List.map_nil]);first|done|rfl|(simp only [List.length_drop,List.length_take];rfl)) ?_;(with_reducible refine (insolvencylaw1_awake.calls k  false _ A9.out).mono ?_);rintro e w55 ⟨rfl,hb⟩;refine ⟨_,rfl,?_⟩;have n0_:=Aside0.mk (Kd.R_below (by (with_reducible repeat (first|apply Kd.R_alloc|apply Kd.R_drewN|apply Kd.R_drew));exact HO716.out) hb);have n1_:=Aside0.mk (below_step (by repeat (first|(with_reducible first|exact HB.out|apply below_alloc|apply pw_below_drewN|apply below_drew1)|exact HB.out)) hb);clear HO716;clear HB;have HO716:=n0_;have HB:=n1_;clear n0_ n1_;(try clear hb);(try clear hb2);(try clear hk);(try clear hi)))
   go_ret
   exact ⟨by first|rfl|(simp [errW_none,errW_some] <;> rfl)|(simp [*,errW_none,errW_some] <;> rfl),by repeat (first|(with_reducible first|exact HB.out|apply below_alloc|apply pw_below_drewN|apply below_drew1)|exact HB.out)⟩
 ·replace c4:=Bool.eq_false_iff.mpr c4
  subst c4
  have H1:((insolvencylaw1_awake.f k).bind fun t718=>(some t718))=some r:=by rw [if_neg (show ¬ (false=true) by decide)] at H;exact H
  clear H
  have H:=H1
  clear H1
  replace H:=Option.bind_eq_some_iff.mp H
  obtain ⟨t718,A560,H⟩:=H
  replace H:(some t718)=some r:=H
  have A56:=Aside0.mk A560
  clear A560
  obtain rfl:=Option.some.inj H
  go_enter Tryd.func15,Tryd.ntmps15
  go_wp2_with (first|((with_reducible refine gate_dst (N:=11) rfl ?_);refine Kd.R_lit Kd.string _ 9 ?hg (N:=11) ?hd (xs:=([a0,a1]:List ByteArray)) (inner:=[.string a0,.string a1]) (ok:=fun _=>True) (okp:=fun _=>True) ?hr ?hp (fun _ hk=>hk) trivial (Below.refl _ _) (Nat.le_refl _) (by simp) ?_;(case hd=>rfl);(case hg=>rfl);(case hr=>first|(go_simp;done)|(go_simp;rfl));(case hp=>exact (Reps.one (show Kd.M Kd.string _ _ _ a0 [.string a0] from rfl) (Reps.one (show Kd.M Kd.string _ _ _ a1 [.string a1] from rfl) (Reps.none _ _))));intro v715 w57 ho58 hb hg_ hnew_;clear hg_ hnew_;(first|rw [← Ny714.out] at ho58|(simp only [Int.reduceToNat] at ho58;rw [← Ny714.out] at ho58));have n0_:=Aside0.mk (Kd.R_lower ho58 (below_size (by repeat (first|(with_reducible first|exact HB.out|apply below_alloc|apply pw_below_drewN|apply below_drew1)|exact HB.out))));have n1_:=Aside0.mk (below_step (by repeat (first|(with_reducible first|exact HB.out|apply below_alloc|apply pw_below_drewN|apply below_drew1)|exact HB.out)) hb);clear HB;have HO716:=n0_;have HB:=n1_;clear n0_ n1_;clear hb ho58;obtain ⟨Ao59,co59,eo59⟩:=Kd.R_slice HO716.out;subst eo59)|((with_reducible refine gate_callee (f:=20) rfl ?_);refine goesL_ (some 12) rfl rfl Tryd.func20 (by kernel_rfl) rfl #[.slice Ao59 y714.length co59] rfl (by (try simp only [List.map_toArray,List.map_cons,List.map_nil]);first|done|rfl|(simp only [List.length_drop,List.length_take];rfl)) ?_;(with_reducible refine (insolvencylaw1_few.calls k _ _ y714 false _ ?side1 ?side2 A3.out).mono ?_);(case side1=>repeat (first|exact (Kd.R_reads' HO716.out).2.2|(with_reducible refine Kd.C_alloc ?_ _)|(with_reducible refine Kd.C_drewN ?_ _)|(with_reducible refine Kd.C_drew ?_)));(case side2=>exact (Kd.R_reads' HO716.out).2.1);rintro e w' ⟨rfl,⟨nd,rfl⟩⟩;refine ⟨_,rfl,?_⟩)|((with_reducible refine gate_callee (f:=17) rfl ?_);refine goesL_ (some 14) rfl rfl Tryd.func17 (by kernel_rfl) rfl #[] rfl (by (try simp only [List.map_toArray,List.map_cons,List.map_nil]);first|done|rfl|(simp only [List.length_drop,List.length_take];rfl)) ?_;(with_reducible refine (insolvencylaw1_awake.calls k  t718 _ A56.out).mono ?_);rintro e w60 ⟨rfl,hb⟩;refine ⟨_,rfl,?_⟩;have n0_:=Aside0.mk (Kd.R_below (by (with_reducible repeat (first|apply Kd.R_alloc|apply Kd.R_drewN|apply Kd.R_drew));exact HO716.out) hb);have n1_:=Aside0.mk (below_step (by repeat (first|(with_reducible first|exact HB.out|apply below_alloc|apply pw_below_drewN|apply below_drew1)|exact HB.out)) hb);clear HO716;clear HB;have HO716:=n0_;have HB:=n1_;clear n0_ n1_;(try clear hb);(try clear hb2);(try clear hk);(try clear hi)))
  go_ret
  exact ⟨by first|rfl|(simp [errW_none,errW_some] <;> rfl)|(simp [*,errW_none,errW_some] <;> rfl),by repeat (first|(with_reducible first|exact HB.out|apply below_alloc|apply pw_below_drewN|apply below_drew1)|exact HB.out)⟩
def insolvencylaw1_NaturalBack.Pure:Prop:=∀ (a0:ByteArray) (a1:ByteArray),a0.size≤140737488351232→a1.size≤140737488351232 → ∃ k,insolvencylaw1_NaturalBack.f k a0 a1=some true
theorem insolvencylaw1_NaturalBack.walk (P:insolvencylaw1_NaturalBack.Pure) (a0:ByteArray) (a1:ByteArray) (w:World) (w0:a0.size≤140737488351232) (w1:a1.size≤140737488351232) :
 Calls Tryd.prog 15 #[.string a0,.string a1] w fun e w'=>e = .returned (.bool true)∧Below w.heap.size w w':=by
 obtain ⟨k,h⟩:=P a0 a1 w0 w1
 refine (insolvencylaw1_NaturalBack.calls k a0 a1 true w h).mono ?_
 rintro e w' ⟨rfl,hd⟩
 exact ⟨rfl,hd⟩
end Go.Proofs.YtjaflmhdclmolaaDoor.F
end
section
namespace Go.Proofs.YtjaflmhdclmolaaDoor.Num
open Go.RowKit Go.Proofs.YtjaflmhdclmolaaDoorW.PrintWords Go.Proofs.YtjaflmhdclmolaaDoorW.PrintLast Go.Proofs.YtjaflmhdclmolaaDoorW.PrintMore Go.Proofs.YtjaflmhdclmolaaDoor.F
theorem size_list (s:ByteArray):s.size=s.data.toList.length:=by rw [Array.length_toList];rfl
end Go.Proofs.YtjaflmhdclmolaaDoor.Num
namespace Go.Proofs.YtjaflmhdclmolaaDoor.Pure
open Go.RowKit Go.Proofs.YtjaflmhdclmolaaDoor.F Go.Proofs.YtjaflmhdclmolaaDoorW.PrintWords Go.Proofs.YtjaflmhdclmolaaDoorW.PrintLast
open Go.Proofs.YtjaflmhdclmolaaDoor.Num
end Go.Proofs.YtjaflmhdclmolaaDoor.Pure
end
section
namespace Go.Proofs.YtjaflmhdclmolaaDoor.Num
open Go.RowKit Go.Proofs.YtjaflmhdclmolaaDoorW.PrintWords Go.Proofs.YtjaflmhdclmolaaDoorW.PrintLast Go.Proofs.YtjaflmhdclmolaaDoorW.PrintMore Go.Proofs.YtjaflmhdclmolaaDoor.F
theorem ds_map {l:List Int} (h:Dg l):Ds (l.map fun n=>UInt8.ofNat n.toNat):=by
 have:=ds_nums l.reverse (fun x hx=>h x (List.mem_reverse.1 hx))
 rwa [List.reverse_reverse] at this
theorem lg_fin (n:Nat) (x:Int) (t:List Int) (hd:Dg (x :: t)) (hx:x≠48) (hn:t.length+1=n) (hl:n≤2020):Ev (fun k=>insolvencylaw1_NaturalLong.j1 k (n:Int) (x :: t)) true:=by
 have hdx:=hd x List.mem_cons_self
 have hL:(strOfNums (x :: t)).data.toList=UInt8.ofNat x.toNat :: t.map fun n=>UInt8.ofNat n.toNat:=by rw [strOfNums_data,List.map_cons]
 have hds:Ds (strOfNums (x :: t)).data.toList:=by rw [strOfNums_data];exact ds_map hd
 have hsz:(strOfNums (x :: t)).size=n:=by rw [strOfNums_size,List.length_cons];exact hn
 have hxb:(UInt8.ofNat x.toNat).toNat=x.toNat:=by rw [UInt8.toNat_ofNat'];omega
 have hne:∀ b r,(strOfNums (x :: t)).data.toList=b :: r→b≠48:=by
  intro b r e c
  rw [hL] at e
  have e1:=(List.cons.inj e).1
  rw [c] at e1
  have e2:=congrArg UInt8.toNat e1
  rw [hxb] at e2
  have e48:(48:UInt8).toNat=48:=rfl
  omega
 have hdec:=dec_of hds hne
 have hb0:bt (strOfNums (x :: t)) 0≠48:=by
  have h3:=(drop_byte (s:=strOfNums (x :: t)) (i:=0) (by rw [List.drop_zero];exact hL)).2.1
  rw [hxb] at h3
  intro e
  have e2:((x.toNat:Nat):Int)=48:=h3.symm.trans e
  omega
 have hok:dok (strOfNums (x :: t))=true:=by
  unfold dok
  rw [decide_eq_true hb0,decide_eq_true (show (strOfNums (x :: t)).size≠0 by omega),List.all_eq_true.2 (fun b hb=>(isD_iff b).2 (hds b hb))]
  rfl
 have hv0:(dval (strOfNums (x :: t)).data.toList:Int)≠0:=by
  intro e
  have e2:dval (strOfNums (x :: t)).data.toList=0:=by omega
  rw [e2,dec_zero] at hdec
  rw [hL] at hdec
  exact absurd hdec (by simp)
 have hlt:=dval_lt _ hds
 rw [← size_list,hsz] at hlt
 have hDs:D (dval (strOfNums (x :: t)).data.toList:Int)=strOfNums (x :: t):=by
  unfold D
  rw [if_neg hv0,Int.toNat_natCast,hdec]
 have hp:parseOf (strOfNums (x :: t))=if n>2000 then (⟨#[]⟩,2) else (S (dval (strOfNums (x :: t)).data.toList:Int),0):=by
  unfold parseOf
  rw [if_pos hok,hsz]
 generalize hs:strOfNums (x :: t)=s at *
 have g:=Parse_ev s (by omega)
 rw [hp] at g
 by_cases h2:n>2000
 ·rw [if_pos h2] at g
  refine Ev.step (f:=fun k=>(natural_Parse.f k s).bind fun bt477=>(insolvencylaw1_awake.f k).bind fun t479=>(if t479=true then (if bt477.2=2 then (some (bt477.1.toList == ([]:List UInt8))) else (some false)) else (some false))) (fun k=>?_) (Ev.bind g (Ev.bind awake_ev (Ev.ite rfl ?_)))
  ·simp only [insolvencylaw1_NaturalLong.j1]
   rw [hs]
   congr 1
   funext bt477
   rw [if_pos (by omega)]
  ·refine Ev.ite rfl ?_
   rw [Lib.toList_data]
   exact Ev.now _
 ·rw [if_neg h2] at g
  have hs8:(S (dval s.data.toList:Int)).size≤2000:=by
   refine Nat.le_trans (S_size (m:=n) ?_) (by omega)
   have e1:((256 ^ n:Nat):Int)=(256:Int) ^ n:=Int.natCast_pow 256 n
   rw [← e1]
   exact Int.ofNat_lt.2 (Nat.lt_of_lt_of_le hlt (Nat.pow_le_pow_left (by decide) n))
  have g2:=Format_ev (S (dval s.data.toList:Int)) (by omega)
  rw [B_S (by omega),hDs] at g2
  refine Ev.step (f:=fun k=>(natural_Parse.f k s).bind fun bt477=>(insolvencylaw1_awake.f k).bind fun t480=>(if t480=true then (if bt477.2=0 then ((natural_Format.f k bt477.1).bind fun t481=>(some (t481.toList == s.toList))) else (some false)) else (some false))) (fun k=>?_) (Ev.bind g (Ev.bind awake_ev (Ev.ite rfl ?_)))
  ·simp only [insolvencylaw1_NaturalLong.j1]
   rw [hs]
   congr 1
   funext bt477
   rw [if_neg (by omega)]
  ·refine Ev.ite rfl (Ev.bind g2 ?_)
   rw [BEq.rfl]
   exact Ev.now _
theorem lg_loop (a:Int) (ha0:0≤a) (ha1:a≤255) (n:Nat) (hn0:1≤n) (hn:n≤2020) (m:Nat):∀ o:List Int,o.length+m=n→Dg o→Ev (fun k=>insolvencylaw1_NaturalLong.l0 k a (n:Int) (o ++ List.replicate m 0) (n:Int) (o.length:Int)) true:=by
 induction m with
 | zero=>
  intro o h1 ho
  cases o with
  | nil=>simp at h1;omega
  | cons x t=>
   have hl:(x :: t).length=n:=by omega
   by_cases h:x=48
   ·have g:=lg_fin n 49 t (fun y hy=>by
     rcases List.mem_cons.1 hy with e|e
     ·rw [e];decide
     ·exact ho y (List.mem_cons_of_mem _ e)) (by decide) (by simpa using hl) hn
    refine Ev.step (fun k=>?_) g
    simp only [insolvencylaw1_NaturalLong.l0]
    rw [if_neg (by omega),List.replicate_zero,List.append_nil,if_pos (by omega),if_pos (by exact h)]
    rfl
   ·have g:=lg_fin n x t ho h (by simpa using hl) hn
    refine Ev.step (fun k=>?_) g
    simp only [insolvencylaw1_NaturalLong.l0]
    rw [if_neg (by omega),List.replicate_zero,List.append_nil,if_pos (by omega),if_neg (by exact h)]
 | succ m ih=>
  intro o h1 ho
  have ih:=ih (o ++ [48+((o.length:Int)+a)%10]) (by rw [snoc_len];omega) (ho.app (Dg.one (by omega) (by omega)))
  rw [snoc_len] at ih
  have hset:∀ d,(o ++ List.replicate (m+1) 0).set o.length d=(o ++ [d]) ++ List.replicate m 0:=fun d=>by
   rw [List.replicate_succ]
   exact set_snoc o d 0 _
  have hlen:(o ++ List.replicate (m+1) (0:Int)).length=n:=by rw [List.length_append,List.length_replicate];omega
  have hnn:0≤(o.length:Int)+a:=by omega
  refine Ev.step (fun k=>?_) ih
  simp only [insolvencylaw1_NaturalLong.l0]
  rw [hlen,w64 (n:=a) (by omega) (by omega),w64 (n:=(o.length:Int)+a) (by omega) (by omega),Int.tmod_eq_emod_of_nonneg hnn,Int.emod_eq_of_lt (a:=((o.length:Int)+a)%10) (b:=256) (by omega) (by omega),Int.emod_eq_of_lt (a:=48+((o.length:Int)+a)%10) (b:=256) (by omega) (by omega),if_pos (by omega),if_pos (by omega),if_pos (by omega),Int.toNat_natCast,hset,winc (by omega)]
end Go.Proofs.YtjaflmhdclmolaaDoor.Num
namespace Go.Proofs.YtjaflmhdclmolaaDoor.Pure
open Go.RowKit Go.Proofs.YtjaflmhdclmolaaDoor.F Go.Proofs.YtjaflmhdclmolaaDoorW.PrintWords Go.Proofs.YtjaflmhdclmolaaDoorW.PrintLast
open Go.Proofs.YtjaflmhdclmolaaDoor.Num
theorem NaturalLong:insolvencylaw1_NaturalLong.Pure:=by
 intro a0 a1 h0 h1
 have h3:0≤a0∧a0≤65535:=by
  simp only [Lit.wf,Bool.and_eq_true,decide_eq_true_eq] at h0
  exact h0
 have h4:0≤a1∧a1≤255:=by
  simp only [Lit.wf,Bool.and_eq_true,decide_eq_true_eq] at h1
  exact h1
 refine some_of ?_
 have hw:wrap64 (1+Int.tmod (wrap64 a0) 2020)=((1+(a0%2020).toNat:Nat):Int):=by
  rw [w64 (n:=a0) (by omega) (by omega),Int.tmod_eq_emod_of_nonneg h3.1,w64 (by omega) (by omega)];omega
 have g:=lg_loop a1 h4.1 h4.2 (1+(a0%2020).toNat) (by omega) (by omega) (1+(a0%2020).toNat) [] (by simp) Dg.nil
 refine Ev.congr (fun k=>?_) g
 simp only [insolvencylaw1_NaturalLong.f]
 rw [hw,Int.toNat_natCast,if_pos (by omega),if_pos (by omega),Option.bind_some,List.length_replicate,List.nil_append]
 rfl
end Go.Proofs.YtjaflmhdclmolaaDoor.Pure
end
