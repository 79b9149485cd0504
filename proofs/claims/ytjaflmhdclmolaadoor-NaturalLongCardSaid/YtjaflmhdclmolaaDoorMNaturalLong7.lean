/- Part 7 of the proof of NaturalLong: the functions' walks and what they compute, in the order of the calls; each holds for all arguments that its row allows. -/
import Derived.Test.YtjaflmhdclmolaaDoorMNaturalLong6
section
namespace Go.Proofs.YtjaflmhdclmolaaDoor.F
open Go.RowKit Go.Proofs.YtjaflmhdclmolaaDoorW.PrintWords Go.Proofs.YtjaflmhdclmolaaDoorW.PrintLast Go.Proofs.YtjaflmhdclmolaaDoorW.PrintMore
attribute [local go_sem] max2_int min2_int max_two min_two max_three min_three max_four min_four   
set_option linter.unusedVariables false
set_option linter.unusedSimpArgs false
def bits_Add32.f (a0:Int) (a1:Int) (a2:Int):Option (Int×Int):=some ((IntKind.u64.wrap ((IntKind.u64.wrap ((IntKind.u64.wrap (a0))+(IntKind.u64.wrap (a1))))+(IntKind.u64.wrap (a2))))%4294967296,((IntKind.u64.wrap ((IntKind.u64.wrap ((IntKind.u64.wrap (a0))+(IntKind.u64.wrap (a1))))+(IntKind.u64.wrap (a2))))/4294967296)%4294967296)
set_option maxHeartbeats 8000000 in
set_option maxRecDepth 100000 in
theorem bits_Add32.calls (a0:Int) (a1:Int) (a2:Int) (r1:Int) (r2:Int) (w:World) (h:bits_Add32.f a0 a1 a2=some (r1,r2)) :
 Calls Tryd.prog 50 #[.int .u32 a0,.int .u32 a1,.int .u32 a2] w fun e w'=>e = .returned (.tuple #[.int .u32 r1,.int .u32 r2])∧Drawn0 w w':=by
 have H:(some ((IntKind.u64.wrap ((IntKind.u64.wrap ((IntKind.u64.wrap (a0))+(IntKind.u64.wrap (a1))))+(IntKind.u64.wrap (a2))))%4294967296,((IntKind.u64.wrap ((IntKind.u64.wrap ((IntKind.u64.wrap (a0))+(IntKind.u64.wrap (a1))))+(IntKind.u64.wrap (a2))))/4294967296)%4294967296))=some (r1,r2):=h
 clear h
 simp only [Option.some.injEq,Prod.mk.injEq] at H
 obtain ⟨rfl,rfl⟩:=H
 go_enter Tryd.func50,Tryd.ntmps50
 go_wp2
 go_ret2
 exact ⟨by first|rfl|(simp;done)|(simp [*];done),by repeat (first|exact Drawn0.refl _|apply Drawn0.step)⟩
end Go.Proofs.YtjaflmhdclmolaaDoor.F
end
section
namespace Go.Proofs.YtjaflmhdclmolaaDoor.F
open Go.RowKit Go.Proofs.YtjaflmhdclmolaaDoorW.PrintWords Go.Proofs.YtjaflmhdclmolaaDoorW.PrintLast Go.Proofs.YtjaflmhdclmolaaDoorW.PrintMore
attribute [local go_sem] max2_int min2_int max_two min_two max_three min_three max_four min_four   
set_option linter.unusedVariables false
set_option linter.unusedSimpArgs false
theorem strings_TrimLeft.one (a1:ByteArray) (h1:a1.size=1):∃ c:UInt8,a1=⟨#[c]⟩:=by
 have hlen:a1.data.toList.length=1:=by rw [← Lib.size_eq];exact h1
 match hh:a1.data.toList,hlen with
 | [c],_=>exact ⟨c,by rw [← Lib.mk_data a1,hh]⟩
def strings_TrimLeft.f (a0:ByteArray) (a1:ByteArray):Option (ByteArray):=if a1.size=1 then (if (bt a1 0)<128 then (some (⟨(Lib.trimLeftS a0.data.toList a1.data.toList).toArray⟩:ByteArray)) else (none)) else (none)
theorem strings_TrimLeft.calls (a0:ByteArray) (a1:ByteArray) (r:ByteArray) (w:World) (h:strings_TrimLeft.f a0 a1=some r) :
 Calls Tryd.prog 41 #[.string a0,.string a1] w fun e w'=>e = .returned (.string r)∧Drawn0 w w':=by
 unfold strings_TrimLeft.f at h
 by_cases h1:a1.size=1
 ·rw [if_pos h1] at h
  by_cases h2:bt a1 0<128
  ·rw [if_pos h2] at h
   obtain rfl:=Option.some.inj h
   obtain ⟨c,rfl⟩:=strings_TrimLeft.one a1 h1
   have hc:c.toNat<128:=by
    have:bt ⟨#[c]⟩ 0=(c.toNat:Int):=rfl
    omega
   refine (Tryd.strings_TrimLeft_one a0 c hc w).mono ?_
   rintro e w' ⟨rfl,rfl⟩
   refine ⟨?_,Drawn0.refl _⟩
   rw [← Lib.trimLeftS_one]
  ·rw [if_neg h2] at h
   exact absurd h (by simp)
 ·rw [if_neg h1] at h
  exact absurd h (by simp)
end Go.Proofs.YtjaflmhdclmolaaDoor.F
end
section
namespace Go.Proofs.YtjaflmhdclmolaaDoor.F
open Go.RowKit Go.Proofs.YtjaflmhdclmolaaDoorW.PrintWords Go.Proofs.YtjaflmhdclmolaaDoorW.PrintLast Go.Proofs.YtjaflmhdclmolaaDoorW.PrintMore
attribute [local go_sem] max2_int min2_int max_two min_two max_three min_three max_four min_four   
set_option linter.unusedVariables false
set_option linter.unusedSimpArgs false
def natural_Normalize.f (a0:ByteArray):Option (ByteArray):=(strings_TrimLeft.f a0 (⟨#[0]⟩:ByteArray)).bind fun t202=>(some t202)
set_option maxHeartbeats 8000000 in
set_option maxRecDepth 100000 in
theorem natural_Normalize.calls (a0:ByteArray) (r:ByteArray) (w:World) (h:natural_Normalize.f a0=some r) :
 Calls Tryd.prog 18 #[.string a0] w fun e w'=>e = .returned (.string r)∧Drawn0 w w':=by
 have H:((strings_TrimLeft.f a0 (⟨#[0]⟩:ByteArray)).bind fun t202=>(some t202))=some r:=h
 clear h
 replace H:=Option.bind_eq_some_iff.mp H
 obtain ⟨t202,A20,H⟩:=H
 replace H:(some t202)=some r:=H
 have A2:=Aside0.mk A20
 clear A20
 obtain rfl:=Option.some.inj H
 go_enter Tryd.func18,Tryd.ntmps18
 go_wp2_with (first|((with_reducible refine gate_callee (f:=41) rfl ?_);refine goesL_ (some 4) rfl rfl Tryd.func41 (by kernel_rfl) rfl #[.string a0,.string (⟨#[0]⟩:ByteArray)] rfl (by (try simp only [List.map_toArray,List.map_cons,List.map_nil]);first|done|rfl|(simp only [List.length_drop,List.length_take];rfl)) ?_;(with_reducible refine (strings_TrimLeft.calls a0 (⟨#[0]⟩:ByteArray) t202 _ A2.out).mono ?_);rintro e w' ⟨rfl,⟨nd,rfl⟩⟩;refine ⟨_,rfl,?_⟩))
 go_ret
 exact ⟨by first|rfl|(simp;done)|(simp [*];done),by repeat (first|exact Drawn0.refl _|apply Drawn0.step)⟩
end Go.Proofs.YtjaflmhdclmolaaDoor.F
end
section
namespace Go.Proofs.YtjaflmhdclmolaaDoor.F
open Go.RowKit Go.Proofs.YtjaflmhdclmolaaDoorW.PrintWords Go.Proofs.YtjaflmhdclmolaaDoorW.PrintLast Go.Proofs.YtjaflmhdclmolaaDoorW.PrintMore
attribute [local go_sem] max2_int min2_int max_two min_two max_three min_three max_four min_four   
set_option linter.unusedVariables false
set_option linter.unusedSimpArgs false
def natural_limbs_text.l0:Nat→List Int→List Int→Int→Int→Option (ByteArray)
 | 0,_,_,_,_=>none
 | k+1,x0,x3,x10,x11=>if x11<x10 then (if 0≤(wrap64 (Int.tdiv x11 4)) then (if (wrap64 (Int.tdiv x11 4))<(x0.length:Int) then (if 0≤(wrap64 (8*(Int.tmod x11 4))) then (if 0≤(wrap64 ((wrap64 ((x3.length:Int)-1))-x11)) then (if (wrap64 ((wrap64 ((x3.length:Int)-1))-x11))<(x3.length:Int) then (natural_limbs_text.l0 k x0 (x3.set ((wrap64 ((wrap64 ((x3.length:Int)-1))-x11)):Int).toNat ((shr .u32 (rd x0 (wrap64 (Int.tdiv x11 4))) (wrap64 (8*(Int.tmod x11 4))))%256)) x10 (wrap64 (x11+1))) else (none)) else (none)) else (none)) else (none)) else (none)) else ((natural_Normalize.f (strOfNums x3)).bind fun t208=>(some t208))
def natural_limbs_text.f (k:Nat) (l0:List Int):Option (ByteArray):=if 0≤(wrap64 ((l0.length:Int)*4)) then (if (wrap64 ((l0.length:Int)*4):Int).toNat≤281474976710656 then ((some (List.replicate (wrap64 ((l0.length:Int)*4):Int).toNat 0:List Int)).bind fun y203=>(natural_limbs_text.l0 k l0 y203 (y203.length:Int) 0)) else (none)) else (none)
theorem natural_limbs_text.mono_l:∀ k,(∀ y0 y1 y2 y3,LeO (natural_limbs_text.l0 k y0 y1 y2 y3) (natural_limbs_text.l0 (k+1) y0 y1 y2 y3))
 | 0=>fun _ _ _ _ r h=>by simp [natural_limbs_text.l0] at h
 | k+1=>by
  have ih0:=natural_limbs_text.mono_l k
  ·intro y0 y1 y2 y3
   unfold natural_limbs_text.l0
   repeat' first
   | (with_reducible exact ih0 _ _ _ _)
   | (with_reducible exact LeO.refl _)
   | (with_reducible exact LeO.none _)
   | (with_reducible refine LeO.ite ?_ ?_)
   | (with_reducible refine LeO.bind ?_ (fun _=>?_))
   | exact ih0 _ _ _ _
   | exact LeO.none _
   | refine LeO.ite ?_ ?_
   | refine LeO.bind ?_ (fun _=>?_)
theorem natural_limbs_text.mono:∀ a0 k,LeO (natural_limbs_text.f k a0) (natural_limbs_text.f (k+1) a0):=by
 intro a0 k
 have ih0:=natural_limbs_text.mono_l k
 unfold natural_limbs_text.f
 repeat' first
  | (with_reducible exact ih0 _ _ _ _)
  | (with_reducible exact LeO.refl _)
  | (with_reducible exact LeO.none _)
  | (with_reducible refine LeO.ite ?_ ?_)
  | (with_reducible refine LeO.bind ?_ (fun _=>?_))
  | exact ih0 _ _ _ _
  | exact LeO.none _
  | refine LeO.ite ?_ ?_
  | refine LeO.bind ?_ (fun _=>?_)
set_option maxHeartbeats 8000000 in
set_option maxRecDepth 100000 in
theorem natural_limbs_text.calls (k:Nat) (A0:Option Addr) (c0:Nat) (l0:List Int) (r:ByteArray) (w:World) (hr0:Kd.C (Kd.int .u32) w A0 l0.length l0) (hc0:l0.length≤c0) (h:natural_limbs_text.f k l0=some r) :
 Calls Tryd.prog 44 #[.slice A0 l0.length c0] w fun e w'=>e = .returned (.string r)∧Below w.heap.size w w':=by
 have HR0:=Aside0.mk hr0
 have HC0:=Aside0.mk hc0
 clear hr0 hc0
 have HB:=Aside0.mk (Below.refl w.heap.size w)
 have H:(if 0≤(wrap64 ((l0.length:Int)*4)) then (if (wrap64 ((l0.length:Int)*4):Int).toNat≤281474976710656 then ((some (List.replicate (wrap64 ((l0.length:Int)*4):Int).toNat 0:List Int)).bind fun y203=>(natural_limbs_text.l0 k l0 y203 (y203.length:Int) 0)) else (none)) else (none))=some r:=h
 clear h
 obtain ⟨ji2,hji2⟩:∃ j_:Int,(wrap64 ((l0.length:Int)*4))=j_:=⟨_,rfl⟩
 replace H:(if 0≤(ji2) then (if (ji2:Int).toNat≤281474976710656 then ((some (List.replicate (ji2:Int).toNat 0:List Int)).bind fun y203=>(natural_limbs_text.l0 k l0 y203 (y203.length:Int) 0)) else (none)) else (none))=some r:=by first|(rw [hji2] at H;exact H)|(simp only [hji2] at H ⊢;exact H)
 have hji2w:(IntKind.i64.wrap ((l0.length:Int)*4))=ji2:=(i64_w _).trans hji2
 by_cases c3:0≤(ji2)
 ·rw [if_pos c3] at H
  have c3b0:=eq_true c3
  have c3b1:decide (0≤(ji2))=true:=decide_eq_true c3
  clear c3
  by_cases c4:(ji2:Int).toNat≤281474976710656
  ·rw [if_pos c4] at H
   have c4b0:=eq_true c4
   have c4b1:decide ((ji2:Int).toNat≤281474976710656)=true:=decide_eq_true c4
   clear c4
   obtain ⟨y203,hy203⟩:∃ y_:List Int,y_=(List.replicate (ji2:Int).toNat 0):=⟨_,rfl⟩
   replace H:(natural_limbs_text.l0 k l0 y203 (y203.length:Int) 0)=some r:=by first|(rw [hy203];with_reducible exact H)|(have H2_:=(Option.bind_some _ _).symm.trans H;rw [hy203];with_reducible exact H2_)|(have H2_:=(Option.bind_some _ _).symm.trans H;with_reducible exact H2_)|with_reducible exact H|(rw [hy203];exact H)|exact H
   have Ny203:=Aside0.mk hy203
   clear hy203
   have H':=Aside0.mk H
   clear H
   go_enter Tryd.func44,Tryd.ntmps44
   go_wp2_with (first|((with_reducible refine gate_dst (N:=8) rfl ?_);refine Kd.R_make (Kd.int .u8) _ 5 rfl (N:=8) rfl 37 _ _ rfl ji2 rfl rfl Tryd.underlying37 (.int .u8 0) 1 info5 rfl (by decide) (by omega) 0 (ok:=fun _=>True) (okp:=fun _=>True) rfl (fun _ hk=>hk) trivial (of_decide_eq_true (by first|(with_reducible assumption)|assumption)) (Nat.le_trans (Nat.mul_le_mul_right _ (of_decide_eq_true (by first|(with_reducible assumption)|assumption):ji2.toNat≤281474976710656)) (by omega)) (Below.refl _ _) (Nat.le_refl _) ?_;intro v204 w5 ho6 hb hg_ hnew_;clear hg_ hnew_;(first|rw [← Ny203.out] at ho6|(simp only [Int.reduceToNat] at ho6;rw [← Ny203.out] at ho6));have n0_:=Aside0.mk (Kd.R_lower ho6 (below_size (by repeat (first|(with_reducible first|exact HB.out|apply below_alloc|apply pw_below_drewN|apply below_drew1)|exact HB.out))));have n1_:=Aside0.mk (below_step (by repeat (first|(with_reducible first|exact HB.out|apply below_alloc|apply pw_below_drewN|apply below_drew1)|exact HB.out)) hb);clear HB;have HO205:=n0_;have HB:=n1_;clear n0_ n1_;clear hb ho6;obtain ⟨Ao7,co7,eo7⟩:=Kd.R_slice HO205.out;subst eo7))
   go_loopg [11] k (fun kq v11 w'=>∃ (x3_1:List Int) (x11_1:Int),v11 = .int .i64 x11_1∧Aside0 (natural_limbs_text.l0 kq l0 x3_1 (y203.length:Int) x11_1=some r)∧Aside0 (kq≤k)∧Aside0 (Kd.R (Kd.int .u8) 5 w' w.heap.size (fun _=>True) (.slice Ao7 y203.length co7) x3_1)∧Aside0 (Below w.heap.size w w'))
   case atStart=>exact ⟨(y203),(0),(by first|rfl|(simp;done)|(simp [*];done)),H',⟨Nat.le_refl _⟩,⟨by (with_reducible repeat (first|apply Kd.R_alloc|apply Kd.R_drewN|apply Kd.R_drew));exact HO205.out⟩,⟨by repeat (first|(with_reducible first|exact HB.out|apply below_alloc|apply pw_below_drewN|apply below_drew1)|exact HB.out)⟩⟩
   case round=>
    clear H'
    try clear p2
    try clear c3
    try clear c3b0
    try clear c3b1
    try clear c4
    try clear c4b0
    try clear c4b1
    try clear p6
    obtain ⟨x3_1,x11_1,rfl,HA,HK1,HO_3,HB⟩:=hrel
    have hl3_1:=(Kd.R_reads' HO_3.out).1
    rw [hl3_1] at HO_3
    (try simp only [hl3_1])
    cases gk with
    | zero=>exact absurd HA.out (by simp [natural_limbs_text.l0])
    | succ k1=>
     have H:=HA.out
     clear HA
     simp only [natural_limbs_text.l0] at H
     by_cases c8:x11_1<(y203.length:Int)
     ·rw [if_pos c8] at H
      have c8b0:decide (x11_1<(y203.length:Int))=true:=decide_eq_true c8
      (try (have cX_:=c8b0;rw [hl3_1] at cX_))
      clear c8
      obtain ⟨ji9,hji9⟩:∃ j_:Int,(wrap64 (Int.tdiv x11_1 4))=j_:=⟨_,rfl⟩
      replace H:(if 0≤(ji9) then (if (ji9)<(l0.length:Int) then (if 0≤(wrap64 (8*(Int.tmod x11_1 4))) then (if 0≤(wrap64 ((wrap64 ((x3_1.length:Int)-1))-x11_1)) then (if (wrap64 ((wrap64 ((x3_1.length:Int)-1))-x11_1))<(x3_1.length:Int) then (natural_limbs_text.l0 k1 l0 (x3_1.set ((wrap64 ((wrap64 ((x3_1.length:Int)-1))-x11_1)):Int).toNat ((shr .u32 (rd l0 (ji9)) (wrap64 (8*(Int.tmod x11_1 4))))%256)) (y203.length:Int) (wrap64 (x11_1+1))) else (none)) else (none)) else (none)) else (none)) else (none))=some r:=by first|(rw [hji9] at H;exact H)|(simp only [hji9] at H ⊢;exact H)
      have hji9w:(IntKind.i64.wrap (Int.tdiv x11_1 4))=ji9:=(i64_w _).trans hji9
      by_cases c10:0≤(ji9)
      ·rw [if_pos c10] at H
       have c10b0:decide (0≤(ji9))=true:=decide_eq_true c10
       clear c10
       by_cases c11:(ji9)<(l0.length:Int)
       ·rw [if_pos c11] at H
        have c11b0:decide ((ji9)<(l0.length:Int))=true:=decide_eq_true c11
        clear c11
        obtain ⟨ji12,hji12⟩:∃ j_:Int,(wrap64 (8*(Int.tmod x11_1 4)))=j_:=⟨_,rfl⟩
        replace H:(if 0≤(ji12) then (if 0≤(wrap64 ((wrap64 ((x3_1.length:Int)-1))-x11_1)) then (if (wrap64 ((wrap64 ((x3_1.length:Int)-1))-x11_1))<(x3_1.length:Int) then (natural_limbs_text.l0 k1 l0 (x3_1.set ((wrap64 ((wrap64 ((x3_1.length:Int)-1))-x11_1)):Int).toNat ((shr .u32 (rd l0 (ji9)) (ji12))%256)) (y203.length:Int) (wrap64 (x11_1+1))) else (none)) else (none)) else (none))=some r:=by first|(rw [hji12] at H;exact H)|(simp only [hji12] at H ⊢;exact H)
        have hji12w:(IntKind.i64.wrap (8*(Int.tmod x11_1 4)))=ji12:=(i64_w _).trans hji12
        by_cases c13:0≤(ji12)
        ·rw [if_pos c13] at H
         have c13b0:=eq_true c13
         have c13b1:decide (0≤(ji12))=true:=decide_eq_true c13
         clear c13
         obtain ⟨ji14,hji14⟩:∃ j_:Int,(shr .u32 (rd l0 (ji9)) (ji12))=j_:=⟨_,rfl⟩
         replace H:(if 0≤(wrap64 ((wrap64 ((x3_1.length:Int)-1))-x11_1)) then (if (wrap64 ((wrap64 ((x3_1.length:Int)-1))-x11_1))<(x3_1.length:Int) then (natural_limbs_text.l0 k1 l0 (x3_1.set ((wrap64 ((wrap64 ((x3_1.length:Int)-1))-x11_1)):Int).toNat ((ji14)%256)) (y203.length:Int) (wrap64 (x11_1+1))) else (none)) else (none))=some r:=by first|(rw [hji14] at H;exact H)|(simp only [hji14] at H ⊢;exact H)
         have hji14_:((rd l0 (ji9))/2 ^ min (ji12).toNat 32)=ji14:=hji14
         have hji14z:(ji12)≤32→((rd l0 (ji9))/2 ^ (ji12).toNat)=ji14:=shr_small hji14
         obtain ⟨ji15,hji15⟩:∃ j_:Int,(wrap64 ((wrap64 ((x3_1.length:Int)-1))-x11_1))=j_:=⟨_,rfl⟩
         replace H:(if 0≤(ji15) then (if (ji15)<(x3_1.length:Int) then (natural_limbs_text.l0 k1 l0 (x3_1.set ((ji15):Int).toNat ((ji14)%256)) (y203.length:Int) (wrap64 (x11_1+1))) else (none)) else (none))=some r:=by first|(rw [hji15] at H;exact H)|(simp only [hji15] at H ⊢;exact H)
         have hji15w:(IntKind.i64.wrap ((wrap64 ((x3_1.length:Int)-1))-x11_1))=ji15:=(i64_w _).trans hji15
         by_cases c16:0≤(ji15)
         ·rw [if_pos c16] at H
          have c16b0:decide (0≤(ji15))=true:=decide_eq_true c16
          clear c16
          by_cases c17:(ji15)<(x3_1.length:Int)
          ·rw [if_pos c17] at H
           have c17b0:decide ((ji15)<(x3_1.length:Int))=true:=decide_eq_true c17
           clear c17
           obtain ⟨y207,hy207⟩:∃ y_:List Int,y_=(x3_1.set ((ji15):Int).toNat ((ji14)%256)):=⟨_,rfl⟩
           replace H:(natural_limbs_text.l0 k1 l0 y207 (y203.length:Int) (wrap64 (x11_1+1)))=some r:=by first|(rw [hy207];with_reducible exact H)|(have H2_:=(Option.bind_some _ _).symm.trans H;rw [hy207];with_reducible exact H2_)|(have H2_:=(Option.bind_some _ _).symm.trans H;with_reducible exact H2_)|with_reducible exact H|(rw [hy207];exact H)|exact H
           have Ny207:=Aside0.mk hy207
           clear hy207
           have H':=Aside0.mk H
           clear H
           have p206:0≤((ji9):Int):=of_decide_eq_true (by first|(with_reducible assumption)|assumption)
           have q206:(ji9)<(l0.length:Int):=of_decide_eq_true (by first|(with_reducible assumption)|assumption)
           obtain ⟨ad206,e206,hx206_0⟩:=Kd.at_int HR0.out (ji9) p206 q206
           cases e206
           replace hx206_0:=(HB.out.cell (World.block_lt_of_cell? w _ hx206_0)).trans hx206_0
           replace p206:=eq_true p206
           replace q206:=eq_true q206
           have p18:0≤((ji15):Int):=of_decide_eq_true (by first|(with_reducible assumption)|assumption)
           have q18:((ji15):Int)<((x3_1.length:Int):Int):=of_decide_eq_true (by first|(with_reducible assumption)|assumption)
           obtain ⟨go18,co18,eo18,gb18,gl18,cl18,HG18⟩:=Kd.R_form HO_3.out (by omega)
           (first|cases eo18|(injection eo18 with ea_ en_ ec_;(first|subst ea_|(injection ea_ with ea_;subst ea_));subst ec_;clear en_))
           have GB18:=Aside0.mk gb18
           have GG18:=Aside0.mk HG18
           clear gb18 gl18 HG18
           obtain ⟨hx18_0,hf18_0⟩:=Kd.R_celln 0 HO_3.out ((ji15):Int) p18 q18
           replace p18:=eq_true p18
           replace q18:=eq_true q18
           have HP19:=Kd.R_putg HO_3.out ((ji15):Int) ((ji14)%256)
           go_wp2_with (first|((with_reducible refine gate_store (t:=5) (p:=30) rfl ?_);refine store_event (t:=5) (p:=30) (v:=?vo_w20) (w1:=(wr.setCell ⟨go18,((ji15):Int).toNat,none⟩ (.int .u8 ((ji14)%256)))) ?hg ?ho ?hn ?hr ?_;(case ho=>rfl);(case hg=>rfl);(case hn=>rfl);(case hr=>first|(go_simp;done)|(go_simp;rfl));intro w20 hw;have hg:wr.grownBy w20 (some go18):=(by rw [hw];exact HP19.2);have hp_:Kd.R (Kd.int .u8) 5 w20 w.heap.size (fun _=>True) (.slice (some ⟨go18,0,none⟩) x3_1.length co7) y207:=(by rw [hw,Ny207.out];exact HP19.1);clear HP19;have n0_:=Aside0.mk (hp_);have n1_:=Aside0.mk ((by rw [hw];exact below_set (HB.out) GB18.out:Below w.heap.size w w20));clear HO_3;clear HB;have HO_3:=n0_;have HB:=n1_;clear n0_ n1_;clear hg hw hp_))
           (try simp only [← hl3_1])
           go_roundg k1
           case measure=>have:=HK1.out;omega
           case rel=>exact ⟨(y207),(wrap64 (x11_1+1)),(by first|rfl|(simp;done)|(simp [*];done)),H',⟨by have:=HK1.out;omega⟩,⟨by (try simp only [hl3_1]);(with_reducible repeat (first|apply Kd.R_alloc|apply Kd.R_drewN|apply Kd.R_drew));exact HO_3.out⟩,⟨by repeat (first|(with_reducible first|exact HB.out|apply below_alloc|apply pw_below_drewN|apply below_drew1)|exact HB.out)⟩⟩
          ·rw [if_neg c17] at H
           exact absurd H (by simp)
         ·rw [if_neg c16] at H
          exact absurd H (by simp)
        ·rw [if_neg c13] at H
         exact absurd H (by simp)
       ·rw [if_neg c11] at H
        exact absurd H (by simp)
      ·rw [if_neg c10] at H
       exact absurd H (by simp)
     ·rw [if_neg c8] at H
      have c8b0:decide (x11_1<(y203.length:Int))=false:=decide_eq_false c8
      (try (have cX_:=c8b0;rw [hl3_1] at cX_))
      clear c8
      replace H:=Option.bind_eq_some_iff.mp H
      obtain ⟨t208,A210,H⟩:=H
      replace H:(some t208)=some r:=H
      have A21:=Aside0.mk A210
      clear A210
      obtain rfl:=Option.some.inj H
      have hcv22:=own_string (P:=Tryd.prog) Tryd.underlying37 Tryd.underlying5 Tryd.underlying9 (Kd.own_of_R HO_3.out)
      go_wp2_with (first|((with_reducible refine gate_callee (f:=18) rfl ?_);refine goesL_ (some 34) rfl rfl Tryd.func18 (by kernel_rfl) rfl #[.string (strOfNums x3_1)] rfl (by (try simp only [List.map_toArray,List.map_cons,List.map_nil]);first|done|rfl|(simp only [List.length_drop,List.length_take];rfl)) ?_;(with_reducible refine (natural_Normalize.calls (strOfNums x3_1) t208 _ A21.out).mono ?_);rintro e w' ⟨rfl,⟨nd,rfl⟩⟩;refine ⟨_,rfl,?_⟩))
      go_ret
      exact ⟨by first|rfl|(simp [errW_none,errW_some] <;> rfl)|(simp only [← hji2];first|rfl|(simp [errW_none,errW_some] <;> rfl))|(simp [*,errW_none,errW_some] <;> rfl),by repeat (first|(with_reducible first|exact HB.out|apply below_alloc|apply pw_below_drewN|apply below_drew1)|exact HB.out)⟩
  ·rw [if_neg c4] at H
   exact absurd H (by simp)
 ·rw [if_neg c3] at H
  exact absurd H (by simp)
end Go.Proofs.YtjaflmhdclmolaaDoor.F
end
section
namespace Go.Proofs.YtjaflmhdclmolaaDoor.F
open Go.RowKit Go.Proofs.YtjaflmhdclmolaaDoorW.PrintWords Go.Proofs.YtjaflmhdclmolaaDoorW.PrintLast Go.Proofs.YtjaflmhdclmolaaDoorW.PrintMore
attribute [local go_sem] max2_int min2_int max_two min_two max_three min_three max_four min_four   
set_option linter.unusedVariables false
set_option linter.unusedSimpArgs false
def natural_limbs_trim.l0:Nat→List Int→Int→Option (List Int)
 | 0,_,_=>none
 | k+1,x0,x3=>if x3>0 then (if 0≤(wrap64 (x3-1)) then (if (wrap64 (x3-1))<(x0.length:Int) then (if (rd x0 (wrap64 (x3-1)))=0 then (natural_limbs_trim.l0 k x0 (wrap64 (x3-1))) else (if 0≤x3 then (if x3≤(x0.length:Int) then (some (x0.take (x3:Int).toNat)) else (none)) else (none))) else (none)) else (none)) else (if 0≤x3 then (if x3≤(x0.length:Int) then (some (x0.take (x3:Int).toNat)) else (none)) else (none))
def natural_limbs_trim.f (k:Nat) (l0:List Int):Option (List Int):=natural_limbs_trim.l0 k l0 (l0.length:Int)
theorem natural_limbs_trim.mono_l:∀ k,(∀ y0 y1,LeO (natural_limbs_trim.l0 k y0 y1) (natural_limbs_trim.l0 (k+1) y0 y1))
 | 0=>fun _ _ r h=>by simp [natural_limbs_trim.l0] at h
 | k+1=>by
  have ih0:=natural_limbs_trim.mono_l k
  ·intro y0 y1
   unfold natural_limbs_trim.l0
   repeat' first
   | (with_reducible exact ih0 _ _)
   | (with_reducible exact LeO.refl _)
   | (with_reducible exact LeO.none _)
   | (with_reducible refine LeO.ite ?_ ?_)
   | (with_reducible refine LeO.bind ?_ (fun _=>?_))
   | exact ih0 _ _
   | exact LeO.none _
   | refine LeO.ite ?_ ?_
   | refine LeO.bind ?_ (fun _=>?_)
theorem natural_limbs_trim.mono:∀ a0 k,LeO (natural_limbs_trim.f k a0) (natural_limbs_trim.f (k+1) a0):=by
 intro a0 k
 have ih0:=natural_limbs_trim.mono_l k
 unfold natural_limbs_trim.f
 repeat' first
  | (with_reducible exact ih0 _ _)
  | (with_reducible exact LeO.refl _)
  | (with_reducible exact LeO.none _)
  | (with_reducible refine LeO.ite ?_ ?_)
  | (with_reducible refine LeO.bind ?_ (fun _=>?_))
  | exact ih0 _ _
  | exact LeO.none _
  | refine LeO.ite ?_ ?_
  | refine LeO.bind ?_ (fun _=>?_)
set_option maxHeartbeats 8000000 in
set_option maxRecDepth 100000 in
theorem natural_limbs_trim.calls (k:Nat) (P0_:Nat→Prop) (u9000_:Value) (l0:List Int) (r:List Int) (w0 w:World) (hB:Below w0.heap.size w0 w) (ho0:Kd.R (Kd.int .u32) 60 w w0.heap.size P0_ u9000_ l0) (h:natural_limbs_trim.f k l0=some r) :
 Calls Tryd.prog 53 #[u9000_] w fun e w'=>∃ v0_:Value,e = .returned (v0_)∧Kd.R (Kd.int .u32) 60 w' w0.heap.size (fun k_=>(P0_ k_∨w.heap.size≤k_)) v0_ r∧Below w0.heap.size w0 w'∧Kept w w' (fun k_=>P0_ k_):=by
 have HO0:=Aside0.mk (show Kd.R (Kd.int .u32) 60 w w0.heap.size (fun k_=>(P0_ k_∨w.heap.size≤k_)) u9000_ l0 from Kd.R_mono ho0 (fun k_ hk=>(.inl hk)))
 have HK:=Aside0.mk (Kept.refl w (fun k_=>P0_ k_))
 have HW0:=Aside0.mk hB.size
 have HB:=Aside0.mk hB
 clear hB
 have H:(natural_limbs_trim.l0 k l0 (l0.length:Int))=some r:=h
 clear h
 have H':=Aside0.mk H
 clear H
 obtain ⟨Ao2,co2,eo2⟩:=Kd.R_slice HO0.out
 subst eo2
 go_enter Tryd.func53,Tryd.ntmps53
 go_wp2
 go_loopg [3] k (fun kq v3 w'=>∃ (x3_1:Int),v3 = .int .i64 x3_1∧Aside0 (natural_limbs_trim.l0 kq l0 x3_1=some r)∧Aside0 (kq≤k)∧Aside0 (Kd.R (Kd.int .u32) 60 w' w0.heap.size (fun k_=>(P0_ k_∨w.heap.size≤k_)) (.slice Ao2 l0.length co2) l0)∧Aside0 (Kept w w' (fun k_=>P0_ k_))∧Aside0 (Below w0.heap.size w0 w'))
 case atStart=>exact ⟨((l0.length:Int)),(by first|rfl|(simp;done)|(simp [*];done)),H',⟨Nat.le_refl _⟩,⟨by (with_reducible repeat (first|apply Kd.R_alloc|apply Kd.R_drewN|apply Kd.R_drew));exact HO0.out⟩,⟨by repeat (first|(with_reducible first|exact HK.out|apply Kept.alloc|apply Kept.drewN|apply Kept.drew)|exact HK.out)⟩,⟨by repeat (first|(with_reducible first|exact HB.out|apply below_alloc|apply pw_below_drewN|apply below_drew1)|exact HB.out)⟩⟩
 case round=>
  clear H'
  try clear p2
  obtain ⟨x3_1,rfl,HA,HK1,HO_0,HK,HB⟩:=hrel
  cases gk with
  | zero=>exact absurd HA.out (by simp [natural_limbs_trim.l0])
  | succ k1=>
   have H:=HA.out
   clear HA
   simp only [natural_limbs_trim.l0] at H
   by_cases c3:x3_1>0
   ·rw [if_pos c3] at H
    have c3b0:decide (0<x3_1)=true:=decide_eq_true c3
    clear c3
    obtain ⟨ji4,hji4⟩:∃ j_:Int,(wrap64 (x3_1-1))=j_:=⟨_,rfl⟩
    replace H:(if 0≤(ji4) then (if (ji4)<(l0.length:Int) then (if (rd l0 (ji4))=0 then (natural_limbs_trim.l0 k1 l0 ji4) else (if 0≤x3_1 then (if x3_1≤(l0.length:Int) then (some (l0.take (x3_1:Int).toNat)) else (none)) else (none))) else (none)) else (none))=some r:=by first|(rw [hji4] at H;exact H)|(simp only [hji4] at H ⊢;exact H)
    have hji4w:(IntKind.i64.wrap (x3_1-1))=ji4:=(i64_w _).trans hji4
    by_cases c5:0≤(ji4)
    ·rw [if_pos c5] at H
     have c5b0:decide (0≤(ji4))=true:=decide_eq_true c5
     clear c5
     by_cases c6:(ji4)<(l0.length:Int)
     ·rw [if_pos c6] at H
      have c6b0:decide ((ji4)<(l0.length:Int))=true:=decide_eq_true c6
      clear c6
      by_cases c7:(rd l0 (ji4))=0
      ·rw [if_pos c7] at H
       have c7b0:((rd l0 (ji4)) == 0)=true:=beq_iff_eq.mpr c7
       have c7b1:((rd l0 (ji4)) != 0)=false:=bne_eq_false_iff_eq.mpr c7
       clear c7
       have H':=Aside0.mk H
       clear H
       have p101:0≤((ji4):Int):=of_decide_eq_true (by first|(with_reducible assumption)|assumption)
       have q101:(ji4)<(l0.length:Int):=of_decide_eq_true (by first|(with_reducible assumption)|assumption)
       obtain ⟨ad101,e101,hx101_0⟩:=Kd.at_int (Kd.R_reads' HO_0.out).2.2 (ji4) p101 q101
       cases e101
       replace p101:=eq_true p101
       replace q101:=eq_true q101
       go_wp2
       go_roundg k1
       case measure=>have:=HK1.out;omega
       case rel=>exact ⟨(ji4),(by first|rfl|(simp;done)|(simp only [← hji4] <;> (first|rfl|simp))|(simp [*];done)),H',⟨by have:=HK1.out;omega⟩,⟨by (with_reducible repeat (first|apply Kd.R_alloc|apply Kd.R_drewN|apply Kd.R_drew));exact HO_0.out⟩,⟨by repeat (first|(with_reducible first|exact HK.out|apply Kept.alloc|apply Kept.drewN|apply Kept.drew)|exact HK.out)⟩,⟨by repeat (first|(with_reducible first|exact HB.out|apply below_alloc|apply pw_below_drewN|apply below_drew1)|exact HB.out)⟩⟩
      ·rw [if_neg c7] at H
       have c7b0:((rd l0 (ji4)) == 0)=false:=beq_eq_false_iff_ne.mpr c7
       have c7b1:((rd l0 (ji4)) != 0)=true:=bne_iff_ne.mpr c7
       by_cases c8:0≤x3_1
       ·rw [if_pos c8] at H
        have c8b0:=eq_true c8
        have c8b1:decide (0≤x3_1)=true:=decide_eq_true c8
        clear c8
        by_cases c9:x3_1≤(l0.length:Int)
        ·rw [if_pos c9] at H
         have c9b0:=eq_true c9
         have c9b1:decide (x3_1≤(l0.length:Int))=true:=decide_eq_true c9
         clear c9
         obtain ⟨y102,hy102⟩:∃ y_:List Int,y_=(l0.take (x3_1:Int).toNat):=⟨_,rfl⟩
         replace H:(some y102)=some r:=by first|(rw [hy102];with_reducible exact H)|(have H2_:=(Option.bind_some _ _).symm.trans H;rw [hy102];with_reducible exact H2_)|(have H2_:=(Option.bind_some _ _).symm.trans H;with_reducible exact H2_)|with_reducible exact H|(rw [hy102];exact H)|exact H
         have Ny102:=Aside0.mk hy102
         clear hy102
         obtain rfl:=Option.some.inj H
         have p101:0≤((ji4):Int):=of_decide_eq_true (by first|(with_reducible assumption)|assumption)
         have q101:(ji4)<(l0.length:Int):=of_decide_eq_true (by first|(with_reducible assumption)|assumption)
         obtain ⟨ad101,e101,hx101_0⟩:=Kd.at_int (Kd.R_reads' HO_0.out).2.2 (ji4) p101 q101
         cases e101
         replace p101:=eq_true p101
         replace q101:=eq_true q101
         have q10:(x3_1:Int)≤((l0.length:Int):Int):=of_decide_eq_true (by first|(with_reducible assumption)|assumption)
         obtain ⟨i010,hi010,_,hsz10,_⟩:=info_parts info60
         have hcut10:=cut_to (P:=Tryd.prog) 50 60 .i64 Tryd.underlying50 hi010 (some ad101) l0.length co2 x3_1 (of_decide_eq_true (by first|(with_reducible assumption)|assumption)) q10 (Kd.R_reads' HO_0.out).2.1
         have hr10:=Kd.R_take (m:=(x3_1:Int).toNat) HO_0.out (by omega)
         have hy10:y102.length=(x3_1:Int).toNat:=(by rw [Ny102.out,List.length_take];omega)
         rw [← Ny102.out] at hr10
         rw [← hy10] at hr10 hcut10
         clear hy10 hi010 hsz10 HO_0
         have HO104:=Aside0.mk hr10
         clear hr10
         replace q10:=eq_true q10
         go_wp2
         go_ret
         exact ⟨_,by first|rfl|(simp [errW_none,errW_some] <;> rfl)|(simp only [← hji4];first|rfl|(simp [errW_none,errW_some] <;> rfl))|(simp [*,errW_none,errW_some] <;> rfl),by (with_reducible repeat (first|apply Kd.R_alloc|apply Kd.R_drewN|apply Kd.R_drew));exact HO104.out,by repeat (first|(with_reducible first|exact HB.out|apply below_alloc|apply pw_below_drewN|apply below_drew1)|exact HB.out),by repeat (first|(with_reducible first|exact HK.out|apply Kept.alloc|apply Kept.drewN|apply Kept.drew)|exact HK.out)⟩
        ·rw [if_neg c9] at H
         exact absurd H (by simp)
       ·rw [if_neg c8] at H
        exact absurd H (by simp)
     ·rw [if_neg c6] at H
      exact absurd H (by simp)
    ·rw [if_neg c5] at H
     exact absurd H (by simp)
   ·rw [if_neg c3] at H
    have c3b0:decide (0<x3_1)=false:=decide_eq_false c3
    clear c3
    by_cases c11:0≤x3_1
    ·rw [if_pos c11] at H
     have c11b0:=eq_true c11
     have c11b1:decide (0≤x3_1)=true:=decide_eq_true c11
     clear c11
     by_cases c12:x3_1≤(l0.length:Int)
     ·rw [if_pos c12] at H
      have c12b0:=eq_true c12
      have c12b1:decide (x3_1≤(l0.length:Int))=true:=decide_eq_true c12
      clear c12
      obtain ⟨y105,hy105⟩:∃ y_:List Int,y_=(l0.take (x3_1:Int).toNat):=⟨_,rfl⟩
      replace H:(some y105)=some r:=by first|(rw [hy105];with_reducible exact H)|(have H2_:=(Option.bind_some _ _).symm.trans H;rw [hy105];with_reducible exact H2_)|(have H2_:=(Option.bind_some _ _).symm.trans H;with_reducible exact H2_)|with_reducible exact H|(rw [hy105];exact H)|exact H
      have Ny105:=Aside0.mk hy105
      clear hy105
      obtain rfl:=Option.some.inj H
      have q13:(x3_1:Int)≤((l0.length:Int):Int):=of_decide_eq_true (by first|(with_reducible assumption)|assumption)
      obtain ⟨i013,hi013,_,hsz13,_⟩:=info_parts info60
      have hcut13:=cut_to (P:=Tryd.prog) 50 60 .i64 Tryd.underlying50 hi013 Ao2 l0.length co2 x3_1 (of_decide_eq_true (by first|(with_reducible assumption)|assumption)) q13 (Kd.R_reads' HO_0.out).2.1
      have hr13:=Kd.R_take (m:=(x3_1:Int).toNat) HO_0.out (by omega)
      have hy13:y105.length=(x3_1:Int).toNat:=(by rw [Ny105.out,List.length_take];omega)
      rw [← Ny105.out] at hr13
      rw [← hy13] at hr13 hcut13
      clear hy13 hi013 hsz13 HO_0
      have HO107:=Aside0.mk hr13
      clear hr13
      replace q13:=eq_true q13
      go_wp2
      go_ret
      exact ⟨_,by first|rfl|(simp [errW_none,errW_some] <;> rfl)|(simp [*,errW_none,errW_some] <;> rfl),by (with_reducible repeat (first|apply Kd.R_alloc|apply Kd.R_drewN|apply Kd.R_drew));exact HO107.out,by repeat (first|(with_reducible first|exact HB.out|apply below_alloc|apply pw_below_drewN|apply below_drew1)|exact HB.out),by repeat (first|(with_reducible first|exact HK.out|apply Kept.alloc|apply Kept.drewN|apply Kept.drew)|exact HK.out)⟩
     ·rw [if_neg c12] at H
      exact absurd H (by simp)
    ·rw [if_neg c11] at H
     exact absurd H (by simp)
end Go.Proofs.YtjaflmhdclmolaaDoor.F
end
section
namespace Go.Proofs.YtjaflmhdclmolaaDoor.F
open Go.RowKit Go.Proofs.YtjaflmhdclmolaaDoorW.PrintWords Go.Proofs.YtjaflmhdclmolaaDoorW.PrintLast Go.Proofs.YtjaflmhdclmolaaDoorW.PrintMore
attribute [local go_sem] max2_int min2_int max_two min_two max_three min_three max_four min_four   
set_option linter.unusedVariables false
set_option linter.unusedSimpArgs false
def natural_parse.l0:Nat→ByteArray→List Int→Int→Int→Option (List Int)
 | 0,_,_,_,_=>none
 | k+1,x0,x3,x12,x13=>if x13<x12 then (if 0≤(wrap64 (Int.tdiv x13 4)) then (if (wrap64 (Int.tdiv x13 4))<(x3.length:Int) then (if 0≤(wrap64 ((wrap64 ((x0.size:Int)-1))-x13)) then (if (wrap64 ((wrap64 ((x0.size:Int)-1))-x13))<(x0.size:Int) then (if 0≤(wrap64 (8*(Int.tmod x13 4))) then (natural_parse.l0 k x0 (x3.set ((wrap64 (Int.tdiv x13 4)):Int).toNat (Go.bits .or .u32 (rd x3 (wrap64 (Int.tdiv x13 4))) (shl .u32 ((bt x0 (wrap64 ((wrap64 ((x0.size:Int)-1))-x13)))%4294967296) (wrap64 (8*(Int.tmod x13 4)))))) x12 (wrap64 (x13+1))) else (none)) else (none)) else (none)) else (none)) else (none)) else ((natural_limbs_trim.f k x3).bind fun t113=>(some t113))
def natural_parse.f (k:Nat) (a0:ByteArray):Option (List Int):=if 0≤(wrap64 (Int.tdiv (wrap64 ((wrap64 ((a0.size:Int)+4))-1)) 4)) then (if (wrap64 (Int.tdiv (wrap64 ((wrap64 ((a0.size:Int)+4))-1)) 4):Int).toNat≤70368744177664 then (natural_parse.l0 k a0 (List.replicate (wrap64 (Int.tdiv (wrap64 ((wrap64 ((a0.size:Int)+4))-1)) 4):Int).toNat 0) (a0.size:Int) 0) else (none)) else (none)
theorem natural_parse.mono_l:∀ k,(∀ y0 y1 y2 y3,LeO (natural_parse.l0 k y0 y1 y2 y3) (natural_parse.l0 (k+1) y0 y1 y2 y3))
 | 0=>fun _ _ _ _ r h=>by simp [natural_parse.l0] at h
 | k+1=>by
  have ih0:=natural_parse.mono_l k
  ·intro y0 y1 y2 y3
   unfold natural_parse.l0
   repeat' first
   | (with_reducible exact ih0 _ _ _ _)
   | (with_reducible exact natural_limbs_trim.mono _ _)
   | (with_reducible exact LeO.refl _)
   | (with_reducible exact LeO.none _)
   | (with_reducible refine LeO.ite ?_ ?_)
   | (with_reducible refine LeO.bind ?_ (fun _=>?_))
   | exact ih0 _ _ _ _
   | exact natural_limbs_trim.mono _ _
   | exact LeO.none _
   | refine LeO.ite ?_ ?_
   | refine LeO.bind ?_ (fun _=>?_)
theorem natural_parse.mono:∀ a0 k,LeO (natural_parse.f k a0) (natural_parse.f (k+1) a0):=by
 intro a0 k
 have ih0:=natural_parse.mono_l k
 unfold natural_parse.f
 repeat' first
  | (with_reducible exact ih0 _ _ _ _)
  | (with_reducible exact natural_limbs_trim.mono _ _)
  | (with_reducible exact LeO.refl _)
  | (with_reducible exact LeO.none _)
  | (with_reducible refine LeO.ite ?_ ?_)
  | (with_reducible refine LeO.bind ?_ (fun _=>?_))
  | exact ih0 _ _ _ _
  | exact natural_limbs_trim.mono _ _
  | exact LeO.none _
  | refine LeO.ite ?_ ?_
  | refine LeO.bind ?_ (fun _=>?_)
def natural_parse.T5:Bool×List (List Nat×List Nat):=(true,[([],[]),([],[]),([1],[1]),([0,2],[0,2]),([3],[3]),([],[]),([],[]),([6],[6]),([7],[7]),([],[]),([8,9],[8,9]),([5,10],[5,10]),([11],[11]),([],[]),([13],[13]),([14],[14]),([12,15],[12,15]),([4,16],[4,16]),([0,2,0,1,2,3,4,5,6,7,8,9,10,11,12,13,14,15,16,17],[0,2]),([18,17,0,1,2,3,4,5,6,7,8,9,10,11,12,13,14,15,16,17],[17,18])])
def natural_parse.B5:List Nat:=[0,0,2,7,15,0,0,64,192,0,960,2016,4064,0,8192,24576,65504,131071,262143,524287]
theorem natural_parse.tab5:rtab .any (opsOf Tryd.f42 5)=natural_parse.T5:=by kernel_rfl
theorem natural_parse.bits5:waitsOk natural_parse.T5.2 natural_parse.B5=true:=by kernel_rfl
set_option maxHeartbeats 8000000 in
set_option maxRecDepth 100000 in
theorem natural_parse.calls (k:Nat) (a0:ByteArray) (r:List Int) (w:World) (h:natural_parse.f k a0=some r) :
 Calls Tryd.prog 42 #[.string a0] w fun e w'=>∃ v0_:Value,e = .returned (v0_)∧Kd.R (Kd.int .u32) 60 w' w.heap.size (fun _=>True) v0_ r∧Below w.heap.size w w':=by
 have HB:=Aside0.mk (Below.refl w.heap.size w)
 have H:(if 0≤(wrap64 (Int.tdiv (wrap64 ((wrap64 ((a0.size:Int)+4))-1)) 4)) then (if (wrap64 (Int.tdiv (wrap64 ((wrap64 ((a0.size:Int)+4))-1)) 4):Int).toNat≤70368744177664 then (natural_parse.l0 k a0 (List.replicate (wrap64 (Int.tdiv (wrap64 ((wrap64 ((a0.size:Int)+4))-1)) 4):Int).toNat 0) (a0.size:Int) 0) else (none)) else (none))=some r:=h
 clear h
 obtain ⟨ji2,hji2⟩:∃ j_:Int,(wrap64 (Int.tdiv (wrap64 ((wrap64 ((a0.size:Int)+4))-1)) 4))=j_:=⟨_,rfl⟩
 replace H:(if 0≤(ji2) then (if (ji2:Int).toNat≤70368744177664 then (natural_parse.l0 k a0 (List.replicate (ji2:Int).toNat 0) (a0.size:Int) 0) else (none)) else (none))=some r:=by first|(rw [hji2] at H;exact H)|(simp only [hji2] at H ⊢;exact H)
 have hji2w:(IntKind.i64.wrap (Int.tdiv (wrap64 ((wrap64 ((a0.size:Int)+4))-1)) 4))=ji2:=(i64_w _).trans hji2
 by_cases c3:0≤(ji2)
 ·rw [if_pos c3] at H
  have c3b0:=eq_true c3
  have c3b1:decide (0≤(ji2))=true:=decide_eq_true c3
  clear c3
  by_cases c4:(ji2:Int).toNat≤70368744177664
  ·rw [if_pos c4] at H
   have c4b0:=eq_true c4
   have c4b1:decide ((ji2:Int).toNat≤70368744177664)=true:=decide_eq_true c4
   clear c4
   obtain ⟨y108,hy108⟩:∃ y_:List Int,y_=(List.replicate (ji2:Int).toNat 0):=⟨_,rfl⟩
   replace H:(natural_parse.l0 k a0 y108 (a0.size:Int) 0)=some r:=by first|(rw [hy108];with_reducible exact H)|(have H2_:=(Option.bind_some _ _).symm.trans H;rw [hy108];with_reducible exact H2_)|(have H2_:=(Option.bind_some _ _).symm.trans H;with_reducible exact H2_)|with_reducible exact H|(rw [hy108];exact H)|exact H
   have Ny108:=Aside0.mk hy108
   clear hy108
   have H':=Aside0.mk H
   clear H
   go_enter Tryd.func42,Tryd.ntmps42
   go_wp2_with (first|((with_reducible refine gate_dst (N:=10) rfl ?_);refine Kd.R_make (Kd.int .u32) _ 60 rfl (N:=10) rfl 50 _ _ rfl ji2 rfl rfl Tryd.underlying50 (.int .u32 0) 4 info60 rfl (by decide) (by omega) 0 (ok:=fun _=>True) (okp:=fun _=>True) rfl (fun _ hk=>hk) trivial (of_decide_eq_true (by first|(with_reducible assumption)|assumption)) (Nat.le_trans (Nat.mul_le_mul_right _ (of_decide_eq_true (by first|(with_reducible assumption)|assumption):ji2.toNat≤70368744177664)) (by omega)) (Below.refl _ _) (Nat.le_refl _) ?_;intro v109 w5 ho6 hb hg_ hnew_;clear hg_ hnew_;(first|rw [← Ny108.out] at ho6|(simp only [Int.reduceToNat] at ho6;rw [← Ny108.out] at ho6));have n0_:=Aside0.mk (Kd.R_lower ho6 (below_size (by repeat (first|(with_reducible first|exact HB.out|apply below_alloc|apply pw_below_drewN|apply below_drew1)|exact HB.out))));have n1_:=Aside0.mk (below_step (by repeat (first|(with_reducible first|exact HB.out|apply below_alloc|apply pw_below_drewN|apply below_drew1)|exact HB.out)) hb);clear HB;have HO110:=n0_;have HB:=n1_;clear n0_ n1_;clear hb ho6))
   go_loopg [13] k (fun kq v13 w'=>∃ (x3_1:List Int) (x13_1:Int),v13 = .int .i64 x13_1∧Aside0 (natural_parse.l0 kq a0 x3_1 (a0.size:Int) x13_1=some r)∧Aside0 (kq≤k)∧Aside0 (Kd.R (Kd.int .u32) 60 w' w.heap.size (fun _=>True) v109 x3_1)∧Aside0 (Below w.heap.size w w'))
   case atStart=>exact ⟨(y108),(0),(by first|rfl|(simp;done)|(simp [*];done)),H',⟨Nat.le_refl _⟩,⟨by (with_reducible repeat (first|apply Kd.R_alloc|apply Kd.R_drewN|apply Kd.R_drew));exact HO110.out⟩,⟨by repeat (first|(with_reducible first|exact HB.out|apply below_alloc|apply pw_below_drewN|apply below_drew1)|exact HB.out)⟩⟩
   case round=>
    clear H'
    try clear p2
    try clear c3
    try clear c3b0
    try clear c3b1
    try clear c4
    try clear c4b0
    try clear c4b1
    try clear p6
    obtain ⟨x3_1,x13_1,rfl,HA,HK1,HO_3,HB⟩:=hrel
    cases gk with
    | zero=>exact absurd HA.out (by simp [natural_parse.l0])
    | succ k1=>
     have H:=HA.out
     clear HA
     simp only [natural_parse.l0] at H
     by_cases c7:x13_1<(a0.size:Int)
     ·rw [if_pos c7] at H
      have c7b0:decide (x13_1<(a0.size:Int))=true:=decide_eq_true c7
      clear c7
      obtain ⟨ji8,hji8⟩:∃ j_:Int,(wrap64 (Int.tdiv x13_1 4))=j_:=⟨_,rfl⟩
      replace H:(if 0≤(ji8) then (if (ji8)<(x3_1.length:Int) then (if 0≤(wrap64 ((wrap64 ((a0.size:Int)-1))-x13_1)) then (if (wrap64 ((wrap64 ((a0.size:Int)-1))-x13_1))<(a0.size:Int) then (if 0≤(wrap64 (8*(Int.tmod x13_1 4))) then (natural_parse.l0 k1 a0 (x3_1.set ((ji8):Int).toNat (Go.bits .or .u32 (rd x3_1 (ji8)) (shl .u32 ((bt a0 (wrap64 ((wrap64 ((a0.size:Int)-1))-x13_1)))%4294967296) (wrap64 (8*(Int.tmod x13_1 4)))))) (a0.size:Int) (wrap64 (x13_1+1))) else (none)) else (none)) else (none)) else (none)) else (none))=some r:=by first|(rw [hji8] at H;exact H)|(simp only [hji8] at H ⊢;exact H)
      have hji8w:(IntKind.i64.wrap (Int.tdiv x13_1 4))=ji8:=(i64_w _).trans hji8
      by_cases c9:0≤(ji8)
      ·rw [if_pos c9] at H
       have c9b0:decide (0≤(ji8))=true:=decide_eq_true c9
       clear c9
       by_cases c10:(ji8)<(x3_1.length:Int)
       ·rw [if_pos c10] at H
        have c10b0:decide ((ji8)<(x3_1.length:Int))=true:=decide_eq_true c10
        clear c10
        obtain ⟨ji11,hji11⟩:∃ j_:Int,(wrap64 ((wrap64 ((a0.size:Int)-1))-x13_1))=j_:=⟨_,rfl⟩
        replace H:(if 0≤(ji11) then (if (ji11)<(a0.size:Int) then (if 0≤(wrap64 (8*(Int.tmod x13_1 4))) then (natural_parse.l0 k1 a0 (x3_1.set ((ji8):Int).toNat (Go.bits .or .u32 (rd x3_1 (ji8)) (shl .u32 ((bt a0 (ji11))%4294967296) (wrap64 (8*(Int.tmod x13_1 4)))))) (a0.size:Int) (wrap64 (x13_1+1))) else (none)) else (none)) else (none))=some r:=by first|(rw [hji11] at H;exact H)|(simp only [hji11] at H ⊢;exact H)
        have hji11w:(IntKind.i64.wrap ((wrap64 ((a0.size:Int)-1))-x13_1))=ji11:=(i64_w _).trans hji11
        by_cases c12:0≤(ji11)
        ·rw [if_pos c12] at H
         have c12b0:decide (0≤(ji11))=true:=decide_eq_true c12
         clear c12
         by_cases c13:(ji11)<(a0.size:Int)
         ·rw [if_pos c13] at H
          have c13b0:decide ((ji11)<(a0.size:Int))=true:=decide_eq_true c13
          clear c13
          obtain ⟨ji15,hji15⟩:∃ j_:Int,(wrap64 (8*(Int.tmod x13_1 4)))=j_:=⟨_,rfl⟩
          replace H:(if 0≤(ji15) then (natural_parse.l0 k1 a0 (x3_1.set ((ji8):Int).toNat (Go.bits .or .u32 (rd x3_1 (ji8)) (shl .u32 ((bt a0 (ji11))%4294967296) (ji15)))) (a0.size:Int) (wrap64 (x13_1+1))) else (none))=some r:=by first|(rw [hji15] at H;exact H)|(simp only [hji15] at H ⊢;exact H)
          have hji15w:(IntKind.i64.wrap (8*(Int.tmod x13_1 4)))=ji15:=(i64_w _).trans hji15
          by_cases c16:0≤(ji15)
          ·rw [if_pos c16] at H
           have c16b0:=eq_true c16
           have c16b1:decide (0≤(ji15))=true:=decide_eq_true c16
           clear c16
           obtain ⟨ji17,hji17⟩:∃ j_:Int,(shl .u32 ((bt a0 (ji11))%4294967296) (ji15))=j_:=⟨_,rfl⟩
           replace H:(natural_parse.l0 k1 a0 (x3_1.set ((ji8):Int).toNat (Go.bits .or .u32 (rd x3_1 (ji8)) (ji17))) (a0.size:Int) (wrap64 (x13_1+1)))=some r:=by first|(rw [hji17] at H;exact H)|(simp only [hji17] at H ⊢;exact H)
           have hji17_:(IntKind.u32.wrap (((bt a0 (ji11))%4294967296)*2 ^ min (ji15).toNat 32))=ji17:=hji17
           have hji17z:(ji15)≤32→(IntKind.u32.wrap (((bt a0 (ji11))%4294967296)*2 ^ (ji15).toNat))=ji17:=shl_small hji17
           obtain ⟨y112,hy112⟩:∃ y_:List Int,y_=(x3_1.set ((ji8):Int).toNat (Go.bits .or .u32 (rd x3_1 (ji8)) (ji17))):=⟨_,rfl⟩
           replace H:(natural_parse.l0 k1 a0 y112 (a0.size:Int) (wrap64 (x13_1+1)))=some r:=by first|(rw [hy112];with_reducible exact H)|(have H2_:=(Option.bind_some _ _).symm.trans H;rw [hy112];with_reducible exact H2_)|(have H2_:=(Option.bind_some _ _).symm.trans H;with_reducible exact H2_)|with_reducible exact H|(rw [hy112];exact H)|exact H
           have Ny112:=Aside0.mk hy112
           clear hy112
           have H':=Aside0.mk H
           clear H
           try go_wp2
           have n0_:=Aside0.mk (Kd.R_drew HO_3.out)
           have n1_:=Aside0.mk (below_drew1 HB.out)
           clear HO_3
           clear HB
           have HO_3:=n0_
           have HB:=n1_
           clear n0_ n1_
           obtain ⟨Ao20,co20,eo20⟩:=Kd.R_slice HO_3.out
           (first|subst eo20|(injection eo20 with f1_ f2_ f3_;have f4_:=f1_.symm;have f5_:=f3_.symm;clear f1_ f2_ f3_;subst f4_;subst f5_))
           have p111:0≤((ji8):Int):=of_decide_eq_true (by first|(with_reducible assumption)|assumption)
           have q111:(ji8)<(x3_1.length:Int):=of_decide_eq_true (by first|(with_reducible assumption)|assumption)
           obtain ⟨ad111,e111,hx111_0⟩:=Kd.at_int (Kd.R_reads' HO_3.out).2.2 (ji8) p111 q111
           cases e111
           replace p111:=eq_true p111
           replace q111:=eq_true q111
           have p14:0≤((ji11):Int):=of_decide_eq_true (by first|(with_reducible assumption)|assumption)
           have q14:(ji11)<(a0.size:Int):=of_decide_eq_true (by first|(with_reducible assumption)|assumption)
           have hx14:=bt_at a0 (ji11)
           replace p14:=eq_true p14
           replace q14:=eq_true q14
           have p18:0≤((ji8):Int):=of_decide_eq_true (by first|(with_reducible assumption)|assumption)
           have q18:((ji8):Int)<((x3_1.length:Int):Int):=of_decide_eq_true (by first|(with_reducible assumption)|assumption)
           obtain ⟨go18,co18,eo18,gb18,gl18,cl18,HG18⟩:=Kd.R_form HO_3.out (by omega)
           (first|cases eo18|(injection eo18 with ea_ en_ ec_;(first|subst ea_|(injection ea_ with ea_;subst ea_));subst ec_;clear en_))
           have GB18:=Aside0.mk gb18
           have GG18:=Aside0.mk HG18
           clear gb18 gl18 HG18
           (first|simp only [add_plain] at hx111_0|skip)
           obtain ⟨hx18_0,hf18_0⟩:=Kd.R_celln 0 HO_3.out ((ji8):Int) p18 q18
           replace p18:=eq_true p18
           replace q18:=eq_true q18
           have HP21:=Kd.R_putn HO_3.out ((ji8):Int) (Go.bits .or .u32 (rd x3_1 (ji8)) (ji17))
           rw [← Ny112.out] at HP21
           have HQ21:=Aside0.mk HP21
           clear HP21
           refine start_ (n:=20) (S:=fun w'=>w'.cell? ⟨go18,((ji8)).toNat,none⟩=some (.int .u32 (rd x3_1 (ji8)))) (ds:=[19]) #[false,false,false,false,false,false,false,false,false,false,false,false,false,false,false,false,false,false,false,false] (by kernel_rfl) rfl rfl (hx111_0) (fun hHeld=>?_);refine with_tabW natural_parse.tab5 natural_parse.bits5 (fun HT_ HW_=>?_)
           generalize wr.drew=w19 at HO_3 HB GG18 HQ21 hf18_0 hx111_0 hx18_0 hHeld ⊢
           refine pure_ (i:=0) (N:=some 16) (v:=?_) (a':=?_) #[true,false,false,false,false,false,false,false,false,false,false,false,false,false,false,false,false,false,false,false] rfl rfl (any_of HT_.out (by kernel_rfl)) (fun _ _ _ h=>h) (Or.inl ⟨by rfl,?_⟩) ?_ ?_
           rotate_left
           ·intro w'
            go_simp
            with_reducible rfl
           rotate_left
           ·simp only [Act.put,List.setIfInBounds_toArray,List.set_cons_zero,List.set_cons_succ,i64_w,i32_w]
            rfl
           refine pure_ (i:=1) (N:=some 17) (v:=?_) (a':=?_) #[true,true,false,false,false,false,false,false,false,false,false,false,false,false,false,false,false,false,false,false] rfl rfl (any_of HT_.out (by kernel_rfl)) (fun _ _ _ h=>h) (Or.inl ⟨by rfl,?_⟩) ?_ ?_
           rotate_left
           ·intro w'
            go_simp
            with_reducible rfl
           rotate_left
           ·simp only [Act.put,List.setIfInBounds_toArray,List.set_cons_zero,List.set_cons_succ,i64_w,i32_w]
            rfl
           refine pure_ (i:=2) (N:=some 18) (v:=?_) (a':=?_) #[true,true,true,false,false,false,false,false,false,false,false,false,false,false,false,false,false,false,false,false] rfl rfl (any_of HT_.out (by kernel_rfl)) (fun _ _ _ h=>h) (Or.inl ⟨by rfl,?_⟩) ?_ ?_
           rotate_left
           ·intro w'
            go_simp
            with_reducible rfl
           rotate_left
           ·simp only [Act.put,List.setIfInBounds_toArray,List.set_cons_zero,List.set_cons_succ,i64_w,i32_w]
            rfl
           refine pure_ (i:=3) (N:=some 19) (v:=?_) (a':=?_) #[true,true,true,true,false,false,false,false,false,false,false,false,false,false,false,false,false,false,false,false] rfl rfl (any_of HT_.out (by kernel_rfl)) (fun _ _ _ h=>h) (Or.inl ⟨by rfl,?_⟩) ?_ ?_
           rotate_left
           ·intro w'
            go_simp
            with_reducible rfl
           rotate_left
           ·simp only [Act.put,List.setIfInBounds_toArray,List.set_cons_zero,List.set_cons_succ,i64_w,i32_w]
            rfl
           refine pure_ (i:=5) (N:=some 21) (v:=?_) (a':=?_) #[true,true,true,true,false,true,false,false,false,false,false,false,false,false,false,false,false,false,false,false] rfl rfl (any_of HT_.out (by kernel_rfl)) (fun _ _ _ h=>h) (Or.inl ⟨by rfl,?_⟩) ?_ ?_
           rotate_left
           ·intro w'
            go_simp
            with_reducible rfl
           rotate_left
           ·simp only [Act.put,List.setIfInBounds_toArray,List.set_cons_zero,List.set_cons_succ,i64_w,i32_w]
            rfl
           refine pure_ (i:=6) (N:=some 22) (v:=?_) (a':=?_) #[true,true,true,true,false,true,true,false,false,false,false,false,false,false,false,false,false,false,false,false] rfl rfl (any_of HT_.out (by kernel_rfl)) (fun _ _ _ h=>h) (Or.inl ⟨by rfl,?_⟩) ?_ ?_
           rotate_left
           ·intro w'
            go_simp
            with_reducible rfl
           rotate_left
           ·simp only [Act.put,List.setIfInBounds_toArray,List.set_cons_zero,List.set_cons_succ,i64_w,i32_w]
            rfl
           refine pure_ (i:=7) (N:=some 23) (v:=?_) (a':=?_) #[true,true,true,true,false,true,true,true,false,false,false,false,false,false,false,false,false,false,false,false] rfl rfl (any_of HT_.out (by kernel_rfl)) (fun _ _ _ h=>h) (Or.inl ⟨by rfl,?_⟩) ?_ ?_
           rotate_left
           ·intro w'
            go_simp
            with_reducible rfl
           rotate_left
           ·simp only [Act.put,List.setIfInBounds_toArray,List.set_cons_zero,List.set_cons_succ,i64_w,i32_w]
            rfl
           refine pure_ (i:=8) (N:=some 24) (v:=?_) (a':=?_) #[true,true,true,true,false,true,true,true,true,false,false,false,false,false,false,false,false,false,false,false] rfl rfl (any_of HT_.out (by kernel_rfl)) (fun _ _ _ h=>h) (Or.inl ⟨by rfl,?_⟩) ?_ ?_
           rotate_left
           ·intro w'
            go_simp
            with_reducible rfl
           rotate_left
           ·simp only [Act.put,List.setIfInBounds_toArray,List.set_cons_zero,List.set_cons_succ,i64_w,i32_w]
            rfl
           refine pure_ (i:=9) (N:=some 25) (v:=?_) (a':=?_) #[true,true,true,true,false,true,true,true,true,true,false,false,false,false,false,false,false,false,false,false] rfl rfl (any_of HT_.out (by kernel_rfl)) (fun _ _ _ h=>h) (Or.inl ⟨by rfl,?_⟩) ?_ ?_
           rotate_left
           ·intro w'
            go_simp
            with_reducible rfl
           rotate_left
           ·simp only [Act.put,List.setIfInBounds_toArray,List.set_cons_zero,List.set_cons_succ,i64_w,i32_w]
            rfl
           refine pure_ (i:=10) (N:=some 26) (v:=?_) (a':=?_) #[true,true,true,true,false,true,true,true,true,true,true,false,false,false,false,false,false,false,false,false] rfl rfl (any_of HT_.out (by kernel_rfl)) (fun _ _ _ h=>h) (Or.inl ⟨by rfl,?_⟩) ?_ ?_
           rotate_left
           ·intro w'
            go_simp
            with_reducible rfl
           rotate_left
           ·simp only [Act.put,List.setIfInBounds_toArray,List.set_cons_zero,List.set_cons_succ,i64_w,i32_w]
            rfl
           refine pure_ (i:=13) (N:=some 29) (v:=?_) (a':=?_) #[true,true,true,true,false,true,true,true,true,true,true,false,false,true,false,false,false,false,false,false] rfl rfl (any_of HT_.out (by kernel_rfl)) (fun _ _ _ h=>h) (Or.inl ⟨by rfl,?_⟩) ?_ ?_
           rotate_left
           ·intro w'
            go_simp
            with_reducible rfl
           rotate_left
           ·simp only [Act.put,List.setIfInBounds_toArray,List.set_cons_zero,List.set_cons_succ,i64_w,i32_w]
            rfl
           refine pure_ (i:=14) (N:=some 30) (v:=?_) (a':=?_) #[true,true,true,true,false,true,true,true,true,true,true,false,false,true,true,false,false,false,false,false] rfl rfl (any_of HT_.out (by kernel_rfl)) (fun _ _ _ h=>h) (Or.inl ⟨by rfl,?_⟩) ?_ ?_
           rotate_left
           ·intro w'
            go_simp
            with_reducible rfl
           rotate_left
           ·simp only [Act.put,List.setIfInBounds_toArray,List.set_cons_zero,List.set_cons_succ,i64_w,i32_w]
            rfl
           refine pure_ (i:=15) (N:=some 31) (v:=?_) (a':=?_) #[true,true,true,true,false,true,true,true,true,true,true,false,false,true,true,true,false,false,false,false] rfl rfl (any_of HT_.out (by kernel_rfl)) (fun _ _ _ h=>h) (Or.inl ⟨by rfl,?_⟩) ?_ ?_
           rotate_left
           ·intro w'
            go_simp
            with_reducible rfl
           rotate_left
           ·simp only [Act.put,List.setIfInBounds_toArray,List.set_cons_zero,List.set_cons_succ,i64_w,i32_w]
            rfl
           refine take_ (i:=4) (N:=some 20) (v:=?_) (a':=?_) #[true,true,true,true,true,true,true,true,true,true,true,false,false,true,true,true,false,false,false,false] rfl rfl (take_ofW HT_.out HW_.out (by kernel_rfl)) (fun _ _ _ h=>h) (Or.inl ⟨by rfl,?_⟩) hHeld ?_ ?_
           rotate_left
           ·intro w' s0
            go_simp
            with_reducible rfl
           rotate_left
           ·simp only [Act.put,List.setIfInBounds_toArray,List.set_cons_zero,List.set_cons_succ,i64_w,i32_w]
            rfl
           refine take_ (i:=11) (N:=some 27) (v:=?_) (a':=?_) #[true,true,true,true,true,true,true,true,true,true,true,true,false,true,true,true,false,false,false,false] rfl rfl (take_ofW HT_.out HW_.out (by kernel_rfl)) (fun _ _ _ h=>h) (Or.inl ⟨by rfl,?_⟩) hHeld ?_ ?_
           rotate_left
           ·intro w' s0
            go_simp
            with_reducible rfl
           rotate_left
           ·simp only [Act.put,List.setIfInBounds_toArray,List.set_cons_zero,List.set_cons_succ,i64_w,i32_w]
            rfl
           refine pure_ (i:=12) (N:=some 28) (v:=?_) (a':=?_) #[true,true,true,true,true,true,true,true,true,true,true,true,true,true,true,true,false,false,false,false] rfl rfl (any_of HT_.out (by kernel_rfl)) (fun _ _ _ h=>h) (Or.inl ⟨by rfl,?_⟩) ?_ ?_
           rotate_left
           ·intro w'
            go_simp
            with_reducible rfl
           rotate_left
           ·simp only [Act.put,List.setIfInBounds_toArray,List.set_cons_zero,List.set_cons_succ,i64_w,i32_w]
            rfl
           refine pure_ (i:=16) (N:=some 32) (v:=?_) (a':=?_) #[true,true,true,true,true,true,true,true,true,true,true,true,true,true,true,true,true,false,false,false] rfl rfl (any_of HT_.out (by kernel_rfl)) (fun _ _ _ h=>h) (Or.inl ⟨by rfl,?_⟩) ?_ ?_
           rotate_left
           ·intro w'
            go_simp
            with_reducible rfl
           rotate_left
           ·simp only [Act.put,List.setIfInBounds_toArray,List.set_cons_zero,List.set_cons_succ,i64_w,i32_w]
            rfl
           refine pure_ (i:=17) (N:=some 33) (v:=?_) (a':=?_) #[true,true,true,true,true,true,true,true,true,true,true,true,true,true,true,true,true,true,false,false] rfl rfl (any_of HT_.out (by kernel_rfl)) (fun _ _ _ h=>h) (Or.inl ⟨by rfl,?_⟩) ?_ ?_
           rotate_left
           ·intro w'
            go_simp
            with_reducible rfl
           rotate_left
           ·simp only [Act.put,List.setIfInBounds_toArray,List.set_cons_zero,List.set_cons_succ,i64_w,i32_w]
            rfl
           refine pure_ (i:=18) (N:=some 34) (v:=?_) (a':=?_) #[true,true,true,true,true,true,true,true,true,true,true,true,true,true,true,true,true,true,true,false] rfl rfl (any_of HT_.out (by kernel_rfl)) (fun _ _ _ h=>h) (Or.inl ⟨by rfl,?_⟩) ?_ ?_
           rotate_left
           ·intro w'
            go_simp
            with_reducible rfl
           rotate_left
           ·simp only [Act.put,List.setIfInBounds_toArray,List.set_cons_zero,List.set_cons_succ,i64_w,i32_w]
            rfl
           refine last_ (i:=19) (N:=none) #[true,true,true,true,true,true,true,true,true,true,true,true,true,true,true,true,true,true,true,true] rfl rfl (one_of HT_.out (by kernel_rfl)) (by decide) (fun K hK=>?_)
           refine skip_ (w1:=?_) (by rfl) rfl ?_ ?_
           rotate_left
           ·go_simp
            rfl
           refine hK.out _ _ ?_
           clear hK K
           refine done_ (done_of HT_.out (by kernel_rfl)) ?_
           try go_wp2
           go_roundg k1
           case measure=>have:=HK1.out;omega
           case rel=>exact ⟨(y112),(wrap64 (x13_1+1)),(by first|rfl|(simp;done)|(simp [*];done)),H',⟨by have:=HK1.out;omega⟩,⟨by (with_reducible repeat (first|apply Kd.R_alloc|apply Kd.R_drewN|apply Kd.R_drew));first|exact HQ21.out|(subst_vars;exact HQ21.out)⟩,⟨by repeat (first|(with_reducible first|exact HB.out|apply below_alloc|apply pw_below_drewN|apply below_drew1|refine below_set ?_ GB18.out)|exact HB.out)⟩⟩
          ·rw [if_neg c16] at H
           exact absurd H (by simp)
         ·rw [if_neg c13] at H
          exact absurd H (by simp)
        ·rw [if_neg c12] at H
         exact absurd H (by simp)
       ·rw [if_neg c10] at H
        exact absurd H (by simp)
      ·rw [if_neg c9] at H
       exact absurd H (by simp)
     ·rw [if_neg c7] at H
      have c7b0:decide (x13_1<(a0.size:Int))=false:=decide_eq_false c7
      clear c7
      replace H:=Option.bind_eq_some_iff.mp H
      obtain ⟨t113,A220,H⟩:=H
      replace H:(some t113)=some r:=H
      have A22:=Aside0.mk A220
      clear A220
      obtain rfl:=Option.some.inj H
      obtain ⟨Ao23,co23,eo23⟩:=Kd.R_slice HO_3.out
      subst eo23
      go_wp2_with (first|((with_reducible refine gate_callee (f:=53) rfl ?_);refine goesL_ (some 37) rfl rfl Tryd.func53 (by kernel_rfl) rfl #[.slice Ao23 x3_1.length co23] rfl (by (try simp only [List.map_toArray,List.map_cons,List.map_nil]);first|done|rfl|(simp only [List.length_drop,List.length_take];rfl)) ?_;(with_reducible refine (natural_limbs_trim.calls k1 (fun k_=>some k_=(.slice Ao23 x3_1.length co23:Value).ownBlock) (.slice Ao23 x3_1.length co23) x3_1 t113 w _ ?side1 ?side2 A22.out).mono ?_);(case side1=>repeat (first|(with_reducible first|exact HB.out|apply below_alloc|apply pw_below_drewN|apply below_drew1)|exact HB.out));(case side2=>exact Kd.R_tight rfl HO_3.out);rintro e w24 ⟨v114,rfl,ho0,hb,hkp⟩;refine ⟨_,rfl,?_⟩;have n0_:=Aside0.mk (Kd.R_mono (ok':=fun k_=>True) ho0 (fun k_ hk_=>trivial));have n1_:=Aside0.mk (hb);clear HB;clear HO_3;have HO115:=n0_;have HB:=n1_;clear n0_ n1_;(try clear hb);(try clear hkp);(try clear ho0)))
      go_ret
      exact ⟨_,by first|rfl|(simp [errW_none,errW_some] <;> rfl)|(simp only [← hji2];first|rfl|(simp [errW_none,errW_some] <;> rfl))|(simp [*,errW_none,errW_some] <;> rfl),by (with_reducible repeat (first|apply Kd.R_alloc|apply Kd.R_drewN|apply Kd.R_drew));exact HO115.out,by repeat (first|(with_reducible first|exact HB.out|apply below_alloc|apply pw_below_drewN|apply below_drew1)|exact HB.out)⟩
  ·rw [if_neg c4] at H
   exact absurd H (by simp)
 ·rw [if_neg c3] at H
  exact absurd H (by simp)
end Go.Proofs.YtjaflmhdclmolaaDoor.F
end
section
namespace Go.Proofs.YtjaflmhdclmolaaDoor.F
open Go.RowKit Go.Proofs.YtjaflmhdclmolaaDoorW.PrintWords Go.Proofs.YtjaflmhdclmolaaDoorW.PrintLast Go.Proofs.YtjaflmhdclmolaaDoorW.PrintMore
attribute [local go_sem] max2_int min2_int max_two min_two max_three min_three max_four min_four   
set_option linter.unusedVariables false
set_option linter.unusedSimpArgs false
mutual
def natural_Add.j0:Nat→List Int→List Int→Option (ByteArray)
 | 0,_,_=>none
 | k+1,x5,x6=>if 0≤(wrap64 ((x5.length:Int)+1)) then (if (wrap64 ((x5.length:Int)+1):Int).toNat≤70368744177664 then (natural_Add.l0 k x5 x6 (List.replicate (wrap64 ((x5.length:Int)+1):Int).toNat 0) 0 (x5.length:Int) 0) else (none)) else (none)
def natural_Add.l0:Nat→List Int→List Int→List Int→Int→Int→Int→Option (ByteArray)
 | 0,_,_,_,_,_,_=>none
 | k+1,x5,x6,x7,x8,x27,x28=>if x28<x27 then (if x28<(x6.length:Int) then (if 0≤x28 then (if x28<(x5.length:Int) then ((bits_Add32.f (rd x5 x28) (rd x6 x28) x8).bind fun bt234=>(if x28<(x7.length:Int) then (natural_Add.l0 k x5 x6 (x7.set (x28:Int).toNat bt234.1) bt234.2 x27 (wrap64 (x28+1))) else (none))) else (none)) else (none)) else (if 0≤x28 then (if x28<(x5.length:Int) then ((bits_Add32.f (rd x5 x28) 0 x8).bind fun bt238=>(if x28<(x7.length:Int) then (natural_Add.l0 k x5 x6 (x7.set (x28:Int).toNat bt238.1) bt238.2 x27 (wrap64 (x28+1))) else (none))) else (none)) else (none))) else (if 0≤(x5.length:Int) then (if (x5.length:Int)<(x7.length:Int) then ((natural_limbs_text.f k (x7.set ((x5.length:Int):Int).toNat x8)).bind fun t242=>(some t242)) else (none)) else (none))
end
def natural_Add.f (k:Nat) (a0:ByteArray) (a1:ByteArray):Option (ByteArray):=(natural_parse.f k a0).bind fun t223=>((natural_parse.f k a1).bind fun t226=>(if (t223.length:Int)<(t226.length:Int) then (natural_Add.j0 k t226 t223) else (natural_Add.j0 k t223 t226)))
theorem natural_Add.mono_l:∀ k,(∀ y0 y1,LeO (natural_Add.j0 k y0 y1) (natural_Add.j0 (k+1) y0 y1))∧(∀ y0 y1 y2 y3 y4 y5,LeO (natural_Add.l0 k y0 y1 y2 y3 y4 y5) (natural_Add.l0 (k+1) y0 y1 y2 y3 y4 y5))
 | 0=>⟨fun _ _ r h=>by simp [natural_Add.j0] at h,fun _ _ _ _ _ _ r h=>by simp [natural_Add.l0] at h⟩
 | k+1=>by
  obtain ⟨ih0,ih1⟩:=natural_Add.mono_l k
  refine ⟨?_,?_⟩
  ·intro y0 y1
   unfold natural_Add.j0
   repeat' first
   | (with_reducible exact ih0 _ _)
   | (with_reducible exact ih1 _ _ _ _ _ _)
   | (with_reducible exact natural_limbs_text.mono _ _)
   | (with_reducible exact natural_parse.mono _ _)
   | (with_reducible exact LeO.refl _)
   | (with_reducible exact LeO.none _)
   | (with_reducible refine LeO.ite ?_ ?_)
   | (with_reducible refine LeO.bind ?_ (fun _=>?_))
   | exact ih0 _ _
   | exact ih1 _ _ _ _ _ _
   | exact natural_limbs_text.mono _ _
   | exact natural_parse.mono _ _
   | exact LeO.none _
   | refine LeO.ite ?_ ?_
   | refine LeO.bind ?_ (fun _=>?_)
  ·intro y0 y1 y2 y3 y4 y5
   unfold natural_Add.l0
   repeat' first
   | (with_reducible exact ih0 _ _)
   | (with_reducible exact ih1 _ _ _ _ _ _)
   | (with_reducible exact natural_limbs_text.mono _ _)
   | (with_reducible exact natural_parse.mono _ _)
   | (with_reducible exact LeO.refl _)
   | (with_reducible exact LeO.none _)
   | (with_reducible refine LeO.ite ?_ ?_)
   | (with_reducible refine LeO.bind ?_ (fun _=>?_))
   | exact ih0 _ _
   | exact ih1 _ _ _ _ _ _
   | exact natural_limbs_text.mono _ _
   | exact natural_parse.mono _ _
   | exact LeO.none _
   | refine LeO.ite ?_ ?_
   | refine LeO.bind ?_ (fun _=>?_)
theorem natural_Add.mono:∀ a0 a1 k,LeO (natural_Add.f k a0 a1) (natural_Add.f (k+1) a0 a1):=by
 intro a0 a1 k
 obtain ⟨ih0,ih1⟩:=natural_Add.mono_l k
 unfold natural_Add.f
 repeat' first
  | (with_reducible exact ih0 _ _)
  | (with_reducible exact ih1 _ _ _ _ _ _)
  | (with_reducible exact natural_limbs_text.mono _ _)
  | (with_reducible exact natural_parse.mono _ _)
  | (with_reducible exact LeO.refl _)
  | (with_reducible exact LeO.none _)
  | (with_reducible refine LeO.ite ?_ ?_)
  | (with_reducible refine LeO.bind ?_ (fun _=>?_))
  | exact ih0 _ _
  | exact ih1 _ _ _ _ _ _
  | exact natural_limbs_text.mono _ _
  | exact natural_parse.mono _ _
  | exact LeO.none _
  | refine LeO.ite ?_ ?_
  | refine LeO.bind ?_ (fun _=>?_)
set_option maxHeartbeats 8000000 in
set_option maxRecDepth 100000 in
theorem natural_Add.calls (k:Nat) (a0:ByteArray) (a1:ByteArray) (r:ByteArray) (w:World) (h:natural_Add.f k a0 a1=some r) :
 Calls Tryd.prog 24 #[.string a0,.string a1] w fun e w'=>e = .returned (.string r)∧Below w.heap.size w w':=by
 have HB:=Aside0.mk (Below.refl w.heap.size w)
 have H:((natural_parse.f k a0).bind fun t223=>((natural_parse.f k a1).bind fun t226=>(if (t223.length:Int)<(t226.length:Int) then (natural_Add.j0 k t226 t223) else (natural_Add.j0 k t223 t226))))=some r:=h
 clear h
 replace H:=Option.bind_eq_some_iff.mp H
 obtain ⟨t223,A30,H⟩:=H
 replace H:((natural_parse.f k a1).bind fun t226=>(if (t223.length:Int)<(t226.length:Int) then (natural_Add.j0 k t226 t223) else (natural_Add.j0 k t223 t226)))=some r:=H
 have A3:=Aside0.mk A30
 clear A30
 replace H:=Option.bind_eq_some_iff.mp H
 obtain ⟨t226,A40,H⟩:=H
 replace H:(if (t223.length:Int)<(t226.length:Int) then (natural_Add.j0 k t226 t223) else (natural_Add.j0 k t223 t226))=some r:=H
 have A4:=Aside0.mk A40
 clear A40
 have HC5:=Aside0.mk H
 clear H
 go_enter Tryd.func24,Tryd.ntmps24
 go_upto_if 19 with (first|((with_reducible refine gate_callee (f:=42) rfl ?_);refine goesL_ (some 12) rfl rfl Tryd.func42 (by kernel_rfl) rfl #[.string a0] rfl (by (try simp only [List.map_toArray,List.map_cons,List.map_nil]);first|done|rfl|(simp only [List.length_drop,List.length_take];rfl)) ?_;(with_reducible refine (natural_parse.calls k a0 t223 _ A3.out).mono ?_);rintro e w6 ⟨v224,rfl,ho0,hb⟩;refine ⟨_,rfl,?_⟩;have n0_:=Aside0.mk (Kd.R_lower ho0 (below_size (by repeat (first|(with_reducible first|exact HB.out|apply below_alloc|apply pw_below_drewN|apply below_drew1)|exact HB.out))));have n1_:=Aside0.mk (below_step (by repeat (first|(with_reducible first|exact HB.out|apply below_alloc|apply pw_below_drewN|apply below_drew1)|exact HB.out)) hb);clear HB;have HO225:=n0_;have HB:=n1_;clear n0_ n1_;(try clear hb);(try clear hb2);(try clear hk);(try clear hi);(try clear ho0))|((with_reducible refine gate_callee (f:=42) rfl ?_);refine goesL_ (some 14) rfl rfl Tryd.func42 (by kernel_rfl) rfl #[.string a1] rfl (by (try simp only [List.map_toArray,List.map_cons,List.map_nil]);first|done|rfl|(simp only [List.length_drop,List.length_take];rfl)) ?_;(with_reducible refine (natural_parse.calls k a1 t226 _ A4.out).mono ?_);rintro e w7 ⟨v227,rfl,ho0,hb⟩;refine ⟨_,rfl,?_⟩;have n0_:=Aside0.mk (Kd.R_elder' (by (with_reducible repeat (first|apply Kd.R_alloc|apply Kd.R_drewN|apply Kd.R_drew));exact HO225.out) (Kd.R_base ho0) hb);have n1_:=Aside0.mk (Kd.R_lower (Kd.R_new' ho0 (Kd.R_lt (by (with_reducible repeat (first|apply Kd.R_alloc|apply Kd.R_drewN|apply Kd.R_drew));exact HO225.out))) (below_size (by repeat (first|(with_reducible first|exact HB.out|apply below_alloc|apply pw_below_drewN|apply below_drew1)|exact HB.out))));have n2_:=Aside0.mk (below_step (by repeat (first|(with_reducible first|exact HB.out|apply below_alloc|apply pw_below_drewN|apply below_drew1)|exact HB.out)) hb);clear HO225;clear HB;have HO225:=n0_;have HO228:=n1_;have HB:=n2_;clear n0_ n1_ n2_;(try clear hb);(try clear hb2);(try clear hk);(try clear hi);(try clear ho0);obtain ⟨Ao8,co8,eo8⟩:=Kd.R_slice HO225.out;subst eo8;obtain ⟨Ao9,co9,eo9⟩:=Kd.R_slice HO228.out;subst eo9))
 (try simp only [Act.put,List.setIfInBounds_toArray,List.set_cons_zero,List.set_cons_succ])
 go_cut [5,6] (fun v5 v6 wc=>∃ (kq:Nat) (x5_4:List Int) (x6_4:List Int),Aside0 (natural_Add.j0 kq x5_4 x6_4=some r)∧Aside0 (kq≤k)∧Aside0 (Kd.R (Kd.int .u32) 60 wc w.heap.size (fun k_=>some k_≠(v6:Value).ownBlock) v5 x5_4)∧Aside0 (Kd.R (Kd.int .u32) 60 wc w.heap.size (fun k_=>some k_≠(v5:Value).ownBlock) v6 x6_4)∧Aside0 (Below w.heap.size w wc))
 case first=>
  have H:=HC5.out
  clear HC5
  by_cases c10:(t223.length:Int)<(t226.length:Int)
  ·rw [if_pos c10] at H
   have c10b0:decide ((t223.length:Int)<(t226.length:Int))=true:=decide_eq_true c10
   have c10b1:decide (t223.length<t226.length)=true:=decide_eq_true (Int.ofNat_lt.mp c10)
   clear c10
   (first|rw [c10b1]|rw [c10b0]|(simp only [i64_w,i32_w];rw [c10b0])|skip)
   have H':=Aside0.mk H
   clear H
   go_wp2
   go_meet
   case rel=>exact ⟨_,(t226),(t223),H',⟨by first|omega|exact Nat.le_refl _⟩,⟨by (with_reducible repeat (first|apply Kd.R_alloc|apply Kd.R_drewN|apply Kd.R_drew));exact Kd.R_mono HO228.out (fun _ hk=>hk.2)⟩,⟨by (with_reducible repeat (first|apply Kd.R_alloc|apply Kd.R_drewN|apply Kd.R_drew));exact Kd.R_mono HO225.out (fun _ hk=>hk.2)⟩,⟨by repeat (first|(with_reducible first|exact HB.out|apply below_alloc|apply pw_below_drewN|apply below_drew1)|exact HB.out)⟩⟩
  ·rw [if_neg c10] at H
   have c10b0:decide ((t223.length:Int)<(t226.length:Int))=false:=decide_eq_false c10
   have c10b1:decide (t223.length<t226.length)=false:=decide_eq_false (fun h=>c10 (Int.ofNat_lt.mpr h))
   clear c10
   (first|rw [c10b1]|rw [c10b0]|(simp only [i64_w,i32_w];rw [c10b0])|skip)
   have H':=Aside0.mk H
   clear H
   go_wp2
   go_meet
   case rel=>exact ⟨_,(t223),(t226),H',⟨by first|omega|exact Nat.le_refl _⟩,⟨by (with_reducible repeat (first|apply Kd.R_alloc|apply Kd.R_drewN|apply Kd.R_drew));exact Kd.R_mono HO225.out (fun _ hk=>hk.2)⟩,⟨by (with_reducible repeat (first|apply Kd.R_alloc|apply Kd.R_drewN|apply Kd.R_drew));exact Kd.R_mono HO228.out (fun _ hk=>hk.2)⟩,⟨by repeat (first|(with_reducible first|exact HB.out|apply below_alloc|apply pw_below_drewN|apply below_drew1)|exact HB.out)⟩⟩
 case rest=>
  clear HC5
  try clear c1
  try clear c2
  try clear p2
  try clear c4
  try clear c10
  try clear c10b0
  try clear c10b1
  obtain ⟨kq,x5_4,x6_4,HA,HJ4,HO_5,HO_6,HB⟩:=hcut
  cases kq with
  | zero=>exact absurd HA.out (by simp [natural_Add.j0])
  | succ kj4=>
   have H:=HA.out
   clear HA
   simp only [natural_Add.j0] at H
   obtain ⟨ji11,hji11⟩:∃ j_:Int,(wrap64 ((x5_4.length:Int)+1))=j_:=⟨_,rfl⟩
   replace H:(if 0≤(ji11) then (if (ji11:Int).toNat≤70368744177664 then (natural_Add.l0 kj4 x5_4 x6_4 (List.replicate (ji11:Int).toNat 0) 0 (x5_4.length:Int) 0) else (none)) else (none))=some r:=by first|(rw [hji11] at H;exact H)|(simp only [hji11] at H ⊢;exact H)
   have hji11w:(IntKind.i64.wrap ((x5_4.length:Int)+1))=ji11:=(i64_w _).trans hji11
   by_cases c12:0≤(ji11)
   ·rw [if_pos c12] at H
    have c12b0:=eq_true c12
    have c12b1:decide (0≤(ji11))=true:=decide_eq_true c12
    clear c12
    by_cases c13:(ji11:Int).toNat≤70368744177664
    ·rw [if_pos c13] at H
     have c13b0:=eq_true c13
     have c13b1:decide ((ji11:Int).toNat≤70368744177664)=true:=decide_eq_true c13
     clear c13
     obtain ⟨y229,hy229⟩:∃ y_:List Int,y_=(List.replicate (ji11:Int).toNat 0):=⟨_,rfl⟩
     replace H:(natural_Add.l0 kj4 x5_4 x6_4 y229 0 (x5_4.length:Int) 0)=some r:=by first|(rw [hy229];with_reducible exact H)|(have H2_:=(Option.bind_some _ _).symm.trans H;rw [hy229];with_reducible exact H2_)|(have H2_:=(Option.bind_some _ _).symm.trans H;with_reducible exact H2_)|with_reducible exact H|(rw [hy229];exact H)|exact H
     have Ny229:=Aside0.mk hy229
     clear hy229
     have H':=Aside0.mk H
     clear H
     obtain ⟨Ao14,co14,eo14⟩:=Kd.R_slice HO_5.out
     subst eo14
     go_wp2_with (first|((with_reducible refine gate_dst (N:=25) rfl ?_);refine Kd.R_make (Kd.int .u32) _ 60 rfl (N:=25) rfl 50 _ _ rfl ji11 rfl rfl Tryd.underlying50 (.int .u32 0) 4 info60 rfl (by decide) (by omega) 0 (ok:=fun _=>True) (okp:=fun _=>True) rfl (fun _ hk=>hk) trivial (of_decide_eq_true (by first|(with_reducible assumption)|assumption)) (Nat.le_trans (Nat.mul_le_mul_right _ (of_decide_eq_true (by first|(with_reducible assumption)|assumption):ji11.toNat≤70368744177664)) (by omega)) (Below.refl _ _) (Nat.le_refl _) ?_;intro v230 w15 ho16 hb hg_ hnew_;clear hg_ hnew_;(first|rw [← Ny229.out] at ho16|(simp only [Int.reduceToNat] at ho16;rw [← Ny229.out] at ho16));have n0_:=Aside0.mk (Kd.R_elder' (by (with_reducible repeat (first|apply Kd.R_alloc|apply Kd.R_drewN|apply Kd.R_drew));exact HO_5.out) (Kd.R_base ho16) hb);have n1_:=Aside0.mk (Kd.R_elder' (by (with_reducible repeat (first|apply Kd.R_alloc|apply Kd.R_drewN|apply Kd.R_drew));exact HO_6.out) (Kd.R_base ho16) hb);have n2_:=Aside0.mk (Kd.R_lower (Kd.R_new' (Kd.R_new' ho16 (Kd.R_lt (by (with_reducible repeat (first|apply Kd.R_alloc|apply Kd.R_drewN|apply Kd.R_drew));exact HO_5.out))) (Kd.R_lt (by (with_reducible repeat (first|apply Kd.R_alloc|apply Kd.R_drewN|apply Kd.R_drew));exact HO_6.out))) (below_size (by repeat (first|(with_reducible first|exact HB.out|apply below_alloc|apply pw_below_drewN|apply below_drew1)|exact HB.out))));have n3_:=Aside0.mk (below_step (by repeat (first|(with_reducible first|exact HB.out|apply below_alloc|apply pw_below_drewN|apply below_drew1)|exact HB.out)) hb);clear HO_5;clear HO_6;clear HB;have HO_5:=n0_;have HO_6:=n1_;have HO231:=n2_;have HB:=n3_;clear n0_ n1_ n2_ n3_;clear hb ho16))
     go_loopg [8,28] kj4 (fun kq v8 v28 w'=>∃ (x7_2:List Int) (x8_2:Int) (x28_2:Int),v8 = .int .u32 x8_2∧v28 = .int .i64 x28_2∧Aside0 (natural_Add.l0 kq x5_4 x6_4 x7_2 x8_2 (x5_4.length:Int) x28_2=some r)∧Aside0 (kq≤kj4)∧Aside0 (Kd.R (Kd.int .u32) 60 w' w.heap.size (fun k_=>some k_≠(u6:Value).ownBlock∧some k_≠(v230:Value).ownBlock) (.slice Ao14 x5_4.length co14) x5_4)∧Aside0 (Kd.R (Kd.int .u32) 60 w' w.heap.size (fun k_=>some k_≠((.slice Ao14 x5_4.length co14):Value).ownBlock∧some k_≠(v230:Value).ownBlock) u6 x6_4)∧Aside0 (Kd.R (Kd.int .u32) 60 w' w.heap.size (fun k_=>some k_≠((.slice Ao14 x5_4.length co14):Value).ownBlock∧some k_≠(u6:Value).ownBlock) v230 x7_2)∧Aside0 (Below w.heap.size w w'))
     case atStart=>exact ⟨(y229),(0),(0),(by first|rfl|(simp;done)|(simp [*];done)),(by first|rfl|(simp;done)|(simp [*];done)),H',⟨Nat.le_refl _⟩,⟨by (with_reducible repeat (first|apply Kd.R_alloc|apply Kd.R_drewN|apply Kd.R_drew));exact HO_5.out⟩,⟨by (with_reducible repeat (first|apply Kd.R_alloc|apply Kd.R_drewN|apply Kd.R_drew));exact HO_6.out⟩,⟨by (with_reducible repeat (first|apply Kd.R_alloc|apply Kd.R_drewN|apply Kd.R_drew));exact Kd.R_mono HO231.out (fun _ hk=>⟨hk.1.2,hk.2⟩)⟩,⟨by repeat (first|(with_reducible first|exact HB.out|apply below_alloc|apply pw_below_drewN|apply below_drew1)|exact HB.out)⟩⟩
     case round=>
      clear H'
      try clear c1
      try clear c2
      try clear p2
      try clear c4
      try clear p6
      try clear c10
      try clear c10b0
      try clear c10b1
      try clear c12
      try clear c12b0
      try clear c12b1
      try clear c13
      try clear c13b0
      try clear c13b1
      try clear p2
      obtain ⟨x7_2,x8_2,x28_2,rfl,rfl,HA,HK2,HO_5,HO_6,HO_7,HB⟩:=hrel
      cases gk with
      | zero=>exact absurd HA.out (by simp [natural_Add.l0])
      | succ k2=>
       have H:=HA.out
       clear HA
       simp only [natural_Add.l0] at H
       by_cases c17:x28_2<(x5_4.length:Int)
       ·rw [if_pos c17] at H
        have c17b0:decide (x28_2<(x5_4.length:Int))=true:=decide_eq_true c17
        clear c17
        by_cases c18:x28_2<(x6_4.length:Int)
        ·rw [if_pos c18] at H
         have c18b0:decide (x28_2<(x6_4.length:Int))=true:=decide_eq_true c18
         clear c18
         by_cases c19:0≤x28_2
         ·rw [if_pos c19] at H
          have c19b0:decide (0≤x28_2)=true:=decide_eq_true c19
          clear c19
          by_cases c20:x28_2<(x5_4.length:Int)
          ·rw [if_pos c20] at H
           have c20b0:decide (x28_2<(x5_4.length:Int))=true:=decide_eq_true c20
           clear c20
           replace H:=Option.bind_eq_some_iff.mp H
           obtain ⟨⟨t234,t235⟩,A210,H⟩:=H
           replace H:(if x28_2<(x7_2.length:Int) then (natural_Add.l0 k2 x5_4 x6_4 (x7_2.set (x28_2:Int).toNat t234) t235 (x5_4.length:Int) (wrap64 (x28_2+1))) else (none))=some r:=H
           have A21:=Aside0.mk A210
           clear A210
           by_cases c22:x28_2<(x7_2.length:Int)
           ·rw [if_pos c22] at H
            have c22b0:decide (x28_2<(x7_2.length:Int))=true:=decide_eq_true c22
            clear c22
            obtain ⟨y236,hy236⟩:∃ y_:List Int,y_=(x7_2.set (x28_2:Int).toNat t234):=⟨_,rfl⟩
            replace H:(natural_Add.l0 k2 x5_4 x6_4 y236 t235 (x5_4.length:Int) (wrap64 (x28_2+1)))=some r:=by first|(rw [hy236];with_reducible exact H)|(have H2_:=(Option.bind_some _ _).symm.trans H;rw [hy236];with_reducible exact H2_)|(have H2_:=(Option.bind_some _ _).symm.trans H;with_reducible exact H2_)|with_reducible exact H|(rw [hy236];exact H)|exact H
            have Ny236:=Aside0.mk hy236
            clear hy236
            have H':=Aside0.mk H
            clear H
            obtain ⟨Ao24,co24,eo24⟩:=Kd.R_slice HO_6.out
            subst eo24
            have p232:0≤(x28_2:Int):=of_decide_eq_true (by first|(with_reducible assumption)|assumption)
            have q232:x28_2<(x6_4.length:Int):=of_decide_eq_true (by first|(with_reducible assumption)|assumption)
            obtain ⟨ad232,e232,hx232_0⟩:=Kd.at_int (Kd.R_reads' HO_6.out).2.2 x28_2 p232 q232
            cases e232
            replace p232:=eq_true p232
            replace q232:=eq_true q232
            have p233:0≤(x28_2:Int):=of_decide_eq_true (by first|(with_reducible assumption)|assumption)
            have q233:x28_2<(x5_4.length:Int):=of_decide_eq_true (by first|(with_reducible assumption)|assumption)
            obtain ⟨ad233,e233,hx233_0⟩:=Kd.at_int (Kd.R_reads' HO_5.out).2.2 x28_2 p233 q233
            cases e233
            replace p233:=eq_true p233
            replace q233:=eq_true q233
            go_wp2_with (first|((with_reducible refine gate_callee (f:=50) rfl ?_);refine goesL_ (some 48) rfl rfl Tryd.func50 (by kernel_rfl) rfl #[.int .u32 (rd x5_4 x28_2),.int .u32 (rd x6_4 x28_2),.int .u32 x8_2] rfl (by (try simp only [List.map_toArray,List.map_cons,List.map_nil]);first|done|rfl|(simp only [List.length_drop,List.length_take];rfl)) ?_;(with_reducible refine (bits_Add32.calls (rd x5_4 x28_2) (rd x6_4 x28_2) x8_2 t234 t235 _ A21.out).mono ?_);rintro e w' ⟨rfl,⟨nd,rfl⟩⟩;refine ⟨_,rfl,?_⟩;(try (rw [drewN_self wr];generalize hq_:World.drewN wr _=wr;have n0_:Aside0 (Kd.R (Kd.int .u32) 60 wr w.heap.size (fun k_=>some k_≠(.slice (some ad232) x6_4.length co24:Value).ownBlock∧some k_≠(v230:Value).ownBlock) (.slice (some ad233) x5_4.length co14) x5_4):=⟨by rw [← hq_];exact (by (with_reducible repeat (first|apply Kd.R_alloc|apply Kd.R_drewN|apply Kd.R_drew));exact HO_5.out)⟩;have n1_:Aside0 (Kd.R (Kd.int .u32) 60 wr w.heap.size (fun k_=>some k_≠(.slice (some ad233) x5_4.length co14:Value).ownBlock∧some k_≠(v230:Value).ownBlock) (.slice (some ad232) x6_4.length co24) x6_4):=⟨by rw [← hq_];exact (by (with_reducible repeat (first|apply Kd.R_alloc|apply Kd.R_drewN|apply Kd.R_drew));exact HO_6.out)⟩;have n2_:Aside0 (Kd.R (Kd.int .u32) 60 wr w.heap.size (fun k_=>some k_≠(.slice (some ad233) x5_4.length co14:Value).ownBlock∧some k_≠(.slice (some ad232) x6_4.length co24:Value).ownBlock) v230 x7_2):=⟨by rw [← hq_];exact (by (with_reducible repeat (first|apply Kd.R_alloc|apply Kd.R_drewN|apply Kd.R_drew));exact HO_7.out)⟩;have n3_:Aside0 (Below w.heap.size w wr):=⟨by rw [← hq_];exact (by repeat (first|(with_reducible first|exact HB.out|apply below_alloc|apply pw_below_drewN|apply below_drew1)|exact HB.out))⟩;clear HO_5 HO_6 HO_7 HB hq_;have HO_5:=n0_;have HO_6:=n1_;have HO_7:=n2_;have HB:=n3_;clear n0_ n1_ n2_ n3_));have p23:0≤(x28_2:Int):=of_decide_eq_true (by first|(with_reducible assumption)|assumption);have q23:(x28_2:Int)<((x7_2.length:Int):Int):=of_decide_eq_true (by first|(with_reducible assumption)|assumption);obtain ⟨go23,co23,eo23,gb23,gl23,cl23,HG23⟩:=Kd.R_form HO_7.out (by omega);(first|cases eo23|(injection eo23 with ea_ en_ ec_;(first|subst ea_|(injection ea_ with ea_;subst ea_));subst ec_;clear en_));have GB23:=Aside0.mk gb23;have GG23:=Aside0.mk HG23;clear gb23 gl23 HG23;obtain ⟨hx23_0,hf23_0⟩:=Kd.R_celln 0 HO_7.out (x28_2:Int) p23 q23;replace p23:=eq_true p23;replace q23:=eq_true q23;obtain ⟨hy25_,hz25_⟩:=Kd.R_celln 0 HO_7.out (x28_2:Int) (of_decide_eq_true (by first|(with_reducible assumption)|assumption)) (of_decide_eq_true (by first|(with_reducible assumption)|assumption));have HP25:=Kd.R_putg HO_7.out (x28_2:Int) t234)|((with_reducible refine gate_store (t:=60) (p:=51) rfl ?_);refine store_event (t:=60) (p:=51) (v:=?vo_w26) (w1:=(wr.setCell ⟨go23,(x28_2:Int).toNat,none⟩ (.int .u32 t234))) ?hg ?ho ?hn ?hr ?_;(case ho=>rfl);(case hg=>rfl);(case hn=>rfl);(case hr=>first|(go_simp;done)|(go_simp;rfl));intro w26 hw;have hg:wr.grownBy w26 (some go23):=(by rw [hw];exact HP25.2);have hp_:Kd.R (Kd.int .u32) 60 w26 w.heap.size (fun k_=>some k_≠(.slice (some ad233) x5_4.length co14:Value).ownBlock∧some k_≠(.slice (some ad232) x6_4.length co24:Value).ownBlock) (.slice (some ⟨go23,0,none⟩) x7_2.length co23) y236:=(by rw [hw,Ny236.out];exact HP25.1);clear HP25;have n0_:=Aside0.mk (Kd.R_after (v:=(.slice (some ⟨go23,0,none⟩) x7_2.length co23)) (v1:=(.slice (some ⟨go23,0,none⟩) x7_2.length co23)) (ok:=(fun k_=>some k_≠(.slice (some ad232) x6_4.length co24:Value).ownBlock)) (by (with_reducible repeat (first|apply Kd.R_alloc|apply Kd.R_drewN|apply Kd.R_drew));exact HO_5.out) hg (.inl rfl));have n1_:=Aside0.mk (Kd.R_after (v:=(.slice (some ⟨go23,0,none⟩) x7_2.length co23)) (v1:=(.slice (some ⟨go23,0,none⟩) x7_2.length co23)) (ok:=(fun k_=>some k_≠(.slice (some ad233) x5_4.length co14:Value).ownBlock)) (by (with_reducible repeat (first|apply Kd.R_alloc|apply Kd.R_drewN|apply Kd.R_drew));exact HO_6.out) hg (.inl rfl));have n2_:=Aside0.mk (hp_);have n3_:=Aside0.mk ((by rw [hw];exact below_set (HB.out) GB23.out:Below w.heap.size w w26));clear HO_5;clear HO_6;clear HO_7;clear HB;have HO_5:=n0_;have HO_6:=n1_;have HO_7:=n2_;have HB:=n3_;clear n0_ n1_ n2_ n3_;clear hg hw hp_))
            go_roundg k2
            case measure=>have:=HJ4.out;have:=HK2.out;omega
            case rel=>exact ⟨(y236),(t235),(wrap64 (x28_2+1)),(by first|rfl|(simp;done)|(simp [*];done)),(by first|rfl|(simp;done)|(simp [*];done)),H',⟨by have:=HJ4.out;have:=HK2.out;omega⟩,⟨by (with_reducible repeat (first|apply Kd.R_alloc|apply Kd.R_drewN|apply Kd.R_drew));exact HO_5.out⟩,⟨by (with_reducible repeat (first|apply Kd.R_alloc|apply Kd.R_drewN|apply Kd.R_drew));exact HO_6.out⟩,⟨by (with_reducible repeat (first|apply Kd.R_alloc|apply Kd.R_drewN|apply Kd.R_drew));exact HO_7.out⟩,⟨by repeat (first|(with_reducible first|exact HB.out|apply below_alloc|apply pw_below_drewN|apply below_drew1)|exact HB.out)⟩⟩
           ·rw [if_neg c22] at H
            exact absurd H (by simp)
          ·rw [if_neg c20] at H
           exact absurd H (by simp)
         ·rw [if_neg c19] at H
          exact absurd H (by simp)
        ·rw [if_neg c18] at H
         have c18b0:decide (x28_2<(x6_4.length:Int))=false:=decide_eq_false c18
         clear c18
         by_cases c27:0≤x28_2
         ·rw [if_pos c27] at H
          have c27b0:decide (0≤x28_2)=true:=decide_eq_true c27
          clear c27
          by_cases c28:x28_2<(x5_4.length:Int)
          ·rw [if_pos c28] at H
           have c28b0:decide (x28_2<(x5_4.length:Int))=true:=decide_eq_true c28
           clear c28
           replace H:=Option.bind_eq_some_iff.mp H
           obtain ⟨⟨t238,t239⟩,A290,H⟩:=H
           replace H:(if x28_2<(x7_2.length:Int) then (natural_Add.l0 k2 x5_4 x6_4 (x7_2.set (x28_2:Int).toNat t238) t239 (x5_4.length:Int) (wrap64 (x28_2+1))) else (none))=some r:=H
           have A29:=Aside0.mk A290
           clear A290
           by_cases c30:x28_2<(x7_2.length:Int)
           ·rw [if_pos c30] at H
            have c30b0:decide (x28_2<(x7_2.length:Int))=true:=decide_eq_true c30
            clear c30
            obtain ⟨y240,hy240⟩:∃ y_:List Int,y_=(x7_2.set (x28_2:Int).toNat t238):=⟨_,rfl⟩
            replace H:(natural_Add.l0 k2 x5_4 x6_4 y240 t239 (x5_4.length:Int) (wrap64 (x28_2+1)))=some r:=by first|(rw [hy240];with_reducible exact H)|(have H2_:=(Option.bind_some _ _).symm.trans H;rw [hy240];with_reducible exact H2_)|(have H2_:=(Option.bind_some _ _).symm.trans H;with_reducible exact H2_)|with_reducible exact H|(rw [hy240];exact H)|exact H
            have Ny240:=Aside0.mk hy240
            clear hy240
            have H':=Aside0.mk H
            clear H
            obtain ⟨Ao32,co32,eo32⟩:=Kd.R_slice HO_6.out
            subst eo32
            have p237:0≤(x28_2:Int):=of_decide_eq_true (by first|(with_reducible assumption)|assumption)
            have q237:x28_2<(x5_4.length:Int):=of_decide_eq_true (by first|(with_reducible assumption)|assumption)
            obtain ⟨ad237,e237,hx237_0⟩:=Kd.at_int (Kd.R_reads' HO_5.out).2.2 x28_2 p237 q237
            cases e237
            replace p237:=eq_true p237
            replace q237:=eq_true q237
            go_wp2_with (first|((with_reducible refine gate_callee (f:=50) rfl ?_);refine goesL_ (some 48) rfl rfl Tryd.func50 (by kernel_rfl) rfl #[.int .u32 (rd x5_4 x28_2),.int .u32 0,.int .u32 x8_2] rfl (by (try simp only [List.map_toArray,List.map_cons,List.map_nil]);first|done|rfl|(simp only [List.length_drop,List.length_take];rfl)) ?_;(with_reducible refine (bits_Add32.calls (rd x5_4 x28_2) 0 x8_2 t238 t239 _ A29.out).mono ?_);rintro e w' ⟨rfl,⟨nd,rfl⟩⟩;refine ⟨_,rfl,?_⟩;(try (rw [drewN_self wr];generalize hq_:World.drewN wr _=wr;have n0_:Aside0 (Kd.R (Kd.int .u32) 60 wr w.heap.size (fun k_=>some k_≠(.slice Ao32 x6_4.length co32:Value).ownBlock∧some k_≠(v230:Value).ownBlock) (.slice (some ad237) x5_4.length co14) x5_4):=⟨by rw [← hq_];exact (by (with_reducible repeat (first|apply Kd.R_alloc|apply Kd.R_drewN|apply Kd.R_drew));exact HO_5.out)⟩;have n1_:Aside0 (Kd.R (Kd.int .u32) 60 wr w.heap.size (fun k_=>some k_≠(.slice (some ad237) x5_4.length co14:Value).ownBlock∧some k_≠(v230:Value).ownBlock) (.slice Ao32 x6_4.length co32) x6_4):=⟨by rw [← hq_];exact (by (with_reducible repeat (first|apply Kd.R_alloc|apply Kd.R_drewN|apply Kd.R_drew));exact HO_6.out)⟩;have n2_:Aside0 (Kd.R (Kd.int .u32) 60 wr w.heap.size (fun k_=>some k_≠(.slice (some ad237) x5_4.length co14:Value).ownBlock∧some k_≠(.slice Ao32 x6_4.length co32:Value).ownBlock) v230 x7_2):=⟨by rw [← hq_];exact (by (with_reducible repeat (first|apply Kd.R_alloc|apply Kd.R_drewN|apply Kd.R_drew));exact HO_7.out)⟩;have n3_:Aside0 (Below w.heap.size w wr):=⟨by rw [← hq_];exact (by repeat (first|(with_reducible first|exact HB.out|apply below_alloc|apply pw_below_drewN|apply below_drew1)|exact HB.out))⟩;clear HO_5 HO_6 HO_7 HB hq_;have HO_5:=n0_;have HO_6:=n1_;have HO_7:=n2_;have HB:=n3_;clear n0_ n1_ n2_ n3_));have p31:0≤(x28_2:Int):=of_decide_eq_true (by first|(with_reducible assumption)|assumption);have q31:(x28_2:Int)<((x7_2.length:Int):Int):=of_decide_eq_true (by first|(with_reducible assumption)|assumption);obtain ⟨go31,co31,eo31,gb31,gl31,cl31,HG31⟩:=Kd.R_form HO_7.out (by omega);(first|cases eo31|(injection eo31 with ea_ en_ ec_;(first|subst ea_|(injection ea_ with ea_;subst ea_));subst ec_;clear en_));have GB31:=Aside0.mk gb31;have GG31:=Aside0.mk HG31;clear gb31 gl31 HG31;obtain ⟨hx31_0,hf31_0⟩:=Kd.R_celln 0 HO_7.out (x28_2:Int) p31 q31;replace p31:=eq_true p31;replace q31:=eq_true q31;obtain ⟨hy33_,hz33_⟩:=Kd.R_celln 0 HO_7.out (x28_2:Int) (of_decide_eq_true (by first|(with_reducible assumption)|assumption)) (of_decide_eq_true (by first|(with_reducible assumption)|assumption));have HP33:=Kd.R_putg HO_7.out (x28_2:Int) t238)|((with_reducible refine gate_store (t:=60) (p:=51) rfl ?_);refine store_event (t:=60) (p:=51) (v:=?vo_w34) (w1:=(wr.setCell ⟨go31,(x28_2:Int).toNat,none⟩ (.int .u32 t238))) ?hg ?ho ?hn ?hr ?_;(case ho=>rfl);(case hg=>rfl);(case hn=>rfl);(case hr=>first|(go_simp;done)|(go_simp;rfl));intro w34 hw;have hg:wr.grownBy w34 (some go31):=(by rw [hw];exact HP33.2);have hp_:Kd.R (Kd.int .u32) 60 w34 w.heap.size (fun k_=>some k_≠(.slice (some ad237) x5_4.length co14:Value).ownBlock∧some k_≠(.slice Ao32 x6_4.length co32:Value).ownBlock) (.slice (some ⟨go31,0,none⟩) x7_2.length co31) y240:=(by rw [hw,Ny240.out];exact HP33.1);clear HP33;have n0_:=Aside0.mk (Kd.R_after (v:=(.slice (some ⟨go31,0,none⟩) x7_2.length co31)) (v1:=(.slice (some ⟨go31,0,none⟩) x7_2.length co31)) (ok:=(fun k_=>some k_≠(.slice Ao32 x6_4.length co32:Value).ownBlock)) (by (with_reducible repeat (first|apply Kd.R_alloc|apply Kd.R_drewN|apply Kd.R_drew));exact HO_5.out) hg (.inl rfl));have n1_:=Aside0.mk (Kd.R_after (v:=(.slice (some ⟨go31,0,none⟩) x7_2.length co31)) (v1:=(.slice (some ⟨go31,0,none⟩) x7_2.length co31)) (ok:=(fun k_=>some k_≠(.slice (some ad237) x5_4.length co14:Value).ownBlock)) (by (with_reducible repeat (first|apply Kd.R_alloc|apply Kd.R_drewN|apply Kd.R_drew));exact HO_6.out) hg (.inl rfl));have n2_:=Aside0.mk (hp_);have n3_:=Aside0.mk ((by rw [hw];exact below_set (HB.out) GB31.out:Below w.heap.size w w34));clear HO_5;clear HO_6;clear HO_7;clear HB;have HO_5:=n0_;have HO_6:=n1_;have HO_7:=n2_;have HB:=n3_;clear n0_ n1_ n2_ n3_;clear hg hw hp_))
            go_roundg k2
            case measure=>have:=HJ4.out;have:=HK2.out;omega
            case rel=>exact ⟨(y240),(t239),(wrap64 (x28_2+1)),(by first|rfl|(simp;done)|(simp [*];done)),(by first|rfl|(simp;done)|(simp [*];done)),H',⟨by have:=HJ4.out;have:=HK2.out;omega⟩,⟨by (with_reducible repeat (first|apply Kd.R_alloc|apply Kd.R_drewN|apply Kd.R_drew));exact HO_5.out⟩,⟨by (with_reducible repeat (first|apply Kd.R_alloc|apply Kd.R_drewN|apply Kd.R_drew));exact HO_6.out⟩,⟨by (with_reducible repeat (first|apply Kd.R_alloc|apply Kd.R_drewN|apply Kd.R_drew));exact HO_7.out⟩,⟨by repeat (first|(with_reducible first|exact HB.out|apply below_alloc|apply pw_below_drewN|apply below_drew1)|exact HB.out)⟩⟩
           ·rw [if_neg c30] at H
            exact absurd H (by simp)
          ·rw [if_neg c28] at H
           exact absurd H (by simp)
         ·rw [if_neg c27] at H
          exact absurd H (by simp)
       ·rw [if_neg c17] at H
        have c17b0:decide (x28_2<(x5_4.length:Int))=false:=decide_eq_false c17
        clear c17
        by_cases c35:0≤(x5_4.length:Int)
        ·rw [if_pos c35] at H
         have c35b0:decide (0≤(x5_4.length:Int))=true:=decide_eq_true c35
         have c35b1:decide (0≤x5_4.length)=true:=decide_eq_true (by omega)
         clear c35
         by_cases c36:(x5_4.length:Int)<(x7_2.length:Int)
         ·rw [if_pos c36] at H
          have c36b0:decide ((x5_4.length:Int)<(x7_2.length:Int))=true:=decide_eq_true c36
          have c36b1:decide (x5_4.length<x7_2.length)=true:=decide_eq_true (Int.ofNat_lt.mp c36)
          clear c36
          obtain ⟨y241,hy241⟩:∃ y_:List Int,y_=(x7_2.set ((x5_4.length:Int):Int).toNat x8_2):=⟨_,rfl⟩
          replace H:((natural_limbs_text.f k2 y241).bind fun t242=>(some t242))=some r:=by first|(rw [hy241];with_reducible exact H)|(have H2_:=(Option.bind_some _ _).symm.trans H;rw [hy241];with_reducible exact H2_)|(have H2_:=(Option.bind_some _ _).symm.trans H;with_reducible exact H2_)|with_reducible exact H|(rw [hy241];exact H)|exact H
          have Ny241:=Aside0.mk hy241
          clear hy241
          replace H:=Option.bind_eq_some_iff.mp H
          obtain ⟨t242,A380,H⟩:=H
          replace H:(some t242)=some r:=H
          have A38:=Aside0.mk A380
          clear A380
          obtain rfl:=Option.some.inj H
          have p37:0≤((x5_4.length:Int):Int):=of_decide_eq_true (by first|(with_reducible assumption)|assumption)
          have q37:((x5_4.length:Int):Int)<((x7_2.length:Int):Int):=of_decide_eq_true (by first|(with_reducible assumption)|assumption)
          obtain ⟨go37,co37,eo37,gb37,gl37,cl37,HG37⟩:=Kd.R_form HO_7.out (by omega)
          (first|cases eo37|(injection eo37 with ea_ en_ ec_;(first|subst ea_|(injection ea_ with ea_;subst ea_));subst ec_;clear en_))
          have GB37:=Aside0.mk gb37
          have GG37:=Aside0.mk HG37
          clear gb37 gl37 HG37
          obtain ⟨hx37_0,hf37_0⟩:=Kd.R_celln 0 HO_7.out ((x5_4.length:Int):Int) p37 q37
          (try simp only [Int.toNat_natCast] at hx37_0);(try simp only [Int.toNat_natCast] at hf37_0)
          replace p37:=eq_true p37
          replace q37:=eq_true q37
          have HP39:=Kd.R_putg HO_7.out ((x5_4.length:Int):Int) x8_2
          go_wp2_with (first|((with_reducible refine gate_store (t:=60) (p:=57) rfl ?_);refine store_event (t:=60) (p:=57) (v:=?vo_w40) (w1:=(wr.setCell ⟨go37,((x5_4.length:Int):Int).toNat,none⟩ (.int .u32 x8_2))) ?hg ?ho ?hn ?hr ?_;(case ho=>rfl);(case hg=>rfl);(case hn=>rfl);(case hr=>first|(go_simp;done)|(go_simp;rfl));intro w40 hw;have hg:wr.grownBy w40 (some go37):=(by rw [hw];exact HP39.2);have hp_:Kd.R (Kd.int .u32) 60 w40 w.heap.size (fun k_=>some k_≠(.slice Ao14 x5_4.length co14:Value).ownBlock∧some k_≠(u6:Value).ownBlock) (.slice (some ⟨go37,0,none⟩) x7_2.length co37) y241:=(by rw [hw,Ny241.out];exact HP39.1);clear HP39;have n0_:=Aside0.mk (Kd.R_after (v:=(.slice (some ⟨go37,0,none⟩) x7_2.length co37)) (v1:=(.slice (some ⟨go37,0,none⟩) x7_2.length co37)) (ok:=(fun k_=>some k_≠(u6:Value).ownBlock)) (by (with_reducible repeat (first|apply Kd.R_alloc|apply Kd.R_drewN|apply Kd.R_drew));exact HO_5.out) hg (.inl rfl));have n1_:=Aside0.mk (Kd.R_after (v:=(.slice (some ⟨go37,0,none⟩) x7_2.length co37)) (v1:=(.slice (some ⟨go37,0,none⟩) x7_2.length co37)) (ok:=(fun k_=>some k_≠(.slice Ao14 x5_4.length co14:Value).ownBlock)) (by (with_reducible repeat (first|apply Kd.R_alloc|apply Kd.R_drewN|apply Kd.R_drew));exact HO_6.out) hg (.inl rfl));have n2_:=Aside0.mk (hp_);have n3_:=Aside0.mk ((by rw [hw];exact below_set (HB.out) GB37.out:Below w.heap.size w w40));clear HO_5;clear HO_6;clear HO_7;clear HB;have HO_5:=n0_;have HO_6:=n1_;have HO_7:=n2_;have HB:=n3_;clear n0_ n1_ n2_ n3_;clear hg hw hp_)|((with_reducible refine gate_callee (f:=44) rfl ?_);refine goesL_ (some 59) rfl rfl Tryd.func44 (by kernel_rfl) rfl #[.slice (some ⟨go37,0,none⟩) y241.length co37] rfl (by (try simp only [List.map_toArray,List.map_cons,List.map_nil]);first|done|(rw [show y241.length=x7_2.length from (Kd.R_reads' HO_7.out).1.symm] <;> rfl)|rfl|(simp only [List.length_drop,List.length_take];rfl)) ?_;(with_reducible refine (natural_limbs_text.calls k2 _ _ y241 t242 _ ?side1 ?side2 A38.out).mono ?_);(case side1=>repeat (first|exact (Kd.R_reads' HO_7.out).2.2|(with_reducible refine Kd.C_alloc ?_ _)|(with_reducible refine Kd.C_drewN ?_ _)|(with_reducible refine Kd.C_drew ?_)));(case side2=>rw [show y241.length=x7_2.length from (Kd.R_reads' HO_7.out).1.symm];exact (Kd.R_reads' HO_7.out).2.1);rintro e w41 ⟨rfl,hb⟩;refine ⟨_,rfl,?_⟩;have n0_:=Aside0.mk (Kd.R_below (by (with_reducible repeat (first|apply Kd.R_alloc|apply Kd.R_drewN|apply Kd.R_drew));exact HO_5.out) hb);have n1_:=Aside0.mk (Kd.R_below (by (with_reducible repeat (first|apply Kd.R_alloc|apply Kd.R_drewN|apply Kd.R_drew));exact HO_6.out) hb);have n2_:=Aside0.mk (Kd.R_below (by (with_reducible repeat (first|apply Kd.R_alloc|apply Kd.R_drewN|apply Kd.R_drew));exact HO_7.out) hb);have n3_:=Aside0.mk (below_step (by repeat (first|(with_reducible first|exact HB.out|apply below_alloc|apply pw_below_drewN|apply below_drew1)|exact HB.out)) hb);clear HO_5;clear HO_6;clear HO_7;clear HB;have HO_5:=n0_;have HO_6:=n1_;have HO_7:=n2_;have HB:=n3_;clear n0_ n1_ n2_ n3_;(try clear hb);(try clear hb2);(try clear hk);(try clear hi)))
          go_ret
          exact ⟨by first|rfl|(simp [errW_none,errW_some] <;> rfl)|(simp only [← hji11];first|rfl|(simp [errW_none,errW_some] <;> rfl))|(simp [*,errW_none,errW_some] <;> rfl),by repeat (first|(with_reducible first|exact HB.out|apply below_alloc|apply pw_below_drewN|apply below_drew1)|exact HB.out)⟩
         ·rw [if_neg c36] at H
          exact absurd H (by simp)
        ·rw [if_neg c35] at H
         exact absurd H (by simp)
    ·rw [if_neg c13] at H
     exact absurd H (by simp)
   ·rw [if_neg c12] at H
    exact absurd H (by simp)
end Go.Proofs.YtjaflmhdclmolaaDoor.F
end
section
namespace Go.Proofs.YtjaflmhdclmolaaDoor.F
open Go.RowKit Go.Proofs.YtjaflmhdclmolaaDoorW.PrintWords Go.Proofs.YtjaflmhdclmolaaDoorW.PrintLast Go.Proofs.YtjaflmhdclmolaaDoorW.PrintMore
attribute [local go_sem] max2_int min2_int max_two min_two max_three min_three max_four min_four   
set_option linter.unusedVariables false
set_option linter.unusedSimpArgs false
def bits_LeadingZeros32.f (a0:Int):Option (Int):=if 0≤a0∧a0≤4294967295 then (some (32-(Lib.bitLen a0.toNat:Int))) else (none)
theorem bits_LeadingZeros32.calls (a0:Int) (r:Int) (w:World) (h:bits_LeadingZeros32.f a0=some r) :
 Calls Tryd.prog 70 #[.int .u32 a0] w fun e w'=>e = .returned (.int .i64 r)∧Drawn0 w w':=by
 unfold bits_LeadingZeros32.f at h
 by_cases h1:0≤a0∧a0≤4294967295
 ·rw [if_pos h1] at h
  obtain rfl:=Option.some.inj h
  refine (Tryd.bits_LeadingZeros32 a0 w h1.1 h1.2).mono ?_
  rintro e w' ⟨rfl,rfl⟩
  exact ⟨rfl,Drawn0.refl _⟩
 ·rw [if_neg h1] at h
  exact absurd h (by simp)
end Go.Proofs.YtjaflmhdclmolaaDoor.F
end
section
namespace Go.Proofs.YtjaflmhdclmolaaDoor.F
open Go.RowKit Go.Proofs.YtjaflmhdclmolaaDoorW.PrintWords Go.Proofs.YtjaflmhdclmolaaDoorW.PrintLast Go.Proofs.YtjaflmhdclmolaaDoorW.PrintMore
attribute [local go_sem] max2_int min2_int max_two min_two max_three min_three max_four min_four   
set_option linter.unusedVariables false
set_option linter.unusedSimpArgs false
def natural_sign.f (a0:Int):Option (Int):=if a0<0 then (some (-1)) else (if a0>0 then (some 1) else (some 0))
set_option maxHeartbeats 8000000 in
set_option maxRecDepth 100000 in
theorem natural_sign.calls (a0:Int) (r:Int) (w:World) (h:natural_sign.f a0=some r) :
 Calls Tryd.prog 48 #[.int .i64 a0] w fun e w'=>e = .returned (.int .i64 r)∧Drawn0 w w':=by
 have H:(if a0<0 then (some (-1)) else (if a0>0 then (some 1) else (some 0)))=some r:=h
 clear h
 by_cases c2:a0<0
 ·rw [if_pos c2] at H
  have c2b0:decide (a0<0)=true:=decide_eq_true c2
  clear c2
  obtain rfl:=Option.some.inj H
  go_enter Tryd.func48,Tryd.ntmps48
  go_wp2
  go_ret
  exact ⟨by first|rfl|(simp;done)|(simp [*];done),by repeat (first|exact Drawn0.refl _|apply Drawn0.step)⟩
 ·rw [if_neg c2] at H
  have c2b0:decide (a0<0)=false:=decide_eq_false c2
  clear c2
  by_cases c3:a0>0
  ·rw [if_pos c3] at H
   have c3b0:decide (0<a0)=true:=decide_eq_true c3
   clear c3
   obtain rfl:=Option.some.inj H
   go_enter Tryd.func48,Tryd.ntmps48
   go_wp2
   go_ret
   exact ⟨by first|rfl|(simp;done)|(simp [*];done),by repeat (first|exact Drawn0.refl _|apply Drawn0.step)⟩
  ·rw [if_neg c3] at H
   have c3b0:decide (0<a0)=false:=decide_eq_false c3
   clear c3
   obtain rfl:=Option.some.inj H
   go_enter Tryd.func48,Tryd.ntmps48
   go_wp2
   go_ret
   exact ⟨by first|rfl|(simp;done)|(simp [*];done),by repeat (first|exact Drawn0.refl _|apply Drawn0.step)⟩
end Go.Proofs.YtjaflmhdclmolaaDoor.F
end
section
namespace Go.Proofs.YtjaflmhdclmolaaDoor.F
open Go.RowKit Go.Proofs.YtjaflmhdclmolaaDoorW.PrintWords Go.Proofs.YtjaflmhdclmolaaDoorW.PrintLast Go.Proofs.YtjaflmhdclmolaaDoorW.PrintMore
attribute [local go_sem] max2_int min2_int max_two min_two max_three min_three max_four min_four   
set_option linter.unusedVariables false
set_option linter.unusedSimpArgs false
def natural_compare.l0:Nat→List Int→List Int→Int→Option (Int)
 | 0,_,_,_=>none
 | k+1,x0,x1,x5=>if x5≥0 then (if 0≤x5 then (if x5<(x0.length:Int) then (if x5<(x1.length:Int) then (if (rd x0 x5)=(rd x1 x5) then (natural_compare.l0 k x0 x1 (wrap64 (x5-1))) else (if (rd x0 x5)<(rd x1 x5) then (some (-1)) else (some 1))) else (none)) else (none)) else (none)) else (some 0)
def natural_compare.f (k:Nat) (l0:List Int) (l1:List Int):Option (Int):=if (l0.length:Int)=(l1.length:Int) then (natural_compare.l0 k l0 l1 (wrap64 ((l0.length:Int)-1))) else ((natural_sign.f (wrap64 ((l0.length:Int)-(l1.length:Int)))).bind fun t124=>(some t124))
theorem natural_compare.mono_l:∀ k,(∀ y0 y1 y2,LeO (natural_compare.l0 k y0 y1 y2) (natural_compare.l0 (k+1) y0 y1 y2))
 | 0=>fun _ _ _ r h=>by simp [natural_compare.l0] at h
 | k+1=>by
  have ih0:=natural_compare.mono_l k
  ·intro y0 y1 y2
   unfold natural_compare.l0
   repeat' first
   | (with_reducible exact ih0 _ _ _)
   | (with_reducible exact LeO.refl _)
   | (with_reducible exact LeO.none _)
   | (with_reducible refine LeO.ite ?_ ?_)
   | (with_reducible refine LeO.bind ?_ (fun _=>?_))
   | exact ih0 _ _ _
   | exact LeO.none _
   | refine LeO.ite ?_ ?_
   | refine LeO.bind ?_ (fun _=>?_)
theorem natural_compare.mono:∀ a0 a1 k,LeO (natural_compare.f k a0 a1) (natural_compare.f (k+1) a0 a1):=by
 intro a0 a1 k
 have ih0:=natural_compare.mono_l k
 unfold natural_compare.f
 repeat' first
  | (with_reducible exact ih0 _ _ _)
  | (with_reducible exact LeO.refl _)
  | (with_reducible exact LeO.none _)
  | (with_reducible refine LeO.ite ?_ ?_)
  | (with_reducible refine LeO.bind ?_ (fun _=>?_))
  | exact ih0 _ _ _
  | exact LeO.none _
  | refine LeO.ite ?_ ?_
  | refine LeO.bind ?_ (fun _=>?_)
set_option maxHeartbeats 8000000 in
set_option maxRecDepth 100000 in
theorem natural_compare.calls (k:Nat) (A0:Option Addr) (c0:Nat) (l0:List Int) (A1:Option Addr) (c1:Nat) (l1:List Int) (r:Int) (w:World) (hr0:Kd.C (Kd.int .u32) w A0 l0.length l0) (hc0:l0.length≤c0) (hr1:Kd.C (Kd.int .u32) w A1 l1.length l1) (hc1:l1.length≤c1) (h:natural_compare.f k l0 l1=some r) :
 Calls Tryd.prog 62 #[.slice A0 l0.length c0,.slice A1 l1.length c1] w fun e w'=>e = .returned (.int .i64 r)∧Drawn0 w w':=by
 have HR0:=Aside0.mk hr0
 have HC0:=Aside0.mk hc0
 clear hr0 hc0
 have HR1:=Aside0.mk hr1
 have HC1:=Aside0.mk hc1
 clear hr1 hc1
 have H:(if (l0.length:Int)=(l1.length:Int) then (natural_compare.l0 k l0 l1 (wrap64 ((l0.length:Int)-1))) else ((natural_sign.f (wrap64 ((l0.length:Int)-(l1.length:Int)))).bind fun t124=>(some t124)))=some r:=h
 clear h
 by_cases c3:(l0.length:Int)=(l1.length:Int)
 ·rw [if_pos c3] at H
  have c3b0:((l0.length:Int) == (l1.length:Int))=true:=beq_iff_eq.mpr c3
  have c3b1:((l0.length:Int) != (l1.length:Int))=false:=bne_eq_false_iff_eq.mpr c3
  have c3b2:(l0.length == l1.length)=true:=by first|simpa using c3|(simp at c3 ⊢;omega)
  clear c3
  have H':=Aside0.mk H
  clear H
  go_enter Tryd.func62,Tryd.ntmps62
  go_wp2
  repeat (go_quiet (fail);try go_wp2)
  go_loopg [5] k (fun kq v5 w'=>∃ (x5_1:Int),v5 = .int .i64 x5_1∧Aside0 (natural_compare.l0 kq l0 l1 x5_1=some r)∧Aside0 (kq≤k)∧Drawn0 w w')
  case atStart=>exact ⟨(wrap64 ((l0.length:Int)-1)),(by first|rfl|(simp;done)|(simp [*];done)),H',⟨Nat.le_refl _⟩,by repeat (first|exact Drawn0.refl _|apply Drawn0.step)⟩
  case round=>
   clear H'
   try clear c1
   try clear p2
   try clear c3
   try clear c3b0
   try clear c3b1
   try clear c3b2
   obtain ⟨x5_1,rfl,HA,HK1,⟨m1,rfl⟩⟩:=hrel
   cases gk with
   | zero=>exact absurd HA.out (by simp [natural_compare.l0])
   | succ k1=>
    have H:=HA.out
    clear HA
    simp only [natural_compare.l0] at H
    by_cases c4:x5_1≥0
    ·rw [if_pos c4] at H
     have c4b0:decide (0≤x5_1)=true:=decide_eq_true c4
     clear c4
     by_cases c5:0≤x5_1
     ·rw [if_pos c5] at H
      have c5b0:decide (0≤x5_1)=true:=decide_eq_true c5
      clear c5
      by_cases c6:x5_1<(l0.length:Int)
      ·rw [if_pos c6] at H
       have c6b0:decide (x5_1<(l0.length:Int))=true:=decide_eq_true c6
       clear c6
       by_cases c7:x5_1<(l1.length:Int)
       ·rw [if_pos c7] at H
        have c7b0:decide (x5_1<(l1.length:Int))=true:=decide_eq_true c7
        clear c7
        by_cases c8:(rd l0 x5_1)=(rd l1 x5_1)
        ·rw [if_pos c8] at H
         have c8b0:((rd l0 x5_1) == (rd l1 x5_1))=true:=beq_iff_eq.mpr c8
         have c8b1:((rd l0 x5_1) != (rd l1 x5_1))=false:=bne_eq_false_iff_eq.mpr c8
         clear c8
         have H':=Aside0.mk H
         clear H
         have p125:0≤(x5_1:Int):=of_decide_eq_true (by first|(with_reducible assumption)|assumption)
         have q125:x5_1<(l0.length:Int):=of_decide_eq_true (by first|(with_reducible assumption)|assumption)
         obtain ⟨ad125,e125,hx125_0⟩:=Kd.at_int HR0.out x5_1 p125 q125
         cases e125
         replace p125:=eq_true p125
         replace q125:=eq_true q125
         have p126:0≤(x5_1:Int):=of_decide_eq_true (by first|(with_reducible assumption)|assumption)
         have q126:x5_1<(l1.length:Int):=of_decide_eq_true (by first|(with_reducible assumption)|assumption)
         obtain ⟨ad126,e126,hx126_0⟩:=Kd.at_int HR1.out x5_1 p126 q126
         cases e126
         replace p126:=eq_true p126
         replace q126:=eq_true q126
         go_wp2
         repeat (go_quiet (fail);try go_wp2)
         go_roundg k1
         case measure=>have:=HK1.out;omega
         case rel=>exact ⟨(wrap64 (x5_1-1)),(by first|rfl|(simp;done)|(simp [*];done)),H',⟨by have:=HK1.out;omega⟩,by repeat (first|exact Drawn0.refl _|apply Drawn0.step)⟩
        ·rw [if_neg c8] at H
         have c8b0:((rd l0 x5_1) == (rd l1 x5_1))=false:=beq_eq_false_iff_ne.mpr c8
         have c8b1:((rd l0 x5_1) != (rd l1 x5_1))=true:=bne_iff_ne.mpr c8
         by_cases c9:(rd l0 x5_1)<(rd l1 x5_1)
         ·rw [if_pos c9] at H
          have c9b0:decide ((rd l0 x5_1)<(rd l1 x5_1))=true:=decide_eq_true c9
          clear c9
          obtain rfl:=Option.some.inj H
          have p125:0≤(x5_1:Int):=of_decide_eq_true (by first|(with_reducible assumption)|assumption)
          have q125:x5_1<(l0.length:Int):=of_decide_eq_true (by first|(with_reducible assumption)|assumption)
          obtain ⟨ad125,e125,hx125_0⟩:=Kd.at_int HR0.out x5_1 p125 q125
          cases e125
          replace p125:=eq_true p125
          replace q125:=eq_true q125
          have p126:0≤(x5_1:Int):=of_decide_eq_true (by first|(with_reducible assumption)|assumption)
          have q126:x5_1<(l1.length:Int):=of_decide_eq_true (by first|(with_reducible assumption)|assumption)
          obtain ⟨ad126,e126,hx126_0⟩:=Kd.at_int HR1.out x5_1 p126 q126
          cases e126
          replace p126:=eq_true p126
          replace q126:=eq_true q126
          have p127:0≤(x5_1:Int):=of_decide_eq_true (by first|(with_reducible assumption)|assumption)
          have q127:x5_1<(l0.length:Int):=of_decide_eq_true (by first|(with_reducible assumption)|assumption)
          obtain ⟨ad127,e127,hx127_0⟩:=Kd.at_int HR0.out x5_1 p127 q127
          obtain rfl:ad125=ad127:=(by injection e127)
          replace p127:=eq_true p127
          replace q127:=eq_true q127
          have p128:0≤(x5_1:Int):=of_decide_eq_true (by first|(with_reducible assumption)|assumption)
          have q128:x5_1<(l1.length:Int):=of_decide_eq_true (by first|(with_reducible assumption)|assumption)
          obtain ⟨ad128,e128,hx128_0⟩:=Kd.at_int HR1.out x5_1 p128 q128
          obtain rfl:ad126=ad128:=(by injection e128)
          replace p128:=eq_true p128
          replace q128:=eq_true q128
          go_wp2
          repeat (go_quiet (fail);try go_wp2)
          go_ret
          exact ⟨by first|rfl|(simp;done)|(simp [*];done),by repeat (first|exact Drawn0.refl _|apply Drawn0.step)⟩
         ·rw [if_neg c9] at H
          have c9b0:decide ((rd l0 x5_1)<(rd l1 x5_1))=false:=decide_eq_false c9
          clear c9
          obtain rfl:=Option.some.inj H
          have p125:0≤(x5_1:Int):=of_decide_eq_true (by first|(with_reducible assumption)|assumption)
          have q125:x5_1<(l0.length:Int):=of_decide_eq_true (by first|(with_reducible assumption)|assumption)
          obtain ⟨ad125,e125,hx125_0⟩:=Kd.at_int HR0.out x5_1 p125 q125
          cases e125
          replace p125:=eq_true p125
          replace q125:=eq_true q125
          have p126:0≤(x5_1:Int):=of_decide_eq_true (by first|(with_reducible assumption)|assumption)
          have q126:x5_1<(l1.length:Int):=of_decide_eq_true (by first|(with_reducible assumption)|assumption)
          obtain ⟨ad126,e126,hx126_0⟩:=Kd.at_int HR1.out x5_1 p126 q126
          cases e126
          replace p126:=eq_true p126
          replace q126:=eq_true q126
          have p127:0≤(x5_1:Int):=of_decide_eq_true (by first|(with_reducible assumption)|assumption)
          have q127:x5_1<(l0.length:Int):=of_decide_eq_true (by first|(with_reducible assumption)|assumption)
          obtain ⟨ad127,e127,hx127_0⟩:=Kd.at_int HR0.out x5_1 p127 q127
          obtain rfl:ad125=ad127:=(by injection e127)
          replace p127:=eq_true p127
          replace q127:=eq_true q127
          have p128:0≤(x5_1:Int):=of_decide_eq_true (by first|(with_reducible assumption)|assumption)
          have q128:x5_1<(l1.length:Int):=of_decide_eq_true (by first|(with_reducible assumption)|assumption)
          obtain ⟨ad128,e128,hx128_0⟩:=Kd.at_int HR1.out x5_1 p128 q128
          obtain rfl:ad126=ad128:=(by injection e128)
          replace p128:=eq_true p128
          replace q128:=eq_true q128
          go_wp2
          repeat (go_quiet (fail);try go_wp2)
          go_ret
          exact ⟨by first|rfl|(simp;done)|(simp [*];done),by repeat (first|exact Drawn0.refl _|apply Drawn0.step)⟩
       ·rw [if_neg c7] at H
        exact absurd H (by simp)
      ·rw [if_neg c6] at H
       exact absurd H (by simp)
     ·rw [if_neg c5] at H
      exact absurd H (by simp)
    ·rw [if_neg c4] at H
     have c4b0:decide (0≤x5_1)=false:=decide_eq_false c4
     clear c4
     obtain rfl:=Option.some.inj H
     go_wp2
     repeat (go_quiet (fail);try go_wp2)
     go_ret
     exact ⟨by first|rfl|(simp;done)|(simp [*];done),by repeat (first|exact Drawn0.refl _|apply Drawn0.step)⟩
 ·rw [if_neg c3] at H
  have c3b0:((l0.length:Int) == (l1.length:Int))=false:=beq_eq_false_iff_ne.mpr c3
  have c3b1:((l0.length:Int) != (l1.length:Int))=true:=bne_iff_ne.mpr c3
  have c3b2:(l0.length == l1.length)=false:=by first|simpa using c3|(simp at c3 ⊢;omega)
  replace H:=Option.bind_eq_some_iff.mp H
  obtain ⟨t124,A100,H⟩:=H
  replace H:(some t124)=some r:=H
  have A10:=Aside0.mk A100
  clear A100
  obtain rfl:=Option.some.inj H
  go_enter Tryd.func62,Tryd.ntmps62
  go_wp2_with (first|(go_at_call 48;(with_reducible refine (natural_sign.calls (wrap64 ((l0.length:Int)-(l1.length:Int))) t124 _ A10.out).mono ?_);rintro e w' ⟨rfl,⟨nd,rfl⟩⟩;(try first|exact ⟨rfl,_,World.drewN_drewN _ _ _⟩|exact ⟨rfl,_,Eq.trans (World.drewN_drewN _ _ _) (congrArg (World.drewN _) (Nat.add_assoc _ _ _))⟩)))
  repeat (go_quiet (first|(go_at_call 48;(with_reducible refine (natural_sign.calls (wrap64 ((l0.length:Int)-(l1.length:Int))) t124 _ A10.out).mono ?_);rintro e w' ⟨rfl,⟨nd,rfl⟩⟩;(try first|exact ⟨rfl,_,World.drewN_drewN _ _ _⟩|exact ⟨rfl,_,Eq.trans (World.drewN_drewN _ _ _) (congrArg (World.drewN _) (Nat.add_assoc _ _ _))⟩)));try go_wp2_with (first|(go_at_call 48;(with_reducible refine (natural_sign.calls (wrap64 ((l0.length:Int)-(l1.length:Int))) t124 _ A10.out).mono ?_);rintro e w' ⟨rfl,⟨nd,rfl⟩⟩;(try first|exact ⟨rfl,_,World.drewN_drewN _ _ _⟩|exact ⟨rfl,_,Eq.trans (World.drewN_drewN _ _ _) (congrArg (World.drewN _) (Nat.add_assoc _ _ _))⟩))))
  go_ret
  exact ⟨by first|rfl|(simp;done)|(simp [*];done),by repeat (first|exact Drawn0.refl _|apply Drawn0.step)⟩
end Go.Proofs.YtjaflmhdclmolaaDoor.F
end
section
namespace Go.Proofs.YtjaflmhdclmolaaDoor.F
open Go.RowKit Go.Proofs.YtjaflmhdclmolaaDoorW.PrintWords Go.Proofs.YtjaflmhdclmolaaDoorW.PrintLast Go.Proofs.YtjaflmhdclmolaaDoorW.PrintMore
attribute [local go_sem] max2_int min2_int max_two min_two max_three min_three max_four min_four   
set_option linter.unusedVariables false
set_option linter.unusedSimpArgs false
def natural_divideSmall.l0:Nat→List Int→Int→List Int→Int→Int→Option (List Int×Int)
 | 0,_,_,_,_,_=>none
 | k+1,x0,x1,x6,x7,x8=>if x8≥0 then (if 0≤x8 then (if x8<(x0.length:Int) then (if (IntKind.u64.wrap (x1))=0 then (none) else (if x8<(x6.length:Int) then (natural_divideSmall.l0 k x0 x1 (x6.set (x8:Int).toNat ((IntKind.u64.wrap (Int.tdiv (Go.bits .or .u64 (IntKind.u64.wrap (x7*4294967296)) (IntKind.u64.wrap (rd x0 x8))) (IntKind.u64.wrap (x1))))%4294967296)) (Int.tmod (Go.bits .or .u64 (IntKind.u64.wrap (x7*4294967296)) (IntKind.u64.wrap (rd x0 x8))) (IntKind.u64.wrap (x1))) (wrap64 (x8-1))) else (none))) else (none)) else (none)) else ((natural_limbs_trim.f k x6).bind fun t121=>(some (t121,(x7)%4294967296)))
def natural_divideSmall.f (k:Nat) (l0:List Int) (a1:Int):Option (List Int×Int):=if 0≤(l0.length:Int) then (if ((l0.length:Int):Int).toNat≤70368744177664 then (natural_divideSmall.l0 k l0 a1 (List.replicate ((l0.length:Int):Int).toNat 0) 0 (wrap64 ((l0.length:Int)-1))) else (none)) else (none)
theorem natural_divideSmall.mono_l:∀ k,(∀ y0 y1 y2 y3 y4,LeO (natural_divideSmall.l0 k y0 y1 y2 y3 y4) (natural_divideSmall.l0 (k+1) y0 y1 y2 y3 y4))
 | 0=>fun _ _ _ _ _ r h=>by simp [natural_divideSmall.l0] at h
 | k+1=>by
  have ih0:=natural_divideSmall.mono_l k
  ·intro y0 y1 y2 y3 y4
   unfold natural_divideSmall.l0
   repeat' first
   | (with_reducible exact ih0 _ _ _ _ _)
   | (with_reducible exact natural_limbs_trim.mono _ _)
   | (with_reducible exact LeO.refl _)
   | (with_reducible exact LeO.none _)
   | (with_reducible refine LeO.ite ?_ ?_)
   | (with_reducible refine LeO.bind ?_ (fun _=>?_))
   | exact ih0 _ _ _ _ _
   | exact natural_limbs_trim.mono _ _
   | exact LeO.none _
   | refine LeO.ite ?_ ?_
   | refine LeO.bind ?_ (fun _=>?_)
theorem natural_divideSmall.mono:∀ a0 a1 k,LeO (natural_divideSmall.f k a0 a1) (natural_divideSmall.f (k+1) a0 a1):=by
 intro a0 a1 k
 have ih0:=natural_divideSmall.mono_l k
 unfold natural_divideSmall.f
 repeat' first
  | (with_reducible exact ih0 _ _ _ _ _)
  | (with_reducible exact natural_limbs_trim.mono _ _)
  | (with_reducible exact LeO.refl _)
  | (with_reducible exact LeO.none _)
  | (with_reducible refine LeO.ite ?_ ?_)
  | (with_reducible refine LeO.bind ?_ (fun _=>?_))
  | exact ih0 _ _ _ _ _
  | exact natural_limbs_trim.mono _ _
  | exact LeO.none _
  | refine LeO.ite ?_ ?_
  | refine LeO.bind ?_ (fun _=>?_)
set_option maxHeartbeats 8000000 in
set_option maxRecDepth 100000 in
theorem natural_divideSmall.calls (k:Nat) (A0:Option Addr) (c0:Nat) (l0:List Int) (a1:Int) (r1:List Int) (r2:Int) (w:World) (hr0:Kd.C (Kd.int .u32) w A0 l0.length l0) (hc0:l0.length≤c0) (h:natural_divideSmall.f k l0 a1=some (r1,r2)) :
 Calls Tryd.prog 56 #[.slice A0 l0.length c0,.int .u32 a1] w fun e w'=>∃ v0_:Value,e = .returned (.tuple #[v0_,.int .u32 r2])∧Kd.R (Kd.int .u32) 60 w' w.heap.size (fun _=>True) v0_ r1∧Below w.heap.size w w':=by
 have HR0:=Aside0.mk hr0
 have HC0:=Aside0.mk hc0
 clear hr0 hc0
 have HB:=Aside0.mk (Below.refl w.heap.size w)
 have H:(if 0≤(l0.length:Int) then (if ((l0.length:Int):Int).toNat≤70368744177664 then (natural_divideSmall.l0 k l0 a1 (List.replicate ((l0.length:Int):Int).toNat 0) 0 (wrap64 ((l0.length:Int)-1))) else (none)) else (none))=some (r1,r2):=h
 clear h
 by_cases c3:0≤(l0.length:Int)
 ·rw [if_pos c3] at H
  have c3b0:=eq_true c3
  have c3b1:decide (0≤(l0.length:Int))=true:=decide_eq_true c3
  clear c3
  by_cases c4:((l0.length:Int):Int).toNat≤70368744177664
  ·rw [if_pos c4] at H
   have c4b0:=eq_true c4
   have c4b1:decide (((l0.length:Int):Int).toNat≤70368744177664)=true:=decide_eq_true c4
   clear c4
   obtain ⟨y116,hy116⟩:∃ y_:List Int,y_=(List.replicate ((l0.length:Int):Int).toNat 0):=⟨_,rfl⟩
   replace H:(natural_divideSmall.l0 k l0 a1 y116 0 (wrap64 ((l0.length:Int)-1)))=some (r1,r2):=by first|(rw [hy116];with_reducible exact H)|(have H2_:=(Option.bind_some _ _).symm.trans H;rw [hy116];with_reducible exact H2_)|(have H2_:=(Option.bind_some _ _).symm.trans H;with_reducible exact H2_)|with_reducible exact H|(rw [hy116];exact H)|exact H
   have Ny116:=Aside0.mk hy116
   clear hy116
   have H':=Aside0.mk H
   clear H
   go_enter Tryd.func56,Tryd.ntmps56
   go_wp2_with (first|((with_reducible refine gate_dst (N:=12) rfl ?_);refine Kd.R_make (Kd.int .u32) _ 60 rfl (N:=12) rfl 50 _ _ rfl (l0.length:Int) rfl rfl Tryd.underlying50 (.int .u32 0) 4 info60 rfl (by decide) (by omega) 0 (ok:=fun _=>True) (okp:=fun _=>True) rfl (fun _ hk=>hk) trivial (of_decide_eq_true (by first|(with_reducible assumption)|assumption)) (Nat.le_trans (Nat.mul_le_mul_right _ (of_decide_eq_true (by first|(with_reducible assumption)|assumption):(l0.length:Int).toNat≤70368744177664)) (by omega)) (Below.refl _ _) (Nat.le_refl _) ?_;intro v117 w5 ho6 hb hg_ hnew_;clear hg_ hnew_;(first|rw [← Ny116.out] at ho6|(simp only [Int.reduceToNat] at ho6;rw [← Ny116.out] at ho6));have n0_:=Aside0.mk (Kd.R_lower ho6 (below_size (by repeat (first|(with_reducible first|exact HB.out|apply below_alloc|apply pw_below_drewN|apply below_drew1)|exact HB.out))));have n1_:=Aside0.mk (below_step (by repeat (first|(with_reducible first|exact HB.out|apply below_alloc|apply pw_below_drewN|apply below_drew1)|exact HB.out)) hb);clear HB;have HO118:=n0_;have HB:=n1_;clear n0_ n1_;clear hb ho6))
   go_loopg [7,8] k (fun kq v7 v8 w'=>∃ (x6_1:List Int) (x7_1:Int) (x8_1:Int),v7 = .int .u64 x7_1∧v8 = .int .i64 x8_1∧Aside0 (natural_divideSmall.l0 kq l0 a1 x6_1 x7_1 x8_1=some (r1,r2))∧Aside0 (kq≤k)∧Aside0 (Kd.R (Kd.int .u32) 60 w' w.heap.size (fun _=>True) v117 x6_1)∧Aside0 (Below w.heap.size w w'))
   case atStart=>exact ⟨(y116),(0),(wrap64 ((l0.length:Int)-1)),(by first|rfl|(simp;done)|(simp [*];done)),(by first|rfl|(simp;done)|(simp [*];done)),H',⟨Nat.le_refl _⟩,⟨by (with_reducible repeat (first|apply Kd.R_alloc|apply Kd.R_drewN|apply Kd.R_drew));exact HO118.out⟩,⟨by repeat (first|(with_reducible first|exact HB.out|apply below_alloc|apply pw_below_drewN|apply below_drew1)|exact HB.out)⟩⟩
   case round=>
    clear H'
    try clear p2
    try clear c3
    try clear c3b0
    try clear c3b1
    try clear c4
    try clear c4b0
    try clear c4b1
    try clear c5
    try clear p6
    obtain ⟨x6_1,x7_1,x8_1,rfl,rfl,HA,HK1,HO_6,HB⟩:=hrel
    cases gk with
    | zero=>exact absurd HA.out (by simp [natural_divideSmall.l0])
    | succ k1=>
     have H:=HA.out
     clear HA
     simp only [natural_divideSmall.l0] at H
     by_cases c7:x8_1≥0
     ·rw [if_pos c7] at H
      have c7b0:decide (0≤x8_1)=true:=decide_eq_true c7
      clear c7
      by_cases c8:0≤x8_1
      ·rw [if_pos c8] at H
       have c8b0:decide (0≤x8_1)=true:=decide_eq_true c8
       clear c8
       by_cases c9:x8_1<(l0.length:Int)
       ·rw [if_pos c9] at H
        have c9b0:decide (x8_1<(l0.length:Int))=true:=decide_eq_true c9
        clear c9
        by_cases c10:(IntKind.u64.wrap (a1))=0
        ·rw [if_pos c10] at H
         exact absurd H (by simp)
        ·rw [if_neg c10] at H
         have c10b0:((IntKind.u64.wrap (a1)) == 0)=false:=beq_eq_false_iff_ne.mpr c10
         have c10b1:((IntKind.u64.wrap (a1)) != 0)=true:=bne_iff_ne.mpr c10
         by_cases c11:x8_1<(x6_1.length:Int)
         ·rw [if_pos c11] at H
          have c11b0:decide (x8_1<(x6_1.length:Int))=true:=decide_eq_true c11
          clear c11
          obtain ⟨y120,hy120⟩:∃ y_:List Int,y_=(x6_1.set (x8_1:Int).toNat ((IntKind.u64.wrap (Int.tdiv (Go.bits .or .u64 (IntKind.u64.wrap (x7_1*4294967296)) (IntKind.u64.wrap (rd l0 x8_1))) (IntKind.u64.wrap (a1))))%4294967296)):=⟨_,rfl⟩
          replace H:(natural_divideSmall.l0 k1 l0 a1 y120 (Int.tmod (Go.bits .or .u64 (IntKind.u64.wrap (x7_1*4294967296)) (IntKind.u64.wrap (rd l0 x8_1))) (IntKind.u64.wrap (a1))) (wrap64 (x8_1-1)))=some (r1,r2):=by first|(rw [hy120];with_reducible exact H)|(have H2_:=(Option.bind_some _ _).symm.trans H;rw [hy120];with_reducible exact H2_)|(have H2_:=(Option.bind_some _ _).symm.trans H;with_reducible exact H2_)|with_reducible exact H|(rw [hy120];exact H)|exact H
          have Ny120:=Aside0.mk hy120
          clear hy120
          have H':=Aside0.mk H
          clear H
          have p119:0≤(x8_1:Int):=of_decide_eq_true (by first|(with_reducible assumption)|assumption)
          have q119:x8_1<(l0.length:Int):=of_decide_eq_true (by first|(with_reducible assumption)|assumption)
          obtain ⟨ad119,e119,hx119_0⟩:=Kd.at_int HR0.out x8_1 p119 q119
          cases e119
          replace hx119_0:=(HB.out.cell (World.block_lt_of_cell? w _ hx119_0)).trans hx119_0
          replace p119:=eq_true p119
          replace q119:=eq_true q119
          have p12:0≤(x8_1:Int):=of_decide_eq_true (by first|(with_reducible assumption)|assumption)
          have q12:(x8_1:Int)<((x6_1.length:Int):Int):=of_decide_eq_true (by first|(with_reducible assumption)|assumption)
          obtain ⟨go12,co12,eo12,gb12,gl12,cl12,HG12⟩:=Kd.R_form HO_6.out (by omega)
          (first|cases eo12|(injection eo12 with ea_ en_ ec_;(first|subst ea_|(injection ea_ with ea_;subst ea_));subst ec_;clear en_))
          have GB12:=Aside0.mk gb12
          have GG12:=Aside0.mk HG12
          clear gb12 gl12 HG12
          obtain ⟨hx12_0,hf12_0⟩:=Kd.R_celln 0 HO_6.out (x8_1:Int) p12 q12
          replace p12:=eq_true p12
          replace q12:=eq_true q12
          have HP13:=Kd.R_putg HO_6.out (x8_1:Int) ((IntKind.u64.wrap (Int.tdiv (Go.bits .or .u64 (IntKind.u64.wrap (x7_1*4294967296)) (IntKind.u64.wrap (rd l0 x8_1))) (IntKind.u64.wrap (a1))))%4294967296)
          go_wp2_with (first|((with_reducible refine gate_store (t:=60) (p:=35) rfl ?_);refine store_event (t:=60) (p:=35) (v:=?vo_w14) (w1:=(wr.setCell ⟨go12,(x8_1:Int).toNat,none⟩ (.int .u32 ((IntKind.u64.wrap (Int.tdiv (Go.bits .or .u64 (IntKind.u64.wrap (x7_1*4294967296)) (IntKind.u64.wrap (rd l0 x8_1))) (IntKind.u64.wrap (a1))))%4294967296)))) ?hg ?ho ?hn ?hr ?_;(case ho=>rfl);(case hg=>rfl);(case hn=>rfl);(case hr=>first|(go_simp;done)|(go_simp;rfl));intro w14 hw;have hg:wr.grownBy w14 (some go12):=(by rw [hw];exact HP13.2);have hp_:Kd.R (Kd.int .u32) 60 w14 w.heap.size (fun _=>True) (.slice (some ⟨go12,0,none⟩) x6_1.length co12) y120:=(by rw [hw,Ny120.out];exact HP13.1);clear HP13;have n0_:=Aside0.mk (hp_);have n1_:=Aside0.mk ((by rw [hw];exact below_set (HB.out) GB12.out:Below w.heap.size w w14));clear HO_6;clear HB;have HO_6:=n0_;have HB:=n1_;clear n0_ n1_;clear hg hw hp_))
          go_roundg k1
          case measure=>have:=HK1.out;omega
          case rel=>exact ⟨(y120),(Int.tmod (Go.bits .or .u64 (IntKind.u64.wrap (x7_1*4294967296)) (IntKind.u64.wrap (rd l0 x8_1))) (IntKind.u64.wrap (a1))),(wrap64 (x8_1-1)),(by first|rfl|(simp;done)|(simp [*];done)),(by first|rfl|(simp;done)|(simp [*];done)),H',⟨by have:=HK1.out;omega⟩,⟨by (with_reducible repeat (first|apply Kd.R_alloc|apply Kd.R_drewN|apply Kd.R_drew));exact HO_6.out⟩,⟨by repeat (first|(with_reducible first|exact HB.out|apply below_alloc|apply pw_below_drewN|apply below_drew1)|exact HB.out)⟩⟩
         ·rw [if_neg c11] at H
          exact absurd H (by simp)
       ·rw [if_neg c9] at H
        exact absurd H (by simp)
      ·rw [if_neg c8] at H
       exact absurd H (by simp)
     ·rw [if_neg c7] at H
      have c7b0:decide (0≤x8_1)=false:=decide_eq_false c7
      clear c7
      replace H:=Option.bind_eq_some_iff.mp H
      obtain ⟨t121,A150,H⟩:=H
      replace H:(some (t121,(x7_1)%4294967296))=some (r1,r2):=H
      have A15:=Aside0.mk A150
      clear A150
      simp only [Option.some.injEq,Prod.mk.injEq] at H
      obtain ⟨rfl,rfl⟩:=H
      obtain ⟨Ao16,co16,eo16⟩:=Kd.R_slice HO_6.out
      subst eo16
      go_wp2_with (first|((with_reducible refine gate_callee (f:=53) rfl ?_);refine goesL_ (some 41) rfl rfl Tryd.func53 (by kernel_rfl) rfl #[.slice Ao16 x6_1.length co16] rfl (by (try simp only [List.map_toArray,List.map_cons,List.map_nil]);first|done|rfl|(simp only [List.length_drop,List.length_take];rfl)) ?_;(with_reducible refine (natural_limbs_trim.calls k1 (fun k_=>some k_=(.slice Ao16 x6_1.length co16:Value).ownBlock) (.slice Ao16 x6_1.length co16) x6_1 t121 w _ ?side1 ?side2 A15.out).mono ?_);(case side1=>repeat (first|(with_reducible first|exact HB.out|apply below_alloc|apply pw_below_drewN|apply below_drew1)|exact HB.out));(case side2=>exact Kd.R_tight rfl HO_6.out);rintro e w17 ⟨v122,rfl,ho0,hb,hkp⟩;refine ⟨_,rfl,?_⟩;have n0_:=Aside0.mk (Kd.R_mono (ok':=fun k_=>True) ho0 (fun k_ hk_=>trivial));have n1_:=Aside0.mk (hb);clear HB;clear HO_6;have HO123:=n0_;have HB:=n1_;clear n0_ n1_;(try clear hb);(try clear hkp);(try clear ho0)))
      go_ret2
      exact ⟨_,by first|rfl|(simp [errW_none,errW_some] <;> rfl)|(simp [*,errW_none,errW_some] <;> rfl),by (with_reducible repeat (first|apply Kd.R_alloc|apply Kd.R_drewN|apply Kd.R_drew));exact HO123.out,by repeat (first|(with_reducible first|exact HB.out|apply below_alloc|apply pw_below_drewN|apply below_drew1)|exact HB.out)⟩
  ·rw [if_neg c4] at H
   exact absurd H (by simp)
 ·rw [if_neg c3] at H
  exact absurd H (by simp)
end Go.Proofs.YtjaflmhdclmolaaDoor.F
end
section
namespace Go.Proofs.YtjaflmhdclmolaaDoor.F
open Go.RowKit Go.Proofs.YtjaflmhdclmolaaDoorW.PrintWords Go.Proofs.YtjaflmhdclmolaaDoorW.PrintLast Go.Proofs.YtjaflmhdclmolaaDoorW.PrintMore
attribute [local go_sem] max2_int min2_int max_two min_two max_three min_three max_four min_four   
set_option linter.unusedVariables false
set_option linter.unusedSimpArgs false
def natural_shift.l0:Nat→Int→Int→List Int→List Int→Int→Int→Option (List Int)
 | 0,_,_,_,_,_,_=>none
 | k+1,x1,x2,x7,x13,x14,x15=>if x15<x14 then (if 0≤x15 then (if x15<(x13.length:Int) then (if 0≤x1 then (if x15<(x7.length:Int) then ((some (x7.set (x15:Int).toNat (Go.bits .or .u32 (rd x7 x15) ((shl .u64 (IntKind.u64.wrap (rd x13 x15)) x1)%4294967296)):List Int)).bind fun y134=>(if (wrap64 (x15+1))<x2 then (if 0≤(wrap64 (x15+1)) then (if (wrap64 (x15+1))<(x7.length:Int) then (natural_shift.l0 k x1 x2 (y134.set ((wrap64 (x15+1)):Int).toNat (Go.bits .or .u32 (rd y134 (wrap64 (x15+1))) (((shl .u64 (IntKind.u64.wrap (rd x13 x15)) x1)/4294967296)%4294967296))) x13 x14 (wrap64 (x15+1))) else (none)) else (none)) else (natural_shift.l0 k x1 x2 y134 x13 x14 (wrap64 (x15+1))))) else (none)) else (none)) else (none)) else (none)) else (some x7)
def natural_shift.f (k:Nat) (l0:List Int) (a1:Int) (a2:Int):Option (List Int):=if 0≤a2 then (if (a2:Int).toNat≤70368744177664 then (natural_shift.l0 k a1 a2 (List.replicate (a2:Int).toNat 0) l0 (l0.length:Int) 0) else (none)) else (none)
theorem natural_shift.mono_l:∀ k,(∀ y0 y1 y2 y3 y4 y5,LeO (natural_shift.l0 k y0 y1 y2 y3 y4 y5) (natural_shift.l0 (k+1) y0 y1 y2 y3 y4 y5))
 | 0=>fun _ _ _ _ _ _ r h=>by simp [natural_shift.l0] at h
 | k+1=>by
  have ih0:=natural_shift.mono_l k
  ·intro y0 y1 y2 y3 y4 y5
   unfold natural_shift.l0
   repeat' first
   | (with_reducible exact ih0 _ _ _ _ _ _)
   | (with_reducible exact LeO.refl _)
   | (with_reducible exact LeO.none _)
   | (with_reducible refine LeO.ite ?_ ?_)
   | (with_reducible refine LeO.bind ?_ (fun _=>?_))
   | exact ih0 _ _ _ _ _ _
   | exact LeO.none _
   | refine LeO.ite ?_ ?_
   | refine LeO.bind ?_ (fun _=>?_)
theorem natural_shift.mono:∀ a0 a1 a2 k,LeO (natural_shift.f k a0 a1 a2) (natural_shift.f (k+1) a0 a1 a2):=by
 intro a0 a1 a2 k
 have ih0:=natural_shift.mono_l k
 unfold natural_shift.f
 repeat' first
  | (with_reducible exact ih0 _ _ _ _ _ _)
  | (with_reducible exact LeO.refl _)
  | (with_reducible exact LeO.none _)
  | (with_reducible refine LeO.ite ?_ ?_)
  | (with_reducible refine LeO.bind ?_ (fun _=>?_))
  | exact ih0 _ _ _ _ _ _
  | exact LeO.none _
  | refine LeO.ite ?_ ?_
  | refine LeO.bind ?_ (fun _=>?_)
set_option maxHeartbeats 8000000 in
set_option maxRecDepth 100000 in
theorem natural_shift.calls (k:Nat) (A0:Option Addr) (c0:Nat) (l0:List Int) (a1:Int) (a2:Int) (r:List Int) (w:World) (hr0:Kd.C (Kd.int .u32) w A0 l0.length l0) (hc0:l0.length≤c0) (h:natural_shift.f k l0 a1 a2=some r) :
 Calls Tryd.prog 71 #[.slice A0 l0.length c0,.int .u64 a1,.int .i64 a2] w fun e w'=>∃ v0_:Value,e = .returned (v0_)∧Kd.R (Kd.int .u32) 60 w' w.heap.size (fun _=>True) v0_ r∧Below w.heap.size w w':=by
 have HR0:=Aside0.mk hr0
 have HC0:=Aside0.mk hc0
 clear hr0 hc0
 have HB:=Aside0.mk (Below.refl w.heap.size w)
 have H:(if 0≤a2 then (if (a2:Int).toNat≤70368744177664 then (natural_shift.l0 k a1 a2 (List.replicate (a2:Int).toNat 0) l0 (l0.length:Int) 0) else (none)) else (none))=some r:=h
 clear h
 by_cases c4:0≤a2
 ·rw [if_pos c4] at H
  have c4b0:=eq_true c4
  have c4b1:decide (0≤a2)=true:=decide_eq_true c4
  clear c4
  by_cases c5:(a2:Int).toNat≤70368744177664
  ·rw [if_pos c5] at H
   have c5b0:=eq_true c5
   have c5b1:decide ((a2:Int).toNat≤70368744177664)=true:=decide_eq_true c5
   clear c5
   obtain ⟨y129,hy129⟩:∃ y_:List Int,y_=(List.replicate (a2:Int).toNat 0):=⟨_,rfl⟩
   replace H:(natural_shift.l0 k a1 a2 y129 l0 (l0.length:Int) 0)=some r:=by first|(rw [hy129];with_reducible exact H)|(have H2_:=(Option.bind_some _ _).symm.trans H;rw [hy129];with_reducible exact H2_)|(have H2_:=(Option.bind_some _ _).symm.trans H;with_reducible exact H2_)|with_reducible exact H|(rw [hy129];exact H)|exact H
   have Ny129:=Aside0.mk hy129
   clear hy129
   have H':=Aside0.mk H
   clear H
   go_enter Tryd.func71,Tryd.ntmps71
   go_wp2_with (first|((with_reducible refine gate_dst (N:=12) rfl ?_);refine Kd.R_make (Kd.int .u32) _ 60 rfl (N:=12) rfl 50 _ _ rfl a2 rfl rfl Tryd.underlying50 (.int .u32 0) 4 info60 rfl (by decide) (by omega) 0 (ok:=fun _=>True) (okp:=fun _=>True) rfl (fun _ hk=>hk) trivial (of_decide_eq_true (by first|(with_reducible assumption)|assumption)) (Nat.le_trans (Nat.mul_le_mul_right _ (of_decide_eq_true (by first|(with_reducible assumption)|assumption):a2.toNat≤70368744177664)) (by omega)) (Below.refl _ _) (Nat.le_refl _) ?_;intro v130 w6 ho7 hb hg_ hnew_;clear hg_ hnew_;(first|rw [← Ny129.out] at ho7|(simp only [Int.reduceToNat] at ho7;rw [← Ny129.out] at ho7));have n0_:=Aside0.mk (Kd.R_lower ho7 (below_size (by repeat (first|(with_reducible first|exact HB.out|apply below_alloc|apply pw_below_drewN|apply below_drew1)|exact HB.out))));have n1_:=Aside0.mk (below_step (by repeat (first|(with_reducible first|exact HB.out|apply below_alloc|apply pw_below_drewN|apply below_drew1)|exact HB.out)) hb);clear HB;have HO131:=n0_;have HB:=n1_;clear n0_ n1_;clear hb ho7))
   go_loopg [15] k (fun kq v15 w'=>∃ (x7_1:List Int) (x15_1:Int),v15 = .int .i64 x15_1∧Aside0 (natural_shift.l0 kq a1 a2 x7_1 l0 (l0.length:Int) x15_1=some r)∧Aside0 (kq≤k)∧Aside0 (Kd.R (Kd.int .u32) 60 w' w.heap.size (fun _=>True) v130 x7_1)∧Aside0 (Below w.heap.size w w'))
   case atStart=>exact ⟨(y129),(0),(by first|rfl|(simp;done)|(simp [*];done)),H',⟨Nat.le_refl _⟩,⟨by (with_reducible repeat (first|apply Kd.R_alloc|apply Kd.R_drewN|apply Kd.R_drew));exact HO131.out⟩,⟨by repeat (first|(with_reducible first|exact HB.out|apply below_alloc|apply pw_below_drewN|apply below_drew1)|exact HB.out)⟩⟩
   case round=>
    clear H'
    try clear p2
    try clear c4
    try clear c4b0
    try clear c4b1
    try clear c5
    try clear c5b0
    try clear c5b1
    try clear c7
    obtain ⟨x7_1,x15_1,rfl,HA,HK1,HO_7,HB⟩:=hrel
    cases gk with
    | zero=>exact absurd HA.out (by simp [natural_shift.l0])
    | succ k1=>
     have H:=HA.out
     clear HA
     simp only [natural_shift.l0] at H
     by_cases c8:x15_1<(l0.length:Int)
     ·rw [if_pos c8] at H
      have c8b0:decide (x15_1<(l0.length:Int))=true:=decide_eq_true c8
      clear c8
      by_cases c9:0≤x15_1
      ·rw [if_pos c9] at H
       have c9b0:decide (0≤x15_1)=true:=decide_eq_true c9
       clear c9
       by_cases c10:x15_1<(l0.length:Int)
       ·rw [if_pos c10] at H
        have c10b0:decide (x15_1<(l0.length:Int))=true:=decide_eq_true c10
        clear c10
        by_cases c11:0≤a1
        ·rw [if_pos c11] at H
         have c11b0:=eq_true c11
         have c11b1:decide (0≤a1)=true:=decide_eq_true c11
         clear c11
         obtain ⟨ji12,hji12⟩:∃ j_:Int,(shl .u64 (IntKind.u64.wrap (rd l0 x15_1)) a1)=j_:=⟨_,rfl⟩
         replace H:(if x15_1<(x7_1.length:Int) then ((some (x7_1.set (x15_1:Int).toNat (Go.bits .or .u32 (rd x7_1 x15_1) ((ji12)%4294967296)):List Int)).bind fun y134=>(if (wrap64 (x15_1+1))<a2 then (if 0≤(wrap64 (x15_1+1)) then (if (wrap64 (x15_1+1))<(x7_1.length:Int) then (natural_shift.l0 k1 a1 a2 (y134.set ((wrap64 (x15_1+1)):Int).toNat (Go.bits .or .u32 (rd y134 (wrap64 (x15_1+1))) (((ji12)/4294967296)%4294967296))) l0 (l0.length:Int) (wrap64 (x15_1+1))) else (none)) else (none)) else (natural_shift.l0 k1 a1 a2 y134 l0 (l0.length:Int) (wrap64 (x15_1+1))))) else (none))=some r:=by first|(rw [hji12] at H;exact H)|(simp only [hji12] at H ⊢;exact H)
         have hji12_:(IntKind.u64.wrap ((IntKind.u64.wrap (rd l0 x15_1))*2 ^ min a1.toNat 64))=ji12:=hji12
         have hji12z:a1≤64→(IntKind.u64.wrap ((IntKind.u64.wrap (rd l0 x15_1))*2 ^ a1.toNat))=ji12:=shl_small hji12
         by_cases c13:x15_1<(x7_1.length:Int)
         ·rw [if_pos c13] at H
          have c13b0:decide (x15_1<(x7_1.length:Int))=true:=decide_eq_true c13
          clear c13
          obtain ⟨y134,hy134⟩:∃ y_:List Int,y_=(x7_1.set (x15_1:Int).toNat (Go.bits .or .u32 (rd x7_1 x15_1) ((ji12)%4294967296))):=⟨_,rfl⟩
          replace H:(if (wrap64 (x15_1+1))<a2 then (if 0≤(wrap64 (x15_1+1)) then (if (wrap64 (x15_1+1))<(x7_1.length:Int) then (natural_shift.l0 k1 a1 a2 (y134.set ((wrap64 (x15_1+1)):Int).toNat (Go.bits .or .u32 (rd y134 (wrap64 (x15_1+1))) (((ji12)/4294967296)%4294967296))) l0 (l0.length:Int) (wrap64 (x15_1+1))) else (none)) else (none)) else (natural_shift.l0 k1 a1 a2 y134 l0 (l0.length:Int) (wrap64 (x15_1+1))))=some r:=by first|(rw [hy134];with_reducible exact H)|(have H2_:=(Option.bind_some _ _).symm.trans H;rw [hy134];with_reducible exact H2_)|(have H2_:=(Option.bind_some _ _).symm.trans H;with_reducible exact H2_)|with_reducible exact H|(rw [hy134];exact H)|exact H
          have Ny134:=Aside0.mk hy134
          clear hy134
          by_cases c15:(wrap64 (x15_1+1))<a2
          ·rw [if_pos c15] at H
           have c15b0:decide ((wrap64 (x15_1+1))<a2)=true:=decide_eq_true c15
           clear c15
           obtain ⟨ji16,hji16⟩:∃ j_:Int,(wrap64 (x15_1+1))=j_:=⟨_,rfl⟩
           replace H:(if 0≤(ji16) then (if (ji16)<(x7_1.length:Int) then (natural_shift.l0 k1 a1 a2 (y134.set ((ji16):Int).toNat (Go.bits .or .u32 (rd y134 (ji16)) (((ji12)/4294967296)%4294967296))) l0 (l0.length:Int) ji16) else (none)) else (none))=some r:=by first|(rw [hji16] at H;exact H)|(simp only [hji16] at H ⊢;exact H)
           (try rw [hji16] at c15b0)
           have hji16w:(IntKind.i64.wrap (x15_1+1))=ji16:=(i64_w _).trans hji16
           by_cases c17:0≤(ji16)
           ·rw [if_pos c17] at H
            have c17b0:decide (0≤(ji16))=true:=decide_eq_true c17
            clear c17
            by_cases c18:(ji16)<(x7_1.length:Int)
            ·rw [if_pos c18] at H
             have c18b0:decide ((ji16)<(x7_1.length:Int))=true:=decide_eq_true c18
             clear c18
             obtain ⟨y136,hy136⟩:∃ y_:List Int,y_=(y134.set ((ji16):Int).toNat (Go.bits .or .u32 (rd y134 (ji16)) (((ji12)/4294967296)%4294967296))):=⟨_,rfl⟩
             replace H:(natural_shift.l0 k1 a1 a2 y136 l0 (l0.length:Int) ji16)=some r:=by first|(rw [hy136];with_reducible exact H)|(have H2_:=(Option.bind_some _ _).symm.trans H;rw [hy136];with_reducible exact H2_)|(have H2_:=(Option.bind_some _ _).symm.trans H;with_reducible exact H2_)|with_reducible exact H|(rw [hy136];exact H)|exact H
             have Ny136:=Aside0.mk hy136
             clear hy136
             have H':=Aside0.mk H
             clear H
             have p132:0≤(x15_1:Int):=of_decide_eq_true (by first|(with_reducible assumption)|assumption)
             have q132:x15_1<(l0.length:Int):=of_decide_eq_true (by first|(with_reducible assumption)|assumption)
             obtain ⟨ad132,e132,hx132_0⟩:=Kd.at_int HR0.out x15_1 p132 q132
             cases e132
             replace hx132_0:=(HB.out.cell (World.block_lt_of_cell? w _ hx132_0)).trans hx132_0
             replace p132:=eq_true p132
             replace q132:=eq_true q132
             obtain ⟨Ao20,co20,eo20⟩:=Kd.R_slice HO_7.out
             subst eo20
             have p133:0≤(x15_1:Int):=of_decide_eq_true (by first|(with_reducible assumption)|assumption)
             have q133:x15_1<(x7_1.length:Int):=of_decide_eq_true (by first|(with_reducible assumption)|assumption)
             obtain ⟨ad133,e133,hx133_0⟩:=Kd.at_int (Kd.R_reads' HO_7.out).2.2 x15_1 p133 q133
             cases e133
             replace p133:=eq_true p133
             replace q133:=eq_true q133
             have p14:0≤(x15_1:Int):=of_decide_eq_true (by first|(with_reducible assumption)|assumption)
             have q14:(x15_1:Int)<((x7_1.length:Int):Int):=of_decide_eq_true (by first|(with_reducible assumption)|assumption)
             obtain ⟨go14,co14,eo14,gb14,gl14,cl14,HG14⟩:=Kd.R_form HO_7.out (by omega)
             (first|cases eo14|(injection eo14 with ea_ en_ ec_;(first|subst ea_|(injection ea_ with ea_;subst ea_));subst ec_;clear en_))
             have GB14:=Aside0.mk gb14
             have GG14:=Aside0.mk HG14
             clear gb14 gl14 HG14
             (first|simp only [add_plain] at hx133_0|skip)
             obtain ⟨hx14_0,hf14_0⟩:=Kd.R_celln 0 HO_7.out (x15_1:Int) p14 q14
             replace p14:=eq_true p14
             replace q14:=eq_true q14
             have HP21:=Kd.R_putg HO_7.out (x15_1:Int) (Go.bits .or .u32 (rd x7_1 x15_1) ((ji12)%4294967296))
             go_wp2_with (first|((with_reducible refine gate_store (t:=60) (p:=31) rfl ?_);refine store_event (t:=60) (p:=31) (v:=?vo_w22) (w1:=(wr.setCell ⟨go14,(x15_1:Int).toNat,none⟩ (.int .u32 (Go.bits .or .u32 (rd x7_1 x15_1) ((ji12)%4294967296))))) ?hg ?ho ?hn ?hr ?_;(case ho=>rfl);(case hg=>rfl);(case hn=>rfl);(case hr=>first|(go_simp;done)|(go_simp;rfl));intro w22 hw;have hg:wr.grownBy w22 (some go14):=(by rw [hw];exact HP21.2);have hp_:Kd.R (Kd.int .u32) 60 w22 w.heap.size (fun _=>True) (.slice (some ⟨go14,0,none⟩) x7_1.length co20) y134:=(by rw [hw,Ny134.out];exact HP21.1);clear HP21;have n0_:=Aside0.mk (hp_);have n1_:=Aside0.mk ((by rw [hw];exact below_set (HB.out) GB14.out:Below w.heap.size w w22));clear HO_7;clear HB;have HO_7:=n0_;have HB:=n1_;clear n0_ n1_;clear hg hw hp_;have p135:0≤((ji16):Int):=of_decide_eq_true (by first|(with_reducible assumption)|assumption);have q135:(ji16)<(y134.length:Int):=(by have h_:((ji16):Int)<((x7_1.length:Int):Int):=of_decide_eq_true (by first|(with_reducible assumption)|assumption);first|(have e_:=(Kd.R_reads' HO_7.out).1;omega)|simpa only [Ny134.out,List.length_set] using h_);have ql135:(((ji16):Int)<((x7_1.length:Int):Int))=True:=eq_true (of_decide_eq_true (by first|(with_reducible assumption)|assumption));obtain ⟨ad135,e135,hx135_0⟩:=Kd.at_int (Kd.R_reads' HO_7.out).2.2 (ji16) p135 q135;obtain rfl:(⟨go14,0,none⟩:Addr)=ad135:=(by injection e135);(first|simp only [add_plain] at hx135_0|simp only [add_at] at hx135_0|simp only [Addr.add,Nat.zero_add] at hx135_0|skip);replace p135:=eq_true p135;replace q135:=eq_true q135;have p19:0≤((ji16):Int):=of_decide_eq_true (by first|(with_reducible assumption)|assumption);have q19:((ji16):Int)<((x7_1.length:Int):Int):=of_decide_eq_true (by first|(with_reducible assumption)|assumption);obtain ⟨hx19_0,hf19_0⟩:=Kd.R_celln 0 HO_7.out ((ji16):Int) p19 q19;replace p19:=eq_true p19;replace q19:=eq_true q19;obtain ⟨hy23_,hz23_⟩:=Kd.R_celln 0 HO_7.out ((ji16):Int) (of_decide_eq_true (by first|(with_reducible assumption)|assumption)) (of_decide_eq_true (by first|(with_reducible assumption)|assumption));have HP23:=Kd.R_putg HO_7.out ((ji16):Int) (Go.bits .or .u32 (rd y134 (ji16)) (((ji12)/4294967296)%4294967296)))|((with_reducible refine gate_store (t:=60) (p:=45) rfl ?_);refine store_event (t:=60) (p:=45) (v:=?vo_w24) (w1:=(w22.setCell ⟨go14,((ji16):Int).toNat,none⟩ (.int .u32 (Go.bits .or .u32 (rd y134 (ji16)) (((ji12)/4294967296)%4294967296))))) ?hg ?ho ?hn ?hr ?_;(case ho=>rfl);(case hg=>rfl);(case hn=>rfl);(case hr=>first|(go_simp;done)|(go_simp;rfl));intro w24 hw;have hg:w22.grownBy w24 (some go14):=(by rw [hw];exact HP23.2);have hp_:Kd.R (Kd.int .u32) 60 w24 w.heap.size (fun _=>True) (.slice (some ⟨go14,0,none⟩) x7_1.length co20) y136:=(by rw [hw,Ny136.out];exact HP23.1);clear HP23;have n0_:=Aside0.mk (hp_);have n1_:=Aside0.mk ((by rw [hw];exact below_set (HB.out) GB14.out:Below w.heap.size w w24));clear HO_7;clear HB;have HO_7:=n0_;have HB:=n1_;clear n0_ n1_;clear hg hw hp_))
             go_roundg k1
             case measure=>have:=HK1.out;omega
             case rel=>exact ⟨(y136),(ji16),(by first|rfl|(simp;done)|(simp only [← hji16] <;> (first|rfl|simp))|(simp [*];done)),H',⟨by have:=HK1.out;omega⟩,⟨by (with_reducible repeat (first|apply Kd.R_alloc|apply Kd.R_drewN|apply Kd.R_drew));exact HO_7.out⟩,⟨by repeat (first|(with_reducible first|exact HB.out|apply below_alloc|apply pw_below_drewN|apply below_drew1)|exact HB.out)⟩⟩
            ·rw [if_neg c18] at H
             exact absurd H (by simp)
           ·rw [if_neg c17] at H
            exact absurd H (by simp)
          ·rw [if_neg c15] at H
           have c15b0:decide ((wrap64 (x15_1+1))<a2)=false:=decide_eq_false c15
           clear c15
           have H':=Aside0.mk H
           clear H
           have p132:0≤(x15_1:Int):=of_decide_eq_true (by first|(with_reducible assumption)|assumption)
           have q132:x15_1<(l0.length:Int):=of_decide_eq_true (by first|(with_reducible assumption)|assumption)
           obtain ⟨ad132,e132,hx132_0⟩:=Kd.at_int HR0.out x15_1 p132 q132
           cases e132
           replace hx132_0:=(HB.out.cell (World.block_lt_of_cell? w _ hx132_0)).trans hx132_0
           replace p132:=eq_true p132
           replace q132:=eq_true q132
           obtain ⟨Ao25,co25,eo25⟩:=Kd.R_slice HO_7.out
           subst eo25
           have p133:0≤(x15_1:Int):=of_decide_eq_true (by first|(with_reducible assumption)|assumption)
           have q133:x15_1<(x7_1.length:Int):=of_decide_eq_true (by first|(with_reducible assumption)|assumption)
           obtain ⟨ad133,e133,hx133_0⟩:=Kd.at_int (Kd.R_reads' HO_7.out).2.2 x15_1 p133 q133
           cases e133
           replace p133:=eq_true p133
           replace q133:=eq_true q133
           have p14:0≤(x15_1:Int):=of_decide_eq_true (by first|(with_reducible assumption)|assumption)
           have q14:(x15_1:Int)<((x7_1.length:Int):Int):=of_decide_eq_true (by first|(with_reducible assumption)|assumption)
           obtain ⟨go14,co14,eo14,gb14,gl14,cl14,HG14⟩:=Kd.R_form HO_7.out (by omega)
           (first|cases eo14|(injection eo14 with ea_ en_ ec_;(first|subst ea_|(injection ea_ with ea_;subst ea_));subst ec_;clear en_))
           have GB14:=Aside0.mk gb14
           have GG14:=Aside0.mk HG14
           clear gb14 gl14 HG14
           (first|simp only [add_plain] at hx133_0|skip)
           obtain ⟨hx14_0,hf14_0⟩:=Kd.R_celln 0 HO_7.out (x15_1:Int) p14 q14
           replace p14:=eq_true p14
           replace q14:=eq_true q14
           have HP26:=Kd.R_putg HO_7.out (x15_1:Int) (Go.bits .or .u32 (rd x7_1 x15_1) ((ji12)%4294967296))
           go_wp2_with (first|((with_reducible refine gate_store (t:=60) (p:=31) rfl ?_);refine store_event (t:=60) (p:=31) (v:=?vo_w27) (w1:=(wr.setCell ⟨go14,(x15_1:Int).toNat,none⟩ (.int .u32 (Go.bits .or .u32 (rd x7_1 x15_1) ((ji12)%4294967296))))) ?hg ?ho ?hn ?hr ?_;(case ho=>rfl);(case hg=>rfl);(case hn=>rfl);(case hr=>first|(go_simp;done)|(go_simp;rfl));intro w27 hw;have hg:wr.grownBy w27 (some go14):=(by rw [hw];exact HP26.2);have hp_:Kd.R (Kd.int .u32) 60 w27 w.heap.size (fun _=>True) (.slice (some ⟨go14,0,none⟩) x7_1.length co25) y134:=(by rw [hw,Ny134.out];exact HP26.1);clear HP26;have n0_:=Aside0.mk (hp_);have n1_:=Aside0.mk ((by rw [hw];exact below_set (HB.out) GB14.out:Below w.heap.size w w27));clear HO_7;clear HB;have HO_7:=n0_;have HB:=n1_;clear n0_ n1_;clear hg hw hp_))
           go_roundg k1
           case measure=>have:=HK1.out;omega
           case rel=>exact ⟨(y134),(wrap64 (x15_1+1)),(by first|rfl|(simp;done)|(simp [*];done)),H',⟨by have:=HK1.out;omega⟩,⟨by (with_reducible repeat (first|apply Kd.R_alloc|apply Kd.R_drewN|apply Kd.R_drew));exact HO_7.out⟩,⟨by repeat (first|(with_reducible first|exact HB.out|apply below_alloc|apply pw_below_drewN|apply below_drew1)|exact HB.out)⟩⟩
         ·rw [if_neg c13] at H
          exact absurd H (by simp)
        ·rw [if_neg c11] at H
         exact absurd H (by simp)
       ·rw [if_neg c10] at H
        exact absurd H (by simp)
      ·rw [if_neg c9] at H
       exact absurd H (by simp)
     ·rw [if_neg c8] at H
      have c8b0:decide (x15_1<(l0.length:Int))=false:=decide_eq_false c8
      clear c8
      obtain rfl:=Option.some.inj H
      go_wp2
      go_ret
      exact ⟨_,by first|rfl|(simp [errW_none,errW_some] <;> rfl)|(simp [*,errW_none,errW_some] <;> rfl),by (with_reducible repeat (first|apply Kd.R_alloc|apply Kd.R_drewN|apply Kd.R_drew));exact HO_7.out,by repeat (first|(with_reducible first|exact HB.out|apply below_alloc|apply pw_below_drewN|apply below_drew1)|exact HB.out)⟩
  ·rw [if_neg c5] at H
   exact absurd H (by simp)
 ·rw [if_neg c4] at H
  exact absurd H (by simp)
end Go.Proofs.YtjaflmhdclmolaaDoor.F
end
section
namespace Go.Proofs.YtjaflmhdclmolaaDoor.F
open Go.RowKit Go.Proofs.YtjaflmhdclmolaaDoorW.PrintWords Go.Proofs.YtjaflmhdclmolaaDoorW.PrintLast Go.Proofs.YtjaflmhdclmolaaDoorW.PrintMore
attribute [local go_sem] max2_int min2_int max_two min_two max_three min_three max_four min_four   
set_option linter.unusedVariables false
set_option linter.unusedSimpArgs false
theorem Sub32.top (n:Nat) (h:n<2 ^ 32):n/2147483648=(n.testBit 31).toNat:=by
 rw [Nat.testBit_eq_decide_div_mod_eq]
 have:n/2 ^ 31<2:=by omega
 have h2:n/2147483648=n/2 ^ 31:=rfl
 rw [h2]
 rcases Nat.lt_or_ge (n/2 ^ 31) 1 with h3|h3
 ·have:n/2 ^ 31=0:=by omega
  rw [this];rfl
 ·have:n/2 ^ 31=1:=by omega
  rw [this];rfl
theorem Sub32.bit (n:Nat) (h:n<2 ^ 32):n.testBit 31=decide (2147483648≤n):=by
 rw [Nat.testBit_eq_decide_div_mod_eq]
 rw [decide_eq_decide]
 omega
theorem Sub32.bits_nat (a b:Nat) (ha:a<2 ^ 32) (hb:b<2 ^ 32) :
 bits .and .u32 a b=((a &&& b:Nat):Int)∧bits .or .u32 a b=((a ||| b:Nat):Int)∧bits .xor .u32 a b=((a ^^^ b:Nat):Int):=by
 have ha':a%2 ^ IntKind.u32.bits=a:=Nat.mod_eq_of_lt ha
 have hb':b%2 ^ IntKind.u32.bits=b:=Nat.mod_eq_of_lt hb
 have cast:∀ n:Nat,n<2 ^ 32→IntKind.u32.wrap ((n:Nat):Int)=n:=fun n h=>by rw [IntKind.wrap_u32];omega
 refine ⟨?_,?_,?_⟩
 ·simp only [bits,BitVec.ofInt_natCast,BitVec.toNat_and,BitVec.toNat_ofNat,ha',hb']
  exact cast _ (Nat.and_lt_two_pow a hb)
 ·simp only [bits,BitVec.ofInt_natCast,BitVec.toNat_or,BitVec.toNat_ofNat,ha',hb']
  exact cast _ (Nat.or_lt_two_pow ha hb)
 ·simp only [bits,BitVec.ofInt_natCast,BitVec.toNat_xor,BitVec.toNat_ofNat,ha',hb']
  exact cast _ (Nat.xor_lt_two_pow ha hb)
theorem Sub32.borrow (x y b:Nat) (hx:x<2 ^ 32) (hy:y<2 ^ 32) (hb:b≤1) (d:Nat) (hd:(d:Int)=((x:Int)-y-b)%4294967296) :
 (((4294967295 ^^^ x) &&& y) ||| ((4294967295 ^^^ (x ^^^ y)) &&& d))/2147483648=if x<y+b then 1 else 0:=by
 have hd2:d<2 ^ 32:=by omega
 have h1:((4294967295 ^^^ x) &&& y)<2 ^ 32:=Nat.and_lt_two_pow _ hy
 have h2:((4294967295 ^^^ (x ^^^ y)) &&& d)<2 ^ 32:=Nat.and_lt_two_pow _ hd2
 rw [Sub32.top _ (Nat.or_lt_two_pow h1 h2)]
 simp only [Nat.testBit_or,Nat.testBit_and,Nat.testBit_xor]
 rw [Sub32.bit x hx,Sub32.bit y hy,Sub32.bit d hd2,show Nat.testBit 4294967295 31=true by decide]
 by_cases c1:2147483648≤x <;> by_cases c2:2147483648≤y <;> by_cases c3:2147483648≤d <;> simp [c1,c2,c3] <;> omega
theorem Sub32.eq (x y b:Int) (hx0:0≤x) (hx:x<4294967296) (hy0:0≤y) (hy:y<4294967296) (hb0:0≤b) (hb:b≤1) :
 (bits BinOp.or IntKind.u32 (bits BinOp.and IntKind.u32 (bits BinOp.xor IntKind.u32 IntKind.u32.max x) y)
  (bits BinOp.and IntKind.u32
   (bits BinOp.xor IntKind.u32 IntKind.u32.max (bits BinOp.xor IntKind.u32 x y))
   ((x-y-b)%4294967296)) /
  2147483648)=if x<y+b then 1 else 0:=by
 obtain ⟨x,rfl⟩:=Int.eq_ofNat_of_zero_le hx0
 obtain ⟨y,rfl⟩:=Int.eq_ofNat_of_zero_le hy0
 obtain ⟨b,rfl⟩:=Int.eq_ofNat_of_zero_le hb0
 obtain ⟨d,hd⟩:∃ d:Nat,(d:Int)=((x:Int)-y-b)%4294967296:=⟨(((x:Int)-y-b)%4294967296).toNat,by omega⟩
 have hm:IntKind.u32.max=((4294967295:Nat):Int):=by decide
 have hx':x<2 ^ 32:=by omega
 have hy':y<2 ^ 32:=by omega
 have hd':d<2 ^ 32:=by omega
 rw [← hd,hm,(Sub32.bits_nat _ x (by decide) hx').2.2,(Sub32.bits_nat x y hx' hy').2.2,(Sub32.bits_nat _ (x ^^^ y) (by decide) (Nat.xor_lt_two_pow hx' hy')).2.2]
 rw [(Sub32.bits_nat _ y (Nat.xor_lt_two_pow (by decide) hx') hy').1,(Sub32.bits_nat _ d (Nat.xor_lt_two_pow (by decide) (Nat.xor_lt_two_pow hx' hy')) hd').1,(Sub32.bits_nat _ _ (Nat.and_lt_two_pow _ hy') (Nat.and_lt_two_pow _ hd')).2.1]
 have:=Sub32.borrow x y b hx' hy' (by omega) d hd
 have e:((((4294967295 ^^^ x) &&& y) ||| ((4294967295 ^^^ (x ^^^ y)) &&& d):Nat):Int)/2147483648=(((((4294967295 ^^^ x) &&& y) ||| ((4294967295 ^^^ (x ^^^ y)) &&& d))/2147483648:Nat):Int):=by omega
 rw [e,this]
 split <;> split <;> omega
def bits_Sub32.f (a0:Int) (a1:Int) (a2:Int):Option (Int×Int):=if 0≤a0∧a0<4294967296∧0≤a1∧a1<4294967296∧0≤a2∧a2≤1 then some ((a0-a1-a2)%4294967296,if a0<a1+a2 then 1 else 0) else none
theorem bits_Sub32.calls (a0:Int) (a1:Int) (a2:Int) (r1:Int) (r2:Int) (w:World) (h:bits_Sub32.f a0 a1 a2=some (r1,r2)) :
 Calls Tryd.prog 81 #[.int .u32 a0,.int .u32 a1,.int .u32 a2] w fun e w'=>e = .returned (.tuple #[.int .u32 r1,.int .u32 r2])∧Drawn0 w w':=by
 unfold bits_Sub32.f at h
 by_cases h1:0≤a0∧a0<4294967296∧0≤a1∧a1<4294967296∧0≤a2∧a2≤1
 ·rw [if_pos h1] at h
  obtain ⟨e1,e2⟩:=Prod.mk.inj (Option.some.inj h)
  obtain ⟨p0,p1,p2,p3,p4,p5⟩:=h1
  clear h
  have HE:=Aside0.mk (Sub32.eq a0 a1 a2 p0 p1 p2 p3 p4 p5)
  have E1:=Aside0.mk e1
  have E2:=Aside0.mk e2
  clear e1 e2
  have hsg:IntKind.u32.signed=false:=rfl
  go_enter Tryd.func81,Tryd.ntmps81
  go_wp2
  go_ret2
  refine ⟨?_,Drawn0.refl _⟩
  rw [← E1.out,← E2.out,← HE.out]
  have e3:((a0-a1)%4294967296-a2)%4294967296=(a0-a1-a2)%4294967296:=by omega
  rw [← e3]
  first|rfl|(rw [e3];rfl)|(simp [e3];done)
 ·rw [if_neg h1] at h
  exact absurd h (by simp)
end Go.Proofs.YtjaflmhdclmolaaDoor.F
end
section
namespace Go.Proofs.YtjaflmhdclmolaaDoor.F
open Go.RowKit Go.Proofs.YtjaflmhdclmolaaDoorW.PrintWords Go.Proofs.YtjaflmhdclmolaaDoorW.PrintLast Go.Proofs.YtjaflmhdclmolaaDoorW.PrintMore
attribute [local go_sem] max2_int min2_int max_two min_two max_three min_three max_four min_four   
set_option linter.unusedVariables false
set_option linter.unusedSimpArgs false
def Wd.R (e:Nat) (pre post:List Value) (w:World) (base:Nat) (ok:Nat→Prop) (v:Value) (xs:List Int):Prop:=
 (∀ k,v.ownBlock=some k→ok k) ∧ ∃ g cap,v = .slice (some ⟨g,pre.length,none⟩) xs.length cap∧base≤g∧xs.length≤cap∧cap≤maxLen∧w.heap[g]?=some (.cells (pre ++ nums .u32 xs ++ post).toArray e (0,0))
theorem Wd.add_off (g o j:Nat):(⟨g,o,none⟩:Addr).add j=⟨g,o+j,none⟩:=by unfold Addr.add;split <;> simp_all
theorem Wd.R_mono {e:Nat} {pre post:List Value} {w:World} {base:Nat} {ok ok':Nat→Prop} {v:Value} {xs:List Int} (h:Wd.R e pre post w base ok v xs) (hok:∀ k,ok k→ok' k):Wd.R e pre post w base ok' v xs:=⟨fun k hk=>hok k (h.1 k hk),h.2⟩
theorem Wd.R_below {e:Nat} {pre post:List Value} {w w1:World} {base:Nat} {ok:Nat→Prop} {v:Value} {xs:List Int} (h:Wd.R e pre post w base ok v xs) (hb:Below w.heap.size w w1):Wd.R e pre post w1 base ok v xs:=by
 obtain ⟨h0,g,cap,hv,hg,hl,hm,hh⟩:=h
 exact ⟨h0,g,cap,hv,hg,hl,hm,(hb.block g (blk_lt hh)).trans hh⟩
theorem Wd.R_alloc {e:Nat} {pre post:List Value} {w:World} {base:Nat} {ok:Nat→Prop} {v:Value} {xs:List Int} (h:Wd.R e pre post w base ok v xs) (o:Obj):Wd.R e pre post (w.alloc o) base ok v xs:=Wd.R_below h (below_alloc (Below.refl _ _) o)
theorem Wd.R_drew {e:Nat} {pre post:List Value} {w:World} {base:Nat} {ok:Nat→Prop} {v:Value} {xs:List Int} (h:Wd.R e pre post w base ok v xs):Wd.R e pre post w.drew base ok v xs:=Wd.R_below h (below_drew (Below.refl _ _))
theorem Wd.R_drewN {e:Nat} {pre post:List Value} {w:World} {base:Nat} {ok:Nat→Prop} {v:Value} {xs:List Int} (h:Wd.R e pre post w base ok v xs) (m:Nat):Wd.R e pre post (w.drewN m) base ok v xs:=Wd.R_below h (pw_below_drewN (Below.refl _ _) m)
theorem Wd.R_at {e:Nat} {pre post:List Value} {w w':World} {m:Nat} {base:Nat} {ok:Nat→Prop} {v:Value} {xs:List Int} (hq:w.drewN m=w') (h:Wd.R e pre post w base ok v xs):Wd.R e pre post w' base ok v xs:=by subst hq;exact Wd.R_drewN h m
theorem Wd.R_slice {e:Nat} {pre post:List Value} {w:World} {base:Nat} {ok:Nat→Prop} {v:Value} {xs:List Int} (h:Wd.R e pre post w base ok v xs):∃ A c,v = .slice A xs.length c:=by
 obtain ⟨_,g,cap,hv,_⟩:=h
 exact ⟨_,_,hv⟩
theorem Wd.cell {e g:Nat} {pre post:List Value} {xs:List Int} {w:World} (hh:w.heap[g]?=some (.cells (pre ++ nums .u32 xs ++ post).toArray e (0,0))) (j:Nat) (hj:j<xs.length):w.cell? ⟨g,pre.length+j,none⟩=some (.int .u32 (xs.getD j 0)):=by
 have hn:j<(nums .u32 xs).length:=by unfold nums;rw [List.length_map];exact hj
 have e2:(pre ++ nums .u32 xs ++ post).toArray[pre.length+j]?=some (.int .u32 (xs.getD j 0)):=by
  rw [List.getElem?_toArray,List.append_assoc,List.getElem?_append_right (by omega),Nat.add_sub_cancel_left,List.getElem?_append_left hn]
  unfold nums
  rw [List.getElem?_map,List.getElem?_eq_getElem hj,List.getD_eq_getElem?_getD,List.getElem?_eq_getElem hj]
  rfl
 simp only [World.cell?,hh,e2]
 rfl
theorem Wd.free {e g:Nat} {pre post:List Value} {xs:List Int} {w:World} (hh:w.heap[g]?=some (.cells (pre ++ nums .u32 xs ++ post).toArray e (0,0))) (j:Nat):w.frozen? ⟨g,j,none⟩=false:=by
 simp [World.frozen?,hh]
theorem Wd.R_reads' {e:Nat} {pre post:List Value} {w:World} {base:Nat} {ok:Nat→Prop} {A:Option Addr} {n c:Nat} {xs:List Int} (h:Wd.R e pre post w base ok (.slice A n c) xs):n=xs.length∧n≤c∧(Kd.int .u32).C w A xs.length xs:=by
 obtain ⟨_,g,cap,hv,_,hl,hm,hh⟩:=h
 injection hv with h1 h2 h3
 subst h1 h2 h3
 refine ⟨rfl,hl,rfl,by unfold maxLen at hm;omega,fun _=>⟨_,rfl,fun j p hp=>⟨[.int .u32 p],rfl,rfl,fun i u hu=>?_⟩⟩⟩
 have hj:j<xs.length:=(List.getElem?_eq_some_iff.1 hp).1
 cases i with
 | zero=>
  have hu':u = .int .u32 p:=by simpa using hu.symm
  rw [hu',Wd.add_off,show j*(Kd.int .u32).sz+0=j from by show j*1+0=j;omega,Wd.cell hh j hj,List.getD_eq_getElem?_getD,hp]
  rfl
 | succ i=>simp at hu
theorem Wd.R_form {e:Nat} {pre post:List Value} {w:World} {base:Nat} {ok:Nat→Prop} {v:Value} {xs:List Int} (h:Wd.R e pre post w base ok v xs) (_hp:0<xs.length):∃ g cap,v = .slice (some ⟨g,pre.length,none⟩) xs.length cap∧base≤g∧g<w.heap.size ∧ ∃ cells,w.heap[g]?=some (.cells cells e (0,0)):=by
 obtain ⟨_,g,cap,hv,hg,hl,hm,hh⟩:=h
 exact ⟨g,cap,hv,hg,blk_lt hh,_,hh⟩
theorem Wd.R_celln {e g n cap base:Nat} {pre post:List Value} {W:World} {ok:Nat→Prop} {xs:List Int} (d:Int) (h:Wd.R e pre post W base ok (.slice (some ⟨g,pre.length,none⟩) n cap) xs) (i:Int) (h0:0≤i) (hi:i<n):W.cell? ⟨g,pre.length+i.toNat,none⟩=some (.int .u32 (rdOf d xs i))∧W.frozen? ⟨g,pre.length+i.toNat,none⟩=false:=by
 obtain ⟨_,g',cap',hv,hg,hl,hm,hh⟩:=h
 injection hv with h1 h2 h3
 injection h1 with h1
 injection h1 with h1
 subst h1 h2 h3
 have hj:i.toNat<xs.length:=by omega
 refine ⟨?_,Wd.free hh _⟩
 rw [Wd.cell hh i.toNat hj]
 unfold rdOf
 rw [List.getD_eq_getElem?_getD,List.getD_eq_getElem?_getD,List.getElem?_eq_getElem hj]
 rfl
theorem Wd.R_putg {e g n cap base:Nat} {pre post:List Value} {W:World} {ok:Nat→Prop} {xs:List Int} (h:Wd.R e pre post W base ok (.slice (some ⟨g,pre.length,none⟩) n cap) xs) (i:Int) (h0:0≤i) (hi:i<xs.length) (x:Int):Wd.R e pre post (W.setCell ⟨g,pre.length+i.toNat,none⟩ (.int .u32 x)) base ok (.slice (some ⟨g,pre.length,none⟩) n cap) (xs.set i.toNat x)∧W.grownBy (W.setCell ⟨g,pre.length+i.toNat,none⟩ (.int .u32 x)) (some g):=by
 obtain ⟨hk,g',cap',hv,hg,hl,hm,hh⟩:=h
 injection hv with h1 h2 h3
 injection h1 with h1
 injection h1 with h1
 subst h1 h2 h3
 have hj:i.toNat<xs.length:=by omega
 refine ⟨⟨hk,g,cap,by rw [List.length_set],hg,by rw [List.length_set];exact hl,hm,?_⟩,?_⟩
 ·rw [heap_setCell_same W g _ _ e (.int .u32 x) hh]
  congr 2
  apply Array.ext'
  rw [Array.toList_setIfInBounds]
  have hn:i.toNat<(nums .u32 xs).length:=by unfold nums;rw [List.length_map];exact hj
  have e1:(pre ++ nums .u32 (xs.set i.toNat x) ++ post)=(pre ++ nums .u32 xs ++ post).set (pre.length+i.toNat) (.int .u32 x):=by
   rw [List.append_assoc,List.append_assoc,List.set_append_right _ _ (by omega),Nat.add_sub_cancel_left,List.set_append_left _ _ hn]
   simp [nums,List.map_set]
  rw [e1]
 ·exact ⟨rfl,rfl,rfl,by simp,fun k _ hk=>heap_setCell_other W ⟨g,_,none⟩ k _ (fun e=>hk (by simp [e]))⟩
mutual
def natural_step.j2:Nat→List Int→List Int→Int→Int→Option (Int×List Int)
 | 0,_,_,_,_=>none
 | k+1,x0,x1,x5,x7=>natural_step.l1 k x0 x1 x5 x7 0 0 x1 (x1.length:Int) 0
def natural_step.l1:Nat→List Int→List Int→Int→Int→Int→Int→List Int→Int→Int→Option (Int×List Int)
 | 0,_,_,_,_,_,_,_,_,_=>none
 | k+1,x0,x1,x5,x7,x9,x10,x82,x83,x84=>if x84<x83 then (if 0≤x84 then (if x84<(x82.length:Int) then (if x84<(x0.length:Int) then ((bits_Sub32.f (rd x0 x84) ((IntKind.u64.wrap ((IntKind.u64.wrap (x7*(IntKind.u64.wrap (rd x82 x84))))+x9))%4294967296) x10).bind fun bt146=>(natural_step.l1 k (x0.set (x84:Int).toNat bt146.1) x1 x5 x7 ((IntKind.u64.wrap ((IntKind.u64.wrap (x7*(IntKind.u64.wrap (rd x82 x84))))+x9))/4294967296) bt146.2 x82 x83 (wrap64 (x84+1)))) else (none)) else (none)) else (none)) else (if 0≤x5 then (if x5<(x0.length:Int) then ((bits_Sub32.f (rd x0 x5) ((x9)%4294967296) x10).bind fun bt150=>((some (x0.set (x5:Int).toNat bt150.1:List Int)).bind fun y152=>(if bt150.2=0 then (some ((x7)%4294967296,y152)) else (natural_step.l2 k y152 x5 x7 0 x1 (x1.length:Int) 0)))) else (none)) else (none))
def natural_step.l2:Nat→List Int→Int→Int→Int→List Int→Int→Int→Option (Int×List Int)
 | 0,_,_,_,_,_,_,_=>none
 | k+1,x0,x5,x7,x14,x130,x131,x132=>if x132<x131 then (if 0≤x132 then (if x132<(x130.length:Int) then (if x132<(x0.length:Int) then ((bits_Add32.f (rd x0 x132) (rd x130 x132) x14).bind fun bt155=>(natural_step.l2 k (x0.set (x132:Int).toNat bt155.1) x5 x7 bt155.2 x130 x131 (wrap64 (x132+1)))) else (none)) else (none)) else (none)) else (if 0≤x5 then (if x5<(x0.length:Int) then (some ((IntKind.u64.wrap (x7-1))%4294967296,(x0.set (x5:Int).toNat (((rd x0 x5)+x14)%4294967296)))) else (none)) else (none))
def natural_step.l0:Nat→List Int→List Int→Int→Int→Int→Option (Int×List Int)
 | 0,_,_,_,_,_=>none
 | k+1,x0,x1,x5,x7,x8=>if x7≥4294967296 then (natural_step.j1 k x0 x1 x5 x7 x8 true) else (if 0≤(wrap64 (x5-2)) then (if (wrap64 (x5-2))<(x1.length:Int) then (if (wrap64 (x5-2))<(x0.length:Int) then (natural_step.j1 k x0 x1 x5 x7 x8 (decide ((IntKind.u64.wrap (x7*(IntKind.u64.wrap (rd x1 (wrap64 (x5-2))))))>(Go.bits .or .u64 (IntKind.u64.wrap (x8*4294967296)) (IntKind.u64.wrap (rd x0 (wrap64 (x5-2)))))))) else (none)) else (none)) else (none))
def natural_step.j1:Nat→List Int→List Int→Int→Int→Int→Bool→Option (Int×List Int)
 | 0,_,_,_,_,_,_=>none
 | k+1,x0,x1,x5,x7,x8,x69=>if x69=true then (if 0≤(wrap64 (x5-1)) then (if (wrap64 (x5-1))<(x1.length:Int) then (if (IntKind.u64.wrap (x8+(IntKind.u64.wrap (rd x1 (wrap64 (x5-1))))))≥4294967296 then (natural_step.j2 k x0 x1 x5 (IntKind.u64.wrap (x7-1))) else (natural_step.l0 k x0 x1 x5 (IntKind.u64.wrap (x7-1)) (IntKind.u64.wrap (x8+(IntKind.u64.wrap (rd x1 (wrap64 (x5-1)))))))) else (none)) else (none)) else (natural_step.j2 k x0 x1 x5 x7)
end
def natural_step.f (k:Nat) (l0:List Int) (l1:List Int):Option (Int×List Int):=if 0≤(l1.length:Int) then (if (l1.length:Int)<(l0.length:Int) then (if 0≤(wrap64 ((l1.length:Int)-1)) then (if (wrap64 ((l1.length:Int)-1))<(l0.length:Int) then (if (wrap64 ((l1.length:Int)-1))<(l1.length:Int) then (if (IntKind.u64.wrap (rd l1 (wrap64 ((l1.length:Int)-1))))=0 then (none) else (natural_step.l0 k l0 l1 (l1.length:Int) (IntKind.u64.wrap (Int.tdiv (Go.bits .or .u64 (IntKind.u64.wrap ((IntKind.u64.wrap (rd l0 (l1.length:Int)))*4294967296)) (IntKind.u64.wrap (rd l0 (wrap64 ((l1.length:Int)-1))))) (IntKind.u64.wrap (rd l1 (wrap64 ((l1.length:Int)-1)))))) (Int.tmod (Go.bits .or .u64 (IntKind.u64.wrap ((IntKind.u64.wrap (rd l0 (l1.length:Int)))*4294967296)) (IntKind.u64.wrap (rd l0 (wrap64 ((l1.length:Int)-1))))) (IntKind.u64.wrap (rd l1 (wrap64 ((l1.length:Int)-1))))))) else (none)) else (none)) else (none)) else (none)) else (none)
theorem natural_step.mono_l:∀ k,(∀ y0 y1 y2 y3,LeO (natural_step.j2 k y0 y1 y2 y3) (natural_step.j2 (k+1) y0 y1 y2 y3))∧(∀ y0 y1 y2 y3 y4 y5 y6 y7 y8,LeO (natural_step.l1 k y0 y1 y2 y3 y4 y5 y6 y7 y8) (natural_step.l1 (k+1) y0 y1 y2 y3 y4 y5 y6 y7 y8))∧(∀ y0 y1 y2 y3 y4 y5 y6,LeO (natural_step.l2 k y0 y1 y2 y3 y4 y5 y6) (natural_step.l2 (k+1) y0 y1 y2 y3 y4 y5 y6))∧(∀ y0 y1 y2 y3 y4,LeO (natural_step.l0 k y0 y1 y2 y3 y4) (natural_step.l0 (k+1) y0 y1 y2 y3 y4))∧(∀ y0 y1 y2 y3 y4 y5,LeO (natural_step.j1 k y0 y1 y2 y3 y4 y5) (natural_step.j1 (k+1) y0 y1 y2 y3 y4 y5))
 | 0=>⟨fun _ _ _ _ r h=>by simp [natural_step.j2] at h,fun _ _ _ _ _ _ _ _ _ r h=>by simp [natural_step.l1] at h,fun _ _ _ _ _ _ _ r h=>by simp [natural_step.l2] at h,fun _ _ _ _ _ r h=>by simp [natural_step.l0] at h,fun _ _ _ _ _ _ r h=>by simp [natural_step.j1] at h⟩
 | k+1=>by
  obtain ⟨ih0,ih1,ih2,ih3,ih4⟩:=natural_step.mono_l k
  refine ⟨?_,?_,?_,?_,?_⟩
  ·intro y0 y1 y2 y3
   unfold natural_step.j2
   repeat' first
   | (with_reducible exact ih0 _ _ _ _)
   | (with_reducible exact ih1 _ _ _ _ _ _ _ _ _)
   | (with_reducible exact ih2 _ _ _ _ _ _ _)
   | (with_reducible exact ih3 _ _ _ _ _)
   | (with_reducible exact ih4 _ _ _ _ _ _)
   | (with_reducible exact LeO.refl _)
   | (with_reducible exact LeO.none _)
   | (with_reducible refine LeO.ite ?_ ?_)
   | (with_reducible refine LeO.bind ?_ (fun _=>?_))
   | exact ih0 _ _ _ _
   | exact ih1 _ _ _ _ _ _ _ _ _
   | exact ih2 _ _ _ _ _ _ _
   | exact ih3 _ _ _ _ _
   | exact ih4 _ _ _ _ _ _
   | exact LeO.none _
   | refine LeO.ite ?_ ?_
   | refine LeO.bind ?_ (fun _=>?_)
  ·intro y0 y1 y2 y3 y4 y5 y6 y7 y8
   unfold natural_step.l1
   repeat' first
   | (with_reducible exact ih0 _ _ _ _)
   | (with_reducible exact ih1 _ _ _ _ _ _ _ _ _)
   | (with_reducible exact ih2 _ _ _ _ _ _ _)
   | (with_reducible exact ih3 _ _ _ _ _)
   | (with_reducible exact ih4 _ _ _ _ _ _)
   | (with_reducible exact LeO.refl _)
   | (with_reducible exact LeO.none _)
   | (with_reducible refine LeO.ite ?_ ?_)
   | (with_reducible refine LeO.bind ?_ (fun _=>?_))
   | exact ih0 _ _ _ _
   | exact ih1 _ _ _ _ _ _ _ _ _
   | exact ih2 _ _ _ _ _ _ _
   | exact ih3 _ _ _ _ _
   | exact ih4 _ _ _ _ _ _
   | exact LeO.none _
   | refine LeO.ite ?_ ?_
   | refine LeO.bind ?_ (fun _=>?_)
  ·intro y0 y1 y2 y3 y4 y5 y6
   unfold natural_step.l2
   repeat' first
   | (with_reducible exact ih0 _ _ _ _)
   | (with_reducible exact ih1 _ _ _ _ _ _ _ _ _)
   | (with_reducible exact ih2 _ _ _ _ _ _ _)
   | (with_reducible exact ih3 _ _ _ _ _)
   | (with_reducible exact ih4 _ _ _ _ _ _)
   | (with_reducible exact LeO.refl _)
   | (with_reducible exact LeO.none _)
   | (with_reducible refine LeO.ite ?_ ?_)
   | (with_reducible refine LeO.bind ?_ (fun _=>?_))
   | exact ih0 _ _ _ _
   | exact ih1 _ _ _ _ _ _ _ _ _
   | exact ih2 _ _ _ _ _ _ _
   | exact ih3 _ _ _ _ _
   | exact ih4 _ _ _ _ _ _
   | exact LeO.none _
   | refine LeO.ite ?_ ?_
   | refine LeO.bind ?_ (fun _=>?_)
  ·intro y0 y1 y2 y3 y4
   unfold natural_step.l0
   repeat' first
   | (with_reducible exact ih0 _ _ _ _)
   | (with_reducible exact ih1 _ _ _ _ _ _ _ _ _)
   | (with_reducible exact ih2 _ _ _ _ _ _ _)
   | (with_reducible exact ih3 _ _ _ _ _)
   | (with_reducible exact ih4 _ _ _ _ _ _)
   | (with_reducible exact LeO.refl _)
   | (with_reducible exact LeO.none _)
   | (with_reducible refine LeO.ite ?_ ?_)
   | (with_reducible refine LeO.bind ?_ (fun _=>?_))
   | exact ih0 _ _ _ _
   | exact ih1 _ _ _ _ _ _ _ _ _
   | exact ih2 _ _ _ _ _ _ _
   | exact ih3 _ _ _ _ _
   | exact ih4 _ _ _ _ _ _
   | exact LeO.none _
   | refine LeO.ite ?_ ?_
   | refine LeO.bind ?_ (fun _=>?_)
  ·intro y0 y1 y2 y3 y4 y5
   unfold natural_step.j1
   repeat' first
   | (with_reducible exact ih0 _ _ _ _)
   | (with_reducible exact ih1 _ _ _ _ _ _ _ _ _)
   | (with_reducible exact ih2 _ _ _ _ _ _ _)
   | (with_reducible exact ih3 _ _ _ _ _)
   | (with_reducible exact ih4 _ _ _ _ _ _)
   | (with_reducible exact LeO.refl _)
   | (with_reducible exact LeO.none _)
   | (with_reducible refine LeO.ite ?_ ?_)
   | (with_reducible refine LeO.bind ?_ (fun _=>?_))
   | exact ih0 _ _ _ _
   | exact ih1 _ _ _ _ _ _ _ _ _
   | exact ih2 _ _ _ _ _ _ _
   | exact ih3 _ _ _ _ _
   | exact ih4 _ _ _ _ _ _
   | exact LeO.none _
   | refine LeO.ite ?_ ?_
   | refine LeO.bind ?_ (fun _=>?_)
theorem natural_step.mono:∀ a0 a1 k,LeO (natural_step.f k a0 a1) (natural_step.f (k+1) a0 a1):=by
 intro a0 a1 k
 obtain ⟨ih0,ih1,ih2,ih3,ih4⟩:=natural_step.mono_l k
 unfold natural_step.f
 repeat' first
  | (with_reducible exact ih0 _ _ _ _)
  | (with_reducible exact ih1 _ _ _ _ _ _ _ _ _)
  | (with_reducible exact ih2 _ _ _ _ _ _ _)
  | (with_reducible exact ih3 _ _ _ _ _)
  | (with_reducible exact ih4 _ _ _ _ _ _)
  | (with_reducible exact LeO.refl _)
  | (with_reducible exact LeO.none _)
  | (with_reducible refine LeO.ite ?_ ?_)
  | (with_reducible refine LeO.bind ?_ (fun _=>?_))
  | exact ih0 _ _ _ _
  | exact ih1 _ _ _ _ _ _ _ _ _
  | exact ih2 _ _ _ _ _ _ _
  | exact ih3 _ _ _ _ _
  | exact ih4 _ _ _ _ _ _
  | exact LeO.none _
  | refine LeO.ite ?_ ?_
  | refine LeO.bind ?_ (fun _=>?_)
set_option maxHeartbeats 8000000 in
set_option maxRecDepth 100000 in
theorem natural_step.calls (k:Nat) (pre_ post_:List Value) (P0_:Nat→Prop) (u9000_:Value) (l0:List Int) (A1:Option Addr) (c1:Nat) (l1:List Int) (r1:Int) (r2:List Int) (w0 w:World) (hB:Below w0.heap.size w0 w) (ho0:Wd.R 60 pre_ post_ w w0.heap.size P0_ u9000_ l0) (hr1:∀ W_,Kept w W_ (fun k_=>P0_ k_)→Kd.C (Kd.int .u32) W_ A1 l1.length l1) (hc1:l1.length≤c1) (h:natural_step.f k l0 l1=some (r1,r2)) :
 Calls Tryd.prog 72 #[u9000_,.slice A1 l1.length c1] w fun e w'=>e = .returned (.int .u32 r1)∧Wd.R 60 pre_ post_ w' w0.heap.size (fun k_=>(P0_ k_∨w.heap.size≤k_)) u9000_ r2∧Below w0.heap.size w0 w'∧Kept w w' (fun k_=>P0_ k_):=by
 have HO0:=Aside0.mk (show Wd.R 60 pre_ post_ w w0.heap.size (fun k_=>(P0_ k_∨w.heap.size≤k_)) u9000_ l0 from Wd.R_mono ho0 (fun k_ hk=>(.inl hk)))
 have HR1:=Aside0.mk hr1
 have HC1:=Aside0.mk hc1
 clear hr1 hc1
 have HK:=Aside0.mk (Kept.refl w (fun k_=>P0_ k_))
 have HW0:=Aside0.mk hB.size
 have HB:=Aside0.mk hB
 clear hB
 have H:(if 0≤(l1.length:Int) then (if (l1.length:Int)<(l0.length:Int) then (if 0≤(wrap64 ((l1.length:Int)-1)) then (if (wrap64 ((l1.length:Int)-1))<(l0.length:Int) then (if (wrap64 ((l1.length:Int)-1))<(l1.length:Int) then (if (IntKind.u64.wrap (rd l1 (wrap64 ((l1.length:Int)-1))))=0 then (none) else (natural_step.l0 k l0 l1 (l1.length:Int) (IntKind.u64.wrap (Int.tdiv (Go.bits .or .u64 (IntKind.u64.wrap ((IntKind.u64.wrap (rd l0 (l1.length:Int)))*4294967296)) (IntKind.u64.wrap (rd l0 (wrap64 ((l1.length:Int)-1))))) (IntKind.u64.wrap (rd l1 (wrap64 ((l1.length:Int)-1)))))) (Int.tmod (Go.bits .or .u64 (IntKind.u64.wrap ((IntKind.u64.wrap (rd l0 (l1.length:Int)))*4294967296)) (IntKind.u64.wrap (rd l0 (wrap64 ((l1.length:Int)-1))))) (IntKind.u64.wrap (rd l1 (wrap64 ((l1.length:Int)-1))))))) else (none)) else (none)) else (none)) else (none)) else (none))=some (r1,r2):=h
 clear h
 by_cases c3:0≤(l1.length:Int)
 ·rw [if_pos c3] at H
  have c3b0:decide (0≤(l1.length:Int))=true:=decide_eq_true c3
  have c3b1:decide (0≤l1.length)=true:=decide_eq_true (by omega)
  clear c3
  by_cases c4:(l1.length:Int)<(l0.length:Int)
  ·rw [if_pos c4] at H
   have c4b0:decide ((l1.length:Int)<(l0.length:Int))=true:=decide_eq_true c4
   have c4b1:decide (l1.length<l0.length)=true:=decide_eq_true (Int.ofNat_lt.mp c4)
   clear c4
   obtain ⟨ji5,hji5⟩:∃ j_:Int,(wrap64 ((l1.length:Int)-1))=j_:=⟨_,rfl⟩
   replace H:(if 0≤(ji5) then (if (ji5)<(l0.length:Int) then (if (ji5)<(l1.length:Int) then (if (IntKind.u64.wrap (rd l1 (ji5)))=0 then (none) else (natural_step.l0 k l0 l1 (l1.length:Int) (IntKind.u64.wrap (Int.tdiv (Go.bits .or .u64 (IntKind.u64.wrap ((IntKind.u64.wrap (rd l0 (l1.length:Int)))*4294967296)) (IntKind.u64.wrap (rd l0 (ji5)))) (IntKind.u64.wrap (rd l1 (ji5))))) (Int.tmod (Go.bits .or .u64 (IntKind.u64.wrap ((IntKind.u64.wrap (rd l0 (l1.length:Int)))*4294967296)) (IntKind.u64.wrap (rd l0 (ji5)))) (IntKind.u64.wrap (rd l1 (ji5)))))) else (none)) else (none)) else (none))=some (r1,r2):=by first|(rw [hji5] at H;exact H)|(simp only [hji5] at H ⊢;exact H)
   have hji5w:(IntKind.i64.wrap ((l1.length:Int)-1))=ji5:=(i64_w _).trans hji5
   by_cases c6:0≤(ji5)
   ·rw [if_pos c6] at H
    have c6b0:decide (0≤(ji5))=true:=decide_eq_true c6
    clear c6
    by_cases c7:(ji5)<(l0.length:Int)
    ·rw [if_pos c7] at H
     have c7b0:decide ((ji5)<(l0.length:Int))=true:=decide_eq_true c7
     clear c7
     by_cases c8:(ji5)<(l1.length:Int)
     ·rw [if_pos c8] at H
      have c8b0:decide ((ji5)<(l1.length:Int))=true:=decide_eq_true c8
      clear c8
      by_cases c9:(IntKind.u64.wrap (rd l1 (ji5)))=0
      ·rw [if_pos c9] at H
       exact absurd H (by simp)
      ·rw [if_neg c9] at H
       have c9b0:((IntKind.u64.wrap (rd l1 (ji5))) == 0)=false:=beq_eq_false_iff_ne.mpr c9
       have c9b1:((IntKind.u64.wrap (rd l1 (ji5))) != 0)=true:=bne_iff_ne.mpr c9
       have HC10:=Aside0.mk H
       clear H
       obtain ⟨Ao11,co11,eo11⟩:=Wd.R_slice HO0.out
       subst eo11
       have p137:0≤((l1.length:Int):Int):=of_decide_eq_true (by first|(with_reducible assumption)|assumption)
       have q137:(l1.length:Int)<(l0.length:Int):=of_decide_eq_true (by first|(with_reducible assumption)|assumption)
       obtain ⟨ad137,e137,hx137_0⟩:=Kd.at_int (Wd.R_reads' HO0.out).2.2 (l1.length:Int) p137 q137
       cases e137
       (try simp only [Go.IntWalk.toNatUp] at hx137_0)
       replace p137:=eq_true p137
       replace q137:=eq_true q137
       have p138:0≤((ji5):Int):=of_decide_eq_true (by first|(with_reducible assumption)|assumption)
       have q138:(ji5)<(l0.length:Int):=of_decide_eq_true (by first|(with_reducible assumption)|assumption)
       obtain ⟨ad138,e138,hx138_0⟩:=Kd.at_int (Wd.R_reads' HO0.out).2.2 (ji5) p138 q138
       obtain rfl:ad137=ad138:=(by injection e138)
       replace p138:=eq_true p138
       replace q138:=eq_true q138
       have p139:0≤((ji5):Int):=of_decide_eq_true (by first|(with_reducible assumption)|assumption)
       have q139:(ji5)<(l1.length:Int):=of_decide_eq_true (by first|(with_reducible assumption)|assumption)
       obtain ⟨ad139,e139,hx139_0⟩:=Kd.at_int (Kd.C_kept_now HR1.out HK.out) (ji5) p139 q139
       cases e139
       replace p139:=eq_true p139
       replace q139:=eq_true q139
       have p140:0≤((ji5):Int):=of_decide_eq_true (by first|(with_reducible assumption)|assumption)
       have q140:(ji5)<(l1.length:Int):=of_decide_eq_true (by first|(with_reducible assumption)|assumption)
       obtain ⟨ad140,e140,hx140_0⟩:=Kd.at_int (Kd.C_kept_now HR1.out HK.out) (ji5) p140 q140
       obtain rfl:ad139=ad140:=(by injection e140)
       replace p140:=eq_true p140
       replace q140:=eq_true q140
       go_enter Tryd.func72,Tryd.ntmps72
       go_upto_block 0 with (fail)
       repeat (go_quiet (fail);go_upto_block 0 with (fail))
       go_cut [7] (fun v7 wc=>∃ (kq:Nat) (x7_9:Int),v7 = .int .u64 x7_9∧Aside0 (natural_step.j2 kq l0 l1 (l1.length:Int) x7_9=some (r1,r2))∧Aside0 (kq≤k)∧Aside0 (Wd.R 60 pre_ post_ wc w0.heap.size (fun k_=>(P0_ k_∨w.heap.size≤k_)) (.slice (some ad137) l0.length co11) l0)∧Aside0 (Kept w wc (fun k_=>P0_ k_))∧Aside0 (Below w0.heap.size w0 wc))
       case first=>
        have H:=HC10.out
        clear HC10
        have H':=Aside0.mk H
        clear H
        go_wp2
        repeat (go_quiet (fail);try go_wp2)
        go_loopg [7,8] k (fun kq v7 v8 w'=>∃ (x7_1:Int) (x8_1:Int),v7 = .int .u64 x7_1∧v8 = .int .u64 x8_1∧Aside0 (natural_step.l0 kq l0 l1 (l1.length:Int) x7_1 x8_1=some (r1,r2))∧Aside0 (kq≤k)∧Aside0 (Wd.R 60 pre_ post_ w' w0.heap.size (fun k_=>(P0_ k_∨w.heap.size≤k_)) (.slice (some ad137) l0.length co11) l0)∧Aside0 (Kept w w' (fun k_=>P0_ k_))∧Aside0 (Below w0.heap.size w0 w'))
        case atStart=>exact ⟨(IntKind.u64.wrap (Int.tdiv (Go.bits .or .u64 (IntKind.u64.wrap ((IntKind.u64.wrap (rd l0 (l1.length:Int)))*4294967296)) (IntKind.u64.wrap (rd l0 (ji5)))) (IntKind.u64.wrap (rd l1 (ji5))))),(Int.tmod (Go.bits .or .u64 (IntKind.u64.wrap ((IntKind.u64.wrap (rd l0 (l1.length:Int)))*4294967296)) (IntKind.u64.wrap (rd l0 (ji5)))) (IntKind.u64.wrap (rd l1 (ji5)))),(by first|rfl|(simp;done)|(simp only [← hji5] <;> (first|rfl|simp))|(simp [*];done)),(by first|rfl|(simp;done)|(simp only [← hji5] <;> (first|rfl|simp))|(simp [*];done)),H',⟨Nat.le_refl _⟩,⟨by (with_reducible repeat (first|apply Wd.R_alloc|apply Wd.R_drewN|apply Wd.R_drew));exact HO0.out⟩,⟨by repeat (first|(with_reducible first|exact HK.out|apply Kept.alloc|apply Kept.drewN|apply Kept.drew)|exact HK.out)⟩,⟨by repeat (first|(with_reducible first|exact HB.out|apply below_alloc|apply pw_below_drewN|apply below_drew1)|exact HB.out)⟩⟩
        case round=>
         clear H'
         try clear c1
         try clear p1
         try clear q1
         try clear hx1
         try clear p2
         try clear c3
         try clear c3b0
         try clear c3b1
         try clear c4
         try clear c4b0
         try clear c4b1
         try clear c6
         try clear c6b0
         try clear p6
         try clear c7
         try clear c7b0
         try clear c8
         try clear c8b0
         try clear c9
         try clear c9b0
         try clear c9b1
         try clear hx137_0
         try clear hx138_0
         try clear hx139_0
         try clear hx140_0
         try clear p137
         try clear p138
         try clear p139
         try clear p140
         try clear q137
         try clear q138
         try clear q139
         try clear q140
         obtain ⟨x7_1,x8_1,rfl,rfl,HA,HK1,HO_0,HK,HB⟩:=hrel
         cases gk with
         | zero=>exact absurd HA.out (by simp [natural_step.l0])
         | succ k1=>
          have H:=HA.out
          clear HA
          simp only [natural_step.l0] at H
          have HC12:=Aside0.mk H
          clear H
          go_upto_region 4 with (fail)
          repeat (go_quiet (fail);go_upto_region 4 with (fail))
          go_cut [69] (fun v69 wc=>∃ (kq:Nat) (x69_11:Bool),v69 = .bool x69_11∧Aside0 (natural_step.j1 kq l0 l1 (l1.length:Int) x7_1 x8_1 x69_11=some (r1,r2))∧Aside0 (kq≤k1)∧Aside0 (Wd.R 60 pre_ post_ wc w0.heap.size (fun k_=>(P0_ k_∨w.heap.size≤k_)) (.slice (some ad137) l0.length co11) l0)∧Aside0 (Kept w wc (fun k_=>P0_ k_))∧Aside0 (Below w0.heap.size w0 wc))
          case first=>
           have H:=HC12.out
           clear HC12
           by_cases c13:x7_1≥4294967296
           ·rw [if_pos c13] at H
            have c13b0:decide (4294967296≤x7_1)=true:=decide_eq_true c13
            clear c13
            (first|rw [c13b0]|(simp only [i64_w,i32_w];rw [c13b0])|skip)
            have H':=Aside0.mk H
            clear H
            go_wp2
            repeat (go_quiet (fail);try go_wp2)
            go_meet
            case rel=>exact ⟨_,(true),(by first|rfl|(simp;done)|(simp [*];done)),H',⟨by have:=HK1.out;first|omega|exact Nat.le_refl _⟩,⟨by (with_reducible repeat (first|apply Wd.R_alloc|apply Wd.R_drewN|apply Wd.R_drew));exact HO_0.out⟩,⟨by repeat (first|(with_reducible first|exact HK.out|apply Kept.alloc|apply Kept.drewN|apply Kept.drew)|exact HK.out)⟩,⟨by repeat (first|(with_reducible first|exact HB.out|apply below_alloc|apply pw_below_drewN|apply below_drew1)|exact HB.out)⟩⟩
           ·rw [if_neg c13] at H
            have c13b0:decide (4294967296≤x7_1)=false:=decide_eq_false c13
            clear c13
            (first|rw [c13b0]|(simp only [i64_w,i32_w];rw [c13b0])|skip)
            obtain ⟨ji14,hji14⟩:∃ j_:Int,(wrap64 ((l1.length:Int)-2))=j_:=⟨_,rfl⟩
            replace H:(if 0≤(ji14) then (if (ji14)<(l1.length:Int) then (if (ji14)<(l0.length:Int) then (natural_step.j1 k1 l0 l1 (l1.length:Int) x7_1 x8_1 (decide ((IntKind.u64.wrap (x7_1*(IntKind.u64.wrap (rd l1 (ji14)))))>(Go.bits .or .u64 (IntKind.u64.wrap (x8_1*4294967296)) (IntKind.u64.wrap (rd l0 (ji14))))))) else (none)) else (none)) else (none))=some (r1,r2):=by first|(rw [hji14] at H;exact H)|(simp only [hji14] at H ⊢;exact H)
            have hji14w:(IntKind.i64.wrap ((l1.length:Int)-2))=ji14:=(i64_w _).trans hji14
            by_cases c15:0≤(ji14)
            ·rw [if_pos c15] at H
             have c15b0:decide (0≤(ji14))=true:=decide_eq_true c15
             clear c15
             by_cases c16:(ji14)<(l1.length:Int)
             ·rw [if_pos c16] at H
              have c16b0:decide ((ji14)<(l1.length:Int))=true:=decide_eq_true c16
              clear c16
              by_cases c17:(ji14)<(l0.length:Int)
              ·rw [if_pos c17] at H
               have c17b0:decide ((ji14)<(l0.length:Int))=true:=decide_eq_true c17
               clear c17
               have H':=Aside0.mk H
               clear H
               have p141:0≤((ji14):Int):=of_decide_eq_true (by first|(with_reducible assumption)|assumption)
               have q141:(ji14)<(l1.length:Int):=of_decide_eq_true (by first|(with_reducible assumption)|assumption)
               obtain ⟨ad141,e141,hx141_0⟩:=Kd.at_int (Kd.C_kept_now HR1.out HK.out) (ji14) p141 q141
               obtain rfl:ad139=ad141:=(by injection e141)
               replace p141:=eq_true p141
               replace q141:=eq_true q141
               have p142:0≤((ji14):Int):=of_decide_eq_true (by first|(with_reducible assumption)|assumption)
               have q142:(ji14)<(l0.length:Int):=of_decide_eq_true (by first|(with_reducible assumption)|assumption)
               obtain ⟨ad142,e142,hx142_0⟩:=Kd.at_int (Wd.R_reads' HO_0.out).2.2 (ji14) p142 q142
               obtain rfl:ad137=ad142:=(by injection e142)
               replace p142:=eq_true p142
               replace q142:=eq_true q142
               go_wp2
               repeat (go_quiet (fail);try go_wp2)
               go_meet
               case rel=>exact ⟨_,(decide ((IntKind.u64.wrap (x7_1*(IntKind.u64.wrap (rd l1 (ji14)))))>(Go.bits .or .u64 (IntKind.u64.wrap (x8_1*4294967296)) (IntKind.u64.wrap (rd l0 (ji14)))))),(by first|rfl|(simp;done)|(simp only [← hji14] <;> (first|rfl|simp))|(simp [*];done)),H',⟨by have:=HK1.out;first|omega|exact Nat.le_refl _⟩,⟨by (with_reducible repeat (first|apply Wd.R_alloc|apply Wd.R_drewN|apply Wd.R_drew));exact HO_0.out⟩,⟨by repeat (first|(with_reducible first|exact HK.out|apply Kept.alloc|apply Kept.drewN|apply Kept.drew)|exact HK.out)⟩,⟨by repeat (first|(with_reducible first|exact HB.out|apply below_alloc|apply pw_below_drewN|apply below_drew1)|exact HB.out)⟩⟩
              ·rw [if_neg c17] at H
               exact absurd H (by simp)
             ·rw [if_neg c16] at H
              exact absurd H (by simp)
            ·rw [if_neg c15] at H
             exact absurd H (by simp)
          case rest=>
           clear HC12
           try clear c1
           try clear p1
           try clear q1
           try clear hx1
           try clear p2
           try clear c3
           try clear c3b0
           try clear c3b1
           try clear c4
           try clear c4b0
           try clear c4b1
           try clear c6
           try clear c6b0
           try clear p6
           try clear c7
           try clear c7b0
           try clear c8
           try clear c8b0
           try clear c9
           try clear c9b0
           try clear c9b1
           try clear c13
           try clear c13b0
           try clear p13
           try clear q13
           try clear hx13
           try clear p14
           try clear q14
           try clear hx14
           try clear c15
           try clear c15b0
           try clear c16
           try clear c16b0
           try clear c17
           try clear c17b0
           try clear hx137_0
           try clear hx138_0
           try clear hx139_0
           try clear hx140_0
           try clear hx141_0
           try clear hx142_0
           try clear p1
           try clear p137
           try clear p138
           try clear p139
           try clear p140
           try clear p141
           try clear p142
           try clear p2
           try clear p6
           try clear q1
           try clear q137
           try clear q138
           try clear q139
           try clear q140
           try clear q141
           try clear q142
           obtain ⟨kq,x69_11,rfl,HA,HJ11,HO_0,HK,HB⟩:=hcut
           cases kq with
           | zero=>exact absurd HA.out (by simp [natural_step.j1])
           | succ kj11=>
            have H:=HA.out
            clear HA
            simp only [natural_step.j1] at H
            by_cases c18:x69_11=true
            ·subst c18
             have H1:(if 0≤(wrap64 ((l1.length:Int)-1)) then (if (wrap64 ((l1.length:Int)-1))<(l1.length:Int) then (if (IntKind.u64.wrap (x8_1+(IntKind.u64.wrap (rd l1 (wrap64 ((l1.length:Int)-1))))))≥4294967296 then (natural_step.j2 kj11 l0 l1 (l1.length:Int) (IntKind.u64.wrap (x7_1-1))) else (natural_step.l0 kj11 l0 l1 (l1.length:Int) (IntKind.u64.wrap (x7_1-1)) (IntKind.u64.wrap (x8_1+(IntKind.u64.wrap (rd l1 (wrap64 ((l1.length:Int)-1)))))))) else (none)) else (none))=some (r1,r2):=by rw [if_pos rfl] at H;exact H
             clear H
             have H:=H1
             clear H1
             obtain ⟨ji19,hji19⟩:∃ j_:Int,(wrap64 ((l1.length:Int)-1))=j_:=⟨_,rfl⟩
             replace H:(if 0≤(ji19) then (if (ji19)<(l1.length:Int) then (if (IntKind.u64.wrap (x8_1+(IntKind.u64.wrap (rd l1 (ji19)))))≥4294967296 then (natural_step.j2 kj11 l0 l1 (l1.length:Int) (IntKind.u64.wrap (x7_1-1))) else (natural_step.l0 kj11 l0 l1 (l1.length:Int) (IntKind.u64.wrap (x7_1-1)) (IntKind.u64.wrap (x8_1+(IntKind.u64.wrap (rd l1 (ji19))))))) else (none)) else (none))=some (r1,r2):=by first|(rw [hji19] at H;exact H)|(simp only [hji19] at H ⊢;exact H)
             have hji19w:(IntKind.i64.wrap ((l1.length:Int)-1))=ji19:=(i64_w _).trans hji19
             (try clear hji5w);(try clear hji5)
             by_cases c20:0≤(ji19)
             ·rw [if_pos c20] at H
              have c20b0:decide (0≤(ji19))=true:=decide_eq_true c20
              clear c20
              by_cases c21:(ji19)<(l1.length:Int)
              ·rw [if_pos c21] at H
               have c21b0:decide ((ji19)<(l1.length:Int))=true:=decide_eq_true c21
               clear c21
               by_cases c22:(IntKind.u64.wrap (x8_1+(IntKind.u64.wrap (rd l1 (ji19)))))≥4294967296
               ·rw [if_pos c22] at H
                have c22b0:decide (4294967296≤(IntKind.u64.wrap (x8_1+(IntKind.u64.wrap (rd l1 (ji19))))))=true:=decide_eq_true c22
                clear c22
                have H':=Aside0.mk H
                clear H
                have p143:0≤((ji19):Int):=of_decide_eq_true (by first|(with_reducible assumption)|assumption)
                have q143:(ji19)<(l1.length:Int):=of_decide_eq_true (by first|(with_reducible assumption)|assumption)
                obtain ⟨ad143,e143,hx143_0⟩:=Kd.at_int (Kd.C_kept_now HR1.out HK.out) (ji19) p143 q143
                obtain rfl:ad139=ad143:=(by injection e143)
                replace p143:=eq_true p143
                replace q143:=eq_true q143
                go_wp2
                repeat (go_quiet (fail);try go_wp2)
                go_meet
                case rel=>exact ⟨_,(IntKind.u64.wrap (x7_1-1)),(by first|rfl|(simp;done)|(simp [*];done)),H',⟨by have:=HK1.out;have:=HJ11.out;first|omega|exact Nat.le_refl _⟩,⟨by (with_reducible repeat (first|apply Wd.R_alloc|apply Wd.R_drewN|apply Wd.R_drew));exact HO_0.out⟩,⟨by repeat (first|(with_reducible first|exact HK.out|apply Kept.alloc|apply Kept.drewN|apply Kept.drew)|exact HK.out)⟩,⟨by repeat (first|(with_reducible first|exact HB.out|apply below_alloc|apply pw_below_drewN|apply below_drew1)|exact HB.out)⟩⟩
               ·rw [if_neg c22] at H
                have c22b0:decide (4294967296≤(IntKind.u64.wrap (x8_1+(IntKind.u64.wrap (rd l1 (ji19))))))=false:=decide_eq_false c22
                clear c22
                have H':=Aside0.mk H
                clear H
                have p143:0≤((ji19):Int):=of_decide_eq_true (by first|(with_reducible assumption)|assumption)
                have q143:(ji19)<(l1.length:Int):=of_decide_eq_true (by first|(with_reducible assumption)|assumption)
                obtain ⟨ad143,e143,hx143_0⟩:=Kd.at_int (Kd.C_kept_now HR1.out HK.out) (ji19) p143 q143
                obtain rfl:ad139=ad143:=(by injection e143)
                replace p143:=eq_true p143
                replace q143:=eq_true q143
                go_wp2
                repeat (go_quiet (fail);try go_wp2)
                go_roundg kj11
                case measure=>have:=HK1.out;have:=HJ11.out;omega
                case rel=>exact ⟨(IntKind.u64.wrap (x7_1-1)),(IntKind.u64.wrap (x8_1+(IntKind.u64.wrap (rd l1 (ji19))))),(by first|rfl|(simp;done)|(simp [*];done)),(by first|rfl|(simp;done)|(simp only [← hji19] <;> (first|rfl|simp))|(simp [*];done)),H',⟨by have:=HK1.out;have:=HJ11.out;omega⟩,⟨by (with_reducible repeat (first|apply Wd.R_alloc|apply Wd.R_drewN|apply Wd.R_drew));exact HO_0.out⟩,⟨by repeat (first|(with_reducible first|exact HK.out|apply Kept.alloc|apply Kept.drewN|apply Kept.drew)|exact HK.out)⟩,⟨by repeat (first|(with_reducible first|exact HB.out|apply below_alloc|apply pw_below_drewN|apply below_drew1)|exact HB.out)⟩⟩
              ·rw [if_neg c21] at H
               exact absurd H (by simp)
             ·rw [if_neg c20] at H
              exact absurd H (by simp)
            ·replace c18:=Bool.eq_false_iff.mpr c18
             subst c18
             have H1:(natural_step.j2 kj11 l0 l1 (l1.length:Int) x7_1)=some (r1,r2):=by rw [if_neg (show ¬ (false=true) by decide)] at H;exact H
             clear H
             have H:=H1
             clear H1
             have H':=Aside0.mk H
             clear H
             go_wp2
             repeat (go_quiet (fail);try go_wp2)
             go_meet
             case rel=>exact ⟨_,(x7_1),(by first|rfl|(simp;done)|(simp [*];done)),H',⟨by have:=HK1.out;have:=HJ11.out;first|omega|exact Nat.le_refl _⟩,⟨by (with_reducible repeat (first|apply Wd.R_alloc|apply Wd.R_drewN|apply Wd.R_drew));exact HO_0.out⟩,⟨by repeat (first|(with_reducible first|exact HK.out|apply Kept.alloc|apply Kept.drewN|apply Kept.drew)|exact HK.out)⟩,⟨by repeat (first|(with_reducible first|exact HB.out|apply below_alloc|apply pw_below_drewN|apply below_drew1)|exact HB.out)⟩⟩
       case rest=>
        clear HC10
        try clear c1
        try clear p1
        try clear q1
        try clear hx1
        try clear c2
        try clear p2
        try clear c3
        try clear c3b0
        try clear c3b1
        try clear c4
        try clear c4b0
        try clear c4b1
        try clear c6
        try clear c6b0
        try clear p6
        try clear c7
        try clear c7b0
        try clear c8
        try clear c8b0
        try clear c9
        try clear c9b0
        try clear c9b1
        try clear c13
        try clear c13b0
        try clear p13
        try clear q13
        try clear hx13
        try clear p14
        try clear q14
        try clear hx14
        try clear c15
        try clear c15b0
        try clear c16
        try clear c16b0
        try clear c17
        try clear c17b0
        try clear c18
        try clear c20
        try clear c20b0
        try clear c21
        try clear c21b0
        try clear c22
        try clear c22b0
        try clear hx137_0
        try clear hx138_0
        try clear hx139_0
        try clear hx140_0
        try clear hx141_0
        try clear hx142_0
        try clear hx143_0
        try clear p1
        try clear p13
        try clear p137
        try clear p138
        try clear p139
        try clear p14
        try clear p140
        try clear p141
        try clear p142
        try clear p143
        try clear p2
        try clear p6
        try clear q1
        try clear q13
        try clear q137
        try clear q138
        try clear q139
        try clear q14
        try clear q140
        try clear q141
        try clear q142
        try clear q143
        obtain ⟨kq,x7_9,rfl,HA,HJ9,HO_0,HK,HB⟩:=hcut
        cases kq with
        | zero=>exact absurd HA.out (by simp [natural_step.j2])
        | succ kj9=>
         have H:=HA.out
         clear HA
         simp only [natural_step.j2] at H
         have H':=Aside0.mk H
         clear H
         go_wp2
         repeat (go_quiet (fail);try go_wp2)
         go_loopg [9,10,84] kj9 (fun kq v9 v10 v84 w'=>∃ (x0_2:List Int) (x9_2:Int) (x10_2:Int) (x84_2:Int),v9 = .int .u64 x9_2∧v10 = .int .u32 x10_2∧v84 = .int .i64 x84_2∧Aside0 (natural_step.l1 kq x0_2 l1 (l1.length:Int) x7_9 x9_2 x10_2 l1 (l1.length:Int) x84_2=some (r1,r2))∧Aside0 (kq≤kj9)∧Aside0 (Wd.R 60 pre_ post_ w' w0.heap.size (fun k_=>(P0_ k_∨w.heap.size≤k_)) (.slice (some ad137) l0.length co11) x0_2)∧Aside0 (Kept w w' (fun k_=>P0_ k_))∧Aside0 (Below w0.heap.size w0 w'))
         case atStart=>exact ⟨(l0),(0),(0),(0),(by first|rfl|(simp;done)|(simp [*];done)),(by first|rfl|(simp;done)|(simp [*];done)),(by first|rfl|(simp;done)|(simp [*];done)),H',⟨Nat.le_refl _⟩,⟨by (with_reducible repeat (first|apply Wd.R_alloc|apply Wd.R_drewN|apply Wd.R_drew));exact HO_0.out⟩,⟨by repeat (first|(with_reducible first|exact HK.out|apply Kept.alloc|apply Kept.drewN|apply Kept.drew)|exact HK.out)⟩,⟨by repeat (first|(with_reducible first|exact HB.out|apply below_alloc|apply pw_below_drewN|apply below_drew1)|exact HB.out)⟩⟩
         case round=>
          clear H'
          try clear c1
          try clear p1
          try clear q1
          try clear hx1
          try clear c2
          try clear p2
          try clear c3
          try clear c3b0
          try clear c3b1
          try clear c4
          try clear c4b0
          try clear c4b1
          try clear c6
          try clear c6b0
          try clear p6
          try clear c7
          try clear c7b0
          try clear c8
          try clear c8b0
          try clear c9
          try clear c9b0
          try clear c9b1
          try clear c13
          try clear c13b0
          try clear p13
          try clear q13
          try clear hx13
          try clear p14
          try clear q14
          try clear hx14
          try clear c15
          try clear c15b0
          try clear c16
          try clear c16b0
          try clear c17
          try clear c17b0
          try clear c18
          try clear c20
          try clear c20b0
          try clear c21
          try clear c21b0
          try clear c22
          try clear c22b0
          try clear hx137_0
          try clear hx138_0
          try clear hx139_0
          try clear hx140_0
          try clear hx141_0
          try clear hx142_0
          try clear hx143_0
          try clear p1
          try clear p13
          try clear p137
          try clear p138
          try clear p139
          try clear p14
          try clear p140
          try clear p141
          try clear p142
          try clear p143
          try clear p2
          try clear p6
          try clear q1
          try clear q13
          try clear q137
          try clear q138
          try clear q139
          try clear q14
          try clear q140
          try clear q141
          try clear q142
          try clear q143
          obtain ⟨x0_2,x9_2,x10_2,x84_2,rfl,rfl,rfl,HA,HK2,HO_0,HK,HB⟩:=hrel
          have hl0_2:=(Wd.R_reads' HO_0.out).1
          rw [hl0_2] at HO_0
          (try simp only [hl0_2])
          cases gk with
          | zero=>exact absurd HA.out (by simp [natural_step.l1])
          | succ k2=>
           have H:=HA.out
           clear HA
           simp only [natural_step.l1] at H
           by_cases c23:x84_2<(l1.length:Int)
           ·rw [if_pos c23] at H
            have c23b0:decide (x84_2<(l1.length:Int))=true:=decide_eq_true c23
            clear c23
            by_cases c24:0≤x84_2
            ·rw [if_pos c24] at H
             have c24b0:decide (0≤x84_2)=true:=decide_eq_true c24
             clear c24
             by_cases c25:x84_2<(l1.length:Int)
             ·rw [if_pos c25] at H
              have c25b0:decide (x84_2<(l1.length:Int))=true:=decide_eq_true c25
              clear c25
              by_cases c26:x84_2<(x0_2.length:Int)
              ·rw [if_pos c26] at H
               have c26b0:decide (x84_2<(x0_2.length:Int))=true:=decide_eq_true c26
               clear c26
               replace H:=Option.bind_eq_some_iff.mp H
               obtain ⟨⟨t146,t147⟩,A270,H⟩:=H
               replace H:(natural_step.l1 k2 (x0_2.set (x84_2:Int).toNat t146) l1 (l1.length:Int) x7_9 ((IntKind.u64.wrap ((IntKind.u64.wrap (x7_9*(IntKind.u64.wrap (rd l1 x84_2))))+x9_2))/4294967296) t147 l1 (l1.length:Int) (wrap64 (x84_2+1)))=some (r1,r2):=H
               have A27:=Aside0.mk A270
               clear A270
               obtain ⟨y148,hy148⟩:∃ y_:List Int,y_=(x0_2.set (x84_2:Int).toNat t146):=⟨_,rfl⟩
               replace H:(natural_step.l1 k2 y148 l1 (l1.length:Int) x7_9 ((IntKind.u64.wrap ((IntKind.u64.wrap (x7_9*(IntKind.u64.wrap (rd l1 x84_2))))+x9_2))/4294967296) t147 l1 (l1.length:Int) (wrap64 (x84_2+1)))=some (r1,r2):=by first|(rw [hy148];with_reducible exact H)|(have H2_:=(Option.bind_some _ _).symm.trans H;rw [hy148];with_reducible exact H2_)|(have H2_:=(Option.bind_some _ _).symm.trans H;with_reducible exact H2_)|with_reducible exact H|(rw [hy148];exact H)|exact H
               have Ny148:=Aside0.mk hy148
               clear hy148
               have H':=Aside0.mk H
               clear H
               have p144:0≤(x84_2:Int):=of_decide_eq_true (by first|(with_reducible assumption)|assumption)
               have q144:x84_2<(l1.length:Int):=of_decide_eq_true (by first|(with_reducible assumption)|assumption)
               obtain ⟨ad144,e144,hx144_0⟩:=Kd.at_int (Kd.C_kept_now HR1.out HK.out) x84_2 p144 q144
               obtain rfl:ad139=ad144:=(by injection e144)
               replace p144:=eq_true p144
               replace q144:=eq_true q144
               have p145:0≤(x84_2:Int):=of_decide_eq_true (by first|(with_reducible assumption)|assumption)
               have q145:x84_2<(x0_2.length:Int):=of_decide_eq_true (by first|(with_reducible assumption)|assumption)
               obtain ⟨ad145,e145,hx145_0⟩:=Kd.at_int (Wd.R_reads' HO_0.out).2.2 x84_2 p145 q145
               obtain rfl:ad137=ad145:=(by injection e145)
               replace p145:=eq_true p145
               replace q145:=eq_true q145
               go_wp2_with (first|(go_at_call 81;(with_reducible refine (bits_Sub32.calls (rd x0_2 x84_2) ((IntKind.u64.wrap ((IntKind.u64.wrap (x7_9*(IntKind.u64.wrap (rd l1 x84_2))))+x9_2))%4294967296) x10_2 t146 t147 _ A27.out).mono ?_);rintro e w' ⟨rfl,⟨nd,rfl⟩⟩;(try first|exact ⟨rfl,_,World.drewN_drewN _ _ _⟩|exact ⟨rfl,_,Eq.trans (World.drewN_drewN _ _ _) (congrArg (World.drewN _) (Nat.add_assoc _ _ _))⟩);have p28:0≤(x84_2:Int):=of_decide_eq_true (by first|(with_reducible assumption)|assumption);have q28:(x84_2:Int)<((x0_2.length:Int):Int):=of_decide_eq_true (by first|(with_reducible assumption)|assumption);obtain ⟨go28,co28,eo28,gb28,gl28,cl28,HG28⟩:=Wd.R_form HO_0.out (by omega);(first|cases eo28|(injection eo28 with ea_ en_ ec_;(first|subst ea_|(injection ea_ with ea_;subst ea_));subst ec_;clear en_));(try simp only [Wd.add_off] at *);have GB28:=Aside0.mk gb28;have GG28:=Aside0.mk HG28;clear gb28 gl28 HG28;have HMgo28:=Aside0.mk (show (P0_ go28∨w.heap.size≤go28) from (HO_0.out.1 _ rfl));(first|simp only [Wd.add_off] at hx137_0|skip);(first|simp only [Wd.add_off] at hx138_0|skip);(first|simp only [Wd.add_off] at hx142_0|skip);(first|simp only [Wd.add_off] at hx145_0|skip);obtain ⟨hx28_0,hf28_0⟩:=Wd.R_celln 0 HO_0.out (x84_2:Int) p28 q28;replace p28:=eq_true p28;replace q28:=eq_true q28;obtain ⟨hy29_,hz29_⟩:=Wd.R_celln 0 HO_0.out (x84_2:Int) (of_decide_eq_true (by first|(with_reducible assumption)|assumption)) (of_decide_eq_true (by first|(with_reducible assumption)|assumption));have HP29:=Wd.R_putg HO_0.out (x84_2:Int) (of_decide_eq_true (by first|(with_reducible assumption)|assumption)) (of_decide_eq_true (by first|(with_reducible assumption)|assumption)) t146)|((with_reducible refine gate_store (t:=60) (p:=110) rfl ?_);(try (rw [drewN_self wr];generalize hq_:World.drewN wr _=wr;have n0_:=Aside0.mk (Wd.R_at hq_ HO_0.out);have n1_:=Aside0.mk (kept_at hq_ HK.out);have n2_:=Aside0.mk (below_at hq_ HB.out);clear hq_ HO_0 HK HB;have HO_0:=n0_;have HK:=n1_;have HB:=n2_;clear n0_ n1_ n2_;(try (obtain ⟨hy29_,hz29_⟩:=Wd.R_celln 0 HO_0.out (x84_2:Int) (of_decide_eq_true (by first|(with_reducible assumption)|assumption)) (of_decide_eq_true (by first|(with_reducible assumption)|assumption))));(try (obtain ⟨hyZ_,hzZ_⟩:=Wd.R_celln 0 HO_0.out (x84_2:Int) (of_decide_eq_true (by first|(with_reducible assumption)|assumption)) (of_decide_eq_true (by first|(with_reducible assumption)|assumption))));(try (have HP29:=Wd.R_putg HO_0.out (x84_2:Int) (of_decide_eq_true (by first|(with_reducible assumption)|assumption)) (of_decide_eq_true (by first|(with_reducible assumption)|assumption)) t146))));refine store_event (t:=60) (p:=110) (v:=?vo_w30) (w1:=(wr.setCell ⟨go28,pre_.length+(x84_2:Int).toNat,none⟩ (.int .u32 t146))) ?hg ?ho ?hn ?hr ?_;(case ho=>rfl);(case hg=>rfl);(case hn=>rfl);(case hr=>first|(go_simp;done)|(go_simp;rfl));intro w30 hw;have hg:wr.grownBy w30 (some go28):=(by rw [hw];exact HP29.2);have hp_:Wd.R 60 pre_ post_ w30 w0.heap.size (fun k_=>(P0_ k_∨w.heap.size≤k_)) (.slice (some ⟨go28,pre_.length,none⟩) x0_2.length co11) y148:=(by rw [hw,Ny148.out];exact HP29.1);clear HP29;have n0_:=Aside0.mk (hp_);have n1_:=Aside0.mk ((by rw [hw];exact below_set (HB.out) GB28.out:Below w0.heap.size w0 w30));have n2_:=Aside0.mk (Kept.of_grown (S:=(fun k_=>P0_ k_)) hg (by repeat (first|(with_reducible first|exact HK.out|apply Kept.alloc|apply Kept.drewN|apply Kept.drew)|exact HK.out)) (fun k_ e_=>(HO_0.out.1 k_ e_)));clear HO_0;clear HB;clear HK;have HO_0:=n0_;have HB:=n1_;have HK:=n2_;clear n0_ n1_ n2_;clear hg hw hp_))
               repeat (go_quiet (first|(go_at_call 81;(with_reducible refine (bits_Sub32.calls (rd x0_2 x84_2) ((IntKind.u64.wrap ((IntKind.u64.wrap (x7_9*(IntKind.u64.wrap (rd l1 x84_2))))+x9_2))%4294967296) x10_2 t146 t147 _ A27.out).mono ?_);rintro e w' ⟨rfl,⟨nd,rfl⟩⟩;(try first|exact ⟨rfl,_,World.drewN_drewN _ _ _⟩|exact ⟨rfl,_,Eq.trans (World.drewN_drewN _ _ _) (congrArg (World.drewN _) (Nat.add_assoc _ _ _))⟩);have p28:0≤(x84_2:Int):=of_decide_eq_true (by first|(with_reducible assumption)|assumption);have q28:(x84_2:Int)<((x0_2.length:Int):Int):=of_decide_eq_true (by first|(with_reducible assumption)|assumption);obtain ⟨go28,co28,eo28,gb28,gl28,cl28,HG28⟩:=Wd.R_form HO_0.out (by omega);(first|cases eo28|(injection eo28 with ea_ en_ ec_;(first|subst ea_|(injection ea_ with ea_;subst ea_));subst ec_;clear en_));(try simp only [Wd.add_off] at *);have GB28:=Aside0.mk gb28;have GG28:=Aside0.mk HG28;clear gb28 gl28 HG28;have HMgo28:=Aside0.mk (show (P0_ go28∨w.heap.size≤go28) from (HO_0.out.1 _ rfl));(first|simp only [Wd.add_off] at hx137_0|skip);(first|simp only [Wd.add_off] at hx138_0|skip);(first|simp only [Wd.add_off] at hx142_0|skip);(first|simp only [Wd.add_off] at hx145_0|skip);obtain ⟨hx28_0,hf28_0⟩:=Wd.R_celln 0 HO_0.out (x84_2:Int) p28 q28;replace p28:=eq_true p28;replace q28:=eq_true q28;obtain ⟨hy29_,hz29_⟩:=Wd.R_celln 0 HO_0.out (x84_2:Int) (of_decide_eq_true (by first|(with_reducible assumption)|assumption)) (of_decide_eq_true (by first|(with_reducible assumption)|assumption));have HP29:=Wd.R_putg HO_0.out (x84_2:Int) (of_decide_eq_true (by first|(with_reducible assumption)|assumption)) (of_decide_eq_true (by first|(with_reducible assumption)|assumption)) t146)|((with_reducible refine gate_store (t:=60) (p:=110) rfl ?_);(try (rw [drewN_self wr];generalize hq_:World.drewN wr _=wr;have n0_:=Aside0.mk (Wd.R_at hq_ HO_0.out);have n1_:=Aside0.mk (kept_at hq_ HK.out);have n2_:=Aside0.mk (below_at hq_ HB.out);clear hq_ HO_0 HK HB;have HO_0:=n0_;have HK:=n1_;have HB:=n2_;clear n0_ n1_ n2_;(try (obtain ⟨hy29_,hz29_⟩:=Wd.R_celln 0 HO_0.out (x84_2:Int) (of_decide_eq_true (by first|(with_reducible assumption)|assumption)) (of_decide_eq_true (by first|(with_reducible assumption)|assumption))));(try (obtain ⟨hyZ_,hzZ_⟩:=Wd.R_celln 0 HO_0.out (x84_2:Int) (of_decide_eq_true (by first|(with_reducible assumption)|assumption)) (of_decide_eq_true (by first|(with_reducible assumption)|assumption))));(try (have HP29:=Wd.R_putg HO_0.out (x84_2:Int) (of_decide_eq_true (by first|(with_reducible assumption)|assumption)) (of_decide_eq_true (by first|(with_reducible assumption)|assumption)) t146))));refine store_event (t:=60) (p:=110) (v:=?vo_w30) (w1:=(wr.setCell ⟨go28,pre_.length+(x84_2:Int).toNat,none⟩ (.int .u32 t146))) ?hg ?ho ?hn ?hr ?_;(case ho=>rfl);(case hg=>rfl);(case hn=>rfl);(case hr=>first|(go_simp;done)|(go_simp;rfl));intro w30 hw;have hg:wr.grownBy w30 (some go28):=(by rw [hw];exact HP29.2);have hp_:Wd.R 60 pre_ post_ w30 w0.heap.size (fun k_=>(P0_ k_∨w.heap.size≤k_)) (.slice (some ⟨go28,pre_.length,none⟩) x0_2.length co11) y148:=(by rw [hw,Ny148.out];exact HP29.1);clear HP29;have n0_:=Aside0.mk (hp_);have n1_:=Aside0.mk ((by rw [hw];exact below_set (HB.out) GB28.out:Below w0.heap.size w0 w30));have n2_:=Aside0.mk (Kept.of_grown (S:=(fun k_=>P0_ k_)) hg (by repeat (first|(with_reducible first|exact HK.out|apply Kept.alloc|apply Kept.drewN|apply Kept.drew)|exact HK.out)) (fun k_ e_=>(HO_0.out.1 k_ e_)));clear HO_0;clear HB;clear HK;have HO_0:=n0_;have HB:=n1_;have HK:=n2_;clear n0_ n1_ n2_;clear hg hw hp_));try go_wp2_with (first|(go_at_call 81;(with_reducible refine (bits_Sub32.calls (rd x0_2 x84_2) ((IntKind.u64.wrap ((IntKind.u64.wrap (x7_9*(IntKind.u64.wrap (rd l1 x84_2))))+x9_2))%4294967296) x10_2 t146 t147 _ A27.out).mono ?_);rintro e w' ⟨rfl,⟨nd,rfl⟩⟩;(try first|exact ⟨rfl,_,World.drewN_drewN _ _ _⟩|exact ⟨rfl,_,Eq.trans (World.drewN_drewN _ _ _) (congrArg (World.drewN _) (Nat.add_assoc _ _ _))⟩);have p28:0≤(x84_2:Int):=of_decide_eq_true (by first|(with_reducible assumption)|assumption);have q28:(x84_2:Int)<((x0_2.length:Int):Int):=of_decide_eq_true (by first|(with_reducible assumption)|assumption);obtain ⟨go28,co28,eo28,gb28,gl28,cl28,HG28⟩:=Wd.R_form HO_0.out (by omega);(first|cases eo28|(injection eo28 with ea_ en_ ec_;(first|subst ea_|(injection ea_ with ea_;subst ea_));subst ec_;clear en_));(try simp only [Wd.add_off] at *);have GB28:=Aside0.mk gb28;have GG28:=Aside0.mk HG28;clear gb28 gl28 HG28;have HMgo28:=Aside0.mk (show (P0_ go28∨w.heap.size≤go28) from (HO_0.out.1 _ rfl));(first|simp only [Wd.add_off] at hx137_0|skip);(first|simp only [Wd.add_off] at hx138_0|skip);(first|simp only [Wd.add_off] at hx142_0|skip);(first|simp only [Wd.add_off] at hx145_0|skip);obtain ⟨hx28_0,hf28_0⟩:=Wd.R_celln 0 HO_0.out (x84_2:Int) p28 q28;replace p28:=eq_true p28;replace q28:=eq_true q28;obtain ⟨hy29_,hz29_⟩:=Wd.R_celln 0 HO_0.out (x84_2:Int) (of_decide_eq_true (by first|(with_reducible assumption)|assumption)) (of_decide_eq_true (by first|(with_reducible assumption)|assumption));have HP29:=Wd.R_putg HO_0.out (x84_2:Int) (of_decide_eq_true (by first|(with_reducible assumption)|assumption)) (of_decide_eq_true (by first|(with_reducible assumption)|assumption)) t146)|((with_reducible refine gate_store (t:=60) (p:=110) rfl ?_);(try (rw [drewN_self wr];generalize hq_:World.drewN wr _=wr;have n0_:=Aside0.mk (Wd.R_at hq_ HO_0.out);have n1_:=Aside0.mk (kept_at hq_ HK.out);have n2_:=Aside0.mk (below_at hq_ HB.out);clear hq_ HO_0 HK HB;have HO_0:=n0_;have HK:=n1_;have HB:=n2_;clear n0_ n1_ n2_;(try (obtain ⟨hy29_,hz29_⟩:=Wd.R_celln 0 HO_0.out (x84_2:Int) (of_decide_eq_true (by first|(with_reducible assumption)|assumption)) (of_decide_eq_true (by first|(with_reducible assumption)|assumption))));(try (obtain ⟨hyZ_,hzZ_⟩:=Wd.R_celln 0 HO_0.out (x84_2:Int) (of_decide_eq_true (by first|(with_reducible assumption)|assumption)) (of_decide_eq_true (by first|(with_reducible assumption)|assumption))));(try (have HP29:=Wd.R_putg HO_0.out (x84_2:Int) (of_decide_eq_true (by first|(with_reducible assumption)|assumption)) (of_decide_eq_true (by first|(with_reducible assumption)|assumption)) t146))));refine store_event (t:=60) (p:=110) (v:=?vo_w30) (w1:=(wr.setCell ⟨go28,pre_.length+(x84_2:Int).toNat,none⟩ (.int .u32 t146))) ?hg ?ho ?hn ?hr ?_;(case ho=>rfl);(case hg=>rfl);(case hn=>rfl);(case hr=>first|(go_simp;done)|(go_simp;rfl));intro w30 hw;have hg:wr.grownBy w30 (some go28):=(by rw [hw];exact HP29.2);have hp_:Wd.R 60 pre_ post_ w30 w0.heap.size (fun k_=>(P0_ k_∨w.heap.size≤k_)) (.slice (some ⟨go28,pre_.length,none⟩) x0_2.length co11) y148:=(by rw [hw,Ny148.out];exact HP29.1);clear HP29;have n0_:=Aside0.mk (hp_);have n1_:=Aside0.mk ((by rw [hw];exact below_set (HB.out) GB28.out:Below w0.heap.size w0 w30));have n2_:=Aside0.mk (Kept.of_grown (S:=(fun k_=>P0_ k_)) hg (by repeat (first|(with_reducible first|exact HK.out|apply Kept.alloc|apply Kept.drewN|apply Kept.drew)|exact HK.out)) (fun k_ e_=>(HO_0.out.1 k_ e_)));clear HO_0;clear HB;clear HK;have HO_0:=n0_;have HB:=n1_;have HK:=n2_;clear n0_ n1_ n2_;clear hg hw hp_)))
               (try simp only [← hl0_2])
               go_roundg k2
               case measure=>have:=HJ9.out;have:=HK2.out;omega
               case rel=>exact ⟨(y148),((IntKind.u64.wrap ((IntKind.u64.wrap (x7_9*(IntKind.u64.wrap (rd l1 x84_2))))+x9_2))/4294967296),(t147),(wrap64 (x84_2+1)),(by first|rfl|(simp;done)|(simp [*];done)),(by first|rfl|(simp;done)|(simp [*];done)),(by first|rfl|(simp;done)|(simp [*];done)),H',⟨by have:=HJ9.out;have:=HK2.out;omega⟩,⟨by (try simp only [hl0_2]);(with_reducible repeat (first|apply Wd.R_alloc|apply Wd.R_drewN|apply Wd.R_drew));exact HO_0.out⟩,⟨by repeat (first|(with_reducible first|exact HK.out|apply Kept.alloc|apply Kept.drewN|apply Kept.drew)|exact HK.out)⟩,⟨by repeat (first|(with_reducible first|exact HB.out|apply below_alloc|apply pw_below_drewN|apply below_drew1)|exact HB.out)⟩⟩
              ·rw [if_neg c26] at H
               exact absurd H (by simp)
             ·rw [if_neg c25] at H
              exact absurd H (by simp)
            ·rw [if_neg c24] at H
             exact absurd H (by simp)
           ·rw [if_neg c23] at H
            have c23b0:decide (x84_2<(l1.length:Int))=false:=decide_eq_false c23
            clear c23
            by_cases c31:0≤(l1.length:Int)
            ·rw [if_pos c31] at H
             have c31b0:decide (0≤(l1.length:Int))=true:=decide_eq_true c31
             have c31b1:decide (0≤l1.length)=true:=decide_eq_true (by omega)
             clear c31
             by_cases c32:(l1.length:Int)<(x0_2.length:Int)
             ·rw [if_pos c32] at H
              have c32b0:decide ((l1.length:Int)<(x0_2.length:Int))=true:=decide_eq_true c32
              have c32b1:decide (l1.length<x0_2.length)=true:=decide_eq_true (Int.ofNat_lt.mp c32)
              clear c32
              replace H:=Option.bind_eq_some_iff.mp H
              obtain ⟨⟨t150,t151⟩,A330,H⟩:=H
              replace H:((some (x0_2.set ((l1.length:Int):Int).toNat t150:List Int)).bind fun y152=>(if t151=0 then (some ((x7_9)%4294967296,y152)) else (natural_step.l2 k2 y152 (l1.length:Int) x7_9 0 l1 (l1.length:Int) 0)))=some (r1,r2):=H
              have A33:=Aside0.mk A330
              clear A330
              obtain ⟨y152,hy152⟩:∃ y_:List Int,y_=(x0_2.set ((l1.length:Int):Int).toNat t150):=⟨_,rfl⟩
              replace H:(if t151=0 then (some ((x7_9)%4294967296,y152)) else (natural_step.l2 k2 y152 (l1.length:Int) x7_9 0 l1 (l1.length:Int) 0))=some (r1,r2):=by first|(rw [hy152];with_reducible exact H)|(have H2_:=(Option.bind_some _ _).symm.trans H;rw [hy152];with_reducible exact H2_)|(have H2_:=(Option.bind_some _ _).symm.trans H;with_reducible exact H2_)|with_reducible exact H|(rw [hy152];exact H)|exact H
              have Ny152:=Aside0.mk hy152
              clear hy152
              by_cases c35:t151=0
              ·rw [if_pos c35] at H
               have c35b0:(t151 == 0)=true:=beq_iff_eq.mpr c35
               have c35b1:(t151 != 0)=false:=bne_eq_false_iff_eq.mpr c35
               clear c35
               simp only [Option.some.injEq,Prod.mk.injEq] at H
               obtain ⟨rfl,rfl⟩:=H
               have p149:0≤((l1.length:Int):Int):=of_decide_eq_true (by first|(with_reducible assumption)|assumption)
               have q149:(l1.length:Int)<(x0_2.length:Int):=of_decide_eq_true (by first|(with_reducible assumption)|assumption)
               obtain ⟨ad149,e149,hx149_0⟩:=Kd.at_int (Wd.R_reads' HO_0.out).2.2 (l1.length:Int) p149 q149
               obtain rfl:ad137=ad149:=(by injection e149)
               (try simp only [Go.IntWalk.toNatUp] at hx149_0)
               (try simp only [hl0_2] at p149)
               (try simp only [hl0_2] at q149)
               (try simp only [hl0_2] at hx149_0)
               replace p149:=eq_true p149
               replace q149:=eq_true q149
               go_wp2_with (first|(go_at_call 81;(with_reducible refine (bits_Sub32.calls (rd x0_2 (l1.length:Int)) ((x9_2)%4294967296) x10_2 t150 t151 _ A33.out).mono ?_);rintro e w' ⟨rfl,⟨nd,rfl⟩⟩;(try first|exact ⟨rfl,_,World.drewN_drewN _ _ _⟩|exact ⟨rfl,_,Eq.trans (World.drewN_drewN _ _ _) (congrArg (World.drewN _) (Nat.add_assoc _ _ _))⟩);have p34:0≤((l1.length:Int):Int):=of_decide_eq_true (by first|(with_reducible assumption)|assumption);have q34:((l1.length:Int):Int)<((x0_2.length:Int):Int):=of_decide_eq_true (by first|(with_reducible assumption)|assumption);obtain ⟨go34,co34,eo34,gb34,gl34,cl34,HG34⟩:=Wd.R_form HO_0.out (by omega);(first|cases eo34|(injection eo34 with ea_ en_ ec_;(first|subst ea_|(injection ea_ with ea_;subst ea_));subst ec_;clear en_));(try simp only [Wd.add_off] at *);have GB34:=Aside0.mk gb34;have GG34:=Aside0.mk HG34;clear gb34 gl34 HG34;have HMgo34:=Aside0.mk (show (P0_ go34∨w.heap.size≤go34) from (HO_0.out.1 _ rfl));(first|simp only [Wd.add_off] at hx149_0|skip);obtain ⟨hx34_0,hf34_0⟩:=Wd.R_celln 0 HO_0.out ((l1.length:Int):Int) p34 q34;replace p34:=eq_true p34;replace q34:=eq_true q34;obtain ⟨hy36_,hz36_⟩:=Wd.R_celln 0 HO_0.out ((l1.length:Int):Int) (of_decide_eq_true (by first|(with_reducible assumption)|assumption)) (of_decide_eq_true (by first|(with_reducible assumption)|assumption));(try simp only [Go.IntWalk.toNatUp] at hy36_ hz36_);have HP36:=Wd.R_putg HO_0.out ((l1.length:Int):Int) (of_decide_eq_true (by first|(with_reducible assumption)|assumption)) (of_decide_eq_true (by first|(with_reducible assumption)|assumption)) t150)|((with_reducible refine gate_store (t:=60) (p:=125) rfl ?_);(try (rw [drewN_self wr];generalize hq_:World.drewN wr _=wr;have n0_:=Aside0.mk (Wd.R_at hq_ HO_0.out);have n1_:=Aside0.mk (kept_at hq_ HK.out);have n2_:=Aside0.mk (below_at hq_ HB.out);clear hq_ HO_0 HK HB;have HO_0:=n0_;have HK:=n1_;have HB:=n2_;clear n0_ n1_ n2_;(try (obtain ⟨hy36_,hz36_⟩:=Wd.R_celln 0 HO_0.out ((l1.length:Int):Int) (of_decide_eq_true (by first|(with_reducible assumption)|assumption)) (of_decide_eq_true (by first|(with_reducible assumption)|assumption))));(try (try simp only [Go.IntWalk.toNatUp] at hy36_ hz36_));(try (obtain ⟨hyZ_,hzZ_⟩:=Wd.R_celln 0 HO_0.out ((l1.length:Int):Int) (of_decide_eq_true (by first|(with_reducible assumption)|assumption)) (of_decide_eq_true (by first|(with_reducible assumption)|assumption))));(try (have HP36:=Wd.R_putg HO_0.out ((l1.length:Int):Int) (of_decide_eq_true (by first|(with_reducible assumption)|assumption)) (of_decide_eq_true (by first|(with_reducible assumption)|assumption)) t150))));refine store_event (t:=60) (p:=125) (v:=?vo_w37) (w1:=(wr.setCell ⟨go34,pre_.length+((l1.length:Int):Int).toNat,none⟩ (.int .u32 t150))) ?hg ?ho ?hn ?hr ?_;(case ho=>rfl);(case hg=>rfl);(case hn=>rfl);(case hr=>first|(go_simp;done)|(go_simp;rfl));intro w37 hw;have hg:wr.grownBy w37 (some go34):=(by rw [hw];exact HP36.2);have hp_:Wd.R 60 pre_ post_ w37 w0.heap.size (fun k_=>(P0_ k_∨w.heap.size≤k_)) (.slice (some ⟨go34,pre_.length,none⟩) x0_2.length co11) y152:=(by rw [hw,Ny152.out];exact HP36.1);clear HP36;have n0_:=Aside0.mk (hp_);have n1_:=Aside0.mk ((by rw [hw];exact below_set (HB.out) GB34.out:Below w0.heap.size w0 w37));have n2_:=Aside0.mk (Kept.of_grown (S:=(fun k_=>P0_ k_)) hg (by repeat (first|(with_reducible first|exact HK.out|apply Kept.alloc|apply Kept.drewN|apply Kept.drew)|exact HK.out)) (fun k_ e_=>(HO_0.out.1 k_ e_)));clear HO_0;clear HB;clear HK;have HO_0:=n0_;have HB:=n1_;have HK:=n2_;clear n0_ n1_ n2_;clear hg hw hp_))
               repeat (go_quiet (first|(go_at_call 81;(with_reducible refine (bits_Sub32.calls (rd x0_2 (l1.length:Int)) ((x9_2)%4294967296) x10_2 t150 t151 _ A33.out).mono ?_);rintro e w' ⟨rfl,⟨nd,rfl⟩⟩;(try first|exact ⟨rfl,_,World.drewN_drewN _ _ _⟩|exact ⟨rfl,_,Eq.trans (World.drewN_drewN _ _ _) (congrArg (World.drewN _) (Nat.add_assoc _ _ _))⟩);have p34:0≤((l1.length:Int):Int):=of_decide_eq_true (by first|(with_reducible assumption)|assumption);have q34:((l1.length:Int):Int)<((x0_2.length:Int):Int):=of_decide_eq_true (by first|(with_reducible assumption)|assumption);obtain ⟨go34,co34,eo34,gb34,gl34,cl34,HG34⟩:=Wd.R_form HO_0.out (by omega);(first|cases eo34|(injection eo34 with ea_ en_ ec_;(first|subst ea_|(injection ea_ with ea_;subst ea_));subst ec_;clear en_));(try simp only [Wd.add_off] at *);have GB34:=Aside0.mk gb34;have GG34:=Aside0.mk HG34;clear gb34 gl34 HG34;have HMgo34:=Aside0.mk (show (P0_ go34∨w.heap.size≤go34) from (HO_0.out.1 _ rfl));(first|simp only [Wd.add_off] at hx149_0|skip);obtain ⟨hx34_0,hf34_0⟩:=Wd.R_celln 0 HO_0.out ((l1.length:Int):Int) p34 q34;replace p34:=eq_true p34;replace q34:=eq_true q34;obtain ⟨hy36_,hz36_⟩:=Wd.R_celln 0 HO_0.out ((l1.length:Int):Int) (of_decide_eq_true (by first|(with_reducible assumption)|assumption)) (of_decide_eq_true (by first|(with_reducible assumption)|assumption));(try simp only [Go.IntWalk.toNatUp] at hy36_ hz36_);have HP36:=Wd.R_putg HO_0.out ((l1.length:Int):Int) (of_decide_eq_true (by first|(with_reducible assumption)|assumption)) (of_decide_eq_true (by first|(with_reducible assumption)|assumption)) t150)|((with_reducible refine gate_store (t:=60) (p:=125) rfl ?_);(try (rw [drewN_self wr];generalize hq_:World.drewN wr _=wr;have n0_:=Aside0.mk (Wd.R_at hq_ HO_0.out);have n1_:=Aside0.mk (kept_at hq_ HK.out);have n2_:=Aside0.mk (below_at hq_ HB.out);clear hq_ HO_0 HK HB;have HO_0:=n0_;have HK:=n1_;have HB:=n2_;clear n0_ n1_ n2_;(try (obtain ⟨hy36_,hz36_⟩:=Wd.R_celln 0 HO_0.out ((l1.length:Int):Int) (of_decide_eq_true (by first|(with_reducible assumption)|assumption)) (of_decide_eq_true (by first|(with_reducible assumption)|assumption))));(try (try simp only [Go.IntWalk.toNatUp] at hy36_ hz36_));(try (obtain ⟨hyZ_,hzZ_⟩:=Wd.R_celln 0 HO_0.out ((l1.length:Int):Int) (of_decide_eq_true (by first|(with_reducible assumption)|assumption)) (of_decide_eq_true (by first|(with_reducible assumption)|assumption))));(try (have HP36:=Wd.R_putg HO_0.out ((l1.length:Int):Int) (of_decide_eq_true (by first|(with_reducible assumption)|assumption)) (of_decide_eq_true (by first|(with_reducible assumption)|assumption)) t150))));refine store_event (t:=60) (p:=125) (v:=?vo_w37) (w1:=(wr.setCell ⟨go34,pre_.length+((l1.length:Int):Int).toNat,none⟩ (.int .u32 t150))) ?hg ?ho ?hn ?hr ?_;(case ho=>rfl);(case hg=>rfl);(case hn=>rfl);(case hr=>first|(go_simp;done)|(go_simp;rfl));intro w37 hw;have hg:wr.grownBy w37 (some go34):=(by rw [hw];exact HP36.2);have hp_:Wd.R 60 pre_ post_ w37 w0.heap.size (fun k_=>(P0_ k_∨w.heap.size≤k_)) (.slice (some ⟨go34,pre_.length,none⟩) x0_2.length co11) y152:=(by rw [hw,Ny152.out];exact HP36.1);clear HP36;have n0_:=Aside0.mk (hp_);have n1_:=Aside0.mk ((by rw [hw];exact below_set (HB.out) GB34.out:Below w0.heap.size w0 w37));have n2_:=Aside0.mk (Kept.of_grown (S:=(fun k_=>P0_ k_)) hg (by repeat (first|(with_reducible first|exact HK.out|apply Kept.alloc|apply Kept.drewN|apply Kept.drew)|exact HK.out)) (fun k_ e_=>(HO_0.out.1 k_ e_)));clear HO_0;clear HB;clear HK;have HO_0:=n0_;have HB:=n1_;have HK:=n2_;clear n0_ n1_ n2_;clear hg hw hp_));try go_wp2_with (first|(go_at_call 81;(with_reducible refine (bits_Sub32.calls (rd x0_2 (l1.length:Int)) ((x9_2)%4294967296) x10_2 t150 t151 _ A33.out).mono ?_);rintro e w' ⟨rfl,⟨nd,rfl⟩⟩;(try first|exact ⟨rfl,_,World.drewN_drewN _ _ _⟩|exact ⟨rfl,_,Eq.trans (World.drewN_drewN _ _ _) (congrArg (World.drewN _) (Nat.add_assoc _ _ _))⟩);have p34:0≤((l1.length:Int):Int):=of_decide_eq_true (by first|(with_reducible assumption)|assumption);have q34:((l1.length:Int):Int)<((x0_2.length:Int):Int):=of_decide_eq_true (by first|(with_reducible assumption)|assumption);obtain ⟨go34,co34,eo34,gb34,gl34,cl34,HG34⟩:=Wd.R_form HO_0.out (by omega);(first|cases eo34|(injection eo34 with ea_ en_ ec_;(first|subst ea_|(injection ea_ with ea_;subst ea_));subst ec_;clear en_));(try simp only [Wd.add_off] at *);have GB34:=Aside0.mk gb34;have GG34:=Aside0.mk HG34;clear gb34 gl34 HG34;have HMgo34:=Aside0.mk (show (P0_ go34∨w.heap.size≤go34) from (HO_0.out.1 _ rfl));(first|simp only [Wd.add_off] at hx149_0|skip);obtain ⟨hx34_0,hf34_0⟩:=Wd.R_celln 0 HO_0.out ((l1.length:Int):Int) p34 q34;replace p34:=eq_true p34;replace q34:=eq_true q34;obtain ⟨hy36_,hz36_⟩:=Wd.R_celln 0 HO_0.out ((l1.length:Int):Int) (of_decide_eq_true (by first|(with_reducible assumption)|assumption)) (of_decide_eq_true (by first|(with_reducible assumption)|assumption));(try simp only [Go.IntWalk.toNatUp] at hy36_ hz36_);have HP36:=Wd.R_putg HO_0.out ((l1.length:Int):Int) (of_decide_eq_true (by first|(with_reducible assumption)|assumption)) (of_decide_eq_true (by first|(with_reducible assumption)|assumption)) t150)|((with_reducible refine gate_store (t:=60) (p:=125) rfl ?_);(try (rw [drewN_self wr];generalize hq_:World.drewN wr _=wr;have n0_:=Aside0.mk (Wd.R_at hq_ HO_0.out);have n1_:=Aside0.mk (kept_at hq_ HK.out);have n2_:=Aside0.mk (below_at hq_ HB.out);clear hq_ HO_0 HK HB;have HO_0:=n0_;have HK:=n1_;have HB:=n2_;clear n0_ n1_ n2_;(try (obtain ⟨hy36_,hz36_⟩:=Wd.R_celln 0 HO_0.out ((l1.length:Int):Int) (of_decide_eq_true (by first|(with_reducible assumption)|assumption)) (of_decide_eq_true (by first|(with_reducible assumption)|assumption))));(try (try simp only [Go.IntWalk.toNatUp] at hy36_ hz36_));(try (obtain ⟨hyZ_,hzZ_⟩:=Wd.R_celln 0 HO_0.out ((l1.length:Int):Int) (of_decide_eq_true (by first|(with_reducible assumption)|assumption)) (of_decide_eq_true (by first|(with_reducible assumption)|assumption))));(try (have HP36:=Wd.R_putg HO_0.out ((l1.length:Int):Int) (of_decide_eq_true (by first|(with_reducible assumption)|assumption)) (of_decide_eq_true (by first|(with_reducible assumption)|assumption)) t150))));refine store_event (t:=60) (p:=125) (v:=?vo_w37) (w1:=(wr.setCell ⟨go34,pre_.length+((l1.length:Int):Int).toNat,none⟩ (.int .u32 t150))) ?hg ?ho ?hn ?hr ?_;(case ho=>rfl);(case hg=>rfl);(case hn=>rfl);(case hr=>first|(go_simp;done)|(go_simp;rfl));intro w37 hw;have hg:wr.grownBy w37 (some go34):=(by rw [hw];exact HP36.2);have hp_:Wd.R 60 pre_ post_ w37 w0.heap.size (fun k_=>(P0_ k_∨w.heap.size≤k_)) (.slice (some ⟨go34,pre_.length,none⟩) x0_2.length co11) y152:=(by rw [hw,Ny152.out];exact HP36.1);clear HP36;have n0_:=Aside0.mk (hp_);have n1_:=Aside0.mk ((by rw [hw];exact below_set (HB.out) GB34.out:Below w0.heap.size w0 w37));have n2_:=Aside0.mk (Kept.of_grown (S:=(fun k_=>P0_ k_)) hg (by repeat (first|(with_reducible first|exact HK.out|apply Kept.alloc|apply Kept.drewN|apply Kept.drew)|exact HK.out)) (fun k_ e_=>(HO_0.out.1 k_ e_)));clear HO_0;clear HB;clear HK;have HO_0:=n0_;have HB:=n1_;have HK:=n2_;clear n0_ n1_ n2_;clear hg hw hp_)))
               go_ret
               exact ⟨by first|rfl|(simp [errW_none,errW_some] <;> rfl)|(simp only [← hji5];first|rfl|(simp [errW_none,errW_some] <;> rfl))|(simp [*,errW_none,errW_some] <;> rfl),(by first|exact (by (with_reducible repeat (first|apply Wd.R_alloc|apply Wd.R_drewN|apply Wd.R_drew));exact HO_0.out)|(simp only [hl0_2];exact (by (with_reducible repeat (first|apply Wd.R_alloc|apply Wd.R_drewN|apply Wd.R_drew));exact HO_0.out))),by repeat (first|(with_reducible first|exact HB.out|apply below_alloc|apply pw_below_drewN|apply below_drew1)|exact HB.out),by repeat (first|(with_reducible first|exact HK.out|apply Kept.alloc|apply Kept.drewN|apply Kept.drew)|exact HK.out)⟩
              ·rw [if_neg c35] at H
               have c35b0:(t151 == 0)=false:=beq_eq_false_iff_ne.mpr c35
               have c35b1:(t151 != 0)=true:=bne_iff_ne.mpr c35
               have H':=Aside0.mk H
               clear H
               have p149:0≤((l1.length:Int):Int):=of_decide_eq_true (by first|(with_reducible assumption)|assumption)
               have q149:(l1.length:Int)<(x0_2.length:Int):=of_decide_eq_true (by first|(with_reducible assumption)|assumption)
               obtain ⟨ad149,e149,hx149_0⟩:=Kd.at_int (Wd.R_reads' HO_0.out).2.2 (l1.length:Int) p149 q149
               obtain rfl:ad137=ad149:=(by injection e149)
               (try simp only [Go.IntWalk.toNatUp] at hx149_0)
               (try simp only [hl0_2] at p149)
               (try simp only [hl0_2] at q149)
               (try simp only [hl0_2] at hx149_0)
               replace p149:=eq_true p149
               replace q149:=eq_true q149
               go_wp2_with (first|(go_at_call 81;(with_reducible refine (bits_Sub32.calls (rd x0_2 (l1.length:Int)) ((x9_2)%4294967296) x10_2 t150 t151 _ A33.out).mono ?_);rintro e w' ⟨rfl,⟨nd,rfl⟩⟩;(try first|exact ⟨rfl,_,World.drewN_drewN _ _ _⟩|exact ⟨rfl,_,Eq.trans (World.drewN_drewN _ _ _) (congrArg (World.drewN _) (Nat.add_assoc _ _ _))⟩);have p34:0≤((l1.length:Int):Int):=of_decide_eq_true (by first|(with_reducible assumption)|assumption);have q34:((l1.length:Int):Int)<((x0_2.length:Int):Int):=of_decide_eq_true (by first|(with_reducible assumption)|assumption);obtain ⟨go34,co34,eo34,gb34,gl34,cl34,HG34⟩:=Wd.R_form HO_0.out (by omega);(first|cases eo34|(injection eo34 with ea_ en_ ec_;(first|subst ea_|(injection ea_ with ea_;subst ea_));subst ec_;clear en_));(try simp only [Wd.add_off] at *);have GB34:=Aside0.mk gb34;have GG34:=Aside0.mk HG34;clear gb34 gl34 HG34;have HMgo34:=Aside0.mk (show (P0_ go34∨w.heap.size≤go34) from (HO_0.out.1 _ rfl));(first|simp only [Wd.add_off] at hx149_0|skip);obtain ⟨hx34_0,hf34_0⟩:=Wd.R_celln 0 HO_0.out ((l1.length:Int):Int) p34 q34;replace p34:=eq_true p34;replace q34:=eq_true q34;obtain ⟨hy38_,hz38_⟩:=Wd.R_celln 0 HO_0.out ((l1.length:Int):Int) (of_decide_eq_true (by first|(with_reducible assumption)|assumption)) (of_decide_eq_true (by first|(with_reducible assumption)|assumption));(try simp only [Go.IntWalk.toNatUp] at hy38_ hz38_);have HP38:=Wd.R_putg HO_0.out ((l1.length:Int):Int) (of_decide_eq_true (by first|(with_reducible assumption)|assumption)) (of_decide_eq_true (by first|(with_reducible assumption)|assumption)) t150)|((with_reducible refine gate_store (t:=60) (p:=125) rfl ?_);(try (rw [drewN_self wr];generalize hq_:World.drewN wr _=wr;have n0_:=Aside0.mk (Wd.R_at hq_ HO_0.out);have n1_:=Aside0.mk (kept_at hq_ HK.out);have n2_:=Aside0.mk (below_at hq_ HB.out);clear hq_ HO_0 HK HB;have HO_0:=n0_;have HK:=n1_;have HB:=n2_;clear n0_ n1_ n2_;(try (obtain ⟨hy38_,hz38_⟩:=Wd.R_celln 0 HO_0.out ((l1.length:Int):Int) (of_decide_eq_true (by first|(with_reducible assumption)|assumption)) (of_decide_eq_true (by first|(with_reducible assumption)|assumption))));(try (try simp only [Go.IntWalk.toNatUp] at hy38_ hz38_));(try (obtain ⟨hyZ_,hzZ_⟩:=Wd.R_celln 0 HO_0.out ((l1.length:Int):Int) (of_decide_eq_true (by first|(with_reducible assumption)|assumption)) (of_decide_eq_true (by first|(with_reducible assumption)|assumption))));(try (have HP38:=Wd.R_putg HO_0.out ((l1.length:Int):Int) (of_decide_eq_true (by first|(with_reducible assumption)|assumption)) (of_decide_eq_true (by first|(with_reducible assumption)|assumption)) t150))));refine store_event (t:=60) (p:=125) (v:=?vo_w39) (w1:=(wr.setCell ⟨go34,pre_.length+((l1.length:Int):Int).toNat,none⟩ (.int .u32 t150))) ?hg ?ho ?hn ?hr ?_;(case ho=>rfl);(case hg=>rfl);(case hn=>rfl);(case hr=>first|(go_simp;done)|(go_simp;rfl));intro w39 hw;have hg:wr.grownBy w39 (some go34):=(by rw [hw];exact HP38.2);have hp_:Wd.R 60 pre_ post_ w39 w0.heap.size (fun k_=>(P0_ k_∨w.heap.size≤k_)) (.slice (some ⟨go34,pre_.length,none⟩) x0_2.length co11) y152:=(by rw [hw,Ny152.out];exact HP38.1);clear HP38;have n0_:=Aside0.mk (hp_);have n1_:=Aside0.mk ((by rw [hw];exact below_set (HB.out) GB34.out:Below w0.heap.size w0 w39));have n2_:=Aside0.mk (Kept.of_grown (S:=(fun k_=>P0_ k_)) hg (by repeat (first|(with_reducible first|exact HK.out|apply Kept.alloc|apply Kept.drewN|apply Kept.drew)|exact HK.out)) (fun k_ e_=>(HO_0.out.1 k_ e_)));clear HO_0;clear HB;clear HK;have HO_0:=n0_;have HB:=n1_;have HK:=n2_;clear n0_ n1_ n2_;clear hg hw hp_))
               repeat (go_quiet (first|(go_at_call 81;(with_reducible refine (bits_Sub32.calls (rd x0_2 (l1.length:Int)) ((x9_2)%4294967296) x10_2 t150 t151 _ A33.out).mono ?_);rintro e w' ⟨rfl,⟨nd,rfl⟩⟩;(try first|exact ⟨rfl,_,World.drewN_drewN _ _ _⟩|exact ⟨rfl,_,Eq.trans (World.drewN_drewN _ _ _) (congrArg (World.drewN _) (Nat.add_assoc _ _ _))⟩);have p34:0≤((l1.length:Int):Int):=of_decide_eq_true (by first|(with_reducible assumption)|assumption);have q34:((l1.length:Int):Int)<((x0_2.length:Int):Int):=of_decide_eq_true (by first|(with_reducible assumption)|assumption);obtain ⟨go34,co34,eo34,gb34,gl34,cl34,HG34⟩:=Wd.R_form HO_0.out (by omega);(first|cases eo34|(injection eo34 with ea_ en_ ec_;(first|subst ea_|(injection ea_ with ea_;subst ea_));subst ec_;clear en_));(try simp only [Wd.add_off] at *);have GB34:=Aside0.mk gb34;have GG34:=Aside0.mk HG34;clear gb34 gl34 HG34;have HMgo34:=Aside0.mk (show (P0_ go34∨w.heap.size≤go34) from (HO_0.out.1 _ rfl));(first|simp only [Wd.add_off] at hx149_0|skip);obtain ⟨hx34_0,hf34_0⟩:=Wd.R_celln 0 HO_0.out ((l1.length:Int):Int) p34 q34;replace p34:=eq_true p34;replace q34:=eq_true q34;obtain ⟨hy38_,hz38_⟩:=Wd.R_celln 0 HO_0.out ((l1.length:Int):Int) (of_decide_eq_true (by first|(with_reducible assumption)|assumption)) (of_decide_eq_true (by first|(with_reducible assumption)|assumption));(try simp only [Go.IntWalk.toNatUp] at hy38_ hz38_);have HP38:=Wd.R_putg HO_0.out ((l1.length:Int):Int) (of_decide_eq_true (by first|(with_reducible assumption)|assumption)) (of_decide_eq_true (by first|(with_reducible assumption)|assumption)) t150)|((with_reducible refine gate_store (t:=60) (p:=125) rfl ?_);(try (rw [drewN_self wr];generalize hq_:World.drewN wr _=wr;have n0_:=Aside0.mk (Wd.R_at hq_ HO_0.out);have n1_:=Aside0.mk (kept_at hq_ HK.out);have n2_:=Aside0.mk (below_at hq_ HB.out);clear hq_ HO_0 HK HB;have HO_0:=n0_;have HK:=n1_;have HB:=n2_;clear n0_ n1_ n2_;(try (obtain ⟨hy38_,hz38_⟩:=Wd.R_celln 0 HO_0.out ((l1.length:Int):Int) (of_decide_eq_true (by first|(with_reducible assumption)|assumption)) (of_decide_eq_true (by first|(with_reducible assumption)|assumption))));(try (try simp only [Go.IntWalk.toNatUp] at hy38_ hz38_));(try (obtain ⟨hyZ_,hzZ_⟩:=Wd.R_celln 0 HO_0.out ((l1.length:Int):Int) (of_decide_eq_true (by first|(with_reducible assumption)|assumption)) (of_decide_eq_true (by first|(with_reducible assumption)|assumption))));(try (have HP38:=Wd.R_putg HO_0.out ((l1.length:Int):Int) (of_decide_eq_true (by first|(with_reducible assumption)|assumption)) (of_decide_eq_true (by first|(with_reducible assumption)|assumption)) t150))));refine store_event (t:=60) (p:=125) (v:=?vo_w39) (w1:=(wr.setCell ⟨go34,pre_.length+((l1.length:Int):Int).toNat,none⟩ (.int .u32 t150))) ?hg ?ho ?hn ?hr ?_;(case ho=>rfl);(case hg=>rfl);(case hn=>rfl);(case hr=>first|(go_simp;done)|(go_simp;rfl));intro w39 hw;have hg:wr.grownBy w39 (some go34):=(by rw [hw];exact HP38.2);have hp_:Wd.R 60 pre_ post_ w39 w0.heap.size (fun k_=>(P0_ k_∨w.heap.size≤k_)) (.slice (some ⟨go34,pre_.length,none⟩) x0_2.length co11) y152:=(by rw [hw,Ny152.out];exact HP38.1);clear HP38;have n0_:=Aside0.mk (hp_);have n1_:=Aside0.mk ((by rw [hw];exact below_set (HB.out) GB34.out:Below w0.heap.size w0 w39));have n2_:=Aside0.mk (Kept.of_grown (S:=(fun k_=>P0_ k_)) hg (by repeat (first|(with_reducible first|exact HK.out|apply Kept.alloc|apply Kept.drewN|apply Kept.drew)|exact HK.out)) (fun k_ e_=>(HO_0.out.1 k_ e_)));clear HO_0;clear HB;clear HK;have HO_0:=n0_;have HB:=n1_;have HK:=n2_;clear n0_ n1_ n2_;clear hg hw hp_));try go_wp2_with (first|(go_at_call 81;(with_reducible refine (bits_Sub32.calls (rd x0_2 (l1.length:Int)) ((x9_2)%4294967296) x10_2 t150 t151 _ A33.out).mono ?_);rintro e w' ⟨rfl,⟨nd,rfl⟩⟩;(try first|exact ⟨rfl,_,World.drewN_drewN _ _ _⟩|exact ⟨rfl,_,Eq.trans (World.drewN_drewN _ _ _) (congrArg (World.drewN _) (Nat.add_assoc _ _ _))⟩);have p34:0≤((l1.length:Int):Int):=of_decide_eq_true (by first|(with_reducible assumption)|assumption);have q34:((l1.length:Int):Int)<((x0_2.length:Int):Int):=of_decide_eq_true (by first|(with_reducible assumption)|assumption);obtain ⟨go34,co34,eo34,gb34,gl34,cl34,HG34⟩:=Wd.R_form HO_0.out (by omega);(first|cases eo34|(injection eo34 with ea_ en_ ec_;(first|subst ea_|(injection ea_ with ea_;subst ea_));subst ec_;clear en_));(try simp only [Wd.add_off] at *);have GB34:=Aside0.mk gb34;have GG34:=Aside0.mk HG34;clear gb34 gl34 HG34;have HMgo34:=Aside0.mk (show (P0_ go34∨w.heap.size≤go34) from (HO_0.out.1 _ rfl));(first|simp only [Wd.add_off] at hx149_0|skip);obtain ⟨hx34_0,hf34_0⟩:=Wd.R_celln 0 HO_0.out ((l1.length:Int):Int) p34 q34;replace p34:=eq_true p34;replace q34:=eq_true q34;obtain ⟨hy38_,hz38_⟩:=Wd.R_celln 0 HO_0.out ((l1.length:Int):Int) (of_decide_eq_true (by first|(with_reducible assumption)|assumption)) (of_decide_eq_true (by first|(with_reducible assumption)|assumption));(try simp only [Go.IntWalk.toNatUp] at hy38_ hz38_);have HP38:=Wd.R_putg HO_0.out ((l1.length:Int):Int) (of_decide_eq_true (by first|(with_reducible assumption)|assumption)) (of_decide_eq_true (by first|(with_reducible assumption)|assumption)) t150)|((with_reducible refine gate_store (t:=60) (p:=125) rfl ?_);(try (rw [drewN_self wr];generalize hq_:World.drewN wr _=wr;have n0_:=Aside0.mk (Wd.R_at hq_ HO_0.out);have n1_:=Aside0.mk (kept_at hq_ HK.out);have n2_:=Aside0.mk (below_at hq_ HB.out);clear hq_ HO_0 HK HB;have HO_0:=n0_;have HK:=n1_;have HB:=n2_;clear n0_ n1_ n2_;(try (obtain ⟨hy38_,hz38_⟩:=Wd.R_celln 0 HO_0.out ((l1.length:Int):Int) (of_decide_eq_true (by first|(with_reducible assumption)|assumption)) (of_decide_eq_true (by first|(with_reducible assumption)|assumption))));(try (try simp only [Go.IntWalk.toNatUp] at hy38_ hz38_));(try (obtain ⟨hyZ_,hzZ_⟩:=Wd.R_celln 0 HO_0.out ((l1.length:Int):Int) (of_decide_eq_true (by first|(with_reducible assumption)|assumption)) (of_decide_eq_true (by first|(with_reducible assumption)|assumption))));(try (have HP38:=Wd.R_putg HO_0.out ((l1.length:Int):Int) (of_decide_eq_true (by first|(with_reducible assumption)|assumption)) (of_decide_eq_true (by first|(with_reducible assumption)|assumption)) t150))));refine store_event (t:=60) (p:=125) (v:=?vo_w39) (w1:=(wr.setCell ⟨go34,pre_.length+((l1.length:Int):Int).toNat,none⟩ (.int .u32 t150))) ?hg ?ho ?hn ?hr ?_;(case ho=>rfl);(case hg=>rfl);(case hn=>rfl);(case hr=>first|(go_simp;done)|(go_simp;rfl));intro w39 hw;have hg:wr.grownBy w39 (some go34):=(by rw [hw];exact HP38.2);have hp_:Wd.R 60 pre_ post_ w39 w0.heap.size (fun k_=>(P0_ k_∨w.heap.size≤k_)) (.slice (some ⟨go34,pre_.length,none⟩) x0_2.length co11) y152:=(by rw [hw,Ny152.out];exact HP38.1);clear HP38;have n0_:=Aside0.mk (hp_);have n1_:=Aside0.mk ((by rw [hw];exact below_set (HB.out) GB34.out:Below w0.heap.size w0 w39));have n2_:=Aside0.mk (Kept.of_grown (S:=(fun k_=>P0_ k_)) hg (by repeat (first|(with_reducible first|exact HK.out|apply Kept.alloc|apply Kept.drewN|apply Kept.drew)|exact HK.out)) (fun k_ e_=>(HO_0.out.1 k_ e_)));clear HO_0;clear HB;clear HK;have HO_0:=n0_;have HB:=n1_;have HK:=n2_;clear n0_ n1_ n2_;clear hg hw hp_)))
               go_loopg [14,132] k2 (fun kq v14 v132 w'=>∃ (x0_3:List Int) (x14_3:Int) (x132_3:Int),v14 = .int .u32 x14_3∧v132 = .int .i64 x132_3∧Aside0 (natural_step.l2 kq x0_3 (l1.length:Int) x7_9 x14_3 l1 (l1.length:Int) x132_3=some (r1,r2))∧Aside0 (kq≤k2)∧Aside0 (Wd.R 60 pre_ post_ w' w0.heap.size (fun k_=>(P0_ k_∨w.heap.size≤k_)) (.slice (some ⟨go34,pre_.length,none⟩) x0_2.length co11) x0_3)∧Aside0 (Kept w w' (fun k_=>P0_ k_))∧Aside0 (Below w0.heap.size w0 w'))
               case atStart=>exact ⟨(y152),(0),(0),(by first|rfl|(simp;done)|(simp [*];done)),(by first|rfl|(simp;done)|(simp [*];done)),H',⟨Nat.le_refl _⟩,⟨by (try simp only [hl0_2]);(with_reducible repeat (first|apply Wd.R_alloc|apply Wd.R_drewN|apply Wd.R_drew));exact HO_0.out⟩,⟨by repeat (first|(with_reducible first|exact HK.out|apply Kept.alloc|apply Kept.drewN|apply Kept.drew)|exact HK.out)⟩,⟨by repeat (first|(with_reducible first|exact HB.out|apply below_alloc|apply pw_below_drewN|apply below_drew1)|exact HB.out)⟩⟩
               case round=>
                clear H'
                try clear c1
                try clear p1
                try clear q1
                try clear hx1
                try clear c2
                try clear p2
                try clear q2
                try clear hx2
                try clear hf2
                try clear c3
                try clear c3b0
                try clear c3b1
                try clear p3
                try clear q3
                try clear hx3
                try clear hf3
                try clear c4
                try clear c4b0
                try clear c4b1
                try clear c6
                try clear c6b0
                try clear p6
                try clear c7
                try clear c7b0
                try clear c8
                try clear c8b0
                try clear c9
                try clear c9b0
                try clear c9b1
                try clear c13
                try clear c13b0
                try clear p13
                try clear q13
                try clear hx13
                try clear p14
                try clear q14
                try clear hx14
                try clear c15
                try clear c15b0
                try clear c16
                try clear c16b0
                try clear c17
                try clear c17b0
                try clear c18
                try clear c20
                try clear c20b0
                try clear c21
                try clear c21b0
                try clear c22
                try clear c22b0
                try clear c23
                try clear c23b0
                try clear c24
                try clear c24b0
                try clear c25
                try clear c25b0
                try clear c26
                try clear c26b0
                try clear p28
                try clear q28
                try clear hx28
                try clear hf28
                try clear c31
                try clear c31b0
                try clear c31b1
                try clear c32
                try clear c32b0
                try clear c32b1
                try clear p34
                try clear q34
                try clear hx34
                try clear hf34
                try clear c35
                try clear c35b0
                try clear c35b1
                try clear hx137_0
                try clear hx138_0
                try clear hx139_0
                try clear hx140_0
                try clear hx141_0
                try clear hx142_0
                try clear hx143_0
                try clear hx144_0
                try clear hx145_0
                try clear hx149_0
                try clear hx28_0
                try clear hx34_0
                try clear p1
                try clear p13
                try clear p137
                try clear p138
                try clear p139
                try clear p14
                try clear p140
                try clear p141
                try clear p142
                try clear p143
                try clear p144
                try clear p145
                try clear p149
                try clear p2
                try clear p28
                try clear p34
                try clear p6
                try clear q1
                try clear q13
                try clear q137
                try clear q138
                try clear q139
                try clear q14
                try clear q140
                try clear q141
                try clear q142
                try clear q143
                try clear q144
                try clear q145
                try clear q149
                try clear q28
                try clear q34
                obtain ⟨x0_3,x14_3,x132_3,rfl,rfl,HA,HK3,HO_0,HK,HB⟩:=hrel
                have hl0_3:=(Wd.R_reads' HO_0.out).1
                rw [hl0_3] at HO_0
                (try simp only [hl0_3])
                cases gk with
                | zero=>exact absurd HA.out (by simp [natural_step.l2])
                | succ k3=>
                 have H:=HA.out
                 clear HA
                 simp only [natural_step.l2] at H
                 by_cases c40:x132_3<(l1.length:Int)
                 ·rw [if_pos c40] at H
                  have c40b0:decide (x132_3<(l1.length:Int))=true:=decide_eq_true c40
                  clear c40
                  by_cases c41:0≤x132_3
                  ·rw [if_pos c41] at H
                   have c41b0:decide (0≤x132_3)=true:=decide_eq_true c41
                   clear c41
                   by_cases c42:x132_3<(l1.length:Int)
                   ·rw [if_pos c42] at H
                    have c42b0:decide (x132_3<(l1.length:Int))=true:=decide_eq_true c42
                    clear c42
                    by_cases c43:x132_3<(x0_3.length:Int)
                    ·rw [if_pos c43] at H
                     have c43b0:decide (x132_3<(x0_3.length:Int))=true:=decide_eq_true c43
                     clear c43
                     replace H:=Option.bind_eq_some_iff.mp H
                     obtain ⟨⟨t155,t156⟩,A440,H⟩:=H
                     replace H:(natural_step.l2 k3 (x0_3.set (x132_3:Int).toNat t155) (l1.length:Int) x7_9 t156 l1 (l1.length:Int) (wrap64 (x132_3+1)))=some (r1,r2):=H
                     have A44:=Aside0.mk A440
                     clear A440
                     obtain ⟨y157,hy157⟩:∃ y_:List Int,y_=(x0_3.set (x132_3:Int).toNat t155):=⟨_,rfl⟩
                     replace H:(natural_step.l2 k3 y157 (l1.length:Int) x7_9 t156 l1 (l1.length:Int) (wrap64 (x132_3+1)))=some (r1,r2):=by first|(rw [hy157];with_reducible exact H)|(have H2_:=(Option.bind_some _ _).symm.trans H;rw [hy157];with_reducible exact H2_)|(have H2_:=(Option.bind_some _ _).symm.trans H;with_reducible exact H2_)|with_reducible exact H|(rw [hy157];exact H)|exact H
                     have Ny157:=Aside0.mk hy157
                     clear hy157
                     have H':=Aside0.mk H
                     clear H
                     have p153:0≤(x132_3:Int):=of_decide_eq_true (by first|(with_reducible assumption)|assumption)
                     have q153:x132_3<(l1.length:Int):=of_decide_eq_true (by first|(with_reducible assumption)|assumption)
                     obtain ⟨ad153,e153,hx153_0⟩:=Kd.at_int (Kd.C_kept_now HR1.out HK.out) x132_3 p153 q153
                     obtain rfl:ad139=ad153:=(by injection e153)
                     replace p153:=eq_true p153
                     replace q153:=eq_true q153
                     have p154:0≤(x132_3:Int):=of_decide_eq_true (by first|(with_reducible assumption)|assumption)
                     have q154:x132_3<(x0_3.length:Int):=of_decide_eq_true (by first|(with_reducible assumption)|assumption)
                     obtain ⟨ad154,e154,hx154_0⟩:=Kd.at_int (Wd.R_reads' HO_0.out).2.2 x132_3 p154 q154
                     obtain rfl:(⟨go34,pre_.length,none⟩:Addr)=ad154:=(by injection e154)
                     (first|simp only [Wd.add_off] at hx154_0|simp only [add_at] at hx154_0|simp only [Addr.add,Nat.zero_add] at hx154_0|skip)
                     replace p154:=eq_true p154
                     replace q154:=eq_true q154
                     go_wp2_with (first|(go_at_call 50;(with_reducible refine (bits_Add32.calls (rd x0_3 x132_3) (rd l1 x132_3) x14_3 t155 t156 _ A44.out).mono ?_);rintro e w' ⟨rfl,⟨nd,rfl⟩⟩;(try first|exact ⟨rfl,_,World.drewN_drewN _ _ _⟩|exact ⟨rfl,_,Eq.trans (World.drewN_drewN _ _ _) (congrArg (World.drewN _) (Nat.add_assoc _ _ _))⟩);have p45:0≤(x132_3:Int):=of_decide_eq_true (by first|(with_reducible assumption)|assumption);have q45:(x132_3:Int)<((x0_3.length:Int):Int):=of_decide_eq_true (by first|(with_reducible assumption)|assumption);obtain ⟨hx45_0,hf45_0⟩:=Wd.R_celln 0 HO_0.out (x132_3:Int) p45 q45;replace p45:=eq_true p45;replace q45:=eq_true q45;obtain ⟨hy46_,hz46_⟩:=Wd.R_celln 0 HO_0.out (x132_3:Int) (of_decide_eq_true (by first|(with_reducible assumption)|assumption)) (of_decide_eq_true (by first|(with_reducible assumption)|assumption));have HP46:=Wd.R_putg HO_0.out (x132_3:Int) (of_decide_eq_true (by first|(with_reducible assumption)|assumption)) (of_decide_eq_true (by first|(with_reducible assumption)|assumption)) t155)|((with_reducible refine gate_store (t:=60) (p:=149) rfl ?_);(try (rw [drewN_self wr];generalize hq_:World.drewN wr _=wr;have n0_:=Aside0.mk (Wd.R_at hq_ HO_0.out);have n1_:=Aside0.mk (kept_at hq_ HK.out);have n2_:=Aside0.mk (below_at hq_ HB.out);clear hq_ HO_0 HK HB;have HO_0:=n0_;have HK:=n1_;have HB:=n2_;clear n0_ n1_ n2_;(try (obtain ⟨hy46_,hz46_⟩:=Wd.R_celln 0 HO_0.out (x132_3:Int) (of_decide_eq_true (by first|(with_reducible assumption)|assumption)) (of_decide_eq_true (by first|(with_reducible assumption)|assumption))));(try (obtain ⟨hyZ_,hzZ_⟩:=Wd.R_celln 0 HO_0.out (x132_3:Int) (of_decide_eq_true (by first|(with_reducible assumption)|assumption)) (of_decide_eq_true (by first|(with_reducible assumption)|assumption))));(try (have HP46:=Wd.R_putg HO_0.out (x132_3:Int) (of_decide_eq_true (by first|(with_reducible assumption)|assumption)) (of_decide_eq_true (by first|(with_reducible assumption)|assumption)) t155))));refine store_event (t:=60) (p:=149) (v:=?vo_w47) (w1:=(wr.setCell ⟨go34,pre_.length+(x132_3:Int).toNat,none⟩ (.int .u32 t155))) ?hg ?ho ?hn ?hr ?_;(case ho=>rfl);(case hg=>rfl);(case hn=>rfl);(case hr=>first|(go_simp;done)|(go_simp;rfl));intro w47 hw;have hg:wr.grownBy w47 (some go34):=(by rw [hw];exact HP46.2);have hp_:Wd.R 60 pre_ post_ w47 w0.heap.size (fun k_=>(P0_ k_∨w.heap.size≤k_)) (.slice (some ⟨go34,pre_.length,none⟩) x0_3.length co11) y157:=(by rw [hw,Ny157.out];exact HP46.1);clear HP46;have n0_:=Aside0.mk (hp_);have n1_:=Aside0.mk ((by rw [hw];exact below_set (HB.out) GB34.out:Below w0.heap.size w0 w47));have n2_:=Aside0.mk (Kept.of_grown (S:=(fun k_=>P0_ k_)) hg (by repeat (first|(with_reducible first|exact HK.out|apply Kept.alloc|apply Kept.drewN|apply Kept.drew)|exact HK.out)) (fun k_ e_=>(HO_0.out.1 k_ e_)));clear HO_0;clear HB;clear HK;have HO_0:=n0_;have HB:=n1_;have HK:=n2_;clear n0_ n1_ n2_;clear hg hw hp_))
                     repeat (go_quiet (first|(go_at_call 50;(with_reducible refine (bits_Add32.calls (rd x0_3 x132_3) (rd l1 x132_3) x14_3 t155 t156 _ A44.out).mono ?_);rintro e w' ⟨rfl,⟨nd,rfl⟩⟩;(try first|exact ⟨rfl,_,World.drewN_drewN _ _ _⟩|exact ⟨rfl,_,Eq.trans (World.drewN_drewN _ _ _) (congrArg (World.drewN _) (Nat.add_assoc _ _ _))⟩);have p45:0≤(x132_3:Int):=of_decide_eq_true (by first|(with_reducible assumption)|assumption);have q45:(x132_3:Int)<((x0_3.length:Int):Int):=of_decide_eq_true (by first|(with_reducible assumption)|assumption);obtain ⟨hx45_0,hf45_0⟩:=Wd.R_celln 0 HO_0.out (x132_3:Int) p45 q45;replace p45:=eq_true p45;replace q45:=eq_true q45;obtain ⟨hy46_,hz46_⟩:=Wd.R_celln 0 HO_0.out (x132_3:Int) (of_decide_eq_true (by first|(with_reducible assumption)|assumption)) (of_decide_eq_true (by first|(with_reducible assumption)|assumption));have HP46:=Wd.R_putg HO_0.out (x132_3:Int) (of_decide_eq_true (by first|(with_reducible assumption)|assumption)) (of_decide_eq_true (by first|(with_reducible assumption)|assumption)) t155)|((with_reducible refine gate_store (t:=60) (p:=149) rfl ?_);(try (rw [drewN_self wr];generalize hq_:World.drewN wr _=wr;have n0_:=Aside0.mk (Wd.R_at hq_ HO_0.out);have n1_:=Aside0.mk (kept_at hq_ HK.out);have n2_:=Aside0.mk (below_at hq_ HB.out);clear hq_ HO_0 HK HB;have HO_0:=n0_;have HK:=n1_;have HB:=n2_;clear n0_ n1_ n2_;(try (obtain ⟨hy46_,hz46_⟩:=Wd.R_celln 0 HO_0.out (x132_3:Int) (of_decide_eq_true (by first|(with_reducible assumption)|assumption)) (of_decide_eq_true (by first|(with_reducible assumption)|assumption))));(try (obtain ⟨hyZ_,hzZ_⟩:=Wd.R_celln 0 HO_0.out (x132_3:Int) (of_decide_eq_true (by first|(with_reducible assumption)|assumption)) (of_decide_eq_true (by first|(with_reducible assumption)|assumption))));(try (have HP46:=Wd.R_putg HO_0.out (x132_3:Int) (of_decide_eq_true (by first|(with_reducible assumption)|assumption)) (of_decide_eq_true (by first|(with_reducible assumption)|assumption)) t155))));refine store_event (t:=60) (p:=149) (v:=?vo_w47) (w1:=(wr.setCell ⟨go34,pre_.length+(x132_3:Int).toNat,none⟩ (.int .u32 t155))) ?hg ?ho ?hn ?hr ?_;(case ho=>rfl);(case hg=>rfl);(case hn=>rfl);(case hr=>first|(go_simp;done)|(go_simp;rfl));intro w47 hw;have hg:wr.grownBy w47 (some go34):=(by rw [hw];exact HP46.2);have hp_:Wd.R 60 pre_ post_ w47 w0.heap.size (fun k_=>(P0_ k_∨w.heap.size≤k_)) (.slice (some ⟨go34,pre_.length,none⟩) x0_3.length co11) y157:=(by rw [hw,Ny157.out];exact HP46.1);clear HP46;have n0_:=Aside0.mk (hp_);have n1_:=Aside0.mk ((by rw [hw];exact below_set (HB.out) GB34.out:Below w0.heap.size w0 w47));have n2_:=Aside0.mk (Kept.of_grown (S:=(fun k_=>P0_ k_)) hg (by repeat (first|(with_reducible first|exact HK.out|apply Kept.alloc|apply Kept.drewN|apply Kept.drew)|exact HK.out)) (fun k_ e_=>(HO_0.out.1 k_ e_)));clear HO_0;clear HB;clear HK;have HO_0:=n0_;have HB:=n1_;have HK:=n2_;clear n0_ n1_ n2_;clear hg hw hp_));try go_wp2_with (first|(go_at_call 50;(with_reducible refine (bits_Add32.calls (rd x0_3 x132_3) (rd l1 x132_3) x14_3 t155 t156 _ A44.out).mono ?_);rintro e w' ⟨rfl,⟨nd,rfl⟩⟩;(try first|exact ⟨rfl,_,World.drewN_drewN _ _ _⟩|exact ⟨rfl,_,Eq.trans (World.drewN_drewN _ _ _) (congrArg (World.drewN _) (Nat.add_assoc _ _ _))⟩);have p45:0≤(x132_3:Int):=of_decide_eq_true (by first|(with_reducible assumption)|assumption);have q45:(x132_3:Int)<((x0_3.length:Int):Int):=of_decide_eq_true (by first|(with_reducible assumption)|assumption);obtain ⟨hx45_0,hf45_0⟩:=Wd.R_celln 0 HO_0.out (x132_3:Int) p45 q45;replace p45:=eq_true p45;replace q45:=eq_true q45;obtain ⟨hy46_,hz46_⟩:=Wd.R_celln 0 HO_0.out (x132_3:Int) (of_decide_eq_true (by first|(with_reducible assumption)|assumption)) (of_decide_eq_true (by first|(with_reducible assumption)|assumption));have HP46:=Wd.R_putg HO_0.out (x132_3:Int) (of_decide_eq_true (by first|(with_reducible assumption)|assumption)) (of_decide_eq_true (by first|(with_reducible assumption)|assumption)) t155)|((with_reducible refine gate_store (t:=60) (p:=149) rfl ?_);(try (rw [drewN_self wr];generalize hq_:World.drewN wr _=wr;have n0_:=Aside0.mk (Wd.R_at hq_ HO_0.out);have n1_:=Aside0.mk (kept_at hq_ HK.out);have n2_:=Aside0.mk (below_at hq_ HB.out);clear hq_ HO_0 HK HB;have HO_0:=n0_;have HK:=n1_;have HB:=n2_;clear n0_ n1_ n2_;(try (obtain ⟨hy46_,hz46_⟩:=Wd.R_celln 0 HO_0.out (x132_3:Int) (of_decide_eq_true (by first|(with_reducible assumption)|assumption)) (of_decide_eq_true (by first|(with_reducible assumption)|assumption))));(try (obtain ⟨hyZ_,hzZ_⟩:=Wd.R_celln 0 HO_0.out (x132_3:Int) (of_decide_eq_true (by first|(with_reducible assumption)|assumption)) (of_decide_eq_true (by first|(with_reducible assumption)|assumption))));(try (have HP46:=Wd.R_putg HO_0.out (x132_3:Int) (of_decide_eq_true (by first|(with_reducible assumption)|assumption)) (of_decide_eq_true (by first|(with_reducible assumption)|assumption)) t155))));refine store_event (t:=60) (p:=149) (v:=?vo_w47) (w1:=(wr.setCell ⟨go34,pre_.length+(x132_3:Int).toNat,none⟩ (.int .u32 t155))) ?hg ?ho ?hn ?hr ?_;(case ho=>rfl);(case hg=>rfl);(case hn=>rfl);(case hr=>first|(go_simp;done)|(go_simp;rfl));intro w47 hw;have hg:wr.grownBy w47 (some go34):=(by rw [hw];exact HP46.2);have hp_:Wd.R 60 pre_ post_ w47 w0.heap.size (fun k_=>(P0_ k_∨w.heap.size≤k_)) (.slice (some ⟨go34,pre_.length,none⟩) x0_3.length co11) y157:=(by rw [hw,Ny157.out];exact HP46.1);clear HP46;have n0_:=Aside0.mk (hp_);have n1_:=Aside0.mk ((by rw [hw];exact below_set (HB.out) GB34.out:Below w0.heap.size w0 w47));have n2_:=Aside0.mk (Kept.of_grown (S:=(fun k_=>P0_ k_)) hg (by repeat (first|(with_reducible first|exact HK.out|apply Kept.alloc|apply Kept.drewN|apply Kept.drew)|exact HK.out)) (fun k_ e_=>(HO_0.out.1 k_ e_)));clear HO_0;clear HB;clear HK;have HO_0:=n0_;have HB:=n1_;have HK:=n2_;clear n0_ n1_ n2_;clear hg hw hp_)))
                     (try simp only [← hl0_3])
                     go_roundg k3
                     case measure=>have:=HJ9.out;have:=HK2.out;have:=HK3.out;omega
                     case rel=>exact ⟨(y157),(t156),(wrap64 (x132_3+1)),(by first|rfl|(simp;done)|(simp [*];done)),(by first|rfl|(simp;done)|(simp [*];done)),H',⟨by have:=HJ9.out;have:=HK2.out;have:=HK3.out;omega⟩,⟨by (try simp only [hl0_2]);(try simp only [hl0_3]);(with_reducible repeat (first|apply Wd.R_alloc|apply Wd.R_drewN|apply Wd.R_drew));exact HO_0.out⟩,⟨by repeat (first|(with_reducible first|exact HK.out|apply Kept.alloc|apply Kept.drewN|apply Kept.drew)|exact HK.out)⟩,⟨by repeat (first|(with_reducible first|exact HB.out|apply below_alloc|apply pw_below_drewN|apply below_drew1)|exact HB.out)⟩⟩
                    ·rw [if_neg c43] at H
                     exact absurd H (by simp)
                   ·rw [if_neg c42] at H
                    exact absurd H (by simp)
                  ·rw [if_neg c41] at H
                   exact absurd H (by simp)
                 ·rw [if_neg c40] at H
                  have c40b0:decide (x132_3<(l1.length:Int))=false:=decide_eq_false c40
                  clear c40
                  by_cases c48:0≤(l1.length:Int)
                  ·rw [if_pos c48] at H
                   have c48b0:decide (0≤(l1.length:Int))=true:=decide_eq_true c48
                   have c48b1:decide (0≤l1.length)=true:=decide_eq_true (by omega)
                   clear c48
                   by_cases c49:(l1.length:Int)<(x0_3.length:Int)
                   ·rw [if_pos c49] at H
                    have c49b0:decide ((l1.length:Int)<(x0_3.length:Int))=true:=decide_eq_true c49
                    have c49b1:decide (l1.length<x0_3.length)=true:=decide_eq_true (Int.ofNat_lt.mp c49)
                    clear c49
                    obtain ⟨y159,hy159⟩:∃ y_:List Int,y_=(x0_3.set ((l1.length:Int):Int).toNat (((rd x0_3 (l1.length:Int))+x14_3)%4294967296)):=⟨_,rfl⟩
                    replace H:(some ((IntKind.u64.wrap (x7_9-1))%4294967296,y159))=some (r1,r2):=by first|(rw [hy159];with_reducible exact H)|(have H2_:=(Option.bind_some _ _).symm.trans H;rw [hy159];with_reducible exact H2_)|(have H2_:=(Option.bind_some _ _).symm.trans H;with_reducible exact H2_)|with_reducible exact H|(rw [hy159];exact H)|exact H
                    have Ny159:=Aside0.mk hy159
                    clear hy159
                    simp only [Option.some.injEq,Prod.mk.injEq] at H
                    obtain ⟨rfl,rfl⟩:=H
                    have p158:0≤((l1.length:Int):Int):=of_decide_eq_true (by first|(with_reducible assumption)|assumption)
                    have q158:(l1.length:Int)<(x0_3.length:Int):=of_decide_eq_true (by first|(with_reducible assumption)|assumption)
                    obtain ⟨ad158,e158,hx158_0⟩:=Kd.at_int (Wd.R_reads' HO_0.out).2.2 (l1.length:Int) p158 q158
                    obtain rfl:(⟨go34,pre_.length,none⟩:Addr)=ad158:=(by injection e158)
                    (first|simp only [Wd.add_off] at hx158_0|simp only [add_at] at hx158_0|simp only [Addr.add,Nat.zero_add] at hx158_0|skip)
                    (try simp only [Go.IntWalk.toNatUp] at hx158_0)
                    (try simp only [hl0_2,hl0_3] at p158)
                    (try simp only [hl0_2,hl0_3] at q158)
                    (try simp only [hl0_2,hl0_3] at hx158_0)
                    replace p158:=eq_true p158
                    replace q158:=eq_true q158
                    have p50:0≤((l1.length:Int):Int):=of_decide_eq_true (by first|(with_reducible assumption)|assumption)
                    have q50:((l1.length:Int):Int)<((x0_3.length:Int):Int):=of_decide_eq_true (by first|(with_reducible assumption)|assumption)
                    obtain ⟨hx50_0,hf50_0⟩:=Wd.R_celln 0 HO_0.out ((l1.length:Int):Int) p50 q50
                    (try simp only [Int.toNat_natCast] at hx50_0);(try simp only [Int.toNat_natCast] at hf50_0)
                    replace p50:=eq_true p50
                    replace q50:=eq_true q50
                    have HP51:=Wd.R_putg HO_0.out ((l1.length:Int):Int) (of_decide_eq_true (by first|(with_reducible assumption)|assumption)) (of_decide_eq_true (by first|(with_reducible assumption)|assumption)) (((rd x0_3 (l1.length:Int))+x14_3)%4294967296)
                    go_wp2_with (first|((with_reducible refine gate_store (t:=60) (p:=157) rfl ?_);(try (rw [drewN_self wr];generalize hq_:World.drewN wr _=wr;have n0_:=Aside0.mk (Wd.R_at hq_ HO_0.out);have n1_:=Aside0.mk (kept_at hq_ HK.out);have n2_:=Aside0.mk (below_at hq_ HB.out);clear hq_ HO_0 HK HB;have HO_0:=n0_;have HK:=n1_;have HB:=n2_;clear n0_ n1_ n2_;(try (obtain ⟨hyZ_,hzZ_⟩:=Wd.R_celln 0 HO_0.out ((l1.length:Int):Int) (of_decide_eq_true (by first|(with_reducible assumption)|assumption)) (of_decide_eq_true (by first|(with_reducible assumption)|assumption))));(try (have HP51:=Wd.R_putg HO_0.out ((l1.length:Int):Int) (of_decide_eq_true (by first|(with_reducible assumption)|assumption)) (of_decide_eq_true (by first|(with_reducible assumption)|assumption)) (((rd x0_3 (l1.length:Int))+x14_3)%4294967296)))));refine store_event (t:=60) (p:=157) (v:=?vo_w52) (w1:=(wr.setCell ⟨go34,pre_.length+((l1.length:Int):Int).toNat,none⟩ (.int .u32 (((rd x0_3 (l1.length:Int))+x14_3)%4294967296)))) ?hg ?ho ?hn ?hr ?_;(case ho=>rfl);(case hg=>rfl);(case hn=>rfl);(case hr=>first|(go_simp;done)|(go_simp;rfl));intro w52 hw;have hg:wr.grownBy w52 (some go34):=(by rw [hw];exact HP51.2);have hp_:Wd.R 60 pre_ post_ w52 w0.heap.size (fun k_=>(P0_ k_∨w.heap.size≤k_)) (.slice (some ⟨go34,pre_.length,none⟩) x0_3.length co11) y159:=(by rw [hw,Ny159.out];exact HP51.1);clear HP51;have n0_:=Aside0.mk (hp_);have n1_:=Aside0.mk ((by rw [hw];exact below_set (HB.out) GB34.out:Below w0.heap.size w0 w52));have n2_:=Aside0.mk (Kept.of_grown (S:=(fun k_=>P0_ k_)) hg (by repeat (first|(with_reducible first|exact HK.out|apply Kept.alloc|apply Kept.drewN|apply Kept.drew)|exact HK.out)) (fun k_ e_=>(HO_0.out.1 k_ e_)));clear HO_0;clear HB;clear HK;have HO_0:=n0_;have HB:=n1_;have HK:=n2_;clear n0_ n1_ n2_;clear hg hw hp_))
                    repeat (go_quiet (first|((with_reducible refine gate_store (t:=60) (p:=157) rfl ?_);(try (rw [drewN_self wr];generalize hq_:World.drewN wr _=wr;have n0_:=Aside0.mk (Wd.R_at hq_ HO_0.out);have n1_:=Aside0.mk (kept_at hq_ HK.out);have n2_:=Aside0.mk (below_at hq_ HB.out);clear hq_ HO_0 HK HB;have HO_0:=n0_;have HK:=n1_;have HB:=n2_;clear n0_ n1_ n2_;(try (obtain ⟨hyZ_,hzZ_⟩:=Wd.R_celln 0 HO_0.out ((l1.length:Int):Int) (of_decide_eq_true (by first|(with_reducible assumption)|assumption)) (of_decide_eq_true (by first|(with_reducible assumption)|assumption))));(try (have HP51:=Wd.R_putg HO_0.out ((l1.length:Int):Int) (of_decide_eq_true (by first|(with_reducible assumption)|assumption)) (of_decide_eq_true (by first|(with_reducible assumption)|assumption)) (((rd x0_3 (l1.length:Int))+x14_3)%4294967296)))));refine store_event (t:=60) (p:=157) (v:=?vo_w52) (w1:=(wr.setCell ⟨go34,pre_.length+((l1.length:Int):Int).toNat,none⟩ (.int .u32 (((rd x0_3 (l1.length:Int))+x14_3)%4294967296)))) ?hg ?ho ?hn ?hr ?_;(case ho=>rfl);(case hg=>rfl);(case hn=>rfl);(case hr=>first|(go_simp;done)|(go_simp;rfl));intro w52 hw;have hg:wr.grownBy w52 (some go34):=(by rw [hw];exact HP51.2);have hp_:Wd.R 60 pre_ post_ w52 w0.heap.size (fun k_=>(P0_ k_∨w.heap.size≤k_)) (.slice (some ⟨go34,pre_.length,none⟩) x0_3.length co11) y159:=(by rw [hw,Ny159.out];exact HP51.1);clear HP51;have n0_:=Aside0.mk (hp_);have n1_:=Aside0.mk ((by rw [hw];exact below_set (HB.out) GB34.out:Below w0.heap.size w0 w52));have n2_:=Aside0.mk (Kept.of_grown (S:=(fun k_=>P0_ k_)) hg (by repeat (first|(with_reducible first|exact HK.out|apply Kept.alloc|apply Kept.drewN|apply Kept.drew)|exact HK.out)) (fun k_ e_=>(HO_0.out.1 k_ e_)));clear HO_0;clear HB;clear HK;have HO_0:=n0_;have HB:=n1_;have HK:=n2_;clear n0_ n1_ n2_;clear hg hw hp_));try go_wp2_with (first|((with_reducible refine gate_store (t:=60) (p:=157) rfl ?_);(try (rw [drewN_self wr];generalize hq_:World.drewN wr _=wr;have n0_:=Aside0.mk (Wd.R_at hq_ HO_0.out);have n1_:=Aside0.mk (kept_at hq_ HK.out);have n2_:=Aside0.mk (below_at hq_ HB.out);clear hq_ HO_0 HK HB;have HO_0:=n0_;have HK:=n1_;have HB:=n2_;clear n0_ n1_ n2_;(try (obtain ⟨hyZ_,hzZ_⟩:=Wd.R_celln 0 HO_0.out ((l1.length:Int):Int) (of_decide_eq_true (by first|(with_reducible assumption)|assumption)) (of_decide_eq_true (by first|(with_reducible assumption)|assumption))));(try (have HP51:=Wd.R_putg HO_0.out ((l1.length:Int):Int) (of_decide_eq_true (by first|(with_reducible assumption)|assumption)) (of_decide_eq_true (by first|(with_reducible assumption)|assumption)) (((rd x0_3 (l1.length:Int))+x14_3)%4294967296)))));refine store_event (t:=60) (p:=157) (v:=?vo_w52) (w1:=(wr.setCell ⟨go34,pre_.length+((l1.length:Int):Int).toNat,none⟩ (.int .u32 (((rd x0_3 (l1.length:Int))+x14_3)%4294967296)))) ?hg ?ho ?hn ?hr ?_;(case ho=>rfl);(case hg=>rfl);(case hn=>rfl);(case hr=>first|(go_simp;done)|(go_simp;rfl));intro w52 hw;have hg:wr.grownBy w52 (some go34):=(by rw [hw];exact HP51.2);have hp_:Wd.R 60 pre_ post_ w52 w0.heap.size (fun k_=>(P0_ k_∨w.heap.size≤k_)) (.slice (some ⟨go34,pre_.length,none⟩) x0_3.length co11) y159:=(by rw [hw,Ny159.out];exact HP51.1);clear HP51;have n0_:=Aside0.mk (hp_);have n1_:=Aside0.mk ((by rw [hw];exact below_set (HB.out) GB34.out:Below w0.heap.size w0 w52));have n2_:=Aside0.mk (Kept.of_grown (S:=(fun k_=>P0_ k_)) hg (by repeat (first|(with_reducible first|exact HK.out|apply Kept.alloc|apply Kept.drewN|apply Kept.drew)|exact HK.out)) (fun k_ e_=>(HO_0.out.1 k_ e_)));clear HO_0;clear HB;clear HK;have HO_0:=n0_;have HB:=n1_;have HK:=n2_;clear n0_ n1_ n2_;clear hg hw hp_)))
                    go_ret
                    exact ⟨by first|rfl|(simp [errW_none,errW_some] <;> rfl)|(simp only [← hji5];first|rfl|(simp [errW_none,errW_some] <;> rfl))|(simp [*,errW_none,errW_some] <;> rfl),(by first|exact (by (with_reducible repeat (first|apply Wd.R_alloc|apply Wd.R_drewN|apply Wd.R_drew));exact HO_0.out)|(simp only [hl0_2,hl0_3];exact (by (with_reducible repeat (first|apply Wd.R_alloc|apply Wd.R_drewN|apply Wd.R_drew));exact HO_0.out))),by repeat (first|(with_reducible first|exact HB.out|apply below_alloc|apply pw_below_drewN|apply below_drew1)|exact HB.out),by repeat (first|(with_reducible first|exact HK.out|apply Kept.alloc|apply Kept.drewN|apply Kept.drew)|exact HK.out)⟩
                   ·rw [if_neg c49] at H
                    exact absurd H (by simp)
                  ·rw [if_neg c48] at H
                   exact absurd H (by simp)
             ·rw [if_neg c32] at H
              exact absurd H (by simp)
            ·rw [if_neg c31] at H
             exact absurd H (by simp)
     ·rw [if_neg c8] at H
      exact absurd H (by simp)
    ·rw [if_neg c7] at H
     exact absurd H (by simp)
   ·rw [if_neg c6] at H
    exact absurd H (by simp)
  ·rw [if_neg c4] at H
   exact absurd H (by simp)
 ·rw [if_neg c3] at H
  exact absurd H (by simp)
end Go.Proofs.YtjaflmhdclmolaaDoor.F
end
section
namespace Go.Proofs.YtjaflmhdclmolaaDoor.F
open Go.RowKit Go.Proofs.YtjaflmhdclmolaaDoorW.PrintWords Go.Proofs.YtjaflmhdclmolaaDoorW.PrintLast Go.Proofs.YtjaflmhdclmolaaDoorW.PrintMore
attribute [local go_sem] max2_int min2_int max_two min_two max_three min_three max_four min_four   
set_option linter.unusedVariables false
set_option linter.unusedSimpArgs false
def natural_unshift.l0:Nat→List Int→Int→List Int→Int→Int→Option (List Int)
 | 0,_,_,_,_,_=>none
 | k+1,x0,x1,x5,x12,x13=>if x13<x12 then (if 0≤x13 then (if x13<(x0.length:Int) then (if (wrap64 (x13+1))<(x0.length:Int) then (if 0≤(wrap64 (x13+1)) then (if 0≤x1 then (if x13<(x5.length:Int) then (natural_unshift.l0 k x0 x1 (x5.set (x13:Int).toNat ((shr .u64 (Go.bits .or .u64 (IntKind.u64.wrap (rd x0 x13)) (IntKind.u64.wrap ((IntKind.u64.wrap (rd x0 (wrap64 (x13+1))))*4294967296))) x1)%4294967296)) x12 (wrap64 (x13+1))) else (none)) else (none)) else (none)) else (if 0≤x1 then (if x13<(x5.length:Int) then (natural_unshift.l0 k x0 x1 (x5.set (x13:Int).toNat ((shr .u64 (IntKind.u64.wrap (rd x0 x13)) x1)%4294967296)) x12 (wrap64 (x13+1))) else (none)) else (none))) else (none)) else (none)) else ((natural_limbs_trim.f k x5).bind fun t167=>(some t167))
def natural_unshift.f (k:Nat) (l0:List Int) (a1:Int):Option (List Int):=if 0≤(l0.length:Int) then (if ((l0.length:Int):Int).toNat≤70368744177664 then (natural_unshift.l0 k l0 a1 (List.replicate ((l0.length:Int):Int).toNat 0) (l0.length:Int) 0) else (none)) else (none)
theorem natural_unshift.mono_l:∀ k,(∀ y0 y1 y2 y3 y4,LeO (natural_unshift.l0 k y0 y1 y2 y3 y4) (natural_unshift.l0 (k+1) y0 y1 y2 y3 y4))
 | 0=>fun _ _ _ _ _ r h=>by simp [natural_unshift.l0] at h
 | k+1=>by
  have ih0:=natural_unshift.mono_l k
  ·intro y0 y1 y2 y3 y4
   unfold natural_unshift.l0
   repeat' first
   | (with_reducible exact ih0 _ _ _ _ _)
   | (with_reducible exact natural_limbs_trim.mono _ _)
   | (with_reducible exact LeO.refl _)
   | (with_reducible exact LeO.none _)
   | (with_reducible refine LeO.ite ?_ ?_)
   | (with_reducible refine LeO.bind ?_ (fun _=>?_))
   | exact ih0 _ _ _ _ _
   | exact natural_limbs_trim.mono _ _
   | exact LeO.none _
   | refine LeO.ite ?_ ?_
   | refine LeO.bind ?_ (fun _=>?_)
theorem natural_unshift.mono:∀ a0 a1 k,LeO (natural_unshift.f k a0 a1) (natural_unshift.f (k+1) a0 a1):=by
 intro a0 a1 k
 have ih0:=natural_unshift.mono_l k
 unfold natural_unshift.f
 repeat' first
  | (with_reducible exact ih0 _ _ _ _ _)
  | (with_reducible exact natural_limbs_trim.mono _ _)
  | (with_reducible exact LeO.refl _)
  | (with_reducible exact LeO.none _)
  | (with_reducible refine LeO.ite ?_ ?_)
  | (with_reducible refine LeO.bind ?_ (fun _=>?_))
  | exact ih0 _ _ _ _ _
  | exact natural_limbs_trim.mono _ _
  | exact LeO.none _
  | refine LeO.ite ?_ ?_
  | refine LeO.bind ?_ (fun _=>?_)
set_option maxHeartbeats 8000000 in
set_option maxRecDepth 100000 in
theorem natural_unshift.calls (k:Nat) (A0:Option Addr) (c0:Nat) (l0:List Int) (a1:Int) (r:List Int) (w:World) (hr0:Kd.C (Kd.int .u32) w A0 l0.length l0) (hc0:l0.length≤c0) (h:natural_unshift.f k l0 a1=some r) :
 Calls Tryd.prog 73 #[.slice A0 l0.length c0,.int .u64 a1] w fun e w'=>∃ v0_:Value,e = .returned (v0_)∧Kd.R (Kd.int .u32) 60 w' w.heap.size (fun _=>True) v0_ r∧Below w.heap.size w w':=by
 have HR0:=Aside0.mk hr0
 have HC0:=Aside0.mk hc0
 clear hr0 hc0
 have HB:=Aside0.mk (Below.refl w.heap.size w)
 have H:(if 0≤(l0.length:Int) then (if ((l0.length:Int):Int).toNat≤70368744177664 then (natural_unshift.l0 k l0 a1 (List.replicate ((l0.length:Int):Int).toNat 0) (l0.length:Int) 0) else (none)) else (none))=some r:=h
 clear h
 by_cases c3:0≤(l0.length:Int)
 ·rw [if_pos c3] at H
  have c3b0:=eq_true c3
  have c3b1:decide (0≤(l0.length:Int))=true:=decide_eq_true c3
  clear c3
  by_cases c4:((l0.length:Int):Int).toNat≤70368744177664
  ·rw [if_pos c4] at H
   have c4b0:=eq_true c4
   have c4b1:decide (((l0.length:Int):Int).toNat≤70368744177664)=true:=decide_eq_true c4
   clear c4
   obtain ⟨y160,hy160⟩:∃ y_:List Int,y_=(List.replicate ((l0.length:Int):Int).toNat 0):=⟨_,rfl⟩
   replace H:(natural_unshift.l0 k l0 a1 y160 (l0.length:Int) 0)=some r:=by first|(rw [hy160];with_reducible exact H)|(have H2_:=(Option.bind_some _ _).symm.trans H;rw [hy160];with_reducible exact H2_)|(have H2_:=(Option.bind_some _ _).symm.trans H;with_reducible exact H2_)|with_reducible exact H|(rw [hy160];exact H)|exact H
   have Ny160:=Aside0.mk hy160
   clear hy160
   have H':=Aside0.mk H
   clear H
   go_enter Tryd.func73,Tryd.ntmps73
   go_wp2_with (first|((with_reducible refine gate_dst (N:=10) rfl ?_);refine Kd.R_make (Kd.int .u32) _ 60 rfl (N:=10) rfl 50 _ _ rfl (l0.length:Int) rfl rfl Tryd.underlying50 (.int .u32 0) 4 info60 rfl (by decide) (by omega) 0 (ok:=fun _=>True) (okp:=fun _=>True) rfl (fun _ hk=>hk) trivial (of_decide_eq_true (by first|(with_reducible assumption)|assumption)) (Nat.le_trans (Nat.mul_le_mul_right _ (of_decide_eq_true (by first|(with_reducible assumption)|assumption):(l0.length:Int).toNat≤70368744177664)) (by omega)) (Below.refl _ _) (Nat.le_refl _) ?_;intro v161 w5 ho6 hb hg_ hnew_;clear hg_ hnew_;(first|rw [← Ny160.out] at ho6|(simp only [Int.reduceToNat] at ho6;rw [← Ny160.out] at ho6));have n0_:=Aside0.mk (Kd.R_lower ho6 (below_size (by repeat (first|(with_reducible first|exact HB.out|apply below_alloc|apply pw_below_drewN|apply below_drew1)|exact HB.out))));have n1_:=Aside0.mk (below_step (by repeat (first|(with_reducible first|exact HB.out|apply below_alloc|apply pw_below_drewN|apply below_drew1)|exact HB.out)) hb);clear HB;have HO162:=n0_;have HB:=n1_;clear n0_ n1_;clear hb ho6))
   go_loopg [13] k (fun kq v13 w'=>∃ (x5_1:List Int) (x13_1:Int),v13 = .int .i64 x13_1∧Aside0 (natural_unshift.l0 kq l0 a1 x5_1 (l0.length:Int) x13_1=some r)∧Aside0 (kq≤k)∧Aside0 (Kd.R (Kd.int .u32) 60 w' w.heap.size (fun _=>True) v161 x5_1)∧Aside0 (Below w.heap.size w w'))
   case atStart=>exact ⟨(y160),(0),(by first|rfl|(simp;done)|(simp [*];done)),H',⟨Nat.le_refl _⟩,⟨by (with_reducible repeat (first|apply Kd.R_alloc|apply Kd.R_drewN|apply Kd.R_drew));exact HO162.out⟩,⟨by repeat (first|(with_reducible first|exact HB.out|apply below_alloc|apply pw_below_drewN|apply below_drew1)|exact HB.out)⟩⟩
   case round=>
    clear H'
    try clear p2
    try clear c3
    try clear c3b0
    try clear c3b1
    try clear c4
    try clear c4b0
    try clear c4b1
    obtain ⟨x5_1,x13_1,rfl,HA,HK1,HO_5,HB⟩:=hrel
    cases gk with
    | zero=>exact absurd HA.out (by simp [natural_unshift.l0])
    | succ k1=>
     have H:=HA.out
     clear HA
     simp only [natural_unshift.l0] at H
     by_cases c7:x13_1<(l0.length:Int)
     ·rw [if_pos c7] at H
      have c7b0:decide (x13_1<(l0.length:Int))=true:=decide_eq_true c7
      clear c7
      by_cases c8:0≤x13_1
      ·rw [if_pos c8] at H
       have c8b0:decide (0≤x13_1)=true:=decide_eq_true c8
       clear c8
       by_cases c9:x13_1<(l0.length:Int)
       ·rw [if_pos c9] at H
        have c9b0:decide (x13_1<(l0.length:Int))=true:=decide_eq_true c9
        clear c9
        by_cases c10:(wrap64 (x13_1+1))<(l0.length:Int)
        ·rw [if_pos c10] at H
         have c10b0:decide ((wrap64 (x13_1+1))<(l0.length:Int))=true:=decide_eq_true c10
         clear c10
         obtain ⟨ji11,hji11⟩:∃ j_:Int,(wrap64 (x13_1+1))=j_:=⟨_,rfl⟩
         replace H:(if 0≤(ji11) then (if 0≤a1 then (if x13_1<(x5_1.length:Int) then (natural_unshift.l0 k1 l0 a1 (x5_1.set (x13_1:Int).toNat ((shr .u64 (Go.bits .or .u64 (IntKind.u64.wrap (rd l0 x13_1)) (IntKind.u64.wrap ((IntKind.u64.wrap (rd l0 (ji11)))*4294967296))) a1)%4294967296)) (l0.length:Int) ji11) else (none)) else (none)) else (none))=some r:=by first|(rw [hji11] at H;exact H)|(simp only [hji11] at H ⊢;exact H)
         (try rw [hji11] at c10b0)
         have hji11w:(IntKind.i64.wrap (x13_1+1))=ji11:=(i64_w _).trans hji11
         by_cases c12:0≤(ji11)
         ·rw [if_pos c12] at H
          have c12b0:decide (0≤(ji11))=true:=decide_eq_true c12
          clear c12
          by_cases c13:0≤a1
          ·rw [if_pos c13] at H
           have c13b0:=eq_true c13
           have c13b1:decide (0≤a1)=true:=decide_eq_true c13
           clear c13
           obtain ⟨ji14,hji14⟩:∃ j_:Int,(shr .u64 (Go.bits .or .u64 (IntKind.u64.wrap (rd l0 x13_1)) (IntKind.u64.wrap ((IntKind.u64.wrap (rd l0 (ji11)))*4294967296))) a1)=j_:=⟨_,rfl⟩
           replace H:(if x13_1<(x5_1.length:Int) then (natural_unshift.l0 k1 l0 a1 (x5_1.set (x13_1:Int).toNat ((ji14)%4294967296)) (l0.length:Int) ji11) else (none))=some r:=by first|(rw [hji14] at H;exact H)|(simp only [hji14] at H ⊢;exact H)
           have hji14_:((Go.bits .or .u64 (IntKind.u64.wrap (rd l0 x13_1)) (IntKind.u64.wrap ((IntKind.u64.wrap (rd l0 (ji11)))*4294967296)))/2 ^ min a1.toNat 64)=ji14:=hji14
           have hji14z:a1≤64→((Go.bits .or .u64 (IntKind.u64.wrap (rd l0 x13_1)) (IntKind.u64.wrap ((IntKind.u64.wrap (rd l0 (ji11)))*4294967296)))/2 ^ a1.toNat)=ji14:=shr_small hji14
           by_cases c15:x13_1<(x5_1.length:Int)
           ·rw [if_pos c15] at H
            have c15b0:decide (x13_1<(x5_1.length:Int))=true:=decide_eq_true c15
            clear c15
            obtain ⟨y165,hy165⟩:∃ y_:List Int,y_=(x5_1.set (x13_1:Int).toNat ((ji14)%4294967296)):=⟨_,rfl⟩
            replace H:(natural_unshift.l0 k1 l0 a1 y165 (l0.length:Int) ji11)=some r:=by first|(rw [hy165];with_reducible exact H)|(have H2_:=(Option.bind_some _ _).symm.trans H;rw [hy165];with_reducible exact H2_)|(have H2_:=(Option.bind_some _ _).symm.trans H;with_reducible exact H2_)|with_reducible exact H|(rw [hy165];exact H)|exact H
            have Ny165:=Aside0.mk hy165
            clear hy165
            have H':=Aside0.mk H
            clear H
            have p163:0≤(x13_1:Int):=of_decide_eq_true (by first|(with_reducible assumption)|assumption)
            have q163:x13_1<(l0.length:Int):=of_decide_eq_true (by first|(with_reducible assumption)|assumption)
            obtain ⟨ad163,e163,hx163_0⟩:=Kd.at_int HR0.out x13_1 p163 q163
            cases e163
            replace hx163_0:=(HB.out.cell (World.block_lt_of_cell? w _ hx163_0)).trans hx163_0
            replace p163:=eq_true p163
            replace q163:=eq_true q163
            have p164:0≤((ji11):Int):=of_decide_eq_true (by first|(with_reducible assumption)|assumption)
            have q164:(ji11)<(l0.length:Int):=of_decide_eq_true (by first|(with_reducible assumption)|assumption)
            obtain ⟨ad164,e164,hx164_0⟩:=Kd.at_int HR0.out (ji11) p164 q164
            obtain rfl:ad163=ad164:=(by injection e164)
            replace hx164_0:=(HB.out.cell (World.block_lt_of_cell? w _ hx164_0)).trans hx164_0
            replace p164:=eq_true p164
            replace q164:=eq_true q164
            have p16:0≤(x13_1:Int):=of_decide_eq_true (by first|(with_reducible assumption)|assumption)
            have q16:(x13_1:Int)<((x5_1.length:Int):Int):=of_decide_eq_true (by first|(with_reducible assumption)|assumption)
            obtain ⟨go16,co16,eo16,gb16,gl16,cl16,HG16⟩:=Kd.R_form HO_5.out (by omega)
            (first|cases eo16|(injection eo16 with ea_ en_ ec_;(first|subst ea_|(injection ea_ with ea_;subst ea_));subst ec_;clear en_))
            have GB16:=Aside0.mk gb16
            have GG16:=Aside0.mk HG16
            clear gb16 gl16 HG16
            obtain ⟨hx16_0,hf16_0⟩:=Kd.R_celln 0 HO_5.out (x13_1:Int) p16 q16
            replace p16:=eq_true p16
            replace q16:=eq_true q16
            have HP17:=Kd.R_putg HO_5.out (x13_1:Int) ((ji14)%4294967296)
            go_wp2_with (first|((with_reducible refine gate_store (t:=60) (p:=41) rfl ?_);refine store_event (t:=60) (p:=41) (v:=?vo_w18) (w1:=(wr.setCell ⟨go16,(x13_1:Int).toNat,none⟩ (.int .u32 ((ji14)%4294967296)))) ?hg ?ho ?hn ?hr ?_;(case ho=>rfl);(case hg=>rfl);(case hn=>rfl);(case hr=>first|(go_simp;done)|(go_simp;rfl));intro w18 hw;have hg:wr.grownBy w18 (some go16):=(by rw [hw];exact HP17.2);have hp_:Kd.R (Kd.int .u32) 60 w18 w.heap.size (fun _=>True) (.slice (some ⟨go16,0,none⟩) x5_1.length co16) y165:=(by rw [hw,Ny165.out];exact HP17.1);clear HP17;have n0_:=Aside0.mk (hp_);have n1_:=Aside0.mk ((by rw [hw];exact below_set (HB.out) GB16.out:Below w.heap.size w w18));clear HO_5;clear HB;have HO_5:=n0_;have HB:=n1_;clear n0_ n1_;clear hg hw hp_))
            go_roundg k1
            case measure=>have:=HK1.out;omega
            case rel=>exact ⟨(y165),(ji11),(by first|rfl|(simp;done)|(simp only [← hji11] <;> (first|rfl|simp))|(simp [*];done)),H',⟨by have:=HK1.out;omega⟩,⟨by (with_reducible repeat (first|apply Kd.R_alloc|apply Kd.R_drewN|apply Kd.R_drew));exact HO_5.out⟩,⟨by repeat (first|(with_reducible first|exact HB.out|apply below_alloc|apply pw_below_drewN|apply below_drew1)|exact HB.out)⟩⟩
           ·rw [if_neg c15] at H
            exact absurd H (by simp)
          ·rw [if_neg c13] at H
           exact absurd H (by simp)
         ·rw [if_neg c12] at H
          exact absurd H (by simp)
        ·rw [if_neg c10] at H
         have c10b0:decide ((wrap64 (x13_1+1))<(l0.length:Int))=false:=decide_eq_false c10
         clear c10
         by_cases c19:0≤a1
         ·rw [if_pos c19] at H
          have c19b0:=eq_true c19
          have c19b1:decide (0≤a1)=true:=decide_eq_true c19
          clear c19
          obtain ⟨ji20,hji20⟩:∃ j_:Int,(shr .u64 (IntKind.u64.wrap (rd l0 x13_1)) a1)=j_:=⟨_,rfl⟩
          replace H:(if x13_1<(x5_1.length:Int) then (natural_unshift.l0 k1 l0 a1 (x5_1.set (x13_1:Int).toNat ((ji20)%4294967296)) (l0.length:Int) (wrap64 (x13_1+1))) else (none))=some r:=by first|(rw [hji20] at H;exact H)|(simp only [hji20] at H ⊢;exact H)
          have hji20_:((IntKind.u64.wrap (rd l0 x13_1))/2 ^ min a1.toNat 64)=ji20:=hji20
          have hji20z:a1≤64→((IntKind.u64.wrap (rd l0 x13_1))/2 ^ a1.toNat)=ji20:=shr_small hji20
          by_cases c21:x13_1<(x5_1.length:Int)
          ·rw [if_pos c21] at H
           have c21b0:decide (x13_1<(x5_1.length:Int))=true:=decide_eq_true c21
           clear c21
           obtain ⟨y166,hy166⟩:∃ y_:List Int,y_=(x5_1.set (x13_1:Int).toNat ((ji20)%4294967296)):=⟨_,rfl⟩
           replace H:(natural_unshift.l0 k1 l0 a1 y166 (l0.length:Int) (wrap64 (x13_1+1)))=some r:=by first|(rw [hy166];with_reducible exact H)|(have H2_:=(Option.bind_some _ _).symm.trans H;rw [hy166];with_reducible exact H2_)|(have H2_:=(Option.bind_some _ _).symm.trans H;with_reducible exact H2_)|with_reducible exact H|(rw [hy166];exact H)|exact H
           have Ny166:=Aside0.mk hy166
           clear hy166
           have H':=Aside0.mk H
           clear H
           have p163:0≤(x13_1:Int):=of_decide_eq_true (by first|(with_reducible assumption)|assumption)
           have q163:x13_1<(l0.length:Int):=of_decide_eq_true (by first|(with_reducible assumption)|assumption)
           obtain ⟨ad163,e163,hx163_0⟩:=Kd.at_int HR0.out x13_1 p163 q163
           cases e163
           replace hx163_0:=(HB.out.cell (World.block_lt_of_cell? w _ hx163_0)).trans hx163_0
           replace p163:=eq_true p163
           replace q163:=eq_true q163
           have p22:0≤(x13_1:Int):=of_decide_eq_true (by first|(with_reducible assumption)|assumption)
           have q22:(x13_1:Int)<((x5_1.length:Int):Int):=of_decide_eq_true (by first|(with_reducible assumption)|assumption)
           obtain ⟨go22,co22,eo22,gb22,gl22,cl22,HG22⟩:=Kd.R_form HO_5.out (by omega)
           (first|cases eo22|(injection eo22 with ea_ en_ ec_;(first|subst ea_|(injection ea_ with ea_;subst ea_));subst ec_;clear en_))
           have GB22:=Aside0.mk gb22
           have GG22:=Aside0.mk HG22
           clear gb22 gl22 HG22
           obtain ⟨hx22_0,hf22_0⟩:=Kd.R_celln 0 HO_5.out (x13_1:Int) p22 q22
           replace p22:=eq_true p22
           replace q22:=eq_true q22
           have HP23:=Kd.R_putg HO_5.out (x13_1:Int) ((ji20)%4294967296)
           go_wp2_with (first|((with_reducible refine gate_store (t:=60) (p:=41) rfl ?_);refine store_event (t:=60) (p:=41) (v:=?vo_w24) (w1:=(wr.setCell ⟨go22,(x13_1:Int).toNat,none⟩ (.int .u32 ((ji20)%4294967296)))) ?hg ?ho ?hn ?hr ?_;(case ho=>rfl);(case hg=>rfl);(case hn=>rfl);(case hr=>first|(go_simp;done)|(go_simp;rfl));intro w24 hw;have hg:wr.grownBy w24 (some go22):=(by rw [hw];exact HP23.2);have hp_:Kd.R (Kd.int .u32) 60 w24 w.heap.size (fun _=>True) (.slice (some ⟨go22,0,none⟩) x5_1.length co22) y166:=(by rw [hw,Ny166.out];exact HP23.1);clear HP23;have n0_:=Aside0.mk (hp_);have n1_:=Aside0.mk ((by rw [hw];exact below_set (HB.out) GB22.out:Below w.heap.size w w24));clear HO_5;clear HB;have HO_5:=n0_;have HB:=n1_;clear n0_ n1_;clear hg hw hp_))
           go_roundg k1
           case measure=>have:=HK1.out;omega
           case rel=>exact ⟨(y166),(wrap64 (x13_1+1)),(by first|rfl|(simp;done)|(simp [*];done)),H',⟨by have:=HK1.out;omega⟩,⟨by (with_reducible repeat (first|apply Kd.R_alloc|apply Kd.R_drewN|apply Kd.R_drew));exact HO_5.out⟩,⟨by repeat (first|(with_reducible first|exact HB.out|apply below_alloc|apply pw_below_drewN|apply below_drew1)|exact HB.out)⟩⟩
          ·rw [if_neg c21] at H
           exact absurd H (by simp)
         ·rw [if_neg c19] at H
          exact absurd H (by simp)
       ·rw [if_neg c9] at H
        exact absurd H (by simp)
      ·rw [if_neg c8] at H
       exact absurd H (by simp)
     ·rw [if_neg c7] at H
      have c7b0:decide (x13_1<(l0.length:Int))=false:=decide_eq_false c7
      clear c7
      replace H:=Option.bind_eq_some_iff.mp H
      obtain ⟨t167,A250,H⟩:=H
      replace H:(some t167)=some r:=H
      have A25:=Aside0.mk A250
      clear A250
      obtain rfl:=Option.some.inj H
      obtain ⟨Ao26,co26,eo26⟩:=Kd.R_slice HO_5.out
      subst eo26
      go_wp2_with (first|((with_reducible refine gate_callee (f:=53) rfl ?_);refine goesL_ (some 44) rfl rfl Tryd.func53 (by kernel_rfl) rfl #[.slice Ao26 x5_1.length co26] rfl (by (try simp only [List.map_toArray,List.map_cons,List.map_nil]);first|done|rfl|(simp only [List.length_drop,List.length_take];rfl)) ?_;(with_reducible refine (natural_limbs_trim.calls k1 (fun k_=>some k_=(.slice Ao26 x5_1.length co26:Value).ownBlock) (.slice Ao26 x5_1.length co26) x5_1 t167 w _ ?side1 ?side2 A25.out).mono ?_);(case side1=>repeat (first|(with_reducible first|exact HB.out|apply below_alloc|apply pw_below_drewN|apply below_drew1)|exact HB.out));(case side2=>exact Kd.R_tight rfl HO_5.out);rintro e w27 ⟨v168,rfl,ho0,hb,hkp⟩;refine ⟨_,rfl,?_⟩;have n0_:=Aside0.mk (Kd.R_mono (ok':=fun k_=>True) ho0 (fun k_ hk_=>trivial));have n1_:=Aside0.mk (hb);clear HB;clear HO_5;have HO169:=n0_;have HB:=n1_;clear n0_ n1_;(try clear hb);(try clear hkp);(try clear ho0)))
      go_ret
      exact ⟨_,by first|rfl|(simp [errW_none,errW_some] <;> rfl)|(simp [*,errW_none,errW_some] <;> rfl),by (with_reducible repeat (first|apply Kd.R_alloc|apply Kd.R_drewN|apply Kd.R_drew));exact HO169.out,by repeat (first|(with_reducible first|exact HB.out|apply below_alloc|apply pw_below_drewN|apply below_drew1)|exact HB.out)⟩
  ·rw [if_neg c4] at H
   exact absurd H (by simp)
 ·rw [if_neg c3] at H
  exact absurd H (by simp)
end Go.Proofs.YtjaflmhdclmolaaDoor.F
end
