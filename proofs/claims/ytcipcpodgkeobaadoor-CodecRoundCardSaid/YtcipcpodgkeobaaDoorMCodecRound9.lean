/- Part 9 of the proof of CodecRound: the functions' walks and what they compute, in the order of the calls; each holds for all arguments that its row allows. -/
import Derived.Test.YtcipcpodgkeobaaDoorMCodecRound7
import Derived.Test.YtcipcpodgkeobaaDoorMCodecRound8
section
namespace Go.Proofs.YtcipcpodgkeobaaDoor.F
open Go.RowKit Go.Proofs.YtcipcpodgkeobaaDoorW.PrintWords Go.Proofs.YtcipcpodgkeobaaDoorW.PrintLast Go.Proofs.YtcipcpodgkeobaaDoorW.PrintMore
attribute [local go_sem] max2_int min2_int max_two min_two max_three min_three max_four min_four   
set_option linter.unusedVariables false
set_option linter.unusedSimpArgs false
mutual
def zad.l0:Nat→Int→Int→ByteArray→Bool→Int→Int→Int→Int→Int→Int→Bool→ByteArray→ByteArray→Bool→ByteArray→ByteArray→List (S49)→Option (Int×Int×Int×Int×Int×Int×Bool×ByteArray×ByteArray×Bool×ByteArray×ByteArray×(List (S49))×(List (S51))×ByteArray×Bool)
 | 0,_,_,_,_,_,_,_,_,_,_,_,_,_,_,_,_,_=>none
 | k+1,x25,x26,x1000,x1001,x738000,x738001,x738002,x738003,x738004,x738005,x738006,x738007,x738008,x738009,x738010,x738011,x738012=>if x26<x25 then ((zaa.f k x1000 x1001).bind fun bt751=>((zaa.f k bt751.2.1 bt751.2.2).bind fun bt754=>(if x738012.length<8796093022208 then (zad.l0 k x25 (wrap64 (x26+1)) bt754.2.1 bt754.2.2 x738000 x738001 x738002 x738003 x738004 x738005 x738006 x738007 x738008 x738009 x738010 x738011 (x738012 ++ [(⟨bt751.1,bt754.1⟩:S49)])) else (none)))) else ((zax.f k x1000 x1001 4).bind fun bt760=>(zad.l1 k bt760.1 0 bt760.2.1 bt760.2.2 x738000 x738001 x738002 x738003 x738004 x738005 x738006 x738007 x738008 x738009 x738010 x738011 x738012 ([]:List (S51))))
def zad.l1:Nat→Int→Int→ByteArray→Bool→Int→Int→Int→Int→Int→Int→Bool→ByteArray→ByteArray→Bool→ByteArray→ByteArray→List (S49)→List (S51)→Option (Int×Int×Int×Int×Int×Int×Bool×ByteArray×ByteArray×Bool×ByteArray×ByteArray×(List (S49))×(List (S51))×ByteArray×Bool)
 | 0,_,_,_,_,_,_,_,_,_,_,_,_,_,_,_,_,_,_=>none
 | k+1,x40,x41,x1000,x1001,x738000,x738001,x738002,x738003,x738004,x738005,x738006,x738007,x738008,x738009,x738010,x738011,x738012,x738013=>if x41<x40 then ((zbi.f k x1000 x1001).bind fun bt763=>((zaa.f k bt763.2.2.2.1 bt763.2.2.2.2).bind fun bt769=>(if x738013.length<2932031007402 then (zad.l1 k x40 (wrap64 (x41+1)) bt769.2.1 bt769.2.2 x738000 x738001 x738002 x738003 x738004 x738005 x738006 x738007 x738008 x738009 x738010 x738011 x738012 (x738013 ++ [(⟨(⟨bt763.1,bt763.2.1,bt763.2.2.1⟩:S30),bt769.1⟩:S51)])) else (none)))) else (some (x738000,x738001,x738002,x738003,x738004,x738005,x738006,x738007,x738008,x738009,x738010,x738011,x738012,x738013,x1000,x1001))
end
def zad.f (k:Nat) (s0_0:ByteArray) (s0_1:Bool):Option (Int×Int×Int×Int×Int×Int×Bool×ByteArray×ByteArray×Bool×ByteArray×ByteArray×(List (S49))×(List (S51))×ByteArray×Bool):=(zaa.f k s0_0 s0_1).bind fun bt719=>((zaa.f k bt719.2.1 bt719.2.2).bind fun bt722=>((zaa.f k bt722.2.1 bt722.2.2).bind fun bt725=>((zaa.f k bt725.2.1 bt725.2.2).bind fun bt728=>((zaa.f k bt728.2.1 bt728.2.2).bind fun bt731=>((zaa.f k bt731.2.1 bt731.2.2).bind fun bt734=>((zbi.f k bt734.2.1 bt734.2.2).bind fun bt738=>((zbi.f k bt738.2.2.2.1 bt738.2.2.2.2).bind fun bt743=>((zax.f k bt743.2.2.2.1 bt743.2.2.2.2 8).bind fun bt748=>(zad.l0 k bt748.1 0 bt748.2.1 bt748.2.2 bt719.1 bt722.1 bt725.1 bt728.1 bt731.1 bt734.1 bt738.1 bt738.2.1 bt738.2.2.1 bt743.1 bt743.2.1 bt743.2.2.1 ([]:List (S49)))))))))))
theorem zad.mono_l:∀ k,(∀ y0 y1 y2 y3 y4 y5 y6 y7 y8 y9 y10 y11 y12 y13 y14 y15 y16,LeO (zad.l0 k y0 y1 y2 y3 y4 y5 y6 y7 y8 y9 y10 y11 y12 y13 y14 y15 y16) (zad.l0 (k+1) y0 y1 y2 y3 y4 y5 y6 y7 y8 y9 y10 y11 y12 y13 y14 y15 y16))∧(∀ y0 y1 y2 y3 y4 y5 y6 y7 y8 y9 y10 y11 y12 y13 y14 y15 y16 y17,LeO (zad.l1 k y0 y1 y2 y3 y4 y5 y6 y7 y8 y9 y10 y11 y12 y13 y14 y15 y16 y17) (zad.l1 (k+1) y0 y1 y2 y3 y4 y5 y6 y7 y8 y9 y10 y11 y12 y13 y14 y15 y16 y17))
 | 0=>⟨fun _ _ _ _ _ _ _ _ _ _ _ _ _ _ _ _ _ r h=>by simp [zad.l0] at h,fun _ _ _ _ _ _ _ _ _ _ _ _ _ _ _ _ _ _ r h=>by simp [zad.l1] at h⟩
 | k+1=>by
  obtain ⟨ih0,ih1⟩:=zad.mono_l k;refine ⟨?_,?_⟩
  ·intro y0 y1 y2 y3 y4 y5 y6 y7 y8 y9 y10 y11 y12 y13 y14 y15 y16
   unfold zad.l0
   repeat' first
   | (with_reducible exact ih0 _ _ _ _ _ _ _ _ _ _ _ _ _ _ _ _ _)
   | (with_reducible exact ih1 _ _ _ _ _ _ _ _ _ _ _ _ _ _ _ _ _ _)
   | (with_reducible exact zax.mono _ _ _ _)
   | (with_reducible exact zaa.mono _ _ _)
   | (with_reducible exact zbi.mono _ _ _)
   | (with_reducible exact LeO.refl _)
   | (with_reducible exact LeO.none _)
   | (with_reducible refine LeO.ite ?_ ?_)
   | (with_reducible refine LeO.bind ?_ (fun _=>?_))
   | exact ih0 _ _ _ _ _ _ _ _ _ _ _ _ _ _ _ _ _
   | exact ih1 _ _ _ _ _ _ _ _ _ _ _ _ _ _ _ _ _ _
   | exact zax.mono _ _ _ _
   | exact zaa.mono _ _ _
   | exact zbi.mono _ _ _
   | exact LeO.none _
   | refine LeO.ite ?_ ?_
   | refine LeO.bind ?_ (fun _=>?_)
  ·intro y0 y1 y2 y3 y4 y5 y6 y7 y8 y9 y10 y11 y12 y13 y14 y15 y16 y17
   unfold zad.l1
   repeat' first
   | (with_reducible exact ih0 _ _ _ _ _ _ _ _ _ _ _ _ _ _ _ _ _)
   | (with_reducible exact ih1 _ _ _ _ _ _ _ _ _ _ _ _ _ _ _ _ _ _)
   | (with_reducible exact zax.mono _ _ _ _)
   | (with_reducible exact zaa.mono _ _ _)
   | (with_reducible exact zbi.mono _ _ _)
   | (with_reducible exact LeO.refl _)
   | (with_reducible exact LeO.none _)
   | (with_reducible refine LeO.ite ?_ ?_)
   | (with_reducible refine LeO.bind ?_ (fun _=>?_))
   | exact ih0 _ _ _ _ _ _ _ _ _ _ _ _ _ _ _ _ _
   | exact ih1 _ _ _ _ _ _ _ _ _ _ _ _ _ _ _ _ _ _
   | exact zax.mono _ _ _ _
   | exact zaa.mono _ _ _
   | exact zbi.mono _ _ _
   | exact LeO.none _
   | refine LeO.ite ?_ ?_
   | refine LeO.bind ?_ (fun _=>?_)
theorem zad.mono:∀ a0 a1 k,LeO (zad.f k a0 a1) (zad.f (k+1) a0 a1):=by
 intro a0 a1 k;obtain ⟨ih0,ih1⟩:=zad.mono_l k;unfold zad.f
 repeat' first
  | (with_reducible exact ih0 _ _ _ _ _ _ _ _ _ _ _ _ _ _ _ _ _)
  | (with_reducible exact ih1 _ _ _ _ _ _ _ _ _ _ _ _ _ _ _ _ _ _)
  | (with_reducible exact zax.mono _ _ _ _)
  | (with_reducible exact zaa.mono _ _ _)
  | (with_reducible exact zbi.mono _ _ _)
  | (with_reducible exact LeO.refl _)
  | (with_reducible exact LeO.none _)
  | (with_reducible refine LeO.ite ?_ ?_)
  | (with_reducible refine LeO.bind ?_ (fun _=>?_))
  | exact ih0 _ _ _ _ _ _ _ _ _ _ _ _ _ _ _ _ _
  | exact ih1 _ _ _ _ _ _ _ _ _ _ _ _ _ _ _ _ _ _
  | exact zax.mono _ _ _ _
  | exact zaa.mono _ _ _
  | exact zbi.mono _ _ _
  | exact LeO.none _
  | refine LeO.ite ?_ ?_
  | refine LeO.bind ?_ (fun _=>?_)
def zad.T6:Bool×List (List Nat×List Nat):=(true,[([],[]),([0],[0]),([],[]),([2],[2]),([],[]),([4,3],[4]),([3,5],[3,5]),([6],[6]),([1,7,5],[1,7]),([0,1,2,3,4,5,6,7,8],[]),([9,8,8,0,1,2,3,4,5,6,7,8],[8,9])])
def zad.B6:List Nat:=[0,1,0,4,0,28,60,124,255,511,1023]
theorem zad.tab6:rtab .any (opsOf Tryd.f26 6)=zad.T6:=by kernel_rfl
theorem zad.bits6:waitsOk zad.T6.2 zad.B6=true:=by kernel_rfl
def zad.T11:Bool×List (List Nat×List Nat):=(true,[([],[]),([0],[0]),([],[]),([],[]),([3],[3]),([2,4],[2,4]),([5],[5]),([1,6,4],[1,6]),([0,1,2,3,4,5,6,7],[]),([8,7,7,0,1,2,3,4,5,6,7],[7,8])])
def zad.B11:List Nat:=[0,1,0,0,8,28,60,127,255,511]
theorem zad.tab11:rtab .any (opsOf Tryd.f26 11)=zad.T11:=by kernel_rfl
theorem zad.bits11:waitsOk zad.T11.2 zad.B11=true:=by kernel_rfl
set_option maxHeartbeats 8000000 in
set_option maxRecDepth 100000 in
theorem zad.calls (k:Nat) (g:Nat) (s0_0:ByteArray) (s0_1:Bool) (r1:Int) (r2:Int) (r3:Int) (r4:Int) (r5:Int) (r6:Int) (r7:Bool) (r8:ByteArray) (r9:ByteArray) (r10:Bool) (r11:ByteArray) (r12:ByteArray) (r13:List (S49)) (r14:List (S51)) (r15:ByteArray) (r16:Bool) (w0 w:World) (hI:zat w0 w g s0_0 s0_1) (hB:Below w0.heap.size w0 w) (h:zad.f k s0_0 s0_1=some (r1,r2,r3,r4,r5,r6,r7,r8,r9,r10,r11,r12,r13,r14,r15,r16)) :
 Calls Tryd.prog 26 #[.pointer (some ⟨g,0,none⟩)] w fun e w'=>∃ v12_ v13_:Value,e = .returned (.agg #[.int .i64 r1,.int .i64 r2,.int .i64 r3,.int .i64 r4,.int .i64 r5,.int .i64 r6,.bool r7,.string r8,.string r9,.bool r10,.string r11,.string r12,v12_,v13_])∧Kd.R k49 49 w' w.heap.size (fun _=>True) v12_ r13∧Kd.R k51 51 w' w.heap.size (fun _=>True) v13_ r14∧zat w0 w' g r15 r16∧Below w0.heap.size w0 w'∧zb7 w w' g none:=by
 have hu34:=Tryd.underlying34;have hu30:=Tryd.underlying30;have hu49:=Tryd.underlying49;have hu51:=Tryd.underlying51;have HI0:=za1.mk hI;have HK:=am (zb7.refl w g none);have HL:=za1.mk hB.size;clear hI;have HW0:=za1.mk hB.size;have HB:=za1.mk hB;clear hB;have H:((zaa.f k s0_0 s0_1).bind fun bt719=>((zaa.f k bt719.2.1 bt719.2.2).bind fun bt722=>((zaa.f k bt722.2.1 bt722.2.2).bind fun bt725=>((zaa.f k bt725.2.1 bt725.2.2).bind fun bt728=>((zaa.f k bt728.2.1 bt728.2.2).bind fun bt731=>((zaa.f k bt731.2.1 bt731.2.2).bind fun bt734=>((zbi.f k bt734.2.1 bt734.2.2).bind fun bt738=>((zbi.f k bt738.2.2.2.1 bt738.2.2.2.2).bind fun bt743=>((zax.f k bt743.2.2.2.1 bt743.2.2.2.2 8).bind fun bt748=>(zad.l0 k bt748.1 0 bt748.2.1 bt748.2.2 bt719.1 bt722.1 bt725.1 bt728.1 bt731.1 bt734.1 bt738.1 bt738.2.1 bt738.2.2.1 bt743.1 bt743.2.1 bt743.2.2.1 ([]:List (S49))))))))))))=some (r1,r2,r3,r4,r5,r6,r7,r8,r9,r10,r11,r12,r13,r14,r15,r16):=h;clear h;replace H:=Option.bind_eq_some_iff.mp H;obtain ⟨⟨t719,t720,t721⟩,A20,H⟩:=H;replace H:((zaa.f k t720 t721).bind fun bt722=>((zaa.f k bt722.2.1 bt722.2.2).bind fun bt725=>((zaa.f k bt725.2.1 bt725.2.2).bind fun bt728=>((zaa.f k bt728.2.1 bt728.2.2).bind fun bt731=>((zaa.f k bt731.2.1 bt731.2.2).bind fun bt734=>((zbi.f k bt734.2.1 bt734.2.2).bind fun bt738=>((zbi.f k bt738.2.2.2.1 bt738.2.2.2.2).bind fun bt743=>((zax.f k bt743.2.2.2.1 bt743.2.2.2.2 8).bind fun bt748=>(zad.l0 k bt748.1 0 bt748.2.1 bt748.2.2 t719 bt722.1 bt725.1 bt728.1 bt731.1 bt734.1 bt738.1 bt738.2.1 bt738.2.2.1 bt743.1 bt743.2.1 bt743.2.2.1 ([]:List (S49)))))))))))=some (r1,r2,r3,r4,r5,r6,r7,r8,r9,r10,r11,r12,r13,r14,r15,r16):=H;have A2:=za1.mk A20;clear A20;replace H:=Option.bind_eq_some_iff.mp H;obtain ⟨⟨t722,t723,t724⟩,A30,H⟩:=H;replace H:((zaa.f k t723 t724).bind fun bt725=>((zaa.f k bt725.2.1 bt725.2.2).bind fun bt728=>((zaa.f k bt728.2.1 bt728.2.2).bind fun bt731=>((zaa.f k bt731.2.1 bt731.2.2).bind fun bt734=>((zbi.f k bt734.2.1 bt734.2.2).bind fun bt738=>((zbi.f k bt738.2.2.2.1 bt738.2.2.2.2).bind fun bt743=>((zax.f k bt743.2.2.2.1 bt743.2.2.2.2 8).bind fun bt748=>(zad.l0 k bt748.1 0 bt748.2.1 bt748.2.2 t719 t722 bt725.1 bt728.1 bt731.1 bt734.1 bt738.1 bt738.2.1 bt738.2.2.1 bt743.1 bt743.2.1 bt743.2.2.1 ([]:List (S49))))))))))=some (r1,r2,r3,r4,r5,r6,r7,r8,r9,r10,r11,r12,r13,r14,r15,r16):=H;have A3:=za1.mk A30;clear A30;replace H:=Option.bind_eq_some_iff.mp H;obtain ⟨⟨t725,t726,t727⟩,A40,H⟩:=H;replace H:((zaa.f k t726 t727).bind fun bt728=>((zaa.f k bt728.2.1 bt728.2.2).bind fun bt731=>((zaa.f k bt731.2.1 bt731.2.2).bind fun bt734=>((zbi.f k bt734.2.1 bt734.2.2).bind fun bt738=>((zbi.f k bt738.2.2.2.1 bt738.2.2.2.2).bind fun bt743=>((zax.f k bt743.2.2.2.1 bt743.2.2.2.2 8).bind fun bt748=>(zad.l0 k bt748.1 0 bt748.2.1 bt748.2.2 t719 t722 t725 bt728.1 bt731.1 bt734.1 bt738.1 bt738.2.1 bt738.2.2.1 bt743.1 bt743.2.1 bt743.2.2.1 ([]:List (S49)))))))))=some (r1,r2,r3,r4,r5,r6,r7,r8,r9,r10,r11,r12,r13,r14,r15,r16):=H;have A4:=za1.mk A40;clear A40;replace H:=Option.bind_eq_some_iff.mp H;obtain ⟨⟨t728,t729,t730⟩,A50,H⟩:=H;replace H:((zaa.f k t729 t730).bind fun bt731=>((zaa.f k bt731.2.1 bt731.2.2).bind fun bt734=>((zbi.f k bt734.2.1 bt734.2.2).bind fun bt738=>((zbi.f k bt738.2.2.2.1 bt738.2.2.2.2).bind fun bt743=>((zax.f k bt743.2.2.2.1 bt743.2.2.2.2 8).bind fun bt748=>(zad.l0 k bt748.1 0 bt748.2.1 bt748.2.2 t719 t722 t725 t728 bt731.1 bt734.1 bt738.1 bt738.2.1 bt738.2.2.1 bt743.1 bt743.2.1 bt743.2.2.1 ([]:List (S49))))))))=some (r1,r2,r3,r4,r5,r6,r7,r8,r9,r10,r11,r12,r13,r14,r15,r16):=H;have A5:=za1.mk A50;clear A50;replace H:=Option.bind_eq_some_iff.mp H;obtain ⟨⟨t731,t732,t733⟩,A60,H⟩:=H;replace H:((zaa.f k t732 t733).bind fun bt734=>((zbi.f k bt734.2.1 bt734.2.2).bind fun bt738=>((zbi.f k bt738.2.2.2.1 bt738.2.2.2.2).bind fun bt743=>((zax.f k bt743.2.2.2.1 bt743.2.2.2.2 8).bind fun bt748=>(zad.l0 k bt748.1 0 bt748.2.1 bt748.2.2 t719 t722 t725 t728 t731 bt734.1 bt738.1 bt738.2.1 bt738.2.2.1 bt743.1 bt743.2.1 bt743.2.2.1 ([]:List (S49)))))))=some (r1,r2,r3,r4,r5,r6,r7,r8,r9,r10,r11,r12,r13,r14,r15,r16):=H;have A6:=za1.mk A60;clear A60;replace H:=Option.bind_eq_some_iff.mp H;obtain ⟨⟨t734,t735,t736⟩,A70,H⟩:=H;replace H:((zbi.f k t735 t736).bind fun bt738=>((zbi.f k bt738.2.2.2.1 bt738.2.2.2.2).bind fun bt743=>((zax.f k bt743.2.2.2.1 bt743.2.2.2.2 8).bind fun bt748=>(zad.l0 k bt748.1 0 bt748.2.1 bt748.2.2 t719 t722 t725 t728 t731 t734 bt738.1 bt738.2.1 bt738.2.2.1 bt743.1 bt743.2.1 bt743.2.2.1 ([]:List (S49))))))=some (r1,r2,r3,r4,r5,r6,r7,r8,r9,r10,r11,r12,r13,r14,r15,r16):=H;have A7:=za1.mk A70;clear A70;replace H:=Option.bind_eq_some_iff.mp H;obtain ⟨⟨t738,t739,t740,t741,t742⟩,A80,H⟩:=H;replace H:((zbi.f k t741 t742).bind fun bt743=>((zax.f k bt743.2.2.2.1 bt743.2.2.2.2 8).bind fun bt748=>(zad.l0 k bt748.1 0 bt748.2.1 bt748.2.2 t719 t722 t725 t728 t731 t734 t738 t739 t740 bt743.1 bt743.2.1 bt743.2.2.1 ([]:List (S49)))))=some (r1,r2,r3,r4,r5,r6,r7,r8,r9,r10,r11,r12,r13,r14,r15,r16):=H;have A8:=za1.mk A80;clear A80;replace H:=Option.bind_eq_some_iff.mp H;obtain ⟨⟨t743,t744,t745,t746,t747⟩,A90,H⟩:=H;replace H:((zax.f k t746 t747 8).bind fun bt748=>(zad.l0 k bt748.1 0 bt748.2.1 bt748.2.2 t719 t722 t725 t728 t731 t734 t738 t739 t740 t743 t744 t745 ([]:List (S49))))=some (r1,r2,r3,r4,r5,r6,r7,r8,r9,r10,r11,r12,r13,r14,r15,r16):=H;have A9:=za1.mk A90;clear A90;replace H:=Option.bind_eq_some_iff.mp H;obtain ⟨⟨t748,t749,t750⟩,A100,H⟩:=H;replace H:(zad.l0 k t748 0 t749 t750 t719 t722 t725 t728 t731 t734 t738 t739 t740 t743 t744 t745 ([]:List (S49)))=some (r1,r2,r3,r4,r5,r6,r7,r8,r9,r10,r11,r12,r13,r14,r15,r16):=H;have A10:=za1.mk A100;clear A100;have H':=za1.mk H;clear H;go_enter Tryd.func26,Tryd.ntmps26
 go_wp2_with (first|((with_reducible refine zbr (N:=2) rfl ?_);refine zbq ?hg (N:=2) ?hd (cs:=#[.int .i64 0,.int .i64 0,.int .i64 0,.int .i64 0,.int .i64 0,.int .i64 0,.bool false,.string (⟨#[]⟩:ByteArray),.string (⟨#[]⟩:ByteArray),.bool false,.string (⟨#[]⟩:ByteArray),.string (⟨#[]⟩:ByteArray),.slice none 0 0,.slice none 0 0]) (t:=34) ?hr ?_;(case hd=>rfl);(case hg=>rfl);(case hr=>first|(go_simp;done)|(go_simp;rfl));intro g_a hg w11 hbox hb;have n0_:=am (zat.below q33 hb);have n1_:=am (zb7.trans q15 (zb7.of_below hb g none) (.inl rfl));have n2_:=am (zab q34 hb);have n3_:=am (hbox);have n4_:=am ((by rw [hg];exact (zcw (w:=w) (g:=g) (row:=none) q15):w.heap.size≤g_a));have n5_:=am ((Nat.le_trans HW0.out (by rw [hg];exact (zcw (w:=w) (g:=g) (row:=none) q15):w.heap.size≤g_a):w0.heap.size≤g_a));have n6_:=am ((by rw [hg];exact Nat.ne_of_lt (zat.lt (show zat w0 _ g s0_0 s0_1 from by repeat (first|(with_reducible first|exact HI0.out|apply zat.alloc|apply zat.drewN|apply zat.drew|apply zat.set_1)|exact HI0.out))):g≠g_a));have n7_:=am ((by rw [hg];exact Nat.ne_of_gt (zat.lt (show zat w0 _ g s0_0 s0_1 from by repeat (first|(with_reducible first|exact HI0.out|apply zat.alloc|apply zat.drewN|apply zat.drew|apply zat.set_1)|exact HI0.out))):g_a≠g));clear HI0;clear HK;clear HB;have HI0:=n0_;have HK:=n1_;have HB:=n2_;have B_a:=n3_;have W_a:=n4_;have E_a:=n5_;have N_d_a:=n6_;have N_a_d:=n7_;clear n0_ n1_ n2_ n3_ n4_ n5_ n6_ n7_;clear hb hbox hg)|((with_reducible refine zan (f:=28) rfl ?_);refine goesL_ (some 6) rfl rfl Tryd.func28 (by kernel_rfl) rfl #[.pointer (some ⟨g,0,none⟩)] rfl q4 ?_;(with_reducible refine (zaa.calls k g s0_0 s0_1 t719 t720 t721 w0 _ ?side1 ?side2 A2.out).mono ?_);(case side1=>repeat (first|(with_reducible first|exact HI0.out|apply zat.alloc|apply zat.drewN|apply zat.drew|apply zat.set_1|refine zat.far ?_ N_d_a.out _)|exact HI0.out));(case side2=>repeat (first|(with_reducible first|exact HB.out|apply zaw|apply zah|apply zar|refine zak ?_ (zat.ge HI0.out)|refine zak ?_ E_a.out)|exact HB.out));rintro e w12 ⟨rfl,hi,hb,hk⟩;refine ⟨_,rfl,?_⟩;replace B_a:=am (zb7.blk hk (g':=g_a) (o:=.cells #[.int .i64 0,.int .i64 0,.int .i64 0,.int .i64 0,.int .i64 0,.int .i64 0,.bool false,.string (⟨#[]⟩:ByteArray),.string (⟨#[]⟩:ByteArray),.bool false,.string (⟨#[]⟩:ByteArray),.string (⟨#[]⟩:ByteArray),.slice none 0 0,.slice none 0 0] 34 (0,0)) q1 N_a_d.out (by simp));replace HK:=am (zb7.trans q16 hk (.inl rfl));replace HI0:=am (hi);replace HB:=am (hb);(try clear hb);(try clear hb2);(try clear hk);(try clear hi))|((with_reducible refine zan (f:=28) rfl ?_);refine goesL_ (some 8) rfl rfl Tryd.func28 (by kernel_rfl) rfl #[.pointer (some ⟨g,0,none⟩)] rfl q4 ?_;(with_reducible refine (zaa.calls k g t720 t721 t722 t723 t724 w0 _ ?side1 ?side2 A3.out).mono ?_);(case side1=>repeat (first|(with_reducible first|exact HI0.out|apply zat.alloc|apply zat.drewN|apply zat.drew|apply zat.set_1|refine zat.far ?_ N_d_a.out _)|exact HI0.out));(case side2=>repeat (first|(with_reducible first|exact HB.out|apply zaw|apply zah|apply zar|refine zak ?_ (zat.ge HI0.out)|refine zak ?_ E_a.out)|exact HB.out));rintro e w13 ⟨rfl,hi,hb,hk⟩;refine ⟨_,rfl,?_⟩;replace B_a:=am (zb7.blk hk (g':=g_a) (o:=.cells #[.int .i64 0,.int .i64 0,.int .i64 0,.int .i64 0,.int .i64 0,.int .i64 0,.bool false,.string (⟨#[]⟩:ByteArray),.string (⟨#[]⟩:ByteArray),.bool false,.string (⟨#[]⟩:ByteArray),.string (⟨#[]⟩:ByteArray),.slice none 0 0,.slice none 0 0] 34 (0,0)) q1 N_a_d.out (by simp));replace HK:=am (zb7.trans q16 hk (.inl rfl));replace HI0:=am (hi);replace HB:=am (hb);(try clear hb);(try clear hb2);(try clear hk);(try clear hi))|((with_reducible refine zan (f:=28) rfl ?_);refine goesL_ (some 10) rfl rfl Tryd.func28 (by kernel_rfl) rfl #[.pointer (some ⟨g,0,none⟩)] rfl q4 ?_;(with_reducible refine (zaa.calls k g t723 t724 t725 t726 t727 w0 _ ?side1 ?side2 A4.out).mono ?_);(case side1=>repeat (first|(with_reducible first|exact HI0.out|apply zat.alloc|apply zat.drewN|apply zat.drew|apply zat.set_1|refine zat.far ?_ N_d_a.out _)|exact HI0.out));(case side2=>repeat (first|(with_reducible first|exact HB.out|apply zaw|apply zah|apply zar|refine zak ?_ (zat.ge HI0.out)|refine zak ?_ E_a.out)|exact HB.out));rintro e w14 ⟨rfl,hi,hb,hk⟩;refine ⟨_,rfl,?_⟩;replace B_a:=am (zb7.blk hk (g':=g_a) (o:=.cells #[.int .i64 0,.int .i64 0,.int .i64 0,.int .i64 0,.int .i64 0,.int .i64 0,.bool false,.string (⟨#[]⟩:ByteArray),.string (⟨#[]⟩:ByteArray),.bool false,.string (⟨#[]⟩:ByteArray),.string (⟨#[]⟩:ByteArray),.slice none 0 0,.slice none 0 0] 34 (0,0)) q1 N_a_d.out (by simp));replace HK:=am (zb7.trans q16 hk (.inl rfl));replace HI0:=am (hi);replace HB:=am (hb);(try clear hb);(try clear hb2);(try clear hk);(try clear hi))|((with_reducible refine zan (f:=28) rfl ?_);refine goesL_ (some 12) rfl rfl Tryd.func28 (by kernel_rfl) rfl #[.pointer (some ⟨g,0,none⟩)] rfl q4 ?_;(with_reducible refine (zaa.calls k g t726 t727 t728 t729 t730 w0 _ ?side1 ?side2 A5.out).mono ?_);(case side1=>repeat (first|(with_reducible first|exact HI0.out|apply zat.alloc|apply zat.drewN|apply zat.drew|apply zat.set_1|refine zat.far ?_ N_d_a.out _)|exact HI0.out));(case side2=>repeat (first|(with_reducible first|exact HB.out|apply zaw|apply zah|apply zar|refine zak ?_ (zat.ge HI0.out)|refine zak ?_ E_a.out)|exact HB.out));rintro e w15 ⟨rfl,hi,hb,hk⟩;refine ⟨_,rfl,?_⟩;replace B_a:=am (zb7.blk hk (g':=g_a) (o:=.cells #[.int .i64 0,.int .i64 0,.int .i64 0,.int .i64 0,.int .i64 0,.int .i64 0,.bool false,.string (⟨#[]⟩:ByteArray),.string (⟨#[]⟩:ByteArray),.bool false,.string (⟨#[]⟩:ByteArray),.string (⟨#[]⟩:ByteArray),.slice none 0 0,.slice none 0 0] 34 (0,0)) q1 N_a_d.out (by simp));replace HK:=am (zb7.trans q16 hk (.inl rfl));replace HI0:=am (hi);replace HB:=am (hb);(try clear hb);(try clear hb2);(try clear hk);(try clear hi))|((with_reducible refine zan (f:=28) rfl ?_);refine goesL_ (some 14) rfl rfl Tryd.func28 (by kernel_rfl) rfl #[.pointer (some ⟨g,0,none⟩)] rfl q4 ?_;(with_reducible refine (zaa.calls k g t729 t730 t731 t732 t733 w0 _ ?side1 ?side2 A6.out).mono ?_);(case side1=>repeat (first|(with_reducible first|exact HI0.out|apply zat.alloc|apply zat.drewN|apply zat.drew|apply zat.set_1|refine zat.far ?_ N_d_a.out _)|exact HI0.out));(case side2=>repeat (first|(with_reducible first|exact HB.out|apply zaw|apply zah|apply zar|refine zak ?_ (zat.ge HI0.out)|refine zak ?_ E_a.out)|exact HB.out));rintro e w16 ⟨rfl,hi,hb,hk⟩;refine ⟨_,rfl,?_⟩;replace B_a:=am (zb7.blk hk (g':=g_a) (o:=.cells #[.int .i64 0,.int .i64 0,.int .i64 0,.int .i64 0,.int .i64 0,.int .i64 0,.bool false,.string (⟨#[]⟩:ByteArray),.string (⟨#[]⟩:ByteArray),.bool false,.string (⟨#[]⟩:ByteArray),.string (⟨#[]⟩:ByteArray),.slice none 0 0,.slice none 0 0] 34 (0,0)) q1 N_a_d.out (by simp));replace HK:=am (zb7.trans q16 hk (.inl rfl));replace HI0:=am (hi);replace HB:=am (hb);(try clear hb);(try clear hb2);(try clear hk);(try clear hi))|((with_reducible refine zan (f:=28) rfl ?_);refine goesL_ (some 16) rfl rfl Tryd.func28 (by kernel_rfl) rfl #[.pointer (some ⟨g,0,none⟩)] rfl q4 ?_;(with_reducible refine (zaa.calls k g t732 t733 t734 t735 t736 w0 _ ?side1 ?side2 A7.out).mono ?_);(case side1=>repeat (first|(with_reducible first|exact HI0.out|apply zat.alloc|apply zat.drewN|apply zat.drew|apply zat.set_1|refine zat.far ?_ N_d_a.out _)|exact HI0.out));(case side2=>repeat (first|(with_reducible first|exact HB.out|apply zaw|apply zah|apply zar|refine zak ?_ (zat.ge HI0.out)|refine zak ?_ E_a.out)|exact HB.out));rintro e w17 ⟨rfl,hi,hb,hk⟩;refine ⟨_,rfl,?_⟩;replace B_a:=am (zb7.blk hk (g':=g_a) (o:=.cells #[.int .i64 0,.int .i64 0,.int .i64 0,.int .i64 0,.int .i64 0,.int .i64 0,.bool false,.string (⟨#[]⟩:ByteArray),.string (⟨#[]⟩:ByteArray),.bool false,.string (⟨#[]⟩:ByteArray),.string (⟨#[]⟩:ByteArray),.slice none 0 0,.slice none 0 0] 34 (0,0)) q1 N_a_d.out (by simp));replace HK:=am (zb7.trans q16 hk (.inl rfl));replace HI0:=am (hi);replace HB:=am (hb);(try clear hb);(try clear hb2);(try clear hk);(try clear hi))|((with_reducible refine zbr (N:=3) rfl ?_);refine zbq ?hg (N:=3) ?hd (cs:=#[.int .i64 0,.int .i64 0,.int .i64 0,.int .i64 0,.int .i64 0,.int .i64 0,.bool false,.string (⟨#[]⟩:ByteArray),.string (⟨#[]⟩:ByteArray),.bool false,.string (⟨#[]⟩:ByteArray),.string (⟨#[]⟩:ByteArray),.slice none 0 0,.slice none 0 0]) (t:=34) ?hr ?_;(case hd=>rfl);(case hg=>rfl);(case hr=>first|(go_simp;done)|(go_simp;rfl));intro g_b hg w18 hbox hb;have n0_:=am (zat.below (by repeat (first|(with_reducible first|exact HI0.out|apply zat.alloc|apply zat.drewN|apply zat.drew|apply zat.set_1|refine zat.far ?_ N_d_a.out _)|exact HI0.out)) hb);have n1_:=am (zaf q1 hb);have n2_:=am (zb7.trans q16 (zb7.of_below hb g none) (.inl rfl));have n3_:=am (zab (by repeat (first|(with_reducible first|exact HB.out|apply zaw|apply zah|apply zar|refine zak ?_ (zat.ge HI0.out)|refine zak ?_ E_a.out)|exact HB.out)) hb);have n4_:=am (hbox);have n5_:=am ((by rw [hg];exact (zcw (w:=w) (g:=g) (row:=none) q16):w.heap.size≤g_b));have n6_:=am ((Nat.le_trans HW0.out (by rw [hg];exact (zcw (w:=w) (g:=g) (row:=none) q16):w.heap.size≤g_b):w0.heap.size≤g_b));have n7_:=am ((q50:g_a≠g_b));have n8_:=am ((q51:g_b≠g_a));have n9_:=am ((by rw [hg];exact Nat.ne_of_lt (zat.lt (show zat w0 _ g t735 t736 from by repeat (first|(with_reducible first|exact HI0.out|apply zat.alloc|apply zat.drewN|apply zat.drew|apply zat.set_1|refine zat.far ?_ N_d_a.out _)|exact HI0.out))):g≠g_b));have n10_:=am ((by rw [hg];exact Nat.ne_of_gt (zat.lt (show zat w0 _ g t735 t736 from by repeat (first|(with_reducible first|exact HI0.out|apply zat.alloc|apply zat.drewN|apply zat.drew|apply zat.set_1|refine zat.far ?_ N_d_a.out _)|exact HI0.out))):g_b≠g));clear HI0;clear B_a;clear HK;clear HB;have HI0:=n0_;have B_a:=n1_;have HK:=n2_;have HB:=n3_;have B_b:=n4_;have W_b:=n5_;have E_b:=n6_;have N_a_b:=n7_;have N_b_a:=n8_;have N_d_b:=n9_;have N_b_d:=n10_;clear n0_ n1_ n2_ n3_ n4_ n5_ n6_ n7_ n8_ n9_ n10_;clear hb hbox hg;have hnb19:=N_b_a.out;have hnc19:=N_a_b.out;have hnb20:=N_b_d.out;have hnc20:=N_d_b.out;obtain ⟨c_a0,c_a1,c_a2,c_a3,c_a4,c_a5,c_a6,c_a7,c_a8,c_a9,c_a10,c_a11,c_a12,c_a13⟩:=cs14 B_b.out;obtain ⟨f_a0,f_a1,f_a2,f_a3,f_a4,f_a5,f_a6,f_a7,f_a8,f_a9,f_a10,f_a11,f_a12,f_a13⟩:=fs14 B_b.out)|((with_reducible refine zan (f:=42) rfl ?_);refine goesL_ (some 19) rfl rfl Tryd.func42 (by kernel_rfl) rfl #[.pointer (some ⟨g,0,none⟩)] rfl q4 ?_;(with_reducible refine (zbi.calls k g t735 t736 t738 t739 t740 t741 t742 w0 _ ?side1 ?side2 A8.out).mono ?_);(case side1=>repeat (first|(with_reducible first|exact HI0.out|apply zat.alloc|apply zat.drewN|apply zat.drew|apply zat.set_1|refine zat.far ?_ N_d_a.out _|refine zat.far ?_ N_d_b.out _)|exact HI0.out));(case side2=>repeat (first|(with_reducible first|exact HB.out|apply zaw|apply zah|apply zar|refine zak ?_ (zat.ge HI0.out)|refine zak ?_ E_a.out|refine zak ?_ E_b.out)|exact HB.out));rintro e w22 ⟨rfl,hi,hb,hk⟩;refine ⟨_,rfl,?_⟩;replace B_a:=am (zb7.blk hk (g':=g_a) (o:=.cells #[.int .i64 0,.int .i64 0,.int .i64 0,.int .i64 0,.int .i64 0,.int .i64 0,.bool false,.string (⟨#[]⟩:ByteArray),.string (⟨#[]⟩:ByteArray),.bool false,.string (⟨#[]⟩:ByteArray),.string (⟨#[]⟩:ByteArray),.slice none 0 0,.slice none 0 0] 34 (0,0)) (by (with_reducible repeat (first|refine za4 ?_ _|refine za6 ?_|refine za0 ?_ _));refine zay ?_ N_a_b.out _;(with_reducible repeat (first|refine za4 ?_ _|refine za6 ?_|refine za0 ?_ _));refine zay ?_ N_a_b.out _;(with_reducible repeat (first|refine za4 ?_ _|refine za6 ?_|refine za0 ?_ _));refine zay ?_ N_a_b.out _;(with_reducible repeat (first|refine za4 ?_ _|refine za6 ?_|refine za0 ?_ _));refine zay ?_ N_a_b.out _;(with_reducible repeat (first|refine za4 ?_ _|refine za6 ?_|refine za0 ?_ _));refine zay ?_ N_a_b.out _;(with_reducible repeat (first|refine za4 ?_ _|refine za6 ?_|refine za0 ?_ _));refine zay ?_ N_a_b.out _;(with_reducible repeat (first|refine za4 ?_ _|refine za6 ?_|refine za0 ?_ _));refine zay ?_ N_a_b.out _;(with_reducible repeat (first|refine za4 ?_ _|refine za6 ?_|refine za0 ?_ _));refine zay ?_ N_a_b.out _;(with_reducible repeat (first|refine za4 ?_ _|refine za6 ?_|refine za0 ?_ _));refine zay ?_ N_a_b.out _;(with_reducible repeat (first|refine za4 ?_ _|refine za6 ?_|refine za0 ?_ _));refine zay ?_ N_a_b.out _;(with_reducible repeat (first|refine za4 ?_ _|refine za6 ?_|refine za0 ?_ _));refine zay ?_ N_a_b.out _;(with_reducible repeat (first|refine za4 ?_ _|refine za6 ?_|refine za0 ?_ _));refine zay ?_ N_a_b.out _;(with_reducible repeat (first|refine za4 ?_ _|refine za6 ?_|refine za0 ?_ _));refine zay ?_ N_a_b.out _;(with_reducible repeat (first|refine za4 ?_ _|refine za6 ?_|refine za0 ?_ _));refine zay ?_ N_a_b.out _;(with_reducible repeat (first|refine za4 ?_ _|refine za6 ?_|refine za0 ?_ _));exact B_a.out) N_a_d.out (by simp));replace B_b:=am (zb7.blk hk (g':=g_b) (o:=.cells #[.int .i64 t719,.int .i64 t722,.int .i64 t725,.int .i64 t728,.int .i64 t731,.int .i64 t734,.bool false,.string (⟨#[]⟩:ByteArray),.string (⟨#[]⟩:ByteArray),.bool false,.string (⟨#[]⟩:ByteArray),.string (⟨#[]⟩:ByteArray),.slice none 0 0,.slice none 0 0] 34 (0,0)) (by (with_reducible repeat (first|refine za4 ?_ _|refine za6 ?_|refine za0 ?_ _));refine za9 (cs:=#[.int .i64 t719,.int .i64 t722,.int .i64 t725,.int .i64 t728,.int .i64 t731,.int .i64 t734,.bool false,.string (⟨#[]⟩:ByteArray),.string (⟨#[]⟩:ByteArray),.bool false,.string (⟨#[]⟩:ByteArray),.string (⟨#[]⟩:ByteArray),.slice none 0 0,.slice none 0 0]) ?_ 13 _ rfl;(with_reducible repeat (first|refine za4 ?_ _|refine za6 ?_|refine za0 ?_ _));refine za9 (cs:=#[.int .i64 t719,.int .i64 t722,.int .i64 t725,.int .i64 t728,.int .i64 t731,.int .i64 t734,.bool false,.string (⟨#[]⟩:ByteArray),.string (⟨#[]⟩:ByteArray),.bool false,.string (⟨#[]⟩:ByteArray),.string (⟨#[]⟩:ByteArray),.slice none 0 0,.slice none 0 0]) ?_ 12 _ rfl;(with_reducible repeat (first|refine za4 ?_ _|refine za6 ?_|refine za0 ?_ _));refine za9 (cs:=#[.int .i64 t719,.int .i64 t722,.int .i64 t725,.int .i64 t728,.int .i64 t731,.int .i64 t734,.bool false,.string (⟨#[]⟩:ByteArray),.string (⟨#[]⟩:ByteArray),.bool false,.string (⟨#[]⟩:ByteArray),.string (⟨#[]⟩:ByteArray),.slice none 0 0,.slice none 0 0]) ?_ 11 _ rfl;(with_reducible repeat (first|refine za4 ?_ _|refine za6 ?_|refine za0 ?_ _));refine za9 (cs:=#[.int .i64 t719,.int .i64 t722,.int .i64 t725,.int .i64 t728,.int .i64 t731,.int .i64 t734,.bool false,.string (⟨#[]⟩:ByteArray),.string (⟨#[]⟩:ByteArray),.bool false,.string (⟨#[]⟩:ByteArray),.string (⟨#[]⟩:ByteArray),.slice none 0 0,.slice none 0 0]) ?_ 10 _ rfl;(with_reducible repeat (first|refine za4 ?_ _|refine za6 ?_|refine za0 ?_ _));refine za9 (cs:=#[.int .i64 t719,.int .i64 t722,.int .i64 t725,.int .i64 t728,.int .i64 t731,.int .i64 t734,.bool false,.string (⟨#[]⟩:ByteArray),.string (⟨#[]⟩:ByteArray),.bool false,.string (⟨#[]⟩:ByteArray),.string (⟨#[]⟩:ByteArray),.slice none 0 0,.slice none 0 0]) ?_ 9 _ rfl;(with_reducible repeat (first|refine za4 ?_ _|refine za6 ?_|refine za0 ?_ _));refine za9 (cs:=#[.int .i64 t719,.int .i64 t722,.int .i64 t725,.int .i64 t728,.int .i64 t731,.int .i64 t734,.bool false,.string (⟨#[]⟩:ByteArray),.string (⟨#[]⟩:ByteArray),.bool false,.string (⟨#[]⟩:ByteArray),.string (⟨#[]⟩:ByteArray),.slice none 0 0,.slice none 0 0]) ?_ 8 _ rfl;(with_reducible repeat (first|refine za4 ?_ _|refine za6 ?_|refine za0 ?_ _));refine za9 (cs:=#[.int .i64 t719,.int .i64 t722,.int .i64 t725,.int .i64 t728,.int .i64 t731,.int .i64 t734,.bool false,.string (⟨#[]⟩:ByteArray),.string (⟨#[]⟩:ByteArray),.bool false,.string (⟨#[]⟩:ByteArray),.string (⟨#[]⟩:ByteArray),.slice none 0 0,.slice none 0 0]) ?_ 7 _ rfl;(with_reducible repeat (first|refine za4 ?_ _|refine za6 ?_|refine za0 ?_ _));refine za9 (cs:=#[.int .i64 t719,.int .i64 t722,.int .i64 t725,.int .i64 t728,.int .i64 t731,.int .i64 t734,.bool false,.string (⟨#[]⟩:ByteArray),.string (⟨#[]⟩:ByteArray),.bool false,.string (⟨#[]⟩:ByteArray),.string (⟨#[]⟩:ByteArray),.slice none 0 0,.slice none 0 0]) ?_ 6 _ rfl;(with_reducible repeat (first|refine za4 ?_ _|refine za6 ?_|refine za0 ?_ _));refine za9 (cs:=#[.int .i64 t719,.int .i64 t722,.int .i64 t725,.int .i64 t728,.int .i64 t731,.int .i64 0,.bool false,.string (⟨#[]⟩:ByteArray),.string (⟨#[]⟩:ByteArray),.bool false,.string (⟨#[]⟩:ByteArray),.string (⟨#[]⟩:ByteArray),.slice none 0 0,.slice none 0 0]) ?_ 5 _ rfl;(with_reducible repeat (first|refine za4 ?_ _|refine za6 ?_|refine za0 ?_ _));refine za9 (cs:=#[.int .i64 t719,.int .i64 t722,.int .i64 t725,.int .i64 t728,.int .i64 0,.int .i64 0,.bool false,.string (⟨#[]⟩:ByteArray),.string (⟨#[]⟩:ByteArray),.bool false,.string (⟨#[]⟩:ByteArray),.string (⟨#[]⟩:ByteArray),.slice none 0 0,.slice none 0 0]) ?_ 4 _ rfl;(with_reducible repeat (first|refine za4 ?_ _|refine za6 ?_|refine za0 ?_ _));refine za9 (cs:=#[.int .i64 t719,.int .i64 t722,.int .i64 t725,.int .i64 0,.int .i64 0,.int .i64 0,.bool false,.string (⟨#[]⟩:ByteArray),.string (⟨#[]⟩:ByteArray),.bool false,.string (⟨#[]⟩:ByteArray),.string (⟨#[]⟩:ByteArray),.slice none 0 0,.slice none 0 0]) ?_ 3 _ rfl;(with_reducible repeat (first|refine za4 ?_ _|refine za6 ?_|refine za0 ?_ _));refine za9 (cs:=#[.int .i64 t719,.int .i64 t722,.int .i64 0,.int .i64 0,.int .i64 0,.int .i64 0,.bool false,.string (⟨#[]⟩:ByteArray),.string (⟨#[]⟩:ByteArray),.bool false,.string (⟨#[]⟩:ByteArray),.string (⟨#[]⟩:ByteArray),.slice none 0 0,.slice none 0 0]) ?_ 2 _ rfl;(with_reducible repeat (first|refine za4 ?_ _|refine za6 ?_|refine za0 ?_ _));refine za9 (cs:=#[.int .i64 t719,.int .i64 0,.int .i64 0,.int .i64 0,.int .i64 0,.int .i64 0,.bool false,.string (⟨#[]⟩:ByteArray),.string (⟨#[]⟩:ByteArray),.bool false,.string (⟨#[]⟩:ByteArray),.string (⟨#[]⟩:ByteArray),.slice none 0 0,.slice none 0 0]) ?_ 1 _ rfl;(with_reducible repeat (first|refine za4 ?_ _|refine za6 ?_|refine za0 ?_ _));refine za9 (cs:=#[.int .i64 0,.int .i64 0,.int .i64 0,.int .i64 0,.int .i64 0,.int .i64 0,.bool false,.string (⟨#[]⟩:ByteArray),.string (⟨#[]⟩:ByteArray),.bool false,.string (⟨#[]⟩:ByteArray),.string (⟨#[]⟩:ByteArray),.slice none 0 0,.slice none 0 0]) ?_ 0 _ rfl;(with_reducible repeat (first|refine za4 ?_ _|refine za6 ?_|refine za0 ?_ _));exact B_b.out) N_b_d.out (by simp));replace HK:=am (zb7.trans q23 hk (.inl rfl));replace HI0:=am (hi);replace HB:=am (hb);(try clear hb);(try clear hb2);(try clear hk);(try clear hi);obtain ⟨c_b0,c_b1,c_b2,c_b3,c_b4,c_b5,c_b6,c_b7,c_b8,c_b9,c_b10,c_b11,c_b12,c_b13⟩:=cs14 B_b.out;obtain ⟨f_b0,f_b1,f_b2,f_b3,f_b4,f_b5,f_b6,f_b7,f_b8,f_b9,f_b10,f_b11,f_b12,f_b13⟩:=fs14 B_b.out)|((with_reducible refine zan (f:=42) rfl ?_);refine goesL_ (some 22) rfl rfl Tryd.func42 (by kernel_rfl) rfl #[.pointer (some ⟨g,0,none⟩)] rfl q4 ?_;(with_reducible refine (zbi.calls k g t741 t742 t743 t744 t745 t746 t747 w0 _ ?side1 ?side2 A9.out).mono ?_);(case side1=>repeat (first|(with_reducible first|exact HI0.out|apply zat.alloc|apply zat.drewN|apply zat.drew|apply zat.set_1|refine zat.far ?_ N_d_a.out _|refine zat.far ?_ N_d_b.out _)|exact HI0.out));(case side2=>repeat (first|(with_reducible first|exact HB.out|apply zaw|apply zah|apply zar|refine zak ?_ (zat.ge HI0.out)|refine zak ?_ E_a.out|refine zak ?_ E_b.out)|exact HB.out));rintro e w24 ⟨rfl,hi,hb,hk⟩;refine ⟨_,rfl,?_⟩;replace B_a:=am (zb7.blk hk (g':=g_a) (o:=.cells #[.int .i64 0,.int .i64 0,.int .i64 0,.int .i64 0,.int .i64 0,.int .i64 0,.bool false,.string (⟨#[]⟩:ByteArray),.string (⟨#[]⟩:ByteArray),.bool false,.string (⟨#[]⟩:ByteArray),.string (⟨#[]⟩:ByteArray),.slice none 0 0,.slice none 0 0] 34 (0,0)) q47 N_a_d.out (by simp));replace B_b:=am (zb7.blk hk (g':=g_b) (o:=.cells #[.int .i64 t719,.int .i64 t722,.int .i64 t725,.int .i64 t728,.int .i64 t731,.int .i64 t734,.bool t738,.string t739,.string t740,.bool false,.string (⟨#[]⟩:ByteArray),.string (⟨#[]⟩:ByteArray),.slice none 0 0,.slice none 0 0] 34 (0,0)) (by (with_reducible repeat (first|refine za4 ?_ _|refine za6 ?_|refine za0 ?_ _));refine za9 (cs:=#[.int .i64 t719,.int .i64 t722,.int .i64 t725,.int .i64 t728,.int .i64 t731,.int .i64 t734,.bool t738,.string t739,.string (⟨#[]⟩:ByteArray),.bool false,.string (⟨#[]⟩:ByteArray),.string (⟨#[]⟩:ByteArray),.slice none 0 0,.slice none 0 0]) ?_ 8 _ rfl;(with_reducible repeat (first|refine za4 ?_ _|refine za6 ?_|refine za0 ?_ _));refine za9 (cs:=#[.int .i64 t719,.int .i64 t722,.int .i64 t725,.int .i64 t728,.int .i64 t731,.int .i64 t734,.bool t738,.string (⟨#[]⟩:ByteArray),.string (⟨#[]⟩:ByteArray),.bool false,.string (⟨#[]⟩:ByteArray),.string (⟨#[]⟩:ByteArray),.slice none 0 0,.slice none 0 0]) ?_ 7 _ rfl;(with_reducible repeat (first|refine za4 ?_ _|refine za6 ?_|refine za0 ?_ _));refine za9 (cs:=#[.int .i64 t719,.int .i64 t722,.int .i64 t725,.int .i64 t728,.int .i64 t731,.int .i64 t734,.bool false,.string (⟨#[]⟩:ByteArray),.string (⟨#[]⟩:ByteArray),.bool false,.string (⟨#[]⟩:ByteArray),.string (⟨#[]⟩:ByteArray),.slice none 0 0,.slice none 0 0]) ?_ 6 _ rfl;(with_reducible repeat (first|refine za4 ?_ _|refine za6 ?_|refine za0 ?_ _));exact B_b.out) N_b_d.out (by simp));replace HK:=am (zb7.trans q23 hk (.inl rfl));replace HI0:=am (hi);replace HB:=am (hb);(try clear hb);(try clear hb2);(try clear hk);(try clear hi);obtain ⟨c_c0,c_c1,c_c2,c_c3,c_c4,c_c5,c_c6,c_c7,c_c8,c_c9,c_c10,c_c11,c_c12,c_c13⟩:=cs14 B_b.out;obtain ⟨f_c0,f_c1,f_c2,f_c3,f_c4,f_c5,f_c6,f_c7,f_c8,f_c9,f_c10,f_c11,f_c12,f_c13⟩:=fs14 B_b.out)|((with_reducible refine zan (f:=27) rfl ?_);refine goesL_ (some 25) rfl rfl Tryd.func27 (by kernel_rfl) rfl #[.pointer (some ⟨g,0,none⟩),.int .i64 8] rfl q4 ?_;(with_reducible refine (zax.calls k g t746 t747 8 t748 t749 t750 w0 _ ?side1 ?side2 A10.out).mono ?_);(case side1=>repeat (first|(with_reducible first|exact HI0.out|apply zat.alloc|apply zat.drewN|apply zat.drew|apply zat.set_1|refine zat.far ?_ N_d_a.out _|refine zat.far ?_ N_d_b.out _)|exact HI0.out));(case side2=>repeat (first|(with_reducible first|exact HB.out|apply zaw|apply zah|apply zar|refine zak ?_ (zat.ge HI0.out)|refine zak ?_ E_a.out|refine zak ?_ E_b.out)|exact HB.out));rintro e w26 ⟨rfl,hi,hb,hk⟩;refine ⟨_,rfl,?_⟩;replace B_a:=am (zb7.blk hk (g':=g_a) (o:=.cells #[.int .i64 0,.int .i64 0,.int .i64 0,.int .i64 0,.int .i64 0,.int .i64 0,.bool false,.string (⟨#[]⟩:ByteArray),.string (⟨#[]⟩:ByteArray),.bool false,.string (⟨#[]⟩:ByteArray),.string (⟨#[]⟩:ByteArray),.slice none 0 0,.slice none 0 0] 34 (0,0)) q47 N_a_d.out (by simp));replace B_b:=am (zb7.blk hk (g':=g_b) (o:=.cells #[.int .i64 t719,.int .i64 t722,.int .i64 t725,.int .i64 t728,.int .i64 t731,.int .i64 t734,.bool t738,.string t739,.string t740,.bool t743,.string t744,.string t745,.slice none 0 0,.slice none 0 0] 34 (0,0)) (by (with_reducible repeat (first|refine za4 ?_ _|refine za6 ?_|refine za0 ?_ _));refine za9 (cs:=#[.int .i64 t719,.int .i64 t722,.int .i64 t725,.int .i64 t728,.int .i64 t731,.int .i64 t734,.bool t738,.string t739,.string t740,.bool t743,.string t744,.string (⟨#[]⟩:ByteArray),.slice none 0 0,.slice none 0 0]) ?_ 11 _ rfl;(with_reducible repeat (first|refine za4 ?_ _|refine za6 ?_|refine za0 ?_ _));refine za9 (cs:=#[.int .i64 t719,.int .i64 t722,.int .i64 t725,.int .i64 t728,.int .i64 t731,.int .i64 t734,.bool t738,.string t739,.string t740,.bool t743,.string (⟨#[]⟩:ByteArray),.string (⟨#[]⟩:ByteArray),.slice none 0 0,.slice none 0 0]) ?_ 10 _ rfl;(with_reducible repeat (first|refine za4 ?_ _|refine za6 ?_|refine za0 ?_ _));refine za9 (cs:=#[.int .i64 t719,.int .i64 t722,.int .i64 t725,.int .i64 t728,.int .i64 t731,.int .i64 t734,.bool t738,.string t739,.string t740,.bool false,.string (⟨#[]⟩:ByteArray),.string (⟨#[]⟩:ByteArray),.slice none 0 0,.slice none 0 0]) ?_ 9 _ rfl;(with_reducible repeat (first|refine za4 ?_ _|refine za6 ?_|refine za0 ?_ _));exact B_b.out) N_b_d.out (by simp));replace HK:=am (zb7.trans q23 hk (.inl rfl));replace HI0:=am (hi);replace HB:=am (hb);(try clear hb);(try clear hb2);(try clear hk);(try clear hi)))
 go_loopg [26] k (fun kq v26 w'=>∃ (x26_1:Int) (x1000_1:ByteArray) (x1001_1:Bool) (x738012_1:List (S49)) (u738012:Value),v26 = .int .i64 x26_1∧za1 (zad.l0 kq t748 x26_1 x1000_1 x1001_1 t719 t722 t725 t728 t731 t734 t738 t739 t740 t743 t744 t745 x738012_1=some (r1,r2,r3,r4,r5,r6,r7,r8,r9,r10,r11,r12,r13,r14,r15,r16))∧za1 (kq≤k)∧za1 (Kd.R k49 49 w' w.heap.size (fun _=>True) u738012 x738012_1)∧za1 (w'.heap[g_a]?=some (.cells #[.int .i64 0,.int .i64 0,.int .i64 0,.int .i64 0,.int .i64 0,.int .i64 0,.bool false,.string (⟨#[]⟩:ByteArray),.string (⟨#[]⟩:ByteArray),.bool false,.string (⟨#[]⟩:ByteArray),.string (⟨#[]⟩:ByteArray),(.slice none 0 0),(.slice none 0 0)] 34 (0,0)))∧za1 (w'.heap[g_b]?=some (.cells #[.int .i64 t719,.int .i64 t722,.int .i64 t725,.int .i64 t728,.int .i64 t731,.int .i64 t734,.bool t738,.string t739,.string t740,.bool t743,.string t744,.string t745,u738012,(.slice none 0 0)] 34 (0,0)))∧za1 (zat w0 w' g x1000_1 x1001_1)∧za1 (zb7 w w' g none)∧za1 (Below w0.heap.size w0 w'))
 case atStart=>exact ⟨(0),(t749),(t750),(([]:List (S49))),(.slice none 0 0),q5,H',⟨Nat.le_refl _⟩,⟨q26⟩,⟨q1⟩,⟨q7⟩,⟨q37⟩,⟨q23⟩,⟨q38⟩⟩
 case round=>
  clear H';(try clear c1);(try clear c2);(try clear p2);(try clear c4);(try clear c19);(try clear c20);(try clear c26);(try clear c_a0 c_a1 c_a10 c_a11 c_a12 c_a13 c_a2 c_a3 c_a4 c_a5 c_a6 c_a7 c_a8 c_a9 f_a0 f_a1 f_a10 f_a11 f_a12 f_a13 f_a2 f_a3 f_a4 f_a5 f_a6 f_a7 f_a8 f_a9);(try clear c_b0 c_b1 c_b10 c_b11 c_b12 c_b13 c_b2 c_b3 c_b4 c_b5 c_b6 c_b7 c_b8 c_b9 f_b0 f_b1 f_b10 f_b11 f_b12 f_b13 f_b2 f_b3 f_b4 f_b5 f_b6 f_b7 f_b8 f_b9);(try clear c_c0 c_c1 c_c10 c_c11 c_c12 c_c13 c_c2 c_c3 c_c4 c_c5 c_c6 c_c7 c_c8 c_c9 f_c0 f_c1 f_c10 f_c11 f_c12 f_c13 f_c2 f_c3 f_c4 f_c5 f_c6 f_c7 f_c8 f_c9);obtain ⟨x26_1,x1000_1,x1001_1,x738012_1,u738012,rfl,HA,HK1,HO_738012,B_a,B_b,HI0,HK,HB⟩:=hrel
  cases gk with
  | zero=>exact absurd HA.out (by simp [zad.l0])
  | succ k1=>
   have H:=HA.out;clear HA;simp only [zad.l0] at H
   by_cases c27:x26_1<t748
   ·rw [if_pos c27] at H
    have c27b0:decide (x26_1<t748)=true:=decide_eq_true c27;clear c27;replace H:=Option.bind_eq_some_iff.mp H;obtain ⟨⟨t751,t752,t753⟩,A280,H⟩:=H;replace H:((zaa.f k1 t752 t753).bind fun bt754=>(if x738012_1.length<8796093022208 then (zad.l0 k1 t748 (wrap64 (x26_1+1)) bt754.2.1 bt754.2.2 t719 t722 t725 t728 t731 t734 t738 t739 t740 t743 t744 t745 (x738012_1 ++ [(⟨t751,bt754.1⟩:S49)])) else (none)))=some (r1,r2,r3,r4,r5,r6,r7,r8,r9,r10,r11,r12,r13,r14,r15,r16):=H;have A28:=za1.mk A280;clear A280;replace H:=Option.bind_eq_some_iff.mp H;obtain ⟨⟨t754,t755,t756⟩,A290,H⟩:=H;replace H:(if x738012_1.length<8796093022208 then (zad.l0 k1 t748 (wrap64 (x26_1+1)) t755 t756 t719 t722 t725 t728 t731 t734 t738 t739 t740 t743 t744 t745 (x738012_1 ++ [(⟨t751,t754⟩:S49)])) else (none))=some (r1,r2,r3,r4,r5,r6,r7,r8,r9,r10,r11,r12,r13,r14,r15,r16):=H;have A29:=za1.mk A290;clear A290
    by_cases c30:x738012_1.length<8796093022208
    ·rw [if_pos c30] at H
     have LMc30:=za1.mk c30;clear c30
     obtain ⟨y757,hy757⟩:∃ y_:List (S49),y_=(x738012_1 ++ [(⟨t751,t754⟩:S49)]):=⟨_,rfl⟩
     replace H:(zad.l0 k1 t748 (wrap64 (x26_1+1)) t755 t756 t719 t722 t725 t728 t731 t734 t738 t739 t740 t743 t744 t745 y757)=some (r1,r2,r3,r4,r5,r6,r7,r8,r9,r10,r11,r12,r13,r14,r15,r16):=by first|(rw [hy757];with_reducible exact H)|(have H2_:=(Option.bind_some _ _).symm.trans H;rw [hy757];with_reducible exact H2_)|(have H2_:=(Option.bind_some _ _).symm.trans H;with_reducible exact H2_)|with_reducible exact H|(rw [hy757];exact H)|exact H
     have Ny757:=za1.mk hy757;clear hy757;have H':=za1.mk H;clear H
     try go_wp2
     replace HO_738012:=am (Kd.zb9 HO_738012.out);replace B_a:=am (za6 B_a.out);replace B_b:=am (za6 B_b.out);replace HI0:=am (zat.drew HI0.out);replace HK:=am (zda HK.out);replace HB:=am (zar HB.out);refine start_ (n:=11) (S:=fun w'=>w'.cell? ⟨g_b,0,none⟩=some (.int .i64 t719)∧w'.cell? ⟨g_b,1,none⟩=some (.int .i64 t722)∧w'.cell? ⟨g_b,2,none⟩=some (.int .i64 t725)∧w'.cell? ⟨g_b,3,none⟩=some (.int .i64 t728)∧w'.cell? ⟨g_b,4,none⟩=some (.int .i64 t731)∧w'.cell? ⟨g_b,5,none⟩=some (.int .i64 t734)∧w'.cell? ⟨g_b,6,none⟩=some (.bool t738)∧w'.cell? ⟨g_b,7,none⟩=some (.string t739)∧w'.cell? ⟨g_b,8,none⟩=some (.string t740)∧w'.cell? ⟨g_b,9,none⟩=some (.bool t743)∧w'.cell? ⟨g_b,10,none⟩=some (.string t744)∧w'.cell? ⟨g_b,11,none⟩=some (.string t745)∧w'.cell? ⟨g_b,12,none⟩=some (u738012)∧w'.cell? ⟨g_b,13,none⟩=some (.slice none 0 0)) (ds:=[10]) #[false,false,false,false,false,false,false,false,false,false,false] (by kernel_rfl) rfl rfl ⟨bc B_b 0,bc B_b 1,bc B_b 2,bc B_b 3,bc B_b 4,bc B_b 5,bc B_b 6,bc B_b 7,bc B_b 8,bc B_b 9,bc B_b 10,bc B_b 11,bc B_b 12,bc B_b 13⟩ (fun hHeld=>?_);refine with_tabW zad.tab6 zad.bits6 (fun HT_ HW_=>?_)
     generalize wr.drew=w31 at HO_738012 B_a B_b HI0 HK HB hHeld ⊢
     refine pp 0 28 rfl rfl ?_;refine pp 2 30 rfl rfl ?_;refine pp 4 32 rfl rfl ?_;refine tk14 1 29 rfl rfl ?_;refine one_ (i:=3) (N:=some 31) #[true,true,true,true,true,false,false,false,false,false,false] rfl rfl (one_of HT_.out (by kernel_rfl)) (by decide) (fun K hK=>?_);refine goes_ Tryd.func28 (by kernel_rfl) rfl #[.pointer (some ⟨g,0,none⟩)] (by rfl) rfl rfl q4 ?_
     with_reducible refine (zaa.calls k1 g x1000_1 x1001_1 t751 t752 t753 w0 _ ?side1 ?side2 A28.out).mono ?_
     (case side1=>repeat (first|(with_reducible first|exact HI0.out|apply zat.alloc|apply zat.drewN|apply zat.drew|apply zat.set_1|refine zat.far ?_ N_d_a.out _|refine zat.far ?_ N_d_b.out _)|exact HI0.out))
     (case side2=>repeat (first|(with_reducible first|exact HB.out|apply zaw|apply zah|apply zar|refine zak ?_ (zat.ge HI0.out)|refine zak ?_ E_a.out|refine zak ?_ E_b.out)|exact HB.out))
     rintro e w32 ⟨rfl,hi,hb,hk⟩;refine ⟨_,rfl,?_⟩;replace HO_738012:=am (Kd.zbm (Kd.zd4 (zat.apart (show zat w0 _ g x1000_1 x1001_1 from by repeat (first|(with_reducible first|exact HI0.out|apply zat.alloc|apply zat.drewN|apply zat.drew|apply zat.set_1|refine zat.far ?_ N_d_a.out _|refine zat.far ?_ N_d_b.out _)|exact HI0.out)) q30 (by decide)) hk (fun _ h=>h.2)) (fun _ h=>h.1));replace B_a:=am (zb7.blk hk (g':=g_a) (o:=.cells #[.int .i64 0,.int .i64 0,.int .i64 0,.int .i64 0,.int .i64 0,.int .i64 0,.bool false,.string (⟨#[]⟩:ByteArray),.string (⟨#[]⟩:ByteArray),.bool false,.string (⟨#[]⟩:ByteArray),.string (⟨#[]⟩:ByteArray),.slice none 0 0,.slice none 0 0] 34 (0,0)) q1 N_a_d.out (by simp));replace B_b:=am (zb7.blk hk (g':=g_b) (o:=.cells #[.int .i64 t719,.int .i64 t722,.int .i64 t725,.int .i64 t728,.int .i64 t731,.int .i64 t734,.bool t738,.string t739,.string t740,.bool t743,.string t744,.string t745,u738012,.slice none 0 0] 34 (0,0)) q7 N_b_d.out (by simp));replace HK:=am (zb7.trans q23 hk (.inl rfl));replace HI0:=am (hi);replace HB:=am (hb);(try clear hb);(try clear hb2);(try clear hk);(try clear hi);refine hK.out _ _ ⟨bc B_b 0,bc B_b 1,bc B_b 2,bc B_b 3,bc B_b 4,bc B_b 5,bc B_b 6,bc B_b 7,bc B_b 8,bc B_b 9,bc B_b 10,bc B_b 11,bc B_b 12,bc B_b 13⟩ (fun hHeld=>?_);clear hK K;refine norm_ (a':=?_) ?_ ?_;rotate_left
     ·show Act.put _ (some 31) _=_
      simp only [Act.put,List.setIfInBounds_toArray,List.set_cons_zero,List.set_cons_succ,i64_w,i32_w]
      rfl
     refine one_ (i:=5) (N:=some 33) #[true,true,true,true,true,true,false,false,false,false,false] rfl rfl (one_of HT_.out (by kernel_rfl)) (by decide) (fun K hK=>?_);refine goes_ Tryd.func28 (by kernel_rfl) rfl #[.pointer (some ⟨g,0,none⟩)] (by rfl) rfl rfl q4 ?_
     with_reducible refine (zaa.calls k1 g t752 t753 t754 t755 t756 w0 _ ?side1 ?side2 A29.out).mono ?_
     (case side1=>repeat (first|(with_reducible first|exact HI0.out|apply zat.alloc|apply zat.drewN|apply zat.drew|apply zat.set_1|refine zat.far ?_ N_d_a.out _|refine zat.far ?_ N_d_b.out _)|exact HI0.out))
     (case side2=>repeat (first|(with_reducible first|exact HB.out|apply zaw|apply zah|apply zar|refine zak ?_ (zat.ge HI0.out)|refine zak ?_ E_a.out|refine zak ?_ E_b.out)|exact HB.out))
     rintro e w33 ⟨rfl,hi,hb,hk⟩;refine ⟨_,rfl,?_⟩;replace HO_738012:=am (Kd.zbm (Kd.zd4 (zat.apart (show zat w0 _ g t752 t753 from by repeat (first|(with_reducible first|exact HI0.out|apply zat.alloc|apply zat.drewN|apply zat.drew|apply zat.set_1|refine zat.far ?_ N_d_a.out _|refine zat.far ?_ N_d_b.out _)|exact HI0.out)) q30 (by decide)) hk (fun _ h=>h.2)) (fun _ h=>h.1));replace B_a:=am (zb7.blk hk (g':=g_a) (o:=.cells #[.int .i64 0,.int .i64 0,.int .i64 0,.int .i64 0,.int .i64 0,.int .i64 0,.bool false,.string (⟨#[]⟩:ByteArray),.string (⟨#[]⟩:ByteArray),.bool false,.string (⟨#[]⟩:ByteArray),.string (⟨#[]⟩:ByteArray),.slice none 0 0,.slice none 0 0] 34 (0,0)) q1 N_a_d.out (by simp));replace B_b:=am (zb7.blk hk (g':=g_b) (o:=.cells #[.int .i64 t719,.int .i64 t722,.int .i64 t725,.int .i64 t728,.int .i64 t731,.int .i64 t734,.bool t738,.string t739,.string t740,.bool t743,.string t744,.string t745,u738012,.slice none 0 0] 34 (0,0)) q7 N_b_d.out (by simp));replace HK:=am (zb7.trans q23 hk (.inl rfl));replace HI0:=am (hi);replace HB:=am (hb);(try clear hb);(try clear hb2);(try clear hk);(try clear hi);refine hK.out _ _ ⟨bc B_b 0,bc B_b 1,bc B_b 2,bc B_b 3,bc B_b 4,bc B_b 5,bc B_b 6,bc B_b 7,bc B_b 8,bc B_b 9,bc B_b 10,bc B_b 11,bc B_b 12,bc B_b 13⟩ (fun hHeld=>?_);clear hK K;refine norm_ (a':=?_) ?_ ?_;rotate_left
     ·show Act.put _ (some 33) _=_
      simp only [Act.put,List.setIfInBounds_toArray,List.set_cons_zero,List.set_cons_succ,i64_w,i32_w]
      rfl
     refine pp 6 34 rfl rfl ?_;refine one_ (i:=7) (N:=some 35) #[true,true,true,true,true,true,true,true,false,false,false] rfl rfl (one_of HT_.out (by kernel_rfl)) (by decide) (fun K hK=>?_);refine value_ (w1:=?_) (v:=?_) (by rfl) rfl ?_ ?_;rotate_left 2
     ·go_simp
      constructor
      ·rfl
      ·rfl
     refine hK.out _ _ ⟨(zal (za0 B_b.out _) 0).trans rfl,(zal (za0 B_b.out _) 1).trans rfl,(zal (za0 B_b.out _) 2).trans rfl,(zal (za0 B_b.out _) 3).trans rfl,(zal (za0 B_b.out _) 4).trans rfl,(zal (za0 B_b.out _) 5).trans rfl,(zal (za0 B_b.out _) 6).trans rfl,(zal (za0 B_b.out _) 7).trans rfl,(zal (za0 B_b.out _) 8).trans rfl,(zal (za0 B_b.out _) 9).trans rfl,(zal (za0 B_b.out _) 10).trans rfl,(zal (za0 B_b.out _) 11).trans rfl,(zal (za0 B_b.out _) 12).trans rfl,(zal (za0 B_b.out _) 13).trans rfl⟩ (fun hHeld=>?_);clear hK K;refine norm_ (a':=?_) ?_ ?_;rotate_left
     ·show Act.put _ (some 35) _=_
      simp only [Act.put,List.setIfInBounds_toArray,List.set_cons_zero,List.set_cons_succ,i64_w,i32_w]
      rfl
     refine one_ (i:=8) (N:=some 36) #[true,true,true,true,true,true,true,true,true,false,false] rfl rfl (one_of HT_.out (by kernel_rfl)) (by decide) (fun K hK=>?_);refine Kd.zd0 k49 w.heap.size (by rfl) (.tmp 29) (.tmp 35) 31 49 (.agg #[(.int .i64 0),(.int .i64 0)]) 16 rfl Tryd.underlying31 info49 rfl (by decide) (by omega) u738012 x738012_1 (⟨t751,t754⟩:S49) [.int .i64 t751,.int .i64 t754] (fun _=>True) (fun _=>False) rfl rfl ?aP (fun _ hk=>hk.elim) ?aF ?aO (Below.refl _ _) ?aS ?aL ?_
     (case aP=>exact k49_mkM _ _ _ (⟨t751,t754⟩:S49))
     (case aF=>exact (fun _ _=>trivial))
     (case aO=>exact q30)
     (case aS=>exact (zcw (w:=w) (g:=g) (row:=none) q23))
     (case aL=>have:=LMc30.out;omega)
     intro v758 w34 ho hb hg hat;rw [← Ny757.out] at ho;have n0_:=am (zck (g:=g_a) (o:=.cells #[.int .i64 0,.int .i64 0,.int .i64 0,.int .i64 0,.int .i64 0,.int .i64 0,.bool false,.string (⟨#[]⟩:ByteArray),.string (⟨#[]⟩:ByteArray),.bool false,.string (⟨#[]⟩:ByteArray),.string (⟨#[]⟩:ByteArray),.slice none 0 0,.slice none 0 0] 34 (0,0)) q1 hg (Kd.zd5 HO_738012.out B_a.out (by decide)));have n1_:=am (zck (g:=g_b) (o:=.cells #[.int .i64 t719,.int .i64 t722,.int .i64 t725,.int .i64 t728,.int .i64 t731,.int .i64 t734,.bool t738,.string t739,.string t740,.bool t743,.string t744,.string t745,u738012,.slice none 0 0] 34 (0,0)) q7 hg (Kd.zd5 HO_738012.out B_b.out (by decide)));have n2_:=am (zat.grown q37 hg (zat.own_ne HI0.out HO_738012.out (by decide)));have n3_:=am (below_weaken q38 HL.out hb);have n4_:=am (zb7.trans q23 (zb7.of_grown hg g) (Kd.R_base2 HO_738012.out));have n5_:=am (ho);clear B_a;clear B_b;clear HI0;clear HB;clear HK;clear HO_738012;have B_a:=n0_;have B_b:=n1_;have HI0:=n2_;have HB:=n3_;have HK:=n4_;have HO759:=n5_;clear n0_ n1_ n2_ n3_ n4_ n5_;clear ho hb hg hat;obtain ⟨Ao35,co35,eo35⟩:=Kd.zbn HO759.out
     (first|subst eo35|(injection eo35 with f1_ f2_ f3_;have f4_:=f1_.symm;have f5_:=f3_.symm;clear f1_ f2_ f3_;subst f4_;subst f5_))
     refine hK.out _ _ ⟨bc B_b 0,bc B_b 1,bc B_b 2,bc B_b 3,bc B_b 4,bc B_b 5,bc B_b 6,bc B_b 7,bc B_b 8,bc B_b 9,bc B_b 10,bc B_b 11,bc B_b 12,bc B_b 13⟩ (fun hHeld=>?_);clear hK K;refine norm_ (a':=?_) ?_ ?_;rotate_left
     ·show Act.put _ (some 36) _=_
      simp only [Act.put,List.setIfInBounds_toArray,List.set_cons_zero,List.set_cons_succ,i64_w,i32_w]
      rfl
     refine pp 9 37 rfl rfl ?_;refine last_ (i:=10) (N:=none) #[true,true,true,true,true,true,true,true,true,true,true] rfl rfl (one_of HT_.out (by kernel_rfl)) (by decide) (fun K hK=>?_);have hs36:w34.cell? ⟨g_b,12,none⟩=some (u738012):=bc B_b 12;have hfs36:=zau B_b.out 12;have hns36_0:=N_a_b.out;have hms36_0:=N_b_a.out;refine skip_ (w1:=?_) (by rfl) rfl ?_ ?_;rotate_left
     ·go_simp
      rfl
     refine hK.out _ _ ?_;clear hK K;refine done_ (done_of HT_.out (by kernel_rfl)) ?_
     try go_wp2
     go_roundg k1
     case measure=>have:=HK1.out;omega
     case rel=>exact ⟨(wrap64 (x26_1+1)),(t755),(t756),(y757),(.slice Ao35 y757.length co35),q5,H',⟨q13⟩,⟨by (with_reducible repeat (first|apply Kd.zb1|apply Kd.zb2|apply Kd.zb9));exact Kd.zbm (Kd.zav (p:=⟨g_b,12,none⟩) (Kd.zcf HO759.out B_b.out (by decide)) (fun _ hk=>hk.2) (.slice Ao35 y757.length co35)) (fun _ hk=>trivial)⟩,⟨by (with_reducible repeat (first|refine za4 ?_ _|refine za6 ?_|refine za0 ?_ _));refine zay ?_ N_a_b.out _;(with_reducible repeat (first|refine za4 ?_ _|refine za6 ?_|refine za0 ?_ _));exact B_a.out⟩,⟨by (with_reducible repeat (first|refine za4 ?_ _|refine za6 ?_|refine za0 ?_ _));refine za9 (cs:=#[.int .i64 t719,.int .i64 t722,.int .i64 t725,.int .i64 t728,.int .i64 t731,.int .i64 t734,.bool t738,.string t739,.string t740,.bool t743,.string t744,.string t745,u738012,.slice none 0 0]) ?_ 12 _ rfl;(with_reducible repeat (first|refine za4 ?_ _|refine za6 ?_|refine za0 ?_ _));exact B_b.out⟩,⟨q37⟩,⟨q23⟩,⟨q38⟩⟩
    ·rw [if_neg c30] at H
     exact absurd H (by simp)
   ·rw [if_neg c27] at H
    have c27b0:decide (x26_1<t748)=false:=decide_eq_false c27;clear c27;replace H:=Option.bind_eq_some_iff.mp H;obtain ⟨⟨t760,t761,t762⟩,A370,H⟩:=H;replace H:(zad.l1 k1 t760 0 t761 t762 t719 t722 t725 t728 t731 t734 t738 t739 t740 t743 t744 t745 x738012_1 ([]:List (S51)))=some (r1,r2,r3,r4,r5,r6,r7,r8,r9,r10,r11,r12,r13,r14,r15,r16):=H;have A37:=za1.mk A370;clear A370;have H':=za1.mk H;clear H
    go_wp2_with (first|((with_reducible refine zan (f:=27) rfl ?_);refine goesL_ (some 40) rfl rfl Tryd.func27 (by kernel_rfl) rfl #[.pointer (some ⟨g,0,none⟩),.int .i64 4] rfl q4 ?_;(with_reducible refine (zax.calls k1 g x1000_1 x1001_1 4 t760 t761 t762 w0 _ ?side1 ?side2 A37.out).mono ?_);(case side1=>repeat (first|(with_reducible first|exact HI0.out|apply zat.alloc|apply zat.drewN|apply zat.drew|apply zat.set_1|refine zat.far ?_ N_d_a.out _|refine zat.far ?_ N_d_b.out _)|exact HI0.out));(case side2=>repeat (first|(with_reducible first|exact HB.out|apply zaw|apply zah|apply zar|refine zak ?_ (zat.ge HI0.out)|refine zak ?_ E_a.out|refine zak ?_ E_b.out)|exact HB.out));rintro e w38 ⟨rfl,hi,hb,hk⟩;refine ⟨_,rfl,?_⟩;replace HO_738012:=am (Kd.zbm (Kd.zd4 (zat.apart (show zat w0 _ g x1000_1 x1001_1 from by repeat (first|(with_reducible first|exact HI0.out|apply zat.alloc|apply zat.drewN|apply zat.drew|apply zat.set_1|refine zat.far ?_ N_d_a.out _|refine zat.far ?_ N_d_b.out _)|exact HI0.out)) q30 (by decide)) hk (fun _ h=>h.2)) (fun _ h=>h.1));replace B_a:=am (zb7.blk hk (g':=g_a) (o:=.cells #[.int .i64 0,.int .i64 0,.int .i64 0,.int .i64 0,.int .i64 0,.int .i64 0,.bool false,.string (⟨#[]⟩:ByteArray),.string (⟨#[]⟩:ByteArray),.bool false,.string (⟨#[]⟩:ByteArray),.string (⟨#[]⟩:ByteArray),.slice none 0 0,.slice none 0 0] 34 (0,0)) q1 N_a_d.out (by simp));replace B_b:=am (zb7.blk hk (g':=g_b) (o:=.cells #[.int .i64 t719,.int .i64 t722,.int .i64 t725,.int .i64 t728,.int .i64 t731,.int .i64 t734,.bool t738,.string t739,.string t740,.bool t743,.string t744,.string t745,u738012,.slice none 0 0] 34 (0,0)) q7 N_b_d.out (by simp));replace HK:=am (zb7.trans q23 hk (.inl rfl));replace HI0:=am (hi);replace HB:=am (hb);(try clear hb);(try clear hb2);(try clear hk);(try clear hi)))
    go_loopg [41] k1 (fun kq v41 w'=>∃ (x41_2:Int) (x1000_2:ByteArray) (x1001_2:Bool) (x738013_2:List (S51)) (u738013:Value),v41 = .int .i64 x41_2∧za1 (zad.l1 kq t760 x41_2 x1000_2 x1001_2 t719 t722 t725 t728 t731 t734 t738 t739 t740 t743 t744 t745 x738012_1 x738013_2=some (r1,r2,r3,r4,r5,r6,r7,r8,r9,r10,r11,r12,r13,r14,r15,r16))∧za1 (kq≤k1)∧za1 (Kd.R k49 49 w' w.heap.size (fun _=>True) u738012 x738012_1)∧za1 (Kd.R k51 51 w' w.heap.size (fun _=>True) u738013 x738013_2)∧za1 (w'.heap[g_a]?=some (.cells #[.int .i64 0,.int .i64 0,.int .i64 0,.int .i64 0,.int .i64 0,.int .i64 0,.bool false,.string (⟨#[]⟩:ByteArray),.string (⟨#[]⟩:ByteArray),.bool false,.string (⟨#[]⟩:ByteArray),.string (⟨#[]⟩:ByteArray),(.slice none 0 0),(.slice none 0 0)] 34 (0,0)))∧za1 (w'.heap[g_b]?=some (.cells #[.int .i64 t719,.int .i64 t722,.int .i64 t725,.int .i64 t728,.int .i64 t731,.int .i64 t734,.bool t738,.string t739,.string t740,.bool t743,.string t744,.string t745,u738012,u738013] 34 (0,0)))∧za1 (zat w0 w' g x1000_2 x1001_2)∧za1 (zb7 w w' g none)∧za1 (Below w0.heap.size w0 w'))
    case atStart=>exact ⟨(0),(t761),(t762),(([]:List (S51))),(.slice none 0 0),q5,H',⟨Nat.le_refl _⟩,⟨q30⟩,⟨q26⟩,⟨q1⟩,⟨q7⟩,⟨q37⟩,⟨q23⟩,⟨q38⟩⟩
    case round=>
     clear H';(try clear c1);(try clear c2);(try clear p2 p2);(try clear c3);(try clear c4);(try clear p6);(try clear c19);(try clear c20);(try clear c26);(try clear c27);(try clear c27b0);(try clear c28);(try clear c30);(try clear c_a0 c_a1 c_a10 c_a11 c_a12 c_a13 c_a2 c_a3 c_a4 c_a5 c_a6 c_a7 c_a8 c_a9 f_a0 f_a1 f_a10 f_a11 f_a12 f_a13 f_a2 f_a3 f_a4 f_a5 f_a6 f_a7 f_a8 f_a9);(try clear c_b0 c_b1 c_b10 c_b11 c_b12 c_b13 c_b2 c_b3 c_b4 c_b5 c_b6 c_b7 c_b8 c_b9 f_b0 f_b1 f_b10 f_b11 f_b12 f_b13 f_b2 f_b3 f_b4 f_b5 f_b6 f_b7 f_b8 f_b9);(try clear c_c0 c_c1 c_c10 c_c11 c_c12 c_c13 c_c2 c_c3 c_c4 c_c5 c_c6 c_c7 c_c8 c_c9 f_c0 f_c1 f_c10 f_c11 f_c12 f_c13 f_c2 f_c3 f_c4 f_c5 f_c6 f_c7 f_c8 f_c9);obtain ⟨x41_2,x1000_2,x1001_2,x738013_2,u738013,rfl,HA,HK2,HO_738012,HO_738013,B_a,B_b,HI0,HK,HB⟩:=hrel
     cases gk with
     | zero=>exact absurd HA.out (by simp [zad.l1])
     | succ k2=>
      have H:=HA.out;clear HA;simp only [zad.l1] at H
      by_cases c39:x41_2<t760
      ·rw [if_pos c39] at H
       have c39b0:decide (x41_2<t760)=true:=decide_eq_true c39;clear c39;replace H:=Option.bind_eq_some_iff.mp H;obtain ⟨⟨t763,t764,t765,t766,t767⟩,A400,H⟩:=H;replace H:((zaa.f k2 t766 t767).bind fun bt769=>(if x738013_2.length<2932031007402 then (zad.l1 k2 t760 (wrap64 (x41_2+1)) bt769.2.1 bt769.2.2 t719 t722 t725 t728 t731 t734 t738 t739 t740 t743 t744 t745 x738012_1 (x738013_2 ++ [(⟨(⟨t763,t764,t765⟩:S30),bt769.1⟩:S51)])) else (none)))=some (r1,r2,r3,r4,r5,r6,r7,r8,r9,r10,r11,r12,r13,r14,r15,r16):=H;have A40:=za1.mk A400;clear A400;replace H:=Option.bind_eq_some_iff.mp H;obtain ⟨⟨t769,t770,t771⟩,A410,H⟩:=H;replace H:(if x738013_2.length<2932031007402 then (zad.l1 k2 t760 (wrap64 (x41_2+1)) t770 t771 t719 t722 t725 t728 t731 t734 t738 t739 t740 t743 t744 t745 x738012_1 (x738013_2 ++ [(⟨(⟨t763,t764,t765⟩:S30),t769⟩:S51)])) else (none))=some (r1,r2,r3,r4,r5,r6,r7,r8,r9,r10,r11,r12,r13,r14,r15,r16):=H;have A41:=za1.mk A410;clear A410
       by_cases c42:x738013_2.length<2932031007402
       ·rw [if_pos c42] at H
        have LMc42:=za1.mk c42;clear c42
        obtain ⟨y772,hy772⟩:∃ y_:List (S51),y_=(x738013_2 ++ [(⟨(⟨t763,t764,t765⟩:S30),t769⟩:S51)]):=⟨_,rfl⟩
        replace H:(zad.l1 k2 t760 (wrap64 (x41_2+1)) t770 t771 t719 t722 t725 t728 t731 t734 t738 t739 t740 t743 t744 t745 x738012_1 y772)=some (r1,r2,r3,r4,r5,r6,r7,r8,r9,r10,r11,r12,r13,r14,r15,r16):=by first|(rw [hy772];with_reducible exact H)|(have H2_:=(Option.bind_some _ _).symm.trans H;rw [hy772];with_reducible exact H2_)|(have H2_:=(Option.bind_some _ _).symm.trans H;with_reducible exact H2_)|with_reducible exact H|(rw [hy772];exact H)|exact H
        have Ny772:=za1.mk hy772;clear hy772;have H':=za1.mk H;clear H
        try go_wp2_with (first|((with_reducible refine zan (f:=42) rfl ?_);refine goesL_ (some 44) rfl rfl Tryd.func42 (by kernel_rfl) rfl #[.pointer (some ⟨g,0,none⟩)] rfl q4 ?_;(with_reducible refine (zbi.calls k2 g x1000_2 x1001_2 t763 t764 t765 t766 t767 w0 _ ?side1 ?side2 A40.out).mono ?_);(case side1=>repeat (first|(with_reducible first|exact HI0.out|apply zat.alloc|apply zat.drewN|apply zat.drew|apply zat.set_1|refine zat.far ?_ N_d_a.out _|refine zat.far ?_ N_d_b.out _)|exact HI0.out));(case side2=>repeat (first|(with_reducible first|exact HB.out|apply zaw|apply zah|apply zar|refine zak ?_ (zat.ge HI0.out)|refine zak ?_ E_a.out|refine zak ?_ E_b.out)|exact HB.out));rintro e w43 ⟨rfl,hi,hb,hk⟩;refine ⟨_,rfl,?_⟩;replace HO_738012:=am (Kd.zbm (Kd.zd4 (zat.apart (show zat w0 _ g x1000_2 x1001_2 from by repeat (first|(with_reducible first|exact HI0.out|apply zat.alloc|apply zat.drewN|apply zat.drew|apply zat.set_1|refine zat.far ?_ N_d_a.out _|refine zat.far ?_ N_d_b.out _)|exact HI0.out)) q30 (by decide)) hk (fun _ h=>h.2)) (fun _ h=>h.1));replace HO_738013:=am (Kd.zbm (Kd.zd4 (zat.apart (show zat w0 _ g x1000_2 x1001_2 from by repeat (first|(with_reducible first|exact HI0.out|apply zat.alloc|apply zat.drewN|apply zat.drew|apply zat.set_1|refine zat.far ?_ N_d_a.out _|refine zat.far ?_ N_d_b.out _)|exact HI0.out)) (by (with_reducible repeat (first|apply Kd.zb1|apply Kd.zb2|apply Kd.zb9));exact HO_738013.out) (by decide)) hk (fun _ h=>h.2)) (fun _ h=>h.1));replace B_a:=am (zb7.blk hk (g':=g_a) (o:=.cells #[.int .i64 0,.int .i64 0,.int .i64 0,.int .i64 0,.int .i64 0,.int .i64 0,.bool false,.string (⟨#[]⟩:ByteArray),.string (⟨#[]⟩:ByteArray),.bool false,.string (⟨#[]⟩:ByteArray),.string (⟨#[]⟩:ByteArray),.slice none 0 0,.slice none 0 0] 34 (0,0)) q1 N_a_d.out (by simp));replace B_b:=am (zb7.blk hk (g':=g_b) (o:=.cells #[.int .i64 t719,.int .i64 t722,.int .i64 t725,.int .i64 t728,.int .i64 t731,.int .i64 t734,.bool t738,.string t739,.string t740,.bool t743,.string t744,.string t745,u738012,u738013] 34 (0,0)) q7 N_b_d.out (by simp));replace HK:=am (zb7.trans q23 hk (.inl rfl));replace HI0:=am (hi);replace HB:=am (hb);(try clear hb);(try clear hb2);(try clear hk);(try clear hi))|((with_reducible refine zbr (N:=4) rfl ?_);refine zbq ?hg (N:=4) ?hd (cs:=#[.bool false,.string (⟨#[]⟩:ByteArray),.string (⟨#[]⟩:ByteArray)]) (t:=30) ?hr ?_;(case hd=>rfl);(case hg=>rfl);(case hr=>first|(go_simp;done)|(go_simp;rfl));intro g_c hg w44 hbox hb;have n0_:=am (Kd.zbx q30 hb);have n1_:=am (Kd.zbx (by (with_reducible repeat (first|apply Kd.zb1|apply Kd.zb2|apply Kd.zb9));exact HO_738013.out) hb);have n2_:=am (zaf q1 hb);have n3_:=am (zaf q7 hb);have n4_:=am (zat.below q37 hb);have n5_:=am (zb7.trans q23 (zb7.of_below hb g none) (.inl rfl));have n6_:=am (zab q38 hb);have n7_:=am (hbox);have n8_:=am ((by rw [hg];exact (zcw (w:=w) (g:=g) (row:=none) q23):w.heap.size≤g_c));have n9_:=am ((Nat.le_trans HW0.out (by rw [hg];exact (zcw (w:=w) (g:=g) (row:=none) q23):w.heap.size≤g_c):w0.heap.size≤g_c));have n10_:=am ((q50:g_a≠g_c));have n11_:=am ((q51:g_c≠g_a));have n12_:=am ((by rw [hg];exact Nat.ne_of_lt (zcj q7):g_b≠g_c));have n13_:=am ((by rw [hg];exact Nat.ne_of_gt (zcj q7):g_c≠g_b));have n14_:=am ((by rw [hg];exact Nat.ne_of_lt (zat.lt (show zat w0 _ g t766 t767 from by repeat (first|(with_reducible first|exact HI0.out|apply zat.alloc|apply zat.drewN|apply zat.drew|apply zat.set_1|refine zat.far ?_ N_d_a.out _|refine zat.far ?_ N_d_b.out _)|exact HI0.out))):g≠g_c));have n15_:=am ((by rw [hg];exact Nat.ne_of_gt (zat.lt (show zat w0 _ g t766 t767 from by repeat (first|(with_reducible first|exact HI0.out|apply zat.alloc|apply zat.drewN|apply zat.drew|apply zat.set_1|refine zat.far ?_ N_d_a.out _|refine zat.far ?_ N_d_b.out _)|exact HI0.out))):g_c≠g));clear HO_738012;clear HO_738013;clear B_a;clear B_b;clear HI0;clear HK;clear HB;have HO_738012:=n0_;have HO_738013:=n1_;have B_a:=n2_;have B_b:=n3_;have HI0:=n4_;have HK:=n5_;have HB:=n6_;have B_c:=n7_;have W_c:=n8_;have E_c:=n9_;have N_a_c:=n10_;have N_c_a:=n11_;have N_b_c:=n12_;have N_c_b:=n13_;have N_d_c:=n14_;have N_c_d:=n15_;clear n0_ n1_ n2_ n3_ n4_ n5_ n6_ n7_ n8_ n9_ n10_ n11_ n12_ n13_ n14_ n15_;clear hb hbox hg;have hnb45:=N_c_a.out;have hnc45:=N_a_c.out;have hnb46:=N_c_b.out;have hnc46:=N_b_c.out;have hnb47:=N_c_d.out;have hnc47:=N_d_c.out;obtain ⟨c_d0,c_d1,c_d2⟩:=cs3 B_c.out;obtain ⟨f_d0,f_d1,f_d2⟩:=fs3 B_c.out))
        have n0_:za1 (Kd.R k49 49 (((w44.setCell ⟨g_c,0,none⟩ (.bool t763)).setCell ⟨g_c,1,none⟩ (.string t764)).setCell ⟨g_c,2,none⟩ (.string t765)) w.heap.size (fun _=>True) u738012 x738012_1):=⟨by (with_reducible repeat (first|apply Kd.zb1|apply Kd.zb2|apply Kd.zb9));exact Kd.zbm (Kd.zav (p:=⟨g_c,2,none⟩) (Kd.zav (p:=⟨g_c,1,none⟩) (Kd.zav (p:=⟨g_c,0,none⟩) (Kd.zcf HO_738012.out B_c.out (by decide)) (fun _ hk=>hk.2) (.bool t763)) (fun _ hk=>hk.2) (.string t764)) (fun _ hk=>hk.2) (.string t765)) (fun _ hk=>trivial)⟩
        have n1_:za1 (Kd.R k51 51 (((w44.setCell ⟨g_c,0,none⟩ (.bool t763)).setCell ⟨g_c,1,none⟩ (.string t764)).setCell ⟨g_c,2,none⟩ (.string t765)) w.heap.size (fun _=>True) u738013 x738013_2):=⟨by (with_reducible repeat (first|apply Kd.zb1|apply Kd.zb2|apply Kd.zb9));exact Kd.zbm (Kd.zav (p:=⟨g_c,2,none⟩) (Kd.zav (p:=⟨g_c,1,none⟩) (Kd.zav (p:=⟨g_c,0,none⟩) (Kd.zcf HO_738013.out B_c.out (by decide)) (fun _ hk=>hk.2) (.bool t763)) (fun _ hk=>hk.2) (.string t764)) (fun _ hk=>hk.2) (.string t765)) (fun _ hk=>trivial)⟩
        have n2_:za1 ((((w44.setCell ⟨g_c,0,none⟩ (.bool t763)).setCell ⟨g_c,1,none⟩ (.string t764)).setCell ⟨g_c,2,none⟩ (.string t765)).heap[g_a]?=some (.cells #[.int .i64 0,.int .i64 0,.int .i64 0,.int .i64 0,.int .i64 0,.int .i64 0,.bool false,.string (⟨#[]⟩:ByteArray),.string (⟨#[]⟩:ByteArray),.bool false,.string (⟨#[]⟩:ByteArray),.string (⟨#[]⟩:ByteArray),.slice none 0 0,.slice none 0 0] 34 (0,0))):=⟨by (with_reducible repeat (first|refine za4 ?_ _|refine za6 ?_|refine za0 ?_ _));refine zay ?_ N_a_c.out _;(with_reducible repeat (first|refine za4 ?_ _|refine za6 ?_|refine za0 ?_ _));refine zay ?_ N_a_c.out _;(with_reducible repeat (first|refine za4 ?_ _|refine za6 ?_|refine za0 ?_ _));refine zay ?_ N_a_c.out _;(with_reducible repeat (first|refine za4 ?_ _|refine za6 ?_|refine za0 ?_ _));exact B_a.out⟩
        have n3_:za1 ((((w44.setCell ⟨g_c,0,none⟩ (.bool t763)).setCell ⟨g_c,1,none⟩ (.string t764)).setCell ⟨g_c,2,none⟩ (.string t765)).heap[g_b]?=some (.cells #[.int .i64 t719,.int .i64 t722,.int .i64 t725,.int .i64 t728,.int .i64 t731,.int .i64 t734,.bool t738,.string t739,.string t740,.bool t743,.string t744,.string t745,u738012,u738013] 34 (0,0))):=⟨by (with_reducible repeat (first|refine za4 ?_ _|refine za6 ?_|refine za0 ?_ _));refine zay ?_ N_b_c.out _;(with_reducible repeat (first|refine za4 ?_ _|refine za6 ?_|refine za0 ?_ _));refine zay ?_ N_b_c.out _;(with_reducible repeat (first|refine za4 ?_ _|refine za6 ?_|refine za0 ?_ _));refine zay ?_ N_b_c.out _;(with_reducible repeat (first|refine za4 ?_ _|refine za6 ?_|refine za0 ?_ _));exact B_b.out⟩
        have n4_:za1 ((((w44.setCell ⟨g_c,0,none⟩ (.bool t763)).setCell ⟨g_c,1,none⟩ (.string t764)).setCell ⟨g_c,2,none⟩ (.string t765)).heap[g_c]?=some (.cells #[.bool t763,.string t764,.string t765] 30 (0,0))):=⟨by (with_reducible repeat (first|refine za4 ?_ _|refine za6 ?_|refine za0 ?_ _));refine za9 (cs:=#[.bool t763,.string t764,.string (⟨#[]⟩:ByteArray)]) ?_ 2 _ rfl;(with_reducible repeat (first|refine za4 ?_ _|refine za6 ?_|refine za0 ?_ _));refine za9 (cs:=#[.bool t763,.string (⟨#[]⟩:ByteArray),.string (⟨#[]⟩:ByteArray)]) ?_ 1 _ rfl;(with_reducible repeat (first|refine za4 ?_ _|refine za6 ?_|refine za0 ?_ _));refine za9 (cs:=#[.bool false,.string (⟨#[]⟩:ByteArray),.string (⟨#[]⟩:ByteArray)]) ?_ 0 _ rfl;(with_reducible repeat (first|refine za4 ?_ _|refine za6 ?_|refine za0 ?_ _));exact B_c.out⟩
        have n5_:za1 (zat w0 (((w44.setCell ⟨g_c,0,none⟩ (.bool t763)).setCell ⟨g_c,1,none⟩ (.string t764)).setCell ⟨g_c,2,none⟩ (.string t765)) g t766 t767):=⟨by repeat (first|(with_reducible first|exact HI0.out|apply zat.alloc|apply zat.drewN|apply zat.drew|apply zat.set_1|refine zat.far ?_ N_d_a.out _|refine zat.far ?_ N_d_b.out _|refine zat.far ?_ N_d_c.out _)|exact HI0.out)⟩
        have n6_:za1 (zb7 w (((w44.setCell ⟨g_c,0,none⟩ (.bool t763)).setCell ⟨g_c,1,none⟩ (.string t764)).setCell ⟨g_c,2,none⟩ (.string t765)) g none):=⟨q40⟩
        have n7_:za1 (Below w0.heap.size w0 (((w44.setCell ⟨g_c,0,none⟩ (.bool t763)).setCell ⟨g_c,1,none⟩ (.string t764)).setCell ⟨g_c,2,none⟩ (.string t765))):=⟨by repeat (first|(with_reducible first|exact HB.out|apply zaw|apply zah|apply zar|refine zak ?_ (zat.ge HI0.out)|refine zak ?_ E_a.out|refine zak ?_ E_b.out|refine zak ?_ E_c.out)|exact HB.out)⟩
        (try clear HO_738012);(try clear HO_738013);(try clear B_a);(try clear B_b);(try clear B_c);(try clear HI0);(try clear HK);(try clear HB)
        generalize (((w44.setCell ⟨g_c,0,none⟩ (.bool t763)).setCell ⟨g_c,1,none⟩ (.string t764)).setCell ⟨g_c,2,none⟩ (.string t765))=w49 at n0_ n1_ n2_ n3_ n4_ n5_ n6_ n7_ ⊢
        have HO_738012:=n0_;have HO_738013:=n1_;have B_a:=n2_;have B_b:=n3_;have B_c:=n4_;have HI0:=n5_;have HK:=n6_;have HB:=n7_;clear n0_ n1_ n2_ n3_ n4_ n5_ n6_ n7_;replace HO_738012:=am (Kd.zb9 HO_738012.out);replace HO_738013:=am (Kd.zb9 HO_738013.out);replace B_a:=am (za6 B_a.out);replace B_b:=am (za6 B_b.out);replace B_c:=am (za6 B_c.out);replace HI0:=am (zat.drew HI0.out);replace HK:=am (zda HK.out);replace HB:=am (zar HB.out);refine start_ (n:=10) (S:=fun w'=>w'.cell? ⟨g_b,0,none⟩=some (.int .i64 t719)∧w'.cell? ⟨g_b,1,none⟩=some (.int .i64 t722)∧w'.cell? ⟨g_b,2,none⟩=some (.int .i64 t725)∧w'.cell? ⟨g_b,3,none⟩=some (.int .i64 t728)∧w'.cell? ⟨g_b,4,none⟩=some (.int .i64 t731)∧w'.cell? ⟨g_b,5,none⟩=some (.int .i64 t734)∧w'.cell? ⟨g_b,6,none⟩=some (.bool t738)∧w'.cell? ⟨g_b,7,none⟩=some (.string t739)∧w'.cell? ⟨g_b,8,none⟩=some (.string t740)∧w'.cell? ⟨g_b,9,none⟩=some (.bool t743)∧w'.cell? ⟨g_b,10,none⟩=some (.string t744)∧w'.cell? ⟨g_b,11,none⟩=some (.string t745)∧w'.cell? ⟨g_b,12,none⟩=some (u738012)∧w'.cell? ⟨g_b,13,none⟩=some (u738013)∧w'.cell? ⟨g_c,0,none⟩=some (.bool t763)∧w'.cell? ⟨g_c,1,none⟩=some (.string t764)∧w'.cell? ⟨g_c,2,none⟩=some (.string t765)) (ds:=[9]) #[false,false,false,false,false,false,false,false,false,false] (by kernel_rfl) rfl rfl ⟨bc B_b 0,bc B_b 1,bc B_b 2,bc B_b 3,bc B_b 4,bc B_b 5,bc B_b 6,bc B_b 7,bc B_b 8,bc B_b 9,bc B_b 10,bc B_b 11,bc B_b 12,bc B_b 13,bc B_c 0,bc B_c 1,bc B_c 2⟩ (fun hHeld=>?_);refine with_tabW zad.tab11 zad.bits11 (fun HT_ HW_=>?_)
        generalize w49.drew=w50 at HO_738012 HO_738013 B_a B_b B_c HI0 HK HB hHeld ⊢
        refine pp 0 45 rfl rfl ?_;refine pp 3 48 rfl rfl ?_;refine tk17 1 46 rfl rfl ?_;refine tk17 2 47 rfl rfl ?_;refine one_ (i:=4) (N:=some 49) #[true,true,true,true,true,false,false,false,false,false] rfl rfl (one_of HT_.out (by kernel_rfl)) (by decide) (fun K hK=>?_);refine goes_ Tryd.func28 (by kernel_rfl) rfl #[.pointer (some ⟨g,0,none⟩)] (by rfl) rfl rfl q4 ?_
        with_reducible refine (zaa.calls k2 g t766 t767 t769 t770 t771 w0 _ ?side1 ?side2 A41.out).mono ?_
        (case side1=>repeat (first|(with_reducible first|exact HI0.out|apply zat.alloc|apply zat.drewN|apply zat.drew|apply zat.set_1|refine zat.far ?_ N_d_a.out _|refine zat.far ?_ N_d_b.out _|refine zat.far ?_ N_d_c.out _)|exact HI0.out))
        (case side2=>repeat (first|(with_reducible first|exact HB.out|apply zaw|apply zah|apply zar|refine zak ?_ (zat.ge HI0.out)|refine zak ?_ E_a.out|refine zak ?_ E_b.out|refine zak ?_ E_c.out)|exact HB.out))
        rintro e w51 ⟨rfl,hi,hb,hk⟩;refine ⟨_,rfl,?_⟩;replace HO_738012:=am (Kd.zbm (Kd.zd4 (zat.apart (show zat w0 _ g t766 t767 from by repeat (first|(with_reducible first|exact HI0.out|apply zat.alloc|apply zat.drewN|apply zat.drew|apply zat.set_1|refine zat.far ?_ N_d_a.out _|refine zat.far ?_ N_d_b.out _|refine zat.far ?_ N_d_c.out _)|exact HI0.out)) q30 (by decide)) hk (fun _ h=>h.2)) (fun _ h=>h.1));replace HO_738013:=am (Kd.zbm (Kd.zd4 (zat.apart (show zat w0 _ g t766 t767 from by repeat (first|(with_reducible first|exact HI0.out|apply zat.alloc|apply zat.drewN|apply zat.drew|apply zat.set_1|refine zat.far ?_ N_d_a.out _|refine zat.far ?_ N_d_b.out _|refine zat.far ?_ N_d_c.out _)|exact HI0.out)) (by (with_reducible repeat (first|apply Kd.zb1|apply Kd.zb2|apply Kd.zb9));exact HO_738013.out) (by decide)) hk (fun _ h=>h.2)) (fun _ h=>h.1));replace B_a:=am (zb7.blk hk (g':=g_a) (o:=.cells #[.int .i64 0,.int .i64 0,.int .i64 0,.int .i64 0,.int .i64 0,.int .i64 0,.bool false,.string (⟨#[]⟩:ByteArray),.string (⟨#[]⟩:ByteArray),.bool false,.string (⟨#[]⟩:ByteArray),.string (⟨#[]⟩:ByteArray),.slice none 0 0,.slice none 0 0] 34 (0,0)) q1 N_a_d.out (by simp));replace B_b:=am (zb7.blk hk (g':=g_b) (o:=.cells #[.int .i64 t719,.int .i64 t722,.int .i64 t725,.int .i64 t728,.int .i64 t731,.int .i64 t734,.bool t738,.string t739,.string t740,.bool t743,.string t744,.string t745,u738012,u738013] 34 (0,0)) q7 N_b_d.out (by simp));replace B_c:=am (zb7.blk hk (g':=g_c) (o:=.cells #[.bool t763,.string t764,.string t765] 30 (0,0)) q10 N_c_d.out (by simp));replace HK:=am (zb7.trans q40 hk (.inl rfl));replace HI0:=am (hi);replace HB:=am (hb);(try clear hb);(try clear hb2);(try clear hk);(try clear hi);refine hK.out _ _ ⟨bc B_b 0,bc B_b 1,bc B_b 2,bc B_b 3,bc B_b 4,bc B_b 5,bc B_b 6,bc B_b 7,bc B_b 8,bc B_b 9,bc B_b 10,bc B_b 11,bc B_b 12,bc B_b 13,bc B_c 0,bc B_c 1,bc B_c 2⟩ (fun hHeld=>?_);clear hK K;refine norm_ (a':=?_) ?_ ?_;rotate_left
        ·show Act.put _ (some 49) _=_
         simp only [Act.put,List.setIfInBounds_toArray,List.set_cons_zero,List.set_cons_succ,i64_w,i32_w]
         rfl
        refine pp 5 50 rfl rfl ?_;refine one_ (i:=6) (N:=some 51) #[true,true,true,true,true,true,true,false,false,false] rfl rfl (one_of HT_.out (by kernel_rfl)) (by decide) (fun K hK=>?_);refine value_ (w1:=?_) (v:=?_) (by rfl) rfl ?_ ?_;rotate_left 2
        ·go_simp
         constructor
         ·rfl
         ·rfl
        refine hK.out _ _ ⟨(zal (za0 B_b.out _) 0).trans rfl,(zal (za0 B_b.out _) 1).trans rfl,(zal (za0 B_b.out _) 2).trans rfl,(zal (za0 B_b.out _) 3).trans rfl,(zal (za0 B_b.out _) 4).trans rfl,(zal (za0 B_b.out _) 5).trans rfl,(zal (za0 B_b.out _) 6).trans rfl,(zal (za0 B_b.out _) 7).trans rfl,(zal (za0 B_b.out _) 8).trans rfl,(zal (za0 B_b.out _) 9).trans rfl,(zal (za0 B_b.out _) 10).trans rfl,(zal (za0 B_b.out _) 11).trans rfl,(zal (za0 B_b.out _) 12).trans rfl,(zal (za0 B_b.out _) 13).trans rfl,(zal (za0 B_c.out _) 0).trans rfl,(zal (za0 B_c.out _) 1).trans rfl,(zal (za0 B_c.out _) 2).trans rfl⟩ (fun hHeld=>?_);clear hK K;refine norm_ (a':=?_) ?_ ?_;rotate_left
        ·show Act.put _ (some 51) _=_
         simp only [Act.put,List.setIfInBounds_toArray,List.set_cons_zero,List.set_cons_succ,i64_w,i32_w]
         rfl
        refine one_ (i:=7) (N:=some 52) #[true,true,true,true,true,true,true,true,false,false] rfl rfl (one_of HT_.out (by kernel_rfl)) (by decide) (fun K hK=>?_);refine Kd.zd0 k51 w.heap.size (by rfl) (.tmp 46) (.tmp 51) 32 51 (.agg #[(.bool false),(.string ⟨#[]⟩),(.string ⟨#[]⟩),(.int .i64 0)]) 48 rfl Tryd.underlying32 info51 rfl (by decide) (by omega) u738013 x738013_2 (⟨(⟨t763,t764,t765⟩:S30),t769⟩:S51) [.bool t763,.string t764,.string t765,.int .i64 t769] (fun _=>True) (fun _=>False) rfl rfl ?aP (fun _ hk=>hk.elim) ?aF ?aO (Below.refl _ _) ?aS ?aL ?_
        (case aP=>exact k51_mkM _ _ _ (⟨(⟨t763,t764,t765⟩:S30),t769⟩:S51))
        (case aF=>exact (fun _ _=>trivial))
        (case aO=>exact (by (with_reducible repeat (first|apply Kd.zb1|apply Kd.zb2|apply Kd.zb9));exact HO_738013.out))
        (case aS=>exact (zcw (w:=w) (g:=g) (row:=none) q40))
        (case aL=>have:=LMc42.out;omega)
        intro v773 w52 ho hb hg hat;rw [← Ny772.out] at ho;have n0_:=am (Kd.R_over' q30 (Kd.zd6 (by (with_reducible repeat (first|apply Kd.zb1|apply Kd.zb2|apply Kd.zb9));exact HO_738013.out)) (by decide) hg);have n1_:=am (zck (g:=g_a) (o:=.cells #[.int .i64 0,.int .i64 0,.int .i64 0,.int .i64 0,.int .i64 0,.int .i64 0,.bool false,.string (⟨#[]⟩:ByteArray),.string (⟨#[]⟩:ByteArray),.bool false,.string (⟨#[]⟩:ByteArray),.string (⟨#[]⟩:ByteArray),.slice none 0 0,.slice none 0 0] 34 (0,0)) q1 hg (Kd.zd5 HO_738013.out B_a.out (by decide)));have n2_:=am (zck (g:=g_b) (o:=.cells #[.int .i64 t719,.int .i64 t722,.int .i64 t725,.int .i64 t728,.int .i64 t731,.int .i64 t734,.bool t738,.string t739,.string t740,.bool t743,.string t744,.string t745,u738012,u738013] 34 (0,0)) q7 hg (Kd.zd5 HO_738013.out B_b.out (by decide)));have n3_:=am (zat.grown (by repeat (first|(with_reducible first|exact HI0.out|apply zat.alloc|apply zat.drewN|apply zat.drew|apply zat.set_1|refine zat.far ?_ N_d_a.out _|refine zat.far ?_ N_d_b.out _|refine zat.far ?_ N_d_c.out _)|exact HI0.out)) hg (zat.own_ne HI0.out HO_738013.out (by decide)));have n4_:=am (zck (g:=g_c) (o:=.cells #[.bool t763,.string t764,.string t765] 30 (0,0)) q10 hg (Kd.zd5 HO_738013.out B_c.out (by decide)));have n5_:=am (below_weaken (by repeat (first|(with_reducible first|exact HB.out|apply zaw|apply zah|apply zar|refine zak ?_ (zat.ge HI0.out)|refine zak ?_ E_a.out|refine zak ?_ E_b.out|refine zak ?_ E_c.out)|exact HB.out)) HL.out hb);have n6_:=am (zb7.trans q40 (zb7.of_grown hg g) (Kd.R_base2 HO_738013.out));have n7_:=am (ho);clear HO_738012;clear B_a;clear B_b;clear HI0;clear B_c;clear HB;clear HK;clear HO_738013;have HO_738012:=n0_;have B_a:=n1_;have B_b:=n2_;have HI0:=n3_;have B_c:=n4_;have HB:=n5_;have HK:=n6_;have HO774:=n7_;clear n0_ n1_ n2_ n3_ n4_ n5_ n6_ n7_;clear ho hb hg hat;obtain ⟨Ao53,co53,eo53⟩:=Kd.zbn HO774.out
        (first|subst eo53|(injection eo53 with f1_ f2_ f3_;have f4_:=f1_.symm;have f5_:=f3_.symm;clear f1_ f2_ f3_;subst f4_;subst f5_))
        refine hK.out _ _ ⟨bc B_b 0,bc B_b 1,bc B_b 2,bc B_b 3,bc B_b 4,bc B_b 5,bc B_b 6,bc B_b 7,bc B_b 8,bc B_b 9,bc B_b 10,bc B_b 11,bc B_b 12,bc B_b 13,bc B_c 0,bc B_c 1,bc B_c 2⟩ (fun hHeld=>?_);clear hK K;refine norm_ (a':=?_) ?_ ?_;rotate_left
        ·show Act.put _ (some 52) _=_
         simp only [Act.put,List.setIfInBounds_toArray,List.set_cons_zero,List.set_cons_succ,i64_w,i32_w]
         rfl
        refine pp 8 53 rfl rfl ?_;refine last_ (i:=9) (N:=none) #[true,true,true,true,true,true,true,true,true,true] rfl rfl (one_of HT_.out (by kernel_rfl)) (by decide) (fun K hK=>?_);have hs54:w52.cell? ⟨g_b,13,none⟩=some (u738013):=bc B_b 13;have hfs54:=zau B_b.out 13;have hns54_0:=N_a_b.out;have hns54_2:=N_c_b.out;have hms54_0:=N_b_a.out;have hms54_2:=N_b_c.out;refine skip_ (w1:=?_) (by rfl) rfl ?_ ?_;rotate_left
        ·go_simp
         rfl
        refine hK.out _ _ ?_;clear hK K;refine done_ (done_of HT_.out (by kernel_rfl)) ?_
        try go_wp2
        go_roundg k2
        case measure=>have:=HK1.out;have:=HK2.out;omega
        case rel=>exact ⟨(wrap64 (x41_2+1)),(t770),(t771),(y772),(.slice Ao53 y772.length co53),q5,H',⟨by have:=HK1.out;have:=HK2.out;omega⟩,⟨by (with_reducible repeat (first|apply Kd.zb1|apply Kd.zb2|apply Kd.zb9));exact Kd.zbm (Kd.zav (p:=⟨g_b,13,none⟩) (Kd.zcf HO_738012.out B_b.out (by decide)) (fun _ hk=>hk.2) (.slice Ao53 y772.length co53)) (fun _ hk=>trivial)⟩,⟨by (with_reducible repeat (first|apply Kd.zb1|apply Kd.zb2|apply Kd.zb9));exact Kd.zbm (Kd.zav (p:=⟨g_b,13,none⟩) (Kd.zcf HO774.out B_b.out (by decide)) (fun _ hk=>hk.2) (.slice Ao53 y772.length co53)) (fun _ hk=>trivial)⟩,⟨by (with_reducible repeat (first|refine za4 ?_ _|refine za6 ?_|refine za0 ?_ _));refine zay ?_ N_a_b.out _;(with_reducible repeat (first|refine za4 ?_ _|refine za6 ?_|refine za0 ?_ _));exact B_a.out⟩,⟨by (with_reducible repeat (first|refine za4 ?_ _|refine za6 ?_|refine za0 ?_ _));refine za9 (cs:=#[.int .i64 t719,.int .i64 t722,.int .i64 t725,.int .i64 t728,.int .i64 t731,.int .i64 t734,.bool t738,.string t739,.string t740,.bool t743,.string t744,.string t745,u738012,u738013]) ?_ 13 _ rfl;(with_reducible repeat (first|refine za4 ?_ _|refine za6 ?_|refine za0 ?_ _));exact B_b.out⟩,⟨by repeat (first|(with_reducible first|exact HI0.out|apply zat.alloc|apply zat.drewN|apply zat.drew|apply zat.set_1|refine zat.far ?_ N_d_a.out _|refine zat.far ?_ N_d_b.out _|refine zat.far ?_ N_d_c.out _)|exact HI0.out)⟩,⟨q40⟩,⟨by repeat (first|(with_reducible first|exact HB.out|apply zaw|apply zah|apply zar|refine zak ?_ (zat.ge HI0.out)|refine zak ?_ E_a.out|refine zak ?_ E_b.out|refine zak ?_ E_c.out)|exact HB.out)⟩⟩
       ·rw [if_neg c42] at H
        exact absurd H (by simp)
      ·rw [if_neg c39] at H
       have c39b0:decide (x41_2<t760)=false:=decide_eq_false c39;clear c39;simp only [Option.some.injEq,Prod.mk.injEq] at H;obtain ⟨rfl,rfl,rfl,rfl,rfl,rfl,rfl,rfl,rfl,rfl,rfl,rfl,rfl,rfl,rfl,rfl⟩:=H;have hnb55:=N_b_a.out;have hnc55:=N_a_b.out;have hnb56:=N_b_d.out;have hnc56:=N_d_b.out;obtain ⟨c_e0,c_e1,c_e2,c_e3,c_e4,c_e5,c_e6,c_e7,c_e8,c_e9,c_e10,c_e11,c_e12,c_e13⟩:=cs14 B_b.out;obtain ⟨f_e0,f_e1,f_e2,f_e3,f_e4,f_e5,f_e6,f_e7,f_e8,f_e9,f_e10,f_e11,f_e12,f_e13⟩:=fs14 B_b.out;have hnb58:=N_a_d.out;have hnc58:=N_d_a.out;obtain ⟨c_f0,c_f1,c_f2,c_f3,c_f4,c_f5,c_f6,c_f7,c_f8,c_f9,c_f10,c_f11,c_f12,c_f13⟩:=cs14 B_a.out;obtain ⟨f_f0,f_f1,f_f2,f_f3,f_f4,f_f5,f_f6,f_f7,f_f8,f_f9,f_f10,f_f11,f_f12,f_f13⟩:=fs14 B_a.out;obtain ⟨Ao60,co60,eo60⟩:=Kd.zbn HO_738012.out;subst eo60;obtain ⟨Ao61,co61,eo61⟩:=Kd.zbn HO_738013.out;subst eo61
       go_wp2
       refine bodyPost_ret (results_cell_row rfl _ _ g_a 34 #[.int .i64 t719,.int .i64 t722,.int .i64 t725,.int .i64 t728,.int .i64 t731,.int .i64 t734,.bool t738,.string t739,.string t740,.bool t743,.string t744,.string t745,.slice Ao60 x738012_1.length co60,.slice Ao61 x738013_2.length co61] (0,0) _ rfl (by (with_reducible repeat (first|refine za4 ?_ _|refine za6 ?_|refine za0 ?_ _));refine za9 (cs:=#[.int .i64 t719,.int .i64 t722,.int .i64 t725,.int .i64 t728,.int .i64 t731,.int .i64 t734,.bool t738,.string t739,.string t740,.bool t743,.string t744,.string t745,.slice Ao60 x738012_1.length co60,.slice none 0 0]) ?_ 13 _ rfl;(with_reducible repeat (first|refine za4 ?_ _|refine za6 ?_|refine za0 ?_ _));refine za9 (cs:=#[.int .i64 t719,.int .i64 t722,.int .i64 t725,.int .i64 t728,.int .i64 t731,.int .i64 t734,.bool t738,.string t739,.string t740,.bool t743,.string t744,.string t745,.slice none 0 0,.slice none 0 0]) ?_ 12 _ rfl;(with_reducible repeat (first|refine za4 ?_ _|refine za6 ?_|refine za0 ?_ _));refine za9 (cs:=#[.int .i64 t719,.int .i64 t722,.int .i64 t725,.int .i64 t728,.int .i64 t731,.int .i64 t734,.bool t738,.string t739,.string t740,.bool t743,.string t744,.string (⟨#[]⟩:ByteArray),.slice none 0 0,.slice none 0 0]) ?_ 11 _ rfl;(with_reducible repeat (first|refine za4 ?_ _|refine za6 ?_|refine za0 ?_ _));refine za9 (cs:=#[.int .i64 t719,.int .i64 t722,.int .i64 t725,.int .i64 t728,.int .i64 t731,.int .i64 t734,.bool t738,.string t739,.string t740,.bool t743,.string (⟨#[]⟩:ByteArray),.string (⟨#[]⟩:ByteArray),.slice none 0 0,.slice none 0 0]) ?_ 10 _ rfl;(with_reducible repeat (first|refine za4 ?_ _|refine za6 ?_|refine za0 ?_ _));refine za9 (cs:=#[.int .i64 t719,.int .i64 t722,.int .i64 t725,.int .i64 t728,.int .i64 t731,.int .i64 t734,.bool t738,.string t739,.string t740,.bool false,.string (⟨#[]⟩:ByteArray),.string (⟨#[]⟩:ByteArray),.slice none 0 0,.slice none 0 0]) ?_ 9 _ rfl;(with_reducible repeat (first|refine za4 ?_ _|refine za6 ?_|refine za0 ?_ _));refine za9 (cs:=#[.int .i64 t719,.int .i64 t722,.int .i64 t725,.int .i64 t728,.int .i64 t731,.int .i64 t734,.bool t738,.string t739,.string (⟨#[]⟩:ByteArray),.bool false,.string (⟨#[]⟩:ByteArray),.string (⟨#[]⟩:ByteArray),.slice none 0 0,.slice none 0 0]) ?_ 8 _ rfl;(with_reducible repeat (first|refine za4 ?_ _|refine za6 ?_|refine za0 ?_ _));refine za9 (cs:=#[.int .i64 t719,.int .i64 t722,.int .i64 t725,.int .i64 t728,.int .i64 t731,.int .i64 t734,.bool t738,.string (⟨#[]⟩:ByteArray),.string (⟨#[]⟩:ByteArray),.bool false,.string (⟨#[]⟩:ByteArray),.string (⟨#[]⟩:ByteArray),.slice none 0 0,.slice none 0 0]) ?_ 7 _ rfl;(with_reducible repeat (first|refine za4 ?_ _|refine za6 ?_|refine za0 ?_ _));refine za9 (cs:=#[.int .i64 t719,.int .i64 t722,.int .i64 t725,.int .i64 t728,.int .i64 t731,.int .i64 t734,.bool false,.string (⟨#[]⟩:ByteArray),.string (⟨#[]⟩:ByteArray),.bool false,.string (⟨#[]⟩:ByteArray),.string (⟨#[]⟩:ByteArray),.slice none 0 0,.slice none 0 0]) ?_ 6 _ rfl;(with_reducible repeat (first|refine za4 ?_ _|refine za6 ?_|refine za0 ?_ _));refine za9 (cs:=#[.int .i64 t719,.int .i64 t722,.int .i64 t725,.int .i64 t728,.int .i64 t731,.int .i64 0,.bool false,.string (⟨#[]⟩:ByteArray),.string (⟨#[]⟩:ByteArray),.bool false,.string (⟨#[]⟩:ByteArray),.string (⟨#[]⟩:ByteArray),.slice none 0 0,.slice none 0 0]) ?_ 5 _ rfl;(with_reducible repeat (first|refine za4 ?_ _|refine za6 ?_|refine za0 ?_ _));refine za9 (cs:=#[.int .i64 t719,.int .i64 t722,.int .i64 t725,.int .i64 t728,.int .i64 0,.int .i64 0,.bool false,.string (⟨#[]⟩:ByteArray),.string (⟨#[]⟩:ByteArray),.bool false,.string (⟨#[]⟩:ByteArray),.string (⟨#[]⟩:ByteArray),.slice none 0 0,.slice none 0 0]) ?_ 4 _ rfl;(with_reducible repeat (first|refine za4 ?_ _|refine za6 ?_|refine za0 ?_ _));refine za9 (cs:=#[.int .i64 t719,.int .i64 t722,.int .i64 t725,.int .i64 0,.int .i64 0,.int .i64 0,.bool false,.string (⟨#[]⟩:ByteArray),.string (⟨#[]⟩:ByteArray),.bool false,.string (⟨#[]⟩:ByteArray),.string (⟨#[]⟩:ByteArray),.slice none 0 0,.slice none 0 0]) ?_ 3 _ rfl;(with_reducible repeat (first|refine za4 ?_ _|refine za6 ?_|refine za0 ?_ _));refine za9 (cs:=#[.int .i64 t719,.int .i64 t722,.int .i64 0,.int .i64 0,.int .i64 0,.int .i64 0,.bool false,.string (⟨#[]⟩:ByteArray),.string (⟨#[]⟩:ByteArray),.bool false,.string (⟨#[]⟩:ByteArray),.string (⟨#[]⟩:ByteArray),.slice none 0 0,.slice none 0 0]) ?_ 2 _ rfl;(with_reducible repeat (first|refine za4 ?_ _|refine za6 ?_|refine za0 ?_ _));refine za9 (cs:=#[.int .i64 t719,.int .i64 0,.int .i64 0,.int .i64 0,.int .i64 0,.int .i64 0,.bool false,.string (⟨#[]⟩:ByteArray),.string (⟨#[]⟩:ByteArray),.bool false,.string (⟨#[]⟩:ByteArray),.string (⟨#[]⟩:ByteArray),.slice none 0 0,.slice none 0 0]) ?_ 1 _ rfl;(with_reducible repeat (first|refine za4 ?_ _|refine za6 ?_|refine za0 ?_ _));refine za9 (cs:=#[.int .i64 0,.int .i64 0,.int .i64 0,.int .i64 0,.int .i64 0,.int .i64 0,.bool false,.string (⟨#[]⟩:ByteArray),.string (⟨#[]⟩:ByteArray),.bool false,.string (⟨#[]⟩:ByteArray),.string (⟨#[]⟩:ByteArray),.slice none 0 0,.slice none 0 0]) ?_ 0 _ rfl;(with_reducible repeat (first|refine za4 ?_ _|refine za6 ?_|refine za0 ?_ _));exact B_a.out) Tryd.underlying34 rfl (by kernel_rfl)) rfl ?_;exact ⟨_,_,q8,by (with_reducible repeat (first|apply Kd.zb1|apply Kd.zb2|apply Kd.zb9));exact Kd.zbm (Kd.zav (p:=⟨g_a,13,none⟩) (Kd.zav (p:=⟨g_a,12,none⟩) (Kd.zav (p:=⟨g_a,11,none⟩) (Kd.zav (p:=⟨g_a,10,none⟩) (Kd.zav (p:=⟨g_a,9,none⟩) (Kd.zav (p:=⟨g_a,8,none⟩) (Kd.zav (p:=⟨g_a,7,none⟩) (Kd.zav (p:=⟨g_a,6,none⟩) (Kd.zav (p:=⟨g_a,5,none⟩) (Kd.zav (p:=⟨g_a,4,none⟩) (Kd.zav (p:=⟨g_a,3,none⟩) (Kd.zav (p:=⟨g_a,2,none⟩) (Kd.zav (p:=⟨g_a,1,none⟩) (Kd.zav (p:=⟨g_a,0,none⟩) (Kd.zcf HO_738012.out B_a.out (by decide)) (fun _ hk=>hk.2) (.int .i64 t719)) (fun _ hk=>hk.2) (.int .i64 t722)) (fun _ hk=>hk.2) (.int .i64 t725)) (fun _ hk=>hk.2) (.int .i64 t728)) (fun _ hk=>hk.2) (.int .i64 t731)) (fun _ hk=>hk.2) (.int .i64 t734)) (fun _ hk=>hk.2) (.bool t738)) (fun _ hk=>hk.2) (.string t739)) (fun _ hk=>hk.2) (.string t740)) (fun _ hk=>hk.2) (.bool t743)) (fun _ hk=>hk.2) (.string t744)) (fun _ hk=>hk.2) (.string t745)) (fun _ hk=>hk.2) (.slice Ao60 x738012_1.length co60)) (fun _ hk=>hk.2) (.slice Ao61 x738013_2.length co61)) (fun _ hk=>trivial),by (with_reducible repeat (first|apply Kd.zb1|apply Kd.zb2|apply Kd.zb9));exact Kd.zbm (Kd.zav (p:=⟨g_a,13,none⟩) (Kd.zav (p:=⟨g_a,12,none⟩) (Kd.zav (p:=⟨g_a,11,none⟩) (Kd.zav (p:=⟨g_a,10,none⟩) (Kd.zav (p:=⟨g_a,9,none⟩) (Kd.zav (p:=⟨g_a,8,none⟩) (Kd.zav (p:=⟨g_a,7,none⟩) (Kd.zav (p:=⟨g_a,6,none⟩) (Kd.zav (p:=⟨g_a,5,none⟩) (Kd.zav (p:=⟨g_a,4,none⟩) (Kd.zav (p:=⟨g_a,3,none⟩) (Kd.zav (p:=⟨g_a,2,none⟩) (Kd.zav (p:=⟨g_a,1,none⟩) (Kd.zav (p:=⟨g_a,0,none⟩) (Kd.zcf HO_738013.out B_a.out (by decide)) (fun _ hk=>hk.2) (.int .i64 t719)) (fun _ hk=>hk.2) (.int .i64 t722)) (fun _ hk=>hk.2) (.int .i64 t725)) (fun _ hk=>hk.2) (.int .i64 t728)) (fun _ hk=>hk.2) (.int .i64 t731)) (fun _ hk=>hk.2) (.int .i64 t734)) (fun _ hk=>hk.2) (.bool t738)) (fun _ hk=>hk.2) (.string t739)) (fun _ hk=>hk.2) (.string t740)) (fun _ hk=>hk.2) (.bool t743)) (fun _ hk=>hk.2) (.string t744)) (fun _ hk=>hk.2) (.string t745)) (fun _ hk=>hk.2) (.slice Ao60 x738012_1.length co60)) (fun _ hk=>hk.2) (.slice Ao61 x738013_2.length co61)) (fun _ hk=>trivial),q37,q38,q23⟩
theorem cells15 {W:World} {g t:Nat} {c0 c1 c2 c3 c4 c5 c6 c7 c8 c9 c10 c11 c12 c13 c14:Value} (h:W.heap[g]?=some (.cells #[c0,c1,c2,c3,c4,c5,c6,c7,c8,c9,c10,c11,c12,c13,c14] t (0,0))):W.cell? ⟨g,0,none⟩=some c0∧W.cell? ⟨g,1,none⟩=some c1∧W.cell? ⟨g,2,none⟩=some c2∧W.cell? ⟨g,3,none⟩=some c3∧W.cell? ⟨g,4,none⟩=some c4∧W.cell? ⟨g,5,none⟩=some c5∧W.cell? ⟨g,6,none⟩=some c6∧W.cell? ⟨g,7,none⟩=some c7∧W.cell? ⟨g,8,none⟩=some c8∧W.cell? ⟨g,9,none⟩=some c9∧W.cell? ⟨g,10,none⟩=some c10∧W.cell? ⟨g,11,none⟩=some c11∧W.cell? ⟨g,12,none⟩=some c12∧W.cell? ⟨g,13,none⟩=some c13∧W.cell? ⟨g,14,none⟩=some c14 ∧ ∀ i,W.frozen? ⟨g,i,none⟩=false:=
 ⟨(zal h 0).trans rfl,(zal h 1).trans rfl,(zal h 2).trans rfl,(zal h 3).trans rfl,(zal h 4).trans rfl,(zal h 5).trans rfl,(zal h 6).trans rfl,(zal h 7).trans rfl,(zal h 8).trans rfl,(zal h 9).trans rfl,(zal h 10).trans rfl,(zal h 11).trans rfl,(zal h 12).trans rfl,(zal h 13).trans rfl,(zal h 14).trans rfl,fun i=>zau h i⟩
def zb8.Z:Int×Int×Int×Int×Int×Int×Bool×ByteArray×ByteArray×Bool×ByteArray×ByteArray×(List (S49))×(List (S51))×(List (S55))×Int:=(0,0,0,0,0,0,false,(⟨#[]⟩:ByteArray),(⟨#[]⟩:ByteArray),false,(⟨#[]⟩:ByteArray),(⟨#[]⟩:ByteArray),([]:List (S49)),([]:List (S51)),([]:List (S55)),44)
def zb8.pays (k:Nat):Nat→List (S55)→ByteArray→Bool→Option (List (S55)×ByteArray×Bool)
 | 0,l,s,b=>some (l,s,b)
 | n+1,l,s,b=>(zaa.f k s b).bind fun x=>(zaa.f k x.2.1 x.2.2).bind fun y=>(zaa.f k y.2.1 y.2.2).bind fun z=>(zbk.f k z.2.1 z.2.2).bind fun u=>zb8.pays k n (l ++ [(⟨⟨x.1,⟨y.1,z.1⟩⟩,u.1⟩:S55)]) u.2.1 u.2.2
def zb8.fin (k:Nat) (s:ByteArray) (n1 n2 n3 n4 n5 n6:Int) (n7:Bool) (s8 s9:ByteArray) (n10:Bool) (s11 s12:ByteArray) (legs:List (S49)) (opts:List (S51)) (p:List (S55)×ByteArray×Bool):Option (Int×Int×Int×Int×Int×Int×Bool×ByteArray×ByteArray×Bool×ByteArray×ByteArray×(List (S49))×(List (S51))×(List (S55))×Int):=
 if p.2.2=true then some zb8.Z else if (p.2.1.size:Int)>0 then some zb8.Z else (zce.f k n1 n2 n3 n4 n5 n6 n7 s8 s9 n10 s11 s12 legs opts p.1).bind fun e=>if e.2=true then (if (strOfNums e.1).toList=(strOfNums (bytesOf s)).toList then some (n1,n2,n3,n4,n5,n6,n7,s8,s9,n10,s11,s12,legs,opts,p.1,0) else some zb8.Z) else some zb8.Z
def zb8.g (k:Nat) (s:ByteArray):Option (Int×Int×Int×Int×Int×Int×Bool×ByteArray×ByteArray×Bool×ByteArray×ByteArray×(List (S49))×(List (S51))×(List (S55))×Int):=
 if (s.size:Int)>4096 then some zb8.Z else (zad.f k s false).bind fun (n1,n2,n3,n4,n5,n6,n7,s8,s9,n10,s11,s12,legs,opts,s1,b1)=>(zax.f k s1 b1 256).bind fun (n,s2,b2)=>(zb8.pays k n.toNat [] s2 b2).bind fun p=>zb8.fin k s n1 n2 n3 n4 n5 n6 n7 s8 s9 n10 s11 s12 legs opts p
def zb8.f (k:Nat) (l0:List Int):Option (Int×Int×Int×Int×Int×Int×Bool×ByteArray×ByteArray×Bool×ByteArray×ByteArray×(List (S49))×(List (S51))×(List (S55))×Int):=if l0.all (fun x=>decide (0≤x∧x≤255))=true then zb8.g k (strOfNums l0) else none
theorem zb8.pays_mono (k n:Nat):∀ l s b,LeO (zb8.pays k n l s b) (zb8.pays (k+1) n l s b):=by
 induction n with
 | zero=>intro l s b;exact LeO.refl _
 | succ n ih=>intro l s b;exact LeO.bind (zaa.mono _ _ _) (fun _=>LeO.bind (zaa.mono _ _ _) (fun _=>LeO.bind (zaa.mono _ _ _) (fun _=>LeO.bind (zbk.mono _ _ _) (fun _=>ih _ _ _))))
theorem zb8.fin_mono (k:Nat) (s:ByteArray) (n1 n2 n3 n4 n5 n6:Int) (n7:Bool) (s8 s9:ByteArray) (n10:Bool) (s11 s12:ByteArray) (legs:List (S49)) (opts:List (S51)) (p:List (S55)×ByteArray×Bool):LeO (zb8.fin k s n1 n2 n3 n4 n5 n6 n7 s8 s9 n10 s11 s12 legs opts p) (zb8.fin (k+1) s n1 n2 n3 n4 n5 n6 n7 s8 s9 n10 s11 s12 legs opts p):=LeO.ite (LeO.refl _) (LeO.ite (LeO.refl _) (LeO.bind (zce.mono _ _ _ _ _ _ _ _ _ _ _ _ _ _ _ _) (fun _=>LeO.refl _)))
theorem zb8.mono:∀ a0 k,LeO (zb8.f k a0) (zb8.f (k+1) a0):=fun a0 k=>LeO.ite (LeO.ite (LeO.refl _) (LeO.bind (zad.mono _ _ _) (fun ⟨n1,n2,n3,n4,n5,n6,n7,s8,s9,n10,s11,s12,legs,opts,s1,b1⟩=>LeO.bind (zax.mono _ _ _ _) (fun ⟨n,s2,b2⟩=>LeO.bind (zb8.pays_mono _ _ _ _ _) (fun p=>zb8.fin_mono _ _ _ _ _ _ _ _ _ _ _ _ _ _ _ _ _))))) (LeO.refl _)
structure DV (w W:World) (g q z:Nat) (s:ByteArray) (b:Bool) (n1 n2 n3 n4 n5 n6:Int) (n7:Bool) (s8 s9:ByteArray) (n10:Bool) (s11 s12:ByteArray) (vl vo vp:Value) (legs:List (S49)) (opts:List (S51)) (pays:List (S55)):Prop where
 io:zat w W g s b
 bq:W.heap[q]?=some (.cells #[.int .i64 n1,.int .i64 n2,.int .i64 n3,.int .i64 n4,.int .i64 n5,.int .i64 n6,.bool n7,.string s8,.string s9,.bool n10,.string s11,.string s12,vl,vo,vp] 37 (0,0))
 bz:W.heap[z]?=some (.cells #[.int .i64 0,.int .i64 0,.int .i64 0,.int .i64 0,.int .i64 0,.int .i64 0,.bool false,.string (⟨#[]⟩:ByteArray),.string (⟨#[]⟩:ByteArray),.bool false,.string (⟨#[]⟩:ByteArray),.string (⟨#[]⟩:ByteArray),.slice none 0 0,.slice none 0 0,.slice none 0 0] 37 (0,0))
 rl:Kd.R k49 49 W w.heap.size (fun _=>True) vl legs
 ro:Kd.R k51 51 W w.heap.size (fun _=>True) vo opts
 rp:Kd.R k55 55 W w.heap.size (fun _=>True) vp pays
 hb:Below w.heap.size w W
 gq:w.heap.size≤q
 gz:w.heap.size≤z
 ne:q≠z
section
variable {w W W1:World} {g q z:Nat} {s s1:ByteArray} {b b1:Bool} {n1 n2 n3 n4 n5 n6:Int} {n7:Bool} {s8 s9:ByteArray} {n10:Bool} {s11 s12:ByteArray} {vl vo vp:Value} {legs:List (S49)} {opts:List (S51)} {pays:List (S55)}
theorem DV.below (h:DV w W g q z s b n1 n2 n3 n4 n5 n6 n7 s8 s9 n10 s11 s12 vl vo vp legs opts pays) (hw:Below W.heap.size W W1):DV w W1 g q z s b n1 n2 n3 n4 n5 n6 n7 s8 s9 n10 s11 s12 vl vo vp legs opts pays:=
 { io:=h.io.below hw,bq:=zaf h.bq hw,bz:=zaf h.bz hw,rl:=Kd.zbx h.rl hw,ro:=Kd.zbx h.ro hw,rp:=Kd.zbx h.rp hw,hb:=zcx h.hb h.hb.size hw,gq:=h.gq,gz:=h.gz,ne:=h.ne }
theorem DV.call (h:DV w W g q z s b n1 n2 n3 n4 n5 n6 n7 s8 s9 n10 s11 s12 vl vo vp legs opts pays) (hi:zat w W1 g s1 b1) (hb:Below w.heap.size w W1) (hk:zb7 W W1 g none):DV w W1 g q z s1 b1 n1 n2 n3 n4 n5 n6 n7 s8 s9 n10 s11 s12 vl vo vp legs opts pays:=
 { io:=hi,bq:=zb7.blk hk h.bq (fun e=>h.io.ne_blk h.bq (by decide) e.symm) (by simp),bz:=zb7.blk hk h.bz (fun e=>h.io.ne_blk h.bz (by decide) e.symm) (by simp),rl:=Kd.zbm (Kd.zd4 (zat.apart h.io h.rl (by decide)) hk (fun _ h=>h.2)) (fun _ h=>h.1),ro:=Kd.zbm (Kd.zd4 (zat.apart h.io h.ro (by decide)) hk (fun _ h=>h.2)) (fun _ h=>h.1),rp:=Kd.zbm (Kd.zd4 (zat.apart h.io h.rp (by decide)) hk (fun _ h=>h.2)) (fun _ h=>h.1),hb:=hb,gq:=h.gq,gz:=h.gz,ne:=h.ne }
theorem DV.push (h:DV w W g q z s b n1 n2 n3 n4 n5 n6 n7 s8 s9 n10 s11 s12 vl vo vp legs opts pays) {vp1:Value} {pays1:List (S55)} (hp:Kd.R k55 55 W1 w.heap.size (fun _=>True) vp1 pays1) (hb:Below w.heap.size w W1) (hg:W.grownBy W1 vp.ownBlock):DV w (W1.setCell ⟨q,14,none⟩ vp1) g q z s b n1 n2 n3 n4 n5 n6 n7 s8 s9 n10 s11 s12 vl vo vp1 legs opts pays1:=by
 have bq:=zck h.bq hg (Kd.zd5 h.rp h.bq (by decide))
 have far:∀ {α : Type} {d:Kd α} {e:Nat} {v:Value} {xs:List α},d.R e W1 w.heap.size (fun _=>True) v xs→(∀ t,t ∈ e :: d.E→t≠37)→d.R e (W1.setCell ⟨q,14,none⟩ vp1) w.heap.size (fun _=>True) v xs:=fun hr ht=>Kd.zbm (Kd.zav (p:=⟨q,14,none⟩) (Kd.zcf hr bq ht) (fun _ hk=>hk.2) vp1) (fun _ _=>trivial)
 exact { io:=(h.io.grown hg (h.io.own_ne h.rp (by decide))).far (h.io.ne_blk h.bq (by decide)) _,bq:=za9 bq 14 vp1 rfl,bz:=zay (zck h.bz hg (Kd.zd5 h.rp h.bz (by decide))) (fun e=>h.ne e.symm) _,rl:=far (Kd.R_over' h.rl (Kd.zd6 h.rp) (by decide) hg) (by decide),ro:=far (Kd.R_over' h.ro (Kd.zd6 h.rp) (by decide) hg) (by decide),rp:=far hp (by decide),hb:=zak hb h.gq,gq:=h.gq,gz:=h.gz,ne:=h.ne }
theorem DV.out (h:DV w W g q z s b n1 n2 n3 n4 n5 n6 n7 s8 s9 n10 s11 s12 vl vo vp legs opts pays) (hk:zb7 W W1 z none):Kd.R k49 49 W1 w.heap.size (fun _=>True) vl legs∧Kd.R k51 51 W1 w.heap.size (fun _=>True) vo opts∧Kd.R k55 55 W1 w.heap.size (fun _=>True) vp pays:=
 ⟨Kd.zbm (Kd.zd4 (Kd.zcf h.rl h.bz (by decide)) hk (fun _ h=>h.2)) (fun _ h=>h.1),Kd.zbm (Kd.zd4 (Kd.zcf h.ro h.bz (by decide)) hk (fun _ h=>h.2)) (fun _ h=>h.1),Kd.zbm (Kd.zd4 (Kd.zcf h.rp h.bz (by decide)) hk (fun _ h=>h.2)) (fun _ h=>h.1)⟩
end
theorem zb8.tab8:rtab .any (opsOf Tryd.f17 8)=zad.T11:=by kernel_rfl
theorem zax.most {k:Nat} {s s':ByteArray} {b b':Bool} {m n:Int} (h:zax.f k s b m=some (n,s',b')) (hm:0≤m):n≤m:=by
 unfold zax.f at h;obtain ⟨⟨n1,s1,b1⟩,_,h⟩:=Option.bind_eq_some_iff.mp h
 split at h
 ·cases h;exact hm
 ·split at h
  ·cases h;exact hm
  ·split at h
   ·cases h;exact hm
   ·cases h
    rename_i _ _ h1
    exact Int.not_lt.mp h1
set_option maxHeartbeats 8000000 in
set_option maxRecDepth 100000 in
theorem zb8.calls (k:Nat) (A0:Option Addr) (c0:Nat) (l0:List Int) (r1 r2 r3 r4 r5 r6:Int) (r7:Bool) (r8 r9:ByteArray) (r10:Bool) (r11 r12:ByteArray) (r13:List (S49)) (r14:List (S51)) (r15:List (S55)) (r16:Int) (w:World) (hr0:Kd.C (Kd.int .u8) w A0 l0.length l0) (hc0:l0.length≤c0) (h:zb8.f k l0=some (r1,r2,r3,r4,r5,r6,r7,r8,r9,r10,r11,r12,r13,r14,r15,r16)) :
 Calls Tryd.prog 17 #[.slice A0 l0.length c0] w fun e w'=>∃ v12_ v13_ v14_:Value,e = .returned (.tuple #[.agg #[.int .i64 r1,.int .i64 r2,.int .i64 r3,.int .i64 r4,.int .i64 r5,.int .i64 r6,.bool r7,.string r8,.string r9,.bool r10,.string r11,.string r12,v12_,v13_,v14_],.int .i64 r16])∧Kd.R k49 49 w' w.heap.size (fun _=>True) v12_ r13∧Kd.R k51 51 w' w.heap.size (fun _=>True) v13_ r14∧Kd.R k55 55 w' w.heap.size (fun _=>True) v14_ r15∧Below w.heap.size w w':=by
 have hu37:=Tryd.underlying37;have hu34:=Tryd.underlying34;have hu53:=Tryd.underlying53;have hu55:=Tryd.underlying55;have hu49:=Tryd.underlying49;have hu78:=Tryd.underlying78;unfold zb8.f at h
 by_cases hw:l0.all (fun x=>decide (0≤x∧x≤255))=true
 case neg=>rw [if_neg hw] at h;cases h
 rw [if_pos hw] at h
 obtain ⟨s,hs⟩:∃ s,s=strOfNums l0:=⟨_,rfl⟩
 have hl0:l0=bytesOf s:=by rw [hs,strOfNums_bytes (fun x hx=>of_decide_eq_true (List.all_eq_true.1 hw x hx))]
 rw [← hs] at h;clear hs hw;subst hl0;rw [bytesOf_length] at hr0 hc0 ⊢;have HR:=za1.mk hr0;have HC:=za1.mk hc0;have HH:=za1.mk h;clear hr0 hc0 h;go_enter Tryd.func17,Tryd.ntmps17
 go_upto_region 1 with (first|((with_reducible refine zbr (N:=2) rfl ?_);refine zbq ?hg (N:=2) ?hd (cs:=#[.int .i64 0,.int .i64 0,.int .i64 0,.int .i64 0,.int .i64 0,.int .i64 0,.bool false,.string (⟨#[]⟩:ByteArray),.string (⟨#[]⟩:ByteArray),.bool false,.string (⟨#[]⟩:ByteArray),.string (⟨#[]⟩:ByteArray),.slice none 0 0,.slice none 0 0,.slice none 0 0]) (t:=37) ?hr ?_;(case hd=>rfl);(case hg=>rfl);(case hr=>first|(go_simp;done)|(go_simp;rfl));intro gz hg w1 hbox hb;have HZ:=za1.mk hg;have BZ:=za1.mk hbox;have HB1:=za1.mk hb;clear hg hbox hb))
 by_cases hl:(s.size:Int)>4096
 ·have hl1:=decide_eq_true hl
  have hr:=HH.out;unfold zb8.g at hr;rw [if_pos hl] at hr;simp only [zb8.Z,Option.some.injEq,Prod.mk.injEq] at hr;obtain ⟨rfl,rfl,rfl,rfl,rfl,rfl,rfl,rfl,rfl,rfl,rfl,rfl,rfl,rfl,rfl,rfl⟩:=hr;obtain ⟨hz0,hz1,hz2,hz3,hz4,hz5,hz6,hz7,hz8,hz9,hz10,hz11,hz12,hz13,hz14,hzf⟩:=cells15 BZ.out
  go_wp2
  refine bodyPost_ret (results_ct rfl _ _ gz 37 #[.int .i64 0,.int .i64 0,.int .i64 0,.int .i64 0,.int .i64 0,.int .i64 0,.bool false,.string (⟨#[]⟩:ByteArray),.string (⟨#[]⟩:ByteArray),.bool false,.string (⟨#[]⟩:ByteArray),.string (⟨#[]⟩:ByteArray),.slice none 0 0,.slice none 0 0,.slice none 0 0] (0,0) _ rfl (by refine za9 (cs:=#[.int .i64 0,.int .i64 0,.int .i64 0,.int .i64 0,.int .i64 0,.int .i64 0,.bool false,.string (⟨#[]⟩:ByteArray),.string (⟨#[]⟩:ByteArray),.bool false,.string (⟨#[]⟩:ByteArray),.string (⟨#[]⟩:ByteArray),.slice none 0 0,.slice none 0 0,.slice none 0 0]) ?_ 14 _ rfl;refine za9 (cs:=#[.int .i64 0,.int .i64 0,.int .i64 0,.int .i64 0,.int .i64 0,.int .i64 0,.bool false,.string (⟨#[]⟩:ByteArray),.string (⟨#[]⟩:ByteArray),.bool false,.string (⟨#[]⟩:ByteArray),.string (⟨#[]⟩:ByteArray),.slice none 0 0,.slice none 0 0,.slice none 0 0]) ?_ 13 _ rfl;refine za9 (cs:=#[.int .i64 0,.int .i64 0,.int .i64 0,.int .i64 0,.int .i64 0,.int .i64 0,.bool false,.string (⟨#[]⟩:ByteArray),.string (⟨#[]⟩:ByteArray),.bool false,.string (⟨#[]⟩:ByteArray),.string (⟨#[]⟩:ByteArray),.slice none 0 0,.slice none 0 0,.slice none 0 0]) ?_ 12 _ rfl;refine za9 (cs:=#[.int .i64 0,.int .i64 0,.int .i64 0,.int .i64 0,.int .i64 0,.int .i64 0,.bool false,.string (⟨#[]⟩:ByteArray),.string (⟨#[]⟩:ByteArray),.bool false,.string (⟨#[]⟩:ByteArray),.string (⟨#[]⟩:ByteArray),.slice none 0 0,.slice none 0 0,.slice none 0 0]) ?_ 11 _ rfl;refine za9 (cs:=#[.int .i64 0,.int .i64 0,.int .i64 0,.int .i64 0,.int .i64 0,.int .i64 0,.bool false,.string (⟨#[]⟩:ByteArray),.string (⟨#[]⟩:ByteArray),.bool false,.string (⟨#[]⟩:ByteArray),.string (⟨#[]⟩:ByteArray),.slice none 0 0,.slice none 0 0,.slice none 0 0]) ?_ 10 _ rfl;refine za9 (cs:=#[.int .i64 0,.int .i64 0,.int .i64 0,.int .i64 0,.int .i64 0,.int .i64 0,.bool false,.string (⟨#[]⟩:ByteArray),.string (⟨#[]⟩:ByteArray),.bool false,.string (⟨#[]⟩:ByteArray),.string (⟨#[]⟩:ByteArray),.slice none 0 0,.slice none 0 0,.slice none 0 0]) ?_ 9 _ rfl;refine za9 (cs:=#[.int .i64 0,.int .i64 0,.int .i64 0,.int .i64 0,.int .i64 0,.int .i64 0,.bool false,.string (⟨#[]⟩:ByteArray),.string (⟨#[]⟩:ByteArray),.bool false,.string (⟨#[]⟩:ByteArray),.string (⟨#[]⟩:ByteArray),.slice none 0 0,.slice none 0 0,.slice none 0 0]) ?_ 8 _ rfl;refine za9 (cs:=#[.int .i64 0,.int .i64 0,.int .i64 0,.int .i64 0,.int .i64 0,.int .i64 0,.bool false,.string (⟨#[]⟩:ByteArray),.string (⟨#[]⟩:ByteArray),.bool false,.string (⟨#[]⟩:ByteArray),.string (⟨#[]⟩:ByteArray),.slice none 0 0,.slice none 0 0,.slice none 0 0]) ?_ 7 _ rfl;refine za9 (cs:=#[.int .i64 0,.int .i64 0,.int .i64 0,.int .i64 0,.int .i64 0,.int .i64 0,.bool false,.string (⟨#[]⟩:ByteArray),.string (⟨#[]⟩:ByteArray),.bool false,.string (⟨#[]⟩:ByteArray),.string (⟨#[]⟩:ByteArray),.slice none 0 0,.slice none 0 0,.slice none 0 0]) ?_ 6 _ rfl;refine za9 (cs:=#[.int .i64 0,.int .i64 0,.int .i64 0,.int .i64 0,.int .i64 0,.int .i64 0,.bool false,.string (⟨#[]⟩:ByteArray),.string (⟨#[]⟩:ByteArray),.bool false,.string (⟨#[]⟩:ByteArray),.string (⟨#[]⟩:ByteArray),.slice none 0 0,.slice none 0 0,.slice none 0 0]) ?_ 5 _ rfl;refine za9 (cs:=#[.int .i64 0,.int .i64 0,.int .i64 0,.int .i64 0,.int .i64 0,.int .i64 0,.bool false,.string (⟨#[]⟩:ByteArray),.string (⟨#[]⟩:ByteArray),.bool false,.string (⟨#[]⟩:ByteArray),.string (⟨#[]⟩:ByteArray),.slice none 0 0,.slice none 0 0,.slice none 0 0]) ?_ 4 _ rfl;refine za9 (cs:=#[.int .i64 0,.int .i64 0,.int .i64 0,.int .i64 0,.int .i64 0,.int .i64 0,.bool false,.string (⟨#[]⟩:ByteArray),.string (⟨#[]⟩:ByteArray),.bool false,.string (⟨#[]⟩:ByteArray),.string (⟨#[]⟩:ByteArray),.slice none 0 0,.slice none 0 0,.slice none 0 0]) ?_ 3 _ rfl;refine za9 (cs:=#[.int .i64 0,.int .i64 0,.int .i64 0,.int .i64 0,.int .i64 0,.int .i64 0,.bool false,.string (⟨#[]⟩:ByteArray),.string (⟨#[]⟩:ByteArray),.bool false,.string (⟨#[]⟩:ByteArray),.string (⟨#[]⟩:ByteArray),.slice none 0 0,.slice none 0 0,.slice none 0 0]) ?_ 2 _ rfl;refine za9 (cs:=#[.int .i64 0,.int .i64 0,.int .i64 0,.int .i64 0,.int .i64 0,.int .i64 0,.bool false,.string (⟨#[]⟩:ByteArray),.string (⟨#[]⟩:ByteArray),.bool false,.string (⟨#[]⟩:ByteArray),.string (⟨#[]⟩:ByteArray),.slice none 0 0,.slice none 0 0,.slice none 0 0]) ?_ 1 _ rfl;refine za9 (cs:=#[.int .i64 0,.int .i64 0,.int .i64 0,.int .i64 0,.int .i64 0,.int .i64 0,.bool false,.string (⟨#[]⟩:ByteArray),.string (⟨#[]⟩:ByteArray),.bool false,.string (⟨#[]⟩:ByteArray),.string (⟨#[]⟩:ByteArray),.slice none 0 0,.slice none 0 0,.slice none 0 0]) ?_ 0 _ rfl;exact BZ.out) Tryd.underlying37 rfl (by kernel_rfl)) rfl ?_;exact ⟨_,_,_,rfl,Kd.zd8 _ _ _ _ _,Kd.zd8 _ _ _ _ _,Kd.zd8 _ _ _ _ _,by repeat (first|(with_reducible exact HB1.out)|refine zak ?_ (by rw [HZ.out];exact Nat.le_refl _))⟩
 ·have hl1:=decide_eq_false hl
  have hr:=HH.out;unfold zb8.g at hr;rw [if_neg hl] at hr;obtain ⟨⟨n1,n2,n3,n4,n5,n6,n7,s8,s9,n10,s11,s12,legs,opts,s1,b1⟩,e1,hr1⟩:=Option.bind_eq_some_iff.1 hr;dsimp only at hr1;obtain ⟨⟨n,s2,b2⟩,e2,hr2⟩:=Option.bind_eq_some_iff.1 hr1;dsimp only at hr2;obtain ⟨p,e3,hr3⟩:=Option.bind_eq_some_iff.1 hr2;clear hr hr1 hr2;have hn0:=zax.nonneg e2;have hn1:=zax.most e2 (by decide)
  obtain ⟨N,rfl⟩:∃ N:Nat,n=(N:Int):=⟨n.toNat,by omega⟩
  rw [Int.toNat_natCast] at e3;have E1:=za1.mk e1;have E2:=za1.mk e2;have E3:=za1.mk e3;have HF:=am (show zb8.fin k s n1 n2 n3 n4 n5 n6 n7 s8 s9 n10 s11 s12 legs opts p=some (r1,r2,r3,r4,r5,r6,r7,r8,r9,r10,r11,r12,r13,r14,r15,r16) from hr3);have HN:=am (show N≤256 by omega);clear hr3 e1 e2 e3 hn0 hn1 HH
  go_upto_region 4 with (first|((with_reducible refine zbr (N:=15) rfl ?_);refine zbq ?hg (N:=15) ?hd (cs:=#[.slice A0 s.size c0,.bool false]) (t:=78) ?hr ?_;(case hd=>rfl);(case hg=>rfl);(case hr=>first|(go_simp;done)|(go_simp;rfl));intro g hg w2 hbox hb;have HGG:=za1.mk hg;have BG:=za1.mk hbox;have HBB2:=za1.mk hb;clear hg hbox hb))
  have HI2:=am (show zat w w2 g s false from ⟨_,BG.out,by rw [HGG.out];exact HB1.out.size,A0,c0,rfl,HC.out,HR.out⟩);have HB2:=am (zab HB1.out HBB2.out);have BZ2:=am (zaf BZ.out HBB2.out);clear BG HBB2 HGG BZ HB1
  go_upto_region 5 with (first|(go_at_call 26;(with_reducible refine (zad.calls k g s false n1 n2 n3 n4 n5 n6 n7 s8 s9 n10 s11 s12 legs opts s1 b1 w w2 HI2.out HB2.out E1.out).mono ?_);rintro e w3 ⟨vl,vo,rfl,hl_,ho_,hi,hb,hk⟩;obtain ⟨AL,cL,rfl⟩:=Kd.zbn hl_;obtain ⟨AO,cO,rfl⟩:=Kd.zbn ho_;have HI3:=za1.mk hi;have HB3:=za1.mk hb;have HL3:=am (Kd.zc9 hl_ HB2.out.size);have HO3:=am (Kd.zc9 ho_ HB2.out.size);have BZ3:=am (zb7.blk hk BZ2.out (fun e=>HI2.out.ne_blk BZ2.out (by decide) e.symm) (by simp));clear hl_ ho_ hi hb hk)|((with_reducible refine zbr (N:=5) rfl ?_);refine zbq ?hg (N:=5) ?hd (cs:=#[.int .i64 0,.int .i64 0,.int .i64 0,.int .i64 0,.int .i64 0,.int .i64 0,.bool false,.string (⟨#[]⟩:ByteArray),.string (⟨#[]⟩:ByteArray),.bool false,.string (⟨#[]⟩:ByteArray),.string (⟨#[]⟩:ByteArray),.slice none 0 0,.slice none 0 0,.slice none 0 0]) (t:=37) ?hr ?_;(case hd=>rfl);(case hg=>rfl);(case hr=>first|(go_simp;done)|(go_simp;rfl));intro q hg w4 hbox hb;have HQ:=za1.mk hg;have BQ:=za1.mk hbox;have HB4:=za1.mk hb;clear hg hbox hb;obtain ⟨hq0,hq1,hq2,hq3,hq4,hq5,hq6,hq7,hq8,hq9,hq10,hq11,hq12,hq13,hq14,hqf⟩:=cells15 BQ.out))
  have HNQ:=am (show gz≠q from by have:=zcj BZ3.out;have:=HQ.out;omega);have HGQ:=am (show w.heap.size≤q by rw [HQ.out];exact HB3.out.size);have HGNE:=am ((HI3.out.below HB4.out).ne_blk BQ.out (by decide))
  generalize hW5:World.setCell _ _ _=w5
  have HK5:=am (show zb7 w4 w5 q none by
   rw [← hW5]
   repeat (first|(with_reducible exact zb7.refl _ _ _)|refine zb7.set_ ?_ _ _))
  have HDV:=am (show DV w w5 g q gz s1 b1 n1 n2 n3 n4 n5 n6 n7 s8 s9 n10 s11 s12 (.slice AL legs.length cL) (.slice AO opts.length cO) (.slice none 0 0) legs opts [] from
   { io:=by
      rw [← hW5]
      repeat (first|(with_reducible exact HI3.out.below HB4.out)|refine zat.far ?_ HGNE.out _)
     bq:=by
      rw [← hW5];refine za9 (cs:=#[.int .i64 n1,.int .i64 n2,.int .i64 n3,.int .i64 n4,.int .i64 n5,.int .i64 n6,.bool n7,.string s8,.string s9,.bool n10,.string s11,.string s12,.slice AL legs.length cL,.slice AO opts.length cO,.slice none 0 0]) ?_ 14 _ rfl;refine za9 (cs:=#[.int .i64 n1,.int .i64 n2,.int .i64 n3,.int .i64 n4,.int .i64 n5,.int .i64 n6,.bool n7,.string s8,.string s9,.bool n10,.string s11,.string s12,.slice AL legs.length cL,.slice none 0 0,.slice none 0 0]) ?_ 13 _ rfl;refine za9 (cs:=#[.int .i64 n1,.int .i64 n2,.int .i64 n3,.int .i64 n4,.int .i64 n5,.int .i64 n6,.bool n7,.string s8,.string s9,.bool n10,.string s11,.string s12,.slice none 0 0,.slice none 0 0,.slice none 0 0]) ?_ 12 _ rfl;refine za9 (cs:=#[.int .i64 n1,.int .i64 n2,.int .i64 n3,.int .i64 n4,.int .i64 n5,.int .i64 n6,.bool n7,.string s8,.string s9,.bool n10,.string s11,.string (⟨#[]⟩:ByteArray),.slice none 0 0,.slice none 0 0,.slice none 0 0]) ?_ 11 _ rfl;refine za9 (cs:=#[.int .i64 n1,.int .i64 n2,.int .i64 n3,.int .i64 n4,.int .i64 n5,.int .i64 n6,.bool n7,.string s8,.string s9,.bool n10,.string (⟨#[]⟩:ByteArray),.string (⟨#[]⟩:ByteArray),.slice none 0 0,.slice none 0 0,.slice none 0 0]) ?_ 10 _ rfl;refine za9 (cs:=#[.int .i64 n1,.int .i64 n2,.int .i64 n3,.int .i64 n4,.int .i64 n5,.int .i64 n6,.bool n7,.string s8,.string s9,.bool false,.string (⟨#[]⟩:ByteArray),.string (⟨#[]⟩:ByteArray),.slice none 0 0,.slice none 0 0,.slice none 0 0]) ?_ 9 _ rfl;refine za9 (cs:=#[.int .i64 n1,.int .i64 n2,.int .i64 n3,.int .i64 n4,.int .i64 n5,.int .i64 n6,.bool n7,.string s8,.string (⟨#[]⟩:ByteArray),.bool false,.string (⟨#[]⟩:ByteArray),.string (⟨#[]⟩:ByteArray),.slice none 0 0,.slice none 0 0,.slice none 0 0]) ?_ 8 _ rfl;refine za9 (cs:=#[.int .i64 n1,.int .i64 n2,.int .i64 n3,.int .i64 n4,.int .i64 n5,.int .i64 n6,.bool n7,.string (⟨#[]⟩:ByteArray),.string (⟨#[]⟩:ByteArray),.bool false,.string (⟨#[]⟩:ByteArray),.string (⟨#[]⟩:ByteArray),.slice none 0 0,.slice none 0 0,.slice none 0 0]) ?_ 7 _ rfl;refine za9 (cs:=#[.int .i64 n1,.int .i64 n2,.int .i64 n3,.int .i64 n4,.int .i64 n5,.int .i64 n6,.bool false,.string (⟨#[]⟩:ByteArray),.string (⟨#[]⟩:ByteArray),.bool false,.string (⟨#[]⟩:ByteArray),.string (⟨#[]⟩:ByteArray),.slice none 0 0,.slice none 0 0,.slice none 0 0]) ?_ 6 _ rfl;refine za9 (cs:=#[.int .i64 n1,.int .i64 n2,.int .i64 n3,.int .i64 n4,.int .i64 n5,.int .i64 0,.bool false,.string (⟨#[]⟩:ByteArray),.string (⟨#[]⟩:ByteArray),.bool false,.string (⟨#[]⟩:ByteArray),.string (⟨#[]⟩:ByteArray),.slice none 0 0,.slice none 0 0,.slice none 0 0]) ?_ 5 _ rfl;refine za9 (cs:=#[.int .i64 n1,.int .i64 n2,.int .i64 n3,.int .i64 n4,.int .i64 0,.int .i64 0,.bool false,.string (⟨#[]⟩:ByteArray),.string (⟨#[]⟩:ByteArray),.bool false,.string (⟨#[]⟩:ByteArray),.string (⟨#[]⟩:ByteArray),.slice none 0 0,.slice none 0 0,.slice none 0 0]) ?_ 4 _ rfl;refine za9 (cs:=#[.int .i64 n1,.int .i64 n2,.int .i64 n3,.int .i64 0,.int .i64 0,.int .i64 0,.bool false,.string (⟨#[]⟩:ByteArray),.string (⟨#[]⟩:ByteArray),.bool false,.string (⟨#[]⟩:ByteArray),.string (⟨#[]⟩:ByteArray),.slice none 0 0,.slice none 0 0,.slice none 0 0]) ?_ 3 _ rfl;refine za9 (cs:=#[.int .i64 n1,.int .i64 n2,.int .i64 0,.int .i64 0,.int .i64 0,.int .i64 0,.bool false,.string (⟨#[]⟩:ByteArray),.string (⟨#[]⟩:ByteArray),.bool false,.string (⟨#[]⟩:ByteArray),.string (⟨#[]⟩:ByteArray),.slice none 0 0,.slice none 0 0,.slice none 0 0]) ?_ 2 _ rfl;refine za9 (cs:=#[.int .i64 n1,.int .i64 0,.int .i64 0,.int .i64 0,.int .i64 0,.int .i64 0,.bool false,.string (⟨#[]⟩:ByteArray),.string (⟨#[]⟩:ByteArray),.bool false,.string (⟨#[]⟩:ByteArray),.string (⟨#[]⟩:ByteArray),.slice none 0 0,.slice none 0 0,.slice none 0 0]) ?_ 1 _ rfl;refine za9 (cs:=#[.int .i64 0,.int .i64 0,.int .i64 0,.int .i64 0,.int .i64 0,.int .i64 0,.bool false,.string (⟨#[]⟩:ByteArray),.string (⟨#[]⟩:ByteArray),.bool false,.string (⟨#[]⟩:ByteArray),.string (⟨#[]⟩:ByteArray),.slice none 0 0,.slice none 0 0,.slice none 0 0]) ?_ 0 _ rfl;exact BQ.out
     bz:=zb7.blk HK5.out (zaf BZ3.out HB4.out) HNQ.out (by simp)
     rl:=Kd.zbm (Kd.zd4 (Kd.zcf (Kd.zbx HL3.out HB4.out) BQ.out (by decide)) HK5.out (fun _ h=>h.2)) (fun _ h=>h.1)
     ro:=Kd.zbm (Kd.zd4 (Kd.zcf (Kd.zbx HO3.out HB4.out) BQ.out (by decide)) HK5.out (fun _ h=>h.2)) (fun _ h=>h.1)
     rp:=Kd.zd8 _ _ _ _ _
     hb:=by
      rw [← hW5]
      repeat (first|(with_reducible exact zab HB3.out HB4.out)|refine zak ?_ HGQ.out)
     gq:=HGQ.out
     gz:=by rw [HZ.out];exact Nat.le_refl _
     ne:=HNQ.out.symm })
  clear hW5 HK5 HI3 HB3 HL3 HO3 BZ3 BQ HB4 HQ HNQ HGQ HGNE HI2 HB2 BZ2 E1 hq0 hq1 hq2 hq3 hq4 hq5 hq6 hq7 hq8 hq9 hq10 hq11 hq12 hq13 hq14 hqf
  go_wp2_with (go_at_call 27;(with_reducible refine (zax.calls k g s1 b1 256 (N:Int) s2 b2 w w5 HDV.out.io HDV.out.hb E2.out).mono ?_);rintro e w6 ⟨rfl,hi,hb,hk⟩;have HD6:=am (HDV.out.call hi hb hk);clear hi hb hk HDV)
  go_loopg [21] (N+1) (fun kq v21 w'=>∃ (i:Nat) (o:List (S55)) (sx:ByteArray) (bx:Bool) (vp:Value),v21 = .int .i64 (i:Int)∧za1 (i+kq=N+1∧i≤N∧o.length=i)∧za1 (zb8.pays k (N-i) o sx bx=some p)∧za1 (DV w w' g q gz sx bx n1 n2 n3 n4 n5 n6 n7 s8 s9 n10 s11 s12 (.slice AL legs.length cL) (.slice AO opts.length cO) vp legs opts o))
  case atStart=>exact ⟨0,[],s2,b2,.slice none 0 0,rfl,⟨by omega,by omega,rfl⟩,E3,HD6⟩
  case round=>
   clear HD6 E3 E2;obtain ⟨i,o,sx,bx,vp,rfl,HI,HP,HD⟩:=hrel
   by_cases hi:(i:Int)<(N:Int)
   ·have hi1:=decide_eq_true hi
    obtain ⟨m,hm⟩:∃ m,N-i=m+1:=⟨N-i-1,by omega⟩
    have hp:=HP.out;rw [hm] at hp;simp only [zb8.pays] at hp;obtain ⟨⟨x1,x2,x3⟩,ex,hp1⟩:=Option.bind_eq_some_iff.1 hp;obtain ⟨⟨y1,y2,y3⟩,ey,hp2⟩:=Option.bind_eq_some_iff.1 hp1;obtain ⟨⟨z1,z2,z3⟩,ez,hp3⟩:=Option.bind_eq_some_iff.1 hp2;obtain ⟨⟨u1,u2,u3⟩,eu,hp4⟩:=Option.bind_eq_some_iff.1 hp3;have EX:=za1.mk ex;have EY:=za1.mk ey;have EZ:=za1.mk ez;have EU:=za1.mk eu
    obtain ⟨y,hy⟩:∃ y:List (S55),y=o ++ [(⟨⟨x1,⟨y1,z1⟩⟩,u1⟩:S55)]:=⟨_,rfl⟩
    rw [← hy] at hp4;have NY:=za1.mk hy;have HP4:=za1.mk hp4;clear hy;clear hp hp1 hp2 hp3 hp4 ex ey ez eu HP
    go_upto_region 8 with (first|(go_at_call 28;(with_reducible refine (zaa.calls k g sx bx x1 x2 x3 w wr HD.out.io HD.out.hb EX.out).mono ?_);rintro e w7 ⟨rfl,hi_,hb,hk⟩;have HD7:=am (HD.out.call hi_ hb hk);clear hi_ hb hk)|(go_at_call 28;(with_reducible refine (zaa.calls k g x2 x3 y1 y2 y3 w w7 HD7.out.io HD7.out.hb EY.out).mono ?_);rintro e w8 ⟨rfl,hi_,hb,hk⟩;have HD8:=am (HD7.out.call hi_ hb hk);clear hi_ hb hk)|(go_at_call 28;(with_reducible refine (zaa.calls k g y2 y3 z1 z2 z3 w w8 HD8.out.io HD8.out.hb EZ.out).mono ?_);rintro e w9 ⟨rfl,hi_,hb,hk⟩;have HD9:=am (HD8.out.call hi_ hb hk);clear hi_ hb hk)|((with_reducible refine zbr (N:=6) rfl ?_);refine zbq ?hg (N:=6) ?hd (cs:=#[.int .i64 0,.int .i64 0,.int .i64 0]) (t:=53) ?hr ?_;(case hd=>rfl);(case hg=>rfl);(case hr=>first|(go_simp;done)|(go_simp;rfl));intro r hg w10 hbox hb;have HR6:=za1.mk hg;have BR0:=za1.mk hbox;have HB10:=za1.mk hb;clear hg hbox hb;have hr0:w10.cell? ⟨r,0,none⟩=some (.int .i64 0):=bc BR0 0;have hr1:w10.cell? ⟨r,1,none⟩=some (.int .i64 0):=bc BR0 1;have hr2:w10.cell? ⟨r,2,none⟩=some (.int .i64 0):=bc BR0 2;have hrf:=zau BR0.out))
    have HGR:=am (show w9.heap.size≤r by rw [HR6.out];exact Nat.le_refl _)
    generalize hW11:World.setCell _ _ _=w11
    have BR:=am (show w11.heap[r]?=some (.cells #[.int .i64 x1,.int .i64 y1,.int .i64 z1] 53 (0,0)) by
     rw [← hW11]
     exact blk_set (blk_set (blk_set BR0.out 0 _) 1 _) 2 _)
    have HD11:=am (HD9.out.below (show Below w9.heap.size w9 w11 by
     rw [← hW11]
     repeat (first|(with_reducible exact HB10.out)|refine zak ?_ HGR.out)))
    clear hW11 BR0 HB10 HGR HR6 HD HD7 HD8 HD9 EX EY EZ hr0 hr1 hr2 hrf;have HDd:=am (HD11.out.below (zcv (Below.refl _ _)));have BRd:=am (za6 BR.out);clear HD11 BR;refine start_ (n:=10) (S:=fun w'=>w'.cell? ⟨q,14,none⟩=some vp∧w'.cell? ⟨r,0,none⟩=some (.int .i64 x1)∧w'.cell? ⟨r,1,none⟩=some (.int .i64 y1)∧w'.cell? ⟨r,2,none⟩=some (.int .i64 z1)) (ds:=[9]) #[false,false,false,false,false,false,false,false,false,false] (by kernel_rfl) rfl rfl ⟨(zal HDd.out.bq 14).trans rfl,bc BRd 0,bc BRd 1,bc BRd 2⟩ (fun hHeld=>?_);refine with_tabW zb8.tab8 zad.bits11 (fun HT_ HW_=>?_)
    generalize w11.drew=w12 at HDd BRd hHeld ⊢
    refine pp 0 31 rfl rfl ?_;refine pp 3 34 rfl rfl ?_;refine tk4 1 32 rfl rfl ?_;refine tk4 2 33 rfl rfl ?_;refine one_ (i:=4) (N:=some 35) #[true,true,true,true,true,false,false,false,false,false] rfl rfl (one_of HT_.out (by kernel_rfl)) (by decide) (fun K hK=>?_);refine goes_ Tryd.func29 (by kernel_rfl) rfl #[.pointer (some ⟨g,0,none⟩)] (by rfl) rfl rfl (by (try simp only [List.map_toArray,List.map_cons,List.map_nil]);first|done|rfl) ?_
    with_reducible refine (zbk.calls k g z2 z3 u1 u2 u3 w w12 HDd.out.io HDd.out.hb EU.out).mono ?_
    rintro e w13 ⟨rfl,hi_,hb,hk⟩;refine ⟨_,rfl,?_⟩;have HD13:=am (HDd.out.call hi_ hb hk);have BR13:=am (zb7.blk hk BRd.out (fun e=>HDd.out.io.ne_blk BRd.out (by decide) e.symm) (by simp));clear hi_ hb hk HDd BRd;refine hK.out _ _ ⟨(zal HD13.out.bq 14).trans rfl,bc BR13 0,bc BR13 1,bc BR13 2⟩ (fun hHeld=>?_);clear hK K;refine norm_ (a':=?_) ?_ ?_;rotate_left
    ·show Act.put _ (some 35) _=_
     simp only [Act.put,List.setIfInBounds_toArray,List.set_cons_zero,List.set_cons_succ,i64_w,i32_w]
     rfl
    refine pp 5 36 rfl rfl ?_;refine one_ (i:=6) (N:=some 37) #[true,true,true,true,true,true,true,false,false,false] rfl rfl (one_of HT_.out (by kernel_rfl)) (by decide) (fun K hK=>?_);refine value_ (w1:=?_) (v:=?_) (by rfl) rfl ?_ ?_;rotate_left 2
    ·go_simp
     constructor
     ·rfl
     ·rfl
    have HDa:=am (HD13.out.below (zaw (Below.refl _ _) (.cells #[.int .i64 x1,.int .i64 y1,.int .i64 z1,.int .i64 u1] 55)));have BRa:=am (za0 BR13.out (.cells #[.int .i64 x1,.int .i64 y1,.int .i64 z1,.int .i64 u1] 55));refine hK.out _ _ ⟨(zal HDa.out.bq 14).trans rfl,bc BRa 0,bc BRa 1,bc BRa 2⟩ (fun hHeld=>?_);clear hK K;refine norm_ (a':=?_) ?_ ?_;rotate_left
    ·show Act.put _ (some 37) _=_
     simp only [Act.put,List.setIfInBounds_toArray,List.set_cons_zero,List.set_cons_succ,i64_w,i32_w]
     rfl
    refine one_ (i:=7) (N:=some 38) #[true,true,true,true,true,true,true,true,false,false] rfl rfl (one_of HT_.out (by kernel_rfl)) (by decide) (fun K hK=>?_);refine Kd.zd0 k55 w.heap.size (by rfl) (.tmp 32) (.tmp 37) 35 55 (.agg #[(.int .i64 0),(.int .i64 0),(.int .i64 0),(.int .i64 0)]) 32 rfl Tryd.underlying35 info55 rfl (by decide) (by omega) vp o (⟨⟨x1,⟨y1,z1⟩⟩,u1⟩:S55) [.int .i64 x1,.int .i64 y1,.int .i64 z1,.int .i64 u1] (fun _=>True) (fun _=>False) rfl rfl ?aP (fun _ hk=>hk.elim) ?aF ?aO (Below.refl _ _) ?aS ?aL ?_
    (case aP=>exact k55_mkM _ _ _ (⟨⟨x1,⟨y1,z1⟩⟩,u1⟩:S55))
    (case aF=>exact (fun _ _=>trivial))
    (case aO=>exact HD13.out.rp)
    (case aS=>exact HD13.out.hb.size)
    (case aL=>have:=HI.out;have:=HN.out;omega)
    intro v15 w14 ho hb hg hat;rw [← NY.out] at ho;obtain ⟨A15,c15,rfl⟩:=Kd.zbn ho;have HD14:=am (HD13.out.push ho (HD13.out.hb.trans hb) hg);have BQ14:=am (zck HD13.out.bq hg (Kd.zd5 HD13.out.rp HD13.out.bq (by decide)));have BR14:=am (zck BR13.out hg (Kd.zd5 HD13.out.rp BR13.out (by decide)));clear ho hb hg hat HDa BRa HD13 BR13;refine hK.out _ _ ⟨bc BQ14 14,bc BR14 0,bc BR14 1,bc BR14 2⟩ (fun hHeld=>?_);clear hK K;refine norm_ (a':=?_) ?_ ?_;rotate_left
    ·show Act.put _ (some 38) _=_
     simp only [Act.put,List.setIfInBounds_toArray,List.set_cons_zero,List.set_cons_succ,i64_w,i32_w]
     rfl
    refine pp 8 39 rfl rfl ?_;refine last_ (i:=9) (N:=none) #[true,true,true,true,true,true,true,true,true,true] rfl rfl (one_of HT_.out (by kernel_rfl)) (by decide) (fun K hK=>?_);have hs54:w14.cell? ⟨q,14,none⟩=some vp:=bc BQ14 14;have hfs54:=zau BQ14.out 14;refine skip_ (w1:=?_) (by rfl) rfl ?_ ?_;rotate_left
    ·go_simp
     rfl
    refine hK.out _ _ ?_;clear hK K BQ14 BR14;refine done_ (done_of HT_.out (by kernel_rfl)) ?_
    try go_wp2
    go_roundg (gk-1)
    case measure=>have:=HI.out;omega
    case rel=>
     have ha:=HI.out;have hn:=HN.out;refine ⟨i+1,y,u2,u3,_,?_,⟨by omega,by omega,by rw [NY.out,List.length_append,List.length_cons,List.length_nil];omega⟩,⟨?_⟩,HD14⟩
     ·first|rfl|(congr 1;done)|(congr 1;unfold wrap64;omega)
     ·rw [show N-(i+1)=m by omega]
      exact HP4.out
   ·have hi1:=decide_eq_false hi
    have hin:N-i=0:=by omega
    have hp:=HP.out;rw [hin] at hp;obtain rfl:=Option.some.inj (show some (o,sx,bx)=some p from hp);clear hp HP;obtain ⟨A2,c2,hc0_,hc1_,hf0_,hf1_,hlc,_,hC⟩:=HD.out.io.slc HD.out.hb;have hF:=HF.out;unfold zb8.fin at hF;dsimp only at hF
    cases bx with
    | true=>
     rw [if_pos rfl] at hF;simp only [zb8.Z,Option.some.injEq,Prod.mk.injEq] at hF;obtain ⟨rfl,rfl,rfl,rfl,rfl,rfl,rfl,rfl,rfl,rfl,rfl,rfl,rfl,rfl,rfl,rfl⟩:=hF;obtain ⟨hb0,hb1,hb2,hb3,hb4,hb5,hb6,hb7,hb8,hb9,hb10,hb11,hb12,hb13,hb14,hbf⟩:=cells15 HD.out.bz
     go_wp2
     refine bodyPost_ret (results_ct rfl _ _ gz 37 #[.int .i64 0,.int .i64 0,.int .i64 0,.int .i64 0,.int .i64 0,.int .i64 0,.bool false,.string (⟨#[]⟩:ByteArray),.string (⟨#[]⟩:ByteArray),.bool false,.string (⟨#[]⟩:ByteArray),.string (⟨#[]⟩:ByteArray),.slice none 0 0,.slice none 0 0,.slice none 0 0] (0,0) _ rfl (by refine za9 (cs:=#[.int .i64 0,.int .i64 0,.int .i64 0,.int .i64 0,.int .i64 0,.int .i64 0,.bool false,.string (⟨#[]⟩:ByteArray),.string (⟨#[]⟩:ByteArray),.bool false,.string (⟨#[]⟩:ByteArray),.string (⟨#[]⟩:ByteArray),.slice none 0 0,.slice none 0 0,.slice none 0 0]) ?_ 14 _ rfl;refine za9 (cs:=#[.int .i64 0,.int .i64 0,.int .i64 0,.int .i64 0,.int .i64 0,.int .i64 0,.bool false,.string (⟨#[]⟩:ByteArray),.string (⟨#[]⟩:ByteArray),.bool false,.string (⟨#[]⟩:ByteArray),.string (⟨#[]⟩:ByteArray),.slice none 0 0,.slice none 0 0,.slice none 0 0]) ?_ 13 _ rfl;refine za9 (cs:=#[.int .i64 0,.int .i64 0,.int .i64 0,.int .i64 0,.int .i64 0,.int .i64 0,.bool false,.string (⟨#[]⟩:ByteArray),.string (⟨#[]⟩:ByteArray),.bool false,.string (⟨#[]⟩:ByteArray),.string (⟨#[]⟩:ByteArray),.slice none 0 0,.slice none 0 0,.slice none 0 0]) ?_ 12 _ rfl;refine za9 (cs:=#[.int .i64 0,.int .i64 0,.int .i64 0,.int .i64 0,.int .i64 0,.int .i64 0,.bool false,.string (⟨#[]⟩:ByteArray),.string (⟨#[]⟩:ByteArray),.bool false,.string (⟨#[]⟩:ByteArray),.string (⟨#[]⟩:ByteArray),.slice none 0 0,.slice none 0 0,.slice none 0 0]) ?_ 11 _ rfl;refine za9 (cs:=#[.int .i64 0,.int .i64 0,.int .i64 0,.int .i64 0,.int .i64 0,.int .i64 0,.bool false,.string (⟨#[]⟩:ByteArray),.string (⟨#[]⟩:ByteArray),.bool false,.string (⟨#[]⟩:ByteArray),.string (⟨#[]⟩:ByteArray),.slice none 0 0,.slice none 0 0,.slice none 0 0]) ?_ 10 _ rfl;refine za9 (cs:=#[.int .i64 0,.int .i64 0,.int .i64 0,.int .i64 0,.int .i64 0,.int .i64 0,.bool false,.string (⟨#[]⟩:ByteArray),.string (⟨#[]⟩:ByteArray),.bool false,.string (⟨#[]⟩:ByteArray),.string (⟨#[]⟩:ByteArray),.slice none 0 0,.slice none 0 0,.slice none 0 0]) ?_ 9 _ rfl;refine za9 (cs:=#[.int .i64 0,.int .i64 0,.int .i64 0,.int .i64 0,.int .i64 0,.int .i64 0,.bool false,.string (⟨#[]⟩:ByteArray),.string (⟨#[]⟩:ByteArray),.bool false,.string (⟨#[]⟩:ByteArray),.string (⟨#[]⟩:ByteArray),.slice none 0 0,.slice none 0 0,.slice none 0 0]) ?_ 8 _ rfl;refine za9 (cs:=#[.int .i64 0,.int .i64 0,.int .i64 0,.int .i64 0,.int .i64 0,.int .i64 0,.bool false,.string (⟨#[]⟩:ByteArray),.string (⟨#[]⟩:ByteArray),.bool false,.string (⟨#[]⟩:ByteArray),.string (⟨#[]⟩:ByteArray),.slice none 0 0,.slice none 0 0,.slice none 0 0]) ?_ 7 _ rfl;refine za9 (cs:=#[.int .i64 0,.int .i64 0,.int .i64 0,.int .i64 0,.int .i64 0,.int .i64 0,.bool false,.string (⟨#[]⟩:ByteArray),.string (⟨#[]⟩:ByteArray),.bool false,.string (⟨#[]⟩:ByteArray),.string (⟨#[]⟩:ByteArray),.slice none 0 0,.slice none 0 0,.slice none 0 0]) ?_ 6 _ rfl;refine za9 (cs:=#[.int .i64 0,.int .i64 0,.int .i64 0,.int .i64 0,.int .i64 0,.int .i64 0,.bool false,.string (⟨#[]⟩:ByteArray),.string (⟨#[]⟩:ByteArray),.bool false,.string (⟨#[]⟩:ByteArray),.string (⟨#[]⟩:ByteArray),.slice none 0 0,.slice none 0 0,.slice none 0 0]) ?_ 5 _ rfl;refine za9 (cs:=#[.int .i64 0,.int .i64 0,.int .i64 0,.int .i64 0,.int .i64 0,.int .i64 0,.bool false,.string (⟨#[]⟩:ByteArray),.string (⟨#[]⟩:ByteArray),.bool false,.string (⟨#[]⟩:ByteArray),.string (⟨#[]⟩:ByteArray),.slice none 0 0,.slice none 0 0,.slice none 0 0]) ?_ 4 _ rfl;refine za9 (cs:=#[.int .i64 0,.int .i64 0,.int .i64 0,.int .i64 0,.int .i64 0,.int .i64 0,.bool false,.string (⟨#[]⟩:ByteArray),.string (⟨#[]⟩:ByteArray),.bool false,.string (⟨#[]⟩:ByteArray),.string (⟨#[]⟩:ByteArray),.slice none 0 0,.slice none 0 0,.slice none 0 0]) ?_ 3 _ rfl;refine za9 (cs:=#[.int .i64 0,.int .i64 0,.int .i64 0,.int .i64 0,.int .i64 0,.int .i64 0,.bool false,.string (⟨#[]⟩:ByteArray),.string (⟨#[]⟩:ByteArray),.bool false,.string (⟨#[]⟩:ByteArray),.string (⟨#[]⟩:ByteArray),.slice none 0 0,.slice none 0 0,.slice none 0 0]) ?_ 2 _ rfl;refine za9 (cs:=#[.int .i64 0,.int .i64 0,.int .i64 0,.int .i64 0,.int .i64 0,.int .i64 0,.bool false,.string (⟨#[]⟩:ByteArray),.string (⟨#[]⟩:ByteArray),.bool false,.string (⟨#[]⟩:ByteArray),.string (⟨#[]⟩:ByteArray),.slice none 0 0,.slice none 0 0,.slice none 0 0]) ?_ 1 _ rfl;refine za9 (cs:=#[.int .i64 0,.int .i64 0,.int .i64 0,.int .i64 0,.int .i64 0,.int .i64 0,.bool false,.string (⟨#[]⟩:ByteArray),.string (⟨#[]⟩:ByteArray),.bool false,.string (⟨#[]⟩:ByteArray),.string (⟨#[]⟩:ByteArray),.slice none 0 0,.slice none 0 0,.slice none 0 0]) ?_ 0 _ rfl;exact HD.out.bz) Tryd.underlying37 rfl (by kernel_rfl)) rfl ?_;exact ⟨_,_,_,rfl,Kd.zd8 _ _ _ _ _,Kd.zd8 _ _ _ _ _,Kd.zd8 _ _ _ _ _,by repeat (first|(with_reducible exact HD.out.hb)|refine zak ?_ HD.out.gz)⟩
    | false=>
     rw [if_neg (by decide)] at hF
     by_cases hz:(sx.size:Int)>0
     ·have hz1:=decide_eq_true hz
      have hz2:decide (0<sx.size)=true:=decide_eq_true (by omega);rw [if_pos hz] at hF;simp only [zb8.Z,Option.some.injEq,Prod.mk.injEq] at hF;obtain ⟨rfl,rfl,rfl,rfl,rfl,rfl,rfl,rfl,rfl,rfl,rfl,rfl,rfl,rfl,rfl,rfl⟩:=hF;obtain ⟨hb0,hb1,hb2,hb3,hb4,hb5,hb6,hb7,hb8,hb9,hb10,hb11,hb12,hb13,hb14,hbf⟩:=cells15 HD.out.bz
      go_wp2
      refine bodyPost_ret (results_ct rfl _ _ gz 37 #[.int .i64 0,.int .i64 0,.int .i64 0,.int .i64 0,.int .i64 0,.int .i64 0,.bool false,.string (⟨#[]⟩:ByteArray),.string (⟨#[]⟩:ByteArray),.bool false,.string (⟨#[]⟩:ByteArray),.string (⟨#[]⟩:ByteArray),.slice none 0 0,.slice none 0 0,.slice none 0 0] (0,0) _ rfl (by refine za9 (cs:=#[.int .i64 0,.int .i64 0,.int .i64 0,.int .i64 0,.int .i64 0,.int .i64 0,.bool false,.string (⟨#[]⟩:ByteArray),.string (⟨#[]⟩:ByteArray),.bool false,.string (⟨#[]⟩:ByteArray),.string (⟨#[]⟩:ByteArray),.slice none 0 0,.slice none 0 0,.slice none 0 0]) ?_ 14 _ rfl;refine za9 (cs:=#[.int .i64 0,.int .i64 0,.int .i64 0,.int .i64 0,.int .i64 0,.int .i64 0,.bool false,.string (⟨#[]⟩:ByteArray),.string (⟨#[]⟩:ByteArray),.bool false,.string (⟨#[]⟩:ByteArray),.string (⟨#[]⟩:ByteArray),.slice none 0 0,.slice none 0 0,.slice none 0 0]) ?_ 13 _ rfl;refine za9 (cs:=#[.int .i64 0,.int .i64 0,.int .i64 0,.int .i64 0,.int .i64 0,.int .i64 0,.bool false,.string (⟨#[]⟩:ByteArray),.string (⟨#[]⟩:ByteArray),.bool false,.string (⟨#[]⟩:ByteArray),.string (⟨#[]⟩:ByteArray),.slice none 0 0,.slice none 0 0,.slice none 0 0]) ?_ 12 _ rfl;refine za9 (cs:=#[.int .i64 0,.int .i64 0,.int .i64 0,.int .i64 0,.int .i64 0,.int .i64 0,.bool false,.string (⟨#[]⟩:ByteArray),.string (⟨#[]⟩:ByteArray),.bool false,.string (⟨#[]⟩:ByteArray),.string (⟨#[]⟩:ByteArray),.slice none 0 0,.slice none 0 0,.slice none 0 0]) ?_ 11 _ rfl;refine za9 (cs:=#[.int .i64 0,.int .i64 0,.int .i64 0,.int .i64 0,.int .i64 0,.int .i64 0,.bool false,.string (⟨#[]⟩:ByteArray),.string (⟨#[]⟩:ByteArray),.bool false,.string (⟨#[]⟩:ByteArray),.string (⟨#[]⟩:ByteArray),.slice none 0 0,.slice none 0 0,.slice none 0 0]) ?_ 10 _ rfl;refine za9 (cs:=#[.int .i64 0,.int .i64 0,.int .i64 0,.int .i64 0,.int .i64 0,.int .i64 0,.bool false,.string (⟨#[]⟩:ByteArray),.string (⟨#[]⟩:ByteArray),.bool false,.string (⟨#[]⟩:ByteArray),.string (⟨#[]⟩:ByteArray),.slice none 0 0,.slice none 0 0,.slice none 0 0]) ?_ 9 _ rfl;refine za9 (cs:=#[.int .i64 0,.int .i64 0,.int .i64 0,.int .i64 0,.int .i64 0,.int .i64 0,.bool false,.string (⟨#[]⟩:ByteArray),.string (⟨#[]⟩:ByteArray),.bool false,.string (⟨#[]⟩:ByteArray),.string (⟨#[]⟩:ByteArray),.slice none 0 0,.slice none 0 0,.slice none 0 0]) ?_ 8 _ rfl;refine za9 (cs:=#[.int .i64 0,.int .i64 0,.int .i64 0,.int .i64 0,.int .i64 0,.int .i64 0,.bool false,.string (⟨#[]⟩:ByteArray),.string (⟨#[]⟩:ByteArray),.bool false,.string (⟨#[]⟩:ByteArray),.string (⟨#[]⟩:ByteArray),.slice none 0 0,.slice none 0 0,.slice none 0 0]) ?_ 7 _ rfl;refine za9 (cs:=#[.int .i64 0,.int .i64 0,.int .i64 0,.int .i64 0,.int .i64 0,.int .i64 0,.bool false,.string (⟨#[]⟩:ByteArray),.string (⟨#[]⟩:ByteArray),.bool false,.string (⟨#[]⟩:ByteArray),.string (⟨#[]⟩:ByteArray),.slice none 0 0,.slice none 0 0,.slice none 0 0]) ?_ 6 _ rfl;refine za9 (cs:=#[.int .i64 0,.int .i64 0,.int .i64 0,.int .i64 0,.int .i64 0,.int .i64 0,.bool false,.string (⟨#[]⟩:ByteArray),.string (⟨#[]⟩:ByteArray),.bool false,.string (⟨#[]⟩:ByteArray),.string (⟨#[]⟩:ByteArray),.slice none 0 0,.slice none 0 0,.slice none 0 0]) ?_ 5 _ rfl;refine za9 (cs:=#[.int .i64 0,.int .i64 0,.int .i64 0,.int .i64 0,.int .i64 0,.int .i64 0,.bool false,.string (⟨#[]⟩:ByteArray),.string (⟨#[]⟩:ByteArray),.bool false,.string (⟨#[]⟩:ByteArray),.string (⟨#[]⟩:ByteArray),.slice none 0 0,.slice none 0 0,.slice none 0 0]) ?_ 4 _ rfl;refine za9 (cs:=#[.int .i64 0,.int .i64 0,.int .i64 0,.int .i64 0,.int .i64 0,.int .i64 0,.bool false,.string (⟨#[]⟩:ByteArray),.string (⟨#[]⟩:ByteArray),.bool false,.string (⟨#[]⟩:ByteArray),.string (⟨#[]⟩:ByteArray),.slice none 0 0,.slice none 0 0,.slice none 0 0]) ?_ 3 _ rfl;refine za9 (cs:=#[.int .i64 0,.int .i64 0,.int .i64 0,.int .i64 0,.int .i64 0,.int .i64 0,.bool false,.string (⟨#[]⟩:ByteArray),.string (⟨#[]⟩:ByteArray),.bool false,.string (⟨#[]⟩:ByteArray),.string (⟨#[]⟩:ByteArray),.slice none 0 0,.slice none 0 0,.slice none 0 0]) ?_ 2 _ rfl;refine za9 (cs:=#[.int .i64 0,.int .i64 0,.int .i64 0,.int .i64 0,.int .i64 0,.int .i64 0,.bool false,.string (⟨#[]⟩:ByteArray),.string (⟨#[]⟩:ByteArray),.bool false,.string (⟨#[]⟩:ByteArray),.string (⟨#[]⟩:ByteArray),.slice none 0 0,.slice none 0 0,.slice none 0 0]) ?_ 1 _ rfl;refine za9 (cs:=#[.int .i64 0,.int .i64 0,.int .i64 0,.int .i64 0,.int .i64 0,.int .i64 0,.bool false,.string (⟨#[]⟩:ByteArray),.string (⟨#[]⟩:ByteArray),.bool false,.string (⟨#[]⟩:ByteArray),.string (⟨#[]⟩:ByteArray),.slice none 0 0,.slice none 0 0,.slice none 0 0]) ?_ 0 _ rfl;exact HD.out.bz) Tryd.underlying37 rfl (by kernel_rfl)) rfl ?_;exact ⟨_,_,_,rfl,Kd.zd8 _ _ _ _ _,Kd.zd8 _ _ _ _ _,Kd.zd8 _ _ _ _ _,by repeat (first|(with_reducible exact HD.out.hb)|refine zak ?_ HD.out.gz)⟩
     ·have hz1:=decide_eq_false hz
      have hz2:decide (0<sx.size)=false:=decide_eq_false (by omega);rw [if_neg hz] at hF;obtain ⟨⟨again,ok⟩,ee,hF1⟩:=Option.bind_eq_some_iff.1 hF;have EE:=za1.mk ee;have HF1:=za1.mk hF1;clear ee hF hF1 HF;obtain ⟨AP,cP,rfl⟩:=Kd.zbn HD.out.rp;obtain ⟨ha0,ha1,ha2,ha3,ha4,ha5,ha6,ha7,ha8,ha9,ha10,ha11,ha12,ha13,ha14,haf⟩:=cells15 HD.out.bq
      go_upto_region 13 with (go_at_call 25;(with_reducible refine (zce.calls k n1 n2 n3 n4 n5 n6 n7 s8 s9 n10 s11 s12 AL cL legs AO cO opts AP cP o again ok wr (Kd.R_reads' HD.out.rl).2.2 (Kd.R_reads' HD.out.rl).2.1 (Kd.R_reads' HD.out.ro).2.2 (Kd.R_reads' HD.out.ro).2.1 (Kd.R_reads' HD.out.rp).2.2 (Kd.R_reads' HD.out.rp).2.1 EE.out).mono ?_);rintro e w20 ⟨ve,rfl,hre,hbe⟩;have HD20:=am (HD.out.below hbe);have HRE:=za1.mk hre;obtain ⟨AE,cE,rfl⟩:=Kd.zbn hre;clear hre hbe)
      clear ha0 ha1 ha2 ha3 ha4 ha5 ha6 ha7 ha8 ha9 ha10 ha11 ha12 ha13 ha14 haf hc0_ hc1_ hf0_ hf1_ hC;obtain ⟨hb0,hb1,hb2,hb3,hb4,hb5,hb6,hb7,hb8,hb9,hb10,hb11,hb12,hb13,hb14,hbf⟩:=cells15 HD20.out.bz;have hF:=HF1.out;replace hF:=hF
      cases ok with
      | false=>
       rw [if_neg (by decide)] at hF;simp only [zb8.Z,Option.some.injEq,Prod.mk.injEq] at hF;obtain ⟨rfl,rfl,rfl,rfl,rfl,rfl,rfl,rfl,rfl,rfl,rfl,rfl,rfl,rfl,rfl,rfl⟩:=hF
       go_wp2
       refine bodyPost_ret (results_ct rfl _ _ gz 37 #[.int .i64 0,.int .i64 0,.int .i64 0,.int .i64 0,.int .i64 0,.int .i64 0,.bool false,.string (⟨#[]⟩:ByteArray),.string (⟨#[]⟩:ByteArray),.bool false,.string (⟨#[]⟩:ByteArray),.string (⟨#[]⟩:ByteArray),.slice none 0 0,.slice none 0 0,.slice none 0 0] (0,0) _ rfl (by refine za9 (cs:=#[.int .i64 0,.int .i64 0,.int .i64 0,.int .i64 0,.int .i64 0,.int .i64 0,.bool false,.string (⟨#[]⟩:ByteArray),.string (⟨#[]⟩:ByteArray),.bool false,.string (⟨#[]⟩:ByteArray),.string (⟨#[]⟩:ByteArray),.slice none 0 0,.slice none 0 0,.slice none 0 0]) ?_ 14 _ rfl;refine za9 (cs:=#[.int .i64 0,.int .i64 0,.int .i64 0,.int .i64 0,.int .i64 0,.int .i64 0,.bool false,.string (⟨#[]⟩:ByteArray),.string (⟨#[]⟩:ByteArray),.bool false,.string (⟨#[]⟩:ByteArray),.string (⟨#[]⟩:ByteArray),.slice none 0 0,.slice none 0 0,.slice none 0 0]) ?_ 13 _ rfl;refine za9 (cs:=#[.int .i64 0,.int .i64 0,.int .i64 0,.int .i64 0,.int .i64 0,.int .i64 0,.bool false,.string (⟨#[]⟩:ByteArray),.string (⟨#[]⟩:ByteArray),.bool false,.string (⟨#[]⟩:ByteArray),.string (⟨#[]⟩:ByteArray),.slice none 0 0,.slice none 0 0,.slice none 0 0]) ?_ 12 _ rfl;refine za9 (cs:=#[.int .i64 0,.int .i64 0,.int .i64 0,.int .i64 0,.int .i64 0,.int .i64 0,.bool false,.string (⟨#[]⟩:ByteArray),.string (⟨#[]⟩:ByteArray),.bool false,.string (⟨#[]⟩:ByteArray),.string (⟨#[]⟩:ByteArray),.slice none 0 0,.slice none 0 0,.slice none 0 0]) ?_ 11 _ rfl;refine za9 (cs:=#[.int .i64 0,.int .i64 0,.int .i64 0,.int .i64 0,.int .i64 0,.int .i64 0,.bool false,.string (⟨#[]⟩:ByteArray),.string (⟨#[]⟩:ByteArray),.bool false,.string (⟨#[]⟩:ByteArray),.string (⟨#[]⟩:ByteArray),.slice none 0 0,.slice none 0 0,.slice none 0 0]) ?_ 10 _ rfl;refine za9 (cs:=#[.int .i64 0,.int .i64 0,.int .i64 0,.int .i64 0,.int .i64 0,.int .i64 0,.bool false,.string (⟨#[]⟩:ByteArray),.string (⟨#[]⟩:ByteArray),.bool false,.string (⟨#[]⟩:ByteArray),.string (⟨#[]⟩:ByteArray),.slice none 0 0,.slice none 0 0,.slice none 0 0]) ?_ 9 _ rfl;refine za9 (cs:=#[.int .i64 0,.int .i64 0,.int .i64 0,.int .i64 0,.int .i64 0,.int .i64 0,.bool false,.string (⟨#[]⟩:ByteArray),.string (⟨#[]⟩:ByteArray),.bool false,.string (⟨#[]⟩:ByteArray),.string (⟨#[]⟩:ByteArray),.slice none 0 0,.slice none 0 0,.slice none 0 0]) ?_ 8 _ rfl;refine za9 (cs:=#[.int .i64 0,.int .i64 0,.int .i64 0,.int .i64 0,.int .i64 0,.int .i64 0,.bool false,.string (⟨#[]⟩:ByteArray),.string (⟨#[]⟩:ByteArray),.bool false,.string (⟨#[]⟩:ByteArray),.string (⟨#[]⟩:ByteArray),.slice none 0 0,.slice none 0 0,.slice none 0 0]) ?_ 7 _ rfl;refine za9 (cs:=#[.int .i64 0,.int .i64 0,.int .i64 0,.int .i64 0,.int .i64 0,.int .i64 0,.bool false,.string (⟨#[]⟩:ByteArray),.string (⟨#[]⟩:ByteArray),.bool false,.string (⟨#[]⟩:ByteArray),.string (⟨#[]⟩:ByteArray),.slice none 0 0,.slice none 0 0,.slice none 0 0]) ?_ 6 _ rfl;refine za9 (cs:=#[.int .i64 0,.int .i64 0,.int .i64 0,.int .i64 0,.int .i64 0,.int .i64 0,.bool false,.string (⟨#[]⟩:ByteArray),.string (⟨#[]⟩:ByteArray),.bool false,.string (⟨#[]⟩:ByteArray),.string (⟨#[]⟩:ByteArray),.slice none 0 0,.slice none 0 0,.slice none 0 0]) ?_ 5 _ rfl;refine za9 (cs:=#[.int .i64 0,.int .i64 0,.int .i64 0,.int .i64 0,.int .i64 0,.int .i64 0,.bool false,.string (⟨#[]⟩:ByteArray),.string (⟨#[]⟩:ByteArray),.bool false,.string (⟨#[]⟩:ByteArray),.string (⟨#[]⟩:ByteArray),.slice none 0 0,.slice none 0 0,.slice none 0 0]) ?_ 4 _ rfl;refine za9 (cs:=#[.int .i64 0,.int .i64 0,.int .i64 0,.int .i64 0,.int .i64 0,.int .i64 0,.bool false,.string (⟨#[]⟩:ByteArray),.string (⟨#[]⟩:ByteArray),.bool false,.string (⟨#[]⟩:ByteArray),.string (⟨#[]⟩:ByteArray),.slice none 0 0,.slice none 0 0,.slice none 0 0]) ?_ 3 _ rfl;refine za9 (cs:=#[.int .i64 0,.int .i64 0,.int .i64 0,.int .i64 0,.int .i64 0,.int .i64 0,.bool false,.string (⟨#[]⟩:ByteArray),.string (⟨#[]⟩:ByteArray),.bool false,.string (⟨#[]⟩:ByteArray),.string (⟨#[]⟩:ByteArray),.slice none 0 0,.slice none 0 0,.slice none 0 0]) ?_ 2 _ rfl;refine za9 (cs:=#[.int .i64 0,.int .i64 0,.int .i64 0,.int .i64 0,.int .i64 0,.int .i64 0,.bool false,.string (⟨#[]⟩:ByteArray),.string (⟨#[]⟩:ByteArray),.bool false,.string (⟨#[]⟩:ByteArray),.string (⟨#[]⟩:ByteArray),.slice none 0 0,.slice none 0 0,.slice none 0 0]) ?_ 1 _ rfl;refine za9 (cs:=#[.int .i64 0,.int .i64 0,.int .i64 0,.int .i64 0,.int .i64 0,.int .i64 0,.bool false,.string (⟨#[]⟩:ByteArray),.string (⟨#[]⟩:ByteArray),.bool false,.string (⟨#[]⟩:ByteArray),.string (⟨#[]⟩:ByteArray),.slice none 0 0,.slice none 0 0,.slice none 0 0]) ?_ 0 _ rfl;exact HD20.out.bz) Tryd.underlying37 rfl (by kernel_rfl)) rfl ?_;exact ⟨_,_,_,rfl,Kd.zd8 _ _ _ _ _,Kd.zd8 _ _ _ _ _,Kd.zd8 _ _ _ _ _,by repeat (first|(with_reducible exact HD20.out.hb)|refine zak ?_ HD20.out.gz)⟩
      | true=>
       rw [if_pos rfl] at hF;have hcv1:=zcn (P:=Tryd.prog) Tryd.underlying22 Tryd.underlying5 Tryd.underlying9 (Kd.zcr HRE.out);have hcv2:=Kd.C_string (P:=Tryd.prog) (src:=22) (dst:=9) (c:=c0) Tryd.underlying22 Tryd.underlying5 Tryd.underlying9 (Kd.zc6 HR.out HD20.out.hb)
       by_cases hq:(strOfNums again).toList=(strOfNums (bytesOf s)).toList
       ·have hq1:((strOfNums again).toList == (strOfNums (bytesOf s)).toList)=true:=beq_iff_eq.mpr hq
        have hq2:((strOfNums again).toList != (strOfNums (bytesOf s)).toList)=false:=bne_eq_false_iff_eq.mpr hq;rw [if_pos hq] at hF;clear hq;simp only [Option.some.injEq,Prod.mk.injEq] at hF;obtain ⟨rfl,rfl,rfl,rfl,rfl,rfl,rfl,rfl,rfl,rfl,rfl,rfl,rfl,rfl,rfl,rfl⟩:=hF;obtain ⟨ha0,ha1,ha2,ha3,ha4,ha5,ha6,ha7,ha8,ha9,ha10,ha11,ha12,ha13,ha14,haf⟩:=cells15 HD20.out.bq;have hne1:=HD20.out.ne;have hne2:=HD20.out.ne.symm
        go_wp2
        refine bodyPost_ret (results_ct rfl _ _ gz 37 #[.int .i64 n1,.int .i64 n2,.int .i64 n3,.int .i64 n4,.int .i64 n5,.int .i64 n6,.bool n7,.string s8,.string s9,.bool n10,.string s11,.string s12,.slice AL legs.length cL,.slice AO opts.length cO,.slice AP o.length cP] (0,0) _ rfl (by refine za9 (cs:=#[.int .i64 n1,.int .i64 n2,.int .i64 n3,.int .i64 n4,.int .i64 n5,.int .i64 n6,.bool n7,.string s8,.string s9,.bool n10,.string s11,.string s12,.slice AL legs.length cL,.slice AO opts.length cO,.slice none 0 0]) ?_ 14 _ rfl;refine za9 (cs:=#[.int .i64 n1,.int .i64 n2,.int .i64 n3,.int .i64 n4,.int .i64 n5,.int .i64 n6,.bool n7,.string s8,.string s9,.bool n10,.string s11,.string s12,.slice AL legs.length cL,.slice none 0 0,.slice none 0 0]) ?_ 13 _ rfl;refine za9 (cs:=#[.int .i64 n1,.int .i64 n2,.int .i64 n3,.int .i64 n4,.int .i64 n5,.int .i64 n6,.bool n7,.string s8,.string s9,.bool n10,.string s11,.string s12,.slice none 0 0,.slice none 0 0,.slice none 0 0]) ?_ 12 _ rfl;refine za9 (cs:=#[.int .i64 n1,.int .i64 n2,.int .i64 n3,.int .i64 n4,.int .i64 n5,.int .i64 n6,.bool n7,.string s8,.string s9,.bool n10,.string s11,.string (⟨#[]⟩:ByteArray),.slice none 0 0,.slice none 0 0,.slice none 0 0]) ?_ 11 _ rfl;refine za9 (cs:=#[.int .i64 n1,.int .i64 n2,.int .i64 n3,.int .i64 n4,.int .i64 n5,.int .i64 n6,.bool n7,.string s8,.string s9,.bool n10,.string (⟨#[]⟩:ByteArray),.string (⟨#[]⟩:ByteArray),.slice none 0 0,.slice none 0 0,.slice none 0 0]) ?_ 10 _ rfl;refine za9 (cs:=#[.int .i64 n1,.int .i64 n2,.int .i64 n3,.int .i64 n4,.int .i64 n5,.int .i64 n6,.bool n7,.string s8,.string s9,.bool false,.string (⟨#[]⟩:ByteArray),.string (⟨#[]⟩:ByteArray),.slice none 0 0,.slice none 0 0,.slice none 0 0]) ?_ 9 _ rfl;refine za9 (cs:=#[.int .i64 n1,.int .i64 n2,.int .i64 n3,.int .i64 n4,.int .i64 n5,.int .i64 n6,.bool n7,.string s8,.string (⟨#[]⟩:ByteArray),.bool false,.string (⟨#[]⟩:ByteArray),.string (⟨#[]⟩:ByteArray),.slice none 0 0,.slice none 0 0,.slice none 0 0]) ?_ 8 _ rfl;refine za9 (cs:=#[.int .i64 n1,.int .i64 n2,.int .i64 n3,.int .i64 n4,.int .i64 n5,.int .i64 n6,.bool n7,.string (⟨#[]⟩:ByteArray),.string (⟨#[]⟩:ByteArray),.bool false,.string (⟨#[]⟩:ByteArray),.string (⟨#[]⟩:ByteArray),.slice none 0 0,.slice none 0 0,.slice none 0 0]) ?_ 7 _ rfl;refine za9 (cs:=#[.int .i64 n1,.int .i64 n2,.int .i64 n3,.int .i64 n4,.int .i64 n5,.int .i64 n6,.bool false,.string (⟨#[]⟩:ByteArray),.string (⟨#[]⟩:ByteArray),.bool false,.string (⟨#[]⟩:ByteArray),.string (⟨#[]⟩:ByteArray),.slice none 0 0,.slice none 0 0,.slice none 0 0]) ?_ 6 _ rfl;refine za9 (cs:=#[.int .i64 n1,.int .i64 n2,.int .i64 n3,.int .i64 n4,.int .i64 n5,.int .i64 0,.bool false,.string (⟨#[]⟩:ByteArray),.string (⟨#[]⟩:ByteArray),.bool false,.string (⟨#[]⟩:ByteArray),.string (⟨#[]⟩:ByteArray),.slice none 0 0,.slice none 0 0,.slice none 0 0]) ?_ 5 _ rfl;refine za9 (cs:=#[.int .i64 n1,.int .i64 n2,.int .i64 n3,.int .i64 n4,.int .i64 0,.int .i64 0,.bool false,.string (⟨#[]⟩:ByteArray),.string (⟨#[]⟩:ByteArray),.bool false,.string (⟨#[]⟩:ByteArray),.string (⟨#[]⟩:ByteArray),.slice none 0 0,.slice none 0 0,.slice none 0 0]) ?_ 4 _ rfl;refine za9 (cs:=#[.int .i64 n1,.int .i64 n2,.int .i64 n3,.int .i64 0,.int .i64 0,.int .i64 0,.bool false,.string (⟨#[]⟩:ByteArray),.string (⟨#[]⟩:ByteArray),.bool false,.string (⟨#[]⟩:ByteArray),.string (⟨#[]⟩:ByteArray),.slice none 0 0,.slice none 0 0,.slice none 0 0]) ?_ 3 _ rfl;refine za9 (cs:=#[.int .i64 n1,.int .i64 n2,.int .i64 0,.int .i64 0,.int .i64 0,.int .i64 0,.bool false,.string (⟨#[]⟩:ByteArray),.string (⟨#[]⟩:ByteArray),.bool false,.string (⟨#[]⟩:ByteArray),.string (⟨#[]⟩:ByteArray),.slice none 0 0,.slice none 0 0,.slice none 0 0]) ?_ 2 _ rfl;refine za9 (cs:=#[.int .i64 n1,.int .i64 0,.int .i64 0,.int .i64 0,.int .i64 0,.int .i64 0,.bool false,.string (⟨#[]⟩:ByteArray),.string (⟨#[]⟩:ByteArray),.bool false,.string (⟨#[]⟩:ByteArray),.string (⟨#[]⟩:ByteArray),.slice none 0 0,.slice none 0 0,.slice none 0 0]) ?_ 1 _ rfl;refine za9 (cs:=#[.int .i64 0,.int .i64 0,.int .i64 0,.int .i64 0,.int .i64 0,.int .i64 0,.bool false,.string (⟨#[]⟩:ByteArray),.string (⟨#[]⟩:ByteArray),.bool false,.string (⟨#[]⟩:ByteArray),.string (⟨#[]⟩:ByteArray),.slice none 0 0,.slice none 0 0,.slice none 0 0]) ?_ 0 _ rfl;exact HD20.out.bz) Tryd.underlying37 rfl (by kernel_rfl)) rfl ?_;exact ⟨_,_,_,rfl,(HD20.out.out (by repeat (first|(with_reducible exact zb7.refl _ _ _)|refine zb7.set_ ?_ _ _))).1,(HD20.out.out (by repeat (first|(with_reducible exact zb7.refl _ _ _)|refine zb7.set_ ?_ _ _))).2.1,(HD20.out.out (by repeat (first|(with_reducible exact zb7.refl _ _ _)|refine zb7.set_ ?_ _ _))).2.2,by repeat (first|(with_reducible exact HD20.out.hb)|refine zak ?_ HD20.out.gz)⟩
       ·have hq1:((strOfNums again).toList == (strOfNums (bytesOf s)).toList)=false:=beq_eq_false_iff_ne.mpr hq
        have hq2:((strOfNums again).toList != (strOfNums (bytesOf s)).toList)=true:=bne_iff_ne.mpr hq;rw [if_neg hq] at hF;clear hq;simp only [zb8.Z,Option.some.injEq,Prod.mk.injEq] at hF;obtain ⟨rfl,rfl,rfl,rfl,rfl,rfl,rfl,rfl,rfl,rfl,rfl,rfl,rfl,rfl,rfl,rfl⟩:=hF
        go_wp2
        refine bodyPost_ret (results_ct rfl _ _ gz 37 #[.int .i64 0,.int .i64 0,.int .i64 0,.int .i64 0,.int .i64 0,.int .i64 0,.bool false,.string (⟨#[]⟩:ByteArray),.string (⟨#[]⟩:ByteArray),.bool false,.string (⟨#[]⟩:ByteArray),.string (⟨#[]⟩:ByteArray),.slice none 0 0,.slice none 0 0,.slice none 0 0] (0,0) _ rfl (by refine za9 (cs:=#[.int .i64 0,.int .i64 0,.int .i64 0,.int .i64 0,.int .i64 0,.int .i64 0,.bool false,.string (⟨#[]⟩:ByteArray),.string (⟨#[]⟩:ByteArray),.bool false,.string (⟨#[]⟩:ByteArray),.string (⟨#[]⟩:ByteArray),.slice none 0 0,.slice none 0 0,.slice none 0 0]) ?_ 14 _ rfl;refine za9 (cs:=#[.int .i64 0,.int .i64 0,.int .i64 0,.int .i64 0,.int .i64 0,.int .i64 0,.bool false,.string (⟨#[]⟩:ByteArray),.string (⟨#[]⟩:ByteArray),.bool false,.string (⟨#[]⟩:ByteArray),.string (⟨#[]⟩:ByteArray),.slice none 0 0,.slice none 0 0,.slice none 0 0]) ?_ 13 _ rfl;refine za9 (cs:=#[.int .i64 0,.int .i64 0,.int .i64 0,.int .i64 0,.int .i64 0,.int .i64 0,.bool false,.string (⟨#[]⟩:ByteArray),.string (⟨#[]⟩:ByteArray),.bool false,.string (⟨#[]⟩:ByteArray),.string (⟨#[]⟩:ByteArray),.slice none 0 0,.slice none 0 0,.slice none 0 0]) ?_ 12 _ rfl;refine za9 (cs:=#[.int .i64 0,.int .i64 0,.int .i64 0,.int .i64 0,.int .i64 0,.int .i64 0,.bool false,.string (⟨#[]⟩:ByteArray),.string (⟨#[]⟩:ByteArray),.bool false,.string (⟨#[]⟩:ByteArray),.string (⟨#[]⟩:ByteArray),.slice none 0 0,.slice none 0 0,.slice none 0 0]) ?_ 11 _ rfl;refine za9 (cs:=#[.int .i64 0,.int .i64 0,.int .i64 0,.int .i64 0,.int .i64 0,.int .i64 0,.bool false,.string (⟨#[]⟩:ByteArray),.string (⟨#[]⟩:ByteArray),.bool false,.string (⟨#[]⟩:ByteArray),.string (⟨#[]⟩:ByteArray),.slice none 0 0,.slice none 0 0,.slice none 0 0]) ?_ 10 _ rfl;refine za9 (cs:=#[.int .i64 0,.int .i64 0,.int .i64 0,.int .i64 0,.int .i64 0,.int .i64 0,.bool false,.string (⟨#[]⟩:ByteArray),.string (⟨#[]⟩:ByteArray),.bool false,.string (⟨#[]⟩:ByteArray),.string (⟨#[]⟩:ByteArray),.slice none 0 0,.slice none 0 0,.slice none 0 0]) ?_ 9 _ rfl;refine za9 (cs:=#[.int .i64 0,.int .i64 0,.int .i64 0,.int .i64 0,.int .i64 0,.int .i64 0,.bool false,.string (⟨#[]⟩:ByteArray),.string (⟨#[]⟩:ByteArray),.bool false,.string (⟨#[]⟩:ByteArray),.string (⟨#[]⟩:ByteArray),.slice none 0 0,.slice none 0 0,.slice none 0 0]) ?_ 8 _ rfl;refine za9 (cs:=#[.int .i64 0,.int .i64 0,.int .i64 0,.int .i64 0,.int .i64 0,.int .i64 0,.bool false,.string (⟨#[]⟩:ByteArray),.string (⟨#[]⟩:ByteArray),.bool false,.string (⟨#[]⟩:ByteArray),.string (⟨#[]⟩:ByteArray),.slice none 0 0,.slice none 0 0,.slice none 0 0]) ?_ 7 _ rfl;refine za9 (cs:=#[.int .i64 0,.int .i64 0,.int .i64 0,.int .i64 0,.int .i64 0,.int .i64 0,.bool false,.string (⟨#[]⟩:ByteArray),.string (⟨#[]⟩:ByteArray),.bool false,.string (⟨#[]⟩:ByteArray),.string (⟨#[]⟩:ByteArray),.slice none 0 0,.slice none 0 0,.slice none 0 0]) ?_ 6 _ rfl;refine za9 (cs:=#[.int .i64 0,.int .i64 0,.int .i64 0,.int .i64 0,.int .i64 0,.int .i64 0,.bool false,.string (⟨#[]⟩:ByteArray),.string (⟨#[]⟩:ByteArray),.bool false,.string (⟨#[]⟩:ByteArray),.string (⟨#[]⟩:ByteArray),.slice none 0 0,.slice none 0 0,.slice none 0 0]) ?_ 5 _ rfl;refine za9 (cs:=#[.int .i64 0,.int .i64 0,.int .i64 0,.int .i64 0,.int .i64 0,.int .i64 0,.bool false,.string (⟨#[]⟩:ByteArray),.string (⟨#[]⟩:ByteArray),.bool false,.string (⟨#[]⟩:ByteArray),.string (⟨#[]⟩:ByteArray),.slice none 0 0,.slice none 0 0,.slice none 0 0]) ?_ 4 _ rfl;refine za9 (cs:=#[.int .i64 0,.int .i64 0,.int .i64 0,.int .i64 0,.int .i64 0,.int .i64 0,.bool false,.string (⟨#[]⟩:ByteArray),.string (⟨#[]⟩:ByteArray),.bool false,.string (⟨#[]⟩:ByteArray),.string (⟨#[]⟩:ByteArray),.slice none 0 0,.slice none 0 0,.slice none 0 0]) ?_ 3 _ rfl;refine za9 (cs:=#[.int .i64 0,.int .i64 0,.int .i64 0,.int .i64 0,.int .i64 0,.int .i64 0,.bool false,.string (⟨#[]⟩:ByteArray),.string (⟨#[]⟩:ByteArray),.bool false,.string (⟨#[]⟩:ByteArray),.string (⟨#[]⟩:ByteArray),.slice none 0 0,.slice none 0 0,.slice none 0 0]) ?_ 2 _ rfl;refine za9 (cs:=#[.int .i64 0,.int .i64 0,.int .i64 0,.int .i64 0,.int .i64 0,.int .i64 0,.bool false,.string (⟨#[]⟩:ByteArray),.string (⟨#[]⟩:ByteArray),.bool false,.string (⟨#[]⟩:ByteArray),.string (⟨#[]⟩:ByteArray),.slice none 0 0,.slice none 0 0,.slice none 0 0]) ?_ 1 _ rfl;refine za9 (cs:=#[.int .i64 0,.int .i64 0,.int .i64 0,.int .i64 0,.int .i64 0,.int .i64 0,.bool false,.string (⟨#[]⟩:ByteArray),.string (⟨#[]⟩:ByteArray),.bool false,.string (⟨#[]⟩:ByteArray),.string (⟨#[]⟩:ByteArray),.slice none 0 0,.slice none 0 0,.slice none 0 0]) ?_ 0 _ rfl;exact HD20.out.bz) Tryd.underlying37 rfl (by kernel_rfl)) rfl ?_;exact ⟨_,_,_,rfl,Kd.zd8 _ _ _ _ _,Kd.zd8 _ _ _ _ _,Kd.zd8 _ _ _ _ _,by repeat (first|(with_reducible exact HD20.out.hb)|refine zak ?_ HD20.out.gz)⟩
def zcb.f (k:Nat) (a0_0:Int) (a0_1:Int) (a0_2:Int) (a0_3:Int) (a0_4:Int) (a0_5:Int) (a0_6:Bool) (a0_7:ByteArray) (a0_8:ByteArray) (a0_9:Bool) (a0_10:ByteArray) (a0_11:ByteArray) (l0_12:List (S49)) (l0_13:List (S51)) (l0_14:List (S55)):Option (List Int×Int):=(zce.f k a0_0 a0_1 a0_2 a0_3 a0_4 a0_5 a0_6 a0_7 a0_8 a0_9 a0_10 a0_11 l0_12 l0_13 l0_14).bind fun bt231=>(if bt231.2=true then (some (bt231.1,0)) else (some (([]:List Int),1)))
theorem zcb.mono:∀ a0 a1 a2 a3 a4 a5 a6 a7 a8 a9 a10 a11 a12 a13 a14 k,LeO (zcb.f k a0 a1 a2 a3 a4 a5 a6 a7 a8 a9 a10 a11 a12 a13 a14) (zcb.f (k+1) a0 a1 a2 a3 a4 a5 a6 a7 a8 a9 a10 a11 a12 a13 a14):=by
 intro a0 a1 a2 a3 a4 a5 a6 a7 a8 a9 a10 a11 a12 a13 a14 k;unfold zcb.f
 repeat' first
  | (with_reducible exact zce.mono _ _ _ _ _ _ _ _ _ _ _ _ _ _ _ _)
  | (with_reducible exact LeO.refl _)
  | (with_reducible exact LeO.none _)
  | (with_reducible refine LeO.ite ?_ ?_)
  | (with_reducible refine LeO.bind ?_ (fun _=>?_))
  | exact zce.mono _ _ _ _ _ _ _ _ _ _ _ _ _ _ _ _
  | exact LeO.none _
  | refine LeO.ite ?_ ?_
  | refine LeO.bind ?_ (fun _=>?_)
set_option maxHeartbeats 8000000 in
set_option maxRecDepth 100000 in
theorem zcb.calls (k:Nat) (a0_0:Int) (a0_1:Int) (a0_2:Int) (a0_3:Int) (a0_4:Int) (a0_5:Int) (a0_6:Bool) (a0_7:ByteArray) (a0_8:ByteArray) (a0_9:Bool) (a0_10:ByteArray) (a0_11:ByteArray) (A0_12:Option Addr) (c0_12:Nat) (l0_12:List (S49)) (A0_13:Option Addr) (c0_13:Nat) (l0_13:List (S51)) (A0_14:Option Addr) (c0_14:Nat) (l0_14:List (S55)) (r1:List Int) (r2:Int) (w:World) (hr0_12:Kd.C k49 w A0_12 l0_12.length l0_12) (hc0_12:l0_12.length≤c0_12) (hr0_13:Kd.C k51 w A0_13 l0_13.length l0_13) (hc0_13:l0_13.length≤c0_13) (hr0_14:Kd.C k55 w A0_14 l0_14.length l0_14) (hc0_14:l0_14.length≤c0_14) (h:zcb.f k a0_0 a0_1 a0_2 a0_3 a0_4 a0_5 a0_6 a0_7 a0_8 a0_9 a0_10 a0_11 l0_12 l0_13 l0_14=some (r1,r2)) :
 Calls Tryd.prog 16 #[.agg #[.int .i64 a0_0,.int .i64 a0_1,.int .i64 a0_2,.int .i64 a0_3,.int .i64 a0_4,.int .i64 a0_5,.bool a0_6,.string a0_7,.string a0_8,.bool a0_9,.string a0_10,.string a0_11,.slice A0_12 l0_12.length c0_12,.slice A0_13 l0_13.length c0_13,.slice A0_14 l0_14.length c0_14]] w fun e w'=>∃ v0_:Value,e = .returned (.tuple #[v0_,.int .i64 r2])∧Kd.R (Kd.int .u8) 5 w' w.heap.size (fun _=>True) v0_ r1∧Below w.heap.size w w':=by
 have hu37:=Tryd.underlying37;have HR0_12:=za1.mk hr0_12;have HC0_12:=za1.mk hc0_12;clear hr0_12 hc0_12;have HR0_13:=za1.mk hr0_13;have HC0_13:=za1.mk hc0_13;clear hr0_13 hc0_13;have HR0_14:=za1.mk hr0_14;have HC0_14:=za1.mk hc0_14;clear hr0_14 hc0_14;have HB:=am (Below.refl w.heap.size w);have H:((zce.f k a0_0 a0_1 a0_2 a0_3 a0_4 a0_5 a0_6 a0_7 a0_8 a0_9 a0_10 a0_11 l0_12 l0_13 l0_14).bind fun bt231=>(if bt231.2=true then (some (bt231.1,0)) else (some (([]:List Int),1))))=some (r1,r2):=h;clear h;replace H:=Option.bind_eq_some_iff.mp H;obtain ⟨⟨t231,t234⟩,A20,H⟩:=H;replace H:(if t234=true then (some (t231,0)) else (some (([]:List Int),1)))=some (r1,r2):=H;have A2:=za1.mk A20;clear A20
 by_cases c3:t234=true
 ·subst c3
  have H1:(some (t231,0))=some (r1,r2):=by rw [if_pos rfl] at H;exact H
  clear H;have H:=H1;clear H1;simp only [Option.some.injEq,Prod.mk.injEq] at H;obtain ⟨rfl,rfl⟩:=H;go_enter Tryd.func16,Tryd.ntmps16
  go_wp2_with (first|((with_reducible refine zbr (N:=1) rfl ?_);refine zbq ?hg (N:=1) ?hd (cs:=#[.int .i64 a0_0,.int .i64 a0_1,.int .i64 a0_2,.int .i64 a0_3,.int .i64 a0_4,.int .i64 a0_5,.bool a0_6,.string a0_7,.string a0_8,.bool a0_9,.string a0_10,.string a0_11,.slice A0_12 l0_12.length c0_12,.slice A0_13 l0_13.length c0_13,.slice A0_14 l0_14.length c0_14]) (t:=37) ?hr ?_;(case hd=>rfl);(case hg=>rfl);(case hr=>first|(go_simp;done)|(go_simp;rfl));intro g_a hg w4 hbox hb;have B_a:=am (hbox);have W_a:=am ((q48:w.heap.size≤g_a));have E_a:=am ((q48:w.heap.size≤g_a));replace HB:=am (zab q2 hb);clear hb hbox hg;obtain ⟨c_a0,c_a1,c_a2,c_a3,c_a4,c_a5,c_a6,c_a7,c_a8,c_a9,c_a10,c_a11,c_a12,c_a13,c_a14⟩:=cs15 B_a.out;obtain ⟨f_a0,f_a1,f_a2,f_a3,f_a4,f_a5,f_a6,f_a7,f_a8,f_a9,f_a10,f_a11,f_a12,f_a13,f_a14⟩:=fs15 B_a.out)|((with_reducible refine zan (f:=25) rfl ?_);refine goesL_ (some 8) rfl rfl Tryd.func25 (by kernel_rfl) rfl #[.agg #[.int .i64 a0_0,.int .i64 a0_1,.int .i64 a0_2,.int .i64 a0_3,.int .i64 a0_4,.int .i64 a0_5,.bool a0_6,.string a0_7,.string a0_8,.bool a0_9,.string a0_10,.string a0_11,.slice A0_12 l0_12.length c0_12,.slice A0_13 l0_13.length c0_13,.slice A0_14 l0_14.length c0_14]] rfl q4 ?_;(with_reducible refine (zce.calls k a0_0 a0_1 a0_2 a0_3 a0_4 a0_5 a0_6 a0_7 a0_8 a0_9 a0_10 a0_11 _ _ l0_12 _ _ l0_13 _ _ l0_14 t231 true _ ?side1 ?side2 ?side3 ?side4 ?side5 ?side6 A2.out).mono ?_);(case side1=>repeat (first|exact (Kd.zc6 HR0_12.out HB.out)|(with_reducible refine Kd.zbv ?_ _)|(with_reducible refine Kd.zbw ?_ _)|(with_reducible refine Kd.zc8 ?_)));(case side2=>exact HC0_12.out);(case side3=>repeat (first|exact (Kd.zc6 HR0_13.out HB.out)|(with_reducible refine Kd.zbv ?_ _)|(with_reducible refine Kd.zbw ?_ _)|(with_reducible refine Kd.zc8 ?_)));(case side4=>exact HC0_13.out);(case side5=>repeat (first|exact (Kd.zc6 HR0_14.out HB.out)|(with_reducible refine Kd.zbv ?_ _)|(with_reducible refine Kd.zbw ?_ _)|(with_reducible refine Kd.zc8 ?_)));(case side6=>exact HC0_14.out);rintro e w6 ⟨v232,rfl,ho0,hb⟩;refine ⟨_,rfl,?_⟩;have HO233:=am (Kd.zc9 ho0 (zbb q3));replace B_a:=am (zaf q1 hb);replace HB:=am (zab q3 hb);(try clear hb);(try clear hb2);(try clear hk);(try clear hi);(try clear ho0)))
  go_ret2
  exact ⟨_,q8,by (with_reducible repeat (first|apply Kd.zb1|apply Kd.zb2|apply Kd.zb9));exact HO233.out,q3⟩
 ·replace c3:=Bool.eq_false_iff.mpr c3
  subst c3
  have H1:(some (([]:List Int),1))=some (r1,r2):=by rw [if_neg (show ¬ (false=true) by decide)] at H;exact H
  clear H;have H:=H1;clear H1;simp only [Option.some.injEq,Prod.mk.injEq] at H;obtain ⟨rfl,rfl⟩:=H;go_enter Tryd.func16,Tryd.ntmps16
  go_wp2_with (first|((with_reducible refine zbr (N:=1) rfl ?_);refine zbq ?hg (N:=1) ?hd (cs:=#[.int .i64 a0_0,.int .i64 a0_1,.int .i64 a0_2,.int .i64 a0_3,.int .i64 a0_4,.int .i64 a0_5,.bool a0_6,.string a0_7,.string a0_8,.bool a0_9,.string a0_10,.string a0_11,.slice A0_12 l0_12.length c0_12,.slice A0_13 l0_13.length c0_13,.slice A0_14 l0_14.length c0_14]) (t:=37) ?hr ?_;(case hd=>rfl);(case hg=>rfl);(case hr=>first|(go_simp;done)|(go_simp;rfl));intro g_a hg w7 hbox hb;have B_a:=am (hbox);have W_a:=am ((q48:w.heap.size≤g_a));have E_a:=am ((q48:w.heap.size≤g_a));replace HB:=am (zab q2 hb);clear hb hbox hg;obtain ⟨c_b0,c_b1,c_b2,c_b3,c_b4,c_b5,c_b6,c_b7,c_b8,c_b9,c_b10,c_b11,c_b12,c_b13,c_b14⟩:=cs15 B_a.out;obtain ⟨f_b0,f_b1,f_b2,f_b3,f_b4,f_b5,f_b6,f_b7,f_b8,f_b9,f_b10,f_b11,f_b12,f_b13,f_b14⟩:=fs15 B_a.out)|((with_reducible refine zan (f:=25) rfl ?_);refine goesL_ (some 8) rfl rfl Tryd.func25 (by kernel_rfl) rfl #[.agg #[.int .i64 a0_0,.int .i64 a0_1,.int .i64 a0_2,.int .i64 a0_3,.int .i64 a0_4,.int .i64 a0_5,.bool a0_6,.string a0_7,.string a0_8,.bool a0_9,.string a0_10,.string a0_11,.slice A0_12 l0_12.length c0_12,.slice A0_13 l0_13.length c0_13,.slice A0_14 l0_14.length c0_14]] rfl q4 ?_;(with_reducible refine (zce.calls k a0_0 a0_1 a0_2 a0_3 a0_4 a0_5 a0_6 a0_7 a0_8 a0_9 a0_10 a0_11 _ _ l0_12 _ _ l0_13 _ _ l0_14 t231 false _ ?side1 ?side2 ?side3 ?side4 ?side5 ?side6 A2.out).mono ?_);(case side1=>repeat (first|exact (Kd.zc6 HR0_12.out HB.out)|(with_reducible refine Kd.zbv ?_ _)|(with_reducible refine Kd.zbw ?_ _)|(with_reducible refine Kd.zc8 ?_)));(case side2=>exact HC0_12.out);(case side3=>repeat (first|exact (Kd.zc6 HR0_13.out HB.out)|(with_reducible refine Kd.zbv ?_ _)|(with_reducible refine Kd.zbw ?_ _)|(with_reducible refine Kd.zc8 ?_)));(case side4=>exact HC0_13.out);(case side5=>repeat (first|exact (Kd.zc6 HR0_14.out HB.out)|(with_reducible refine Kd.zbv ?_ _)|(with_reducible refine Kd.zbw ?_ _)|(with_reducible refine Kd.zc8 ?_)));(case side6=>exact HC0_14.out);rintro e w9 ⟨v232,rfl,ho0,hb⟩;refine ⟨_,rfl,?_⟩;have HO233:=am (Kd.zc9 ho0 (zbb q3));replace B_a:=am (zaf q1 hb);replace HB:=am (zab q3 hb);(try clear hb);(try clear hb2);(try clear hk);(try clear hi);(try clear ho0)))
  go_ret2
  exact ⟨_,q8,q26,q3⟩
def za8.l0:Nat→ByteArray→Int→Option (ByteArray)
 | 0,_,_=>none
 | k+1,x0,x3=>if x3<(x0.size:Int) then (if 0≤x3 then (if (bt x0 x3)=0 then (za8.l0 k x0 (wrap64 (x3+1))) else (if x3≤(x0.size:Int) then (some (x0.extract (x3:Int).toNat x0.size)) else (none))) else (none)) else (if 0≤x3 then (if x3≤(x0.size:Int) then (some (x0.extract (x3:Int).toNat x0.size)) else (none)) else (none))
def za8.f (k:Nat) (a0:ByteArray):Option (ByteArray):=za8.l0 k a0 0
theorem za8.mono_l:∀ k,(∀ y0 y1,LeO (za8.l0 k y0 y1) (za8.l0 (k+1) y0 y1))
 | 0=>fun _ _ r h=>by simp [za8.l0] at h
 | k+1=>by
  have ih0:=za8.mono_l k
  ·intro y0 y1
   unfold za8.l0
   repeat' first
   | (with_reducible exact ih0 _ _)
   | (with_reducible exact LeO.refl _)
   | (with_reducible exact LeO.none _)
   | (with_reducible refine LeO.ite ?_ ?_)
   | (with_reducible refine LeO.bind ?_ (fun _=>?_))
   | exact ih0 _ _
   | exact LeO.none _
   | refine LeO.ite ?_ ?_
   | refine LeO.bind ?_ (fun _=>?_)
theorem za8.mono:∀ a0 k,LeO (za8.f k a0) (za8.f (k+1) a0):=by
 intro a0 k;have ih0:=za8.mono_l k;unfold za8.f
 repeat' first
  | (with_reducible exact ih0 _ _)
  | (with_reducible exact LeO.refl _)
  | (with_reducible exact LeO.none _)
  | (with_reducible refine LeO.ite ?_ ?_)
  | (with_reducible refine LeO.bind ?_ (fun _=>?_))
  | exact ih0 _ _
  | exact LeO.none _
  | refine LeO.ite ?_ ?_
  | refine LeO.bind ?_ (fun _=>?_)
set_option maxHeartbeats 8000000 in
set_option maxRecDepth 100000 in
theorem za8.calls (k:Nat) (a0:ByteArray) (r:ByteArray) (w:World) (h:za8.f k a0=some r) :
 Calls Tryd.prog 49 #[.string a0] w fun e w'=>e = .returned (.string r)∧Drawn0 w w':=by
 have H:(za8.l0 k a0 0)=some r:=h;clear h;have H':=za1.mk H;clear H;go_enter Tryd.func49,Tryd.ntmps49
 go_wp2
 go_loopg [3] k (fun kq v3 w'=>∃ (x3_1:Int),v3 = .int .i64 x3_1∧za1 (za8.l0 kq a0 x3_1=some r)∧za1 (kq≤k)∧Drawn0 w w')
 case atStart=>exact ⟨(0),q5,H',⟨Nat.le_refl _⟩,q11⟩
 case round=>
  clear H';obtain ⟨x3_1,rfl,HA,HK1,⟨m1,rfl⟩⟩:=hrel
  cases gk with
  | zero=>exact absurd HA.out (by simp [za8.l0])
  | succ k1=>
   have H:=HA.out;clear HA;simp only [za8.l0] at H
   by_cases c2:x3_1<(a0.size:Int)
   ·rw [if_pos c2] at H
    have c2b0:decide (x3_1<(a0.size:Int))=true:=decide_eq_true c2;clear c2
    by_cases c3:0≤x3_1
    ·rw [if_pos c3] at H
     have c3b0:decide (0≤x3_1)=true:=decide_eq_true c3;clear c3
     by_cases c5:(bt a0 x3_1)=0
     ·rw [if_pos c5] at H
      have c5b0:((bt a0 x3_1) == 0)=true:=beq_iff_eq.mpr c5;have c5b1:((bt a0 x3_1) != 0)=false:=bne_eq_false_iff_eq.mpr c5;clear c5;have H':=za1.mk H;clear H;have p4:0≤(x3_1:Int):=of_decide_eq_true q0;have q4:x3_1<(a0.size:Int):=of_decide_eq_true q0;have hx4:=bt_at a0 x3_1;replace p4:=eq_true p4;replace q4:=eq_true q4
      go_wp2
      go_roundg k1
      case measure=>have:=HK1.out;omega
      case rel=>exact ⟨(wrap64 (x3_1+1)),q5,H',⟨q13⟩,q11⟩
     ·rw [if_neg c5] at H
      have c5b0:((bt a0 x3_1) == 0)=false:=beq_eq_false_iff_ne.mpr c5;have c5b1:((bt a0 x3_1) != 0)=true:=bne_iff_ne.mpr c5;have c6b0:=eq_true (of_decide_eq_true q0:0≤x3_1)
      by_cases c7:x3_1≤(a0.size:Int)
      ·rw [if_pos c7] at H
       have c7b0:=eq_true c7;have c7b1:decide (x3_1≤(a0.size:Int))=true:=decide_eq_true c7;clear c7;obtain rfl:=Option.some.inj H;have p4:0≤(x3_1:Int):=of_decide_eq_true q0;have q4:x3_1<(a0.size:Int):=of_decide_eq_true q0;have hx4:=bt_at a0 x3_1;replace p4:=eq_true p4;replace q4:=eq_true q4
       go_wp2
       go_ret;exact ⟨q5,q11⟩
      ·rw [if_neg c7] at H
       exact absurd H (by simp)
    ·rw [if_neg c3] at H
     exact absurd H (by simp)
   ·rw [if_neg c2] at H
    have c2b0:decide (x3_1<(a0.size:Int))=false:=decide_eq_false c2;clear c2
    by_cases c8:0≤x3_1
    ·rw [if_pos c8] at H
     have c8b0:=eq_true c8;have c8b1:decide (0≤x3_1)=true:=decide_eq_true c8;clear c8
     by_cases c9:x3_1≤(a0.size:Int)
     ·rw [if_pos c9] at H
      have c9b0:=eq_true c9;have c9b1:decide (x3_1≤(a0.size:Int))=true:=decide_eq_true c9;clear c9;obtain rfl:=Option.some.inj H
      go_wp2
      go_ret;exact ⟨q5,q11⟩
     ·rw [if_neg c9] at H
      exact absurd H (by simp)
    ·rw [if_neg c8] at H
     exact absurd H (by simp)
def zas.l0:Nat→List Int→Int→Option (List Int)
 | 0,_,_=>none
 | k+1,x0,x3=>if x3>0 then (if 0≤(wrap64 (x3-1)) then (if (wrap64 (x3-1))<(x0.length:Int) then (if (rd x0 (wrap64 (x3-1)))=0 then (zas.l0 k x0 (wrap64 (x3-1))) else (if 0≤x3 then (if x3≤(x0.length:Int) then (some (x0.take (x3:Int).toNat)) else (none)) else (none))) else (none)) else (none)) else (if 0≤x3 then (if x3≤(x0.length:Int) then (some (x0.take (x3:Int).toNat)) else (none)) else (none))
def zas.f (k:Nat) (l0:List Int):Option (List Int):=zas.l0 k l0 (l0.length:Int)
theorem zas.mono_l:∀ k,(∀ y0 y1,LeO (zas.l0 k y0 y1) (zas.l0 (k+1) y0 y1))
 | 0=>fun _ _ r h=>by simp [zas.l0] at h
 | k+1=>by
  have ih0:=zas.mono_l k
  ·intro y0 y1
   unfold zas.l0
   repeat' first
   | (with_reducible exact ih0 _ _)
   | (with_reducible exact LeO.refl _)
   | (with_reducible exact LeO.none _)
   | (with_reducible refine LeO.ite ?_ ?_)
   | (with_reducible refine LeO.bind ?_ (fun _=>?_))
   | exact ih0 _ _
   | exact LeO.none _
   | refine LeO.ite ?_ ?_
   | refine LeO.bind ?_ (fun _=>?_)
theorem zas.mono:∀ a0 k,LeO (zas.f k a0) (zas.f (k+1) a0):=by
 intro a0 k;have ih0:=zas.mono_l k;unfold zas.f
 repeat' first
  | (with_reducible exact ih0 _ _)
  | (with_reducible exact LeO.refl _)
  | (with_reducible exact LeO.none _)
  | (with_reducible refine LeO.ite ?_ ?_)
  | (with_reducible refine LeO.bind ?_ (fun _=>?_))
  | exact ih0 _ _
  | exact LeO.none _
  | refine LeO.ite ?_ ?_
  | refine LeO.bind ?_ (fun _=>?_)
theorem Kept.of_false {w W:World} {S:Nat→Prop} (h:Kept w W (fun _=>False)):Kept w W S:=⟨h.1,fun i hi _=>h.2 i hi (fun q=>q)⟩
set_option maxHeartbeats 8000000 in
set_option maxRecDepth 100000 in
theorem zas.callsF (k:Nat) (P0_:Nat→Prop) (u9000_:Value) (l0:List Int) (r:List Int) (w0 w:World) (hB:Below w0.heap.size w0 w) (ho0:Kd.R (Kd.int .u32) 25 w w0.heap.size P0_ u9000_ l0) (h:zas.f k l0=some r) :
 Calls Tryd.prog 66 #[u9000_] w fun e w'=>∃ v0_:Value,e = .returned (v0_)∧Kd.R (Kd.int .u32) 25 w' w0.heap.size (fun k_=>(P0_ k_∨w.heap.size≤k_)) v0_ r∧Below w0.heap.size w0 w'∧Kept w w' (fun _=>False):=by
 have HO0:=am (show Kd.R (Kd.int .u32) 25 w w0.heap.size (fun k_=>(P0_ k_∨w.heap.size≤k_)) u9000_ l0 from Kd.zbm ho0 (fun k_ hk=>(.inl hk)));have HK:=am (Kept.refl w (fun _=>False));have HW0:=za1.mk hB.size;have HB:=za1.mk hB;clear hB;have H:(zas.l0 k l0 (l0.length:Int))=some r:=h;clear h;have H':=za1.mk H;clear H;obtain ⟨Ao2,co2,eo2⟩:=Kd.zbn HO0.out;subst eo2;go_enter Tryd.func66,Tryd.ntmps66
 go_wp2
 go_loopg [3] k (fun kq v3 w'=>∃ (x3_1:Int),v3 = .int .i64 x3_1∧za1 (zas.l0 kq l0 x3_1=some r)∧za1 (kq≤k)∧za1 (Kd.R (Kd.int .u32) 25 w' w0.heap.size (fun k_=>(P0_ k_∨w.heap.size≤k_)) (.slice Ao2 l0.length co2) l0)∧za1 (Kept w w' (fun _=>False))∧za1 (Below w0.heap.size w0 w'))
 case atStart=>exact ⟨((l0.length:Int)),q5,H',⟨Nat.le_refl _⟩,⟨q21⟩,⟨q9⟩,⟨q2⟩⟩
 case round=>
  clear H';(try clear p2);obtain ⟨x3_1,rfl,HA,HK1,HO_0,HK,HB⟩:=hrel
  cases gk with
  | zero=>exact absurd HA.out (by simp [zas.l0])
  | succ k1=>
   have H:=HA.out;clear HA;simp only [zas.l0] at H
   by_cases c3:x3_1>0
   ·rw [if_pos c3] at H
    have c3b0:decide (0<x3_1)=true:=decide_eq_true c3;clear c3
    obtain ⟨ji4,hji4⟩:∃ j_:Int,(wrap64 (x3_1-1))=j_:=⟨_,rfl⟩
    replace H:(if 0≤(ji4) then (if (ji4)<(l0.length:Int) then (if (rd l0 (ji4))=0 then (zas.l0 k1 l0 ji4) else (if 0≤x3_1 then (if x3_1≤(l0.length:Int) then (some (l0.take (x3_1:Int).toNat)) else (none)) else (none))) else (none)) else (none))=some r:=by first|(rw [hji4] at H;exact H)|(simp only [hji4] at H ⊢;exact H)
    have hji4w:(IntKind.i64.wrap (x3_1-1))=ji4:=(i64_w _).trans hji4
    by_cases c5:0≤(ji4)
    ·rw [if_pos c5] at H
     have c5b0:decide (0≤(ji4))=true:=decide_eq_true c5;clear c5
     by_cases c6:(ji4)<(l0.length:Int)
     ·rw [if_pos c6] at H
      have c6b0:decide ((ji4)<(l0.length:Int))=true:=decide_eq_true c6;clear c6
      by_cases c7:(rd l0 (ji4))=0
      ·rw [if_pos c7] at H
       have c7b0:((rd l0 (ji4)) == 0)=true:=beq_iff_eq.mpr c7;have c7b1:((rd l0 (ji4)) != 0)=false:=bne_eq_false_iff_eq.mpr c7;clear c7;have H':=za1.mk H;clear H;have p369:0≤((ji4):Int):=of_decide_eq_true q0;have q369:(ji4)<(l0.length:Int):=of_decide_eq_true q0;obtain ⟨ad369,e369,hx369_0⟩:=Kd.at_int (Kd.R_reads' HO_0.out).2.2 (ji4) p369 q369;cases e369;replace p369:=eq_true p369;replace q369:=eq_true q369
       go_wp2
       go_roundg k1
       case measure=>have:=HK1.out;omega
       case rel=>exact ⟨(ji4),(by first|rfl|(simp;done)|(simp only [← hji4] <;> (first|rfl|simp))|(simp [*];done)),H',⟨q13⟩,⟨q36⟩,⟨q9⟩,⟨q2⟩⟩
      ·rw [if_neg c7] at H
       have c7b0:((rd l0 (ji4)) == 0)=false:=beq_eq_false_iff_ne.mpr c7;have c7b1:((rd l0 (ji4)) != 0)=true:=bne_iff_ne.mpr c7
       by_cases c8:0≤x3_1
       ·rw [if_pos c8] at H
        have c8b0:=eq_true c8;have c8b1:decide (0≤x3_1)=true:=decide_eq_true c8;clear c8
        by_cases c9:x3_1≤(l0.length:Int)
        ·rw [if_pos c9] at H
         have c9b0:=eq_true c9;have c9b1:decide (x3_1≤(l0.length:Int))=true:=decide_eq_true c9;clear c9
         obtain ⟨y370,hy370⟩:∃ y_:List Int,y_=(l0.take (x3_1:Int).toNat):=⟨_,rfl⟩
         replace H:(some y370)=some r:=by first|(rw [hy370];with_reducible exact H)|(have H2_:=(Option.bind_some _ _).symm.trans H;rw [hy370];with_reducible exact H2_)|(have H2_:=(Option.bind_some _ _).symm.trans H;with_reducible exact H2_)|with_reducible exact H|(rw [hy370];exact H)|exact H
         have Ny370:=za1.mk hy370;clear hy370;obtain rfl:=Option.some.inj H;have p369:0≤((ji4):Int):=of_decide_eq_true q0;have q369:(ji4)<(l0.length:Int):=of_decide_eq_true q0;obtain ⟨ad369,e369,hx369_0⟩:=Kd.at_int (Kd.R_reads' HO_0.out).2.2 (ji4) p369 q369;cases e369;replace p369:=eq_true p369;replace q369:=eq_true q369;have q10:(x3_1:Int)≤((l0.length:Int):Int):=of_decide_eq_true q0;obtain ⟨i010,hi010,_,hsz10,_⟩:=info_parts info25;have hcut10:=cut_to (P:=Tryd.prog) 116 25 .i64 Tryd.underlying116 hi010 (some ad369) l0.length co2 x3_1 (of_decide_eq_true q0) q10 (Kd.R_reads' HO_0.out).2.1;have hr10:=Kd.R_take (m:=(x3_1:Int).toNat) HO_0.out (by omega)
         have hy10:y370.length=(x3_1:Int).toNat:=(by rw [Ny370.out,List.length_take];omega)
         rw [← Ny370.out] at hr10;rw [← hy10] at hr10 hcut10;clear hy10 hi010 hsz10 HO_0;have HO372:=za1.mk hr10;clear hr10;replace q10:=eq_true q10
         go_wp2
         go_ret;exact ⟨_,by first|rfl|(simp [zcp,zcq] <;> rfl)|(simp only [← hji4];first|rfl|(simp [zcp,zcq] <;> rfl))|(simp [*,zcp,zcq] <;> rfl),by (with_reducible repeat (first|apply Kd.zb1|apply Kd.zb2|apply Kd.zb9));exact HO372.out,q2,q9⟩
        ·rw [if_neg c9] at H
         exact absurd H (by simp)
       ·rw [if_neg c8] at H
        exact absurd H (by simp)
     ·rw [if_neg c6] at H
      exact absurd H (by simp)
    ·rw [if_neg c5] at H
     exact absurd H (by simp)
   ·rw [if_neg c3] at H
    have c3b0:decide (0<x3_1)=false:=decide_eq_false c3;clear c3
    by_cases c11:0≤x3_1
    ·rw [if_pos c11] at H
     have c11b0:=eq_true c11;have c11b1:decide (0≤x3_1)=true:=decide_eq_true c11;clear c11
     by_cases c12:x3_1≤(l0.length:Int)
     ·rw [if_pos c12] at H
      have c12b0:=eq_true c12;have c12b1:decide (x3_1≤(l0.length:Int))=true:=decide_eq_true c12;clear c12
      obtain ⟨y373,hy373⟩:∃ y_:List Int,y_=(l0.take (x3_1:Int).toNat):=⟨_,rfl⟩
      replace H:(some y373)=some r:=by first|(rw [hy373];with_reducible exact H)|(have H2_:=(Option.bind_some _ _).symm.trans H;rw [hy373];with_reducible exact H2_)|(have H2_:=(Option.bind_some _ _).symm.trans H;with_reducible exact H2_)|with_reducible exact H|(rw [hy373];exact H)|exact H
      have Ny373:=za1.mk hy373;clear hy373;obtain rfl:=Option.some.inj H;have q13:(x3_1:Int)≤((l0.length:Int):Int):=of_decide_eq_true q0;obtain ⟨i013,hi013,_,hsz13,_⟩:=info_parts info25;have hcut13:=cut_to (P:=Tryd.prog) 116 25 .i64 Tryd.underlying116 hi013 Ao2 l0.length co2 x3_1 (of_decide_eq_true q0) q13 (Kd.R_reads' HO_0.out).2.1;have hr13:=Kd.R_take (m:=(x3_1:Int).toNat) HO_0.out (by omega)
      have hy13:y373.length=(x3_1:Int).toNat:=(by rw [Ny373.out,List.length_take];omega)
      rw [← Ny373.out] at hr13;rw [← hy13] at hr13 hcut13;clear hy13 hi013 hsz13 HO_0;have HO375:=za1.mk hr13;clear hr13;replace q13:=eq_true q13
      go_wp2
      go_ret;exact ⟨_,q8,by (with_reducible repeat (first|apply Kd.zb1|apply Kd.zb2|apply Kd.zb9));exact HO375.out,q2,q9⟩
     ·rw [if_neg c12] at H
      exact absurd H (by simp)
    ·rw [if_neg c11] at H
     exact absurd H (by simp)
theorem zas.calls (k:Nat) (P0_:Nat→Prop) (u9000_:Value) (l0:List Int) (r:List Int) (w0 w:World) (hB:Below w0.heap.size w0 w) (ho0:Kd.R (Kd.int .u32) 25 w w0.heap.size P0_ u9000_ l0) (h:zas.f k l0=some r) :
 Calls Tryd.prog 66 #[u9000_] w fun e w'=>∃ v0_:Value,e = .returned (v0_)∧Kd.R (Kd.int .u32) 25 w' w0.heap.size (fun k_=>(P0_ k_∨w.heap.size≤k_)) v0_ r∧Below w0.heap.size w0 w'∧Kept w w' (fun k_=>P0_ k_):=by
 refine (zas.callsF k P0_ u9000_ l0 r w0 w hB ho0 h).mono ?_;rintro e w' ⟨v0,h0,h1,h2,h3⟩;exact ⟨v0,h0,h1,h2,Kept.of_false h3⟩
theorem zao.make0 {P:Program} {ops:Array Oper} {rest:List Oper} {o:Oper} {a:Act} {Q:Exit→Act→World→Prop} {w0 W:World} (base e:Nat) (hgd:o.guard=none) {N:Tmp} (hd:o.dst=some N) (t:TypeId) (x y:Operand) (ho:o.op = .makeSlice t x y) (c:Int) (hx:a.eval x = .int .i64 0) (hy:a.eval y = .int .i64 c)
 (ht:P.underlying t=some (.slice e)) (hinfo:(P.info? e).map (fun i=>(i.zero,i.size,i.bytes))=some (some (.int .u8 0),1,1)) {ok:Nat→Prop} (hfresh:ok W.heap.size) (h0:0≤c) (hl:c≤281474976710656) (HB:Below base w0 W) (hbase:base≤W.heap.size)
 (h:∀ v1 w1,(Kd.int .u8).R e w1 base ok v1 []→Below base w0 w1→wpList P ops Q rest (a.put o.dst v1) w1):wpList P ops Q (o :: rest) a W:=by
 obtain ⟨i0,hi,hzz⟩:=Option.map_eq_some_iff.1 hinfo;simp only [Prod.mk.injEq] at hzz;obtain ⟨hz0,hz1,hz2⟩:=hzz;have hr:=run_make (P:=P) W t e i0 (.int .u8 0) ht hi hz0 .i64 .i64 0 c (by omega) h0 (by rw [hz2];omega) (by omega);rw [hz1] at hr;refine Kd.event_run hgd (w1:=W.alloc (.cells (madeCells (Value.int .u8 0).cells (c.toNat*1)) e)) (v:=.slice (some ⟨W.heap.size,0,none⟩) 0 c.toNat) (by simpa [execOp,ho,hx,hy] using congrArg (fun r=>r.andThen (fun a w'=>Result.ok (Next.value a) w')) hr) ?_;refine h _ _ ?_ (HB.alloc hbase _);refine ⟨fun k hk=>?_,[],⟨rfl,.inr ⟨W.heap.size,c.toNat,madeCells (Value.int .u8 0).cells (c.toNat*1),rfl,hbase,Array.getElem?_push_size,Nat.zero_le _,by unfold maxLen;omega,size_madeCells _ _,by simp⟩⟩,Reps.none _ _⟩
 have:k=W.heap.size:=by simpa [Value.ownBlock] using hk.symm
 rw [this];exact hfresh
def zao.l0:Nat→List Int→List Int→Int→Option (ByteArray)
 | 0,_,_,_=>none
 | k+1,x0,x3,x4=>if x4≥0 then (if 0≤x4 then (if x4<(x0.length:Int) then ((some (([((rd x0 x4)/16777216)%256,((rd x0 x4)/65536)%256,((rd x0 x4)/256)%256,(rd x0 x4)%256]:List Int):List Int)).bind fun y383=>(if x3.length+y383.length<140737488355328 then (zao.l0 k x0 (x3 ++ y383) (wrap64 (x4-1))) else (none))) else (none)) else (none)) else ((za8.f k (strOfNums x3)).bind fun t389=>(some t389))
def zao.f (k:Nat) (l0:List Int):Option (ByteArray):=(zas.f k l0).bind fun t376=>(if 4*(t376.length:Int)≤281474976710656 then (zao.l0 k t376 (List.replicate 0 0) (wrap64 ((t376.length:Int)-1))) else (none))
theorem zao.mono_l:∀ k,(∀ y0 y1 y2,LeO (zao.l0 k y0 y1 y2) (zao.l0 (k+1) y0 y1 y2))
 | 0=>fun _ _ _ r h=>by simp [zao.l0] at h
 | k+1=>by
  have ih0:=zao.mono_l k
  ·intro y0 y1 y2
   unfold zao.l0
   repeat' first
   | (with_reducible exact ih0 _ _ _)
   | (with_reducible exact za8.mono _ _)
   | (with_reducible exact zas.mono _ _)
   | (with_reducible exact LeO.refl _)
   | (with_reducible exact LeO.none _)
   | (with_reducible refine LeO.ite ?_ ?_)
   | (with_reducible refine LeO.bind ?_ (fun _=>?_))
   | exact ih0 _ _ _
   | exact za8.mono _ _
   | exact zas.mono _ _
   | exact LeO.none _
   | refine LeO.ite ?_ ?_
   | refine LeO.bind ?_ (fun _=>?_)
theorem zao.mono:∀ a0 k,LeO (zao.f k a0) (zao.f (k+1) a0):=by
 intro a0 k;have ih0:=zao.mono_l k;unfold zao.f
 repeat' first
  | (with_reducible exact ih0 _ _ _)
  | (with_reducible exact za8.mono _ _)
  | (with_reducible exact zas.mono _ _)
  | (with_reducible exact LeO.refl _)
  | (with_reducible exact LeO.none _)
  | (with_reducible refine LeO.ite ?_ ?_)
  | (with_reducible refine LeO.bind ?_ (fun _=>?_))
  | exact ih0 _ _ _
  | exact za8.mono _ _
  | exact zas.mono _ _
  | exact LeO.none _
  | refine LeO.ite ?_ ?_
  | refine LeO.bind ?_ (fun _=>?_)
set_option maxHeartbeats 8000000 in
set_option maxRecDepth 100000 in
theorem zao.callsF (k:Nat) (P0_:Nat→Prop) (u9000_:Value) (l0:List Int) (r:ByteArray) (w0 w:World) (hB:Below w0.heap.size w0 w) (ho0:Kd.R (Kd.int .u32) 25 w w0.heap.size P0_ u9000_ l0) (h:zao.f k l0=some r) :
 Calls Tryd.prog 59 #[u9000_] w fun e w'=>e = .returned (.string r)∧Below w0.heap.size w0 w'∧Kept w w' (fun _=>False):=by
 have HO0:=am (show Kd.R (Kd.int .u32) 25 w w0.heap.size (fun k_=>(P0_ k_∨w.heap.size≤k_)) u9000_ l0 from Kd.zbm ho0 (fun k_ hk=>(.inl hk)));have HK:=am (Kept.refl w (fun _=>False));have HW0:=za1.mk hB.size;have HB:=za1.mk hB;clear hB;have H:((zas.f k l0).bind fun t376=>(if 4*(t376.length:Int)≤281474976710656 then (zao.l0 k t376 (List.replicate 0 0) (wrap64 ((t376.length:Int)-1))) else (none)))=some r:=h;clear h;replace H:=Option.bind_eq_some_iff.mp H;obtain ⟨t376,A20,H⟩:=H;replace H:(if 4*(t376.length:Int)≤281474976710656 then (zao.l0 k t376 (List.replicate 0 0) (wrap64 ((t376.length:Int)-1))) else (none))=some r:=H;have A2:=za1.mk A20;clear A20
 by_cases c3:4*(t376.length:Int)≤281474976710656
 ·rw [if_pos c3] at H
  have c4p_:=c3
  have c5p_:0≤4*(t376.length:Int):=by omega
  have c3b0:=eq_true c3;have c3b1:decide (4*(t376.length:Int)≤281474976710656)=true:=decide_eq_true c3;clear c3
  obtain ⟨y379,hy379⟩:∃ y_:List Int,y_=(List.replicate 0 0):=⟨_,rfl⟩
  replace H:(zao.l0 k t376 y379 (wrap64 ((t376.length:Int)-1)))=some r:=by first|(rw [hy379];with_reducible exact H)|(have H2_:=(Option.bind_some _ _).symm.trans H;rw [hy379];with_reducible exact H2_)|(have H2_:=(Option.bind_some _ _).symm.trans H;with_reducible exact H2_)|with_reducible exact H|(rw [hy379];exact H)|exact H
  have Ny379:=za1.mk hy379;clear hy379;have H':=za1.mk H;clear H;obtain ⟨Ao4,co4,eo4⟩:=Kd.zbn HO0.out;subst eo4;go_enter Tryd.func59,Tryd.ntmps59
  go_wp2_with (first|((with_reducible refine zan (f:=66) rfl ?_);refine goesL_ (some 7) rfl rfl Tryd.func66 (by kernel_rfl) rfl #[.slice Ao4 l0.length co4] rfl q4 ?_;(with_reducible refine (zas.callsF k (fun k_=>some k_=(.slice Ao4 l0.length co4:Value).ownBlock) (.slice Ao4 l0.length co4) l0 t376 w0 _ ?side1 ?side2 A2.out).mono ?_);(case side1=>repeat (first|(with_reducible first|exact HB.out|apply zaw|apply zah|apply zar)|exact HB.out));(case side2=>exact Kd.zci rfl HO0.out);rintro e w5 ⟨v377,rfl,ho0,hb,hkp⟩;refine ⟨_,rfl,?_⟩;have n0_:=am (Kd.zbm (ok':=fun k_=>(P0_ k_∨w.heap.size≤k_)) ho0 (fun k_ hk_=>Or.elim hk_ (fun hs_=>(HO0.out.1 k_ (hs_).symm)) (fun hn_=>(.inr (Nat.le_trans (by first|exact HK.out.1|exact (show Kept w _ (fun _=>False) from by repeat (first|(with_reducible first|exact HK.out|apply Kept.alloc|apply Kept.drewN|apply Kept.drew)|exact HK.out)).1) hn_)))));have n1_:=am (Kept.then_ (S:=(fun _=>False)) q9 hkp (fun _ hs_=>hs_.elim));have n2_:=am (hb);clear HK;clear HB;clear HO0;have HO378:=n0_;have HK:=n1_;have HB:=n2_;clear n0_ n1_ n2_;(try clear hb);(try clear hkp);(try clear ho0);obtain ⟨Ao6,co6,eo6⟩:=Kd.zbn HO378.out;subst eo6)|((with_reducible refine zbr (N:=11) rfl ?_);refine zao.make0 _ 5 rfl (N:=11) rfl 22 _ _ rfl (4*(t376.length:Int)) rfl rfl Tryd.underlying22 info5 (ok:=fun _=>True) trivial (by omega) (by omega) (Below.refl _ _) (Nat.le_refl _) ?_;intro v380 w7 ho8 hb;(rw [show ([]:List Int)=_ from Ny379.out.symm] at ho8);have HO381:=am (Kd.zc9 (Kd.R_newM (M:=fun k_=>(False∨w.heap.size≤k_)) ho8 (by first|exact HK.out.1|exact (show Kept w _ (fun _=>False) from by repeat (first|(with_reducible first|exact HK.out|apply Kept.alloc|apply Kept.drewN|apply Kept.drew)|exact HK.out)).1) (fun k_ h_=>.inr h_)) (zbb q2));replace HO378:=am (Kd.zbx (by (with_reducible repeat (first|apply Kd.zb1|apply Kd.zb2|apply Kd.zb9));exact HO378.out) hb);replace HK:=am (Kept.below (S:=(fun _=>False)) q9 hb);replace HB:=am (zab q2 hb);clear hb ho8))
  go_loopg [3,4] k (fun kq v3 v4 w'=>∃ (x3_1:List Int) (x4_1:Int),v4 = .int .i64 x4_1∧za1 (zao.l0 kq t376 x3_1 x4_1=some r)∧za1 (kq≤k)∧za1 (Kd.R (Kd.int .u32) 25 w' w0.heap.size (fun k_=>(P0_ k_∨w.heap.size≤k_)) (.slice Ao6 t376.length co6) t376)∧za1 (Kd.R (Kd.int .u8) 5 w' w0.heap.size (fun k_=>(False∨w.heap.size≤k_)) v3 x3_1)∧za1 (Kept w w' (fun _=>False))∧za1 (Below w0.heap.size w0 w'))
  case atStart=>exact ⟨(y379),(wrap64 ((t376.length:Int)-1)),(by first|(rw [show wrap64 ((t376.length:Int)-1)=(t376.length:Int)-1 from by unfold wrap64;omega])|rfl|(simp;done)|(simp [*];done)),H',⟨Nat.le_refl _⟩,⟨by (with_reducible repeat (first|apply Kd.zb1|apply Kd.zb2|apply Kd.zb9));exact HO378.out⟩,⟨by (with_reducible repeat (first|apply Kd.zb1|apply Kd.zb2|apply Kd.zb9));exact Kd.zbm HO381.out (fun _ hk=>hk.1)⟩,⟨q9⟩,⟨q2⟩⟩
  case round=>
   clear H';(try clear p2);(try clear c3);(try clear c3b0);(try clear c3b1);(try clear c5);(try clear c6);(try clear p6);obtain ⟨x3_1,x4_1,rfl,HA,HK1,HO_0,HO_3,HK,HB⟩:=hrel
   cases gk with
   | zero=>exact absurd HA.out (by simp [zao.l0])
   | succ k1=>
    have H:=HA.out;clear HA;simp only [zao.l0] at H
    by_cases c9:x4_1≥0
    ·rw [if_pos c9] at H
     have c9b0:decide (0≤x4_1)=true:=decide_eq_true c9;clear c9
     by_cases c10:0≤x4_1
     ·rw [if_pos c10] at H
      have c10b0:decide (0≤x4_1)=true:=decide_eq_true c10;clear c10
      by_cases c11:x4_1<(t376.length:Int)
      ·rw [if_pos c11] at H
       have c11b0:decide (x4_1<(t376.length:Int))=true:=decide_eq_true c11;clear c11
       obtain ⟨y383,hy383⟩:∃ y_:List Int,y_=(([((rd t376 x4_1)/16777216)%256,((rd t376 x4_1)/65536)%256,((rd t376 x4_1)/256)%256,(rd t376 x4_1)%256]:List Int)):=⟨_,rfl⟩
       replace H:(if x3_1.length+y383.length<140737488355328 then (zao.l0 k1 t376 (x3_1 ++ y383) (wrap64 (x4_1-1))) else (none))=some r:=by first|(rw [hy383];with_reducible exact H)|(have H2_:=(Option.bind_some _ _).symm.trans H;rw [hy383];with_reducible exact H2_)|(have H2_:=(Option.bind_some _ _).symm.trans H;with_reducible exact H2_)|with_reducible exact H|(rw [hy383];exact H)|exact H
       have Ny383:=za1.mk hy383;clear hy383
       by_cases c12:x3_1.length+y383.length<140737488355328
       ·rw [if_pos c12] at H
        have LMc12:=za1.mk c12;clear c12
        obtain ⟨y386,hy386⟩:∃ y_:List Int,y_=(x3_1 ++ y383):=⟨_,rfl⟩
        replace H:(zao.l0 k1 t376 y386 (wrap64 (x4_1-1)))=some r:=by first|(rw [hy386];with_reducible exact H)|(have H2_:=(Option.bind_some _ _).symm.trans H;rw [hy386];with_reducible exact H2_)|(have H2_:=(Option.bind_some _ _).symm.trans H;with_reducible exact H2_)|with_reducible exact H|(rw [hy386];exact H)|exact H
        have Ny386:=za1.mk hy386;clear hy386;have H':=za1.mk H;clear H;have p382:0≤(x4_1:Int):=of_decide_eq_true q0;have q382:x4_1<(t376.length:Int):=of_decide_eq_true q0;obtain ⟨ad382,e382,hx382_0⟩:=Kd.at_int (Kd.R_reads' HO_0.out).2.2 x4_1 p382 q382;cases e382;replace p382:=eq_true p382;replace q382:=eq_true q382
        go_wp2_with (first|((with_reducible refine zbr (N:=35) rfl ?_);refine Kd.R_lit (Kd.int .u8) _ 5 ?hg (N:=35) ?hd (xs:=([((rd t376 x4_1)/16777216)%256,((rd t376 x4_1)/65536)%256,((rd t376 x4_1)/256)%256,(rd t376 x4_1)%256]:List Int)) (inner:=[.int .u8 (((rd t376 x4_1)/16777216)%256),.int .u8 (((rd t376 x4_1)/65536)%256),.int .u8 (((rd t376 x4_1)/256)%256),.int .u8 ((rd t376 x4_1)%256)]) (ok:=fun _=>True) (okp:=fun _=>True) ?hr ?hp (fun _ hk=>hk) trivial (Below.refl _ _) (Nat.le_refl _) (by simp) ?_;(case hd=>rfl);(case hg=>rfl);(case hr=>first|(go_simp;done)|(go_simp;rfl));(case hp=>exact (Reps.one (show Kd.M (Kd.int .u8) _ _ _ (((rd t376 x4_1)/16777216)%256) [.int .u8 (((rd t376 x4_1)/16777216)%256)] from rfl) (Reps.one (show Kd.M (Kd.int .u8) _ _ _ (((rd t376 x4_1)/65536)%256) [.int .u8 (((rd t376 x4_1)/65536)%256)] from rfl) (Reps.one (show Kd.M (Kd.int .u8) _ _ _ (((rd t376 x4_1)/256)%256) [.int .u8 (((rd t376 x4_1)/256)%256)] from rfl) (Reps.one (show Kd.M (Kd.int .u8) _ _ _ ((rd t376 x4_1)%256) [.int .u8 ((rd t376 x4_1)%256)] from rfl) (Reps.none _ _))))));intro v384 w13 ho14 hb hg_ hnew_;clear hg_ hnew_;(first|rw [← Ny383.out] at ho14|(simp only [Int.reduceToNat] at ho14;rw [← Ny383.out] at ho14));have HO385:=am (Kd.zc9 (Kd.R_new' (Kd.R_newM (M:=fun k_=>(False∨w.heap.size≤k_)) ho14 (by first|exact HK.out.1|exact (show Kept w _ (fun _=>False) from by repeat (first|(with_reducible first|exact HK.out|apply Kept.alloc|apply Kept.drewN|apply Kept.drew)|exact HK.out)).1) (fun k_ h_=>.inr h_)) (Kd.R_lt q22)) (zbb q2));replace HO_0:=am (Kd.zbx q36 hb);replace HO_3:=am (Kd.R_elder' q22 (Kd.zct ho14) hb);replace HK:=am (Kept.below (S:=(fun _=>False)) q9 hb);replace HB:=am (zab q2 hb);clear hb ho14;obtain ⟨Ao16,co16,eo16⟩:=Kd.zbn HO385.out;subst eo16)|((with_reducible refine zd7 (b:=.append) (xs:=#[.tmp 23,.tmp 35]) rfl ?_);at_builtin;refine Kd.R_append_rows (Kd.int .u8) (w0:=w0) w0.heap.size rfl (.tmp 23) (.tmp 35) 22 5 (.int .u8 0) 1 rfl Tryd.underlying22 info5 rfl (by decide) (by omega) u3 x3_1 y383 _ _ _ (fun k_=>(False∨w.heap.size≤k_)∧some k_≠(.slice Ao16 y383.length co16:Value).ownBlock) (fun _=>False) rfl rfl ?aO ?aR (fun _ _ h=>h) (fun _ h=>h.elim) ?aF ?aB ?aS ?aL ?_;(case aR=>repeat (first|exact (Kd.R_reads' HO385.out).2.2|(with_reducible refine Kd.zbv ?_ _)|(with_reducible refine Kd.zbw ?_ _)|(with_reducible refine Kd.zc8 ?_)));(case aB=>exact q2);(case aF=>exact (fun k_ hk=>⟨(.inr (Nat.le_trans (by first|exact HK.out.1|exact (show Kept w _ (fun _=>False) from by repeat (first|(with_reducible first|exact HK.out|apply Kept.alloc|apply Kept.drewN|apply Kept.drew)|exact HK.out)).1) hk)),Kd.fresh' (Kd.R_lt (by (with_reducible repeat (first|apply Kd.zb1|apply Kd.zb2|apply Kd.zb9));exact HO385.out)) k_ hk⟩));(case aO=>exact q22);(case aS=>exact (zbb q2));(case aL=>have:=LMc12.out;omega);intro v387 w15 ho hb hg hat;rw [← Ny386.out] at ho;have n0_:=am (Kd.R_over' q36 (Kd.zd6 q22) (by decide) hg);have n1_:=am (Kd.R_after (ok:=(fun k_=>(False∨w.heap.size≤k_))) (by (with_reducible repeat (first|apply Kd.zb1|apply Kd.zb2|apply Kd.zb9));exact Kd.zbm HO385.out (fun _ hk=>⟨hk.1.1,hk.2⟩)) hg hat);have n2_:=am (hb);have n3_:=am (Kept.of_grown (S:=(fun _=>False)) hg q9 (fun k_ e_=>(HO_3.out.1 k_ e_).1));have n4_:=am (ho);clear HO_0;clear HO385;clear HB;clear HK;clear HO_3;have HO_0:=n0_;have HO385:=n1_;have HB:=n2_;have HK:=n3_;have HO388:=n4_;clear n0_ n1_ n2_ n3_ n4_;clear ho hb hg hat))
        go_roundg k1
        case measure=>have:=HK1.out;omega
        case rel=>exact ⟨(y386),(wrap64 (x4_1-1)),q5,H',⟨q13⟩,⟨q36⟩,⟨by (with_reducible repeat (first|apply Kd.zb1|apply Kd.zb2|apply Kd.zb9));exact Kd.zbm HO388.out (fun _ hk=>hk.1)⟩,⟨q9⟩,⟨q2⟩⟩
       ·rw [if_neg c12] at H
        exact absurd H (by simp)
      ·rw [if_neg c11] at H
       exact absurd H (by simp)
     ·rw [if_neg c10] at H
      exact absurd H (by simp)
    ·rw [if_neg c9] at H
     have c9b0:decide (0≤x4_1)=false:=decide_eq_false c9;clear c9;replace H:=Option.bind_eq_some_iff.mp H;obtain ⟨t389,A170,H⟩:=H;replace H:(some t389)=some r:=H;have A17:=za1.mk A170;clear A170;obtain rfl:=Option.some.inj H;have hcv18:=zcn (P:=Tryd.prog) Tryd.underlying22 Tryd.underlying5 Tryd.underlying9 (Kd.zcr HO_3.out)
     go_wp2_with (first|((with_reducible refine zan (f:=49) rfl ?_);refine goesL_ (some 39) rfl rfl Tryd.func49 (by kernel_rfl) rfl #[.string (strOfNums x3_1)] rfl q4 ?_;(with_reducible refine (za8.calls k1 (strOfNums x3_1) t389 _ A17.out).mono ?_);rintro e w' ⟨rfl,⟨nd,rfl⟩⟩;refine ⟨_,rfl,?_⟩))
     go_ret;exact ⟨q8,q2,q9⟩
 ·rw [if_neg c3] at H
  exact absurd H (by simp)
theorem zao.calls (k:Nat) (P0_:Nat→Prop) (u9000_:Value) (l0:List Int) (r:ByteArray) (w0 w:World) (hB:Below w0.heap.size w0 w) (ho0:Kd.R (Kd.int .u32) 25 w w0.heap.size P0_ u9000_ l0) (h:zao.f k l0=some r) :
 Calls Tryd.prog 59 #[u9000_] w fun e w'=>e = .returned (.string r)∧Below w0.heap.size w0 w'∧Kept w w' (fun k_=>P0_ k_):=by
 refine (zao.callsF k P0_ u9000_ l0 r w0 w hB ho0 h).mono ?_;rintro e w' ⟨h0,h1,h2⟩;exact ⟨h0,h1,Kept.of_false h2⟩
def zbc.f (k:Nat) (a0:Int):Option (ByteArray):=(zao.f k (([(a0)%4294967296,(a0/4294967296)%4294967296]:List Int))).bind fun t552=>(some t552)
theorem zbc.mono:∀ a0 k,LeO (zbc.f k a0) (zbc.f (k+1) a0):=by
 intro a0 k;unfold zbc.f
 repeat' first
  | (with_reducible exact zao.mono _ _)
  | (with_reducible exact LeO.refl _)
  | (with_reducible exact LeO.none _)
  | (with_reducible refine LeO.ite ?_ ?_)
  | (with_reducible refine LeO.bind ?_ (fun _=>?_))
  | exact zao.mono _ _
  | exact LeO.none _
  | refine LeO.ite ?_ ?_
  | refine LeO.bind ?_ (fun _=>?_)
set_option maxHeartbeats 8000000 in
set_option maxRecDepth 100000 in
theorem zbc.calls (k:Nat) (a0:Int) (r:ByteArray) (w:World) (h:zbc.f k a0=some r) :
 Calls Tryd.prog 69 #[.int .u64 a0] w fun e w'=>e = .returned (.string r)∧Below w.heap.size w w':=by
 have HB:=am (Below.refl w.heap.size w);have H:((zao.f k (([(a0)%4294967296,(a0/4294967296)%4294967296]:List Int))).bind fun t552=>(some t552))=some r:=h;clear h
 obtain ⟨y549,hy549⟩:∃ y_:List Int,y_=(([(a0)%4294967296,(a0/4294967296)%4294967296]:List Int)):=⟨_,rfl⟩
 replace H:((zao.f k y549).bind fun t552=>(some t552))=some r:=by first|(rw [hy549];with_reducible exact H)|(have H2_:=(Option.bind_some _ _).symm.trans H;rw [hy549];with_reducible exact H2_)|(have H2_:=(Option.bind_some _ _).symm.trans H;with_reducible exact H2_)|with_reducible exact H|(rw [hy549];exact H)|exact H
 have Ny549:=za1.mk hy549;clear hy549;replace H:=Option.bind_eq_some_iff.mp H;obtain ⟨t552,A20,H⟩:=H;replace H:(some t552)=some r:=H;have A2:=za1.mk A20;clear A20;obtain rfl:=Option.some.inj H;go_enter Tryd.func69,Tryd.ntmps69
 go_wp2_with (first|((with_reducible refine zbr (N:=8) rfl ?_);refine Kd.R_lit (Kd.int .u32) _ 25 ?hg (N:=8) ?hd (xs:=([(a0)%4294967296,(a0/4294967296)%4294967296]:List Int)) (inner:=[.int .u32 ((a0)%4294967296),.int .u32 ((a0/4294967296)%4294967296)]) (ok:=fun _=>True) (okp:=fun _=>True) ?hr ?hp (fun _ hk=>hk) trivial (Below.refl _ _) (Nat.le_refl _) (by simp) ?_;(case hd=>rfl);(case hg=>rfl);(case hr=>first|(go_simp;done)|(go_simp;rfl));(case hp=>exact (Reps.one (show Kd.M (Kd.int .u32) _ _ _ ((a0)%4294967296) [.int .u32 ((a0)%4294967296)] from rfl) (Reps.one (show Kd.M (Kd.int .u32) _ _ _ ((a0/4294967296)%4294967296) [.int .u32 ((a0/4294967296)%4294967296)] from rfl) (Reps.none _ _))));intro v550 w3 ho4 hb hg_ hnew_;clear hg_ hnew_;(first|rw [← Ny549.out] at ho4|(simp only [Int.reduceToNat] at ho4;rw [← Ny549.out] at ho4));have HO551:=am (Kd.zc9 ho4 (zbb q2));replace HB:=am (zab q2 hb);clear hb ho4;obtain ⟨Ao5,co5,eo5⟩:=Kd.zbn HO551.out;subst eo5)|((with_reducible refine zan (f:=59) rfl ?_);refine goesL_ (some 9) rfl rfl Tryd.func59 (by kernel_rfl) rfl #[.slice Ao5 y549.length co5] rfl q4 ?_;(with_reducible refine (zao.calls k (fun k_=>some k_=(.slice Ao5 y549.length co5:Value).ownBlock) (.slice Ao5 y549.length co5) y549 t552 w _ ?side1 ?side2 A2.out).mono ?_);(case side1=>repeat (first|(with_reducible first|exact HB.out|apply zaw|apply zah|apply zar)|exact HB.out));(case side2=>exact Kd.zci rfl HO551.out);rintro e w6 ⟨rfl,hb,hkp⟩;refine ⟨_,rfl,?_⟩;have n0_:=am (hb);clear HB;clear HO551;have HB:=n0_;clear n0_;(try clear hb);(try clear hkp)))
 go_ret;exact ⟨q8,q2⟩
def zca.f (k:Nat) (l0:List Int) (l1:List Int):Option (List Int×List Int):=none
theorem zca.mono:∀ a0 a1 k,LeO (zca.f k a0 a1) (zca.f (k+1) a0 a1):=fun _ _ _=>LeO.refl _
theorem zca.calls (k:Nat) (A0:Option Addr) (c0:Nat) (l0:List Int) (A1:Option Addr) (c1:Nat) (l1:List Int) (r1:List Int) (r2:List Int) (w:World) (hr0:Kd.C (Kd.int .u32) w A0 l0.length l0) (hc0:l0.length≤c0) (hr1:Kd.C (Kd.int .u32) w A1 l1.length l1) (hc1:l1.length≤c1) (h:zca.f k l0 l1=some (r1,r2)) :
 Calls Tryd.prog 77 #[.slice A0 l0.length c0,.slice A1 l1.length c1] w fun e w'=>∃ v0_ v1_:Value,e = .returned (.tuple #[v0_,v1_])∧Kd.R (Kd.int .u32) 25 w' w.heap.size (fun k_=>some k_≠(v1_:Value).ownBlock) v0_ r1∧Kd.R (Kd.int .u32) 25 w' w.heap.size (fun k_=>some k_≠(v0_:Value).ownBlock) v1_ r2∧Below w.heap.size w w':=by
 unfold zca.f at h;exact absurd h (by simp)
def zbg.l0:Nat→List Int→List Int→Int→Option (Int)
 | 0,_,_,_=>none
 | k+1,x0,x1,x5=>if x5≥0 then (if 0≤x5 then (if x5<(x0.length:Int) then (if x5<(x1.length:Int) then (if (rd x0 x5)=(rd x1 x5) then (zbg.l0 k x0 x1 (wrap64 (x5-1))) else (if (rd x0 x5)<(rd x1 x5) then (some (-1)) else (some 1))) else (none)) else (none)) else (none)) else (some 0)
def zbg.f (k:Nat) (l0:List Int) (l1:List Int):Option (Int):=if (l0.length:Int)=(l1.length:Int) then (zbg.l0 k l0 l1 (wrap64 ((l0.length:Int)-1))) else (if (l0.length:Int)<(l1.length:Int) then (some (-1)) else (some 1))
theorem zbg.mono_l:∀ k,(∀ y0 y1 y2,LeO (zbg.l0 k y0 y1 y2) (zbg.l0 (k+1) y0 y1 y2))
 | 0=>fun _ _ _ r h=>by simp [zbg.l0] at h
 | k+1=>by
  have ih0:=zbg.mono_l k
  ·intro y0 y1 y2
   unfold zbg.l0
   repeat' first
   | (with_reducible exact ih0 _ _ _)
   | (with_reducible exact LeO.refl _)
   | (with_reducible exact LeO.none _)
   | (with_reducible refine LeO.ite ?_ ?_)
   | (with_reducible refine LeO.bind ?_ (fun _=>?_))
   | exact ih0 _ _ _
   | exact LeO.none _
   | refine LeO.ite ?_ ?_
   | refine LeO.bind ?_ (fun _=>?_)
theorem zbg.mono:∀ a0 a1 k,LeO (zbg.f k a0 a1) (zbg.f (k+1) a0 a1):=by
 intro a0 a1 k;have ih0:=zbg.mono_l k;unfold zbg.f
 repeat' first
  | (with_reducible exact ih0 _ _ _)
  | (with_reducible exact LeO.refl _)
  | (with_reducible exact LeO.none _)
  | (with_reducible refine LeO.ite ?_ ?_)
  | (with_reducible refine LeO.bind ?_ (fun _=>?_))
  | exact ih0 _ _ _
  | exact LeO.none _
  | refine LeO.ite ?_ ?_
  | refine LeO.bind ?_ (fun _=>?_)
set_option maxHeartbeats 8000000 in
set_option maxRecDepth 100000 in
theorem zbg.calls (k:Nat) (A0:Option Addr) (c0:Nat) (l0:List Int) (A1:Option Addr) (c1:Nat) (l1:List Int) (r:Int) (w:World) (hr0:Kd.C (Kd.int .u32) w A0 l0.length l0) (hc0:l0.length≤c0) (hr1:Kd.C (Kd.int .u32) w A1 l1.length l1) (hc1:l1.length≤c1) (h:zbg.f k l0 l1=some r) :
 Calls Tryd.prog 75 #[.slice A0 l0.length c0,.slice A1 l1.length c1] w fun e w'=>e = .returned (.int .i64 r)∧Drawn0 w w':=by
 have HR0:=za1.mk hr0;have HC0:=za1.mk hc0;clear hr0 hc0;have HR1:=za1.mk hr1;have HC1:=za1.mk hc1;clear hr1 hc1;have H:(if (l0.length:Int)=(l1.length:Int) then (zbg.l0 k l0 l1 (wrap64 ((l0.length:Int)-1))) else (if (l0.length:Int)<(l1.length:Int) then (some (-1)) else (some 1)))=some r:=h;clear h
 by_cases c3:(l0.length:Int)=(l1.length:Int)
 ·rw [if_pos c3] at H
  have c3b0:((l0.length:Int) == (l1.length:Int))=true:=beq_iff_eq.mpr c3;have c3b1:((l0.length:Int) != (l1.length:Int))=false:=bne_eq_false_iff_eq.mpr c3
  have c3b2:(l0.length == l1.length)=true:=by first|simpa using c3|(simp at c3 ⊢;omega)
  clear c3;have H':=za1.mk H;clear H;go_enter Tryd.func75,Tryd.ntmps75
  go_wp2
  repeat (go_quiet (fail);try go_wp2)
  go_loopg [5] k (fun kq v5 w'=>∃ (x5_1:Int),v5 = .int .i64 x5_1∧za1 (zbg.l0 kq l0 l1 x5_1=some r)∧za1 (kq≤k)∧Drawn0 w w')
  case atStart=>exact ⟨(wrap64 ((l0.length:Int)-1)),q5,H',⟨Nat.le_refl _⟩,q11⟩
  case round=>
   clear H';(try clear c1);(try clear p2);(try clear c3);(try clear c3b0);(try clear c3b1);(try clear c3b2);obtain ⟨x5_1,rfl,HA,HK1,⟨m1,rfl⟩⟩:=hrel
   cases gk with
   | zero=>exact absurd HA.out (by simp [zbg.l0])
   | succ k1=>
    have H:=HA.out;clear HA;simp only [zbg.l0] at H
    by_cases c4:x5_1≥0
    ·rw [if_pos c4] at H
     have c4b0:decide (0≤x5_1)=true:=decide_eq_true c4;clear c4
     by_cases c5:0≤x5_1
     ·rw [if_pos c5] at H
      have c5b0:decide (0≤x5_1)=true:=decide_eq_true c5;clear c5
      by_cases c6:x5_1<(l0.length:Int)
      ·rw [if_pos c6] at H
       have c6b0:decide (x5_1<(l0.length:Int))=true:=decide_eq_true c6;clear c6
       by_cases c7:x5_1<(l1.length:Int)
       ·rw [if_pos c7] at H
        have c7b0:decide (x5_1<(l1.length:Int))=true:=decide_eq_true c7;clear c7
        by_cases c8:(rd l0 x5_1)=(rd l1 x5_1)
        ·rw [if_pos c8] at H
         have c8b0:((rd l0 x5_1) == (rd l1 x5_1))=true:=beq_iff_eq.mpr c8;have c8b1:((rd l0 x5_1) != (rd l1 x5_1))=false:=bne_eq_false_iff_eq.mpr c8;clear c8;have H':=za1.mk H;clear H;have p390:0≤(x5_1:Int):=of_decide_eq_true q0;have q390:x5_1<(l0.length:Int):=of_decide_eq_true q0;obtain ⟨ad390,e390,hx390_0⟩:=Kd.at_int HR0.out x5_1 p390 q390;cases e390;replace p390:=eq_true p390;replace q390:=eq_true q390;have p391:0≤(x5_1:Int):=of_decide_eq_true q0;have q391:x5_1<(l1.length:Int):=of_decide_eq_true q0;obtain ⟨ad391,e391,hx391_0⟩:=Kd.at_int HR1.out x5_1 p391 q391;cases e391;replace p391:=eq_true p391;replace q391:=eq_true q391
         go_wp2
         repeat (go_quiet (fail);try go_wp2)
         go_roundg k1
         case measure=>have:=HK1.out;omega
         case rel=>exact ⟨(wrap64 (x5_1-1)),q5,H',⟨q13⟩,q11⟩
        ·rw [if_neg c8] at H
         have c8b0:((rd l0 x5_1) == (rd l1 x5_1))=false:=beq_eq_false_iff_ne.mpr c8;have c8b1:((rd l0 x5_1) != (rd l1 x5_1))=true:=bne_iff_ne.mpr c8
         by_cases c9:(rd l0 x5_1)<(rd l1 x5_1)
         ·rw [if_pos c9] at H
          have c9b0:decide ((rd l0 x5_1)<(rd l1 x5_1))=true:=decide_eq_true c9;clear c9;obtain rfl:=Option.some.inj H;have p390:0≤(x5_1:Int):=of_decide_eq_true q0;have q390:x5_1<(l0.length:Int):=of_decide_eq_true q0;obtain ⟨ad390,e390,hx390_0⟩:=Kd.at_int HR0.out x5_1 p390 q390;cases e390;replace p390:=eq_true p390;replace q390:=eq_true q390;have p391:0≤(x5_1:Int):=of_decide_eq_true q0;have q391:x5_1<(l1.length:Int):=of_decide_eq_true q0;obtain ⟨ad391,e391,hx391_0⟩:=Kd.at_int HR1.out x5_1 p391 q391;cases e391;replace p391:=eq_true p391;replace q391:=eq_true q391;have p392:0≤(x5_1:Int):=of_decide_eq_true q0;have q392:x5_1<(l0.length:Int):=of_decide_eq_true q0;obtain ⟨ad392,e392,hx392_0⟩:=Kd.at_int HR0.out x5_1 p392 q392
          obtain rfl:ad390=ad392:=(by injection e392)
          replace p392:=eq_true p392;replace q392:=eq_true q392;have p393:0≤(x5_1:Int):=of_decide_eq_true q0;have q393:x5_1<(l1.length:Int):=of_decide_eq_true q0;obtain ⟨ad393,e393,hx393_0⟩:=Kd.at_int HR1.out x5_1 p393 q393
          obtain rfl:ad391=ad393:=(by injection e393)
          replace p393:=eq_true p393;replace q393:=eq_true q393
          go_wp2
          repeat (go_quiet (fail);try go_wp2)
          go_ret;exact ⟨q5,q11⟩
         ·rw [if_neg c9] at H
          have c9b0:decide ((rd l0 x5_1)<(rd l1 x5_1))=false:=decide_eq_false c9;clear c9;obtain rfl:=Option.some.inj H;have p390:0≤(x5_1:Int):=of_decide_eq_true q0;have q390:x5_1<(l0.length:Int):=of_decide_eq_true q0;obtain ⟨ad390,e390,hx390_0⟩:=Kd.at_int HR0.out x5_1 p390 q390;cases e390;replace p390:=eq_true p390;replace q390:=eq_true q390;have p391:0≤(x5_1:Int):=of_decide_eq_true q0;have q391:x5_1<(l1.length:Int):=of_decide_eq_true q0;obtain ⟨ad391,e391,hx391_0⟩:=Kd.at_int HR1.out x5_1 p391 q391;cases e391;replace p391:=eq_true p391;replace q391:=eq_true q391;have p392:0≤(x5_1:Int):=of_decide_eq_true q0;have q392:x5_1<(l0.length:Int):=of_decide_eq_true q0;obtain ⟨ad392,e392,hx392_0⟩:=Kd.at_int HR0.out x5_1 p392 q392
          obtain rfl:ad390=ad392:=(by injection e392)
          replace p392:=eq_true p392;replace q392:=eq_true q392;have p393:0≤(x5_1:Int):=of_decide_eq_true q0;have q393:x5_1<(l1.length:Int):=of_decide_eq_true q0;obtain ⟨ad393,e393,hx393_0⟩:=Kd.at_int HR1.out x5_1 p393 q393
          obtain rfl:ad391=ad393:=(by injection e393)
          replace p393:=eq_true p393;replace q393:=eq_true q393
          go_wp2
          repeat (go_quiet (fail);try go_wp2)
          go_ret;exact ⟨q5,q11⟩
       ·rw [if_neg c7] at H
        exact absurd H (by simp)
      ·rw [if_neg c6] at H
       exact absurd H (by simp)
     ·rw [if_neg c5] at H
      exact absurd H (by simp)
    ·rw [if_neg c4] at H
     have c4b0:decide (0≤x5_1)=false:=decide_eq_false c4;clear c4;obtain rfl:=Option.some.inj H
     go_wp2
     repeat (go_quiet (fail);try go_wp2)
     go_ret;exact ⟨q5,q11⟩
 ·rw [if_neg c3] at H
  have c3b0:((l0.length:Int) == (l1.length:Int))=false:=beq_eq_false_iff_ne.mpr c3;have c3b1:((l0.length:Int) != (l1.length:Int))=true:=bne_iff_ne.mpr c3
  have c3b2:(l0.length == l1.length)=false:=by first|simpa using c3|(simp at c3 ⊢;omega)
  by_cases c10:(l0.length:Int)<(l1.length:Int)
  ·rw [if_pos c10] at H
   have c10b0:decide ((l0.length:Int)<(l1.length:Int))=true:=decide_eq_true c10;have c10b1:decide (l0.length<l1.length)=true:=decide_eq_true (Int.ofNat_lt.mp c10);clear c10;obtain rfl:=Option.some.inj H;go_enter Tryd.func75,Tryd.ntmps75
   go_wp2
   repeat (go_quiet (fail);try go_wp2)
   go_ret;exact ⟨q5,q11⟩
  ·rw [if_neg c10] at H
   have c10b0:decide ((l0.length:Int)<(l1.length:Int))=false:=decide_eq_false c10;have c10b1:decide (l0.length<l1.length)=false:=decide_eq_false (fun h=>c10 (Int.ofNat_lt.mpr h));clear c10;obtain rfl:=Option.some.inj H;go_enter Tryd.func75,Tryd.ntmps75
   go_wp2
   repeat (go_quiet (fail);try go_wp2)
   go_ret;exact ⟨q5,q11⟩
def zbe.l0:Nat→List Int→Int→List Int→Int→Int→Option (List Int×Int)
 | 0,_,_,_,_,_=>none
 | k+1,x0,x1,x6,x7,x8=>if x8≥0 then (if 0≤x8 then (if x8<(x0.length:Int) then (if (IntKind.u64.wrap (x1))=0 then (none) else (if x8<(x6.length:Int) then (zbe.l0 k x0 x1 (x6.set (x8:Int).toNat ((IntKind.u64.wrap (Int.tdiv (Go.bits .or .u64 (IntKind.u64.wrap (x7*4294967296)) (IntKind.u64.wrap (rd x0 x8))) (IntKind.u64.wrap (x1))))%4294967296)) (Int.tmod (Go.bits .or .u64 (IntKind.u64.wrap (x7*4294967296)) (IntKind.u64.wrap (rd x0 x8))) (IntKind.u64.wrap (x1))) (wrap64 (x8-1))) else (none))) else (none)) else (none)) else ((zas.f k x6).bind fun t399=>(some (t399,(x7)%4294967296)))
def zbe.f (k:Nat) (l0:List Int) (a1:Int):Option (List Int×Int):=if 0≤(l0.length:Int) then (if ((l0.length:Int):Int).toNat≤70368744177664 then (zbe.l0 k l0 a1 (List.replicate ((l0.length:Int):Int).toNat 0) 0 (wrap64 ((l0.length:Int)-1))) else (none)) else (none)
theorem zbe.mono_l:∀ k,(∀ y0 y1 y2 y3 y4,LeO (zbe.l0 k y0 y1 y2 y3 y4) (zbe.l0 (k+1) y0 y1 y2 y3 y4))
 | 0=>fun _ _ _ _ _ r h=>by simp [zbe.l0] at h
 | k+1=>by
  have ih0:=zbe.mono_l k
  ·intro y0 y1 y2 y3 y4
   unfold zbe.l0
   repeat' first
   | (with_reducible exact ih0 _ _ _ _ _)
   | (with_reducible exact zas.mono _ _)
   | (with_reducible exact LeO.refl _)
   | (with_reducible exact LeO.none _)
   | (with_reducible refine LeO.ite ?_ ?_)
   | (with_reducible refine LeO.bind ?_ (fun _=>?_))
   | exact ih0 _ _ _ _ _
   | exact zas.mono _ _
   | exact LeO.none _
   | refine LeO.ite ?_ ?_
   | refine LeO.bind ?_ (fun _=>?_)
theorem zbe.mono:∀ a0 a1 k,LeO (zbe.f k a0 a1) (zbe.f (k+1) a0 a1):=by
 intro a0 a1 k;have ih0:=zbe.mono_l k;unfold zbe.f
 repeat' first
  | (with_reducible exact ih0 _ _ _ _ _)
  | (with_reducible exact zas.mono _ _)
  | (with_reducible exact LeO.refl _)
  | (with_reducible exact LeO.none _)
  | (with_reducible refine LeO.ite ?_ ?_)
  | (with_reducible refine LeO.bind ?_ (fun _=>?_))
  | exact ih0 _ _ _ _ _
  | exact zas.mono _ _
  | exact LeO.none _
  | refine LeO.ite ?_ ?_
  | refine LeO.bind ?_ (fun _=>?_)
set_option maxHeartbeats 8000000 in
set_option maxRecDepth 100000 in
theorem zbe.calls (k:Nat) (A0:Option Addr) (c0:Nat) (l0:List Int) (a1:Int) (r1:List Int) (r2:Int) (w:World) (hr0:Kd.C (Kd.int .u32) w A0 l0.length l0) (hc0:l0.length≤c0) (h:zbe.f k l0 a1=some (r1,r2)) :
 Calls Tryd.prog 76 #[.slice A0 l0.length c0,.int .u32 a1] w fun e w'=>∃ v0_:Value,e = .returned (.tuple #[v0_,.int .u32 r2])∧Kd.R (Kd.int .u32) 25 w' w.heap.size (fun _=>True) v0_ r1∧Below w.heap.size w w':=by
 have HR0:=za1.mk hr0;have HC0:=za1.mk hc0;clear hr0 hc0;have HB:=am (Below.refl w.heap.size w);have H:(if 0≤(l0.length:Int) then (if ((l0.length:Int):Int).toNat≤70368744177664 then (zbe.l0 k l0 a1 (List.replicate ((l0.length:Int):Int).toNat 0) 0 (wrap64 ((l0.length:Int)-1))) else (none)) else (none))=some (r1,r2):=h;clear h
 by_cases c3:0≤(l0.length:Int)
 ·rw [if_pos c3] at H
  have c3b0:=eq_true c3;have c3b1:decide (0≤(l0.length:Int))=true:=decide_eq_true c3;clear c3
  by_cases c4:((l0.length:Int):Int).toNat≤70368744177664
  ·rw [if_pos c4] at H
   have c4b0:=eq_true c4;have c4b1:decide (((l0.length:Int):Int).toNat≤70368744177664)=true:=decide_eq_true c4;clear c4
   obtain ⟨y394,hy394⟩:∃ y_:List Int,y_=(List.replicate ((l0.length:Int):Int).toNat 0):=⟨_,rfl⟩
   replace H:(zbe.l0 k l0 a1 y394 0 (wrap64 ((l0.length:Int)-1)))=some (r1,r2):=by first|(rw [hy394];with_reducible exact H)|(have H2_:=(Option.bind_some _ _).symm.trans H;rw [hy394];with_reducible exact H2_)|(have H2_:=(Option.bind_some _ _).symm.trans H;with_reducible exact H2_)|with_reducible exact H|(rw [hy394];exact H)|exact H
   have Ny394:=za1.mk hy394;clear hy394;have H':=za1.mk H;clear H;go_enter Tryd.func76,Tryd.ntmps76
   go_wp2_with (first|((with_reducible refine zbr (N:=11) rfl ?_);refine Kd.R_make (Kd.int .u32) _ 25 rfl (N:=11) rfl 116 _ _ rfl (l0.length:Int) rfl rfl Tryd.underlying116 (.int .u32 0) 4 info25 rfl (by decide) (by omega) 0 (ok:=fun _=>True) (okp:=fun _=>True) rfl (fun _ hk=>hk) trivial (of_decide_eq_true q0) (Nat.le_trans (Nat.mul_le_mul_right _ (of_decide_eq_true q0:(l0.length:Int).toNat≤70368744177664)) (by omega)) (Below.refl _ _) (Nat.le_refl _) ?_;intro v395 w5 ho6 hb hg_ hnew_;clear hg_ hnew_;(first|rw [← Ny394.out] at ho6|(simp only [Int.reduceToNat] at ho6;rw [← Ny394.out] at ho6));have HO396:=am (Kd.zc9 ho6 (zbb q2));replace HB:=am (zab q2 hb);clear hb ho6))
   go_loopg [7,8] k (fun kq v7 v8 w'=>∃ (x6_1:List Int) (x7_1:Int) (x8_1:Int),v7 = .int .u64 x7_1∧v8 = .int .i64 x8_1∧za1 (zbe.l0 kq l0 a1 x6_1 x7_1 x8_1=some (r1,r2))∧za1 (kq≤k)∧za1 (Kd.R (Kd.int .u32) 25 w' w.heap.size (fun _=>True) v395 x6_1)∧za1 (Below w.heap.size w w'))
   case atStart=>exact ⟨(y394),(0),(wrap64 ((l0.length:Int)-1)),q5,q5,H',⟨Nat.le_refl _⟩,⟨by (with_reducible repeat (first|apply Kd.zb1|apply Kd.zb2|apply Kd.zb9));exact HO396.out⟩,⟨q2⟩⟩
   case round=>
    clear H';(try clear p2);(try clear c3);(try clear c3b0);(try clear c3b1);(try clear c4);(try clear c4b0);(try clear c4b1);(try clear p6);obtain ⟨x6_1,x7_1,x8_1,rfl,rfl,HA,HK1,HO_6,HB⟩:=hrel
    cases gk with
    | zero=>exact absurd HA.out (by simp [zbe.l0])
    | succ k1=>
     have H:=HA.out;clear HA;simp only [zbe.l0] at H
     by_cases c7:x8_1≥0
     ·rw [if_pos c7] at H
      have c7b0:decide (0≤x8_1)=true:=decide_eq_true c7;clear c7
      by_cases c8:0≤x8_1
      ·rw [if_pos c8] at H
       have c8b0:decide (0≤x8_1)=true:=decide_eq_true c8;clear c8
       by_cases c9:x8_1<(l0.length:Int)
       ·rw [if_pos c9] at H
        have c9b0:decide (x8_1<(l0.length:Int))=true:=decide_eq_true c9;clear c9
        by_cases c10:(IntKind.u64.wrap (a1))=0
        ·rw [if_pos c10] at H
         exact absurd H (by simp)
        ·rw [if_neg c10] at H
         have c10b0:((IntKind.u64.wrap (a1)) == 0)=false:=beq_eq_false_iff_ne.mpr c10;have c10b1:((IntKind.u64.wrap (a1)) != 0)=true:=bne_iff_ne.mpr c10
         by_cases c11:x8_1<(x6_1.length:Int)
         ·rw [if_pos c11] at H
          have c11b0:decide (x8_1<(x6_1.length:Int))=true:=decide_eq_true c11;clear c11
          obtain ⟨y398,hy398⟩:∃ y_:List Int,y_=(x6_1.set (x8_1:Int).toNat ((IntKind.u64.wrap (Int.tdiv (Go.bits .or .u64 (IntKind.u64.wrap (x7_1*4294967296)) (IntKind.u64.wrap (rd l0 x8_1))) (IntKind.u64.wrap (a1))))%4294967296)):=⟨_,rfl⟩
          replace H:(zbe.l0 k1 l0 a1 y398 (Int.tmod (Go.bits .or .u64 (IntKind.u64.wrap (x7_1*4294967296)) (IntKind.u64.wrap (rd l0 x8_1))) (IntKind.u64.wrap (a1))) (wrap64 (x8_1-1)))=some (r1,r2):=by first|(rw [hy398];with_reducible exact H)|(have H2_:=(Option.bind_some _ _).symm.trans H;rw [hy398];with_reducible exact H2_)|(have H2_:=(Option.bind_some _ _).symm.trans H;with_reducible exact H2_)|with_reducible exact H|(rw [hy398];exact H)|exact H
          have Ny398:=za1.mk hy398;clear hy398;have H':=za1.mk H;clear H;have p397:0≤(x8_1:Int):=of_decide_eq_true q0;have q397:x8_1<(l0.length:Int):=of_decide_eq_true q0;obtain ⟨ad397,e397,hx397_0⟩:=Kd.at_int HR0.out x8_1 p397 q397;cases e397;replace hx397_0:=(HB.out.cell (World.block_lt_of_cell? w _ hx397_0)).trans hx397_0;replace p397:=eq_true p397;replace q397:=eq_true q397;have p12:0≤(x8_1:Int):=of_decide_eq_true q0;have q12:(x8_1:Int)<((x6_1.length:Int):Int):=of_decide_eq_true q0;obtain ⟨go12,co12,eo12,g_a,gl12,cl12,HG12⟩:=Kd.R_form HO_6.out (by omega)
          (first|cases eo12|(injection eo12 with ea_ en_ ec_;(first|subst ea_|(injection ea_ with ea_;subst ea_));subst ec_;clear en_))
          have GB12:=za1.mk g_a;have GG12:=za1.mk HG12;clear g_a gl12 HG12;obtain ⟨hx12_0,hf12_0⟩:=Kd.R_celln 0 HO_6.out (x8_1:Int) p12 q12;replace p12:=eq_true p12;replace q12:=eq_true q12;have HP13:=Kd.R_putg HO_6.out (x8_1:Int) ((IntKind.u64.wrap (Int.tdiv (Go.bits .or .u64 (IntKind.u64.wrap (x7_1*4294967296)) (IntKind.u64.wrap (rd l0 x8_1))) (IntKind.u64.wrap (a1))))%4294967296)
          go_wp2_with (first|((with_reducible refine gate_store (t:=25) (p:=34) rfl ?_);refine store_event (t:=25) (p:=34) (v:=?vo_w14) (w1:=(wr.setCell ⟨go12,(x8_1:Int).toNat,none⟩ (.int .u32 ((IntKind.u64.wrap (Int.tdiv (Go.bits .or .u64 (IntKind.u64.wrap (x7_1*4294967296)) (IntKind.u64.wrap (rd l0 x8_1))) (IntKind.u64.wrap (a1))))%4294967296)))) ?hg ?ho ?hn ?hr ?_;(case ho=>rfl);(case hg=>rfl);(case hn=>rfl);(case hr=>first|(go_simp;done)|(go_simp;rfl));intro w14 hw;have hg:wr.grownBy w14 (some go12):=(by rw [hw];exact HP13.2);have hp_:Kd.R (Kd.int .u32) 25 w14 w.heap.size (fun _=>True) (.slice (some ⟨go12,0,none⟩) x6_1.length co12) y398:=(by rw [hw,Ny398.out];exact HP13.1);clear HP13;replace HO_6:=am (hp_);replace HB:=am ((by rw [hw];exact zak (HB.out) GB12.out:Below w.heap.size w w14));clear hg hw hp_))
          go_roundg k1
          case measure=>have:=HK1.out;omega
          case rel=>exact ⟨(y398),(Int.tmod (Go.bits .or .u64 (IntKind.u64.wrap (x7_1*4294967296)) (IntKind.u64.wrap (rd l0 x8_1))) (IntKind.u64.wrap (a1))),(wrap64 (x8_1-1)),q5,q5,H',⟨q13⟩,⟨by (with_reducible repeat (first|apply Kd.zb1|apply Kd.zb2|apply Kd.zb9));exact HO_6.out⟩,⟨q2⟩⟩
         ·rw [if_neg c11] at H
          exact absurd H (by simp)
       ·rw [if_neg c9] at H
        exact absurd H (by simp)
      ·rw [if_neg c8] at H
       exact absurd H (by simp)
     ·rw [if_neg c7] at H
      have c7b0:decide (0≤x8_1)=false:=decide_eq_false c7;clear c7;replace H:=Option.bind_eq_some_iff.mp H;obtain ⟨t399,A150,H⟩:=H;replace H:(some (t399,(x7_1)%4294967296))=some (r1,r2):=H;have A15:=za1.mk A150;clear A150;simp only [Option.some.injEq,Prod.mk.injEq] at H;obtain ⟨rfl,rfl⟩:=H;obtain ⟨Ao16,co16,eo16⟩:=Kd.zbn HO_6.out;subst eo16
      go_wp2_with (first|((with_reducible refine zan (f:=66) rfl ?_);refine goesL_ (some 40) rfl rfl Tryd.func66 (by kernel_rfl) rfl #[.slice Ao16 x6_1.length co16] rfl q4 ?_;(with_reducible refine (zas.calls k1 (fun k_=>some k_=(.slice Ao16 x6_1.length co16:Value).ownBlock) (.slice Ao16 x6_1.length co16) x6_1 t399 w _ ?side1 ?side2 A15.out).mono ?_);(case side1=>repeat (first|(with_reducible first|exact HB.out|apply zaw|apply zah|apply zar)|exact HB.out));(case side2=>exact Kd.zci rfl HO_6.out);rintro e w17 ⟨v400,rfl,ho0,hb,hkp⟩;refine ⟨_,rfl,?_⟩;have n0_:=am (Kd.zbm (ok':=fun k_=>True) ho0 (fun k_ hk_=>trivial));have n1_:=am (hb);clear HB;clear HO_6;have HO401:=n0_;have HB:=n1_;clear n0_ n1_;(try clear hb);(try clear hkp);(try clear ho0)))
      go_ret2
      exact ⟨_,q8,by (with_reducible repeat (first|apply Kd.zb1|apply Kd.zb2|apply Kd.zb9));exact HO401.out,q2⟩
  ·rw [if_neg c4] at H
   exact absurd H (by simp)
 ·rw [if_neg c3] at H
  exact absurd H (by simp)
def zbp.f (k:Nat) (l0:List Int) (l1:List Int):Option (List Int×List Int):=(zbg.f k l0 l1).bind fun t454=>(if t454<0 then (some (([]:List Int),l0)) else (if (l1.length:Int)=1 then (if 0<(l1.length:Int) then ((zbe.f k l0 (rd l1 0)).bind fun bt456=>((zas.f k (([bt456.2]:List Int))).bind fun t463=>(some (bt456.1,t463)))) else (none)) else ((zca.f k l0 l1).bind fun bt466=>(some (bt466.1,bt466.2)))))
theorem zbp.mono:∀ a0 a1 k,LeO (zbp.f k a0 a1) (zbp.f (k+1) a0 a1):=by
 intro a0 a1 k;unfold zbp.f
 repeat' first
  | (with_reducible exact zca.mono _ _ _)
  | (with_reducible exact zbg.mono _ _ _)
  | (with_reducible exact zbe.mono _ _ _)
  | (with_reducible exact zas.mono _ _)
  | (with_reducible exact LeO.refl _)
  | (with_reducible exact LeO.none _)
  | (with_reducible refine LeO.ite ?_ ?_)
  | (with_reducible refine LeO.bind ?_ (fun _=>?_))
  | exact zca.mono _ _ _
  | exact zbg.mono _ _ _
  | exact zbe.mono _ _ _
  | exact zas.mono _ _
  | exact LeO.none _
  | refine LeO.ite ?_ ?_
  | refine LeO.bind ?_ (fun _=>?_)
set_option maxHeartbeats 8000000 in
set_option maxRecDepth 100000 in
theorem zbp.callsF (k:Nat) (P0_:Nat→Prop) (u9000_:Value) (l0:List Int) (A1:Option Addr) (c1:Nat) (l1:List Int) (r1:List Int) (r2:List Int) (w0 w:World) (hB:Below w0.heap.size w0 w) (ho0:Kd.R (Kd.int .u32) 25 w w0.heap.size P0_ u9000_ l0) (hr1:∀ W_,Kept w W_ (fun _=>False)→Kd.C (Kd.int .u32) W_ A1 l1.length l1) (hc1:l1.length≤c1) (h:zbp.f k l0 l1=some (r1,r2)) :
 Calls Tryd.prog 67 #[u9000_,.slice A1 l1.length c1] w fun e w'=>∃ v0_ v1_:Value,e = .returned (.tuple #[v0_,v1_])∧Kd.R (Kd.int .u32) 25 w' w0.heap.size (fun k_=>(P0_ k_∨w.heap.size≤k_)∧some k_≠(v1_:Value).ownBlock) v0_ r1∧Kd.R (Kd.int .u32) 25 w' w0.heap.size (fun k_=>(P0_ k_∨w.heap.size≤k_)∧some k_≠(v0_:Value).ownBlock) v1_ r2∧Below w0.heap.size w0 w'∧Kept w w' (fun _=>False):=by
 have HO0:=am (show Kd.R (Kd.int .u32) 25 w w0.heap.size (fun k_=>(P0_ k_∨w.heap.size≤k_)) u9000_ l0 from Kd.zbm ho0 (fun k_ hk=>(.inl hk)));have HR1:=za1.mk hr1;have HC1:=za1.mk hc1;clear hr1 hc1;have HK:=am (Kept.refl w (fun _=>False));have HW0:=za1.mk hB.size;have HB:=za1.mk hB;clear hB;have H:((zbg.f k l0 l1).bind fun t454=>(if t454<0 then (some (([]:List Int),l0)) else (if (l1.length:Int)=1 then (if 0<(l1.length:Int) then ((zbe.f k l0 (rd l1 0)).bind fun bt456=>((zas.f k (([bt456.2]:List Int))).bind fun t463=>(some (bt456.1,t463)))) else (none)) else ((zca.f k l0 l1).bind fun bt466=>(some (bt466.1,bt466.2))))))=some (r1,r2):=h;clear h;replace H:=Option.bind_eq_some_iff.mp H;obtain ⟨t454,A30,H⟩:=H;replace H:(if t454<0 then (some (([]:List Int),l0)) else (if (l1.length:Int)=1 then (if 0<(l1.length:Int) then ((zbe.f k l0 (rd l1 0)).bind fun bt456=>((zas.f k (([bt456.2]:List Int))).bind fun t463=>(some (bt456.1,t463)))) else (none)) else ((zca.f k l0 l1).bind fun bt466=>(some (bt466.1,bt466.2)))))=some (r1,r2):=H;have A3:=za1.mk A30;clear A30
 by_cases c4:t454<0
 ·rw [if_pos c4] at H
  have c4b0:decide (t454<0)=true:=decide_eq_true c4;clear c4;simp only [Option.some.injEq,Prod.mk.injEq] at H;obtain ⟨rfl,rfl⟩:=H;obtain ⟨Ao5,co5,eo5⟩:=Kd.zbn HO0.out;subst eo5;go_enter Tryd.func67,Tryd.ntmps67
  go_wp2_with (first|((with_reducible refine zan (f:=75) rfl ?_);refine goesL_ (some 10) rfl rfl Tryd.func75 (by kernel_rfl) rfl #[.slice Ao5 l0.length co5,.slice A1 l1.length c1] rfl q4 ?_;(with_reducible refine (zbg.calls k _ _ l0 _ _ l1 t454 _ ?side1 ?side2 ?side3 ?side4 A3.out).mono ?_);(case side1=>repeat (first|exact (Kd.R_reads' HO0.out).2.2|(with_reducible refine Kd.zbv ?_ _)|(with_reducible refine Kd.zbw ?_ _)|(with_reducible refine Kd.zc8 ?_)));(case side2=>exact (Kd.R_reads' HO0.out).2.1);(case side3=>exact Kd.zcy HR1.out q9);(case side4=>exact HC1.out);rintro e w' ⟨rfl,⟨nd,rfl⟩⟩;refine ⟨_,rfl,?_⟩))
  go_ret2
  exact ⟨_,_,q8,q26,by (with_reducible repeat (first|apply Kd.zb1|apply Kd.zb2|apply Kd.zb9));exact Kd.zbm HO0.out (fun _ hk=>⟨hk,(by simp [Value.ownBlock])⟩),q2,q9⟩
 ·rw [if_neg c4] at H
  have c4b0:decide (t454<0)=false:=decide_eq_false c4;clear c4
  by_cases c6:(l1.length:Int)=1
  ·rw [if_pos c6] at H
   have c6b0:((l1.length:Int) == 1)=true:=beq_iff_eq.mpr c6;have c6b1:((l1.length:Int) != 1)=false:=bne_eq_false_iff_eq.mpr c6;clear c6
   by_cases c7:0<(l1.length:Int)
   ·rw [if_pos c7] at H
    have c7b0:decide (0<(l1.length:Int))=true:=decide_eq_true c7;have c7b1:decide (0<l1.length)=true:=decide_eq_true (by omega);clear c7;replace H:=Option.bind_eq_some_iff.mp H;obtain ⟨⟨t456,t457⟩,A80,H⟩:=H;replace H:((zas.f k (([t457]:List Int))).bind fun t463=>(some (t456,t463)))=some (r1,r2):=H;have A8:=za1.mk A80;clear A80
    obtain ⟨y460,hy460⟩:∃ y_:List Int,y_=(([t457]:List Int)):=⟨_,rfl⟩
    replace H:((zas.f k y460).bind fun t463=>(some (t456,t463)))=some (r1,r2):=by first|(rw [hy460];with_reducible exact H)|(have H2_:=(Option.bind_some _ _).symm.trans H;rw [hy460];with_reducible exact H2_)|(have H2_:=(Option.bind_some _ _).symm.trans H;with_reducible exact H2_)|with_reducible exact H|(rw [hy460];exact H)|exact H
    have Ny460:=za1.mk hy460;clear hy460;replace H:=Option.bind_eq_some_iff.mp H;obtain ⟨t463,A90,H⟩:=H;replace H:(some (t456,t463))=some (r1,r2):=H;have A9:=za1.mk A90;clear A90;simp only [Option.some.injEq,Prod.mk.injEq] at H;obtain ⟨rfl,rfl⟩:=H;obtain ⟨Ao10,co10,eo10⟩:=Kd.zbn HO0.out;subst eo10;go_enter Tryd.func67,Tryd.ntmps67
    go_wp2_with (first|((with_reducible refine zan (f:=75) rfl ?_);refine goesL_ (some 10) rfl rfl Tryd.func75 (by kernel_rfl) rfl #[.slice Ao10 l0.length co10,.slice A1 l1.length c1] rfl q4 ?_;(with_reducible refine (zbg.calls k _ _ l0 _ _ l1 t454 _ ?side1 ?side2 ?side3 ?side4 A3.out).mono ?_);(case side1=>repeat (first|exact (Kd.R_reads' HO0.out).2.2|(with_reducible refine Kd.zbv ?_ _)|(with_reducible refine Kd.zbw ?_ _)|(with_reducible refine Kd.zc8 ?_)));(case side2=>exact (Kd.R_reads' HO0.out).2.1);(case side3=>exact Kd.zcy HR1.out q9);(case side4=>exact HC1.out);rintro e w' ⟨rfl,⟨nd,rfl⟩⟩;refine ⟨_,rfl,?_⟩;have p455:0≤(0:Int):=(by omega);have q455:0<(l1.length:Int):=of_decide_eq_true q0;obtain ⟨ad455,e455,hx455_0⟩:=Kd.at_int (Kd.zcy HR1.out HK.out) 0 p455 q455;cases e455;have qi455:(0<l1.length)=True:=eq_true (by omega);(try rw [show ((0:Int)).toNat=0 from rfl] at hx455_0);(try rw [Addr.add_zero'] at hx455_0);replace p455:=eq_true p455;replace q455:=eq_true q455)|((with_reducible refine zan (f:=76) rfl ?_);refine goesL_ (some 21) rfl rfl Tryd.func76 (by kernel_rfl) rfl #[.slice Ao10 l0.length co10,.int .u32 (rd l1 0)] rfl q4 ?_;(with_reducible refine (zbe.calls k _ _ l0 (rd l1 0) t456 t457 _ ?side1 ?side2 A8.out).mono ?_);(case side1=>repeat (first|exact (Kd.R_reads' HO0.out).2.2|(with_reducible refine Kd.zbv ?_ _)|(with_reducible refine Kd.zbw ?_ _)|(with_reducible refine Kd.zc8 ?_)));(case side2=>exact (Kd.R_reads' HO0.out).2.1);rintro e w11 ⟨v458,rfl,ho0,hb⟩;refine ⟨_,rfl,?_⟩;have HO459:=am (Kd.zc9 (Kd.R_new' (Kd.R_newM (M:=fun k_=>(P0_ k_∨w.heap.size≤k_)) ho0 (by first|exact HK.out.1|exact (show Kept w _ (fun _=>False) from by repeat (first|(with_reducible first|exact HK.out|apply Kept.alloc|apply Kept.drewN|apply Kept.drew)|exact HK.out)).1) (fun k_ h_=>.inr h_)) (Kd.R_lt q21)) (zbb q2));replace HO0:=am (Kd.R_elder' q21 (Kd.zct ho0) hb);replace HK:=am (Kept.below (S:=(fun _=>False)) q9 hb);replace HB:=am (zab q2 hb);(try clear hb);(try clear hb2);(try clear hk);(try clear hi);(try clear ho0))|((with_reducible refine zbr (N:=26) rfl ?_);refine Kd.R_lit (Kd.int .u32) _ 25 ?hg (N:=26) ?hd (xs:=([t457]:List Int)) (inner:=[.int .u32 t457]) (ok:=fun _=>True) (okp:=fun _=>True) ?hr ?hp (fun _ hk=>hk) trivial (Below.refl _ _) (Nat.le_refl _) (by simp) ?_;(case hd=>rfl);(case hg=>rfl);(case hr=>first|(go_simp;done)|(go_simp;rfl));(case hp=>exact (Reps.one (show Kd.M (Kd.int .u32) _ _ _ t457 [.int .u32 t457] from rfl) (Reps.none _ _)));intro v461 w12 ho13 hb hg_ hnew_;clear hg_ hnew_;(first|rw [← Ny460.out] at ho13|(simp only [Int.reduceToNat] at ho13;rw [← Ny460.out] at ho13));have HO462:=am (Kd.zc9 (Kd.R_new' (Kd.R_new' (Kd.R_newM (M:=fun k_=>(P0_ k_∨w.heap.size≤k_)) ho13 (by first|exact HK.out.1|exact (show Kept w _ (fun _=>False) from by repeat (first|(with_reducible first|exact HK.out|apply Kept.alloc|apply Kept.drewN|apply Kept.drew)|exact HK.out)).1) (fun k_ h_=>.inr h_)) (Kd.R_lt q21)) (Kd.R_lt (by (with_reducible repeat (first|apply Kd.zb1|apply Kd.zb2|apply Kd.zb9));exact HO459.out))) (zbb q2));replace HO0:=am (Kd.R_elder' q21 (Kd.zct ho13) hb);replace HO459:=am (Kd.R_elder' (by (with_reducible repeat (first|apply Kd.zb1|apply Kd.zb2|apply Kd.zb9));exact HO459.out) (Kd.zct ho13) hb);replace HK:=am (Kept.below (S:=(fun _=>False)) q9 hb);replace HB:=am (zab q2 hb);clear hb ho13;obtain ⟨Ao14,co14,eo14⟩:=Kd.zbn HO462.out;subst eo14)|((with_reducible refine zan (f:=66) rfl ?_);refine goesL_ (some 27) rfl rfl Tryd.func66 (by kernel_rfl) rfl #[.slice Ao14 y460.length co14] rfl q4 ?_;(with_reducible refine (zas.callsF k (fun k_=>some k_=(.slice Ao14 y460.length co14:Value).ownBlock) (.slice Ao14 y460.length co14) y460 t463 w0 _ ?side1 ?side2 A9.out).mono ?_);(case side1=>repeat (first|(with_reducible first|exact HB.out|apply zaw|apply zah|apply zar)|exact HB.out));(case side2=>exact Kd.zci rfl HO462.out);rintro e w15 ⟨v464,rfl,ho0,hb,hkp⟩;refine ⟨_,rfl,?_⟩;have n0_:=am (Kd.zbm (ok':=fun k_=>(P0_ k_∨w.heap.size≤k_)∧some k_≠(v458:Value).ownBlock∧some k_≠(v464:Value).ownBlock) (Kd.zd9 (HO0.out) hkp (fun _ _ hs_=>hs_)) (fun k_ hk_=>⟨hk_.1.1.1,hk_.1.1.2,fun e_=>Or.elim (ho0.1 k_ e_.symm) (fun hs_=>by first|exact hk_.1.2 hs_|exact hk_.1.1.2 hs_|exact hk_.1.2.1 hs_|exact hk_.1.2.2 hs_|exact hk_.1.1.1.2 hs_) (fun hn_=>Nat.not_le.2 hk_.2.2 hn_)⟩));have n1_:=am (Kd.zbm (ok':=fun k_=>(P0_ k_∨w.heap.size≤k_)∧some k_≠(.slice Ao10 l0.length co10:Value).ownBlock∧some k_≠(v464:Value).ownBlock) (Kd.zd9 (HO459.out) hkp (fun _ _ hs_=>hs_)) (fun k_ hk_=>⟨hk_.1.1.1.1,hk_.1.1.2,fun e_=>Or.elim (ho0.1 k_ e_.symm) (fun hs_=>by first|exact hk_.1.2 hs_|exact hk_.1.1.2 hs_|exact hk_.1.2.1 hs_|exact hk_.1.2.2 hs_|exact hk_.1.1.1.2 hs_) (fun hn_=>Nat.not_le.2 hk_.2.2 hn_)⟩));have n2_:=am (Kd.zbm (ok':=fun k_=>(P0_ k_∨w.heap.size≤k_)∧some k_≠(.slice Ao10 l0.length co10:Value).ownBlock∧some k_≠(v458:Value).ownBlock) ho0 (fun k_ hk_=>⟨Or.elim hk_ (fun hs_=>(HO462.out.1 k_ (hs_).symm).1.1.1) (fun hn_=>(.inr (Nat.le_trans (by first|exact HK.out.1|exact (show Kept w _ (fun _=>False) from by repeat (first|(with_reducible first|exact HK.out|apply Kept.alloc|apply Kept.drewN|apply Kept.drew)|exact HK.out)).1) hn_))),Or.elim hk_ (fun hs_=>fun e_=>(((HO0.out).1 k_ e_.symm).2) hs_) (fun hn_=>(Kd.fresh' (Kd.R_lt q21) k_ hn_)),Or.elim hk_ (fun hs_=>fun e_=>(((HO459.out).1 k_ e_.symm).2) hs_) (fun hn_=>(Kd.fresh' (Kd.R_lt (by (with_reducible repeat (first|apply Kd.zb1|apply Kd.zb2|apply Kd.zb9));exact HO459.out)) k_ hn_))⟩));have n3_:=am (Kept.then_ (S:=(fun _=>False)) q9 hkp (fun _ hs_=>hs_.elim));have n4_:=am (hb);clear HO0;clear HO459;clear HK;clear HB;clear HO462;have HO0:=n0_;have HO459:=n1_;have HO465:=n2_;have HK:=n3_;have HB:=n4_;clear n0_ n1_ n2_ n3_ n4_;(try clear hb);(try clear hkp);(try clear ho0)))
    go_ret2
    exact ⟨_,_,q8,by (with_reducible repeat (first|apply Kd.zb1|apply Kd.zb2|apply Kd.zb9));exact Kd.zbm HO459.out (fun _ hk=>⟨hk.1,hk.2.2⟩),by (with_reducible repeat (first|apply Kd.zb1|apply Kd.zb2|apply Kd.zb9));exact Kd.zbm HO465.out (fun _ hk=>⟨hk.1,hk.2.2⟩),q2,q9⟩
   ·rw [if_neg c7] at H
    exact absurd H (by simp)
  ·rw [if_neg c6] at H
   have c6b0:((l1.length:Int) == 1)=false:=beq_eq_false_iff_ne.mpr c6;have c6b1:((l1.length:Int) != 1)=true:=bne_iff_ne.mpr c6;replace H:=Option.bind_eq_some_iff.mp H;obtain ⟨⟨t466,t467⟩,A160,H⟩:=H;replace H:(some (t466,t467))=some (r1,r2):=H;have A16:=za1.mk A160;clear A160;simp only [Option.some.injEq,Prod.mk.injEq] at H;obtain ⟨rfl,rfl⟩:=H;obtain ⟨Ao17,co17,eo17⟩:=Kd.zbn HO0.out;subst eo17;go_enter Tryd.func67,Tryd.ntmps67
   go_wp2_with (first|((with_reducible refine zan (f:=75) rfl ?_);refine goesL_ (some 10) rfl rfl Tryd.func75 (by kernel_rfl) rfl #[.slice Ao17 l0.length co17,.slice A1 l1.length c1] rfl q4 ?_;(with_reducible refine (zbg.calls k _ _ l0 _ _ l1 t454 _ ?side1 ?side2 ?side3 ?side4 A3.out).mono ?_);(case side1=>repeat (first|exact (Kd.R_reads' HO0.out).2.2|(with_reducible refine Kd.zbv ?_ _)|(with_reducible refine Kd.zbw ?_ _)|(with_reducible refine Kd.zc8 ?_)));(case side2=>exact (Kd.R_reads' HO0.out).2.1);(case side3=>exact Kd.zcy HR1.out q9);(case side4=>exact HC1.out);rintro e w' ⟨rfl,⟨nd,rfl⟩⟩;refine ⟨_,rfl,?_⟩)|((with_reducible refine zan (f:=77) rfl ?_);refine goesL_ (some 30) rfl rfl Tryd.func77 (by kernel_rfl) rfl #[.slice Ao17 l0.length co17,.slice A1 l1.length c1] rfl q4 ?_;(with_reducible refine (zca.calls k _ _ l0 _ _ l1 t466 t467 _ ?side1 ?side2 ?side3 ?side4 A16.out).mono ?_);(case side1=>repeat (first|exact (Kd.R_reads' HO0.out).2.2|(with_reducible refine Kd.zbv ?_ _)|(with_reducible refine Kd.zbw ?_ _)|(with_reducible refine Kd.zc8 ?_)));(case side2=>exact (Kd.R_reads' HO0.out).2.1);(case side3=>exact Kd.zcy HR1.out q9);(case side4=>exact HC1.out);rintro e w18 ⟨v468,v470,rfl,ho0,ho1,hb⟩;refine ⟨_,rfl,?_⟩;have HO469:=am (Kd.zc9 (Kd.R_new' (Kd.R_newM (M:=fun k_=>(P0_ k_∨w.heap.size≤k_)) ho0 (by first|exact HK.out.1|exact (show Kept w _ (fun _=>False) from by repeat (first|(with_reducible first|exact HK.out|apply Kept.alloc|apply Kept.drewN|apply Kept.drew)|exact HK.out)).1) (fun k_ h_=>.inr h_)) (Kd.R_lt q21)) (zbb q2));have HO471:=am (Kd.zc9 (Kd.R_new' (Kd.R_newM (M:=fun k_=>(P0_ k_∨w.heap.size≤k_)) ho1 (by first|exact HK.out.1|exact (show Kept w _ (fun _=>False) from by repeat (first|(with_reducible first|exact HK.out|apply Kept.alloc|apply Kept.drewN|apply Kept.drew)|exact HK.out)).1) (fun k_ h_=>.inr h_)) (Kd.R_lt q21)) (zbb q2));replace HO0:=am (Kd.zbm (Kd.R_told (Kd.R_told (Kd.R_old q21 hb) (Kd.zct ho0)) (Kd.zct ho1)) (fun _ h_=>h_.1));replace HK:=am (Kept.below (S:=(fun _=>False)) q9 hb);replace HB:=am (zab q2 hb);(try clear hb);(try clear hb2);(try clear hk);(try clear hi);(try clear ho0);(try clear ho1)))
   go_ret2
   exact ⟨_,_,q8,by (with_reducible repeat (first|apply Kd.zb1|apply Kd.zb2|apply Kd.zb9));exact Kd.zbm HO469.out (fun _ hk=>⟨hk.1.1,hk.1.2⟩),by (with_reducible repeat (first|apply Kd.zb1|apply Kd.zb2|apply Kd.zb9));exact Kd.zbm HO471.out (fun _ hk=>⟨hk.1.1,hk.1.2⟩),q2,q9⟩
theorem zbp.calls (k:Nat) (P0_:Nat→Prop) (u9000_:Value) (l0:List Int) (A1:Option Addr) (c1:Nat) (l1:List Int) (r1:List Int) (r2:List Int) (w0 w:World) (hB:Below w0.heap.size w0 w) (ho0:Kd.R (Kd.int .u32) 25 w w0.heap.size P0_ u9000_ l0) (hr1:∀ W_,Kept w W_ (fun k_=>P0_ k_)→Kd.C (Kd.int .u32) W_ A1 l1.length l1) (hc1:l1.length≤c1) (h:zbp.f k l0 l1=some (r1,r2)) :
 Calls Tryd.prog 67 #[u9000_,.slice A1 l1.length c1] w fun e w'=>∃ v0_ v1_:Value,e = .returned (.tuple #[v0_,v1_])∧Kd.R (Kd.int .u32) 25 w' w0.heap.size (fun k_=>(P0_ k_∨w.heap.size≤k_)∧some k_≠(v1_:Value).ownBlock) v0_ r1∧Kd.R (Kd.int .u32) 25 w' w0.heap.size (fun k_=>(P0_ k_∨w.heap.size≤k_)∧some k_≠(v0_:Value).ownBlock) v1_ r2∧Below w0.heap.size w0 w'∧Kept w w' (fun k_=>P0_ k_):=by
 refine (zbp.callsF k P0_ u9000_ l0 A1 c1 l1 r1 r2 w0 w hB ho0 (fun W_ h_=>hr1 W_ (Kept.of_false h_)) hc1 h).mono ?_;rintro e w' ⟨v0,v1,h0,h1,h2,h3,h4⟩;exact ⟨v0,v1,h0,h1,h2,h3,Kept.of_false h4⟩
def zb0.l0:Nat→List Int→List Int→Option (List Int)
 | 0,_,_=>none
 | k+1,x0,x1=>if (x1.length:Int)>0 then ((zbp.f k x0 x1).bind fun bt472=>(zb0.l0 k x1 bt472.2)) else (some x0)
def zb0.f (k:Nat) (l0:List Int) (l1:List Int):Option (List Int):=zb0.l0 k l0 l1
theorem zb0.mono_l:∀ k,(∀ y0 y1,LeO (zb0.l0 k y0 y1) (zb0.l0 (k+1) y0 y1))
 | 0=>fun _ _ r h=>by simp [zb0.l0] at h
 | k+1=>by
  have ih0:=zb0.mono_l k
  ·intro y0 y1
   unfold zb0.l0
   repeat' first
   | (with_reducible exact ih0 _ _)
   | (with_reducible exact zbp.mono _ _ _)
   | (with_reducible exact LeO.refl _)
   | (with_reducible exact LeO.none _)
   | (with_reducible refine LeO.ite ?_ ?_)
   | (with_reducible refine LeO.bind ?_ (fun _=>?_))
   | exact ih0 _ _
   | exact zbp.mono _ _ _
   | exact LeO.none _
   | refine LeO.ite ?_ ?_
   | refine LeO.bind ?_ (fun _=>?_)
theorem zb0.mono:∀ a0 a1 k,LeO (zb0.f k a0 a1) (zb0.f (k+1) a0 a1):=by
 intro a0 a1 k;have ih0:=zb0.mono_l k;unfold zb0.f
 repeat' first
  | (with_reducible exact ih0 _ _)
  | (with_reducible exact zbp.mono _ _ _)
  | (with_reducible exact LeO.refl _)
  | (with_reducible exact LeO.none _)
  | (with_reducible refine LeO.ite ?_ ?_)
  | (with_reducible refine LeO.bind ?_ (fun _=>?_))
  | exact ih0 _ _
  | exact zbp.mono _ _ _
  | exact LeO.none _
  | refine LeO.ite ?_ ?_
  | refine LeO.bind ?_ (fun _=>?_)
set_option maxHeartbeats 8000000 in
set_option maxRecDepth 100000 in
theorem zb0.callsF (k:Nat) (P0_:Nat→Prop) (u9000_:Value) (l0:List Int) (P1_:Nat→Prop) (u9001_:Value) (l1:List Int) (r:List Int) (w0 w:World) (hB:Below w0.heap.size w0 w) (ho0:Kd.R (Kd.int .u32) 25 w w0.heap.size P0_ u9000_ l0) (hp0_1:∀ k_,P0_ k_ → ¬ P1_ k_) (ho1:Kd.R (Kd.int .u32) 25 w w0.heap.size P1_ u9001_ l1) (hp1_0:∀ k_,P1_ k_ → ¬ P0_ k_) (h:zb0.f k l0 l1=some r) :
 Calls Tryd.prog 60 #[u9000_,u9001_] w fun e w'=>∃ v0_:Value,e = .returned (v0_)∧Kd.R (Kd.int .u32) 25 w' w0.heap.size (fun k_=>((P0_ k_∨P1_ k_)∨w.heap.size≤k_)) v0_ r∧Below w0.heap.size w0 w'∧Kept w w' (fun _=>False):=by
 have HO0:=am (show Kd.R (Kd.int .u32) 25 w w0.heap.size (fun k_=>((P0_ k_∨P1_ k_)∨w.heap.size≤k_)∧some k_≠(u9001_:Value).ownBlock) u9000_ l0 from Kd.zbm ho0 (fun k_ hk=>⟨(.inl (.inl hk)),fun e_=>hp0_1 k_ hk (ho1.1 k_ e_.symm)⟩));have HO1:=am (show Kd.R (Kd.int .u32) 25 w w0.heap.size (fun k_=>((P0_ k_∨P1_ k_)∨w.heap.size≤k_)∧some k_≠(u9000_:Value).ownBlock) u9001_ l1 from Kd.zbm ho1 (fun k_ hk=>⟨(.inl (.inr hk)),fun e_=>hp1_0 k_ hk (ho0.1 k_ e_.symm)⟩));have HK:=am (Kept.refl w (fun _=>False));have HW0:=za1.mk hB.size;have HB:=za1.mk hB;clear hB;have H:(zb0.l0 k l0 l1)=some r:=h;clear h;have H':=za1.mk H;clear H;go_enter Tryd.func60,Tryd.ntmps60
 go_wp2
 go_loopg [0,1] k (fun kq v0 v1 w'=>∃ (x0_1:List Int) (x1_1:List Int),za1 (zb0.l0 kq x0_1 x1_1=some r)∧za1 (kq≤k)∧za1 (Kd.R (Kd.int .u32) 25 w' w0.heap.size (fun k_=>((P0_ k_∨P1_ k_)∨w.heap.size≤k_)∧some k_≠(v1:Value).ownBlock) v0 x0_1)∧za1 (Kd.R (Kd.int .u32) 25 w' w0.heap.size (fun k_=>((P0_ k_∨P1_ k_)∨w.heap.size≤k_)∧some k_≠(v0:Value).ownBlock) v1 x1_1)∧za1 (Kept w w' (fun _=>False))∧za1 (Below w0.heap.size w0 w'))
 case atStart=>exact ⟨(l0),(l1),H',⟨Nat.le_refl _⟩,⟨q21⟩,⟨by (with_reducible repeat (first|apply Kd.zb1|apply Kd.zb2|apply Kd.zb9));exact HO1.out⟩,⟨q9⟩,⟨q2⟩⟩
 case round=>
  clear H';(try clear p1);(try clear p2);obtain ⟨x0_1,x1_1,HA,HK1,HO_0,HO_1,HK,HB⟩:=hrel
  cases gk with
  | zero=>exact absurd HA.out (by simp [zb0.l0])
  | succ k1=>
   have H:=HA.out;clear HA;simp only [zb0.l0] at H
   by_cases c3:(x1_1.length:Int)>0
   ·rw [if_pos c3] at H
    have c3b0:decide (0<(x1_1.length:Int))=true:=decide_eq_true c3;have c3b1:decide (0<x1_1.length)=true:=decide_eq_true (by omega);clear c3;replace H:=Option.bind_eq_some_iff.mp H;obtain ⟨⟨t472,t475⟩,A40,H⟩:=H;replace H:(zb0.l0 k1 x1_1 t475)=some r:=H;have A4:=za1.mk A40;clear A40;have H':=za1.mk H;clear H;obtain ⟨Ao5,co5,eo5⟩:=Kd.zbn HO_1.out;subst eo5;obtain ⟨Ao6,co6,eo6⟩:=Kd.zbn HO_0.out;subst eo6
    go_wp2_with (first|((with_reducible refine zan (f:=67) rfl ?_);refine goesL_ (some 13) rfl rfl Tryd.func67 (by kernel_rfl) rfl #[.slice Ao6 x0_1.length co6,.slice Ao5 x1_1.length co5] rfl q4 ?_;(with_reducible refine (zbp.callsF k1 (fun k_=>some k_=(.slice Ao6 x0_1.length co6:Value).ownBlock) (.slice Ao6 x0_1.length co6) x0_1 _ _ x1_1 t472 t475 w0 _ ?side1 ?side2 ?side3 ?side4 A4.out).mono ?_);(case side1=>repeat (first|(with_reducible first|exact HB.out|apply zaw|apply zah|apply zar)|exact HB.out));(case side2=>exact Kd.zci rfl HO_0.out);(case side3=>exact Kd.C_kept_own (HO_1.out) (fun _ _ hs_=>hs_));(case side4=>exact (Kd.R_reads' HO_1.out).2.1);rintro e w7 ⟨v473,v476,rfl,ho0,ho1,hb,hkp⟩;refine ⟨_,rfl,?_⟩;have n0_:=am (Kd.zbm (ok':=fun k_=>((P0_ k_∨P1_ k_)∨w.heap.size≤k_)∧some k_≠(v473:Value).ownBlock∧some k_≠(v476:Value).ownBlock) (Kd.zd9 (HO_1.out) hkp (fun _ _ hs_=>hs_)) (fun k_ hk_=>⟨hk_.1.1,fun e_=>Or.elim (ho0.1 k_ e_.symm).1 (fun hs_=>by first|exact hk_.1.2 hs_|exact hk_.1.1.2 hs_|exact hk_.1.2.1 hs_|exact hk_.1.2.2 hs_|exact hk_.1.1.1.2 hs_) (fun hn_=>Nat.not_le.2 hk_.2.2 hn_),fun e_=>Or.elim (ho1.1 k_ e_.symm).1 (fun hs_=>by first|exact hk_.1.2 hs_|exact hk_.1.1.2 hs_|exact hk_.1.2.1 hs_|exact hk_.1.2.2 hs_|exact hk_.1.1.1.2 hs_) (fun hn_=>Nat.not_le.2 hk_.2.2 hn_)⟩));have n1_:=am (Kd.zbm (ok':=fun k_=>((P0_ k_∨P1_ k_)∨w.heap.size≤k_)∧some k_≠(v476:Value).ownBlock∧some k_≠(.slice Ao5 x1_1.length co5:Value).ownBlock) ho0 (fun k_ hk_=>⟨Or.elim hk_.1 (fun hs_=>(HO_0.out.1 k_ (hs_).symm).1) (fun hn_=>(.inr (Nat.le_trans (by first|exact HK.out.1|exact (show Kept w _ (fun _=>False) from by repeat (first|(with_reducible first|exact HK.out|apply Kept.alloc|apply Kept.drewN|apply Kept.drew)|exact HK.out)).1) hn_))),hk_.2,Or.elim hk_.1 (fun hs_=>fun e_=>(((HO_1.out).1 k_ e_.symm).2) hs_) (fun hn_=>(Kd.fresh' (Kd.R_lt (by (with_reducible repeat (first|apply Kd.zb1|apply Kd.zb2|apply Kd.zb9));exact HO_1.out)) k_ hn_))⟩));have n2_:=am (Kd.zbm (ok':=fun k_=>((P0_ k_∨P1_ k_)∨w.heap.size≤k_)∧some k_≠(v473:Value).ownBlock∧some k_≠(.slice Ao5 x1_1.length co5:Value).ownBlock) ho1 (fun k_ hk_=>⟨Or.elim hk_.1 (fun hs_=>(HO_0.out.1 k_ (hs_).symm).1) (fun hn_=>(.inr (Nat.le_trans (by first|exact HK.out.1|exact (show Kept w _ (fun _=>False) from by repeat (first|(with_reducible first|exact HK.out|apply Kept.alloc|apply Kept.drewN|apply Kept.drew)|exact HK.out)).1) hn_))),hk_.2,Or.elim hk_.1 (fun hs_=>fun e_=>(((HO_1.out).1 k_ e_.symm).2) hs_) (fun hn_=>(Kd.fresh' (Kd.R_lt (by (with_reducible repeat (first|apply Kd.zb1|apply Kd.zb2|apply Kd.zb9));exact HO_1.out)) k_ hn_))⟩));have n3_:=am (Kept.then_ (S:=(fun _=>False)) q9 hkp (fun _ hs_=>hs_.elim));have n4_:=am (hb);clear HO_1;clear HK;clear HB;clear HO_0;have HO_1:=n0_;have HO474:=n1_;have HO477:=n2_;have HK:=n3_;have HB:=n4_;clear n0_ n1_ n2_ n3_ n4_;(try clear hb);(try clear hkp);(try clear ho0);(try clear ho1)))
    go_roundg k1
    case measure=>have:=HK1.out;omega
    case rel=>exact ⟨(x1_1),(t475),H',⟨q13⟩,⟨by (with_reducible repeat (first|apply Kd.zb1|apply Kd.zb2|apply Kd.zb9));exact Kd.zbm HO_1.out (fun _ hk=>⟨hk.1,hk.2.2⟩)⟩,⟨by (with_reducible repeat (first|apply Kd.zb1|apply Kd.zb2|apply Kd.zb9));exact Kd.zbm HO477.out (fun _ hk=>⟨hk.1,hk.2.2⟩)⟩,⟨q9⟩,⟨q2⟩⟩
   ·rw [if_neg c3] at H
    have c3b0:decide (0<(x1_1.length:Int))=false:=decide_eq_false c3;have c3b1:decide (0<x1_1.length)=false:=decide_eq_false (by omega);clear c3;obtain rfl:=Option.some.inj H;obtain ⟨Ao8,co8,eo8⟩:=Kd.zbn HO_1.out;subst eo8
    go_wp2
    go_ret;exact ⟨_,q8,by (with_reducible repeat (first|apply Kd.zb1|apply Kd.zb2|apply Kd.zb9));exact Kd.zbm HO_0.out (fun _ hk=>hk.1),q2,q9⟩
theorem zb0.calls (k:Nat) (P0_:Nat→Prop) (u9000_:Value) (l0:List Int) (P1_:Nat→Prop) (u9001_:Value) (l1:List Int) (r:List Int) (w0 w:World) (hB:Below w0.heap.size w0 w) (ho0:Kd.R (Kd.int .u32) 25 w w0.heap.size P0_ u9000_ l0) (hp0_1:∀ k_,P0_ k_ → ¬ P1_ k_) (ho1:Kd.R (Kd.int .u32) 25 w w0.heap.size P1_ u9001_ l1) (hp1_0:∀ k_,P1_ k_ → ¬ P0_ k_) (h:zb0.f k l0 l1=some r) :
 Calls Tryd.prog 60 #[u9000_,u9001_] w fun e w'=>∃ v0_:Value,e = .returned (v0_)∧Kd.R (Kd.int .u32) 25 w' w0.heap.size (fun k_=>((P0_ k_∨P1_ k_)∨w.heap.size≤k_)) v0_ r∧Below w0.heap.size w0 w'∧Kept w w' (fun k_=>P0_ k_∨P1_ k_):=by
 refine (zb0.callsF k P0_ u9000_ l0 P1_ u9001_ l1 r w0 w hB ho0 hp0_1 ho1 hp1_0 h).mono ?_;rintro e w' ⟨v0,h0,h1,h2,h3⟩;exact ⟨v0,h0,h1,h2,Kept.of_false h3⟩
def zai.l0:Nat→ByteArray→List Int→Int→Option (List Int)
 | 0,_,_,_=>none
 | k+1,x0,x3,x4=>if x4<(x0.size:Int) then (if 0≤(wrap64 (Int.tdiv x4 4)) then (if (wrap64 (Int.tdiv x4 4))<(x3.length:Int) then (if 0≤(wrap64 ((wrap64 ((x0.size:Int)-1))-x4)) then (if (wrap64 ((wrap64 ((x0.size:Int)-1))-x4))<(x0.size:Int) then (if 0≤(IntKind.u64.wrap (wrap64 (8*(Int.tmod x4 4)))) then (zai.l0 k x0 (x3.set ((wrap64 (Int.tdiv x4 4)):Int).toNat (Go.bits .or .u32 (rd x3 (wrap64 (Int.tdiv x4 4))) (shl .u32 ((bt x0 (wrap64 ((wrap64 ((x0.size:Int)-1))-x4)))%4294967296) (IntKind.u64.wrap (wrap64 (8*(Int.tmod x4 4))))))) (wrap64 (x4+1))) else (none)) else (none)) else (none)) else (none)) else (none)) else (some x3)
def zai.f (k:Nat) (a0:ByteArray):Option (List Int):=(za8.f k a0).bind fun t478=>(if 0≤(wrap64 (Int.tdiv (wrap64 ((t478.size:Int)+3)) 4)) then (if (wrap64 (Int.tdiv (wrap64 ((t478.size:Int)+3)) 4):Int).toNat≤70368744177664 then (zai.l0 k t478 (List.replicate (wrap64 (Int.tdiv (wrap64 ((t478.size:Int)+3)) 4):Int).toNat 0) 0) else (none)) else (none))
theorem zai.mono_l:∀ k,(∀ y0 y1 y2,LeO (zai.l0 k y0 y1 y2) (zai.l0 (k+1) y0 y1 y2))
 | 0=>fun _ _ _ r h=>by simp [zai.l0] at h
 | k+1=>by
  have ih0:=zai.mono_l k
  ·intro y0 y1 y2
   unfold zai.l0
   repeat' first
   | (with_reducible exact ih0 _ _ _)
   | (with_reducible exact za8.mono _ _)
   | (with_reducible exact LeO.refl _)
   | (with_reducible exact LeO.none _)
   | (with_reducible refine LeO.ite ?_ ?_)
   | (with_reducible refine LeO.bind ?_ (fun _=>?_))
   | exact ih0 _ _ _
   | exact za8.mono _ _
   | exact LeO.none _
   | refine LeO.ite ?_ ?_
   | refine LeO.bind ?_ (fun _=>?_)
theorem zai.mono:∀ a0 k,LeO (zai.f k a0) (zai.f (k+1) a0):=by
 intro a0 k;have ih0:=zai.mono_l k;unfold zai.f
 repeat' first
  | (with_reducible exact ih0 _ _ _)
  | (with_reducible exact za8.mono _ _)
  | (with_reducible exact LeO.refl _)
  | (with_reducible exact LeO.none _)
  | (with_reducible refine LeO.ite ?_ ?_)
  | (with_reducible refine LeO.bind ?_ (fun _=>?_))
  | exact ih0 _ _ _
  | exact za8.mono _ _
  | exact LeO.none _
  | refine LeO.ite ?_ ?_
  | refine LeO.bind ?_ (fun _=>?_)
def zai.T6:Bool×List (List Nat×List Nat):=(true,[([],[]),([],[]),([1],[1]),([],[]),([],[]),([4],[4]),([3,5],[3,5]),([6],[6]),([],[]),([],[]),([9],[9]),([10],[10]),([],[]),([11,12],[11,12]),([8,13],[8,13]),([14],[14]),([],[]),([16],[16]),([17],[17]),([18],[18]),([15,19],[15,19]),([7,20],[7,20]),([0,2,0,1,2,3,4,5,6,7,8,9,10,11,12,13,14,15,16,17,18,19,20,21],[0,2]),([22,21,0,1,2,3,4,5,6,7,8,9,10,11,12,13,14,15,16,17,18,19,20,21],[21,22])])
def zai.B6:List Nat:=[0,0,2,0,0,16,56,120,0,0,512,1536,0,7680,16128,32512,0,65536,196608,458752,1048320,2097144,4194303,8388607]
theorem zai.tab6:rtab .any (opsOf Tryd.f61 6)=zai.T6:=by kernel_rfl
theorem zai.bits6:waitsOk zai.T6.2 zai.B6=true:=by kernel_rfl
set_option maxHeartbeats 8000000 in
set_option maxRecDepth 100000 in
theorem zai.calls (k:Nat) (a0:ByteArray) (r:List Int) (w:World) (h:zai.f k a0=some r) :
 Calls Tryd.prog 61 #[.string a0] w fun e w'=>∃ v0_:Value,e = .returned (v0_)∧Kd.R (Kd.int .u32) 25 w' w.heap.size (fun _=>True) v0_ r∧Below w.heap.size w w':=by
 have HB:=am (Below.refl w.heap.size w);have H:((za8.f k a0).bind fun t478=>(if 0≤(wrap64 (Int.tdiv (wrap64 ((t478.size:Int)+3)) 4)) then (if (wrap64 (Int.tdiv (wrap64 ((t478.size:Int)+3)) 4):Int).toNat≤70368744177664 then (zai.l0 k t478 (List.replicate (wrap64 (Int.tdiv (wrap64 ((t478.size:Int)+3)) 4):Int).toNat 0) 0) else (none)) else (none)))=some r:=h;clear h;replace H:=Option.bind_eq_some_iff.mp H;obtain ⟨t478,A20,H⟩:=H;replace H:(if 0≤(wrap64 (Int.tdiv (wrap64 ((t478.size:Int)+3)) 4)) then (if (wrap64 (Int.tdiv (wrap64 ((t478.size:Int)+3)) 4):Int).toNat≤70368744177664 then (zai.l0 k t478 (List.replicate (wrap64 (Int.tdiv (wrap64 ((t478.size:Int)+3)) 4):Int).toNat 0) 0) else (none)) else (none))=some r:=H;have A2:=za1.mk A20;clear A20
 obtain ⟨ji3,hji3⟩:∃ j_:Int,(wrap64 (Int.tdiv (wrap64 ((t478.size:Int)+3)) 4))=j_:=⟨_,rfl⟩
 replace H:(if 0≤(ji3) then (if (ji3:Int).toNat≤70368744177664 then (zai.l0 k t478 (List.replicate (ji3:Int).toNat 0) 0) else (none)) else (none))=some r:=by first|(rw [hji3] at H;exact H)|(simp only [hji3] at H ⊢;exact H)
 (try rw [hji3] at A2)
 have hji3w:(IntKind.i64.wrap (Int.tdiv (wrap64 ((t478.size:Int)+3)) 4))=ji3:=(i64_w _).trans hji3
 by_cases c4:0≤(ji3)
 ·rw [if_pos c4] at H
  have c4b0:=eq_true c4;have c4b1:decide (0≤(ji3))=true:=decide_eq_true c4;clear c4
  by_cases c5:(ji3:Int).toNat≤70368744177664
  ·rw [if_pos c5] at H
   have c5b0:=eq_true c5;have c5b1:decide ((ji3:Int).toNat≤70368744177664)=true:=decide_eq_true c5;clear c5
   obtain ⟨y479,hy479⟩:∃ y_:List Int,y_=(List.replicate (ji3:Int).toNat 0):=⟨_,rfl⟩
   replace H:(zai.l0 k t478 y479 0)=some r:=by first|(rw [hy479];with_reducible exact H)|(have H2_:=(Option.bind_some _ _).symm.trans H;rw [hy479];with_reducible exact H2_)|(have H2_:=(Option.bind_some _ _).symm.trans H;with_reducible exact H2_)|with_reducible exact H|(rw [hy479];exact H)|exact H
   have Ny479:=za1.mk hy479;clear hy479;have H':=za1.mk H;clear H;go_enter Tryd.func61,Tryd.ntmps61
   go_wp2_with (first|((with_reducible refine zan (f:=49) rfl ?_);refine goesL_ (some 6) rfl rfl Tryd.func49 (by kernel_rfl) rfl #[.string a0] rfl q4 ?_;(with_reducible refine (za8.calls k a0 t478 _ A2.out).mono ?_);rintro e w' ⟨rfl,⟨nd,rfl⟩⟩;refine ⟨_,rfl,?_⟩)|((with_reducible refine zbr (N:=11) rfl ?_);refine Kd.R_make (Kd.int .u32) _ 25 rfl (N:=11) rfl 116 _ _ rfl ji3 rfl rfl Tryd.underlying116 (.int .u32 0) 4 info25 rfl (by decide) (by omega) 0 (ok:=fun _=>True) (okp:=fun _=>True) rfl (fun _ hk=>hk) trivial (of_decide_eq_true q0) (Nat.le_trans (Nat.mul_le_mul_right _ (of_decide_eq_true q0:ji3.toNat≤70368744177664)) (by omega)) (Below.refl _ _) (Nat.le_refl _) ?_;intro v480 w6 ho7 hb hg_ hnew_;clear hg_ hnew_;(first|rw [← Ny479.out] at ho7|(simp only [Int.reduceToNat] at ho7;rw [← Ny479.out] at ho7));have HO481:=am (Kd.zc9 ho7 (zbb q2));replace HB:=am (zab q2 hb);clear hb ho7))
   go_loopg [4] k (fun kq v4 w'=>∃ (x3_1:List Int) (x4_1:Int),v4 = .int .i64 x4_1∧za1 (zai.l0 kq t478 x3_1 x4_1=some r)∧za1 (kq≤k)∧za1 (Kd.R (Kd.int .u32) 25 w' w.heap.size (fun _=>True) v480 x3_1)∧za1 (Below w.heap.size w w'))
   case atStart=>exact ⟨(y479),(0),q5,H',⟨Nat.le_refl _⟩,⟨by (with_reducible repeat (first|apply Kd.zb1|apply Kd.zb2|apply Kd.zb9));exact HO481.out⟩,⟨q2⟩⟩
   case round=>
    clear H';(try clear p2);(try clear c4);(try clear c4b0);(try clear c4b1);(try clear c5);(try clear c5b0);(try clear c5b1);(try clear c6);(try clear p6);obtain ⟨x3_1,x4_1,rfl,HA,HK1,HO_3,HB⟩:=hrel
    cases gk with
    | zero=>exact absurd HA.out (by simp [zai.l0])
    | succ k1=>
     have H:=HA.out;clear HA;simp only [zai.l0] at H
     by_cases c8:x4_1<(t478.size:Int)
     ·rw [if_pos c8] at H
      have c8b0:decide (x4_1<(t478.size:Int))=true:=decide_eq_true c8;clear c8
      obtain ⟨ji9,hji9⟩:∃ j_:Int,(wrap64 (Int.tdiv x4_1 4))=j_:=⟨_,rfl⟩
      replace H:(if 0≤(ji9) then (if (ji9)<(x3_1.length:Int) then (if 0≤(wrap64 ((wrap64 ((t478.size:Int)-1))-x4_1)) then (if (wrap64 ((wrap64 ((t478.size:Int)-1))-x4_1))<(t478.size:Int) then (if 0≤(IntKind.u64.wrap (wrap64 (8*(Int.tmod x4_1 4)))) then (zai.l0 k1 t478 (x3_1.set ((ji9):Int).toNat (Go.bits .or .u32 (rd x3_1 (ji9)) (shl .u32 ((bt t478 (wrap64 ((wrap64 ((t478.size:Int)-1))-x4_1)))%4294967296) (IntKind.u64.wrap (wrap64 (8*(Int.tmod x4_1 4))))))) (wrap64 (x4_1+1))) else (none)) else (none)) else (none)) else (none)) else (none))=some r:=by first|(rw [hji9] at H;exact H)|(simp only [hji9] at H ⊢;exact H)
      have hji9w:(IntKind.i64.wrap (Int.tdiv x4_1 4))=ji9:=(i64_w _).trans hji9
      by_cases c10:0≤(ji9)
      ·rw [if_pos c10] at H
       have c10b0:decide (0≤(ji9))=true:=decide_eq_true c10;clear c10
       by_cases c11:(ji9)<(x3_1.length:Int)
       ·rw [if_pos c11] at H
        have c11b0:decide ((ji9)<(x3_1.length:Int))=true:=decide_eq_true c11;clear c11
        obtain ⟨ji12,hji12⟩:∃ j_:Int,(wrap64 ((wrap64 ((t478.size:Int)-1))-x4_1))=j_:=⟨_,rfl⟩
        replace H:(if 0≤(ji12) then (if (ji12)<(t478.size:Int) then (if 0≤(IntKind.u64.wrap (wrap64 (8*(Int.tmod x4_1 4)))) then (zai.l0 k1 t478 (x3_1.set ((ji9):Int).toNat (Go.bits .or .u32 (rd x3_1 (ji9)) (shl .u32 ((bt t478 (ji12))%4294967296) (IntKind.u64.wrap (wrap64 (8*(Int.tmod x4_1 4))))))) (wrap64 (x4_1+1))) else (none)) else (none)) else (none))=some r:=by first|(rw [hji12] at H;exact H)|(simp only [hji12] at H ⊢;exact H)
        have hji12w:(IntKind.i64.wrap ((wrap64 ((t478.size:Int)-1))-x4_1))=ji12:=(i64_w _).trans hji12
        by_cases c13:0≤(ji12)
        ·rw [if_pos c13] at H
         have c13b0:decide (0≤(ji12))=true:=decide_eq_true c13;clear c13
         by_cases c14:(ji12)<(t478.size:Int)
         ·rw [if_pos c14] at H
          have c14b0:decide ((ji12)<(t478.size:Int))=true:=decide_eq_true c14;clear c14
          obtain ⟨ji16,hji16⟩:∃ j_:Int,(IntKind.u64.wrap (wrap64 (8*(Int.tmod x4_1 4))))=j_:=⟨_,rfl⟩
          replace H:(if 0≤(ji16) then (zai.l0 k1 t478 (x3_1.set ((ji9):Int).toNat (Go.bits .or .u32 (rd x3_1 (ji9)) (shl .u32 ((bt t478 (ji12))%4294967296) (ji16)))) (wrap64 (x4_1+1))) else (none))=some r:=by first|(rw [hji16] at H;exact H)|(simp only [hji16] at H ⊢;exact H)
          by_cases c17:0≤(ji16)
          ·rw [if_pos c17] at H
           have c17b0:=eq_true c17;have c17b1:decide (0≤(ji16))=true:=decide_eq_true c17;clear c17
           obtain ⟨ji18,hji18⟩:∃ j_:Int,(shl .u32 ((bt t478 (ji12))%4294967296) (ji16))=j_:=⟨_,rfl⟩
           replace H:(zai.l0 k1 t478 (x3_1.set ((ji9):Int).toNat (Go.bits .or .u32 (rd x3_1 (ji9)) (ji18))) (wrap64 (x4_1+1)))=some r:=by first|(rw [hji18] at H;exact H)|(simp only [hji18] at H ⊢;exact H)
           have hji18_:(IntKind.u32.wrap (((bt t478 (ji12))%4294967296)*2 ^ min (ji16).toNat 32))=ji18:=hji18;have hji18z:(ji16)≤32→(IntKind.u32.wrap (((bt t478 (ji12))%4294967296)*2 ^ (ji16).toNat))=ji18:=shl_small hji18
           obtain ⟨y483,hy483⟩:∃ y_:List Int,y_=(x3_1.set ((ji9):Int).toNat (Go.bits .or .u32 (rd x3_1 (ji9)) (ji18))):=⟨_,rfl⟩
           replace H:(zai.l0 k1 t478 y483 (wrap64 (x4_1+1)))=some r:=by first|(rw [hy483];with_reducible exact H)|(have H2_:=(Option.bind_some _ _).symm.trans H;rw [hy483];with_reducible exact H2_)|(have H2_:=(Option.bind_some _ _).symm.trans H;with_reducible exact H2_)|with_reducible exact H|(rw [hy483];exact H)|exact H
           have Ny483:=za1.mk hy483;clear hy483;have H':=za1.mk H;clear H
           try go_wp2
           replace HO_3:=am (Kd.zb9 HO_3.out);replace HB:=am (zar HB.out);obtain ⟨Ao21,co21,eo21⟩:=Kd.zbn HO_3.out
           (first|subst eo21|(injection eo21 with f1_ f2_ f3_;have f4_:=f1_.symm;have f5_:=f3_.symm;clear f1_ f2_ f3_;subst f4_;subst f5_))
           have p482:0≤((ji9):Int):=of_decide_eq_true q0;have q482:(ji9)<(x3_1.length:Int):=of_decide_eq_true q0;obtain ⟨ad482,e482,hx482_0⟩:=Kd.at_int (Kd.R_reads' HO_3.out).2.2 (ji9) p482 q482;cases e482;replace p482:=eq_true p482;replace q482:=eq_true q482;have p15:0≤((ji12):Int):=of_decide_eq_true q0;have q15:(ji12)<(t478.size:Int):=of_decide_eq_true q0;have hx15:=bt_at t478 (ji12);replace p15:=eq_true p15;replace q15:=eq_true q15;have p19:0≤((ji9):Int):=of_decide_eq_true q0;have q19:((ji9):Int)<((x3_1.length:Int):Int):=of_decide_eq_true q0;obtain ⟨go19,co19,eo19,g_a,gl19,cl19,HG19⟩:=Kd.R_form HO_3.out (by omega)
           (first|cases eo19|(injection eo19 with ea_ en_ ec_;(first|subst ea_|(injection ea_ with ea_;subst ea_));subst ec_;clear en_))
           have GB19:=za1.mk g_a;have GG19:=za1.mk HG19;clear g_a gl19 HG19
           (first|simp only [add_plain] at hx482_0|skip)
           obtain ⟨hx19_0,hf19_0⟩:=Kd.R_celln 0 HO_3.out ((ji9):Int) p19 q19;replace p19:=eq_true p19;replace q19:=eq_true q19;have HP22:=Kd.R_putn HO_3.out ((ji9):Int) (Go.bits .or .u32 (rd x3_1 (ji9)) (ji18));rw [← Ny483.out] at HP22;have HQ22:=za1.mk HP22;clear HP22;refine start_ (n:=24) (S:=fun w'=>w'.cell? ⟨go19,((ji9)).toNat,none⟩=some (.int .u32 (rd x3_1 (ji9)))) (ds:=[23]) #[false,false,false,false,false,false,false,false,false,false,false,false,false,false,false,false,false,false,false,false,false,false,false,false] (by kernel_rfl) rfl rfl (hx482_0) (fun hHeld=>?_);refine with_tabW zai.tab6 zai.bits6 (fun HT_ HW_=>?_)
           generalize wr.drew=w20 at HO_3 HB GG19 HQ22 hf19_0 hx19_0 hx482_0 hHeld ⊢
           refine pp 0 18 rfl rfl ?_;refine pp 1 19 rfl rfl ?_;refine pp 2 20 rfl rfl ?_;refine pp 3 21 rfl rfl ?_;refine pp 4 22 rfl rfl ?_;refine pp 5 23 rfl rfl ?_;refine pp 6 24 rfl rfl ?_;refine pp 8 26 rfl rfl ?_;refine pp 9 27 rfl rfl ?_;refine pp 10 28 rfl rfl ?_;refine pp 11 29 rfl rfl ?_;refine pp 12 30 rfl rfl ?_;refine pp 13 31 rfl rfl ?_;refine pp 16 34 rfl rfl ?_;refine pp 17 35 rfl rfl ?_;refine pp 18 36 rfl rfl ?_;refine pp 19 37 rfl rfl ?_;refine take_ (i:=7) (N:=some 25) (v:=?_) (a':=?_) #[true,true,true,true,true,true,true,true,true,true,true,true,true,true,false,false,true,true,true,true,false,false,false,false] rfl rfl (zcs HT_.out HW_.out (by kernel_rfl)) (fun _ _ _ h=>h) (Or.inl ⟨by rfl,?_⟩) hHeld ?_ ?_;rotate_left
           ·intro w' s0
            go_simp
            with_reducible rfl
           rotate_left
           ·simp only [Act.put,List.setIfInBounds_toArray,List.set_cons_zero,List.set_cons_succ,i64_w,i32_w]
            rfl
           refine take_ (i:=14) (N:=some 32) (v:=?_) (a':=?_) #[true,true,true,true,true,true,true,true,true,true,true,true,true,true,true,false,true,true,true,true,false,false,false,false] rfl rfl (zcs HT_.out HW_.out (by kernel_rfl)) (fun _ _ _ h=>h) (Or.inl ⟨by rfl,?_⟩) hHeld ?_ ?_;rotate_left
           ·intro w' s0
            go_simp
            with_reducible rfl
           rotate_left
           ·simp only [Act.put,List.setIfInBounds_toArray,List.set_cons_zero,List.set_cons_succ,i64_w,i32_w]
            rfl
           refine pp 15 33 rfl rfl ?_;refine pp 20 38 rfl rfl ?_;refine pp 21 39 rfl rfl ?_;refine pp 22 40 rfl rfl ?_;refine last_ (i:=23) (N:=none) #[true,true,true,true,true,true,true,true,true,true,true,true,true,true,true,true,true,true,true,true,true,true,true,true] rfl rfl (one_of HT_.out (by kernel_rfl)) (by decide) (fun K hK=>?_);refine skip_ (w1:=?_) (by rfl) rfl ?_ ?_;rotate_left
           ·go_simp
            rfl
           refine hK.out _ _ ?_;clear hK K;refine done_ (done_of HT_.out (by kernel_rfl)) ?_
           try go_wp2
           go_roundg k1
           case measure=>have:=HK1.out;omega
           case rel=>exact ⟨(y483),(wrap64 (x4_1+1)),q5,H',⟨q13⟩,⟨by (with_reducible repeat (first|apply Kd.zb1|apply Kd.zb2|apply Kd.zb9));first|exact HQ22.out|(subst_vars;exact HQ22.out)⟩,⟨by repeat (first|(with_reducible first|exact HB.out|apply zaw|apply zah|apply zar|refine zak ?_ GB19.out)|exact HB.out)⟩⟩
          ·rw [if_neg c17] at H
           exact absurd H (by simp)
         ·rw [if_neg c14] at H
          exact absurd H (by simp)
        ·rw [if_neg c13] at H
         exact absurd H (by simp)
       ·rw [if_neg c11] at H
        exact absurd H (by simp)
      ·rw [if_neg c10] at H
       exact absurd H (by simp)
     ·rw [if_neg c8] at H
      have c8b0:decide (x4_1<(t478.size:Int))=false:=decide_eq_false c8;clear c8;obtain rfl:=Option.some.inj H
      go_wp2
      go_ret;exact ⟨_,by first|rfl|(simp [zcp,zcq] <;> rfl)|(simp only [← hji3];first|rfl|(simp [zcp,zcq] <;> rfl))|(simp [*,zcp,zcq] <;> rfl),q22,q2⟩
  ·rw [if_neg c5] at H
   exact absurd H (by simp)
 ·rw [if_neg c4] at H
  exact absurd H (by simp)
theorem zd1 {B:Nat} {w0 w w':World} (h0:Below B w0 w) (h1:Below B w0 w') (hk:Kept w w' (fun _=>False)):Below w.heap.size w w':=⟨h1.os.trans h0.os.symm,h1.tape.trans h0.tape.symm,h1.output.trans h0.output.symm,hk.1,fun k hk2=>hk.2 k hk2 (fun q=>q)⟩
def zbh.big (l:List Int):Option Bool:=if (l.length:Int)>1 then some true else if 0<(l.length:Int) then some (decide (rd l 0>1)) else none
def zbh.tl (k:Nat) (neg:Bool) (n d:List Int):Option (Bool×ByteArray×ByteArray):=(zao.f k n).bind fun t=>(zbh.big d).bind fun c=>if c=true then (zao.f k d).bind fun s=>some (neg,t,s) else some (neg,t,(⟨#[]⟩:ByteArray))
def zbh.f (k:Nat) (neg:Bool) (n d:List Int):Option (Bool×ByteArray×ByteArray):=if (n.length:Int)=0 then some (false,(⟨#[]⟩:ByteArray),(⟨#[]⟩:ByteArray)) else (zb0.f k n d).bind fun g=>(zbh.big g).bind fun c=>if c=true then (zbp.f k n g).bind fun q=>(zbp.f k d g).bind fun p=>zbh.tl k neg q.1 p.1 else zbh.tl k neg n d
theorem zbh.tl_mono (k:Nat) (neg:Bool) (n d:List Int):LeO (zbh.tl k neg n d) (zbh.tl (k+1) neg n d):=LeO.bind (zao.mono _ _) (fun _=>LeO.bind (LeO.refl _) (fun _=>LeO.ite (LeO.bind (zao.mono _ _) (fun _=>LeO.refl _)) (LeO.refl _)))
theorem zbh.mono:∀ a0 a1 a2 k,LeO (zbh.f k a0 a1 a2) (zbh.f (k+1) a0 a1 a2):=fun a0 a1 a2 k=>LeO.ite (LeO.refl _) (LeO.bind (zb0.mono _ _ _) (fun _=>LeO.bind (LeO.refl _) (fun _=>LeO.ite (LeO.bind (zbp.mono _ _ _) (fun _=>LeO.bind (zbp.mono _ _ _) (fun _=>zbh.tl_mono _ _ _ _))) (zbh.tl_mono _ _ _ _))))
set_option maxHeartbeats 4000000 in
set_option maxRecDepth 100000 in
theorem zbh.callsR (k:Nat) (neg:Bool) (u0:Value) (l0:List Int) (u1:Value) (l1:List Int) (r1:Bool) (r2 r3:ByteArray) (w0 w:World) (hB:Below w0.heap.size w0 w) (ho0:Kd.R (Kd.int .u32) 25 w w0.heap.size (fun k_=>some k_=u0.ownBlock) u0 l0) (ho1:Kd.R (Kd.int .u32) 25 w w0.heap.size (fun k_=>some k_=u1.ownBlock) u1 l1) (hne:∀ k_,some k_=u0.ownBlock → ¬ some k_=u1.ownBlock) (h:zbh.f k neg l0 l1=some (r1,r2,r3)) :
 Calls Tryd.prog 78 #[.bool neg,u0,u1] w fun e w'=>e = .returned (.agg #[.bool r1,.string r2,.string r3])∧Below w.heap.size w w':=by
 have hu30:=Tryd.underlying30;obtain ⟨A0,c0,rfl⟩:=Kd.zbn ho0;obtain ⟨A1,c1,rfl⟩:=Kd.zbn ho1;have HB:=za1.mk hB;have HO0:=za1.mk ho0;have HO1:=za1.mk ho1;have HNE:=za1.mk hne;have HH:=za1.mk h;clear hB ho0 ho1 hne h;go_enter Tryd.func78,Tryd.ntmps78
 go_upto_region 1 with (first|((with_reducible refine zbr (N:=6) rfl ?_);refine zbq ?hg (N:=6) ?hd (cs:=#[.bool false,.string (⟨#[]⟩:ByteArray),.string (⟨#[]⟩:ByteArray)]) (t:=30) ?hr ?_;(case hd=>rfl);(case hg=>rfl);(case hr=>first|(go_simp;done)|(go_simp;rfl));intro gb hg w1 hbox hb;have HG:=za1.mk hg;have BK:=za1.mk hbox;have HB1:=za1.mk hb;clear hg hbox hb))
 have HW1:=am (zcx HB.out HB.out.size HB1.out);have HP0:=am (Kd.zbx HO0.out HB1.out);have HP1:=am (Kd.zbx HO1.out HB1.out);clear HO0 HO1
 by_cases hl:(l0.length:Int)=0
 ·have hl1:((l0.length:Int) == 0)=true:=beq_iff_eq.mpr hl
  have hr:=HH.out;unfold zbh.f at hr;rw [if_pos hl] at hr;obtain ⟨e1,e2⟩:=Prod.mk.inj (Option.some.inj hr);obtain ⟨e2,e3⟩:=Prod.mk.inj e2;subst e1 e2 e3;clear hr;have hf0:=zau BK.out 0;have hf1:=zau BK.out 1;have hf2:=zau BK.out 2;have hcz0:w1.cell? ⟨gb,0,none⟩=some (.bool false):=bc BK 0;have hcz1:w1.cell? ⟨gb,1,none⟩=some (.string (⟨#[]⟩:ByteArray)):=bc BK 1;have hcz2:w1.cell? ⟨gb,2,none⟩=some (.string (⟨#[]⟩:ByteArray)):=bc BK 2
  go_wp2
  refine bodyPost_ret (results_cell_row rfl _ _ gb 30 #[.bool false,.string (⟨#[]⟩:ByteArray),.string (⟨#[]⟩:ByteArray)] (0,0) _ rfl (by refine za9 (cs:=#[.bool false,.string (⟨#[]⟩:ByteArray),.string (⟨#[]⟩:ByteArray)]) ?_ 2 _ rfl;refine za9 (cs:=#[.bool false,.string (⟨#[]⟩:ByteArray),.string (⟨#[]⟩:ByteArray)]) ?_ 1 _ rfl;refine za9 (cs:=#[.bool false,.string (⟨#[]⟩:ByteArray),.string (⟨#[]⟩:ByteArray)]) ?_ 0 _ rfl;exact BK.out) Tryd.underlying30 rfl (by kernel_rfl)) rfl ?_;exact ⟨rfl,by rw [HG.out] at *;repeat (first|exact HB1.out|refine zak ?_ (Nat.le_refl _))⟩
 ·have hl1:((l0.length:Int) == 0)=false:=beq_eq_false_iff_ne.mpr hl
  have hr:=HH.out;unfold zbh.f at hr;rw [if_neg hl] at hr;obtain ⟨g,e2,hr⟩:=Option.bind_eq_some_iff.1 hr;obtain ⟨c,e3,hr⟩:=Option.bind_eq_some_iff.1 hr;have E2:=za1.mk e2;have E3:=za1.mk e3;have HQ:=za1.mk hr;clear hr e2 e3 HH
  go_upto_region 4 with (go_at_call 60;(with_reducible refine (zb0.callsF k (fun k_=>some k_=(Value.slice A0 l0.length c0).ownBlock) (.slice A0 l0.length c0) l0 (fun k_=>some k_=(Value.slice A1 l1.length c1).ownBlock) (.slice A1 l1.length c1) l1 g w0 w1 HW1.out HP0.out HNE.out HP1.out (fun k_ h1_ h2_=>absurd h1_ (HNE.out k_ h2_)) E2.out).mono ?_);rintro e w2 ⟨vg,rfl,hg,hb,hk⟩;have HB2:=am (zd1 HW1.out hb hk);have HW2:=za1.mk hb;have HGR:=za1.mk hg;obtain ⟨A2,c2,rfl⟩:=Kd.zbn hg;clear hg hb hk)
  have B_a:=am (zaf BK.out HB2.out);have HP02:=am (Kd.zbx HP0.out HB2.out);have HP12:=am (Kd.zbx HP1.out HB2.out);have HB12:=am (zab HB1.out HB2.out);clear BK HP0 HP1 HB1 HB2 HW1
  go_cut [24] from 9 (fun v24 wc=>v24 = .bool c∧wc=w2)
  case first=>
   have hE:=E3.out;unfold zbh.big at hE
   by_cases h1:(g.length:Int)>1
   ·rw [if_pos h1] at hE
    obtain rfl:=Option.some.inj hE;have h1':decide (1<(g.length:Int))=true:=decide_eq_true h1
    go_wp2
    go_meet
    case rel=>exact ⟨rfl,rfl⟩
   ·rw [if_neg h1] at hE
    have h1':decide (1<(g.length:Int))=false:=decide_eq_false h1
    by_cases h2:0<(g.length:Int)
    ·rw [if_pos h2] at hE
     obtain rfl:=Option.some.inj hE;have h2':decide (0<g.length)=true:=decide_eq_true (by omega);obtain ⟨ad,rfl,hx⟩:=Kd.at_int (Kd.R_reads' HGR.out).2.2 0 (Int.le_refl 0) h2
     have hx':w2.cell? ad=some (.int .u32 (rd g 0)):=by simpa [Addr.add] using hx
     go_wp2
     go_meet
     case rel=>exact ⟨rfl,rfl⟩
    ·rw [if_neg h2] at hE
     cases hE
  case rest=>
   obtain ⟨rfl,rfl⟩:=hcut
   go_upto_if 24 with (fail)
   go_cut [1,2] from 9 (fun v1 v2 wx=>∃ (A3 A4:Option Addr) (c3 c4:Nat) (n d:List Int),v1 = .slice A3 n.length c3∧v2 = .slice A4 d.length c4∧za1 (Kd.R (Kd.int .u32) 25 wx w0.heap.size (fun k_=>some k_=(Value.slice A3 n.length c3).ownBlock) (.slice A3 n.length c3) n)∧za1 (Kd.R (Kd.int .u32) 25 wx w0.heap.size (fun k_=>some k_=(Value.slice A4 d.length c4).ownBlock) (.slice A4 d.length c4) d)∧za1 (Below w0.heap.size w0 wx)∧za1 (Below w.heap.size w wx)∧za1 (wx.heap[gb]?=some (.cells #[.bool false,.string (⟨#[]⟩:ByteArray),.string (⟨#[]⟩:ByteArray)] 30 (0,0)))∧za1 (zbh.tl k neg n d=some (r1,r2,r3)))
   case first=>
    cases c with
    | false=>
     have HQ':=HQ.out;rw [if_neg (by decide)] at HQ'
     go_wp2
     go_meet
     case rel=>exact ⟨_,_,_,_,l0,l1,rfl,rfl,HP02,HP12,HW2,HB12,B_a,⟨HQ'⟩⟩
    | true=>
     have HQ':=HQ.out;rw [if_pos rfl] at HQ';obtain ⟨⟨q1,q2⟩,e4,HQ'⟩:=Option.bind_eq_some_iff.1 HQ';obtain ⟨⟨p1,p2⟩,e5,HQ'⟩:=Option.bind_eq_some_iff.1 HQ';have E4:=za1.mk e4;have E5:=za1.mk e5;have HQQ:=za1.mk HQ';clear e4 e5 HQ'
     go_upto_region 6 with (go_at_call 67;(with_reducible refine (zbp.callsF k (fun k_=>some k_=(Value.slice A0 l0.length c0).ownBlock) (.slice A0 l0.length c0) l0 A2 c2 g q1 q2 w0 wc HW2.out HP02.out (Kd.C_kept_own HGR.out (fun _ _ hs_=>hs_)) (Kd.R_reads' HGR.out).2.1 E4.out).mono ?_);rintro e w3 ⟨vq,_,rfl,hq,_,hb,hk⟩;have HB3:=am (zd1 HW2.out hb hk);have HW3:=za1.mk hb;have HO3:=za1.mk hq;clear hq hb hk)
     have HP13:=am (Kd.zbx HP12.out HB3.out);have HG3:=am (Kd.zbx HGR.out HB3.out)
     go_wp2_with (go_at_call 67;(with_reducible refine (zbp.callsF k (fun k_=>some k_=(Value.slice A1 l1.length c1).ownBlock) (.slice A1 l1.length c1) l1 A2 c2 g p1 p2 w0 w3 HW3.out HP13.out (Kd.C_kept_own HG3.out (fun _ _ hs_=>hs_)) (Kd.R_reads' HG3.out).2.1 E5.out).mono ?_);rintro e w4 ⟨vp,_,rfl,hq,_,hb,hk⟩;have HB4:=am (zd1 HW3.out hb hk);have HW4:=za1.mk hb;have HO4:=za1.mk hq;clear hq hb hk)
     obtain ⟨A3,c3,rfl⟩:=Kd.zbn HO3.out;obtain ⟨A4,c4,rfl⟩:=Kd.zbn HO4.out
     go_meet
     case rel=>exact ⟨_,_,_,_,q1,p1,rfl,rfl,⟨Kd.zci rfl (Kd.zbx HO3.out HB4.out)⟩,⟨Kd.zci rfl HO4.out⟩,HW4,⟨zab (zab HB12.out HB3.out) HB4.out⟩,⟨zaf (zaf B_a.out HB3.out) HB4.out⟩,HQQ⟩
   case rest=>
    clear HP02 HP12 HW2 HB12 B_a HQ HGR E2 E3;obtain ⟨A3,A4,c3,c4,n,d,rfl,rfl,HN,HD,HW,HB2,BK,HT⟩:=hcut;obtain ⟨t,e6,hr⟩:=Option.bind_eq_some_iff.1 HT.out;obtain ⟨c',e7,hr⟩:=Option.bind_eq_some_iff.1 hr;have E6:=za1.mk e6;have E7:=za1.mk e7;have HQ:=za1.mk hr;clear e6 e7 hr HT
    go_upto_region 8 with (first|(go_at_call 59;(with_reducible refine (zao.callsF k (fun k_=>some k_=(Value.slice A3 n.length c3).ownBlock) (.slice A3 n.length c3) n t w0 wc HW.out HN.out E6.out).mono ?_);rintro e w5 ⟨rfl,hb,hk⟩;have HB5:=am (zd1 HW.out hb hk);have HW5:=za1.mk hb;clear hb hk)|((with_reducible refine zbr (N:=8) rfl ?_);refine zbq ?hg (N:=8) ?hd (cs:=#[.bool false,.string (⟨#[]⟩:ByteArray),.string (⟨#[]⟩:ByteArray)]) (t:=30) ?hr ?_;(case hd=>rfl);(case hg=>rfl);(case hr=>first|(go_simp;done)|(go_simp;rfl));intro gc hg w6 hbox hb;have HG8:=za1.mk hg;have B_b:=za1.mk hbox;have HB6:=za1.mk hb;clear hg hbox hb;have hcz0:w6.cell? ⟨gc,0,none⟩=some (.bool false):=bc B_b 0;have hcz1:w6.cell? ⟨gc,1,none⟩=some (.string (⟨#[]⟩:ByteArray)):=bc B_b 1;have hcz2:w6.cell? ⟨gc,2,none⟩=some (.string (⟨#[]⟩:ByteArray)):=bc B_b 2;have hf0:=zau B_b.out 0;have hf1:=zau B_b.out 1;have hf2:=zau B_b.out 2))
    generalize hW7:World.setCell _ _ _=w7
    have HGE:=am (show w5.heap.size≤gc by rw [HG8.out];exact Nat.le_refl _)
    have HB7:=am (show Below w5.heap.size w5 w7 by
     rw [← hW7]
     repeat (first|(with_reducible exact HB6.out)|refine zak ?_ HGE.out))
    have B_c:=am (show w7.heap[gc]?=some (.cells #[.bool neg,.string t,.string (⟨#[]⟩:ByteArray)] 30 (0,0)) by
     rw [← hW7];refine za9 (cs:=#[.bool neg,.string t,.string (⟨#[]⟩:ByteArray)]) ?_ 2 _ rfl;refine za9 (cs:=#[.bool neg,.string (⟨#[]⟩:ByteArray),.string (⟨#[]⟩:ByteArray)]) ?_ 1 _ rfl;refine za9 (cs:=#[.bool false,.string (⟨#[]⟩:ByteArray),.string (⟨#[]⟩:ByteArray)]) ?_ 0 _ rfl
     exact B_b.out)
    clear hW7 hcz0 hcz1 hcz2 hf0 hf1 hf2 B_b HB6;have BG:=am (zaf (zaf BK.out HB5.out) HB7.out)
    have HNEG:=am (show gb≠gc from by
     have:=zcj (zaf BK.out HB5.out);have:=HGE.out
     omega)
    have HGC:=am (show w.heap.size≤gc from Nat.le_trans (zab HB2.out HB5.out).size HGE.out);have HD7:=am (Kd.zbx (Kd.zbx HD.out HB5.out) HB7.out);have HT7:=am (zab (zab HB2.out HB5.out) HB7.out);have HW7:=am (zcx HW5.out HW5.out.size HB7.out);clear BK HB5 HD HB2 HW5 HN HW
    go_cut [49] from 9 (fun v49 wx=>v49 = .bool c'∧wx=w7)
    case first=>
     have hE:=E7.out;unfold zbh.big at hE
     by_cases h1:(d.length:Int)>1
     ·rw [if_pos h1] at hE
      obtain rfl:=Option.some.inj hE;have h1':decide (1<(d.length:Int))=true:=decide_eq_true h1
      go_wp2
      go_meet
      case rel=>exact ⟨rfl,rfl⟩
     ·rw [if_neg h1] at hE
      have h1':decide (1<(d.length:Int))=false:=decide_eq_false h1
      by_cases h2:0<(d.length:Int)
      ·rw [if_pos h2] at hE
       obtain rfl:=Option.some.inj hE;have h2':decide (0<d.length)=true:=decide_eq_true (by omega);obtain ⟨ad,rfl,hx⟩:=Kd.at_int (Kd.R_reads' HD7.out).2.2 0 (Int.le_refl 0) h2
       have hx':w7.cell? ad=some (.int .u32 (rd d 0)):=by simpa [Addr.add] using hx
       go_wp2
       go_meet
       case rel=>exact ⟨rfl,rfl⟩
      ·rw [if_neg h2] at hE
       cases hE
    case rest=>
     obtain ⟨rfl,rfl⟩:=hcut;have hg0:=zau BG.out 0;have hg1:=zau BG.out 1;have hg2:=zau BG.out 2;have hgz0:wc.cell? ⟨gb,0,none⟩=some (.bool false):=bc BG 0;have hgz1:wc.cell? ⟨gb,1,none⟩=some (.string (⟨#[]⟩:ByteArray)):=bc BG 1;have hgz2:wc.cell? ⟨gb,2,none⟩=some (.string (⟨#[]⟩:ByteArray)):=bc BG 2
     cases c' with
     | false=>
      have HQ':=HQ.out;rw [if_neg (by decide)] at HQ';obtain ⟨e1,e2⟩:=Prod.mk.inj (Option.some.inj HQ');obtain ⟨e2,e3⟩:=Prod.mk.inj e2;subst e1 e2 e3;clear HQ' HQ;have hcz0:wc.cell? ⟨gc,0,none⟩=some (.bool neg):=bc B_c 0;have hcz1:wc.cell? ⟨gc,1,none⟩=some (.string t):=bc B_c 1;have hcz2:wc.cell? ⟨gc,2,none⟩=some (.string (⟨#[]⟩:ByteArray)):=bc B_c 2
      go_wp2
      refine bodyPost_ret (results_cell_row rfl _ _ gb 30 #[.bool neg,.string t,.string (⟨#[]⟩:ByteArray)] (0,0) _ rfl (by refine za9 (cs:=#[.bool neg,.string t,.string (⟨#[]⟩:ByteArray)]) ?_ 2 _ rfl;refine za9 (cs:=#[.bool neg,.string (⟨#[]⟩:ByteArray),.string (⟨#[]⟩:ByteArray)]) ?_ 1 _ rfl;refine za9 (cs:=#[.bool false,.string (⟨#[]⟩:ByteArray),.string (⟨#[]⟩:ByteArray)]) ?_ 0 _ rfl;exact BG.out) Tryd.underlying30 rfl (by kernel_rfl)) rfl ?_;exact ⟨rfl,by repeat (first|(with_reducible exact HT7.out)|refine zak ?_ (by rw [HG.out];exact Nat.le_refl _))⟩
     | true=>
      have HQ':=HQ.out;rw [if_pos rfl] at HQ';obtain ⟨s,e8,HQ'⟩:=Option.bind_eq_some_iff.1 HQ';have E8:=za1.mk e8;obtain ⟨e1,e2⟩:=Prod.mk.inj (Option.some.inj HQ');obtain ⟨e2,e3⟩:=Prod.mk.inj e2;subst e1 e2 e3;clear HQ' HQ e8 hg0 hg1 hg2 hgz0 hgz1 hgz2
      go_wp2_with (go_at_call 59;(with_reducible refine (zao.callsF k (fun k_=>some k_=(Value.slice A4 d.length c4).ownBlock) (.slice A4 d.length c4) d s w0 wc HW7.out HD7.out E8.out).mono ?_);rintro e w8 ⟨rfl,hb,hk⟩;have HB8:=am (zd1 HW7.out hb hk);have BG8:=am (zaf BG.out HB8.out);have B_d:=am (zaf B_c.out HB8.out);have hg0:=zau BG8.out 0;have hg1:=zau BG8.out 1;have hg2:=zau BG8.out 2;have hgz0:w8.cell? ⟨gb,0,none⟩=some (.bool false):=bc BG8 0;have hgz1:w8.cell? ⟨gb,1,none⟩=some (.string (⟨#[]⟩:ByteArray)):=bc BG8 1;have hgz2:w8.cell? ⟨gb,2,none⟩=some (.string (⟨#[]⟩:ByteArray)):=bc BG8 2;have hcz0:w8.cell? ⟨gc,0,none⟩=some (.bool neg):=bc B_d 0;have hcz1:w8.cell? ⟨gc,1,none⟩=some (.string t):=bc B_d 1;have hcz2:w8.cell? ⟨gc,2,none⟩=some (.string (⟨#[]⟩:ByteArray)):=bc B_d 2;have hc2:=zau B_d.out 2;have hne1:=HNEG.out;have hne2:=HNEG.out.symm;clear hb hk)
      refine bodyPost_ret (results_cell_row rfl _ _ gb 30 #[.bool neg,.string t,.string s] (0,0) _ rfl (by refine za9 (cs:=#[.bool neg,.string t,.string (⟨#[]⟩:ByteArray)]) ?_ 2 _ rfl;refine za9 (cs:=#[.bool neg,.string (⟨#[]⟩:ByteArray),.string (⟨#[]⟩:ByteArray)]) ?_ 1 _ rfl;refine za9 (cs:=#[.bool false,.string (⟨#[]⟩:ByteArray),.string (⟨#[]⟩:ByteArray)]) ?_ 0 _ rfl;exact zay BG8.out HNEG.out _) Tryd.underlying30 rfl (by kernel_rfl)) rfl ?_;exact ⟨rfl,by repeat (first|(with_reducible exact zab HT7.out HB8.out)|refine zak ?_ (show w.heap.size≤gb by rw [HG.out];exact Nat.le_refl _)|refine zak ?_ HGC.out)⟩
def zc3.f (k:Nat) (a0:Bool) (a1:ByteArray) (a2:ByteArray):Option (Bool×ByteArray×ByteArray×Bool):=(zai.f k a2).bind fun d=>(if (d.length:Int)=0 then (some (false,(⟨#[]⟩:ByteArray),(⟨#[]⟩:ByteArray),false)) else ((zai.f k a1).bind fun n=>((zbh.f k a0 n d).bind fun t=>(some (t.1,t.2.1,t.2.2,true)))))
theorem zc3.mono:∀ a0 a1 a2 k,LeO (zc3.f k a0 a1 a2) (zc3.f (k+1) a0 a1 a2):=fun a0 a1 a2 k=>LeO.bind (zai.mono _ _) (fun _=>LeO.ite (LeO.refl _) (LeO.bind (zai.mono _ _) (fun _=>LeO.bind (zbh.mono _ _ _ _) (fun _=>LeO.refl _))))
set_option maxHeartbeats 4000000 in
set_option maxRecDepth 100000 in
theorem zc3.calls (k:Nat) (a0:Bool) (a1:ByteArray) (a2:ByteArray) (r1:Bool) (r2:ByteArray) (r3:ByteArray) (r4:Bool) (w:World) (h:zc3.f k a0 a1 a2=some (r1,r2,r3,r4)) :
 Calls Tryd.prog 68 #[.bool a0,.string a1,.string a2] w fun e w'=>e = .returned (.tuple #[.agg #[.bool r1,.string r2,.string r3],.bool r4])∧Below w.heap.size w w':=by
 have hu30:=Tryd.underlying30;obtain ⟨d,e1,hr⟩:=Option.bind_eq_some_iff.1 h;have E1:=za1.mk e1;have HQ:=za1.mk hr;clear h e1 hr;go_enter Tryd.func68,Tryd.ntmps68
 go_upto_region 2 with (first|((with_reducible refine zbr (N:=6) rfl ?_);refine zbq ?hg (N:=6) ?hd (cs:=#[.bool false,.string (⟨#[]⟩:ByteArray),.string (⟨#[]⟩:ByteArray)]) (t:=30) ?hr ?_;(case hd=>rfl);(case hg=>rfl);(case hr=>first|(go_simp;done)|(go_simp;rfl));intro gb hg w1 hbox hb;have HG:=za1.mk hg;have BK:=za1.mk hbox;have HB1:=za1.mk hb;clear hg hbox hb)|(go_at_call 61;(with_reducible refine (zai.calls k a2 d w1 E1.out).mono ?_);rintro e w2 ⟨vd,rfl,hd,hb⟩;have HB2:=za1.mk hb;have HD:=am (Kd.zci rfl (Kd.zc9 hd HB1.out.size));obtain ⟨A2,c2,rfl⟩:=Kd.zbn hd;clear hd hb))
 have HW2:=am (zab HB1.out HB2.out);have B_a:=am (zaf BK.out HB2.out);clear BK HB1 HB2;have hg0:=zau B_a.out 0;have hg1:=zau B_a.out 1;have hg2:=zau B_a.out 2;have hgz0:w2.cell? ⟨gb,0,none⟩=some (.bool false):=bc B_a 0;have hgz1:w2.cell? ⟨gb,1,none⟩=some (.string (⟨#[]⟩:ByteArray)):=bc B_a 1;have hgz2:w2.cell? ⟨gb,2,none⟩=some (.string (⟨#[]⟩:ByteArray)):=bc B_a 2
 by_cases hl:(d.length:Int)=0
 ·have hl1:((d.length:Int) == 0)=true:=beq_iff_eq.mpr hl
  have HQ':=HQ.out;rw [if_pos hl] at HQ';simp only [Option.some.injEq,Prod.mk.injEq] at HQ';obtain ⟨rfl,rfl,rfl,rfl⟩:=HQ'
  go_wp2
  refine bodyPost_ret (results_ct rfl _ _ gb 30 #[.bool false,.string (⟨#[]⟩:ByteArray),.string (⟨#[]⟩:ByteArray)] (0,0) _ rfl (by refine za9 (cs:=#[.bool false,.string (⟨#[]⟩:ByteArray),.string (⟨#[]⟩:ByteArray)]) ?_ 2 _ rfl;refine za9 (cs:=#[.bool false,.string (⟨#[]⟩:ByteArray),.string (⟨#[]⟩:ByteArray)]) ?_ 1 _ rfl;refine za9 (cs:=#[.bool false,.string (⟨#[]⟩:ByteArray),.string (⟨#[]⟩:ByteArray)]) ?_ 0 _ rfl;exact B_a.out) Tryd.underlying30 rfl (by kernel_rfl)) rfl ?_;exact ⟨rfl,by repeat (first|(with_reducible exact HW2.out)|refine zak ?_ (by rw [HG.out];exact Nat.le_refl _))⟩
 ·have hl1:((d.length:Int) == 0)=false:=beq_eq_false_iff_ne.mpr hl
  have HQ':=HQ.out;rw [if_neg hl] at HQ';obtain ⟨n,e2,HQ'⟩:=Option.bind_eq_some_iff.1 HQ';obtain ⟨⟨t1,t2,t3⟩,e3,HQ'⟩:=Option.bind_eq_some_iff.1 HQ';have E2:=za1.mk e2;have E3:=za1.mk e3;simp only [Option.some.injEq,Prod.mk.injEq] at HQ';obtain ⟨rfl,rfl,rfl,rfl⟩:=HQ';clear e2 e3 HQ hg0 hg1 hg2 hgz0 hgz1 hgz2
  go_wp2_with (first|(go_at_call 61;(with_reducible refine (zai.calls k a1 n w2 E2.out).mono ?_);rintro e w3 ⟨vn,rfl,hn,hb⟩;have HN:=am (Kd.zci rfl (Kd.zc9 hn HW2.out.size));have HNB:=am (Kd.zct hn);have HD3:=am (Kd.zbx HD.out hb);have HDL:=am (Kd.R_lt HD.out);have HW3:=am (zab HW2.out hb);have B_b:=am (zaf B_a.out hb);obtain ⟨A3,c3,rfl⟩:=Kd.zbn hn;clear hn hb)|(go_at_call 78;(with_reducible refine (zbh.callsR k a0 (.slice A3 n.length c3) n (.slice A2 d.length c2) d t1 t2 t3 w w3 HW3.out HN.out HD3.out (fun k_ h1_ h2_=>absurd (HDL.out k_ h2_.symm) (Nat.not_lt.2 (HNB.out k_ h1_.symm))) E3.out).mono ?_);rintro e w4 ⟨rfl,hb⟩;have HW4:=am (zab HW3.out hb);have B_c:=am (zaf B_b.out hb);have hg0:=zau B_c.out 0;have hg1:=zau B_c.out 1;have hg2:=zau B_c.out 2;have hgz0:w4.cell? ⟨gb,0,none⟩=some (.bool false):=bc B_c 0;have hgz1:w4.cell? ⟨gb,1,none⟩=some (.string (⟨#[]⟩:ByteArray)):=bc B_c 1;have hgz2:w4.cell? ⟨gb,2,none⟩=some (.string (⟨#[]⟩:ByteArray)):=bc B_c 2;clear hb))
  refine bodyPost_ret (results_ct rfl _ _ gb 30 #[.bool t1,.string t2,.string t3] (0,0) _ rfl (by refine za9 (cs:=#[.bool t1,.string t2,.string (⟨#[]⟩:ByteArray)]) ?_ 2 _ rfl;refine za9 (cs:=#[.bool t1,.string (⟨#[]⟩:ByteArray),.string (⟨#[]⟩:ByteArray)]) ?_ 1 _ rfl;refine za9 (cs:=#[.bool false,.string (⟨#[]⟩:ByteArray),.string (⟨#[]⟩:ByteArray)]) ?_ 0 _ rfl;exact B_c.out) Tryd.underlying30 rfl (by kernel_rfl)) rfl ?_;exact ⟨rfl,by repeat (first|(with_reducible exact HW4.out)|refine zak ?_ (by rw [HG.out];exact Nat.le_refl _))⟩
def zc7.f (a0:Int):Option (Int):=if a0<0 then (some (IntKind.u64.wrap ((IntKind.u64.wrap (wrap64 (-(wrap64 (a0+1)))))+1))) else (some (IntKind.u64.wrap (a0)))
set_option maxHeartbeats 8000000 in
set_option maxRecDepth 100000 in
theorem zc7.calls (a0:Int) (r:Int) (w:World) (h:zc7.f a0=some r) :
 Calls Tryd.prog 70 #[.int .i64 a0] w fun e w'=>e = .returned (.int .u64 r)∧Drawn0 w w':=by
 have H:(if a0<0 then (some (IntKind.u64.wrap ((IntKind.u64.wrap (wrap64 (-(wrap64 (a0+1)))))+1))) else (some (IntKind.u64.wrap (a0))))=some r:=h;clear h
 by_cases c2:a0<0
 ·rw [if_pos c2] at H
  have c2b0:decide (a0<0)=true:=decide_eq_true c2;clear c2;obtain rfl:=Option.some.inj H;go_enter Tryd.func70,Tryd.ntmps70
  go_wp2
  go_ret;exact ⟨q5,q11⟩
 ·rw [if_neg c2] at H
  have c2b0:decide (a0<0)=false:=decide_eq_false c2;clear c2;obtain rfl:=Option.some.inj H;go_enter Tryd.func70,Tryd.ntmps70
  go_wp2
  go_ret;exact ⟨q5,q11⟩
def zc4.f (k:Nat) (a0:Int) (a1:Int):Option (Bool×ByteArray×ByteArray×Bool):=(zc7.f a0).bind fun t554=>((zbc.f k t554).bind fun t555=>((zc7.f a1).bind fun t556=>((zbc.f k t556).bind fun t557=>((zc3.f k ((decide (a0<0)) != (decide (a1<0))) t555 t557).bind fun bt558=>(some (bt558.1,bt558.2.1,bt558.2.2.1,bt558.2.2.2))))))
theorem zc4.mono:∀ a0 a1 k,LeO (zc4.f k a0 a1) (zc4.f (k+1) a0 a1):=by
 intro a0 a1 k;unfold zc4.f
 repeat' first
  | (with_reducible exact zbc.mono _ _)
  | (with_reducible exact zc3.mono _ _ _ _)
  | (with_reducible exact LeO.refl _)
  | (with_reducible exact LeO.none _)
  | (with_reducible refine LeO.ite ?_ ?_)
  | (with_reducible refine LeO.bind ?_ (fun _=>?_))
  | exact zbc.mono _ _
  | exact zc3.mono _ _ _ _
  | exact LeO.none _
  | refine LeO.ite ?_ ?_
  | refine LeO.bind ?_ (fun _=>?_)
set_option maxHeartbeats 8000000 in
set_option maxRecDepth 100000 in
theorem zc4.calls (k:Nat) (a0:Int) (a1:Int) (r1:Bool) (r2:ByteArray) (r3:ByteArray) (r4:Bool) (w:World) (h:zc4.f k a0 a1=some (r1,r2,r3,r4)) :
 Calls Tryd.prog 62 #[.int .i64 a0,.int .i64 a1] w fun e w'=>e = .returned (.tuple #[.agg #[.bool r1,.string r2,.string r3],.bool r4])∧Below w.heap.size w w':=by
 have hu30:=Tryd.underlying30;have HB:=am (Below.refl w.heap.size w);have H:((zc7.f a0).bind fun t554=>((zbc.f k t554).bind fun t555=>((zc7.f a1).bind fun t556=>((zbc.f k t556).bind fun t557=>((zc3.f k ((decide (a0<0)) != (decide (a1<0))) t555 t557).bind fun bt558=>(some (bt558.1,bt558.2.1,bt558.2.2.1,bt558.2.2.2)))))))=some (r1,r2,r3,r4):=h;clear h;replace H:=Option.bind_eq_some_iff.mp H;obtain ⟨t554,A30,H⟩:=H;replace H:((zbc.f k t554).bind fun t555=>((zc7.f a1).bind fun t556=>((zbc.f k t556).bind fun t557=>((zc3.f k ((decide (a0<0)) != (decide (a1<0))) t555 t557).bind fun bt558=>(some (bt558.1,bt558.2.1,bt558.2.2.1,bt558.2.2.2))))))=some (r1,r2,r3,r4):=H;have A3:=za1.mk A30;clear A30;replace H:=Option.bind_eq_some_iff.mp H;obtain ⟨t555,A40,H⟩:=H;replace H:((zc7.f a1).bind fun t556=>((zbc.f k t556).bind fun t557=>((zc3.f k ((decide (a0<0)) != (decide (a1<0))) t555 t557).bind fun bt558=>(some (bt558.1,bt558.2.1,bt558.2.2.1,bt558.2.2.2)))))=some (r1,r2,r3,r4):=H;have A4:=za1.mk A40;clear A40;replace H:=Option.bind_eq_some_iff.mp H;obtain ⟨t556,A50,H⟩:=H;replace H:((zbc.f k t556).bind fun t557=>((zc3.f k ((decide (a0<0)) != (decide (a1<0))) t555 t557).bind fun bt558=>(some (bt558.1,bt558.2.1,bt558.2.2.1,bt558.2.2.2))))=some (r1,r2,r3,r4):=H;have A5:=za1.mk A50;clear A50;replace H:=Option.bind_eq_some_iff.mp H;obtain ⟨t557,A60,H⟩:=H;replace H:((zc3.f k ((decide (a0<0)) != (decide (a1<0))) t555 t557).bind fun bt558=>(some (bt558.1,bt558.2.1,bt558.2.2.1,bt558.2.2.2)))=some (r1,r2,r3,r4):=H;have A6:=za1.mk A60;clear A60;replace H:=Option.bind_eq_some_iff.mp H;obtain ⟨⟨t558,t559,t560,t561⟩,A70,H⟩:=H;replace H:(some (t558,t559,t560,t561))=some (r1,r2,r3,r4):=H;have A7:=za1.mk A70;clear A70;simp only [Option.some.injEq,Prod.mk.injEq] at H;obtain ⟨rfl,rfl,rfl,rfl⟩:=H;go_enter Tryd.func62,Tryd.ntmps62
 go_wp2_with (first|((with_reducible refine zbr (N:=4) rfl ?_);refine zbq ?hg (N:=4) ?hd (cs:=#[.bool false,.string (⟨#[]⟩:ByteArray),.string (⟨#[]⟩:ByteArray)]) (t:=30) ?hr ?_;(case hd=>rfl);(case hg=>rfl);(case hr=>first|(go_simp;done)|(go_simp;rfl));intro g_a hg w8 hbox hb;have B_a:=am (hbox);have W_a:=am ((q48:w.heap.size≤g_a));have E_a:=am ((q48:w.heap.size≤g_a));replace HB:=am (zab q2 hb);clear hb hbox hg)|((with_reducible refine zan (f:=70) rfl ?_);refine goesL_ (some 12) rfl rfl Tryd.func70 (by kernel_rfl) rfl #[.int .i64 a0] rfl q4 ?_;(with_reducible refine (zc7.calls a0 t554 _ A3.out).mono ?_);rintro e w' ⟨rfl,⟨nd,rfl⟩⟩;refine ⟨_,rfl,?_⟩;(try (rw [drewN_self w8];generalize hq_:World.drewN w8 _=w8;have n0_:za1 (w8.heap[g_a]?=some (.cells #[.bool false,.string (⟨#[]⟩:ByteArray),.string (⟨#[]⟩:ByteArray)] 30 (0,0))):=⟨by rw [← hq_];exact q1⟩;have n1_:za1 (Below w.heap.size w w8):=⟨by rw [← hq_];exact q3⟩;clear B_a HB hq_;have B_a:=n0_;have HB:=n1_;clear n0_ n1_)))|((with_reducible refine zan (f:=69) rfl ?_);refine goesL_ (some 13) rfl rfl Tryd.func69 (by kernel_rfl) rfl #[.int .u64 t554] rfl q4 ?_;(with_reducible refine (zbc.calls k t554 t555 _ A4.out).mono ?_);rintro e w9 ⟨rfl,hb⟩;refine ⟨_,rfl,?_⟩;replace B_a:=am (zaf q1 hb);replace HB:=am (zab q3 hb);(try clear hb);(try clear hb2);(try clear hk);(try clear hi))|((with_reducible refine zan (f:=70) rfl ?_);refine goesL_ (some 15) rfl rfl Tryd.func70 (by kernel_rfl) rfl #[.int .i64 a1] rfl q4 ?_;(with_reducible refine (zc7.calls a1 t556 _ A5.out).mono ?_);rintro e w' ⟨rfl,⟨nd,rfl⟩⟩;refine ⟨_,rfl,?_⟩;(try (rw [drewN_self w9];generalize hq_:World.drewN w9 _=w9;have n0_:za1 (w9.heap[g_a]?=some (.cells #[.bool false,.string (⟨#[]⟩:ByteArray),.string (⟨#[]⟩:ByteArray)] 30 (0,0))):=⟨by rw [← hq_];exact q1⟩;have n1_:za1 (Below w.heap.size w w9):=⟨by rw [← hq_];exact q3⟩;clear B_a HB hq_;have B_a:=n0_;have HB:=n1_;clear n0_ n1_)))|((with_reducible refine zan (f:=69) rfl ?_);refine goesL_ (some 16) rfl rfl Tryd.func69 (by kernel_rfl) rfl #[.int .u64 t556] rfl q4 ?_;(with_reducible refine (zbc.calls k t556 t557 _ A6.out).mono ?_);rintro e w10 ⟨rfl,hb⟩;refine ⟨_,rfl,?_⟩;replace B_a:=am (zaf q1 hb);replace HB:=am (zab q3 hb);(try clear hb);(try clear hb2);(try clear hk);(try clear hi))|((with_reducible refine zan (f:=68) rfl ?_);refine goesL_ (some 17) rfl rfl Tryd.func68 (by kernel_rfl) rfl #[.bool ((decide (a0<0)) != (decide (a1<0))),.string t555,.string t557] rfl q4 ?_;(with_reducible refine (zc3.calls k ((decide (a0<0)) != (decide (a1<0))) t555 t557 t558 t559 t560 t561 _ A7.out).mono ?_);rintro e w11 ⟨rfl,hb⟩;refine ⟨_,rfl,?_⟩;replace B_a:=am (zaf q1 hb);replace HB:=am (zab q3 hb);(try clear hb);(try clear hb2);(try clear hk);(try clear hi);obtain ⟨c_a0,c_a1,c_a2⟩:=cs3 B_a.out;obtain ⟨f_a0,f_a1,f_a2⟩:=fs3 B_a.out))
 refine bodyPost_ret (results_ct rfl _ _ g_a 30 #[.bool t558,.string t559,.string t560] (0,0) _ rfl (by (with_reducible repeat (first|refine za4 ?_ _|refine za6 ?_|refine za0 ?_ _));refine za9 (cs:=#[.bool t558,.string t559,.string (⟨#[]⟩:ByteArray)]) ?_ 2 _ rfl;(with_reducible repeat (first|refine za4 ?_ _|refine za6 ?_|refine za0 ?_ _));refine za9 (cs:=#[.bool t558,.string (⟨#[]⟩:ByteArray),.string (⟨#[]⟩:ByteArray)]) ?_ 1 _ rfl;(with_reducible repeat (first|refine za4 ?_ _|refine za6 ?_|refine za0 ?_ _));refine za9 (cs:=#[.bool false,.string (⟨#[]⟩:ByteArray),.string (⟨#[]⟩:ByteArray)]) ?_ 0 _ rfl;(with_reducible repeat (first|refine za4 ?_ _|refine za6 ?_|refine za0 ?_ _));exact B_a.out) Tryd.underlying30 rfl (by kernel_rfl)) rfl ?_;exact ⟨q8,q3⟩
end Go.Proofs.YtcipcpodgkeobaaDoor.F
end
