/- Part 10 of the proof of CodecEdges: the functions' walks and what they compute, in the order of the calls; each holds for all arguments that its row allows. -/
import Derived.Test.YtcipcpodgkeobaaDoorMCodecEdges6
import Derived.Test.YtcipcpodgkeobaaDoorMCodecEdges7
import Derived.Test.YtcipcpodgkeobaaDoorMCodecEdges9
import Derived.Test.YtcipcpodgkeobaaDoorMCodecEdges5
import Derived.Laws.BitsLemmas
import Derived.IntWalk
import Derived.Test.YtcipcpodgkeobaaDoorMCodecEdges2
import Derived.KernelRfl
section
namespace Go.Proofs.YtcipcpodgkeobaaDoor.F
open Go.RowKit Go.Proofs.YtcipcpodgkeobaaDoorW.PrintWords Go.Proofs.YtcipcpodgkeobaaDoorW.PrintLast Go.Proofs.YtcipcpodgkeobaaDoorW.PrintMore
attribute [local go_sem] max2_int min2_int max_two min_two max_three min_three max_four min_four   
set_option linter.unusedVariables false
set_option linter.unusedSimpArgs false
def insolvencylaw35_same.f (k:Nat) (a0_0:Int) (a0_1:Int) (a0_2:Int) (a0_3:Int) (a0_4:Int) (a0_5:Int) (a0_6:Bool) (a0_7:ByteArray) (a0_8:ByteArray) (a0_9:Bool) (a0_10:ByteArray) (a0_11:ByteArray) (l0_12:List (S49)) (l0_13:List (S51)) (l0_14:List (S55)):Option (Bool):=(codec_Encode.f k a0_0 a0_1 a0_2 a0_3 a0_4 a0_5 a0_6 a0_7 a0_8 a0_9 a0_10 a0_11 l0_12 l0_13 l0_14).bind fun bt289=>((insolvencyref33_Encode.f k a0_0 a0_1 a0_2 a0_3 a0_4 a0_5 a0_6 a0_7 a0_8 a0_9 a0_10 a0_11 l0_12 l0_13 l0_14).bind fun bt293=>((codec_Valid.f k a0_0 a0_1 a0_2 a0_3 a0_4 a0_5 a0_6 a0_7 a0_8 a0_9 a0_10 a0_11 l0_12 l0_13 l0_14).bind fun t297=>((insolvencyref33_Valid.f k a0_0 a0_1 a0_2 a0_3 a0_4 a0_5 a0_6 a0_7 a0_8 a0_9 a0_10 a0_11 l0_12 l0_13 l0_14).bind fun t298=>(if (t297 == t298)=true then (if (strOfNums bt289.1).toList=(strOfNums bt293.1).toList then (some (bt289.2 == bt293.2)) else (some false)) else (some false)))))
theorem insolvencylaw35_same.mono:∀ a0 a1 a2 a3 a4 a5 a6 a7 a8 a9 a10 a11 a12 a13 a14 k,LeO (insolvencylaw35_same.f k a0 a1 a2 a3 a4 a5 a6 a7 a8 a9 a10 a11 a12 a13 a14) (insolvencylaw35_same.f (k+1) a0 a1 a2 a3 a4 a5 a6 a7 a8 a9 a10 a11 a12 a13 a14):=by
 intro a0 a1 a2 a3 a4 a5 a6 a7 a8 a9 a10 a11 a12 a13 a14 k
 unfold insolvencylaw35_same.f
 repeat' first
  | (with_reducible exact codec_Encode.mono _ _ _ _ _ _ _ _ _ _ _ _ _ _ _ _)
  | (with_reducible exact codec_Valid.mono _ _ _ _ _ _ _ _ _ _ _ _ _ _ _ _)
  | (with_reducible exact insolvencyref33_Encode.mono _ _ _ _ _ _ _ _ _ _ _ _ _ _ _ _)
  | (with_reducible exact insolvencyref33_Valid.mono _ _ _ _ _ _ _ _ _ _ _ _ _ _ _ _)
  | (with_reducible exact LeO.refl _)
  | (with_reducible exact LeO.none _)
  | (with_reducible refine LeO.ite ?_ ?_)
  | (with_reducible refine LeO.bind ?_ (fun _=>?_))
  | exact codec_Encode.mono _ _ _ _ _ _ _ _ _ _ _ _ _ _ _ _
  | exact codec_Valid.mono _ _ _ _ _ _ _ _ _ _ _ _ _ _ _ _
  | exact insolvencyref33_Encode.mono _ _ _ _ _ _ _ _ _ _ _ _ _ _ _ _
  | exact insolvencyref33_Valid.mono _ _ _ _ _ _ _ _ _ _ _ _ _ _ _ _
  | exact LeO.none _
  | refine LeO.ite ?_ ?_
  | refine LeO.bind ?_ (fun _=>?_)
def insolvencylaw35_same.T3:Bool×List (List Nat×List Nat):=(true,[([],[]),([0],[0]),([],[]),([2,1],[2]),([1,3],[1,3]),([4,3],[4]),([5],[5]),([6,5],[5,6]),([5],[5]),([8,5],[5,8]),([7,9,5],[5,7,9]),([5,10],[5,10]),([11,5],[11]),([12],[12]),([12],[12]),([13,14,12],[12,13,14]),([12,15],[12,15]),([16,12,0,1,2,3,4,5,6,7,8,9,10,11,12,13,14,15,16],[16])])
def insolvencylaw35_same.B3:List Nat:=[0,1,0,7,15,31,63,127,63,319,1023,2047,4095,8191,8191,32767,65535,131071]
theorem insolvencylaw35_same.tab3:rtab .any (opsOf Tryd.f14 3)=insolvencylaw35_same.T3:=by kernel_rfl
theorem insolvencylaw35_same.bits3:waitsOk insolvencylaw35_same.T3.2 insolvencylaw35_same.B3=true:=by kernel_rfl
set_option maxHeartbeats 8000000 in
set_option maxRecDepth 100000 in
theorem insolvencylaw35_same.pA (k:Nat) (a0_0:Int) (a0_1:Int) (a0_2:Int) (a0_3:Int) (a0_4:Int) (a0_5:Int) (a0_6:Bool) (a0_7:ByteArray) (a0_8:ByteArray) (a0_9:Bool) (a0_10:ByteArray) (a0_11:ByteArray) (A0_12:Option Addr) (c0_12:Nat) (l0_12:List (S49)) (A0_13:Option Addr) (c0_13:Nat) (l0_13:List (S51)) (A0_14:Option Addr) (c0_14:Nat) (l0_14:List (S55)) (r:Bool) (w:World) (hr0_12:Kd.C k49 w A0_12 l0_12.length l0_12) (hc0_12:l0_12.length≤c0_12) (hr0_13:Kd.C k51 w A0_13 l0_13.length l0_13) (hc0_13:l0_13.length≤c0_13) (hr0_14:Kd.C k55 w A0_14 l0_14.length l0_14) (hc0_14:l0_14.length≤c0_14) (t289:List Int) (t292:Int) (t293:List Int) (t296:Int) (t297 t298:Bool) (a2:codec_Encode.f k a0_0 a0_1 a0_2 a0_3 a0_4 a0_5 a0_6 a0_7 a0_8 a0_9 a0_10 a0_11 l0_12 l0_13 l0_14=some (t289,t292)) (a3:insolvencyref33_Encode.f k a0_0 a0_1 a0_2 a0_3 a0_4 a0_5 a0_6 a0_7 a0_8 a0_9 a0_10 a0_11 l0_12 l0_13 l0_14=some (t293,t296)) (a4:codec_Valid.f k a0_0 a0_1 a0_2 a0_3 a0_4 a0_5 a0_6 a0_7 a0_8 a0_9 a0_10 a0_11 l0_12 l0_13 l0_14=some t297) (a5:insolvencyref33_Valid.f k a0_0 a0_1 a0_2 a0_3 a0_4 a0_5 a0_6 a0_7 a0_8 a0_9 a0_10 a0_11 l0_12 l0_13 l0_14=some t298) (c6:(t297 == t298)=true) (c7:(strOfNums t289).toList=(strOfNums t293).toList) (H:some (t292 == t296)=some r) :
 Calls Tryd.prog 14 #[.agg #[.int .i64 a0_0,.int .i64 a0_1,.int .i64 a0_2,.int .i64 a0_3,.int .i64 a0_4,.int .i64 a0_5,.bool a0_6,.string a0_7,.string a0_8,.bool a0_9,.string a0_10,.string a0_11,.slice A0_12 l0_12.length c0_12,.slice A0_13 l0_13.length c0_13,.slice A0_14 l0_14.length c0_14]] w fun e w'=>e = .returned (.bool r)∧Below w.heap.size w w':=by
 have hu37:=Tryd.underlying37
 have HR0_12:=Aside0.mk hr0_12
 have HC0_12:=Aside0.mk hc0_12
 clear hr0_12 hc0_12
 have HR0_13:=Aside0.mk hr0_13
 have HC0_13:=Aside0.mk hc0_13
 clear hr0_13 hc0_13
 have HR0_14:=Aside0.mk hr0_14
 have HC0_14:=Aside0.mk hc0_14
 clear hr0_14 hc0_14
 have HB:=Aside0.mk (Below.refl w.heap.size w)
 have A2:=Aside0.mk a2
 have A3:=Aside0.mk a3
 have A4:=Aside0.mk a4
 have A5:=Aside0.mk a5
 clear a2 a3 a4 a5
 have c6b0:(t297 == t298)=true:=c6
 (try (have c6b1:decide (t297=t298)=true:=by simpa using c6))
 (try (have c6b2:(t297 == t298)=true:=by simpa using c6))
 clear c6
 have c7b0:((strOfNums t289).toList == (strOfNums t293).toList)=true:=beq_iff_eq.mpr c7
 have c7b1:((strOfNums t289).toList != (strOfNums t293).toList)=false:=bne_eq_false_iff_eq.mpr c7
 clear c7
 obtain rfl:=Option.some.inj H
 go_enter Tryd.func14,Tryd.ntmps14
 try go_wp2_with (first|((with_reducible refine gate_dst (N:=1) rfl ?_);refine box_event ?hg (N:=1) ?hd (cs:=#[.int .i64 a0_0,.int .i64 a0_1,.int .i64 a0_2,.int .i64 a0_3,.int .i64 a0_4,.int .i64 a0_5,.bool a0_6,.string a0_7,.string a0_8,.bool a0_9,.string a0_10,.string a0_11,.slice A0_12 l0_12.length c0_12,.slice A0_13 l0_13.length c0_13,.slice A0_14 l0_14.length c0_14]) (t:=37) ?hr ?_;(case hd=>rfl);(case hg=>rfl);(case hr=>first|(go_simp;done)|(go_simp;rfl));intro gb288 hg w8 hbox hb;have n0_:=Aside0.mk (below_step (by repeat (first|(with_reducible first|exact HB.out|apply below_alloc|apply pw_below_drewN|apply below_drew1)|exact HB.out)) hb);have n1_:=Aside0.mk (hbox);have n2_:=Aside0.mk ((by rw [hg];exact (below_size (by repeat (first|(with_reducible first|exact HB.out|apply below_alloc|apply pw_below_drewN|apply below_drew1)|exact HB.out))):w.heap.size≤gb288));have n3_:=Aside0.mk ((by rw [hg];exact (below_size (by repeat (first|(with_reducible first|exact HB.out|apply below_alloc|apply pw_below_drewN|apply below_drew1)|exact HB.out))):w.heap.size≤gb288));clear HB;have HB:=n0_;have BK288:=n1_;have GW288:=n2_;have GE288:=n3_;clear n0_ n1_ n2_ n3_;clear hb hbox hg;have hcz9_0:w8.cell? ⟨gb288,0,none⟩=some (.int .i64 a0_0):=(blk_cell BK288.out 0).trans rfl;have hcz9_1:w8.cell? ⟨gb288,1,none⟩=some (.int .i64 a0_1):=(blk_cell BK288.out 1).trans rfl;have hcz9_2:w8.cell? ⟨gb288,2,none⟩=some (.int .i64 a0_2):=(blk_cell BK288.out 2).trans rfl;have hcz9_3:w8.cell? ⟨gb288,3,none⟩=some (.int .i64 a0_3):=(blk_cell BK288.out 3).trans rfl;have hcz9_4:w8.cell? ⟨gb288,4,none⟩=some (.int .i64 a0_4):=(blk_cell BK288.out 4).trans rfl;have hcz9_5:w8.cell? ⟨gb288,5,none⟩=some (.int .i64 a0_5):=(blk_cell BK288.out 5).trans rfl;have hcz9_6:w8.cell? ⟨gb288,6,none⟩=some (.bool a0_6):=(blk_cell BK288.out 6).trans rfl;have hcz9_7:w8.cell? ⟨gb288,7,none⟩=some (.string a0_7):=(blk_cell BK288.out 7).trans rfl;have hcz9_8:w8.cell? ⟨gb288,8,none⟩=some (.string a0_8):=(blk_cell BK288.out 8).trans rfl;have hcz9_9:w8.cell? ⟨gb288,9,none⟩=some (.bool a0_9):=(blk_cell BK288.out 9).trans rfl;have hcz9_10:w8.cell? ⟨gb288,10,none⟩=some (.string a0_10):=(blk_cell BK288.out 10).trans rfl;have hcz9_11:w8.cell? ⟨gb288,11,none⟩=some (.string a0_11):=(blk_cell BK288.out 11).trans rfl;have hcz9_12:w8.cell? ⟨gb288,12,none⟩=some (.slice A0_12 l0_12.length c0_12):=(blk_cell BK288.out 12).trans rfl;have hcz9_13:w8.cell? ⟨gb288,13,none⟩=some (.slice A0_13 l0_13.length c0_13):=(blk_cell BK288.out 13).trans rfl;have hcz9_14:w8.cell? ⟨gb288,14,none⟩=some (.slice A0_14 l0_14.length c0_14):=(blk_cell BK288.out 14).trans rfl;have hfz9_0:=blk_frozen BK288.out 0;have hfz9_1:=blk_frozen BK288.out 1;have hfz9_2:=blk_frozen BK288.out 2;have hfz9_3:=blk_frozen BK288.out 3;have hfz9_4:=blk_frozen BK288.out 4;have hfz9_5:=blk_frozen BK288.out 5;have hfz9_6:=blk_frozen BK288.out 6;have hfz9_7:=blk_frozen BK288.out 7;have hfz9_8:=blk_frozen BK288.out 8;have hfz9_9:=blk_frozen BK288.out 9;have hfz9_10:=blk_frozen BK288.out 10;have hfz9_11:=blk_frozen BK288.out 11;have hfz9_12:=blk_frozen BK288.out 12;have hfz9_13:=blk_frozen BK288.out 13;have hfz9_14:=blk_frozen BK288.out 14)|((with_reducible refine gate_callee (f:=16) rfl ?_);refine goesL_ (some 9) rfl rfl Tryd.func16 (by kernel_rfl) rfl #[.agg #[.int .i64 a0_0,.int .i64 a0_1,.int .i64 a0_2,.int .i64 a0_3,.int .i64 a0_4,.int .i64 a0_5,.bool a0_6,.string a0_7,.string a0_8,.bool a0_9,.string a0_10,.string a0_11,.slice A0_12 l0_12.length c0_12,.slice A0_13 l0_13.length c0_13,.slice A0_14 l0_14.length c0_14]] rfl (by (try simp only [List.map_toArray,List.map_cons,List.map_nil]);first|done|rfl|(simp only [List.length_drop,List.length_take];rfl)) ?_;(with_reducible refine (codec_Encode.calls k a0_0 a0_1 a0_2 a0_3 a0_4 a0_5 a0_6 a0_7 a0_8 a0_9 a0_10 a0_11 _ _ l0_12 _ _ l0_13 _ _ l0_14 t289 t292 _ ?side1 ?side2 ?side3 ?side4 ?side5 ?side6 A2.out).mono ?_);(case side1=>repeat (first|exact (Kd.C_below HR0_12.out HB.out)|(with_reducible refine Kd.C_alloc ?_ _)|(with_reducible refine Kd.C_drewN ?_ _)|(with_reducible refine Kd.C_drew ?_)));(case side2=>exact HC0_12.out);(case side3=>repeat (first|exact (Kd.C_below HR0_13.out HB.out)|(with_reducible refine Kd.C_alloc ?_ _)|(with_reducible refine Kd.C_drewN ?_ _)|(with_reducible refine Kd.C_drew ?_)));(case side4=>exact HC0_13.out);(case side5=>repeat (first|exact (Kd.C_below HR0_14.out HB.out)|(with_reducible refine Kd.C_alloc ?_ _)|(with_reducible refine Kd.C_drewN ?_ _)|(with_reducible refine Kd.C_drew ?_)));(case side6=>exact HC0_14.out);rintro e w10 ⟨v290,rfl,ho0,hb⟩;refine ⟨_,rfl,?_⟩;have n0_:=Aside0.mk (Kd.R_lower ho0 (below_size (by repeat (first|(with_reducible first|exact HB.out|apply below_alloc|apply pw_below_drewN|apply below_drew1|refine below_set ?_ GE288.out)|exact HB.out))));have n1_:=Aside0.mk (blk_below (g:=gb288) (o:=.cells #[.int .i64 a0_0,.int .i64 a0_1,.int .i64 a0_2,.int .i64 a0_3,.int .i64 a0_4,.int .i64 a0_5,.bool a0_6,.string a0_7,.string a0_8,.bool a0_9,.string a0_10,.string a0_11,.slice A0_12 l0_12.length c0_12,.slice A0_13 l0_13.length c0_13,.slice A0_14 l0_14.length c0_14] 37 (0,0)) (by (with_reducible repeat (first|refine blk_drewN ?_ _|refine blk_drew ?_|refine blk_alloc ?_ _));exact BK288.out) hb);have n2_:=Aside0.mk (below_step (by repeat (first|(with_reducible first|exact HB.out|apply below_alloc|apply pw_below_drewN|apply below_drew1|refine below_set ?_ GE288.out)|exact HB.out)) hb);clear BK288;clear HB;have HO291:=n0_;have BK288:=n1_;have HB:=n2_;clear n0_ n1_ n2_;(try clear hb);(try clear hb2);(try clear hk);(try clear hi);(try clear ho0);have hcz11_0:w10.cell? ⟨gb288,0,none⟩=some (.int .i64 a0_0):=(blk_cell BK288.out 0).trans rfl;have hcz11_1:w10.cell? ⟨gb288,1,none⟩=some (.int .i64 a0_1):=(blk_cell BK288.out 1).trans rfl;have hcz11_2:w10.cell? ⟨gb288,2,none⟩=some (.int .i64 a0_2):=(blk_cell BK288.out 2).trans rfl;have hcz11_3:w10.cell? ⟨gb288,3,none⟩=some (.int .i64 a0_3):=(blk_cell BK288.out 3).trans rfl;have hcz11_4:w10.cell? ⟨gb288,4,none⟩=some (.int .i64 a0_4):=(blk_cell BK288.out 4).trans rfl;have hcz11_5:w10.cell? ⟨gb288,5,none⟩=some (.int .i64 a0_5):=(blk_cell BK288.out 5).trans rfl;have hcz11_6:w10.cell? ⟨gb288,6,none⟩=some (.bool a0_6):=(blk_cell BK288.out 6).trans rfl;have hcz11_7:w10.cell? ⟨gb288,7,none⟩=some (.string a0_7):=(blk_cell BK288.out 7).trans rfl;have hcz11_8:w10.cell? ⟨gb288,8,none⟩=some (.string a0_8):=(blk_cell BK288.out 8).trans rfl;have hcz11_9:w10.cell? ⟨gb288,9,none⟩=some (.bool a0_9):=(blk_cell BK288.out 9).trans rfl;have hcz11_10:w10.cell? ⟨gb288,10,none⟩=some (.string a0_10):=(blk_cell BK288.out 10).trans rfl;have hcz11_11:w10.cell? ⟨gb288,11,none⟩=some (.string a0_11):=(blk_cell BK288.out 11).trans rfl;have hcz11_12:w10.cell? ⟨gb288,12,none⟩=some (.slice A0_12 l0_12.length c0_12):=(blk_cell BK288.out 12).trans rfl;have hcz11_13:w10.cell? ⟨gb288,13,none⟩=some (.slice A0_13 l0_13.length c0_13):=(blk_cell BK288.out 13).trans rfl;have hcz11_14:w10.cell? ⟨gb288,14,none⟩=some (.slice A0_14 l0_14.length c0_14):=(blk_cell BK288.out 14).trans rfl;have hfz11_0:=blk_frozen BK288.out 0;have hfz11_1:=blk_frozen BK288.out 1;have hfz11_2:=blk_frozen BK288.out 2;have hfz11_3:=blk_frozen BK288.out 3;have hfz11_4:=blk_frozen BK288.out 4;have hfz11_5:=blk_frozen BK288.out 5;have hfz11_6:=blk_frozen BK288.out 6;have hfz11_7:=blk_frozen BK288.out 7;have hfz11_8:=blk_frozen BK288.out 8;have hfz11_9:=blk_frozen BK288.out 9;have hfz11_10:=blk_frozen BK288.out 10;have hfz11_11:=blk_frozen BK288.out 11;have hfz11_12:=blk_frozen BK288.out 12;have hfz11_13:=blk_frozen BK288.out 13;have hfz11_14:=blk_frozen BK288.out 14)|((with_reducible refine gate_callee (f:=18) rfl ?_);refine goesL_ (some 14) rfl rfl Tryd.func18 (by kernel_rfl) rfl #[.agg #[.int .i64 a0_0,.int .i64 a0_1,.int .i64 a0_2,.int .i64 a0_3,.int .i64 a0_4,.int .i64 a0_5,.bool a0_6,.string a0_7,.string a0_8,.bool a0_9,.string a0_10,.string a0_11,.slice A0_12 l0_12.length c0_12,.slice A0_13 l0_13.length c0_13,.slice A0_14 l0_14.length c0_14]] rfl (by (try simp only [List.map_toArray,List.map_cons,List.map_nil]);first|done|rfl|(simp only [List.length_drop,List.length_take];rfl)) ?_;(with_reducible refine (insolvencyref33_Encode.calls k a0_0 a0_1 a0_2 a0_3 a0_4 a0_5 a0_6 a0_7 a0_8 a0_9 a0_10 a0_11 _ _ l0_12 _ _ l0_13 _ _ l0_14 t293 t296 _ ?side1 ?side2 ?side3 ?side4 ?side5 ?side6 A3.out).mono ?_);(case side1=>repeat (first|exact (Kd.C_below HR0_12.out HB.out)|(with_reducible refine Kd.C_alloc ?_ _)|(with_reducible refine Kd.C_drewN ?_ _)|(with_reducible refine Kd.C_drew ?_)));(case side2=>exact HC0_12.out);(case side3=>repeat (first|exact (Kd.C_below HR0_13.out HB.out)|(with_reducible refine Kd.C_alloc ?_ _)|(with_reducible refine Kd.C_drewN ?_ _)|(with_reducible refine Kd.C_drew ?_)));(case side4=>exact HC0_13.out);(case side5=>repeat (first|exact (Kd.C_below HR0_14.out HB.out)|(with_reducible refine Kd.C_alloc ?_ _)|(with_reducible refine Kd.C_drewN ?_ _)|(with_reducible refine Kd.C_drew ?_)));(case side6=>exact HC0_14.out);rintro e w12 ⟨v294,rfl,ho0,hb⟩;refine ⟨_,rfl,?_⟩;have n0_:=Aside0.mk (Kd.R_elder' (by (with_reducible repeat (first|apply Kd.R_alloc|apply Kd.R_drewN|apply Kd.R_drew));exact HO291.out) (Kd.R_base ho0) hb);have n1_:=Aside0.mk (Kd.R_lower (Kd.R_new' ho0 (Kd.R_lt (by (with_reducible repeat (first|apply Kd.R_alloc|apply Kd.R_drewN|apply Kd.R_drew));exact HO291.out))) (below_size (by repeat (first|(with_reducible first|exact HB.out|apply below_alloc|apply pw_below_drewN|apply below_drew1|refine below_set ?_ GE288.out)|exact HB.out))));have n2_:=Aside0.mk (blk_below (g:=gb288) (o:=.cells #[.int .i64 a0_0,.int .i64 a0_1,.int .i64 a0_2,.int .i64 a0_3,.int .i64 a0_4,.int .i64 a0_5,.bool a0_6,.string a0_7,.string a0_8,.bool a0_9,.string a0_10,.string a0_11,.slice A0_12 l0_12.length c0_12,.slice A0_13 l0_13.length c0_13,.slice A0_14 l0_14.length c0_14] 37 (0,0)) (by (with_reducible repeat (first|refine blk_drewN ?_ _|refine blk_drew ?_|refine blk_alloc ?_ _));exact BK288.out) hb);have n3_:=Aside0.mk (below_step (by repeat (first|(with_reducible first|exact HB.out|apply below_alloc|apply pw_below_drewN|apply below_drew1|refine below_set ?_ GE288.out)|exact HB.out)) hb);clear HO291;clear BK288;clear HB;have HO291:=n0_;have HO295:=n1_;have BK288:=n2_;have HB:=n3_;clear n0_ n1_ n2_ n3_;(try clear hb);(try clear hb2);(try clear hk);(try clear hi);(try clear ho0)))
 have n0_:=Aside0.mk (Kd.R_drew HO291.out)
 have n1_:=Aside0.mk (Kd.R_drew HO295.out)
 have n2_:=Aside0.mk (blk_drew BK288.out)
 have n3_:=Aside0.mk (below_drew1 HB.out)
 clear HO291
 clear HO295
 clear BK288
 clear HB
 have HO291:=n0_
 have HO295:=n1_
 have BK288:=n2_
 have HB:=n3_
 clear n0_ n1_ n2_ n3_
 refine start_ (n:=18) (S:=fun w'=>w'.cell? ⟨gb288,0,none⟩=some (.int .i64 a0_0)∧w'.cell? ⟨gb288,1,none⟩=some (.int .i64 a0_1)∧w'.cell? ⟨gb288,2,none⟩=some (.int .i64 a0_2)∧w'.cell? ⟨gb288,3,none⟩=some (.int .i64 a0_3)∧w'.cell? ⟨gb288,4,none⟩=some (.int .i64 a0_4)∧w'.cell? ⟨gb288,5,none⟩=some (.int .i64 a0_5)∧w'.cell? ⟨gb288,6,none⟩=some (.bool a0_6)∧w'.cell? ⟨gb288,7,none⟩=some (.string a0_7)∧w'.cell? ⟨gb288,8,none⟩=some (.string a0_8)∧w'.cell? ⟨gb288,9,none⟩=some (.bool a0_9)∧w'.cell? ⟨gb288,10,none⟩=some (.string a0_10)∧w'.cell? ⟨gb288,11,none⟩=some (.string a0_11)∧w'.cell? ⟨gb288,12,none⟩=some (.slice A0_12 l0_12.length c0_12)∧w'.cell? ⟨gb288,13,none⟩=some (.slice A0_13 l0_13.length c0_13)∧w'.cell? ⟨gb288,14,none⟩=some (.slice A0_14 l0_14.length c0_14)∧Sem.run Tryd.prog (convert 22 9 v290) w' = .ok (.string (strOfNums t289)) w'∧Sem.run Tryd.prog (convert 22 9 v294) w' = .ok (.string (strOfNums t293)) w') (ds:=[]) #[false,false,false,false,false,false,false,false,false,false,false,false,false,false,false,false,false,false] (by kernel_rfl) rfl rfl ⟨(blk_cell BK288.out 0).trans rfl,(blk_cell BK288.out 1).trans rfl,(blk_cell BK288.out 2).trans rfl,(blk_cell BK288.out 3).trans rfl,(blk_cell BK288.out 4).trans rfl,(blk_cell BK288.out 5).trans rfl,(blk_cell BK288.out 6).trans rfl,(blk_cell BK288.out 7).trans rfl,(blk_cell BK288.out 8).trans rfl,(blk_cell BK288.out 9).trans rfl,(blk_cell BK288.out 10).trans rfl,(blk_cell BK288.out 11).trans rfl,(blk_cell BK288.out 12).trans rfl,(blk_cell BK288.out 13).trans rfl,(blk_cell BK288.out 14).trans rfl,own_string (P:=Tryd.prog) Tryd.underlying22 Tryd.underlying5 Tryd.underlying9 (Kd.own_of_R (by (with_reducible repeat (first|apply Kd.R_alloc|apply Kd.R_drewN|apply Kd.R_drew));exact HO291.out)),own_string (P:=Tryd.prog) Tryd.underlying22 Tryd.underlying5 Tryd.underlying9 (Kd.own_of_R (by (with_reducible repeat (first|apply Kd.R_alloc|apply Kd.R_drewN|apply Kd.R_drew));exact HO295.out))⟩ (fun hHeld=>?_);refine with_tabW insolvencylaw35_same.tab3 insolvencylaw35_same.bits3 (fun HT_ HW_=>?_)
 generalize w12.drew=w13 at HO291 HO295 BK288 HB hHeld ⊢
 refine take_ (i:=0) (N:=some 17) (v:=?_) (a':=?_) #[true,false,false,false,false,false,false,false,false,false,false,false,false,false,false,false,false,false] rfl rfl (take_ofW HT_.out HW_.out (by kernel_rfl)) (fun _ _ _ h=>h) (Or.inl ⟨by rfl,?_⟩) hHeld ?_ ?_
 rotate_left
 ·rintro w' ⟨s0,s1,s2,s3,s4,s5,s6,s7,s8,s9,s10,s11,s12,s13,s14,q0_,q1_⟩
  go_simp
  with_reducible rfl
 rotate_left
 ·simp only [Act.put,List.setIfInBounds_toArray,List.set_cons_zero,List.set_cons_succ,i64_w,i32_w]
  rfl
 refine take_ (i:=2) (N:=some 19) (v:=?_) (a':=?_) #[true,false,true,false,false,false,false,false,false,false,false,false,false,false,false,false,false,false] rfl rfl (take_ofW HT_.out HW_.out (by kernel_rfl)) (fun _ _ _ h=>h) (Or.inl ⟨by rfl,?_⟩) hHeld ?_ ?_
 rotate_left
 ·rintro w' ⟨s0,s1,s2,s3,s4,s5,s6,s7,s8,s9,s10,s11,s12,s13,s14,q0_,q1_⟩
  go_simp
  with_reducible rfl
 rotate_left
 ·simp only [Act.put,List.setIfInBounds_toArray,List.set_cons_zero,List.set_cons_succ,i64_w,i32_w]
  rfl
 refine one_ (i:=1) (N:=some 18) #[true,true,true,false,false,false,false,false,false,false,false,false,false,false,false,false,false,false] rfl rfl (one_of HT_.out (by kernel_rfl)) (by decide) (fun K hK=>?_)
 refine goes_ Tryd.func22 (by kernel_rfl) rfl #[.agg #[.int .i64 a0_0,.int .i64 a0_1,.int .i64 a0_2,.int .i64 a0_3,.int .i64 a0_4,.int .i64 a0_5,.bool a0_6,.string a0_7,.string a0_8,.bool a0_9,.string a0_10,.string a0_11,.slice A0_12 l0_12.length c0_12,.slice A0_13 l0_13.length c0_13,.slice A0_14 l0_14.length c0_14]] (by rfl) rfl rfl (by (try simp only [List.map_toArray,List.map_cons,List.map_nil]);first|done|rfl|(simp only [List.length_drop,List.length_take];rfl)) ?_
 with_reducible refine (codec_Valid.calls k a0_0 a0_1 a0_2 a0_3 a0_4 a0_5 a0_6 a0_7 a0_8 a0_9 a0_10 a0_11 _ _ l0_12 _ _ l0_13 _ _ l0_14 t297 _ ?side1 ?side2 ?side3 ?side4 ?side5 ?side6 A4.out).mono ?_
 (case side1=>repeat (first|exact (Kd.C_below HR0_12.out HB.out)|(with_reducible refine Kd.C_alloc ?_ _)|(with_reducible refine Kd.C_drewN ?_ _)|(with_reducible refine Kd.C_drew ?_)))
 (case side2=>exact HC0_12.out)
 (case side3=>repeat (first|exact (Kd.C_below HR0_13.out HB.out)|(with_reducible refine Kd.C_alloc ?_ _)|(with_reducible refine Kd.C_drewN ?_ _)|(with_reducible refine Kd.C_drew ?_)))
 (case side4=>exact HC0_13.out)
 (case side5=>repeat (first|exact (Kd.C_below HR0_14.out HB.out)|(with_reducible refine Kd.C_alloc ?_ _)|(with_reducible refine Kd.C_drewN ?_ _)|(with_reducible refine Kd.C_drew ?_)))
 (case side6=>exact HC0_14.out)
 rintro e w14 ⟨rfl,hb⟩
 refine ⟨_,rfl,?_⟩
 have n0_:=Aside0.mk (Kd.R_below (by (with_reducible repeat (first|apply Kd.R_alloc|apply Kd.R_drewN|apply Kd.R_drew));exact HO291.out) hb)
 have n1_:=Aside0.mk (Kd.R_below (by (with_reducible repeat (first|apply Kd.R_alloc|apply Kd.R_drewN|apply Kd.R_drew));exact HO295.out) hb)
 have n2_:=Aside0.mk (blk_below (g:=gb288) (o:=.cells #[.int .i64 a0_0,.int .i64 a0_1,.int .i64 a0_2,.int .i64 a0_3,.int .i64 a0_4,.int .i64 a0_5,.bool a0_6,.string a0_7,.string a0_8,.bool a0_9,.string a0_10,.string a0_11,.slice A0_12 l0_12.length c0_12,.slice A0_13 l0_13.length c0_13,.slice A0_14 l0_14.length c0_14] 37 (0,0)) (by (with_reducible repeat (first|refine blk_drewN ?_ _|refine blk_drew ?_|refine blk_alloc ?_ _));exact BK288.out) hb)
 have n3_:=Aside0.mk (below_step (by repeat (first|(with_reducible first|exact HB.out|apply below_alloc|apply pw_below_drewN|apply below_drew1|refine below_set ?_ GE288.out)|exact HB.out)) hb)
 clear HO291
 clear HO295
 clear BK288
 clear HB
 have HO291:=n0_
 have HO295:=n1_
 have BK288:=n2_
 have HB:=n3_
 clear n0_ n1_ n2_ n3_
 (try clear hb)
 (try clear hb2)
 (try clear hk)
 (try clear hi)
 refine hK.out _ _ ⟨(blk_cell BK288.out 0).trans rfl,(blk_cell BK288.out 1).trans rfl,(blk_cell BK288.out 2).trans rfl,(blk_cell BK288.out 3).trans rfl,(blk_cell BK288.out 4).trans rfl,(blk_cell BK288.out 5).trans rfl,(blk_cell BK288.out 6).trans rfl,(blk_cell BK288.out 7).trans rfl,(blk_cell BK288.out 8).trans rfl,(blk_cell BK288.out 9).trans rfl,(blk_cell BK288.out 10).trans rfl,(blk_cell BK288.out 11).trans rfl,(blk_cell BK288.out 12).trans rfl,(blk_cell BK288.out 13).trans rfl,(blk_cell BK288.out 14).trans rfl,own_string (P:=Tryd.prog) Tryd.underlying22 Tryd.underlying5 Tryd.underlying9 (Kd.own_of_R (by (with_reducible repeat (first|apply Kd.R_alloc|apply Kd.R_drewN|apply Kd.R_drew));exact HO291.out)),own_string (P:=Tryd.prog) Tryd.underlying22 Tryd.underlying5 Tryd.underlying9 (Kd.own_of_R (by (with_reducible repeat (first|apply Kd.R_alloc|apply Kd.R_drewN|apply Kd.R_drew));exact HO295.out))⟩ (fun hHeld=>?_)
 clear hK K
 refine norm_ (a':=?_) ?_ ?_
 rotate_left
 ·show Act.put _ (some 18) _=_
  simp only [Act.put,List.setIfInBounds_toArray,List.set_cons_zero,List.set_cons_succ,i64_w,i32_w]
  rfl
 refine one_ (i:=3) (N:=some 20) #[true,true,true,true,false,false,false,false,false,false,false,false,false,false,false,false,false,false] rfl rfl (one_of HT_.out (by kernel_rfl)) (by decide) (fun K hK=>?_)
 refine goes_ Tryd.func23 (by kernel_rfl) rfl #[.agg #[.int .i64 a0_0,.int .i64 a0_1,.int .i64 a0_2,.int .i64 a0_3,.int .i64 a0_4,.int .i64 a0_5,.bool a0_6,.string a0_7,.string a0_8,.bool a0_9,.string a0_10,.string a0_11,.slice A0_12 l0_12.length c0_12,.slice A0_13 l0_13.length c0_13,.slice A0_14 l0_14.length c0_14]] (by rfl) rfl rfl (by (try simp only [List.map_toArray,List.map_cons,List.map_nil]);first|done|rfl|(simp only [List.length_drop,List.length_take];rfl)) ?_
 with_reducible refine (insolvencyref33_Valid.calls k a0_0 a0_1 a0_2 a0_3 a0_4 a0_5 a0_6 a0_7 a0_8 a0_9 a0_10 a0_11 _ _ l0_12 _ _ l0_13 _ _ l0_14 t298 _ ?side1 ?side2 ?side3 ?side4 ?side5 ?side6 A5.out).mono ?_
 (case side1=>repeat (first|exact (Kd.C_below HR0_12.out HB.out)|(with_reducible refine Kd.C_alloc ?_ _)|(with_reducible refine Kd.C_drewN ?_ _)|(with_reducible refine Kd.C_drew ?_)))
 (case side2=>exact HC0_12.out)
 (case side3=>repeat (first|exact (Kd.C_below HR0_13.out HB.out)|(with_reducible refine Kd.C_alloc ?_ _)|(with_reducible refine Kd.C_drewN ?_ _)|(with_reducible refine Kd.C_drew ?_)))
 (case side4=>exact HC0_13.out)
 (case side5=>repeat (first|exact (Kd.C_below HR0_14.out HB.out)|(with_reducible refine Kd.C_alloc ?_ _)|(with_reducible refine Kd.C_drewN ?_ _)|(with_reducible refine Kd.C_drew ?_)))
 (case side6=>exact HC0_14.out)
 rintro e w15 ⟨rfl,hb⟩
 refine ⟨_,rfl,?_⟩
 have n0_:=Aside0.mk (Kd.R_below (by (with_reducible repeat (first|apply Kd.R_alloc|apply Kd.R_drewN|apply Kd.R_drew));exact HO291.out) hb)
 have n1_:=Aside0.mk (Kd.R_below (by (with_reducible repeat (first|apply Kd.R_alloc|apply Kd.R_drewN|apply Kd.R_drew));exact HO295.out) hb)
 have n2_:=Aside0.mk (blk_below (g:=gb288) (o:=.cells #[.int .i64 a0_0,.int .i64 a0_1,.int .i64 a0_2,.int .i64 a0_3,.int .i64 a0_4,.int .i64 a0_5,.bool a0_6,.string a0_7,.string a0_8,.bool a0_9,.string a0_10,.string a0_11,.slice A0_12 l0_12.length c0_12,.slice A0_13 l0_13.length c0_13,.slice A0_14 l0_14.length c0_14] 37 (0,0)) (by (with_reducible repeat (first|refine blk_drewN ?_ _|refine blk_drew ?_|refine blk_alloc ?_ _));exact BK288.out) hb)
 have n3_:=Aside0.mk (below_step (by repeat (first|(with_reducible first|exact HB.out|apply below_alloc|apply pw_below_drewN|apply below_drew1|refine below_set ?_ GE288.out)|exact HB.out)) hb)
 clear HO291
 clear HO295
 clear BK288
 clear HB
 have HO291:=n0_
 have HO295:=n1_
 have BK288:=n2_
 have HB:=n3_
 clear n0_ n1_ n2_ n3_
 (try clear hb)
 (try clear hb2)
 (try clear hk)
 (try clear hi)
 have hcv16:=own_string (P:=Tryd.prog) Tryd.underlying22 Tryd.underlying5 Tryd.underlying9 (Kd.own_of_R HO291.out)
 have hcv17:=own_string (P:=Tryd.prog) Tryd.underlying22 Tryd.underlying5 Tryd.underlying9 (Kd.own_of_R HO295.out)
 refine hK.out _ _ ⟨(blk_cell BK288.out 0).trans rfl,(blk_cell BK288.out 1).trans rfl,(blk_cell BK288.out 2).trans rfl,(blk_cell BK288.out 3).trans rfl,(blk_cell BK288.out 4).trans rfl,(blk_cell BK288.out 5).trans rfl,(blk_cell BK288.out 6).trans rfl,(blk_cell BK288.out 7).trans rfl,(blk_cell BK288.out 8).trans rfl,(blk_cell BK288.out 9).trans rfl,(blk_cell BK288.out 10).trans rfl,(blk_cell BK288.out 11).trans rfl,(blk_cell BK288.out 12).trans rfl,(blk_cell BK288.out 13).trans rfl,(blk_cell BK288.out 14).trans rfl,own_string (P:=Tryd.prog) Tryd.underlying22 Tryd.underlying5 Tryd.underlying9 (Kd.own_of_R (by (with_reducible repeat (first|apply Kd.R_alloc|apply Kd.R_drewN|apply Kd.R_drew));exact HO291.out)),own_string (P:=Tryd.prog) Tryd.underlying22 Tryd.underlying5 Tryd.underlying9 (Kd.own_of_R (by (with_reducible repeat (first|apply Kd.R_alloc|apply Kd.R_drewN|apply Kd.R_drew));exact HO295.out))⟩ (fun hHeld=>?_)
 clear hK K
 refine norm_ (a':=?_) ?_ ?_
 rotate_left
 ·show Act.put _ (some 20) _=_
  simp only [Act.put,List.setIfInBounds_toArray,List.set_cons_zero,List.set_cons_succ,i64_w,i32_w]
  rfl
 refine pure_ (i:=4) (N:=some 21) (v:=?_) (a':=?_) #[true,true,true,true,true,false,false,false,false,false,false,false,false,false,false,false,false,false] rfl rfl (any_of HT_.out (by kernel_rfl)) (fun _ _ _ h=>h) (Or.inl ⟨by rfl,?_⟩) ?_ ?_
 rotate_left
 ·intro w'
  go_simp
  with_reducible rfl
 rotate_left
 ·simp only [Act.put,List.setIfInBounds_toArray,List.set_cons_zero,List.set_cons_succ,i64_w,i32_w]
  rfl
 refine pure_ (i:=5) (N:=some 22) (v:=?_) (a':=?_) #[true,true,true,true,true,true,false,false,false,false,false,false,false,false,false,false,false,false] rfl rfl (any_of HT_.out (by kernel_rfl)) (fun _ _ _ h=>h) (Or.inl ⟨by rfl,?_⟩) ?_ ?_
 rotate_left
 ·intro w'
  go_simp
  with_reducible rfl
 rotate_left
 ·simp only [Act.put,List.setIfInBounds_toArray,List.set_cons_zero,List.set_cons_succ,i64_w,i32_w]
  rfl
 refine pure_ (i:=6) (N:=some 23) (v:=?_) (a':=?_) #[true,true,true,true,true,true,true,false,false,false,false,false,false,false,false,false,false,false] rfl rfl (any_of HT_.out (by kernel_rfl)) (fun _ _ _ h=>h) (Or.inl ⟨by rfl,?_⟩) ?_ ?_
 rotate_left
 ·intro w'
  go_simp
  with_reducible rfl
 rotate_left
 ·simp only [Act.put,List.setIfInBounds_toArray,List.set_cons_zero,List.set_cons_succ,i64_w,i32_w]
  rfl
 refine take_ (i:=7) (N:=some 24) (v:=?_) (a':=?_) #[true,true,true,true,true,true,true,true,false,false,false,false,false,false,false,false,false,false] rfl rfl (take_ofW HT_.out HW_.out (by kernel_rfl)) (fun _ _ _ h=>h) (Or.inl ⟨by rfl,?_⟩) hHeld ?_ ?_
 rotate_left
 ·rintro w' ⟨s0,s1,s2,s3,s4,s5,s6,s7,s8,s9,s10,s11,s12,s13,s14,q0_,q1_⟩
  go_simp
  first|with_reducible rfl|(rw [q0_];rfl)|(rw [q1_];rfl)
 rotate_left
 ·simp only [Act.put,List.setIfInBounds_toArray,List.set_cons_zero,List.set_cons_succ,i64_w,i32_w]
  rfl
 refine pure_ (i:=8) (N:=some 25) (v:=?_) (a':=?_) #[true,true,true,true,true,true,true,true,true,false,false,false,false,false,false,false,false,false] rfl rfl (any_of HT_.out (by kernel_rfl)) (fun _ _ _ h=>h) (Or.inl ⟨by rfl,?_⟩) ?_ ?_
 rotate_left
 ·intro w'
  go_simp
  with_reducible rfl
 rotate_left
 ·simp only [Act.put,List.setIfInBounds_toArray,List.set_cons_zero,List.set_cons_succ,i64_w,i32_w]
  rfl
 refine take_ (i:=9) (N:=some 26) (v:=?_) (a':=?_) #[true,true,true,true,true,true,true,true,true,true,false,false,false,false,false,false,false,false] rfl rfl (take_ofW HT_.out HW_.out (by kernel_rfl)) (fun _ _ _ h=>h) (Or.inl ⟨by rfl,?_⟩) hHeld ?_ ?_
 rotate_left
 ·rintro w' ⟨s0,s1,s2,s3,s4,s5,s6,s7,s8,s9,s10,s11,s12,s13,s14,q0_,q1_⟩
  go_simp
  first|with_reducible rfl|(rw [q0_];rfl)|(rw [q1_];rfl)
 rotate_left
 ·simp only [Act.put,List.setIfInBounds_toArray,List.set_cons_zero,List.set_cons_succ,i64_w,i32_w]
  rfl
 refine pure_ (i:=10) (N:=some 27) (v:=?_) (a':=?_) #[true,true,true,true,true,true,true,true,true,true,true,false,false,false,false,false,false,false] rfl rfl (any_of HT_.out (by kernel_rfl)) (fun _ _ _ h=>h) (Or.inl ⟨by rfl,?_⟩) ?_ ?_
 rotate_left
 ·intro w'
  go_simp
  with_reducible rfl
 rotate_left
 ·simp only [Act.put,List.setIfInBounds_toArray,List.set_cons_zero,List.set_cons_succ,i64_w,i32_w]
  rfl
 refine pure_ (i:=11) (N:=some 28) (v:=?_) (a':=?_) #[true,true,true,true,true,true,true,true,true,true,true,true,false,false,false,false,false,false] rfl rfl (any_of HT_.out (by kernel_rfl)) (fun _ _ _ h=>h) (Or.inl ⟨by rfl,?_⟩) ?_ ?_
 rotate_left
 ·intro w'
  go_simp
  with_reducible rfl
 rotate_left
 ·simp only [Act.put,List.setIfInBounds_toArray,List.set_cons_zero,List.set_cons_succ,i64_w,i32_w]
  rfl
 refine pure_ (i:=12) (N:=some 29) (v:=?_) (a':=?_) #[true,true,true,true,true,true,true,true,true,true,true,true,true,false,false,false,false,false] rfl rfl (any_of HT_.out (by kernel_rfl)) (fun _ _ _ h=>h) (Or.inl ⟨by rfl,?_⟩) ?_ ?_
 rotate_left
 ·intro w'
  go_simp
  with_reducible rfl
 rotate_left
 ·simp only [Act.put,List.setIfInBounds_toArray,List.set_cons_zero,List.set_cons_succ,i64_w,i32_w]
  rfl
 refine pure_ (i:=13) (N:=some 30) (v:=?_) (a':=?_) #[true,true,true,true,true,true,true,true,true,true,true,true,true,true,false,false,false,false] rfl rfl (any_of HT_.out (by kernel_rfl)) (fun _ _ _ h=>h) (Or.inl ⟨by rfl,?_⟩) ?_ ?_
 rotate_left
 ·intro w'
  go_simp
  with_reducible rfl
 rotate_left
 ·simp only [Act.put,List.setIfInBounds_toArray,List.set_cons_zero,List.set_cons_succ,i64_w,i32_w]
  rfl
 refine pure_ (i:=14) (N:=some 31) (v:=?_) (a':=?_) #[true,true,true,true,true,true,true,true,true,true,true,true,true,true,true,false,false,false] rfl rfl (any_of HT_.out (by kernel_rfl)) (fun _ _ _ h=>h) (Or.inl ⟨by rfl,?_⟩) ?_ ?_
 rotate_left
 ·intro w'
  go_simp
  with_reducible rfl
 rotate_left
 ·simp only [Act.put,List.setIfInBounds_toArray,List.set_cons_zero,List.set_cons_succ,i64_w,i32_w]
  rfl
 refine pure_ (i:=15) (N:=some 32) (v:=?_) (a':=?_) #[true,true,true,true,true,true,true,true,true,true,true,true,true,true,true,true,false,false] rfl rfl (any_of HT_.out (by kernel_rfl)) (fun _ _ _ h=>h) (Or.inl ⟨by rfl,?_⟩) ?_ ?_
 rotate_left
 ·intro w'
  go_simp
  with_reducible rfl
 rotate_left
 ·simp only [Act.put,List.setIfInBounds_toArray,List.set_cons_zero,List.set_cons_succ,i64_w,i32_w]
  rfl
 refine pure_ (i:=16) (N:=some 33) (v:=?_) (a':=?_) #[true,true,true,true,true,true,true,true,true,true,true,true,true,true,true,true,true,false] rfl rfl (any_of HT_.out (by kernel_rfl)) (fun _ _ _ h=>h) (Or.inl ⟨by rfl,?_⟩) ?_ ?_
 rotate_left
 ·intro w'
  go_simp
  with_reducible rfl
 rotate_left
 ·simp only [Act.put,List.setIfInBounds_toArray,List.set_cons_zero,List.set_cons_succ,i64_w,i32_w]
  rfl
 refine pure_ (i:=17) (N:=some 2) (v:=?_) (a':=?_) #[true,true,true,true,true,true,true,true,true,true,true,true,true,true,true,true,true,true] rfl rfl (any_of HT_.out (by kernel_rfl)) (fun _ _ _ h=>h) (Or.inl ⟨by rfl,?_⟩) ?_ ?_
 rotate_left
 ·intro w'
  go_simp
  with_reducible rfl
 rotate_left
 ·simp only [Act.put,List.setIfInBounds_toArray,List.set_cons_zero,List.set_cons_succ,i64_w,i32_w]
  rfl
 refine done_ (done_of HT_.out (by kernel_rfl)) ?_
 try go_wp2
 go_ret
 exact ⟨by first|rfl|(simp [errW_none,errW_some] <;> rfl)|(simp [*,errW_none,errW_some] <;> rfl),by repeat (first|(with_reducible first|exact HB.out|apply below_alloc|apply pw_below_drewN|apply below_drew1|refine below_set ?_ GE288.out)|exact HB.out)⟩
set_option maxHeartbeats 8000000 in
set_option maxRecDepth 100000 in
theorem insolvencylaw35_same.pB (k:Nat) (a0_0:Int) (a0_1:Int) (a0_2:Int) (a0_3:Int) (a0_4:Int) (a0_5:Int) (a0_6:Bool) (a0_7:ByteArray) (a0_8:ByteArray) (a0_9:Bool) (a0_10:ByteArray) (a0_11:ByteArray) (A0_12:Option Addr) (c0_12:Nat) (l0_12:List (S49)) (A0_13:Option Addr) (c0_13:Nat) (l0_13:List (S51)) (A0_14:Option Addr) (c0_14:Nat) (l0_14:List (S55)) (r:Bool) (w:World) (hr0_12:Kd.C k49 w A0_12 l0_12.length l0_12) (hc0_12:l0_12.length≤c0_12) (hr0_13:Kd.C k51 w A0_13 l0_13.length l0_13) (hc0_13:l0_13.length≤c0_13) (hr0_14:Kd.C k55 w A0_14 l0_14.length l0_14) (hc0_14:l0_14.length≤c0_14) (t289:List Int) (t292:Int) (t293:List Int) (t296:Int) (t297 t298:Bool) (a2:codec_Encode.f k a0_0 a0_1 a0_2 a0_3 a0_4 a0_5 a0_6 a0_7 a0_8 a0_9 a0_10 a0_11 l0_12 l0_13 l0_14=some (t289,t292)) (a3:insolvencyref33_Encode.f k a0_0 a0_1 a0_2 a0_3 a0_4 a0_5 a0_6 a0_7 a0_8 a0_9 a0_10 a0_11 l0_12 l0_13 l0_14=some (t293,t296)) (a4:codec_Valid.f k a0_0 a0_1 a0_2 a0_3 a0_4 a0_5 a0_6 a0_7 a0_8 a0_9 a0_10 a0_11 l0_12 l0_13 l0_14=some t297) (a5:insolvencyref33_Valid.f k a0_0 a0_1 a0_2 a0_3 a0_4 a0_5 a0_6 a0_7 a0_8 a0_9 a0_10 a0_11 l0_12 l0_13 l0_14=some t298) (c6:(t297 == t298)=true) (c7:¬ (strOfNums t289).toList=(strOfNums t293).toList) (H:some false=some r) :
 Calls Tryd.prog 14 #[.agg #[.int .i64 a0_0,.int .i64 a0_1,.int .i64 a0_2,.int .i64 a0_3,.int .i64 a0_4,.int .i64 a0_5,.bool a0_6,.string a0_7,.string a0_8,.bool a0_9,.string a0_10,.string a0_11,.slice A0_12 l0_12.length c0_12,.slice A0_13 l0_13.length c0_13,.slice A0_14 l0_14.length c0_14]] w fun e w'=>e = .returned (.bool r)∧Below w.heap.size w w':=by
 have hu37:=Tryd.underlying37
 have HR0_12:=Aside0.mk hr0_12
 have HC0_12:=Aside0.mk hc0_12
 clear hr0_12 hc0_12
 have HR0_13:=Aside0.mk hr0_13
 have HC0_13:=Aside0.mk hc0_13
 clear hr0_13 hc0_13
 have HR0_14:=Aside0.mk hr0_14
 have HC0_14:=Aside0.mk hc0_14
 clear hr0_14 hc0_14
 have HB:=Aside0.mk (Below.refl w.heap.size w)
 have A2:=Aside0.mk a2
 have A3:=Aside0.mk a3
 have A4:=Aside0.mk a4
 have A5:=Aside0.mk a5
 clear a2 a3 a4 a5
 have c6b0:(t297 == t298)=true:=c6
 (try (have c6b1:decide (t297=t298)=true:=by simpa using c6))
 (try (have c6b2:(t297 == t298)=true:=by simpa using c6))
 clear c6
 have c7b0:((strOfNums t289).toList == (strOfNums t293).toList)=false:=beq_eq_false_iff_ne.mpr c7
 have c7b1:((strOfNums t289).toList != (strOfNums t293).toList)=true:=bne_iff_ne.mpr c7
 obtain rfl:=Option.some.inj H
 go_enter Tryd.func14,Tryd.ntmps14
 try go_wp2_with (first|((with_reducible refine gate_dst (N:=1) rfl ?_);refine box_event ?hg (N:=1) ?hd (cs:=#[.int .i64 a0_0,.int .i64 a0_1,.int .i64 a0_2,.int .i64 a0_3,.int .i64 a0_4,.int .i64 a0_5,.bool a0_6,.string a0_7,.string a0_8,.bool a0_9,.string a0_10,.string a0_11,.slice A0_12 l0_12.length c0_12,.slice A0_13 l0_13.length c0_13,.slice A0_14 l0_14.length c0_14]) (t:=37) ?hr ?_;(case hd=>rfl);(case hg=>rfl);(case hr=>first|(go_simp;done)|(go_simp;rfl));intro gb288 hg w19 hbox hb;have n0_:=Aside0.mk (below_step (by repeat (first|(with_reducible first|exact HB.out|apply below_alloc|apply pw_below_drewN|apply below_drew1)|exact HB.out)) hb);have n1_:=Aside0.mk (hbox);have n2_:=Aside0.mk ((by rw [hg];exact (below_size (by repeat (first|(with_reducible first|exact HB.out|apply below_alloc|apply pw_below_drewN|apply below_drew1)|exact HB.out))):w.heap.size≤gb288));have n3_:=Aside0.mk ((by rw [hg];exact (below_size (by repeat (first|(with_reducible first|exact HB.out|apply below_alloc|apply pw_below_drewN|apply below_drew1)|exact HB.out))):w.heap.size≤gb288));clear HB;have HB:=n0_;have BK288:=n1_;have GW288:=n2_;have GE288:=n3_;clear n0_ n1_ n2_ n3_;clear hb hbox hg;have hcz20_0:w19.cell? ⟨gb288,0,none⟩=some (.int .i64 a0_0):=(blk_cell BK288.out 0).trans rfl;have hcz20_1:w19.cell? ⟨gb288,1,none⟩=some (.int .i64 a0_1):=(blk_cell BK288.out 1).trans rfl;have hcz20_2:w19.cell? ⟨gb288,2,none⟩=some (.int .i64 a0_2):=(blk_cell BK288.out 2).trans rfl;have hcz20_3:w19.cell? ⟨gb288,3,none⟩=some (.int .i64 a0_3):=(blk_cell BK288.out 3).trans rfl;have hcz20_4:w19.cell? ⟨gb288,4,none⟩=some (.int .i64 a0_4):=(blk_cell BK288.out 4).trans rfl;have hcz20_5:w19.cell? ⟨gb288,5,none⟩=some (.int .i64 a0_5):=(blk_cell BK288.out 5).trans rfl;have hcz20_6:w19.cell? ⟨gb288,6,none⟩=some (.bool a0_6):=(blk_cell BK288.out 6).trans rfl;have hcz20_7:w19.cell? ⟨gb288,7,none⟩=some (.string a0_7):=(blk_cell BK288.out 7).trans rfl;have hcz20_8:w19.cell? ⟨gb288,8,none⟩=some (.string a0_8):=(blk_cell BK288.out 8).trans rfl;have hcz20_9:w19.cell? ⟨gb288,9,none⟩=some (.bool a0_9):=(blk_cell BK288.out 9).trans rfl;have hcz20_10:w19.cell? ⟨gb288,10,none⟩=some (.string a0_10):=(blk_cell BK288.out 10).trans rfl;have hcz20_11:w19.cell? ⟨gb288,11,none⟩=some (.string a0_11):=(blk_cell BK288.out 11).trans rfl;have hcz20_12:w19.cell? ⟨gb288,12,none⟩=some (.slice A0_12 l0_12.length c0_12):=(blk_cell BK288.out 12).trans rfl;have hcz20_13:w19.cell? ⟨gb288,13,none⟩=some (.slice A0_13 l0_13.length c0_13):=(blk_cell BK288.out 13).trans rfl;have hcz20_14:w19.cell? ⟨gb288,14,none⟩=some (.slice A0_14 l0_14.length c0_14):=(blk_cell BK288.out 14).trans rfl;have hfz20_0:=blk_frozen BK288.out 0;have hfz20_1:=blk_frozen BK288.out 1;have hfz20_2:=blk_frozen BK288.out 2;have hfz20_3:=blk_frozen BK288.out 3;have hfz20_4:=blk_frozen BK288.out 4;have hfz20_5:=blk_frozen BK288.out 5;have hfz20_6:=blk_frozen BK288.out 6;have hfz20_7:=blk_frozen BK288.out 7;have hfz20_8:=blk_frozen BK288.out 8;have hfz20_9:=blk_frozen BK288.out 9;have hfz20_10:=blk_frozen BK288.out 10;have hfz20_11:=blk_frozen BK288.out 11;have hfz20_12:=blk_frozen BK288.out 12;have hfz20_13:=blk_frozen BK288.out 13;have hfz20_14:=blk_frozen BK288.out 14)|((with_reducible refine gate_callee (f:=16) rfl ?_);refine goesL_ (some 9) rfl rfl Tryd.func16 (by kernel_rfl) rfl #[.agg #[.int .i64 a0_0,.int .i64 a0_1,.int .i64 a0_2,.int .i64 a0_3,.int .i64 a0_4,.int .i64 a0_5,.bool a0_6,.string a0_7,.string a0_8,.bool a0_9,.string a0_10,.string a0_11,.slice A0_12 l0_12.length c0_12,.slice A0_13 l0_13.length c0_13,.slice A0_14 l0_14.length c0_14]] rfl (by (try simp only [List.map_toArray,List.map_cons,List.map_nil]);first|done|rfl|(simp only [List.length_drop,List.length_take];rfl)) ?_;(with_reducible refine (codec_Encode.calls k a0_0 a0_1 a0_2 a0_3 a0_4 a0_5 a0_6 a0_7 a0_8 a0_9 a0_10 a0_11 _ _ l0_12 _ _ l0_13 _ _ l0_14 t289 t292 _ ?side1 ?side2 ?side3 ?side4 ?side5 ?side6 A2.out).mono ?_);(case side1=>repeat (first|exact (Kd.C_below HR0_12.out HB.out)|(with_reducible refine Kd.C_alloc ?_ _)|(with_reducible refine Kd.C_drewN ?_ _)|(with_reducible refine Kd.C_drew ?_)));(case side2=>exact HC0_12.out);(case side3=>repeat (first|exact (Kd.C_below HR0_13.out HB.out)|(with_reducible refine Kd.C_alloc ?_ _)|(with_reducible refine Kd.C_drewN ?_ _)|(with_reducible refine Kd.C_drew ?_)));(case side4=>exact HC0_13.out);(case side5=>repeat (first|exact (Kd.C_below HR0_14.out HB.out)|(with_reducible refine Kd.C_alloc ?_ _)|(with_reducible refine Kd.C_drewN ?_ _)|(with_reducible refine Kd.C_drew ?_)));(case side6=>exact HC0_14.out);rintro e w21 ⟨v290,rfl,ho0,hb⟩;refine ⟨_,rfl,?_⟩;have n0_:=Aside0.mk (Kd.R_lower ho0 (below_size (by repeat (first|(with_reducible first|exact HB.out|apply below_alloc|apply pw_below_drewN|apply below_drew1|refine below_set ?_ GE288.out)|exact HB.out))));have n1_:=Aside0.mk (blk_below (g:=gb288) (o:=.cells #[.int .i64 a0_0,.int .i64 a0_1,.int .i64 a0_2,.int .i64 a0_3,.int .i64 a0_4,.int .i64 a0_5,.bool a0_6,.string a0_7,.string a0_8,.bool a0_9,.string a0_10,.string a0_11,.slice A0_12 l0_12.length c0_12,.slice A0_13 l0_13.length c0_13,.slice A0_14 l0_14.length c0_14] 37 (0,0)) (by (with_reducible repeat (first|refine blk_drewN ?_ _|refine blk_drew ?_|refine blk_alloc ?_ _));exact BK288.out) hb);have n2_:=Aside0.mk (below_step (by repeat (first|(with_reducible first|exact HB.out|apply below_alloc|apply pw_below_drewN|apply below_drew1|refine below_set ?_ GE288.out)|exact HB.out)) hb);clear BK288;clear HB;have HO291:=n0_;have BK288:=n1_;have HB:=n2_;clear n0_ n1_ n2_;(try clear hb);(try clear hb2);(try clear hk);(try clear hi);(try clear ho0);have hcz22_0:w21.cell? ⟨gb288,0,none⟩=some (.int .i64 a0_0):=(blk_cell BK288.out 0).trans rfl;have hcz22_1:w21.cell? ⟨gb288,1,none⟩=some (.int .i64 a0_1):=(blk_cell BK288.out 1).trans rfl;have hcz22_2:w21.cell? ⟨gb288,2,none⟩=some (.int .i64 a0_2):=(blk_cell BK288.out 2).trans rfl;have hcz22_3:w21.cell? ⟨gb288,3,none⟩=some (.int .i64 a0_3):=(blk_cell BK288.out 3).trans rfl;have hcz22_4:w21.cell? ⟨gb288,4,none⟩=some (.int .i64 a0_4):=(blk_cell BK288.out 4).trans rfl;have hcz22_5:w21.cell? ⟨gb288,5,none⟩=some (.int .i64 a0_5):=(blk_cell BK288.out 5).trans rfl;have hcz22_6:w21.cell? ⟨gb288,6,none⟩=some (.bool a0_6):=(blk_cell BK288.out 6).trans rfl;have hcz22_7:w21.cell? ⟨gb288,7,none⟩=some (.string a0_7):=(blk_cell BK288.out 7).trans rfl;have hcz22_8:w21.cell? ⟨gb288,8,none⟩=some (.string a0_8):=(blk_cell BK288.out 8).trans rfl;have hcz22_9:w21.cell? ⟨gb288,9,none⟩=some (.bool a0_9):=(blk_cell BK288.out 9).trans rfl;have hcz22_10:w21.cell? ⟨gb288,10,none⟩=some (.string a0_10):=(blk_cell BK288.out 10).trans rfl;have hcz22_11:w21.cell? ⟨gb288,11,none⟩=some (.string a0_11):=(blk_cell BK288.out 11).trans rfl;have hcz22_12:w21.cell? ⟨gb288,12,none⟩=some (.slice A0_12 l0_12.length c0_12):=(blk_cell BK288.out 12).trans rfl;have hcz22_13:w21.cell? ⟨gb288,13,none⟩=some (.slice A0_13 l0_13.length c0_13):=(blk_cell BK288.out 13).trans rfl;have hcz22_14:w21.cell? ⟨gb288,14,none⟩=some (.slice A0_14 l0_14.length c0_14):=(blk_cell BK288.out 14).trans rfl;have hfz22_0:=blk_frozen BK288.out 0;have hfz22_1:=blk_frozen BK288.out 1;have hfz22_2:=blk_frozen BK288.out 2;have hfz22_3:=blk_frozen BK288.out 3;have hfz22_4:=blk_frozen BK288.out 4;have hfz22_5:=blk_frozen BK288.out 5;have hfz22_6:=blk_frozen BK288.out 6;have hfz22_7:=blk_frozen BK288.out 7;have hfz22_8:=blk_frozen BK288.out 8;have hfz22_9:=blk_frozen BK288.out 9;have hfz22_10:=blk_frozen BK288.out 10;have hfz22_11:=blk_frozen BK288.out 11;have hfz22_12:=blk_frozen BK288.out 12;have hfz22_13:=blk_frozen BK288.out 13;have hfz22_14:=blk_frozen BK288.out 14)|((with_reducible refine gate_callee (f:=18) rfl ?_);refine goesL_ (some 14) rfl rfl Tryd.func18 (by kernel_rfl) rfl #[.agg #[.int .i64 a0_0,.int .i64 a0_1,.int .i64 a0_2,.int .i64 a0_3,.int .i64 a0_4,.int .i64 a0_5,.bool a0_6,.string a0_7,.string a0_8,.bool a0_9,.string a0_10,.string a0_11,.slice A0_12 l0_12.length c0_12,.slice A0_13 l0_13.length c0_13,.slice A0_14 l0_14.length c0_14]] rfl (by (try simp only [List.map_toArray,List.map_cons,List.map_nil]);first|done|rfl|(simp only [List.length_drop,List.length_take];rfl)) ?_;(with_reducible refine (insolvencyref33_Encode.calls k a0_0 a0_1 a0_2 a0_3 a0_4 a0_5 a0_6 a0_7 a0_8 a0_9 a0_10 a0_11 _ _ l0_12 _ _ l0_13 _ _ l0_14 t293 t296 _ ?side1 ?side2 ?side3 ?side4 ?side5 ?side6 A3.out).mono ?_);(case side1=>repeat (first|exact (Kd.C_below HR0_12.out HB.out)|(with_reducible refine Kd.C_alloc ?_ _)|(with_reducible refine Kd.C_drewN ?_ _)|(with_reducible refine Kd.C_drew ?_)));(case side2=>exact HC0_12.out);(case side3=>repeat (first|exact (Kd.C_below HR0_13.out HB.out)|(with_reducible refine Kd.C_alloc ?_ _)|(with_reducible refine Kd.C_drewN ?_ _)|(with_reducible refine Kd.C_drew ?_)));(case side4=>exact HC0_13.out);(case side5=>repeat (first|exact (Kd.C_below HR0_14.out HB.out)|(with_reducible refine Kd.C_alloc ?_ _)|(with_reducible refine Kd.C_drewN ?_ _)|(with_reducible refine Kd.C_drew ?_)));(case side6=>exact HC0_14.out);rintro e w23 ⟨v294,rfl,ho0,hb⟩;refine ⟨_,rfl,?_⟩;have n0_:=Aside0.mk (Kd.R_elder' (by (with_reducible repeat (first|apply Kd.R_alloc|apply Kd.R_drewN|apply Kd.R_drew));exact HO291.out) (Kd.R_base ho0) hb);have n1_:=Aside0.mk (Kd.R_lower (Kd.R_new' ho0 (Kd.R_lt (by (with_reducible repeat (first|apply Kd.R_alloc|apply Kd.R_drewN|apply Kd.R_drew));exact HO291.out))) (below_size (by repeat (first|(with_reducible first|exact HB.out|apply below_alloc|apply pw_below_drewN|apply below_drew1|refine below_set ?_ GE288.out)|exact HB.out))));have n2_:=Aside0.mk (blk_below (g:=gb288) (o:=.cells #[.int .i64 a0_0,.int .i64 a0_1,.int .i64 a0_2,.int .i64 a0_3,.int .i64 a0_4,.int .i64 a0_5,.bool a0_6,.string a0_7,.string a0_8,.bool a0_9,.string a0_10,.string a0_11,.slice A0_12 l0_12.length c0_12,.slice A0_13 l0_13.length c0_13,.slice A0_14 l0_14.length c0_14] 37 (0,0)) (by (with_reducible repeat (first|refine blk_drewN ?_ _|refine blk_drew ?_|refine blk_alloc ?_ _));exact BK288.out) hb);have n3_:=Aside0.mk (below_step (by repeat (first|(with_reducible first|exact HB.out|apply below_alloc|apply pw_below_drewN|apply below_drew1|refine below_set ?_ GE288.out)|exact HB.out)) hb);clear HO291;clear BK288;clear HB;have HO291:=n0_;have HO295:=n1_;have BK288:=n2_;have HB:=n3_;clear n0_ n1_ n2_ n3_;(try clear hb);(try clear hb2);(try clear hk);(try clear hi);(try clear ho0)))
 have n0_:=Aside0.mk (Kd.R_drew HO291.out)
 have n1_:=Aside0.mk (Kd.R_drew HO295.out)
 have n2_:=Aside0.mk (blk_drew BK288.out)
 have n3_:=Aside0.mk (below_drew1 HB.out)
 clear HO291
 clear HO295
 clear BK288
 clear HB
 have HO291:=n0_
 have HO295:=n1_
 have BK288:=n2_
 have HB:=n3_
 clear n0_ n1_ n2_ n3_
 refine start_ (n:=18) (S:=fun w'=>w'.cell? ⟨gb288,0,none⟩=some (.int .i64 a0_0)∧w'.cell? ⟨gb288,1,none⟩=some (.int .i64 a0_1)∧w'.cell? ⟨gb288,2,none⟩=some (.int .i64 a0_2)∧w'.cell? ⟨gb288,3,none⟩=some (.int .i64 a0_3)∧w'.cell? ⟨gb288,4,none⟩=some (.int .i64 a0_4)∧w'.cell? ⟨gb288,5,none⟩=some (.int .i64 a0_5)∧w'.cell? ⟨gb288,6,none⟩=some (.bool a0_6)∧w'.cell? ⟨gb288,7,none⟩=some (.string a0_7)∧w'.cell? ⟨gb288,8,none⟩=some (.string a0_8)∧w'.cell? ⟨gb288,9,none⟩=some (.bool a0_9)∧w'.cell? ⟨gb288,10,none⟩=some (.string a0_10)∧w'.cell? ⟨gb288,11,none⟩=some (.string a0_11)∧w'.cell? ⟨gb288,12,none⟩=some (.slice A0_12 l0_12.length c0_12)∧w'.cell? ⟨gb288,13,none⟩=some (.slice A0_13 l0_13.length c0_13)∧w'.cell? ⟨gb288,14,none⟩=some (.slice A0_14 l0_14.length c0_14)∧Sem.run Tryd.prog (convert 22 9 v290) w' = .ok (.string (strOfNums t289)) w'∧Sem.run Tryd.prog (convert 22 9 v294) w' = .ok (.string (strOfNums t293)) w') (ds:=[]) #[false,false,false,false,false,false,false,false,false,false,false,false,false,false,false,false,false,false] (by kernel_rfl) rfl rfl ⟨(blk_cell BK288.out 0).trans rfl,(blk_cell BK288.out 1).trans rfl,(blk_cell BK288.out 2).trans rfl,(blk_cell BK288.out 3).trans rfl,(blk_cell BK288.out 4).trans rfl,(blk_cell BK288.out 5).trans rfl,(blk_cell BK288.out 6).trans rfl,(blk_cell BK288.out 7).trans rfl,(blk_cell BK288.out 8).trans rfl,(blk_cell BK288.out 9).trans rfl,(blk_cell BK288.out 10).trans rfl,(blk_cell BK288.out 11).trans rfl,(blk_cell BK288.out 12).trans rfl,(blk_cell BK288.out 13).trans rfl,(blk_cell BK288.out 14).trans rfl,own_string (P:=Tryd.prog) Tryd.underlying22 Tryd.underlying5 Tryd.underlying9 (Kd.own_of_R (by (with_reducible repeat (first|apply Kd.R_alloc|apply Kd.R_drewN|apply Kd.R_drew));exact HO291.out)),own_string (P:=Tryd.prog) Tryd.underlying22 Tryd.underlying5 Tryd.underlying9 (Kd.own_of_R (by (with_reducible repeat (first|apply Kd.R_alloc|apply Kd.R_drewN|apply Kd.R_drew));exact HO295.out))⟩ (fun hHeld=>?_);refine with_tabW insolvencylaw35_same.tab3 insolvencylaw35_same.bits3 (fun HT_ HW_=>?_)
 generalize w23.drew=w24 at HO291 HO295 BK288 HB hHeld ⊢
 refine take_ (i:=0) (N:=some 17) (v:=?_) (a':=?_) #[true,false,false,false,false,false,false,false,false,false,false,false,false,false,false,false,false,false] rfl rfl (take_ofW HT_.out HW_.out (by kernel_rfl)) (fun _ _ _ h=>h) (Or.inl ⟨by rfl,?_⟩) hHeld ?_ ?_
 rotate_left
 ·rintro w' ⟨s0,s1,s2,s3,s4,s5,s6,s7,s8,s9,s10,s11,s12,s13,s14,q0_,q1_⟩
  go_simp
  with_reducible rfl
 rotate_left
 ·simp only [Act.put,List.setIfInBounds_toArray,List.set_cons_zero,List.set_cons_succ,i64_w,i32_w]
  rfl
 refine take_ (i:=2) (N:=some 19) (v:=?_) (a':=?_) #[true,false,true,false,false,false,false,false,false,false,false,false,false,false,false,false,false,false] rfl rfl (take_ofW HT_.out HW_.out (by kernel_rfl)) (fun _ _ _ h=>h) (Or.inl ⟨by rfl,?_⟩) hHeld ?_ ?_
 rotate_left
 ·rintro w' ⟨s0,s1,s2,s3,s4,s5,s6,s7,s8,s9,s10,s11,s12,s13,s14,q0_,q1_⟩
  go_simp
  with_reducible rfl
 rotate_left
 ·simp only [Act.put,List.setIfInBounds_toArray,List.set_cons_zero,List.set_cons_succ,i64_w,i32_w]
  rfl
 refine one_ (i:=1) (N:=some 18) #[true,true,true,false,false,false,false,false,false,false,false,false,false,false,false,false,false,false] rfl rfl (one_of HT_.out (by kernel_rfl)) (by decide) (fun K hK=>?_)
 refine goes_ Tryd.func22 (by kernel_rfl) rfl #[.agg #[.int .i64 a0_0,.int .i64 a0_1,.int .i64 a0_2,.int .i64 a0_3,.int .i64 a0_4,.int .i64 a0_5,.bool a0_6,.string a0_7,.string a0_8,.bool a0_9,.string a0_10,.string a0_11,.slice A0_12 l0_12.length c0_12,.slice A0_13 l0_13.length c0_13,.slice A0_14 l0_14.length c0_14]] (by rfl) rfl rfl (by (try simp only [List.map_toArray,List.map_cons,List.map_nil]);first|done|rfl|(simp only [List.length_drop,List.length_take];rfl)) ?_
 with_reducible refine (codec_Valid.calls k a0_0 a0_1 a0_2 a0_3 a0_4 a0_5 a0_6 a0_7 a0_8 a0_9 a0_10 a0_11 _ _ l0_12 _ _ l0_13 _ _ l0_14 t297 _ ?side1 ?side2 ?side3 ?side4 ?side5 ?side6 A4.out).mono ?_
 (case side1=>repeat (first|exact (Kd.C_below HR0_12.out HB.out)|(with_reducible refine Kd.C_alloc ?_ _)|(with_reducible refine Kd.C_drewN ?_ _)|(with_reducible refine Kd.C_drew ?_)))
 (case side2=>exact HC0_12.out)
 (case side3=>repeat (first|exact (Kd.C_below HR0_13.out HB.out)|(with_reducible refine Kd.C_alloc ?_ _)|(with_reducible refine Kd.C_drewN ?_ _)|(with_reducible refine Kd.C_drew ?_)))
 (case side4=>exact HC0_13.out)
 (case side5=>repeat (first|exact (Kd.C_below HR0_14.out HB.out)|(with_reducible refine Kd.C_alloc ?_ _)|(with_reducible refine Kd.C_drewN ?_ _)|(with_reducible refine Kd.C_drew ?_)))
 (case side6=>exact HC0_14.out)
 rintro e w25 ⟨rfl,hb⟩
 refine ⟨_,rfl,?_⟩
 have n0_:=Aside0.mk (Kd.R_below (by (with_reducible repeat (first|apply Kd.R_alloc|apply Kd.R_drewN|apply Kd.R_drew));exact HO291.out) hb)
 have n1_:=Aside0.mk (Kd.R_below (by (with_reducible repeat (first|apply Kd.R_alloc|apply Kd.R_drewN|apply Kd.R_drew));exact HO295.out) hb)
 have n2_:=Aside0.mk (blk_below (g:=gb288) (o:=.cells #[.int .i64 a0_0,.int .i64 a0_1,.int .i64 a0_2,.int .i64 a0_3,.int .i64 a0_4,.int .i64 a0_5,.bool a0_6,.string a0_7,.string a0_8,.bool a0_9,.string a0_10,.string a0_11,.slice A0_12 l0_12.length c0_12,.slice A0_13 l0_13.length c0_13,.slice A0_14 l0_14.length c0_14] 37 (0,0)) (by (with_reducible repeat (first|refine blk_drewN ?_ _|refine blk_drew ?_|refine blk_alloc ?_ _));exact BK288.out) hb)
 have n3_:=Aside0.mk (below_step (by repeat (first|(with_reducible first|exact HB.out|apply below_alloc|apply pw_below_drewN|apply below_drew1|refine below_set ?_ GE288.out)|exact HB.out)) hb)
 clear HO291
 clear HO295
 clear BK288
 clear HB
 have HO291:=n0_
 have HO295:=n1_
 have BK288:=n2_
 have HB:=n3_
 clear n0_ n1_ n2_ n3_
 (try clear hb)
 (try clear hb2)
 (try clear hk)
 (try clear hi)
 refine hK.out _ _ ⟨(blk_cell BK288.out 0).trans rfl,(blk_cell BK288.out 1).trans rfl,(blk_cell BK288.out 2).trans rfl,(blk_cell BK288.out 3).trans rfl,(blk_cell BK288.out 4).trans rfl,(blk_cell BK288.out 5).trans rfl,(blk_cell BK288.out 6).trans rfl,(blk_cell BK288.out 7).trans rfl,(blk_cell BK288.out 8).trans rfl,(blk_cell BK288.out 9).trans rfl,(blk_cell BK288.out 10).trans rfl,(blk_cell BK288.out 11).trans rfl,(blk_cell BK288.out 12).trans rfl,(blk_cell BK288.out 13).trans rfl,(blk_cell BK288.out 14).trans rfl,own_string (P:=Tryd.prog) Tryd.underlying22 Tryd.underlying5 Tryd.underlying9 (Kd.own_of_R (by (with_reducible repeat (first|apply Kd.R_alloc|apply Kd.R_drewN|apply Kd.R_drew));exact HO291.out)),own_string (P:=Tryd.prog) Tryd.underlying22 Tryd.underlying5 Tryd.underlying9 (Kd.own_of_R (by (with_reducible repeat (first|apply Kd.R_alloc|apply Kd.R_drewN|apply Kd.R_drew));exact HO295.out))⟩ (fun hHeld=>?_)
 clear hK K
 refine norm_ (a':=?_) ?_ ?_
 rotate_left
 ·show Act.put _ (some 18) _=_
  simp only [Act.put,List.setIfInBounds_toArray,List.set_cons_zero,List.set_cons_succ,i64_w,i32_w]
  rfl
 refine one_ (i:=3) (N:=some 20) #[true,true,true,true,false,false,false,false,false,false,false,false,false,false,false,false,false,false] rfl rfl (one_of HT_.out (by kernel_rfl)) (by decide) (fun K hK=>?_)
 refine goes_ Tryd.func23 (by kernel_rfl) rfl #[.agg #[.int .i64 a0_0,.int .i64 a0_1,.int .i64 a0_2,.int .i64 a0_3,.int .i64 a0_4,.int .i64 a0_5,.bool a0_6,.string a0_7,.string a0_8,.bool a0_9,.string a0_10,.string a0_11,.slice A0_12 l0_12.length c0_12,.slice A0_13 l0_13.length c0_13,.slice A0_14 l0_14.length c0_14]] (by rfl) rfl rfl (by (try simp only [List.map_toArray,List.map_cons,List.map_nil]);first|done|rfl|(simp only [List.length_drop,List.length_take];rfl)) ?_
 with_reducible refine (insolvencyref33_Valid.calls k a0_0 a0_1 a0_2 a0_3 a0_4 a0_5 a0_6 a0_7 a0_8 a0_9 a0_10 a0_11 _ _ l0_12 _ _ l0_13 _ _ l0_14 t298 _ ?side1 ?side2 ?side3 ?side4 ?side5 ?side6 A5.out).mono ?_
 (case side1=>repeat (first|exact (Kd.C_below HR0_12.out HB.out)|(with_reducible refine Kd.C_alloc ?_ _)|(with_reducible refine Kd.C_drewN ?_ _)|(with_reducible refine Kd.C_drew ?_)))
 (case side2=>exact HC0_12.out)
 (case side3=>repeat (first|exact (Kd.C_below HR0_13.out HB.out)|(with_reducible refine Kd.C_alloc ?_ _)|(with_reducible refine Kd.C_drewN ?_ _)|(with_reducible refine Kd.C_drew ?_)))
 (case side4=>exact HC0_13.out)
 (case side5=>repeat (first|exact (Kd.C_below HR0_14.out HB.out)|(with_reducible refine Kd.C_alloc ?_ _)|(with_reducible refine Kd.C_drewN ?_ _)|(with_reducible refine Kd.C_drew ?_)))
 (case side6=>exact HC0_14.out)
 rintro e w26 ⟨rfl,hb⟩
 refine ⟨_,rfl,?_⟩
 have n0_:=Aside0.mk (Kd.R_below (by (with_reducible repeat (first|apply Kd.R_alloc|apply Kd.R_drewN|apply Kd.R_drew));exact HO291.out) hb)
 have n1_:=Aside0.mk (Kd.R_below (by (with_reducible repeat (first|apply Kd.R_alloc|apply Kd.R_drewN|apply Kd.R_drew));exact HO295.out) hb)
 have n2_:=Aside0.mk (blk_below (g:=gb288) (o:=.cells #[.int .i64 a0_0,.int .i64 a0_1,.int .i64 a0_2,.int .i64 a0_3,.int .i64 a0_4,.int .i64 a0_5,.bool a0_6,.string a0_7,.string a0_8,.bool a0_9,.string a0_10,.string a0_11,.slice A0_12 l0_12.length c0_12,.slice A0_13 l0_13.length c0_13,.slice A0_14 l0_14.length c0_14] 37 (0,0)) (by (with_reducible repeat (first|refine blk_drewN ?_ _|refine blk_drew ?_|refine blk_alloc ?_ _));exact BK288.out) hb)
 have n3_:=Aside0.mk (below_step (by repeat (first|(with_reducible first|exact HB.out|apply below_alloc|apply pw_below_drewN|apply below_drew1|refine below_set ?_ GE288.out)|exact HB.out)) hb)
 clear HO291
 clear HO295
 clear BK288
 clear HB
 have HO291:=n0_
 have HO295:=n1_
 have BK288:=n2_
 have HB:=n3_
 clear n0_ n1_ n2_ n3_
 (try clear hb)
 (try clear hb2)
 (try clear hk)
 (try clear hi)
 have hcv27:=own_string (P:=Tryd.prog) Tryd.underlying22 Tryd.underlying5 Tryd.underlying9 (Kd.own_of_R HO291.out)
 have hcv28:=own_string (P:=Tryd.prog) Tryd.underlying22 Tryd.underlying5 Tryd.underlying9 (Kd.own_of_R HO295.out)
 refine hK.out _ _ ⟨(blk_cell BK288.out 0).trans rfl,(blk_cell BK288.out 1).trans rfl,(blk_cell BK288.out 2).trans rfl,(blk_cell BK288.out 3).trans rfl,(blk_cell BK288.out 4).trans rfl,(blk_cell BK288.out 5).trans rfl,(blk_cell BK288.out 6).trans rfl,(blk_cell BK288.out 7).trans rfl,(blk_cell BK288.out 8).trans rfl,(blk_cell BK288.out 9).trans rfl,(blk_cell BK288.out 10).trans rfl,(blk_cell BK288.out 11).trans rfl,(blk_cell BK288.out 12).trans rfl,(blk_cell BK288.out 13).trans rfl,(blk_cell BK288.out 14).trans rfl,own_string (P:=Tryd.prog) Tryd.underlying22 Tryd.underlying5 Tryd.underlying9 (Kd.own_of_R (by (with_reducible repeat (first|apply Kd.R_alloc|apply Kd.R_drewN|apply Kd.R_drew));exact HO291.out)),own_string (P:=Tryd.prog) Tryd.underlying22 Tryd.underlying5 Tryd.underlying9 (Kd.own_of_R (by (with_reducible repeat (first|apply Kd.R_alloc|apply Kd.R_drewN|apply Kd.R_drew));exact HO295.out))⟩ (fun hHeld=>?_)
 clear hK K
 refine norm_ (a':=?_) ?_ ?_
 rotate_left
 ·show Act.put _ (some 20) _=_
  simp only [Act.put,List.setIfInBounds_toArray,List.set_cons_zero,List.set_cons_succ,i64_w,i32_w]
  rfl
 refine pure_ (i:=4) (N:=some 21) (v:=?_) (a':=?_) #[true,true,true,true,true,false,false,false,false,false,false,false,false,false,false,false,false,false] rfl rfl (any_of HT_.out (by kernel_rfl)) (fun _ _ _ h=>h) (Or.inl ⟨by rfl,?_⟩) ?_ ?_
 rotate_left
 ·intro w'
  go_simp
  with_reducible rfl
 rotate_left
 ·simp only [Act.put,List.setIfInBounds_toArray,List.set_cons_zero,List.set_cons_succ,i64_w,i32_w]
  rfl
 refine pure_ (i:=5) (N:=some 22) (v:=?_) (a':=?_) #[true,true,true,true,true,true,false,false,false,false,false,false,false,false,false,false,false,false] rfl rfl (any_of HT_.out (by kernel_rfl)) (fun _ _ _ h=>h) (Or.inl ⟨by rfl,?_⟩) ?_ ?_
 rotate_left
 ·intro w'
  go_simp
  with_reducible rfl
 rotate_left
 ·simp only [Act.put,List.setIfInBounds_toArray,List.set_cons_zero,List.set_cons_succ,i64_w,i32_w]
  rfl
 refine pure_ (i:=6) (N:=some 23) (v:=?_) (a':=?_) #[true,true,true,true,true,true,true,false,false,false,false,false,false,false,false,false,false,false] rfl rfl (any_of HT_.out (by kernel_rfl)) (fun _ _ _ h=>h) (Or.inl ⟨by rfl,?_⟩) ?_ ?_
 rotate_left
 ·intro w'
  go_simp
  with_reducible rfl
 rotate_left
 ·simp only [Act.put,List.setIfInBounds_toArray,List.set_cons_zero,List.set_cons_succ,i64_w,i32_w]
  rfl
 refine take_ (i:=7) (N:=some 24) (v:=?_) (a':=?_) #[true,true,true,true,true,true,true,true,false,false,false,false,false,false,false,false,false,false] rfl rfl (take_ofW HT_.out HW_.out (by kernel_rfl)) (fun _ _ _ h=>h) (Or.inl ⟨by rfl,?_⟩) hHeld ?_ ?_
 rotate_left
 ·rintro w' ⟨s0,s1,s2,s3,s4,s5,s6,s7,s8,s9,s10,s11,s12,s13,s14,q0_,q1_⟩
  go_simp
  first|with_reducible rfl|(rw [q0_];rfl)|(rw [q1_];rfl)
 rotate_left
 ·simp only [Act.put,List.setIfInBounds_toArray,List.set_cons_zero,List.set_cons_succ,i64_w,i32_w]
  rfl
 refine pure_ (i:=8) (N:=some 25) (v:=?_) (a':=?_) #[true,true,true,true,true,true,true,true,true,false,false,false,false,false,false,false,false,false] rfl rfl (any_of HT_.out (by kernel_rfl)) (fun _ _ _ h=>h) (Or.inl ⟨by rfl,?_⟩) ?_ ?_
 rotate_left
 ·intro w'
  go_simp
  with_reducible rfl
 rotate_left
 ·simp only [Act.put,List.setIfInBounds_toArray,List.set_cons_zero,List.set_cons_succ,i64_w,i32_w]
  rfl
 refine take_ (i:=9) (N:=some 26) (v:=?_) (a':=?_) #[true,true,true,true,true,true,true,true,true,true,false,false,false,false,false,false,false,false] rfl rfl (take_ofW HT_.out HW_.out (by kernel_rfl)) (fun _ _ _ h=>h) (Or.inl ⟨by rfl,?_⟩) hHeld ?_ ?_
 rotate_left
 ·rintro w' ⟨s0,s1,s2,s3,s4,s5,s6,s7,s8,s9,s10,s11,s12,s13,s14,q0_,q1_⟩
  go_simp
  first|with_reducible rfl|(rw [q0_];rfl)|(rw [q1_];rfl)
 rotate_left
 ·simp only [Act.put,List.setIfInBounds_toArray,List.set_cons_zero,List.set_cons_succ,i64_w,i32_w]
  rfl
 refine pure_ (i:=10) (N:=some 27) (v:=?_) (a':=?_) #[true,true,true,true,true,true,true,true,true,true,true,false,false,false,false,false,false,false] rfl rfl (any_of HT_.out (by kernel_rfl)) (fun _ _ _ h=>h) (Or.inl ⟨by rfl,?_⟩) ?_ ?_
 rotate_left
 ·intro w'
  go_simp
  with_reducible rfl
 rotate_left
 ·simp only [Act.put,List.setIfInBounds_toArray,List.set_cons_zero,List.set_cons_succ,i64_w,i32_w]
  rfl
 refine pure_ (i:=11) (N:=some 28) (v:=?_) (a':=?_) #[true,true,true,true,true,true,true,true,true,true,true,true,false,false,false,false,false,false] rfl rfl (any_of HT_.out (by kernel_rfl)) (fun _ _ _ h=>h) (Or.inl ⟨by rfl,?_⟩) ?_ ?_
 rotate_left
 ·intro w'
  go_simp
  with_reducible rfl
 rotate_left
 ·simp only [Act.put,List.setIfInBounds_toArray,List.set_cons_zero,List.set_cons_succ,i64_w,i32_w]
  rfl
 refine pure_ (i:=12) (N:=some 29) (v:=?_) (a':=?_) #[true,true,true,true,true,true,true,true,true,true,true,true,true,false,false,false,false,false] rfl rfl (any_of HT_.out (by kernel_rfl)) (fun _ _ _ h=>h) (Or.inl ⟨by rfl,?_⟩) ?_ ?_
 rotate_left
 ·intro w'
  go_simp
  with_reducible rfl
 rotate_left
 ·simp only [Act.put,List.setIfInBounds_toArray,List.set_cons_zero,List.set_cons_succ,i64_w,i32_w]
  rfl
 refine pure_ (i:=13) (N:=some 30) (v:=undef) (a':=?_) #[true,true,true,true,true,true,true,true,true,true,true,true,true,true,false,false,false,false] rfl rfl (any_of HT_.out (by kernel_rfl)) (fun _ _ _ h=>h) (Or.inr ⟨by rfl,rfl⟩) ?_ ?_
 rotate_left
 ·simp only [Act.put,List.setIfInBounds_toArray,List.set_cons_zero,List.set_cons_succ,i64_w,i32_w]
  rfl
 refine pure_ (i:=14) (N:=some 31) (v:=undef) (a':=?_) #[true,true,true,true,true,true,true,true,true,true,true,true,true,true,true,false,false,false] rfl rfl (any_of HT_.out (by kernel_rfl)) (fun _ _ _ h=>h) (Or.inr ⟨by rfl,rfl⟩) ?_ ?_
 rotate_left
 ·simp only [Act.put,List.setIfInBounds_toArray,List.set_cons_zero,List.set_cons_succ,i64_w,i32_w]
  rfl
 refine pure_ (i:=15) (N:=some 32) (v:=undef) (a':=?_) #[true,true,true,true,true,true,true,true,true,true,true,true,true,true,true,true,false,false] rfl rfl (any_of HT_.out (by kernel_rfl)) (fun _ _ _ h=>h) (Or.inr ⟨by rfl,rfl⟩) ?_ ?_
 rotate_left
 ·simp only [Act.put,List.setIfInBounds_toArray,List.set_cons_zero,List.set_cons_succ,i64_w,i32_w]
  rfl
 refine pure_ (i:=16) (N:=some 33) (v:=?_) (a':=?_) #[true,true,true,true,true,true,true,true,true,true,true,true,true,true,true,true,true,false] rfl rfl (any_of HT_.out (by kernel_rfl)) (fun _ _ _ h=>h) (Or.inl ⟨by rfl,?_⟩) ?_ ?_
 rotate_left
 ·intro w'
  go_simp
  with_reducible rfl
 rotate_left
 ·simp only [Act.put,List.setIfInBounds_toArray,List.set_cons_zero,List.set_cons_succ,i64_w,i32_w]
  rfl
 refine pure_ (i:=17) (N:=some 2) (v:=?_) (a':=?_) #[true,true,true,true,true,true,true,true,true,true,true,true,true,true,true,true,true,true] rfl rfl (any_of HT_.out (by kernel_rfl)) (fun _ _ _ h=>h) (Or.inl ⟨by rfl,?_⟩) ?_ ?_
 rotate_left
 ·intro w'
  go_simp
  with_reducible rfl
 rotate_left
 ·simp only [Act.put,List.setIfInBounds_toArray,List.set_cons_zero,List.set_cons_succ,i64_w,i32_w]
  rfl
 refine done_ (done_of HT_.out (by kernel_rfl)) ?_
 try go_wp2
 go_ret
 exact ⟨by first|rfl|(simp [errW_none,errW_some] <;> rfl)|(simp [*,errW_none,errW_some] <;> rfl),by repeat (first|(with_reducible first|exact HB.out|apply below_alloc|apply pw_below_drewN|apply below_drew1|refine below_set ?_ GE288.out)|exact HB.out)⟩
set_option maxHeartbeats 8000000 in
set_option maxRecDepth 100000 in
theorem insolvencylaw35_same.pC (k:Nat) (a0_0:Int) (a0_1:Int) (a0_2:Int) (a0_3:Int) (a0_4:Int) (a0_5:Int) (a0_6:Bool) (a0_7:ByteArray) (a0_8:ByteArray) (a0_9:Bool) (a0_10:ByteArray) (a0_11:ByteArray) (A0_12:Option Addr) (c0_12:Nat) (l0_12:List (S49)) (A0_13:Option Addr) (c0_13:Nat) (l0_13:List (S51)) (A0_14:Option Addr) (c0_14:Nat) (l0_14:List (S55)) (r:Bool) (w:World) (hr0_12:Kd.C k49 w A0_12 l0_12.length l0_12) (hc0_12:l0_12.length≤c0_12) (hr0_13:Kd.C k51 w A0_13 l0_13.length l0_13) (hc0_13:l0_13.length≤c0_13) (hr0_14:Kd.C k55 w A0_14 l0_14.length l0_14) (hc0_14:l0_14.length≤c0_14) (t289:List Int) (t292:Int) (t293:List Int) (t296:Int) (t297 t298:Bool) (a2:codec_Encode.f k a0_0 a0_1 a0_2 a0_3 a0_4 a0_5 a0_6 a0_7 a0_8 a0_9 a0_10 a0_11 l0_12 l0_13 l0_14=some (t289,t292)) (a3:insolvencyref33_Encode.f k a0_0 a0_1 a0_2 a0_3 a0_4 a0_5 a0_6 a0_7 a0_8 a0_9 a0_10 a0_11 l0_12 l0_13 l0_14=some (t293,t296)) (a4:codec_Valid.f k a0_0 a0_1 a0_2 a0_3 a0_4 a0_5 a0_6 a0_7 a0_8 a0_9 a0_10 a0_11 l0_12 l0_13 l0_14=some t297) (a5:insolvencyref33_Valid.f k a0_0 a0_1 a0_2 a0_3 a0_4 a0_5 a0_6 a0_7 a0_8 a0_9 a0_10 a0_11 l0_12 l0_13 l0_14=some t298) (c6:¬ (t297 == t298)=true) (H:some false=some r) :
 Calls Tryd.prog 14 #[.agg #[.int .i64 a0_0,.int .i64 a0_1,.int .i64 a0_2,.int .i64 a0_3,.int .i64 a0_4,.int .i64 a0_5,.bool a0_6,.string a0_7,.string a0_8,.bool a0_9,.string a0_10,.string a0_11,.slice A0_12 l0_12.length c0_12,.slice A0_13 l0_13.length c0_13,.slice A0_14 l0_14.length c0_14]] w fun e w'=>e = .returned (.bool r)∧Below w.heap.size w w':=by
 have hu37:=Tryd.underlying37
 have HR0_12:=Aside0.mk hr0_12
 have HC0_12:=Aside0.mk hc0_12
 clear hr0_12 hc0_12
 have HR0_13:=Aside0.mk hr0_13
 have HC0_13:=Aside0.mk hc0_13
 clear hr0_13 hc0_13
 have HR0_14:=Aside0.mk hr0_14
 have HC0_14:=Aside0.mk hc0_14
 clear hr0_14 hc0_14
 have HB:=Aside0.mk (Below.refl w.heap.size w)
 have A2:=Aside0.mk a2
 have A3:=Aside0.mk a3
 have A4:=Aside0.mk a4
 have A5:=Aside0.mk a5
 clear a2 a3 a4 a5
 have c6b0:(t297 == t298)=false:=by simpa using c6
 (try (have c6b1:decide (t297=t298)=false:=by simpa using c6))
 (try (have c6b2:(t297 == t298)=false:=by simpa using c6))
 (try (have c6b3:¬ (t297=t298):=by simpa using c6))
 clear c6
 obtain rfl:=Option.some.inj H
 go_enter Tryd.func14,Tryd.ntmps14
 try go_wp2_with (first|((with_reducible refine gate_dst (N:=1) rfl ?_);refine box_event ?hg (N:=1) ?hd (cs:=#[.int .i64 a0_0,.int .i64 a0_1,.int .i64 a0_2,.int .i64 a0_3,.int .i64 a0_4,.int .i64 a0_5,.bool a0_6,.string a0_7,.string a0_8,.bool a0_9,.string a0_10,.string a0_11,.slice A0_12 l0_12.length c0_12,.slice A0_13 l0_13.length c0_13,.slice A0_14 l0_14.length c0_14]) (t:=37) ?hr ?_;(case hd=>rfl);(case hg=>rfl);(case hr=>first|(go_simp;done)|(go_simp;rfl));intro gb288 hg w30 hbox hb;have n0_:=Aside0.mk (below_step (by repeat (first|(with_reducible first|exact HB.out|apply below_alloc|apply pw_below_drewN|apply below_drew1)|exact HB.out)) hb);have n1_:=Aside0.mk (hbox);have n2_:=Aside0.mk ((by rw [hg];exact (below_size (by repeat (first|(with_reducible first|exact HB.out|apply below_alloc|apply pw_below_drewN|apply below_drew1)|exact HB.out))):w.heap.size≤gb288));have n3_:=Aside0.mk ((by rw [hg];exact (below_size (by repeat (first|(with_reducible first|exact HB.out|apply below_alloc|apply pw_below_drewN|apply below_drew1)|exact HB.out))):w.heap.size≤gb288));clear HB;have HB:=n0_;have BK288:=n1_;have GW288:=n2_;have GE288:=n3_;clear n0_ n1_ n2_ n3_;clear hb hbox hg;have hcz31_0:w30.cell? ⟨gb288,0,none⟩=some (.int .i64 a0_0):=(blk_cell BK288.out 0).trans rfl;have hcz31_1:w30.cell? ⟨gb288,1,none⟩=some (.int .i64 a0_1):=(blk_cell BK288.out 1).trans rfl;have hcz31_2:w30.cell? ⟨gb288,2,none⟩=some (.int .i64 a0_2):=(blk_cell BK288.out 2).trans rfl;have hcz31_3:w30.cell? ⟨gb288,3,none⟩=some (.int .i64 a0_3):=(blk_cell BK288.out 3).trans rfl;have hcz31_4:w30.cell? ⟨gb288,4,none⟩=some (.int .i64 a0_4):=(blk_cell BK288.out 4).trans rfl;have hcz31_5:w30.cell? ⟨gb288,5,none⟩=some (.int .i64 a0_5):=(blk_cell BK288.out 5).trans rfl;have hcz31_6:w30.cell? ⟨gb288,6,none⟩=some (.bool a0_6):=(blk_cell BK288.out 6).trans rfl;have hcz31_7:w30.cell? ⟨gb288,7,none⟩=some (.string a0_7):=(blk_cell BK288.out 7).trans rfl;have hcz31_8:w30.cell? ⟨gb288,8,none⟩=some (.string a0_8):=(blk_cell BK288.out 8).trans rfl;have hcz31_9:w30.cell? ⟨gb288,9,none⟩=some (.bool a0_9):=(blk_cell BK288.out 9).trans rfl;have hcz31_10:w30.cell? ⟨gb288,10,none⟩=some (.string a0_10):=(blk_cell BK288.out 10).trans rfl;have hcz31_11:w30.cell? ⟨gb288,11,none⟩=some (.string a0_11):=(blk_cell BK288.out 11).trans rfl;have hcz31_12:w30.cell? ⟨gb288,12,none⟩=some (.slice A0_12 l0_12.length c0_12):=(blk_cell BK288.out 12).trans rfl;have hcz31_13:w30.cell? ⟨gb288,13,none⟩=some (.slice A0_13 l0_13.length c0_13):=(blk_cell BK288.out 13).trans rfl;have hcz31_14:w30.cell? ⟨gb288,14,none⟩=some (.slice A0_14 l0_14.length c0_14):=(blk_cell BK288.out 14).trans rfl;have hfz31_0:=blk_frozen BK288.out 0;have hfz31_1:=blk_frozen BK288.out 1;have hfz31_2:=blk_frozen BK288.out 2;have hfz31_3:=blk_frozen BK288.out 3;have hfz31_4:=blk_frozen BK288.out 4;have hfz31_5:=blk_frozen BK288.out 5;have hfz31_6:=blk_frozen BK288.out 6;have hfz31_7:=blk_frozen BK288.out 7;have hfz31_8:=blk_frozen BK288.out 8;have hfz31_9:=blk_frozen BK288.out 9;have hfz31_10:=blk_frozen BK288.out 10;have hfz31_11:=blk_frozen BK288.out 11;have hfz31_12:=blk_frozen BK288.out 12;have hfz31_13:=blk_frozen BK288.out 13;have hfz31_14:=blk_frozen BK288.out 14)|((with_reducible refine gate_callee (f:=16) rfl ?_);refine goesL_ (some 9) rfl rfl Tryd.func16 (by kernel_rfl) rfl #[.agg #[.int .i64 a0_0,.int .i64 a0_1,.int .i64 a0_2,.int .i64 a0_3,.int .i64 a0_4,.int .i64 a0_5,.bool a0_6,.string a0_7,.string a0_8,.bool a0_9,.string a0_10,.string a0_11,.slice A0_12 l0_12.length c0_12,.slice A0_13 l0_13.length c0_13,.slice A0_14 l0_14.length c0_14]] rfl (by (try simp only [List.map_toArray,List.map_cons,List.map_nil]);first|done|rfl|(simp only [List.length_drop,List.length_take];rfl)) ?_;(with_reducible refine (codec_Encode.calls k a0_0 a0_1 a0_2 a0_3 a0_4 a0_5 a0_6 a0_7 a0_8 a0_9 a0_10 a0_11 _ _ l0_12 _ _ l0_13 _ _ l0_14 t289 t292 _ ?side1 ?side2 ?side3 ?side4 ?side5 ?side6 A2.out).mono ?_);(case side1=>repeat (first|exact (Kd.C_below HR0_12.out HB.out)|(with_reducible refine Kd.C_alloc ?_ _)|(with_reducible refine Kd.C_drewN ?_ _)|(with_reducible refine Kd.C_drew ?_)));(case side2=>exact HC0_12.out);(case side3=>repeat (first|exact (Kd.C_below HR0_13.out HB.out)|(with_reducible refine Kd.C_alloc ?_ _)|(with_reducible refine Kd.C_drewN ?_ _)|(with_reducible refine Kd.C_drew ?_)));(case side4=>exact HC0_13.out);(case side5=>repeat (first|exact (Kd.C_below HR0_14.out HB.out)|(with_reducible refine Kd.C_alloc ?_ _)|(with_reducible refine Kd.C_drewN ?_ _)|(with_reducible refine Kd.C_drew ?_)));(case side6=>exact HC0_14.out);rintro e w32 ⟨v290,rfl,ho0,hb⟩;refine ⟨_,rfl,?_⟩;have n0_:=Aside0.mk (Kd.R_lower ho0 (below_size (by repeat (first|(with_reducible first|exact HB.out|apply below_alloc|apply pw_below_drewN|apply below_drew1|refine below_set ?_ GE288.out)|exact HB.out))));have n1_:=Aside0.mk (blk_below (g:=gb288) (o:=.cells #[.int .i64 a0_0,.int .i64 a0_1,.int .i64 a0_2,.int .i64 a0_3,.int .i64 a0_4,.int .i64 a0_5,.bool a0_6,.string a0_7,.string a0_8,.bool a0_9,.string a0_10,.string a0_11,.slice A0_12 l0_12.length c0_12,.slice A0_13 l0_13.length c0_13,.slice A0_14 l0_14.length c0_14] 37 (0,0)) (by (with_reducible repeat (first|refine blk_drewN ?_ _|refine blk_drew ?_|refine blk_alloc ?_ _));exact BK288.out) hb);have n2_:=Aside0.mk (below_step (by repeat (first|(with_reducible first|exact HB.out|apply below_alloc|apply pw_below_drewN|apply below_drew1|refine below_set ?_ GE288.out)|exact HB.out)) hb);clear BK288;clear HB;have HO291:=n0_;have BK288:=n1_;have HB:=n2_;clear n0_ n1_ n2_;(try clear hb);(try clear hb2);(try clear hk);(try clear hi);(try clear ho0);have hcz33_0:w32.cell? ⟨gb288,0,none⟩=some (.int .i64 a0_0):=(blk_cell BK288.out 0).trans rfl;have hcz33_1:w32.cell? ⟨gb288,1,none⟩=some (.int .i64 a0_1):=(blk_cell BK288.out 1).trans rfl;have hcz33_2:w32.cell? ⟨gb288,2,none⟩=some (.int .i64 a0_2):=(blk_cell BK288.out 2).trans rfl;have hcz33_3:w32.cell? ⟨gb288,3,none⟩=some (.int .i64 a0_3):=(blk_cell BK288.out 3).trans rfl;have hcz33_4:w32.cell? ⟨gb288,4,none⟩=some (.int .i64 a0_4):=(blk_cell BK288.out 4).trans rfl;have hcz33_5:w32.cell? ⟨gb288,5,none⟩=some (.int .i64 a0_5):=(blk_cell BK288.out 5).trans rfl;have hcz33_6:w32.cell? ⟨gb288,6,none⟩=some (.bool a0_6):=(blk_cell BK288.out 6).trans rfl;have hcz33_7:w32.cell? ⟨gb288,7,none⟩=some (.string a0_7):=(blk_cell BK288.out 7).trans rfl;have hcz33_8:w32.cell? ⟨gb288,8,none⟩=some (.string a0_8):=(blk_cell BK288.out 8).trans rfl;have hcz33_9:w32.cell? ⟨gb288,9,none⟩=some (.bool a0_9):=(blk_cell BK288.out 9).trans rfl;have hcz33_10:w32.cell? ⟨gb288,10,none⟩=some (.string a0_10):=(blk_cell BK288.out 10).trans rfl;have hcz33_11:w32.cell? ⟨gb288,11,none⟩=some (.string a0_11):=(blk_cell BK288.out 11).trans rfl;have hcz33_12:w32.cell? ⟨gb288,12,none⟩=some (.slice A0_12 l0_12.length c0_12):=(blk_cell BK288.out 12).trans rfl;have hcz33_13:w32.cell? ⟨gb288,13,none⟩=some (.slice A0_13 l0_13.length c0_13):=(blk_cell BK288.out 13).trans rfl;have hcz33_14:w32.cell? ⟨gb288,14,none⟩=some (.slice A0_14 l0_14.length c0_14):=(blk_cell BK288.out 14).trans rfl;have hfz33_0:=blk_frozen BK288.out 0;have hfz33_1:=blk_frozen BK288.out 1;have hfz33_2:=blk_frozen BK288.out 2;have hfz33_3:=blk_frozen BK288.out 3;have hfz33_4:=blk_frozen BK288.out 4;have hfz33_5:=blk_frozen BK288.out 5;have hfz33_6:=blk_frozen BK288.out 6;have hfz33_7:=blk_frozen BK288.out 7;have hfz33_8:=blk_frozen BK288.out 8;have hfz33_9:=blk_frozen BK288.out 9;have hfz33_10:=blk_frozen BK288.out 10;have hfz33_11:=blk_frozen BK288.out 11;have hfz33_12:=blk_frozen BK288.out 12;have hfz33_13:=blk_frozen BK288.out 13;have hfz33_14:=blk_frozen BK288.out 14)|((with_reducible refine gate_callee (f:=18) rfl ?_);refine goesL_ (some 14) rfl rfl Tryd.func18 (by kernel_rfl) rfl #[.agg #[.int .i64 a0_0,.int .i64 a0_1,.int .i64 a0_2,.int .i64 a0_3,.int .i64 a0_4,.int .i64 a0_5,.bool a0_6,.string a0_7,.string a0_8,.bool a0_9,.string a0_10,.string a0_11,.slice A0_12 l0_12.length c0_12,.slice A0_13 l0_13.length c0_13,.slice A0_14 l0_14.length c0_14]] rfl (by (try simp only [List.map_toArray,List.map_cons,List.map_nil]);first|done|rfl|(simp only [List.length_drop,List.length_take];rfl)) ?_;(with_reducible refine (insolvencyref33_Encode.calls k a0_0 a0_1 a0_2 a0_3 a0_4 a0_5 a0_6 a0_7 a0_8 a0_9 a0_10 a0_11 _ _ l0_12 _ _ l0_13 _ _ l0_14 t293 t296 _ ?side1 ?side2 ?side3 ?side4 ?side5 ?side6 A3.out).mono ?_);(case side1=>repeat (first|exact (Kd.C_below HR0_12.out HB.out)|(with_reducible refine Kd.C_alloc ?_ _)|(with_reducible refine Kd.C_drewN ?_ _)|(with_reducible refine Kd.C_drew ?_)));(case side2=>exact HC0_12.out);(case side3=>repeat (first|exact (Kd.C_below HR0_13.out HB.out)|(with_reducible refine Kd.C_alloc ?_ _)|(with_reducible refine Kd.C_drewN ?_ _)|(with_reducible refine Kd.C_drew ?_)));(case side4=>exact HC0_13.out);(case side5=>repeat (first|exact (Kd.C_below HR0_14.out HB.out)|(with_reducible refine Kd.C_alloc ?_ _)|(with_reducible refine Kd.C_drewN ?_ _)|(with_reducible refine Kd.C_drew ?_)));(case side6=>exact HC0_14.out);rintro e w34 ⟨v294,rfl,ho0,hb⟩;refine ⟨_,rfl,?_⟩;have n0_:=Aside0.mk (Kd.R_elder' (by (with_reducible repeat (first|apply Kd.R_alloc|apply Kd.R_drewN|apply Kd.R_drew));exact HO291.out) (Kd.R_base ho0) hb);have n1_:=Aside0.mk (Kd.R_lower (Kd.R_new' ho0 (Kd.R_lt (by (with_reducible repeat (first|apply Kd.R_alloc|apply Kd.R_drewN|apply Kd.R_drew));exact HO291.out))) (below_size (by repeat (first|(with_reducible first|exact HB.out|apply below_alloc|apply pw_below_drewN|apply below_drew1|refine below_set ?_ GE288.out)|exact HB.out))));have n2_:=Aside0.mk (blk_below (g:=gb288) (o:=.cells #[.int .i64 a0_0,.int .i64 a0_1,.int .i64 a0_2,.int .i64 a0_3,.int .i64 a0_4,.int .i64 a0_5,.bool a0_6,.string a0_7,.string a0_8,.bool a0_9,.string a0_10,.string a0_11,.slice A0_12 l0_12.length c0_12,.slice A0_13 l0_13.length c0_13,.slice A0_14 l0_14.length c0_14] 37 (0,0)) (by (with_reducible repeat (first|refine blk_drewN ?_ _|refine blk_drew ?_|refine blk_alloc ?_ _));exact BK288.out) hb);have n3_:=Aside0.mk (below_step (by repeat (first|(with_reducible first|exact HB.out|apply below_alloc|apply pw_below_drewN|apply below_drew1|refine below_set ?_ GE288.out)|exact HB.out)) hb);clear HO291;clear BK288;clear HB;have HO291:=n0_;have HO295:=n1_;have BK288:=n2_;have HB:=n3_;clear n0_ n1_ n2_ n3_;(try clear hb);(try clear hb2);(try clear hk);(try clear hi);(try clear ho0)))
 have n0_:=Aside0.mk (Kd.R_drew HO291.out)
 have n1_:=Aside0.mk (Kd.R_drew HO295.out)
 have n2_:=Aside0.mk (blk_drew BK288.out)
 have n3_:=Aside0.mk (below_drew1 HB.out)
 clear HO291
 clear HO295
 clear BK288
 clear HB
 have HO291:=n0_
 have HO295:=n1_
 have BK288:=n2_
 have HB:=n3_
 clear n0_ n1_ n2_ n3_
 refine start_ (n:=18) (S:=fun w'=>w'.cell? ⟨gb288,0,none⟩=some (.int .i64 a0_0)∧w'.cell? ⟨gb288,1,none⟩=some (.int .i64 a0_1)∧w'.cell? ⟨gb288,2,none⟩=some (.int .i64 a0_2)∧w'.cell? ⟨gb288,3,none⟩=some (.int .i64 a0_3)∧w'.cell? ⟨gb288,4,none⟩=some (.int .i64 a0_4)∧w'.cell? ⟨gb288,5,none⟩=some (.int .i64 a0_5)∧w'.cell? ⟨gb288,6,none⟩=some (.bool a0_6)∧w'.cell? ⟨gb288,7,none⟩=some (.string a0_7)∧w'.cell? ⟨gb288,8,none⟩=some (.string a0_8)∧w'.cell? ⟨gb288,9,none⟩=some (.bool a0_9)∧w'.cell? ⟨gb288,10,none⟩=some (.string a0_10)∧w'.cell? ⟨gb288,11,none⟩=some (.string a0_11)∧w'.cell? ⟨gb288,12,none⟩=some (.slice A0_12 l0_12.length c0_12)∧w'.cell? ⟨gb288,13,none⟩=some (.slice A0_13 l0_13.length c0_13)∧w'.cell? ⟨gb288,14,none⟩=some (.slice A0_14 l0_14.length c0_14)∧Sem.run Tryd.prog (convert 22 9 v290) w' = .ok (.string (strOfNums t289)) w'∧Sem.run Tryd.prog (convert 22 9 v294) w' = .ok (.string (strOfNums t293)) w') (ds:=[]) #[false,false,false,false,false,false,false,false,false,false,false,false,false,false,false,false,false,false] (by kernel_rfl) rfl rfl ⟨(blk_cell BK288.out 0).trans rfl,(blk_cell BK288.out 1).trans rfl,(blk_cell BK288.out 2).trans rfl,(blk_cell BK288.out 3).trans rfl,(blk_cell BK288.out 4).trans rfl,(blk_cell BK288.out 5).trans rfl,(blk_cell BK288.out 6).trans rfl,(blk_cell BK288.out 7).trans rfl,(blk_cell BK288.out 8).trans rfl,(blk_cell BK288.out 9).trans rfl,(blk_cell BK288.out 10).trans rfl,(blk_cell BK288.out 11).trans rfl,(blk_cell BK288.out 12).trans rfl,(blk_cell BK288.out 13).trans rfl,(blk_cell BK288.out 14).trans rfl,own_string (P:=Tryd.prog) Tryd.underlying22 Tryd.underlying5 Tryd.underlying9 (Kd.own_of_R (by (with_reducible repeat (first|apply Kd.R_alloc|apply Kd.R_drewN|apply Kd.R_drew));exact HO291.out)),own_string (P:=Tryd.prog) Tryd.underlying22 Tryd.underlying5 Tryd.underlying9 (Kd.own_of_R (by (with_reducible repeat (first|apply Kd.R_alloc|apply Kd.R_drewN|apply Kd.R_drew));exact HO295.out))⟩ (fun hHeld=>?_);refine with_tabW insolvencylaw35_same.tab3 insolvencylaw35_same.bits3 (fun HT_ HW_=>?_)
 generalize w34.drew=w35 at HO291 HO295 BK288 HB hHeld ⊢
 refine take_ (i:=0) (N:=some 17) (v:=?_) (a':=?_) #[true,false,false,false,false,false,false,false,false,false,false,false,false,false,false,false,false,false] rfl rfl (take_ofW HT_.out HW_.out (by kernel_rfl)) (fun _ _ _ h=>h) (Or.inl ⟨by rfl,?_⟩) hHeld ?_ ?_
 rotate_left
 ·rintro w' ⟨s0,s1,s2,s3,s4,s5,s6,s7,s8,s9,s10,s11,s12,s13,s14,q0_,q1_⟩
  go_simp
  with_reducible rfl
 rotate_left
 ·simp only [Act.put,List.setIfInBounds_toArray,List.set_cons_zero,List.set_cons_succ,i64_w,i32_w]
  rfl
 refine take_ (i:=2) (N:=some 19) (v:=?_) (a':=?_) #[true,false,true,false,false,false,false,false,false,false,false,false,false,false,false,false,false,false] rfl rfl (take_ofW HT_.out HW_.out (by kernel_rfl)) (fun _ _ _ h=>h) (Or.inl ⟨by rfl,?_⟩) hHeld ?_ ?_
 rotate_left
 ·rintro w' ⟨s0,s1,s2,s3,s4,s5,s6,s7,s8,s9,s10,s11,s12,s13,s14,q0_,q1_⟩
  go_simp
  with_reducible rfl
 rotate_left
 ·simp only [Act.put,List.setIfInBounds_toArray,List.set_cons_zero,List.set_cons_succ,i64_w,i32_w]
  rfl
 refine one_ (i:=1) (N:=some 18) #[true,true,true,false,false,false,false,false,false,false,false,false,false,false,false,false,false,false] rfl rfl (one_of HT_.out (by kernel_rfl)) (by decide) (fun K hK=>?_)
 refine goes_ Tryd.func22 (by kernel_rfl) rfl #[.agg #[.int .i64 a0_0,.int .i64 a0_1,.int .i64 a0_2,.int .i64 a0_3,.int .i64 a0_4,.int .i64 a0_5,.bool a0_6,.string a0_7,.string a0_8,.bool a0_9,.string a0_10,.string a0_11,.slice A0_12 l0_12.length c0_12,.slice A0_13 l0_13.length c0_13,.slice A0_14 l0_14.length c0_14]] (by rfl) rfl rfl (by (try simp only [List.map_toArray,List.map_cons,List.map_nil]);first|done|rfl|(simp only [List.length_drop,List.length_take];rfl)) ?_
 with_reducible refine (codec_Valid.calls k a0_0 a0_1 a0_2 a0_3 a0_4 a0_5 a0_6 a0_7 a0_8 a0_9 a0_10 a0_11 _ _ l0_12 _ _ l0_13 _ _ l0_14 t297 _ ?side1 ?side2 ?side3 ?side4 ?side5 ?side6 A4.out).mono ?_
 (case side1=>repeat (first|exact (Kd.C_below HR0_12.out HB.out)|(with_reducible refine Kd.C_alloc ?_ _)|(with_reducible refine Kd.C_drewN ?_ _)|(with_reducible refine Kd.C_drew ?_)))
 (case side2=>exact HC0_12.out)
 (case side3=>repeat (first|exact (Kd.C_below HR0_13.out HB.out)|(with_reducible refine Kd.C_alloc ?_ _)|(with_reducible refine Kd.C_drewN ?_ _)|(with_reducible refine Kd.C_drew ?_)))
 (case side4=>exact HC0_13.out)
 (case side5=>repeat (first|exact (Kd.C_below HR0_14.out HB.out)|(with_reducible refine Kd.C_alloc ?_ _)|(with_reducible refine Kd.C_drewN ?_ _)|(with_reducible refine Kd.C_drew ?_)))
 (case side6=>exact HC0_14.out)
 rintro e w36 ⟨rfl,hb⟩
 refine ⟨_,rfl,?_⟩
 have n0_:=Aside0.mk (Kd.R_below (by (with_reducible repeat (first|apply Kd.R_alloc|apply Kd.R_drewN|apply Kd.R_drew));exact HO291.out) hb)
 have n1_:=Aside0.mk (Kd.R_below (by (with_reducible repeat (first|apply Kd.R_alloc|apply Kd.R_drewN|apply Kd.R_drew));exact HO295.out) hb)
 have n2_:=Aside0.mk (blk_below (g:=gb288) (o:=.cells #[.int .i64 a0_0,.int .i64 a0_1,.int .i64 a0_2,.int .i64 a0_3,.int .i64 a0_4,.int .i64 a0_5,.bool a0_6,.string a0_7,.string a0_8,.bool a0_9,.string a0_10,.string a0_11,.slice A0_12 l0_12.length c0_12,.slice A0_13 l0_13.length c0_13,.slice A0_14 l0_14.length c0_14] 37 (0,0)) (by (with_reducible repeat (first|refine blk_drewN ?_ _|refine blk_drew ?_|refine blk_alloc ?_ _));exact BK288.out) hb)
 have n3_:=Aside0.mk (below_step (by repeat (first|(with_reducible first|exact HB.out|apply below_alloc|apply pw_below_drewN|apply below_drew1|refine below_set ?_ GE288.out)|exact HB.out)) hb)
 clear HO291
 clear HO295
 clear BK288
 clear HB
 have HO291:=n0_
 have HO295:=n1_
 have BK288:=n2_
 have HB:=n3_
 clear n0_ n1_ n2_ n3_
 (try clear hb)
 (try clear hb2)
 (try clear hk)
 (try clear hi)
 refine hK.out _ _ ⟨(blk_cell BK288.out 0).trans rfl,(blk_cell BK288.out 1).trans rfl,(blk_cell BK288.out 2).trans rfl,(blk_cell BK288.out 3).trans rfl,(blk_cell BK288.out 4).trans rfl,(blk_cell BK288.out 5).trans rfl,(blk_cell BK288.out 6).trans rfl,(blk_cell BK288.out 7).trans rfl,(blk_cell BK288.out 8).trans rfl,(blk_cell BK288.out 9).trans rfl,(blk_cell BK288.out 10).trans rfl,(blk_cell BK288.out 11).trans rfl,(blk_cell BK288.out 12).trans rfl,(blk_cell BK288.out 13).trans rfl,(blk_cell BK288.out 14).trans rfl,own_string (P:=Tryd.prog) Tryd.underlying22 Tryd.underlying5 Tryd.underlying9 (Kd.own_of_R (by (with_reducible repeat (first|apply Kd.R_alloc|apply Kd.R_drewN|apply Kd.R_drew));exact HO291.out)),own_string (P:=Tryd.prog) Tryd.underlying22 Tryd.underlying5 Tryd.underlying9 (Kd.own_of_R (by (with_reducible repeat (first|apply Kd.R_alloc|apply Kd.R_drewN|apply Kd.R_drew));exact HO295.out))⟩ (fun hHeld=>?_)
 clear hK K
 refine norm_ (a':=?_) ?_ ?_
 rotate_left
 ·show Act.put _ (some 18) _=_
  simp only [Act.put,List.setIfInBounds_toArray,List.set_cons_zero,List.set_cons_succ,i64_w,i32_w]
  rfl
 refine one_ (i:=3) (N:=some 20) #[true,true,true,true,false,false,false,false,false,false,false,false,false,false,false,false,false,false] rfl rfl (one_of HT_.out (by kernel_rfl)) (by decide) (fun K hK=>?_)
 refine goes_ Tryd.func23 (by kernel_rfl) rfl #[.agg #[.int .i64 a0_0,.int .i64 a0_1,.int .i64 a0_2,.int .i64 a0_3,.int .i64 a0_4,.int .i64 a0_5,.bool a0_6,.string a0_7,.string a0_8,.bool a0_9,.string a0_10,.string a0_11,.slice A0_12 l0_12.length c0_12,.slice A0_13 l0_13.length c0_13,.slice A0_14 l0_14.length c0_14]] (by rfl) rfl rfl (by (try simp only [List.map_toArray,List.map_cons,List.map_nil]);first|done|rfl|(simp only [List.length_drop,List.length_take];rfl)) ?_
 with_reducible refine (insolvencyref33_Valid.calls k a0_0 a0_1 a0_2 a0_3 a0_4 a0_5 a0_6 a0_7 a0_8 a0_9 a0_10 a0_11 _ _ l0_12 _ _ l0_13 _ _ l0_14 t298 _ ?side1 ?side2 ?side3 ?side4 ?side5 ?side6 A5.out).mono ?_
 (case side1=>repeat (first|exact (Kd.C_below HR0_12.out HB.out)|(with_reducible refine Kd.C_alloc ?_ _)|(with_reducible refine Kd.C_drewN ?_ _)|(with_reducible refine Kd.C_drew ?_)))
 (case side2=>exact HC0_12.out)
 (case side3=>repeat (first|exact (Kd.C_below HR0_13.out HB.out)|(with_reducible refine Kd.C_alloc ?_ _)|(with_reducible refine Kd.C_drewN ?_ _)|(with_reducible refine Kd.C_drew ?_)))
 (case side4=>exact HC0_13.out)
 (case side5=>repeat (first|exact (Kd.C_below HR0_14.out HB.out)|(with_reducible refine Kd.C_alloc ?_ _)|(with_reducible refine Kd.C_drewN ?_ _)|(with_reducible refine Kd.C_drew ?_)))
 (case side6=>exact HC0_14.out)
 rintro e w37 ⟨rfl,hb⟩
 refine ⟨_,rfl,?_⟩
 have n0_:=Aside0.mk (Kd.R_below (by (with_reducible repeat (first|apply Kd.R_alloc|apply Kd.R_drewN|apply Kd.R_drew));exact HO291.out) hb)
 have n1_:=Aside0.mk (Kd.R_below (by (with_reducible repeat (first|apply Kd.R_alloc|apply Kd.R_drewN|apply Kd.R_drew));exact HO295.out) hb)
 have n2_:=Aside0.mk (blk_below (g:=gb288) (o:=.cells #[.int .i64 a0_0,.int .i64 a0_1,.int .i64 a0_2,.int .i64 a0_3,.int .i64 a0_4,.int .i64 a0_5,.bool a0_6,.string a0_7,.string a0_8,.bool a0_9,.string a0_10,.string a0_11,.slice A0_12 l0_12.length c0_12,.slice A0_13 l0_13.length c0_13,.slice A0_14 l0_14.length c0_14] 37 (0,0)) (by (with_reducible repeat (first|refine blk_drewN ?_ _|refine blk_drew ?_|refine blk_alloc ?_ _));exact BK288.out) hb)
 have n3_:=Aside0.mk (below_step (by repeat (first|(with_reducible first|exact HB.out|apply below_alloc|apply pw_below_drewN|apply below_drew1|refine below_set ?_ GE288.out)|exact HB.out)) hb)
 clear HO291
 clear HO295
 clear BK288
 clear HB
 have HO291:=n0_
 have HO295:=n1_
 have BK288:=n2_
 have HB:=n3_
 clear n0_ n1_ n2_ n3_
 (try clear hb)
 (try clear hb2)
 (try clear hk)
 (try clear hi)
 refine hK.out _ _ ⟨(blk_cell BK288.out 0).trans rfl,(blk_cell BK288.out 1).trans rfl,(blk_cell BK288.out 2).trans rfl,(blk_cell BK288.out 3).trans rfl,(blk_cell BK288.out 4).trans rfl,(blk_cell BK288.out 5).trans rfl,(blk_cell BK288.out 6).trans rfl,(blk_cell BK288.out 7).trans rfl,(blk_cell BK288.out 8).trans rfl,(blk_cell BK288.out 9).trans rfl,(blk_cell BK288.out 10).trans rfl,(blk_cell BK288.out 11).trans rfl,(blk_cell BK288.out 12).trans rfl,(blk_cell BK288.out 13).trans rfl,(blk_cell BK288.out 14).trans rfl,own_string (P:=Tryd.prog) Tryd.underlying22 Tryd.underlying5 Tryd.underlying9 (Kd.own_of_R (by (with_reducible repeat (first|apply Kd.R_alloc|apply Kd.R_drewN|apply Kd.R_drew));exact HO291.out)),own_string (P:=Tryd.prog) Tryd.underlying22 Tryd.underlying5 Tryd.underlying9 (Kd.own_of_R (by (with_reducible repeat (first|apply Kd.R_alloc|apply Kd.R_drewN|apply Kd.R_drew));exact HO295.out))⟩ (fun hHeld=>?_)
 clear hK K
 refine norm_ (a':=?_) ?_ ?_
 rotate_left
 ·show Act.put _ (some 20) _=_
  simp only [Act.put,List.setIfInBounds_toArray,List.set_cons_zero,List.set_cons_succ,i64_w,i32_w]
  rfl
 refine pure_ (i:=4) (N:=some 21) (v:=?_) (a':=?_) #[true,true,true,true,true,false,false,false,false,false,false,false,false,false,false,false,false,false] rfl rfl (any_of HT_.out (by kernel_rfl)) (fun _ _ _ h=>h) (Or.inl ⟨by rfl,?_⟩) ?_ ?_
 rotate_left
 ·intro w'
  go_simp
  with_reducible rfl
 rotate_left
 ·simp only [Act.put,List.setIfInBounds_toArray,List.set_cons_zero,List.set_cons_succ,i64_w,i32_w]
  rfl
 refine pure_ (i:=5) (N:=some 22) (v:=?_) (a':=?_) #[true,true,true,true,true,true,false,false,false,false,false,false,false,false,false,false,false,false] rfl rfl (any_of HT_.out (by kernel_rfl)) (fun _ _ _ h=>h) (Or.inl ⟨by rfl,?_⟩) ?_ ?_
 rotate_left
 ·intro w'
  go_simp
  with_reducible rfl
 rotate_left
 ·simp only [Act.put,List.setIfInBounds_toArray,List.set_cons_zero,List.set_cons_succ,i64_w,i32_w]
  rfl
 refine pure_ (i:=6) (N:=some 23) (v:=undef) (a':=?_) #[true,true,true,true,true,true,true,false,false,false,false,false,false,false,false,false,false,false] rfl rfl (any_of HT_.out (by kernel_rfl)) (fun _ _ _ h=>h) (Or.inr ⟨by rfl,rfl⟩) ?_ ?_
 rotate_left
 ·simp only [Act.put,List.setIfInBounds_toArray,List.set_cons_zero,List.set_cons_succ,i64_w,i32_w]
  rfl
 refine pure_ (i:=7) (N:=some 24) (v:=undef) (a':=?_) #[true,true,true,true,true,true,true,true,false,false,false,false,false,false,false,false,false,false] rfl rfl (any_of HT_.out (by kernel_rfl)) (fun _ _ _ h=>h) (Or.inr ⟨by rfl,rfl⟩) ?_ ?_
 rotate_left
 ·simp only [Act.put,List.setIfInBounds_toArray,List.set_cons_zero,List.set_cons_succ,i64_w,i32_w]
  rfl
 refine pure_ (i:=8) (N:=some 25) (v:=undef) (a':=?_) #[true,true,true,true,true,true,true,true,true,false,false,false,false,false,false,false,false,false] rfl rfl (any_of HT_.out (by kernel_rfl)) (fun _ _ _ h=>h) (Or.inr ⟨by rfl,rfl⟩) ?_ ?_
 rotate_left
 ·simp only [Act.put,List.setIfInBounds_toArray,List.set_cons_zero,List.set_cons_succ,i64_w,i32_w]
  rfl
 refine pure_ (i:=9) (N:=some 26) (v:=undef) (a':=?_) #[true,true,true,true,true,true,true,true,true,true,false,false,false,false,false,false,false,false] rfl rfl (any_of HT_.out (by kernel_rfl)) (fun _ _ _ h=>h) (Or.inr ⟨by rfl,rfl⟩) ?_ ?_
 rotate_left
 ·simp only [Act.put,List.setIfInBounds_toArray,List.set_cons_zero,List.set_cons_succ,i64_w,i32_w]
  rfl
 refine pure_ (i:=10) (N:=some 27) (v:=undef) (a':=?_) #[true,true,true,true,true,true,true,true,true,true,true,false,false,false,false,false,false,false] rfl rfl (any_of HT_.out (by kernel_rfl)) (fun _ _ _ h=>h) (Or.inr ⟨by rfl,rfl⟩) ?_ ?_
 rotate_left
 ·simp only [Act.put,List.setIfInBounds_toArray,List.set_cons_zero,List.set_cons_succ,i64_w,i32_w]
  rfl
 refine pure_ (i:=11) (N:=some 28) (v:=?_) (a':=?_) #[true,true,true,true,true,true,true,true,true,true,true,true,false,false,false,false,false,false] rfl rfl (any_of HT_.out (by kernel_rfl)) (fun _ _ _ h=>h) (Or.inl ⟨by rfl,?_⟩) ?_ ?_
 rotate_left
 ·intro w'
  go_simp
  with_reducible rfl
 rotate_left
 ·simp only [Act.put,List.setIfInBounds_toArray,List.set_cons_zero,List.set_cons_succ,i64_w,i32_w]
  rfl
 refine pure_ (i:=12) (N:=some 29) (v:=?_) (a':=?_) #[true,true,true,true,true,true,true,true,true,true,true,true,true,false,false,false,false,false] rfl rfl (any_of HT_.out (by kernel_rfl)) (fun _ _ _ h=>h) (Or.inl ⟨by rfl,?_⟩) ?_ ?_
 rotate_left
 ·intro w'
  go_simp
  with_reducible rfl
 rotate_left
 ·simp only [Act.put,List.setIfInBounds_toArray,List.set_cons_zero,List.set_cons_succ,i64_w,i32_w]
  rfl
 refine pure_ (i:=13) (N:=some 30) (v:=undef) (a':=?_) #[true,true,true,true,true,true,true,true,true,true,true,true,true,true,false,false,false,false] rfl rfl (any_of HT_.out (by kernel_rfl)) (fun _ _ _ h=>h) (Or.inr ⟨by rfl,rfl⟩) ?_ ?_
 rotate_left
 ·simp only [Act.put,List.setIfInBounds_toArray,List.set_cons_zero,List.set_cons_succ,i64_w,i32_w]
  rfl
 refine pure_ (i:=14) (N:=some 31) (v:=undef) (a':=?_) #[true,true,true,true,true,true,true,true,true,true,true,true,true,true,true,false,false,false] rfl rfl (any_of HT_.out (by kernel_rfl)) (fun _ _ _ h=>h) (Or.inr ⟨by rfl,rfl⟩) ?_ ?_
 rotate_left
 ·simp only [Act.put,List.setIfInBounds_toArray,List.set_cons_zero,List.set_cons_succ,i64_w,i32_w]
  rfl
 refine pure_ (i:=15) (N:=some 32) (v:=undef) (a':=?_) #[true,true,true,true,true,true,true,true,true,true,true,true,true,true,true,true,false,false] rfl rfl (any_of HT_.out (by kernel_rfl)) (fun _ _ _ h=>h) (Or.inr ⟨by rfl,rfl⟩) ?_ ?_
 rotate_left
 ·simp only [Act.put,List.setIfInBounds_toArray,List.set_cons_zero,List.set_cons_succ,i64_w,i32_w]
  rfl
 refine pure_ (i:=16) (N:=some 33) (v:=?_) (a':=?_) #[true,true,true,true,true,true,true,true,true,true,true,true,true,true,true,true,true,false] rfl rfl (any_of HT_.out (by kernel_rfl)) (fun _ _ _ h=>h) (Or.inl ⟨by rfl,?_⟩) ?_ ?_
 rotate_left
 ·intro w'
  go_simp
  with_reducible rfl
 rotate_left
 ·simp only [Act.put,List.setIfInBounds_toArray,List.set_cons_zero,List.set_cons_succ,i64_w,i32_w]
  rfl
 refine pure_ (i:=17) (N:=some 2) (v:=?_) (a':=?_) #[true,true,true,true,true,true,true,true,true,true,true,true,true,true,true,true,true,true] rfl rfl (any_of HT_.out (by kernel_rfl)) (fun _ _ _ h=>h) (Or.inl ⟨by rfl,?_⟩) ?_ ?_
 rotate_left
 ·intro w'
  go_simp
  with_reducible rfl
 rotate_left
 ·simp only [Act.put,List.setIfInBounds_toArray,List.set_cons_zero,List.set_cons_succ,i64_w,i32_w]
  rfl
 refine done_ (done_of HT_.out (by kernel_rfl)) ?_
 try go_wp2
 go_ret
 exact ⟨by first|rfl|(simp [errW_none,errW_some] <;> rfl)|(simp [*,errW_none,errW_some] <;> rfl),by repeat (first|(with_reducible first|exact HB.out|apply below_alloc|apply pw_below_drewN|apply below_drew1|refine below_set ?_ GE288.out)|exact HB.out)⟩
set_option maxHeartbeats 8000000 in
set_option maxRecDepth 100000 in
theorem insolvencylaw35_same.calls (k:Nat) (a0_0:Int) (a0_1:Int) (a0_2:Int) (a0_3:Int) (a0_4:Int) (a0_5:Int) (a0_6:Bool) (a0_7:ByteArray) (a0_8:ByteArray) (a0_9:Bool) (a0_10:ByteArray) (a0_11:ByteArray) (A0_12:Option Addr) (c0_12:Nat) (l0_12:List (S49)) (A0_13:Option Addr) (c0_13:Nat) (l0_13:List (S51)) (A0_14:Option Addr) (c0_14:Nat) (l0_14:List (S55)) (r:Bool) (w:World) (hr0_12:Kd.C k49 w A0_12 l0_12.length l0_12) (hc0_12:l0_12.length≤c0_12) (hr0_13:Kd.C k51 w A0_13 l0_13.length l0_13) (hc0_13:l0_13.length≤c0_13) (hr0_14:Kd.C k55 w A0_14 l0_14.length l0_14) (hc0_14:l0_14.length≤c0_14) (h:insolvencylaw35_same.f k a0_0 a0_1 a0_2 a0_3 a0_4 a0_5 a0_6 a0_7 a0_8 a0_9 a0_10 a0_11 l0_12 l0_13 l0_14=some r) :
 Calls Tryd.prog 14 #[.agg #[.int .i64 a0_0,.int .i64 a0_1,.int .i64 a0_2,.int .i64 a0_3,.int .i64 a0_4,.int .i64 a0_5,.bool a0_6,.string a0_7,.string a0_8,.bool a0_9,.string a0_10,.string a0_11,.slice A0_12 l0_12.length c0_12,.slice A0_13 l0_13.length c0_13,.slice A0_14 l0_14.length c0_14]] w fun e w'=>e = .returned (.bool r)∧Below w.heap.size w w':=by
 have hu37:=Tryd.underlying37
 have HR0_12:=Aside0.mk hr0_12
 have HC0_12:=Aside0.mk hc0_12
 clear hr0_12 hc0_12
 have HR0_13:=Aside0.mk hr0_13
 have HC0_13:=Aside0.mk hc0_13
 clear hr0_13 hc0_13
 have HR0_14:=Aside0.mk hr0_14
 have HC0_14:=Aside0.mk hc0_14
 clear hr0_14 hc0_14
 have HB:=Aside0.mk (Below.refl w.heap.size w)
 have H:((codec_Encode.f k a0_0 a0_1 a0_2 a0_3 a0_4 a0_5 a0_6 a0_7 a0_8 a0_9 a0_10 a0_11 l0_12 l0_13 l0_14).bind fun bt289=>((insolvencyref33_Encode.f k a0_0 a0_1 a0_2 a0_3 a0_4 a0_5 a0_6 a0_7 a0_8 a0_9 a0_10 a0_11 l0_12 l0_13 l0_14).bind fun bt293=>((codec_Valid.f k a0_0 a0_1 a0_2 a0_3 a0_4 a0_5 a0_6 a0_7 a0_8 a0_9 a0_10 a0_11 l0_12 l0_13 l0_14).bind fun t297=>((insolvencyref33_Valid.f k a0_0 a0_1 a0_2 a0_3 a0_4 a0_5 a0_6 a0_7 a0_8 a0_9 a0_10 a0_11 l0_12 l0_13 l0_14).bind fun t298=>(if (t297 == t298)=true then (if (strOfNums bt289.1).toList=(strOfNums bt293.1).toList then (some (bt289.2 == bt293.2)) else (some false)) else (some false))))))=some r:=h
 clear h
 replace H:=Option.bind_eq_some_iff.mp H
 obtain ⟨⟨t289,t292⟩,A20,H⟩:=H
 replace H:((insolvencyref33_Encode.f k a0_0 a0_1 a0_2 a0_3 a0_4 a0_5 a0_6 a0_7 a0_8 a0_9 a0_10 a0_11 l0_12 l0_13 l0_14).bind fun bt293=>((codec_Valid.f k a0_0 a0_1 a0_2 a0_3 a0_4 a0_5 a0_6 a0_7 a0_8 a0_9 a0_10 a0_11 l0_12 l0_13 l0_14).bind fun t297=>((insolvencyref33_Valid.f k a0_0 a0_1 a0_2 a0_3 a0_4 a0_5 a0_6 a0_7 a0_8 a0_9 a0_10 a0_11 l0_12 l0_13 l0_14).bind fun t298=>(if (t297 == t298)=true then (if (strOfNums t289).toList=(strOfNums bt293.1).toList then (some (t292 == bt293.2)) else (some false)) else (some false)))))=some r:=H
 have A2:=Aside0.mk A20
 clear A20
 replace H:=Option.bind_eq_some_iff.mp H
 obtain ⟨⟨t293,t296⟩,A30,H⟩:=H
 replace H:((codec_Valid.f k a0_0 a0_1 a0_2 a0_3 a0_4 a0_5 a0_6 a0_7 a0_8 a0_9 a0_10 a0_11 l0_12 l0_13 l0_14).bind fun t297=>((insolvencyref33_Valid.f k a0_0 a0_1 a0_2 a0_3 a0_4 a0_5 a0_6 a0_7 a0_8 a0_9 a0_10 a0_11 l0_12 l0_13 l0_14).bind fun t298=>(if (t297 == t298)=true then (if (strOfNums t289).toList=(strOfNums t293).toList then (some (t292 == t296)) else (some false)) else (some false))))=some r:=H
 have A3:=Aside0.mk A30
 clear A30
 replace H:=Option.bind_eq_some_iff.mp H
 obtain ⟨t297,A40,H⟩:=H
 replace H:((insolvencyref33_Valid.f k a0_0 a0_1 a0_2 a0_3 a0_4 a0_5 a0_6 a0_7 a0_8 a0_9 a0_10 a0_11 l0_12 l0_13 l0_14).bind fun t298=>(if (t297 == t298)=true then (if (strOfNums t289).toList=(strOfNums t293).toList then (some (t292 == t296)) else (some false)) else (some false)))=some r:=H
 have A4:=Aside0.mk A40
 clear A40
 replace H:=Option.bind_eq_some_iff.mp H
 obtain ⟨t298,A50,H⟩:=H
 replace H:(if (t297 == t298)=true then (if (strOfNums t289).toList=(strOfNums t293).toList then (some (t292 == t296)) else (some false)) else (some false))=some r:=H
 have A5:=Aside0.mk A50
 clear A50
 by_cases c6:(t297 == t298)=true
 ·rw [if_pos c6] at H
  by_cases c7:(strOfNums t289).toList=(strOfNums t293).toList
  ·rw [if_pos c7] at H
   exact insolvencylaw35_same.pA k a0_0 a0_1 a0_2 a0_3 a0_4 a0_5 a0_6 a0_7 a0_8 a0_9 a0_10 a0_11 A0_12 c0_12 l0_12 A0_13 c0_13 l0_13 A0_14 c0_14 l0_14 r w HR0_12.out HC0_12.out HR0_13.out HC0_13.out HR0_14.out HC0_14.out t289 t292 t293 t296 t297 t298 A2.out A3.out A4.out A5.out c6 c7 H
  ·rw [if_neg c7] at H
   exact insolvencylaw35_same.pB k a0_0 a0_1 a0_2 a0_3 a0_4 a0_5 a0_6 a0_7 a0_8 a0_9 a0_10 a0_11 A0_12 c0_12 l0_12 A0_13 c0_13 l0_13 A0_14 c0_14 l0_14 r w HR0_12.out HC0_12.out HR0_13.out HC0_13.out HR0_14.out HC0_14.out t289 t292 t293 t296 t297 t298 A2.out A3.out A4.out A5.out c6 c7 H
 ·rw [if_neg c6] at H
  exact insolvencylaw35_same.pC k a0_0 a0_1 a0_2 a0_3 a0_4 a0_5 a0_6 a0_7 a0_8 a0_9 a0_10 a0_11 A0_12 c0_12 l0_12 A0_13 c0_13 l0_13 A0_14 c0_14 l0_14 r w HR0_12.out HC0_12.out HR0_13.out HC0_13.out HR0_14.out HC0_14.out t289 t292 t293 t296 t297 t298 A2.out A3.out A4.out A5.out c6 H
end Go.Proofs.YtcipcpodgkeobaaDoor.F
end
section
namespace Go.Proofs.YtcipcpodgkeobaaDoor.F
open Go.RowKit Go.Proofs.YtcipcpodgkeobaaDoorW.PrintWords Go.Proofs.YtcipcpodgkeobaaDoorW.PrintLast Go.Proofs.YtcipcpodgkeobaaDoorW.PrintMore
attribute [local go_sem] max2_int min2_int max_two min_two max_three min_three max_four min_four   
set_option linter.unusedVariables false
set_option linter.unusedSimpArgs false
mutual
def insolvencylaw35_CodecEdges.j0:Nat→Int→Int→Int→Int→Int→Int→Option (Bool)
 | 0,_,_,_,_,_,_=>none
 | k+1,x1,x2,x3,x4,x5,x13=>if (Int.tmod x1 12)=0 then ((insolvencylaw35_awake.f k).bind fun t448=>(if t448=true then ((insolvencylaw35_same.f k x13 0 0 0 0 0 false (⟨#[]⟩:ByteArray) (⟨#[]⟩:ByteArray) false (⟨#[]⟩:ByteArray) (⟨#[]⟩:ByteArray) ([]:List (S49)) ([]:List (S51)) ([]:List (S55))).bind fun t449=>(some t449)) else (some false))) else (if (Int.tmod x1 12)=1 then ((insolvencylaw35_awake.f k).bind fun t450=>(if t450=true then ((insolvencylaw35_same.f k 0 0 x13 0 0 0 false (⟨#[]⟩:ByteArray) (⟨#[]⟩:ByteArray) false (⟨#[]⟩:ByteArray) (⟨#[]⟩:ByteArray) ([]:List (S49)) ([]:List (S51)) ([]:List (S55))).bind fun t451=>(some t451)) else (some false))) else (if (Int.tmod x1 12)=2 then ((insolvencylaw35_awake.f k).bind fun t452=>(if t452=true then ((insolvencylaw35_same.f k 0 0 0 0 0 x13 false (⟨#[]⟩:ByteArray) (⟨#[]⟩:ByteArray) false (⟨#[]⟩:ByteArray) (⟨#[]⟩:ByteArray) ([]:List (S49)) ([]:List (S51)) ([]:List (S55))).bind fun t453=>(some t453)) else (some false))) else (if (Int.tmod x1 12)=3 then ((insolvencylaw35_awake.f k).bind fun t457=>(if t457=true then ((insolvencylaw35_same.f k 0 0 0 0 0 0 false (⟨#[]⟩:ByteArray) (⟨#[]⟩:ByteArray) false (⟨#[]⟩:ByteArray) (⟨#[]⟩:ByteArray) (([(⟨0,x13⟩:S49)]:List (S49))) ([]:List (S51)) ([]:List (S55))).bind fun t458=>(some t458)) else (some false))) else (if (Int.tmod x1 12)=4 then ((insolvencylaw35_awake.f k).bind fun t462=>(if t462=true then ((insolvencylaw35_same.f k 0 0 0 0 0 0 false (⟨#[]⟩:ByteArray) (⟨#[]⟩:ByteArray) false (⟨#[]⟩:ByteArray) (⟨#[]⟩:ByteArray) ([]:List (S49)) (([(⟨(⟨false,(⟨#[]⟩:ByteArray),(⟨#[]⟩:ByteArray)⟩:S30),x13⟩:S51)]:List (S51))) ([]:List (S55))).bind fun t463=>(some t463)) else (some false))) else (if (Int.tmod x1 12)=5 then ((insolvencylaw35_awake.f k).bind fun t467=>(if t467=true then ((insolvencylaw35_same.f k 0 0 0 0 0 0 false (⟨#[]⟩:ByteArray) (⟨#[]⟩:ByteArray) false (⟨#[]⟩:ByteArray) (⟨#[]⟩:ByteArray) ([]:List (S49)) ([]:List (S51)) (([(⟨(⟨0,(⟨0,0⟩:S49)⟩:S53),x13⟩:S55)]:List (S55)))).bind fun t468=>(some t468)) else (some false))) else (if (Int.tmod x1 12)=6 then ((insolvencylaw35_awake.f k).bind fun t472=>(if t472=true then ((insolvencylaw35_same.f k 0 0 0 0 0 0 false (⟨#[]⟩:ByteArray) (⟨#[]⟩:ByteArray) false (⟨#[]⟩:ByteArray) (⟨#[]⟩:ByteArray) ([]:List (S49)) ([]:List (S51)) (([(⟨(⟨x13,(⟨0,0⟩:S49)⟩:S53),0⟩:S55)]:List (S55)))).bind fun t473=>(some t473)) else (some false))) else (if (Int.tmod x1 12)=7 then (if 0≤(wrap64 (Int.tmod x2 12)) then (if (wrap64 (Int.tmod x2 12):Int).toNat≤17592186044416 then ((insolvencylaw35_awake.f k).bind fun t477=>(if t477=true then ((insolvencylaw35_same.f k 0 0 0 0 0 0 false (⟨#[]⟩:ByteArray) (⟨#[]⟩:ByteArray) false (⟨#[]⟩:ByteArray) (⟨#[]⟩:ByteArray) (List.replicate (wrap64 (Int.tmod x2 12):Int).toNat z49) ([]:List (S51)) ([]:List (S55))).bind fun t478=>(some t478)) else (some false))) else (none)) else (none)) else (if (Int.tmod x1 12)=8 then (if 0≤(wrap64 (Int.tmod x3 8)) then (if (wrap64 (Int.tmod x3 8):Int).toNat≤5864062014805 then ((insolvencylaw35_awake.f k).bind fun t482=>(if t482=true then ((insolvencylaw35_same.f k 0 0 0 0 0 0 false (⟨#[]⟩:ByteArray) (⟨#[]⟩:ByteArray) false (⟨#[]⟩:ByteArray) (⟨#[]⟩:ByteArray) ([]:List (S49)) (List.replicate (wrap64 (Int.tmod x3 8):Int).toNat z51) ([]:List (S55))).bind fun t483=>(some t483)) else (some false))) else (none)) else (none)) else (if (Int.tmod x1 12)=9 then (if 0≤(wrap64 (Int.tmod x4 300)) then (if (wrap64 (Int.tmod x4 300):Int).toNat≤8796093022208 then ((insolvencylaw35_awake.f k).bind fun t487=>(if t487=true then ((insolvencylaw35_same.f k 0 0 0 0 0 0 false (⟨#[]⟩:ByteArray) (⟨#[]⟩:ByteArray) false (⟨#[]⟩:ByteArray) (⟨#[]⟩:ByteArray) ([]:List (S49)) ([]:List (S51)) (List.replicate (wrap64 (Int.tmod x4 300):Int).toNat z55)).bind fun t488=>(some t488)) else (some false))) else (none)) else (none)) else (if (Int.tmod x1 12)=10 then (if 0≤(wrap64 (4060+(wrap64 (Int.tmod x5 50)))) then (if (wrap64 (4060+(wrap64 (Int.tmod x5 50))):Int).toNat≤281474976710656 then ((some (List.replicate (wrap64 (4060+(wrap64 (Int.tmod x5 50))):Int).toNat 0:List Int)).bind fun y489=>(insolvencylaw35_CodecEdges.l0 k y489 (y489.length:Int) 0 0 0 0 0 0 0 false (⟨#[]⟩:ByteArray) (⟨#[]⟩:ByteArray) false (⟨#[]⟩:ByteArray) (⟨#[]⟩:ByteArray))) else (none)) else (none)) else ((insolvencylaw35_awake.f k).bind fun t495=>(if t495=true then ((insolvencylaw35_same.f k 0 0 0 0 0 0 false (⟨#[]⟩:ByteArray) (⟨#[]⟩:ByteArray) false (⟨#[]⟩:ByteArray) (⟨#[]⟩:ByteArray) ([]:List (S49)) ([]:List (S51)) ([]:List (S55))).bind fun t496=>(some t496)) else (some false)))))))))))))
def insolvencylaw35_CodecEdges.l0:Nat→List Int→Int→Int→Int→Int→Int→Int→Int→Int→Bool→ByteArray→ByteArray→Bool→ByteArray→ByteArray→Option (Bool)
 | 0,_,_,_,_,_,_,_,_,_,_,_,_,_,_,_=>none
 | k+1,x15,x102,x103,x448000,x448001,x448002,x448003,x448004,x448005,x448006,x448007,x448008,x448009,x448010,x448011=>if x103<x102 then (if 0≤x103 then (if x103<(x15.length:Int) then (insolvencylaw35_CodecEdges.l0 k (x15.set (x103:Int).toNat 7) x102 (wrap64 (x103+1)) x448000 x448001 x448002 x448003 x448004 x448005 x448006 x448007 x448008 x448009 x448010 x448011) else (none)) else (none)) else ((insolvencylaw35_awake.f k).bind fun t493=>(if t493=true then ((insolvencylaw35_same.f k x448000 x448001 x448002 x448003 x448004 x448005 x448006 (strOfNums x15) x448008 x448009 x448010 x448011 ([]:List (S49)) ([]:List (S51)) ([]:List (S55))).bind fun t494=>(some t494)) else (some false)))
end
def insolvencylaw35_CodecEdges.f (k:Nat) (a0:Int) (a1:Int) (a2:Int) (a3:Int) (a4:Int) (a5:Int):Option (Bool):=if (Int.tmod a0 2)=0 then (insolvencylaw35_CodecEdges.j0 k a1 a2 a3 a4 a5 (wrap64 (-(wrap64 (1125899906842624+(wrap64 (Int.tmod a0 3))))))) else (insolvencylaw35_CodecEdges.j0 k a1 a2 a3 a4 a5 (wrap64 (1125899906842624+(wrap64 (Int.tmod a0 3)))))
theorem insolvencylaw35_CodecEdges.mono_l:∀ k,(∀ y0 y1 y2 y3 y4 y5,LeO (insolvencylaw35_CodecEdges.j0 k y0 y1 y2 y3 y4 y5) (insolvencylaw35_CodecEdges.j0 (k+1) y0 y1 y2 y3 y4 y5))∧(∀ y0 y1 y2 y3 y4 y5 y6 y7 y8 y9 y10 y11 y12 y13 y14,LeO (insolvencylaw35_CodecEdges.l0 k y0 y1 y2 y3 y4 y5 y6 y7 y8 y9 y10 y11 y12 y13 y14) (insolvencylaw35_CodecEdges.l0 (k+1) y0 y1 y2 y3 y4 y5 y6 y7 y8 y9 y10 y11 y12 y13 y14))
 | 0=>⟨fun _ _ _ _ _ _ r h=>by simp [insolvencylaw35_CodecEdges.j0] at h,fun _ _ _ _ _ _ _ _ _ _ _ _ _ _ _ r h=>by simp [insolvencylaw35_CodecEdges.l0] at h⟩
 | k+1=>by
  obtain ⟨ih0,ih1⟩:=insolvencylaw35_CodecEdges.mono_l k
  refine ⟨?_,?_⟩
  ·intro y0 y1 y2 y3 y4 y5
   unfold insolvencylaw35_CodecEdges.j0
   repeat' first
   | (with_reducible exact ih0 _ _ _ _ _ _)
   | (with_reducible exact ih1 _ _ _ _ _ _ _ _ _ _ _ _ _ _ _)
   | (with_reducible exact insolvencylaw35_awake.mono _)
   | (with_reducible exact insolvencylaw35_same.mono _ _ _ _ _ _ _ _ _ _ _ _ _ _ _ _)
   | (with_reducible exact LeO.refl _)
   | (with_reducible exact LeO.none _)
   | (with_reducible refine LeO.ite ?_ ?_)
   | (with_reducible refine LeO.bind ?_ (fun _=>?_))
   | exact ih0 _ _ _ _ _ _
   | exact ih1 _ _ _ _ _ _ _ _ _ _ _ _ _ _ _
   | exact insolvencylaw35_awake.mono _
   | exact insolvencylaw35_same.mono _ _ _ _ _ _ _ _ _ _ _ _ _ _ _ _
   | exact LeO.none _
   | refine LeO.ite ?_ ?_
   | refine LeO.bind ?_ (fun _=>?_)
  ·intro y0 y1 y2 y3 y4 y5 y6 y7 y8 y9 y10 y11 y12 y13 y14
   unfold insolvencylaw35_CodecEdges.l0
   repeat' first
   | (with_reducible exact ih0 _ _ _ _ _ _)
   | (with_reducible exact ih1 _ _ _ _ _ _ _ _ _ _ _ _ _ _ _)
   | (with_reducible exact insolvencylaw35_awake.mono _)
   | (with_reducible exact insolvencylaw35_same.mono _ _ _ _ _ _ _ _ _ _ _ _ _ _ _ _)
   | (with_reducible exact LeO.refl _)
   | (with_reducible exact LeO.none _)
   | (with_reducible refine LeO.ite ?_ ?_)
   | (with_reducible refine LeO.bind ?_ (fun _=>?_))
   | exact ih0 _ _ _ _ _ _
   | exact ih1 _ _ _ _ _ _ _ _ _ _ _ _ _ _ _
   | exact insolvencylaw35_awake.mono _
   | exact insolvencylaw35_same.mono _ _ _ _ _ _ _ _ _ _ _ _ _ _ _ _
   | exact LeO.none _
   | refine LeO.ite ?_ ?_
   | refine LeO.bind ?_ (fun _=>?_)
theorem insolvencylaw35_CodecEdges.mono:∀ a0 a1 a2 a3 a4 a5 k,LeO (insolvencylaw35_CodecEdges.f k a0 a1 a2 a3 a4 a5) (insolvencylaw35_CodecEdges.f (k+1) a0 a1 a2 a3 a4 a5):=by
 intro a0 a1 a2 a3 a4 a5 k
 obtain ⟨ih0,ih1⟩:=insolvencylaw35_CodecEdges.mono_l k
 unfold insolvencylaw35_CodecEdges.f
 repeat' first
  | (with_reducible exact ih0 _ _ _ _ _ _)
  | (with_reducible exact ih1 _ _ _ _ _ _ _ _ _ _ _ _ _ _ _)
  | (with_reducible exact insolvencylaw35_awake.mono _)
  | (with_reducible exact insolvencylaw35_same.mono _ _ _ _ _ _ _ _ _ _ _ _ _ _ _ _)
  | (with_reducible exact LeO.refl _)
  | (with_reducible exact LeO.none _)
  | (with_reducible refine LeO.ite ?_ ?_)
  | (with_reducible refine LeO.bind ?_ (fun _=>?_))
  | exact ih0 _ _ _ _ _ _
  | exact ih1 _ _ _ _ _ _ _ _ _ _ _ _ _ _ _
  | exact insolvencylaw35_awake.mono _
  | exact insolvencylaw35_same.mono _ _ _ _ _ _ _ _ _ _ _ _ _ _ _ _
  | exact LeO.none _
  | refine LeO.ite ?_ ?_
  | refine LeO.bind ?_ (fun _=>?_)
def insolvencylaw35_CodecEdges.Tail (r:Bool) (w wc:World) (g:Nat):Prop:=∃ (kq:Nat) (x0 x1 x2 x3 x4 x5:Int) (s:ByteArray) (A8:Option Addr) (c8:Nat) (l8:List S49) (A9:Option Addr) (c9:Nat) (l9:List S51) (A10:Option Addr) (c10:Nat) (l10:List S55),
 Aside0 (wc.heap[g]?=some (.cells #[.int .i64 x0,.int .i64 x1,.int .i64 x2,.int .i64 x3,.int .i64 x4,.int .i64 x5,.bool false,.string s,.string (⟨#[]⟩:ByteArray),.bool false,.string (⟨#[]⟩:ByteArray),.string (⟨#[]⟩:ByteArray),.slice A8 l8.length c8,.slice A9 l9.length c9,.slice A10 l10.length c10] 37 (0,0)))∧Aside0 (Kd.C k49 wc A8 l8.length l8∧l8.length≤c8)∧Aside0 (Kd.C k51 wc A9 l9.length l9∧l9.length≤c9)∧Aside0 (Kd.C k55 wc A10 l10.length l10∧l10.length≤c10)∧Aside0 ((((insolvencylaw35_awake.f kq).bind fun t448=>(if t448=true then ((insolvencylaw35_same.f kq x0 x1 x2 x3 x4 x5 false s (⟨#[]⟩:ByteArray) false (⟨#[]⟩:ByteArray) (⟨#[]⟩:ByteArray) l8 l9 l10).bind fun t449=>(some t449)) else (some false))))=some r)∧Aside0 (Below w.heap.size w wc)
set_option maxHeartbeats 8000000 in
set_option maxRecDepth 100000 in
theorem insolvencylaw35_CodecEdges.calls (k:Nat) (a0:Int) (a1:Int) (a2:Int) (a3:Int) (a4:Int) (a5:Int) (r:Bool) (w:World) (h:insolvencylaw35_CodecEdges.f k a0 a1 a2 a3 a4 a5=some r) :
 Calls Tryd.prog 6 #[.int .i8 a0,.int .u8 a1,.int .u8 a2,.int .u8 a3,.int .u16 a4,.int .u16 a5] w fun e w'=>e = .returned (.bool r)∧Below w.heap.size w w':=by
 have hu37:=Tryd.underlying37
 have hu49:=Tryd.underlying49
 have hu51:=Tryd.underlying51
 have hu55:=Tryd.underlying55
 have hu53:=Tryd.underlying53
 have HB:=Aside0.mk (Below.refl w.heap.size w)
 have H:(if (Int.tmod a0 2)=0 then (insolvencylaw35_CodecEdges.j0 k a1 a2 a3 a4 a5 (wrap64 (-(wrap64 (1125899906842624+(wrap64 (Int.tmod a0 3))))))) else (insolvencylaw35_CodecEdges.j0 k a1 a2 a3 a4 a5 (wrap64 (1125899906842624+(wrap64 (Int.tmod a0 3))))))=some r:=h
 clear h
 have HC7:=Aside0.mk H
 clear H
 go_enter Tryd.func6,Tryd.ntmps6
 go_upto_if 23 with (fail)
 go_cut [13] (fun v13 wc=>∃ (kq:Nat) (x13_6:Int),v13 = .int .i64 x13_6∧Aside0 (insolvencylaw35_CodecEdges.j0 kq a1 a2 a3 a4 a5 x13_6=some r)∧Aside0 (kq≤k)∧Aside0 (Below w.heap.size w wc))
 case first=>
  have H:=HC7.out
  clear HC7
  by_cases c8:(Int.tmod a0 2)=0
  ·rw [if_pos c8] at H
   have c8b0:((Int.tmod a0 2) == 0)=true:=beq_iff_eq.mpr c8
   clear c8
   have H':=Aside0.mk H
   clear H
   go_wp2
   go_meet
   case rel=>exact ⟨_,_,by first|rfl|(simp;done)|(simp [*];done),H',⟨Nat.le_refl _⟩,⟨HB.out⟩⟩
  ·rw [if_neg c8] at H
   have c8b0:((Int.tmod a0 2) == 0)=false:=beq_eq_false_iff_ne.mpr c8
   have H':=Aside0.mk H
   clear H
   go_wp2
   go_meet
   case rel=>exact ⟨_,_,by first|rfl|(simp;done)|(simp [*];done),H',⟨Nat.le_refl _⟩,⟨HB.out⟩⟩
 case rest=>
  clear HC7
  obtain ⟨kq,x13_6,rfl,HA,HJ6,HB⟩:=hcut
  cases kq with
  | zero=>exact absurd HA.out (by simp [insolvencylaw35_CodecEdges.j0])
  | succ kj6=>
   go_upto_region 5 with (first|((with_reducible refine gate_dst (N:=14) rfl ?_);refine box_event ?hg (N:=14) ?hd (cs:=#[.int .i64 0,.int .i64 0,.int .i64 0,.int .i64 0,.int .i64 0,.int .i64 0,.bool false,.string (⟨#[]⟩:ByteArray),.string (⟨#[]⟩:ByteArray),.bool false,.string (⟨#[]⟩:ByteArray),.string (⟨#[]⟩:ByteArray),.slice none 0 0,.slice none 0 0,.slice none 0 0]) (t:=37) ?hr ?_;(case hd=>rfl);(case hg=>rfl);(case hr=>first|(go_simp;done)|(go_simp;rfl));intro gb hg w1 hbox hb;have n0_:=Aside0.mk (below_step HB.out hb);have n1_:=Aside0.mk hbox;have n2_:=Aside0.mk ((by rw [hg];exact (below_size HB.out)):w.heap.size≤gb);clear HB hb hbox hg;have HB:=n0_;have BK1:=n1_;have GE:=n2_;clear n0_ n1_ n2_;have hcz0:w1.cell? ⟨gb,0,none⟩=some (.int .i64 0):=(blk_cell BK1.out 0).trans rfl;have hfz0:=blk_frozen BK1.out 0;have hcz1:w1.cell? ⟨gb,1,none⟩=some (.int .i64 0):=(blk_cell BK1.out 1).trans rfl;have hfz1:=blk_frozen BK1.out 1;have hcz2:w1.cell? ⟨gb,2,none⟩=some (.int .i64 0):=(blk_cell BK1.out 2).trans rfl;have hfz2:=blk_frozen BK1.out 2;have hcz3:w1.cell? ⟨gb,3,none⟩=some (.int .i64 0):=(blk_cell BK1.out 3).trans rfl;have hfz3:=blk_frozen BK1.out 3;have hcz4:w1.cell? ⟨gb,4,none⟩=some (.int .i64 0):=(blk_cell BK1.out 4).trans rfl;have hfz4:=blk_frozen BK1.out 4;have hcz5:w1.cell? ⟨gb,5,none⟩=some (.int .i64 0):=(blk_cell BK1.out 5).trans rfl;have hfz5:=blk_frozen BK1.out 5;have hcz6:w1.cell? ⟨gb,6,none⟩=some (.bool false):=(blk_cell BK1.out 6).trans rfl;have hfz6:=blk_frozen BK1.out 6;have hcz7:w1.cell? ⟨gb,7,none⟩=some (.string (⟨#[]⟩:ByteArray)):=(blk_cell BK1.out 7).trans rfl;have hfz7:=blk_frozen BK1.out 7;have hcz8:w1.cell? ⟨gb,8,none⟩=some (.string (⟨#[]⟩:ByteArray)):=(blk_cell BK1.out 8).trans rfl;have hfz8:=blk_frozen BK1.out 8;have hcz9:w1.cell? ⟨gb,9,none⟩=some (.bool false):=(blk_cell BK1.out 9).trans rfl;have hfz9:=blk_frozen BK1.out 9;have hcz10:w1.cell? ⟨gb,10,none⟩=some (.string (⟨#[]⟩:ByteArray)):=(blk_cell BK1.out 10).trans rfl;have hfz10:=blk_frozen BK1.out 10;have hcz11:w1.cell? ⟨gb,11,none⟩=some (.string (⟨#[]⟩:ByteArray)):=(blk_cell BK1.out 11).trans rfl;have hfz11:=blk_frozen BK1.out 11;have hcz12:w1.cell? ⟨gb,12,none⟩=some (.slice none 0 0):=(blk_cell BK1.out 12).trans rfl;have hfz12:=blk_frozen BK1.out 12;have hcz13:w1.cell? ⟨gb,13,none⟩=some (.slice none 0 0):=(blk_cell BK1.out 13).trans rfl;have hfz13:=blk_frozen BK1.out 13;have hcz14:w1.cell? ⟨gb,14,none⟩=some (.slice none 0 0):=(blk_cell BK1.out 14).trans rfl;have hfz14:=blk_frozen BK1.out 14))
   generalize hW:World.setCell _ _ _=w2
   have HB2:=Aside0.mk (show Below w.heap.size w w2 by
    rw [← hW]
    repeat (first|(with_reducible exact HB.out)|refine below_set ?_ GE.out))
   have BK:=Aside0.mk (show w2.heap[gb]?=some (.cells #[.int .i64 0,.int .i64 0,.int .i64 0,.int .i64 0,.int .i64 0,.int .i64 0,.bool false,.string (⟨#[]⟩:ByteArray),.string (⟨#[]⟩:ByteArray),.bool false,.string (⟨#[]⟩:ByteArray),.string (⟨#[]⟩:ByteArray),.slice none 0 0,.slice none 0 0,.slice none 0 0] 37 (0,0)) by
    rw [← hW]
    repeat (first|(with_reducible exact BK1.out)|refine blk_put (cs:=#[.int .i64 0,.int .i64 0,.int .i64 0,.int .i64 0,.int .i64 0,.int .i64 0,.bool false,.string (⟨#[]⟩:ByteArray),.string (⟨#[]⟩:ByteArray),.bool false,.string (⟨#[]⟩:ByteArray),.string (⟨#[]⟩:ByteArray),.slice none 0 0,.slice none 0 0,.slice none 0 0]) ?_ _ _ rfl))
   clear hW HB BK1 hcz0 hfz0 hcz1 hfz1 hcz2 hfz2 hcz3 hfz3 hcz4 hfz4 hcz5 hfz5 hcz6 hfz6 hcz7 hfz7 hcz8 hfz8 hcz9 hfz9 hcz10 hfz10 hcz11 hfz11 hcz12 hfz12 hcz13 hfz13 hcz14 hfz14
   have HB:=HB2
   clear HB2
   iterate 10 go_step
   go_cut [15] from 16 (fun v15 wc=>insolvencylaw35_CodecEdges.Tail r w wc gb)
   case first=>
    have H:=HA.out
    clear HA
    simp only [insolvencylaw35_CodecEdges.j0] at H
    by_cases c20:(Int.tmod a1 12)=0
    ·rw [if_pos c20] at H
     have cb0:((Int.tmod a1 12) == 0)=true:=beq_iff_eq.mpr c20
     clear c20
     have H':=Aside0.mk H
     clear H
     have hcz:w2.cell? ⟨gb,0,none⟩=some (.int .i64 0):=(blk_cell BK.out 0).trans rfl
     have hfz:=blk_frozen BK.out 0
     go_wp2
     go_meet
     case rel=>exact ⟨_,x13_6,0,0,0,0,0,(⟨#[]⟩:ByteArray),none,0,[],none,0,[],none,0,[],⟨blk_put (cs:=#[.int .i64 0,.int .i64 0,.int .i64 0,.int .i64 0,.int .i64 0,.int .i64 0,.bool false,.string (⟨#[]⟩:ByteArray),.string (⟨#[]⟩:ByteArray),.bool false,.string (⟨#[]⟩:ByteArray),.string (⟨#[]⟩:ByteArray),.slice none 0 0,.slice none 0 0,.slice none 0 0]) BK.out 0 _ rfl⟩,⟨Kd.C_nil _ _,Nat.le_refl _⟩,⟨Kd.C_nil _ _,Nat.le_refl _⟩,⟨Kd.C_nil _ _,Nat.le_refl _⟩,⟨H'.out⟩,⟨below_set HB.out GE.out⟩⟩
    rw [if_neg c20] at H
    have cb20:((Int.tmod a1 12) == 0)=false:=beq_eq_false_iff_ne.mpr c20
    clear c20
    by_cases c21:(Int.tmod a1 12)=1
    ·rw [if_pos c21] at H
     have cb0:((Int.tmod a1 12) == 1)=true:=beq_iff_eq.mpr c21
     clear c21
     have H':=Aside0.mk H
     clear H
     have hcz:w2.cell? ⟨gb,2,none⟩=some (.int .i64 0):=(blk_cell BK.out 2).trans rfl
     have hfz:=blk_frozen BK.out 2
     go_wp2
     go_meet
     case rel=>exact ⟨_,0,0,x13_6,0,0,0,(⟨#[]⟩:ByteArray),none,0,[],none,0,[],none,0,[],⟨blk_put (cs:=#[.int .i64 0,.int .i64 0,.int .i64 0,.int .i64 0,.int .i64 0,.int .i64 0,.bool false,.string (⟨#[]⟩:ByteArray),.string (⟨#[]⟩:ByteArray),.bool false,.string (⟨#[]⟩:ByteArray),.string (⟨#[]⟩:ByteArray),.slice none 0 0,.slice none 0 0,.slice none 0 0]) BK.out 2 _ rfl⟩,⟨Kd.C_nil _ _,Nat.le_refl _⟩,⟨Kd.C_nil _ _,Nat.le_refl _⟩,⟨Kd.C_nil _ _,Nat.le_refl _⟩,⟨H'.out⟩,⟨below_set HB.out GE.out⟩⟩
    rw [if_neg c21] at H
    have cb21:((Int.tmod a1 12) == 1)=false:=beq_eq_false_iff_ne.mpr c21
    clear c21
    by_cases c22:(Int.tmod a1 12)=2
    ·rw [if_pos c22] at H
     have cb0:((Int.tmod a1 12) == 2)=true:=beq_iff_eq.mpr c22
     clear c22
     have H':=Aside0.mk H
     clear H
     have hcz:w2.cell? ⟨gb,5,none⟩=some (.int .i64 0):=(blk_cell BK.out 5).trans rfl
     have hfz:=blk_frozen BK.out 5
     go_wp2
     go_meet
     case rel=>exact ⟨_,0,0,0,0,0,x13_6,(⟨#[]⟩:ByteArray),none,0,[],none,0,[],none,0,[],⟨blk_put (cs:=#[.int .i64 0,.int .i64 0,.int .i64 0,.int .i64 0,.int .i64 0,.int .i64 0,.bool false,.string (⟨#[]⟩:ByteArray),.string (⟨#[]⟩:ByteArray),.bool false,.string (⟨#[]⟩:ByteArray),.string (⟨#[]⟩:ByteArray),.slice none 0 0,.slice none 0 0,.slice none 0 0]) BK.out 5 _ rfl⟩,⟨Kd.C_nil _ _,Nat.le_refl _⟩,⟨Kd.C_nil _ _,Nat.le_refl _⟩,⟨Kd.C_nil _ _,Nat.le_refl _⟩,⟨H'.out⟩,⟨below_set HB.out GE.out⟩⟩
    rw [if_neg c22] at H
    have cb22:((Int.tmod a1 12) == 2)=false:=beq_eq_false_iff_ne.mpr c22
    clear c22
    by_cases c23:(Int.tmod a1 12)=3
    ·rw [if_pos c23] at H
     have cb0:((Int.tmod a1 12) == 3)=true:=beq_iff_eq.mpr c23
     clear c23
     obtain ⟨y,hy⟩:∃ y_:List (S49),y_=([(⟨0,x13_6⟩:S49)]:List (S49)):=⟨_,rfl⟩
     replace H:((insolvencylaw35_awake.f kj6).bind fun t448=>(if t448=true then ((insolvencylaw35_same.f kj6 0 0 0 0 0 0 false (⟨#[]⟩:ByteArray) (⟨#[]⟩:ByteArray) false (⟨#[]⟩:ByteArray) (⟨#[]⟩:ByteArray) y ([]:List (S51)) ([]:List (S55))).bind fun t449=>(some t449)) else (some false)))=some r:=by rw [hy];exact H
     have H':=Aside0.mk H
     clear H
     have Ny:=Aside0.mk hy
     clear hy
     go_wp2_with (first|((with_reducible refine gate_dst (N:=48) rfl ?_);refine Kd.R_lit k49 _ 49 ?hg (N:=48) ?hd (xs:=([(⟨0,x13_6⟩:S49)]:List (S49))) (inner:=[.int .i64 0,.int .i64 x13_6]) (ok:=fun _=>True) (okp:=fun _=>True) ?hr ?hp (fun _ hk=>hk) trivial (Below.refl _ _) (Nat.le_refl _) (by simp) ?_;(case hd=>rfl);(case hg=>rfl);(case hr=>first|(go_simp;done)|(go_simp;rfl));(case hp=>exact (Reps.c2 (show Kd.M k49 _ _ _ (⟨0,x13_6⟩:S49) [.int .i64 0,.int .i64 x13_6] from (k49_mkM _ _ _ (⟨0,x13_6⟩:S49) )) (Reps.none _ _)));intro v455 w51 ho52 hb hg_ hnew_;clear hg_ hnew_;(first|rw [← Ny.out] at ho52|(simp only [Int.reduceToNat] at ho52;rw [← Ny.out] at ho52));have HO:=Aside0.mk (Kd.R_lower ho52 (below_size HB.out));have BK2:=Aside0.mk (blk_below BK.out hb);have HB2:=Aside0.mk (below_step HB.out hb);clear hb ho52 BK HB;have BK:=BK2;have HB:=HB2;clear BK2 HB2;obtain ⟨Ao53,co53,eo53⟩:=Kd.R_slice HO.out;subst eo53;have hcz:w51.cell? ⟨gb,12,none⟩=some (.slice none 0 0):=(blk_cell BK.out 12).trans rfl;have hfz:=blk_frozen BK.out 12))
     go_meet
     have HR:=Kd.R_mono (Kd.R_far (p:=⟨gb,12,none⟩) (Kd.R_types HO.out BK.out (by decide)) (fun _ hk=>hk.2) (.slice Ao53 y.length co53)) (fun _ h_=>h_.1)
     case rel=>exact ⟨_,0,0,0,0,0,0,(⟨#[]⟩:ByteArray),_,_,y,none,0,[],none,0,[],⟨blk_put (cs:=#[.int .i64 0,.int .i64 0,.int .i64 0,.int .i64 0,.int .i64 0,.int .i64 0,.bool false,.string (⟨#[]⟩:ByteArray),.string (⟨#[]⟩:ByteArray),.bool false,.string (⟨#[]⟩:ByteArray),.string (⟨#[]⟩:ByteArray),.slice none 0 0,.slice none 0 0,.slice none 0 0]) BK.out 12 _ rfl⟩,⟨(Kd.R_reads' HR).2.2,(Kd.R_reads' HR).2.1⟩,⟨Kd.C_nil _ _,Nat.le_refl _⟩,⟨Kd.C_nil _ _,Nat.le_refl _⟩,⟨H'.out⟩,⟨below_set HB.out GE.out⟩⟩
    rw [if_neg c23] at H
    have cb23:((Int.tmod a1 12) == 3)=false:=beq_eq_false_iff_ne.mpr c23
    clear c23
    by_cases c24:(Int.tmod a1 12)=4
    ·rw [if_pos c24] at H
     have cb0:((Int.tmod a1 12) == 4)=true:=beq_iff_eq.mpr c24
     clear c24
     obtain ⟨y,hy⟩:∃ y_:List (S51),y_=([(⟨(⟨false,(⟨#[]⟩:ByteArray),(⟨#[]⟩:ByteArray)⟩:S30),x13_6⟩:S51)]:List (S51)):=⟨_,rfl⟩
     replace H:((insolvencylaw35_awake.f kj6).bind fun t448=>(if t448=true then ((insolvencylaw35_same.f kj6 0 0 0 0 0 0 false (⟨#[]⟩:ByteArray) (⟨#[]⟩:ByteArray) false (⟨#[]⟩:ByteArray) (⟨#[]⟩:ByteArray) ([]:List (S49)) y ([]:List (S55))).bind fun t449=>(some t449)) else (some false)))=some r:=by rw [hy];exact H
     have H':=Aside0.mk H
     clear H
     have Ny:=Aside0.mk hy
     clear hy
     go_wp2_with (first|((with_reducible refine gate_dst (N:=55) rfl ?_);refine Kd.R_lit k51 _ 51 ?hg (N:=55) ?hd (xs:=([(⟨(⟨false,(⟨#[]⟩:ByteArray),(⟨#[]⟩:ByteArray)⟩:S30),x13_6⟩:S51)]:List (S51))) (inner:=[.bool false,.string (⟨#[]⟩:ByteArray),.string (⟨#[]⟩:ByteArray),.int .i64 x13_6]) (ok:=fun _=>True) (okp:=fun _=>True) ?hr ?hp (fun _ hk=>hk) trivial (Below.refl _ _) (Nat.le_refl _) (by simp) ?_;(case hd=>rfl);(case hg=>rfl);(case hr=>first|(go_simp;done)|(go_simp;rfl));(case hp=>exact (Reps.c4 (show Kd.M k51 _ _ _ (⟨(⟨false,(⟨#[]⟩:ByteArray),(⟨#[]⟩:ByteArray)⟩:S30),x13_6⟩:S51) [.bool false,.string (⟨#[]⟩:ByteArray),.string (⟨#[]⟩:ByteArray),.int .i64 x13_6] from (k51_mkM _ _ _ (⟨(⟨false,(⟨#[]⟩:ByteArray),(⟨#[]⟩:ByteArray)⟩:S30),x13_6⟩:S51) )) (Reps.none _ _)));intro v455 w51 ho52 hb hg_ hnew_;clear hg_ hnew_;(first|rw [← Ny.out] at ho52|(simp only [Int.reduceToNat] at ho52;rw [← Ny.out] at ho52));have HO:=Aside0.mk (Kd.R_lower ho52 (below_size HB.out));have BK2:=Aside0.mk (blk_below BK.out hb);have HB2:=Aside0.mk (below_step HB.out hb);clear hb ho52 BK HB;have BK:=BK2;have HB:=HB2;clear BK2 HB2;obtain ⟨Ao53,co53,eo53⟩:=Kd.R_slice HO.out;subst eo53;have hcz:w51.cell? ⟨gb,13,none⟩=some (.slice none 0 0):=(blk_cell BK.out 13).trans rfl;have hfz:=blk_frozen BK.out 13))
     go_meet
     have HR:=Kd.R_mono (Kd.R_far (p:=⟨gb,13,none⟩) (Kd.R_types HO.out BK.out (by decide)) (fun _ hk=>hk.2) (.slice Ao53 y.length co53)) (fun _ h_=>h_.1)
     case rel=>exact ⟨_,0,0,0,0,0,0,(⟨#[]⟩:ByteArray),none,0,[],_,_,y,none,0,[],⟨blk_put (cs:=#[.int .i64 0,.int .i64 0,.int .i64 0,.int .i64 0,.int .i64 0,.int .i64 0,.bool false,.string (⟨#[]⟩:ByteArray),.string (⟨#[]⟩:ByteArray),.bool false,.string (⟨#[]⟩:ByteArray),.string (⟨#[]⟩:ByteArray),.slice none 0 0,.slice none 0 0,.slice none 0 0]) BK.out 13 _ rfl⟩,⟨Kd.C_nil _ _,Nat.le_refl _⟩,⟨(Kd.R_reads' HR).2.2,(Kd.R_reads' HR).2.1⟩,⟨Kd.C_nil _ _,Nat.le_refl _⟩,⟨H'.out⟩,⟨below_set HB.out GE.out⟩⟩
    rw [if_neg c24] at H
    have cb24:((Int.tmod a1 12) == 4)=false:=beq_eq_false_iff_ne.mpr c24
    clear c24
    by_cases c25:(Int.tmod a1 12)=5
    ·rw [if_pos c25] at H
     have cb0:((Int.tmod a1 12) == 5)=true:=beq_iff_eq.mpr c25
     clear c25
     obtain ⟨y,hy⟩:∃ y_:List (S55),y_=([(⟨(⟨0,(⟨0,0⟩:S49)⟩:S53),x13_6⟩:S55)]:List (S55)):=⟨_,rfl⟩
     replace H:((insolvencylaw35_awake.f kj6).bind fun t448=>(if t448=true then ((insolvencylaw35_same.f kj6 0 0 0 0 0 0 false (⟨#[]⟩:ByteArray) (⟨#[]⟩:ByteArray) false (⟨#[]⟩:ByteArray) (⟨#[]⟩:ByteArray) ([]:List (S49)) ([]:List (S51)) y).bind fun t449=>(some t449)) else (some false)))=some r:=by rw [hy];exact H
     have H':=Aside0.mk H
     clear H
     have Ny:=Aside0.mk hy
     clear hy
     go_wp2_with (first|((with_reducible refine gate_dst (N:=62) rfl ?_);refine Kd.R_lit k55 _ 55 ?hg (N:=62) ?hd (xs:=([(⟨(⟨0,(⟨0,0⟩:S49)⟩:S53),x13_6⟩:S55)]:List (S55))) (inner:=[.int .i64 0,.int .i64 0,.int .i64 0,.int .i64 x13_6]) (ok:=fun _=>True) (okp:=fun _=>True) ?hr ?hp (fun _ hk=>hk) trivial (Below.refl _ _) (Nat.le_refl _) (by simp) ?_;(case hd=>rfl);(case hg=>rfl);(case hr=>first|(go_simp;done)|(go_simp;rfl));(case hp=>exact (Reps.c4 (show Kd.M k55 _ _ _ (⟨(⟨0,(⟨0,0⟩:S49)⟩:S53),x13_6⟩:S55) [.int .i64 0,.int .i64 0,.int .i64 0,.int .i64 x13_6] from (k55_mkM _ _ _ (⟨(⟨0,(⟨0,0⟩:S49)⟩:S53),x13_6⟩:S55) )) (Reps.none _ _)));intro v455 w51 ho52 hb hg_ hnew_;clear hg_ hnew_;(first|rw [← Ny.out] at ho52|(simp only [Int.reduceToNat] at ho52;rw [← Ny.out] at ho52));have HO:=Aside0.mk (Kd.R_lower ho52 (below_size HB.out));have BK2:=Aside0.mk (blk_below BK.out hb);have HB2:=Aside0.mk (below_step HB.out hb);clear hb ho52 BK HB;have BK:=BK2;have HB:=HB2;clear BK2 HB2;obtain ⟨Ao53,co53,eo53⟩:=Kd.R_slice HO.out;subst eo53;have hcz:w51.cell? ⟨gb,14,none⟩=some (.slice none 0 0):=(blk_cell BK.out 14).trans rfl;have hfz:=blk_frozen BK.out 14))
     go_meet
     have HR:=Kd.R_mono (Kd.R_far (p:=⟨gb,14,none⟩) (Kd.R_types HO.out BK.out (by decide)) (fun _ hk=>hk.2) (.slice Ao53 y.length co53)) (fun _ h_=>h_.1)
     case rel=>exact ⟨_,0,0,0,0,0,0,(⟨#[]⟩:ByteArray),none,0,[],none,0,[],_,_,y,⟨blk_put (cs:=#[.int .i64 0,.int .i64 0,.int .i64 0,.int .i64 0,.int .i64 0,.int .i64 0,.bool false,.string (⟨#[]⟩:ByteArray),.string (⟨#[]⟩:ByteArray),.bool false,.string (⟨#[]⟩:ByteArray),.string (⟨#[]⟩:ByteArray),.slice none 0 0,.slice none 0 0,.slice none 0 0]) BK.out 14 _ rfl⟩,⟨Kd.C_nil _ _,Nat.le_refl _⟩,⟨Kd.C_nil _ _,Nat.le_refl _⟩,⟨(Kd.R_reads' HR).2.2,(Kd.R_reads' HR).2.1⟩,⟨H'.out⟩,⟨below_set HB.out GE.out⟩⟩
    rw [if_neg c25] at H
    have cb25:((Int.tmod a1 12) == 5)=false:=beq_eq_false_iff_ne.mpr c25
    clear c25
    by_cases c26:(Int.tmod a1 12)=6
    ·rw [if_pos c26] at H
     have cb0:((Int.tmod a1 12) == 6)=true:=beq_iff_eq.mpr c26
     clear c26
     obtain ⟨y,hy⟩:∃ y_:List (S55),y_=([(⟨(⟨x13_6,(⟨0,0⟩:S49)⟩:S53),0⟩:S55)]:List (S55)):=⟨_,rfl⟩
     replace H:((insolvencylaw35_awake.f kj6).bind fun t448=>(if t448=true then ((insolvencylaw35_same.f kj6 0 0 0 0 0 0 false (⟨#[]⟩:ByteArray) (⟨#[]⟩:ByteArray) false (⟨#[]⟩:ByteArray) (⟨#[]⟩:ByteArray) ([]:List (S49)) ([]:List (S51)) y).bind fun t449=>(some t449)) else (some false)))=some r:=by rw [hy];exact H
     have H':=Aside0.mk H
     clear H
     have Ny:=Aside0.mk hy
     clear hy
     go_wp2_with (first|((with_reducible refine gate_dst (N:=69) rfl ?_);refine Kd.R_lit k55 _ 55 ?hg (N:=69) ?hd (xs:=([(⟨(⟨x13_6,(⟨0,0⟩:S49)⟩:S53),0⟩:S55)]:List (S55))) (inner:=[.int .i64 x13_6,.int .i64 0,.int .i64 0,.int .i64 0]) (ok:=fun _=>True) (okp:=fun _=>True) ?hr ?hp (fun _ hk=>hk) trivial (Below.refl _ _) (Nat.le_refl _) (by simp) ?_;(case hd=>rfl);(case hg=>rfl);(case hr=>first|(go_simp;done)|(go_simp;rfl));(case hp=>exact (Reps.c4 (show Kd.M k55 _ _ _ (⟨(⟨x13_6,(⟨0,0⟩:S49)⟩:S53),0⟩:S55) [.int .i64 x13_6,.int .i64 0,.int .i64 0,.int .i64 0] from (k55_mkM _ _ _ (⟨(⟨x13_6,(⟨0,0⟩:S49)⟩:S53),0⟩:S55) )) (Reps.none _ _)));intro v455 w51 ho52 hb hg_ hnew_;clear hg_ hnew_;(first|rw [← Ny.out] at ho52|(simp only [Int.reduceToNat] at ho52;rw [← Ny.out] at ho52));have HO:=Aside0.mk (Kd.R_lower ho52 (below_size HB.out));have BK2:=Aside0.mk (blk_below BK.out hb);have HB2:=Aside0.mk (below_step HB.out hb);clear hb ho52 BK HB;have BK:=BK2;have HB:=HB2;clear BK2 HB2;obtain ⟨Ao53,co53,eo53⟩:=Kd.R_slice HO.out;subst eo53;have hcz:w51.cell? ⟨gb,14,none⟩=some (.slice none 0 0):=(blk_cell BK.out 14).trans rfl;have hfz:=blk_frozen BK.out 14))
     go_meet
     have HR:=Kd.R_mono (Kd.R_far (p:=⟨gb,14,none⟩) (Kd.R_types HO.out BK.out (by decide)) (fun _ hk=>hk.2) (.slice Ao53 y.length co53)) (fun _ h_=>h_.1)
     case rel=>exact ⟨_,0,0,0,0,0,0,(⟨#[]⟩:ByteArray),none,0,[],none,0,[],_,_,y,⟨blk_put (cs:=#[.int .i64 0,.int .i64 0,.int .i64 0,.int .i64 0,.int .i64 0,.int .i64 0,.bool false,.string (⟨#[]⟩:ByteArray),.string (⟨#[]⟩:ByteArray),.bool false,.string (⟨#[]⟩:ByteArray),.string (⟨#[]⟩:ByteArray),.slice none 0 0,.slice none 0 0,.slice none 0 0]) BK.out 14 _ rfl⟩,⟨Kd.C_nil _ _,Nat.le_refl _⟩,⟨Kd.C_nil _ _,Nat.le_refl _⟩,⟨(Kd.R_reads' HR).2.2,(Kd.R_reads' HR).2.1⟩,⟨H'.out⟩,⟨below_set HB.out GE.out⟩⟩
    rw [if_neg c26] at H
    have cb26:((Int.tmod a1 12) == 6)=false:=beq_eq_false_iff_ne.mpr c26
    clear c26
    by_cases c27:(Int.tmod a1 12)=7
    ·rw [if_pos c27] at H
     have cb0:((Int.tmod a1 12) == 7)=true:=beq_iff_eq.mpr c27
     clear c27
     obtain ⟨ji,hji⟩:∃ j_:Int,(wrap64 (Int.tmod a2 12))=j_:=⟨_,rfl⟩
     rw [hji] at H
     have hjiw:(IntKind.i64.wrap (Int.tmod a2 12))=ji:=(i64_w _).trans hji
     by_cases d1:0≤ji
     ·rw [if_pos d1] at H
      have d1b0:=eq_true d1
      have d1b1:decide (0≤ji)=true:=decide_eq_true d1
      clear d1
      by_cases d2:(ji:Int).toNat≤17592186044416
      ·rw [if_pos d2] at H
       have d2b0:=eq_true d2
       have d2b1:decide ((ji:Int).toNat≤17592186044416)=true:=decide_eq_true d2
       clear d2
       obtain ⟨y,hy⟩:∃ y_:List (S49),y_=(List.replicate (ji:Int).toNat z49):=⟨_,rfl⟩
       rw [← hy] at H
       have H':=Aside0.mk H
       clear H
       have Ny:=Aside0.mk hy
       clear hy
       go_wp2_with (first|((with_reducible refine gate_dst (N:=76) rfl ?_);refine Kd.R_make k49 _ 49 rfl (N:=76) rfl 31 _ _ rfl ji rfl rfl Tryd.underlying31 (.agg #[(.int .i64 0),(.int .i64 0)]) 16 info49 rfl (by decide) (by omega) z49 (ok:=fun _=>True) (okp:=fun _=>True) (k49_mkM _ _ _ z49 ) (fun _ hk=>hk) trivial (of_decide_eq_true (by first|(with_reducible assumption)|assumption)) (Nat.le_trans (Nat.mul_le_mul_right _ (of_decide_eq_true (by first|(with_reducible assumption)|assumption):ji.toNat≤17592186044416)) (by omega)) (Below.refl _ _) (Nat.le_refl _) ?_;intro v475 w51 ho135 hb hg_ hnew_;clear hg_ hnew_;(first|rw [← Ny.out] at ho135|(simp only [Int.reduceToNat] at ho135;rw [← Ny.out] at ho135));have HO:=Aside0.mk (Kd.R_lower ho135 (below_size HB.out));have BK2:=Aside0.mk (blk_below BK.out hb);have HB2:=Aside0.mk (below_step HB.out hb);clear hb ho135 BK HB;have BK:=BK2;have HB:=HB2;clear BK2 HB2;obtain ⟨Ao53,co53,eo53⟩:=Kd.R_slice HO.out;subst eo53;have hcz:w51.cell? ⟨gb,12,none⟩=some (.slice none 0 0):=(blk_cell BK.out 12).trans rfl;have hfz:=blk_frozen BK.out 12))
       go_meet
       have HR:=Kd.R_mono (Kd.R_far (p:=⟨gb,12,none⟩) (Kd.R_types HO.out BK.out (by decide)) (fun _ hk=>hk.2) (.slice Ao53 y.length co53)) (fun _ h_=>h_.1)
       case rel=>exact ⟨_,0,0,0,0,0,0,(⟨#[]⟩:ByteArray),_,_,y,none,0,[],none,0,[],⟨blk_put (cs:=#[.int .i64 0,.int .i64 0,.int .i64 0,.int .i64 0,.int .i64 0,.int .i64 0,.bool false,.string (⟨#[]⟩:ByteArray),.string (⟨#[]⟩:ByteArray),.bool false,.string (⟨#[]⟩:ByteArray),.string (⟨#[]⟩:ByteArray),.slice none 0 0,.slice none 0 0,.slice none 0 0]) BK.out 12 _ rfl⟩,⟨(Kd.R_reads' HR).2.2,(Kd.R_reads' HR).2.1⟩,⟨Kd.C_nil _ _,Nat.le_refl _⟩,⟨Kd.C_nil _ _,Nat.le_refl _⟩,⟨H'.out⟩,⟨below_set HB.out GE.out⟩⟩
      ·rw [if_neg d2] at H
       cases H
     ·rw [if_neg d1] at H
      cases H
    rw [if_neg c27] at H
    have cb27:((Int.tmod a1 12) == 7)=false:=beq_eq_false_iff_ne.mpr c27
    clear c27
    by_cases c28:(Int.tmod a1 12)=8
    ·rw [if_pos c28] at H
     have cb0:((Int.tmod a1 12) == 8)=true:=beq_iff_eq.mpr c28
     clear c28
     obtain ⟨ji,hji⟩:∃ j_:Int,(wrap64 (Int.tmod a3 8))=j_:=⟨_,rfl⟩
     rw [hji] at H
     have hjiw:(IntKind.i64.wrap (Int.tmod a3 8))=ji:=(i64_w _).trans hji
     by_cases d1:0≤ji
     ·rw [if_pos d1] at H
      have d1b0:=eq_true d1
      have d1b1:decide (0≤ji)=true:=decide_eq_true d1
      clear d1
      by_cases d2:(ji:Int).toNat≤5864062014805
      ·rw [if_pos d2] at H
       have d2b0:=eq_true d2
       have d2b1:decide ((ji:Int).toNat≤5864062014805)=true:=decide_eq_true d2
       clear d2
       obtain ⟨y,hy⟩:∃ y_:List (S51),y_=(List.replicate (ji:Int).toNat z51):=⟨_,rfl⟩
       rw [← hy] at H
       have H':=Aside0.mk H
       clear H
       have Ny:=Aside0.mk hy
       clear hy
       go_wp2_with (first|((with_reducible refine gate_dst (N:=84) rfl ?_);refine Kd.R_make k51 _ 51 rfl (N:=84) rfl 32 _ _ rfl ji rfl rfl Tryd.underlying32 (.agg #[(.bool false),(.string ⟨#[]⟩),(.string ⟨#[]⟩),(.int .i64 0)]) 48 info51 rfl (by decide) (by omega) z51 (ok:=fun _=>True) (okp:=fun _=>True) (k51_mkM _ _ _ z51 ) (fun _ hk=>hk) trivial (of_decide_eq_true (by first|(with_reducible assumption)|assumption)) (Nat.le_trans (Nat.mul_le_mul_right _ (of_decide_eq_true (by first|(with_reducible assumption)|assumption):ji.toNat≤5864062014805)) (by omega)) (Below.refl _ _) (Nat.le_refl _) ?_;intro v475 w51 ho135 hb hg_ hnew_;clear hg_ hnew_;(first|rw [← Ny.out] at ho135|(simp only [Int.reduceToNat] at ho135;rw [← Ny.out] at ho135));have HO:=Aside0.mk (Kd.R_lower ho135 (below_size HB.out));have BK2:=Aside0.mk (blk_below BK.out hb);have HB2:=Aside0.mk (below_step HB.out hb);clear hb ho135 BK HB;have BK:=BK2;have HB:=HB2;clear BK2 HB2;obtain ⟨Ao53,co53,eo53⟩:=Kd.R_slice HO.out;subst eo53;have hcz:w51.cell? ⟨gb,13,none⟩=some (.slice none 0 0):=(blk_cell BK.out 13).trans rfl;have hfz:=blk_frozen BK.out 13))
       go_meet
       have HR:=Kd.R_mono (Kd.R_far (p:=⟨gb,13,none⟩) (Kd.R_types HO.out BK.out (by decide)) (fun _ hk=>hk.2) (.slice Ao53 y.length co53)) (fun _ h_=>h_.1)
       case rel=>exact ⟨_,0,0,0,0,0,0,(⟨#[]⟩:ByteArray),none,0,[],_,_,y,none,0,[],⟨blk_put (cs:=#[.int .i64 0,.int .i64 0,.int .i64 0,.int .i64 0,.int .i64 0,.int .i64 0,.bool false,.string (⟨#[]⟩:ByteArray),.string (⟨#[]⟩:ByteArray),.bool false,.string (⟨#[]⟩:ByteArray),.string (⟨#[]⟩:ByteArray),.slice none 0 0,.slice none 0 0,.slice none 0 0]) BK.out 13 _ rfl⟩,⟨Kd.C_nil _ _,Nat.le_refl _⟩,⟨(Kd.R_reads' HR).2.2,(Kd.R_reads' HR).2.1⟩,⟨Kd.C_nil _ _,Nat.le_refl _⟩,⟨H'.out⟩,⟨below_set HB.out GE.out⟩⟩
      ·rw [if_neg d2] at H
       cases H
     ·rw [if_neg d1] at H
      cases H
    rw [if_neg c28] at H
    have cb28:((Int.tmod a1 12) == 8)=false:=beq_eq_false_iff_ne.mpr c28
    clear c28
    by_cases c29:(Int.tmod a1 12)=9
    ·rw [if_pos c29] at H
     have cb0:((Int.tmod a1 12) == 9)=true:=beq_iff_eq.mpr c29
     clear c29
     obtain ⟨ji,hji⟩:∃ j_:Int,(wrap64 (Int.tmod a4 300))=j_:=⟨_,rfl⟩
     rw [hji] at H
     have hjiw:(IntKind.i64.wrap (Int.tmod a4 300))=ji:=(i64_w _).trans hji
     by_cases d1:0≤ji
     ·rw [if_pos d1] at H
      have d1b0:=eq_true d1
      have d1b1:decide (0≤ji)=true:=decide_eq_true d1
      clear d1
      by_cases d2:(ji:Int).toNat≤8796093022208
      ·rw [if_pos d2] at H
       have d2b0:=eq_true d2
       have d2b1:decide ((ji:Int).toNat≤8796093022208)=true:=decide_eq_true d2
       clear d2
       obtain ⟨y,hy⟩:∃ y_:List (S55),y_=(List.replicate (ji:Int).toNat z55):=⟨_,rfl⟩
       rw [← hy] at H
       have H':=Aside0.mk H
       clear H
       have Ny:=Aside0.mk hy
       clear hy
       go_wp2_with (first|((with_reducible refine gate_dst (N:=92) rfl ?_);refine Kd.R_make k55 _ 55 rfl (N:=92) rfl 35 _ _ rfl ji rfl rfl Tryd.underlying35 (.agg #[(.int .i64 0),(.int .i64 0),(.int .i64 0),(.int .i64 0)]) 32 info55 rfl (by decide) (by omega) z55 (ok:=fun _=>True) (okp:=fun _=>True) (k55_mkM _ _ _ z55 ) (fun _ hk=>hk) trivial (of_decide_eq_true (by first|(with_reducible assumption)|assumption)) (Nat.le_trans (Nat.mul_le_mul_right _ (of_decide_eq_true (by first|(with_reducible assumption)|assumption):ji.toNat≤8796093022208)) (by omega)) (Below.refl _ _) (Nat.le_refl _) ?_;intro v475 w51 ho135 hb hg_ hnew_;clear hg_ hnew_;(first|rw [← Ny.out] at ho135|(simp only [Int.reduceToNat] at ho135;rw [← Ny.out] at ho135));have HO:=Aside0.mk (Kd.R_lower ho135 (below_size HB.out));have BK2:=Aside0.mk (blk_below BK.out hb);have HB2:=Aside0.mk (below_step HB.out hb);clear hb ho135 BK HB;have BK:=BK2;have HB:=HB2;clear BK2 HB2;obtain ⟨Ao53,co53,eo53⟩:=Kd.R_slice HO.out;subst eo53;have hcz:w51.cell? ⟨gb,14,none⟩=some (.slice none 0 0):=(blk_cell BK.out 14).trans rfl;have hfz:=blk_frozen BK.out 14))
       go_meet
       have HR:=Kd.R_mono (Kd.R_far (p:=⟨gb,14,none⟩) (Kd.R_types HO.out BK.out (by decide)) (fun _ hk=>hk.2) (.slice Ao53 y.length co53)) (fun _ h_=>h_.1)
       case rel=>exact ⟨_,0,0,0,0,0,0,(⟨#[]⟩:ByteArray),none,0,[],none,0,[],_,_,y,⟨blk_put (cs:=#[.int .i64 0,.int .i64 0,.int .i64 0,.int .i64 0,.int .i64 0,.int .i64 0,.bool false,.string (⟨#[]⟩:ByteArray),.string (⟨#[]⟩:ByteArray),.bool false,.string (⟨#[]⟩:ByteArray),.string (⟨#[]⟩:ByteArray),.slice none 0 0,.slice none 0 0,.slice none 0 0]) BK.out 14 _ rfl⟩,⟨Kd.C_nil _ _,Nat.le_refl _⟩,⟨Kd.C_nil _ _,Nat.le_refl _⟩,⟨(Kd.R_reads' HR).2.2,(Kd.R_reads' HR).2.1⟩,⟨H'.out⟩,⟨below_set HB.out GE.out⟩⟩
      ·rw [if_neg d2] at H
       cases H
     ·rw [if_neg d1] at H
      cases H
    rw [if_neg c29] at H
    have cb29:((Int.tmod a1 12) == 9)=false:=beq_eq_false_iff_ne.mpr c29
    clear c29
    by_cases c30:(Int.tmod a1 12)=10
    ·rw [if_pos c30] at H
     have cb0:((Int.tmod a1 12) == 10)=true:=beq_iff_eq.mpr c30
     clear c30
     obtain ⟨ji,hji⟩:∃ j_:Int,(wrap64 (4060+(wrap64 (Int.tmod a5 50))))=j_:=⟨_,rfl⟩
     rw [hji] at H
     have hjiw:(IntKind.i64.wrap (4060+(wrap64 (Int.tmod a5 50))))=ji:=(i64_w _).trans hji
     by_cases d1:0≤ji
     ·rw [if_pos d1] at H
      have d1b0:=eq_true d1
      have d1b1:decide (0≤ji)=true:=decide_eq_true d1
      clear d1
      by_cases d2:(ji:Int).toNat≤281474976710656
      ·rw [if_pos d2] at H
       have d2b0:=eq_true d2
       have d2b1:decide ((ji:Int).toNat≤281474976710656)=true:=decide_eq_true d2
       clear d2
       rw [Option.bind_some] at H
       obtain ⟨y,hy⟩:∃ y_:List Int,y_=(List.replicate (ji:Int).toNat 0):=⟨_,rfl⟩
       rw [← hy] at H
       have H':=Aside0.mk H
       clear H
       have Ny:=Aside0.mk hy
       clear hy
       go_wp2_with (first|((with_reducible refine gate_dst (N:=100) rfl ?_);refine Kd.R_make (Kd.int .u8) _ 5 rfl (N:=100) rfl 22 _ _ rfl ji rfl rfl Tryd.underlying22 (.int .u8 0) 1 info5 rfl (by decide) (by omega) 0 (ok:=fun _=>True) (okp:=fun _=>True) rfl (fun _ hk=>hk) trivial (of_decide_eq_true (by first|(with_reducible assumption)|assumption)) (Nat.le_trans (Nat.mul_le_mul_right _ (of_decide_eq_true (by first|(with_reducible assumption)|assumption):ji.toNat≤281474976710656)) (by omega)) (Below.refl _ _) (Nat.le_refl _) ?_;intro v490 w51 ho201 hb hg_ hnew_;clear hg_ hnew_;(first|rw [← Ny.out] at ho201|(simp only [Int.reduceToNat] at ho201;rw [← Ny.out] at ho201));have HO:=Aside0.mk (Kd.R_lower ho201 (below_size HB.out));have BK2:=Aside0.mk (blk_below BK.out hb);have HB2:=Aside0.mk (below_step HB.out hb);clear hb ho201 BK HB;have BK:=BK2;have HB:=HB2;clear BK2 HB2;obtain ⟨Ao202,co202,eo202⟩:=Kd.R_slice HO.out;subst eo202))
       go_loopg [103] kj6 (fun kq v103 w'=>∃ (x15_2:List Int) (x103_2:Int),v103 = .int .i64 x103_2∧Aside0 (insolvencylaw35_CodecEdges.l0 kq x15_2 (y.length:Int) x103_2 0 0 0 0 0 0 false (⟨#[]⟩:ByteArray) (⟨#[]⟩:ByteArray) false (⟨#[]⟩:ByteArray) (⟨#[]⟩:ByteArray)=some r)∧Aside0 (kq≤kj6)∧Aside0 (Kd.R (Kd.int .u8) 5 w' w.heap.size (fun _=>True) (.slice Ao202 y.length co202) x15_2)∧Aside0 (w'.heap[gb]?=some (.cells #[.int .i64 0,.int .i64 0,.int .i64 0,.int .i64 0,.int .i64 0,.int .i64 0,.bool false,.string (⟨#[]⟩:ByteArray),.string (⟨#[]⟩:ByteArray),.bool false,.string (⟨#[]⟩:ByteArray),.string (⟨#[]⟩:ByteArray),.slice none 0 0,.slice none 0 0,.slice none 0 0] 37 (0,0)))∧Aside0 (Below w.heap.size w w'))
       case atStart=>exact ⟨y,0,rfl,H',⟨Nat.le_refl _⟩,HO,BK,HB⟩
       case round=>
        clear H' HO BK HB
        obtain ⟨x15_2,x103_2,rfl,HA,HK2,HO_15,BK,HB⟩:=hrel
        have hl15_2:=(Kd.R_reads' HO_15.out).1
        rw [hl15_2] at HO_15
        (try simp only [hl15_2])
        have HL15:=Aside0.mk hl15_2
        clear hl15_2
        cases gk with
        | zero=>exact absurd HA.out (by simp [insolvencylaw35_CodecEdges.l0])
        | succ k2=>
         have H:=HA.out
         clear HA
         simp only [insolvencylaw35_CodecEdges.l0] at H
         by_cases c203:x103_2<(y.length:Int)
         ·rw [if_pos c203] at H
          have c203b0:decide (x103_2<(y.length:Int))=true:=decide_eq_true c203
          have hl15_2:=HL15.out
          (try (have cX_:=c203b0;rw [hl15_2] at cX_))
          clear hl15_2 c203
          by_cases c204:0≤x103_2
          ·rw [if_pos c204] at H
           have c204b0:decide (0≤x103_2)=true:=decide_eq_true c204
           clear c204
           by_cases c205:x103_2<(x15_2.length:Int)
           ·rw [if_pos c205] at H
            have c205b0:decide (x103_2<(x15_2.length:Int))=true:=decide_eq_true c205
            clear c205
            obtain ⟨y492,hy492⟩:∃ y_:List Int,y_=(x15_2.set (x103_2:Int).toNat 7):=⟨_,rfl⟩
            rw [← hy492] at H
            have Ny492:=Aside0.mk hy492
            clear hy492
            have H':=Aside0.mk H
            clear H
            have p206:0≤(x103_2:Int):=of_decide_eq_true (by first|(with_reducible assumption)|assumption)
            have q206:(x103_2:Int)<((x15_2.length:Int):Int):=of_decide_eq_true (by first|(with_reducible assumption)|assumption)
            obtain ⟨go206,co206,eo206,gb206,gl206,cl206,HG206⟩:=Kd.R_form HO_15.out (by omega)
            (first|cases eo206|(injection eo206 with ea_ en_ ec_;(first|subst ea_|(injection ea_ with ea_;subst ea_));subst ec_;clear en_))
            have GB206:=Aside0.mk gb206
            have GG206:=Aside0.mk HG206
            clear gb206 gl206 HG206
            obtain ⟨hx206_0,hf206_0⟩:=Kd.R_celln 0 HO_15.out (x103_2:Int) p206 q206
            replace p206:=eq_true p206
            replace q206:=eq_true q206
            have HP207:=Kd.R_putg HO_15.out (x103_2:Int) 7
            go_wp2_with (first|((with_reducible refine gate_store (t:=5) (p:=108) rfl ?_);refine store_event (t:=5) (p:=108) (v:=?vo_w208) (w1:=(wr.setCell ⟨go206,(x103_2:Int).toNat,none⟩ (.int .u8 7))) ?hg ?ho ?hn ?hr ?_;(case ho=>rfl);(case hg=>rfl);(case hn=>rfl);(case hr=>first|(go_simp;done)|(go_simp;rfl));intro w208 hw;have hg:wr.grownBy w208 (some go206):=(by rw [hw];exact HP207.2);have hp_:Kd.R (Kd.int .u8) 5 w208 w.heap.size (fun _=>True) (.slice (some ⟨go206,0,none⟩) x15_2.length co202) y492:=(by rw [hw,Ny492.out];exact HP207.1);clear HP207;have n0_:=Aside0.mk (hp_);have n1_:=Aside0.mk (blk_grown BK.out hg (Kd.R_ne HO_15.out BK.out (by decide)));have n2_:=Aside0.mk ((by rw [hw];exact below_set (HB.out) GB206.out:Below w.heap.size w w208));clear HO_15;clear BK;clear HB;have HO_15:=n0_;have BK:=n1_;have HB:=n2_;clear n0_ n1_ n2_;clear hg hw hp_))
            simp only [← HL15.out]
            go_roundg k2
            case measure=>have:=HK2.out;omega
            case rel=>exact ⟨y492,_,by first|rfl|(simp;done)|(simp [*];done),H',⟨by have:=HK2.out;omega⟩,⟨by rw [HL15.out];exact HO_15.out⟩,BK,HB⟩
           ·rw [if_neg c205] at H
            cases H
          ·rw [if_neg c204] at H
           cases H
         ·rw [if_neg c203] at H
          have c203b0:decide (x103_2<(y.length:Int))=false:=decide_eq_false c203
          have hl15_2:=HL15.out
          (try (have cX_:=c203b0;rw [hl15_2] at cX_))
          clear hl15_2 c203
          have H':=Aside0.mk H
          clear H
          have hcv:=own_string (P:=Tryd.prog) Tryd.underlying22 Tryd.underlying5 Tryd.underlying9 (Kd.own_of_R HO_15.out)
          have hcz:wr.cell? ⟨gb,7,none⟩=some (.string (⟨#[]⟩:ByteArray)):=(blk_cell BK.out 7).trans rfl
          have hfz:=blk_frozen BK.out 7
          go_wp2
          go_meet
          case rel=>exact ⟨_,0,0,0,0,0,0,(strOfNums x15_2),none,0,[],none,0,[],none,0,[],⟨blk_put (cs:=#[.int .i64 0,.int .i64 0,.int .i64 0,.int .i64 0,.int .i64 0,.int .i64 0,.bool false,.string (⟨#[]⟩:ByteArray),.string (⟨#[]⟩:ByteArray),.bool false,.string (⟨#[]⟩:ByteArray),.string (⟨#[]⟩:ByteArray),.slice none 0 0,.slice none 0 0,.slice none 0 0]) BK.out 7 _ rfl⟩,⟨Kd.C_nil _ _,Nat.le_refl _⟩,⟨Kd.C_nil _ _,Nat.le_refl _⟩,⟨Kd.C_nil _ _,Nat.le_refl _⟩,⟨H'.out⟩,⟨below_set HB.out GE.out⟩⟩
      ·rw [if_neg d2] at H
       cases H
     ·rw [if_neg d1] at H
      cases H
    rw [if_neg c30] at H
    have cb30:((Int.tmod a1 12) == 10)=false:=beq_eq_false_iff_ne.mpr c30
    clear c30
    have H':=Aside0.mk H
    clear H
    go_wp2
    go_meet
    case rel=>exact ⟨_,0,0,0,0,0,0,(⟨#[]⟩:ByteArray),none,0,[],none,0,[],none,0,[],BK,⟨Kd.C_nil _ _,Nat.le_refl _⟩,⟨Kd.C_nil _ _,Nat.le_refl _⟩,⟨Kd.C_nil _ _,Nat.le_refl _⟩,⟨H'.out⟩,HB⟩
   case rest=>
    clear HA BK HB
    obtain ⟨kq,x0,x1,x2,x3,x4,x5,s,A8,c8_,l8,A9,c9_,l9,A10,c10_,l10,BK,C8,C9,C10,HA,HB⟩:=hcut
    have H:=HA.out
    clear HA
    replace H:=Option.bind_eq_some_iff.mp H
    obtain ⟨t448,A100,H⟩:=H
    have A10_:=Aside0.mk A100
    clear A100
    by_cases c11:t448=true
    ·subst c11
     rw [if_pos rfl] at H
     obtain ⟨t449,A120,H⟩:=Option.bind_eq_some_iff.mp H
     have A12_:=Aside0.mk A120
     clear A120
     obtain rfl:=Option.some.inj H
     clear H
     go_wp2_with (first|((with_reducible refine gate_callee (f:=10) rfl ?_);refine goesL_ (some 115) rfl rfl Tryd.func10 (by kernel_rfl) rfl #[] rfl (by (try simp only [List.map_toArray,List.map_cons,List.map_nil]);first|done|rfl|(simp only [List.length_drop,List.length_take];rfl)) ?_;(with_reducible refine (insolvencylaw35_awake.calls kq _ _ A10_.out).mono ?_);rintro e w15 ⟨rfl,hb⟩;refine ⟨_,rfl,?_⟩;have HBa:=Aside0.mk hb;have BK2:=Aside0.mk (blk_below BK.out hb);have HB2:=Aside0.mk (below_step HB.out hb);clear hb HB;have HB:=HB2;clear HB2;have hcz0:w15.cell? ⟨gb,0,none⟩=some (.int .i64 x0):=(blk_cell BK2.out 0).trans rfl;have hcz1:w15.cell? ⟨gb,1,none⟩=some (.int .i64 x1):=(blk_cell BK2.out 1).trans rfl;have hcz2:w15.cell? ⟨gb,2,none⟩=some (.int .i64 x2):=(blk_cell BK2.out 2).trans rfl;have hcz3:w15.cell? ⟨gb,3,none⟩=some (.int .i64 x3):=(blk_cell BK2.out 3).trans rfl;have hcz4:w15.cell? ⟨gb,4,none⟩=some (.int .i64 x4):=(blk_cell BK2.out 4).trans rfl;have hcz5:w15.cell? ⟨gb,5,none⟩=some (.int .i64 x5):=(blk_cell BK2.out 5).trans rfl;have hcz6:w15.cell? ⟨gb,6,none⟩=some (.bool false):=(blk_cell BK2.out 6).trans rfl;have hcz7:w15.cell? ⟨gb,7,none⟩=some (.string s):=(blk_cell BK2.out 7).trans rfl;have hcz8:w15.cell? ⟨gb,8,none⟩=some (.string (⟨#[]⟩:ByteArray)):=(blk_cell BK2.out 8).trans rfl;have hcz9:w15.cell? ⟨gb,9,none⟩=some (.bool false):=(blk_cell BK2.out 9).trans rfl;have hcz10:w15.cell? ⟨gb,10,none⟩=some (.string (⟨#[]⟩:ByteArray)):=(blk_cell BK2.out 10).trans rfl;have hcz11:w15.cell? ⟨gb,11,none⟩=some (.string (⟨#[]⟩:ByteArray)):=(blk_cell BK2.out 11).trans rfl;have hcz12:w15.cell? ⟨gb,12,none⟩=some (.slice A8 l8.length c8_):=(blk_cell BK2.out 12).trans rfl;have hcz13:w15.cell? ⟨gb,13,none⟩=some (.slice A9 l9.length c9_):=(blk_cell BK2.out 13).trans rfl;have hcz14:w15.cell? ⟨gb,14,none⟩=some (.slice A10 l10.length c10_):=(blk_cell BK2.out 14).trans rfl)|(go_at_call 14;(refine (insolvencylaw35_same.calls kq x0 x1 x2 x3 x4 x5 false s (⟨#[]⟩:ByteArray) false (⟨#[]⟩:ByteArray) (⟨#[]⟩:ByteArray) _ _ l8 _ _ l9 _ _ l10 t449 _ ?side1 ?side2 ?side3 ?side4 ?side5 ?side6 A12_.out).mono ?_);(case side1=>exact Kd.C_below C8.out.1 HBa.out);(case side2=>exact C8.out.2);(case side3=>exact Kd.C_below C9.out.1 HBa.out);(case side4=>exact C9.out.2);(case side5=>exact Kd.C_below C10.out.1 HBa.out);(case side6=>exact C10.out.2);rintro e w17 ⟨rfl,hb⟩;have HBb:=Aside0.mk (below_step HB.out hb);clear hb))
     go_ret
     exact ⟨rfl,HBb.out⟩
    ·replace c11:=Bool.eq_false_iff.mpr c11
     subst c11
     rw [if_neg (show ¬ (false=true) by decide)] at H
     obtain rfl:=Option.some.inj H
     clear H
     go_wp2_with (first|((with_reducible refine gate_callee (f:=10) rfl ?_);refine goesL_ (some 115) rfl rfl Tryd.func10 (by kernel_rfl) rfl #[] rfl (by (try simp only [List.map_toArray,List.map_cons,List.map_nil]);first|done|rfl|(simp only [List.length_drop,List.length_take];rfl)) ?_;(with_reducible refine (insolvencylaw35_awake.calls kq _ _ A10_.out).mono ?_);rintro e w15 ⟨rfl,hb⟩;refine ⟨_,rfl,?_⟩;have HBa:=Aside0.mk hb;have BK2:=Aside0.mk (blk_below BK.out hb);have HB2:=Aside0.mk (below_step HB.out hb);clear hb HB;have HB:=HB2;clear HB2))
     go_ret
     exact ⟨rfl,HB.out⟩
def insolvencylaw35_CodecEdges.Pure:Prop:=∀ (a0:Int) (a1:Int) (a2:Int) (a3:Int) (a4:Int) (a5:Int),(Lit.int .i8 a0).wf=true→(Lit.int .u8 a1).wf=true→(Lit.int .u8 a2).wf=true→(Lit.int .u8 a3).wf=true→(Lit.int .u16 a4).wf=true→(Lit.int .u16 a5).wf=true → ∃ k,insolvencylaw35_CodecEdges.f k a0 a1 a2 a3 a4 a5=some true
theorem insolvencylaw35_CodecEdges.walk (P:insolvencylaw35_CodecEdges.Pure) (a0:Int) (a1:Int) (a2:Int) (a3:Int) (a4:Int) (a5:Int) (w:World) (w0:(Lit.int .i8 a0).wf=true) (w1:(Lit.int .u8 a1).wf=true) (w2:(Lit.int .u8 a2).wf=true) (w3:(Lit.int .u8 a3).wf=true) (w4:(Lit.int .u16 a4).wf=true) (w5:(Lit.int .u16 a5).wf=true) :
 Calls Tryd.prog 6 #[.int .i8 a0,.int .u8 a1,.int .u8 a2,.int .u8 a3,.int .u16 a4,.int .u16 a5] w fun e w'=>e = .returned (.bool true)∧Below w.heap.size w w':=by
 obtain ⟨k,h⟩:=P a0 a1 a2 a3 a4 a5 w0 w1 w2 w3 w4 w5
 refine (insolvencylaw35_CodecEdges.calls k a0 a1 a2 a3 a4 a5 true w h).mono ?_
 rintro e w' ⟨rfl,hd⟩
 exact ⟨rfl,hd⟩
end Go.Proofs.YtcipcpodgkeobaaDoor.F
end
section
namespace Go.Proofs.YtcipcpodgkeobaaDoor.Num
open Go.RowKit Go.Proofs.YtcipcpodgkeobaaDoorW.PrintWords Go.Proofs.YtcipcpodgkeobaaDoorW.PrintLast Go.Proofs.YtcipcpodgkeobaaDoorW.PrintMore
theorem w64 {n:Int} (h0 : -9223372036854775808≤n) (h1:n≤9223372036854775807):wrap64 n=n:=by unfold wrap64;omega
theorem wu {n:Int} (h0:0≤n) (h1:n≤18446744073709551615):IntKind.u64.wrap n=n:=IntWalk.u64_in n ⟨h0,h1⟩
def val:List Int→Int
 | []=>0
 | x :: r=>x+4294967296*val r
def Dig (l:List Int):Prop:=∀ x ∈ l,0≤x∧x<4294967296
def Nz:List Int→Prop
 | []=>True
 | [x]=>x≠0
 | _ :: y :: r=>Nz (y :: r)
def Is (l:List Int) (n:Int):Prop:=Dig l∧Nz l∧val l=n
theorem Dig.nil:Dig []:=fun _ h=>by cases h
theorem Dig.cons {x:Int} {r:List Int} (h0:0≤x) (h1:x<4294967296) (h:Dig r):Dig (x :: r):=fun y hy=>by
 rcases List.mem_cons.1 hy with rfl|hy
 ·exact ⟨h0,h1⟩
 ·exact h y hy
theorem Dig.at {l:List Int} (h:Dig l) (i:Int):0≤rd l i∧rd l i<4294967296:=by
 unfold rd
 rw [List.getD_eq_getElem?_getD]
 by_cases hi:i.toNat<l.length
 ·rw [List.getElem?_eq_getElem hi]
  exact h _ (List.getElem_mem hi)
 ·rw [List.getElem?_eq_none (by omega)]
  exact ⟨by decide,by decide⟩
theorem Dig.take {l:List Int} (h:Dig l) (n:Nat):Dig (l.take n):=fun y hy=>h y (List.mem_of_mem_take hy)
theorem Dig.drop {l:List Int} (h:Dig l) (n:Nat):Dig (l.drop n):=fun y hy=>h y (List.mem_of_mem_drop hy)
theorem Is.nil:Is [] 0:=⟨Dig.nil,trivial,rfl⟩
theorem Is.one {x:Int} (h0:0<x) (h1:x<4294967296):Is [x] x:=⟨Dig.cons (by omega) h1 Dig.nil,by show x≠0;omega,by simp [val]⟩
def bev (l:List UInt8):Nat:=l.foldl (fun a b=>a*256+b.toNat) 0
def digs (n:Nat):List UInt8:=if _h:n=0 then [] else digs (n/256) ++ [UInt8.ofNat n]
termination_by n
def S (n:Int):ByteArray:=⟨(digs n.toNat).toArray⟩
def B (s:ByteArray):Int:=bev s.data.toList
theorem Ev.ite {α : Type} {c:Prop} [Decidable c] {f g:Nat→Option α} {r : α} (hc:c) (h:Ev f r):Ev (fun k=>if c then f k else g k) r:=by
 simpa only [if_pos hc] using h
theorem Ev.ite_not {α : Type} {c:Prop} [Decidable c] {f g:Nat→Option α} {r : α} (hc:¬ c) (h:Ev g r):Ev (fun k=>if c then f k else g k) r:=by
 simpa only [if_neg hc] using h
end Go.Proofs.YtcipcpodgkeobaaDoor.Num
end
section
namespace Go.Proofs.YtcipcpodgkeobaaDoor.F
open Go.RowKit Go.Proofs.YtcipcpodgkeobaaDoorW.PrintWords Go.Proofs.YtcipcpodgkeobaaDoorW.PrintLast Go.Proofs.YtcipcpodgkeobaaDoorW.PrintMore
attribute [local go_sem] max2_int min2_int max_two min_two max_three min_three max_four min_four   
set_option linter.unusedVariables false
set_option linter.unusedSimpArgs false
def insolvencyref33_Adler.l0:Nat→List Int→Int→Int→Int→Option (Int)
 | 0,_,_,_,_=>none
 | k+1,x0,x3,x4,x5=>if x5<(x0.length:Int) then (if 0≤x5 then (insolvencyref33_Adler.l0 k x0 (Int.tmod (wrap64 (x3+(wrap64 (rd x0 x5)))) 65521) (Int.tmod (wrap64 (x4+(Int.tmod (wrap64 (x3+(wrap64 (rd x0 x5)))) 65521))) 65521) (wrap64 (x5+1))) else (none)) else (some ((wrap64 ((wrap64 (x4*65536))+x3))%4294967296))
def insolvencyref33_Adler.f (k:Nat) (l0:List Int):Option (Int):=insolvencyref33_Adler.l0 k l0 1 0 0
theorem insolvencyref33_Adler.mono_l:∀ k,(∀ y0 y1 y2 y3,LeO (insolvencyref33_Adler.l0 k y0 y1 y2 y3) (insolvencyref33_Adler.l0 (k+1) y0 y1 y2 y3))
 | 0=>fun _ _ _ _ r h=>by simp [insolvencyref33_Adler.l0] at h
 | k+1=>by
  have ih0:=insolvencyref33_Adler.mono_l k
  ·intro y0 y1 y2 y3
   unfold insolvencyref33_Adler.l0
   repeat' first
   | (with_reducible exact ih0 _ _ _ _)
   | (with_reducible exact LeO.refl _)
   | (with_reducible exact LeO.none _)
   | (with_reducible refine LeO.ite ?_ ?_)
   | (with_reducible refine LeO.bind ?_ (fun _=>?_))
   | exact ih0 _ _ _ _
   | exact LeO.none _
   | refine LeO.ite ?_ ?_
   | refine LeO.bind ?_ (fun _=>?_)
theorem insolvencyref33_Adler.mono:∀ a0 k,LeO (insolvencyref33_Adler.f k a0) (insolvencyref33_Adler.f (k+1) a0):=by
 intro a0 k
 have ih0:=insolvencyref33_Adler.mono_l k
 unfold insolvencyref33_Adler.f
 repeat' first
  | (with_reducible exact ih0 _ _ _ _)
  | (with_reducible exact LeO.refl _)
  | (with_reducible exact LeO.none _)
  | (with_reducible refine LeO.ite ?_ ?_)
  | (with_reducible refine LeO.bind ?_ (fun _=>?_))
  | exact ih0 _ _ _ _
  | exact LeO.none _
  | refine LeO.ite ?_ ?_
  | refine LeO.bind ?_ (fun _=>?_)
set_option maxHeartbeats 8000000 in
set_option maxRecDepth 100000 in
theorem insolvencyref33_Adler.calls (k:Nat) (A0:Option Addr) (c0:Nat) (l0:List Int) (r:Int) (w:World) (hr0:Kd.C (Kd.int .u8) w A0 l0.length l0) (hc0:l0.length≤c0) (h:insolvencyref33_Adler.f k l0=some r) :
 Calls Tryd.prog 12 #[.slice A0 l0.length c0] w fun e w'=>e = .returned (.int .u32 r)∧Drawn0 w w':=by
 have HR0:=Aside0.mk hr0
 have HC0:=Aside0.mk hc0
 clear hr0 hc0
 have H:(insolvencyref33_Adler.l0 k l0 1 0 0)=some r:=h
 clear h
 have H':=Aside0.mk H
 clear H
 go_enter Tryd.func12,Tryd.ntmps12
 go_wp2
 go_loopg [3,4,5] k (fun kq v3 v4 v5 w'=>∃ (x3_1:Int) (x4_1:Int) (x5_1:Int),v3 = .int .i64 x3_1∧v4 = .int .i64 x4_1∧v5 = .int .i64 x5_1∧Aside0 (insolvencyref33_Adler.l0 kq l0 x3_1 x4_1 x5_1=some r)∧Aside0 (kq≤k)∧Drawn0 w w')
 case atStart=>exact ⟨(1),(0),(0),(by first|rfl|(simp;done)|(simp [*];done)),(by first|rfl|(simp;done)|(simp [*];done)),(by first|rfl|(simp;done)|(simp [*];done)),H',⟨Nat.le_refl _⟩,by repeat (first|exact Drawn0.refl _|apply Drawn0.step)⟩
 case round=>
  clear H'
  try clear c1
  obtain ⟨x3_1,x4_1,x5_1,rfl,rfl,rfl,HA,HK1,⟨m1,rfl⟩⟩:=hrel
  cases gk with
  | zero=>exact absurd HA.out (by simp [insolvencyref33_Adler.l0])
  | succ k1=>
   have H:=HA.out
   clear HA
   simp only [insolvencyref33_Adler.l0] at H
   by_cases c2:x5_1<(l0.length:Int)
   ·rw [if_pos c2] at H
    have c2b0:decide (x5_1<(l0.length:Int))=true:=decide_eq_true c2
    clear c2
    by_cases c3:0≤x5_1
    ·rw [if_pos c3] at H
     have c3b0:decide (0≤x5_1)=true:=decide_eq_true c3
     clear c3
     have H':=Aside0.mk H
     clear H
     have p126:0≤(x5_1:Int):=of_decide_eq_true (by first|(with_reducible assumption)|assumption)
     have q126:x5_1<(l0.length:Int):=of_decide_eq_true (by first|(with_reducible assumption)|assumption)
     obtain ⟨ad126,e126,hx126_0⟩:=Kd.at_int HR0.out x5_1 p126 q126
     cases e126
     replace p126:=eq_true p126
     replace q126:=eq_true q126
     go_wp2
     go_roundg k1
     case measure=>have:=HK1.out;omega
     case rel=>exact ⟨(Int.tmod (wrap64 (x3_1+(wrap64 (rd l0 x5_1)))) 65521),(Int.tmod (wrap64 (x4_1+(Int.tmod (wrap64 (x3_1+(wrap64 (rd l0 x5_1)))) 65521))) 65521),(wrap64 (x5_1+1)),(by first|rfl|(simp;done)|(simp [*];done)),(by first|rfl|(simp;done)|(simp [*];done)),(by first|rfl|(simp;done)|(simp [*];done)),H',⟨by have:=HK1.out;omega⟩,by repeat (first|exact Drawn0.refl _|apply Drawn0.step)⟩
    ·rw [if_neg c3] at H
     exact absurd H (by simp)
   ·rw [if_neg c2] at H
    have c2b0:decide (x5_1<(l0.length:Int))=false:=decide_eq_false c2
    clear c2
    obtain rfl:=Option.some.inj H
    go_wp2
    go_ret
    exact ⟨by first|rfl|(simp;done)|(simp [*];done),by repeat (first|exact Drawn0.refl _|apply Drawn0.step)⟩
end Go.Proofs.YtcipcpodgkeobaaDoor.F
end
section
namespace Go.Proofs.YtcipcpodgkeobaaDoor.Num
open Go.RowKit Go.Proofs.YtcipcpodgkeobaaDoorW.PrintWords Go.Proofs.YtcipcpodgkeobaaDoorW.PrintLast Go.Proofs.YtcipcpodgkeobaaDoorW.PrintMore Go.Proofs.YtcipcpodgkeobaaDoor.F
set_option linter.unusedVariables false
theorem some_of {g:Nat→Option Bool} (h:Ev g true):∃ k,g k=some true:=h.elim fun K hK=>⟨K,hK K (Nat.le_refl _)⟩
def ast (s:Int×Int) (b:Int):Int×Int:=((s.1+b)%65521,(s.2+(s.1+b)%65521)%65521)
def wd (s:Int×Int):Int:=s.2*65536+s.1
theorem winc' {i:Nat} (h:i≤4000000000):wrap64 ((i:Int)+1)=((i+1:Nat):Int):=by rw [w64 (by omega) (by omega)];omega
theorem drop_rd' {l:List Int} {i:Nat} {x:Int} {r:List Int} (h:l.drop i=x :: r):i<l.length∧rd l (i:Int)=x∧l.drop (i+1)=r∧x ∈ l:=by
 have hi:i<l.length:=by
  rcases Nat.lt_or_ge i l.length with q|q
  ·exact q
  ·rw [List.drop_of_length_le q] at h;cases h
 rw [← List.getElem_cons_drop hi] at h
 have e:=(List.cons.inj h).1
 refine ⟨hi,?_,(List.cons.inj h).2,e ▸ List.getElem_mem hi⟩
 unfold rd
 rw [Int.toNat_natCast,List.getD_eq_getElem?_getD,List.getElem?_eq_getElem hi,← e]
 rfl
def ad (l:List Int):Int:=wd (l.foldl ast (1,0))
set_option maxRecDepth 100000 in
theorem awake_now:insolvencylaw35_awake.f 40=some true:=by kernel_rfl
theorem awake_ev:Ev (fun k=>insolvencylaw35_awake.f k) true:=Ev.of (fun k=>insolvencylaw35_awake.mono k) (k:=40) awake_now
end Go.Proofs.YtcipcpodgkeobaaDoor.Num
end
section
namespace Go.Proofs.YtcipcpodgkeobaaDoor.Num
open Go.RowKit Go.Proofs.YtcipcpodgkeobaaDoorW.PrintWords Go.Proofs.YtcipcpodgkeobaaDoorW.PrintLast Go.Proofs.YtcipcpodgkeobaaDoorW.PrintMore Go.Proofs.YtcipcpodgkeobaaDoor.F
set_option linter.unusedVariables false
set_option maxRecDepth 100000 in
theorem or128 {u:Int} (h0:0≤u) (h1:u≤18446744073709551615):Go.bits .or .u64 (Go.bits .and .u64 u 127) 128%256=Go.bits .or .u8 (u%256) 128:=by
 have e1:Go.bits .and .u64 u 127=u%128:=by
  have:=bits_mask .u64 64 (by decide) (fun n h0 h1=>wu h0 (by omega)) 7 (by decide) u h0 (by omega)
  exact this
 have hx0:=Int.emod_nonneg u (show (128:Int)≠0 by decide)
 have hx1:=Int.emod_lt_of_pos u (show (0:Int)<128 by decide)
 rw [e1]
 have e2:Go.bits .or .u64 (u%128) 128=Go.bits .or .u64 128 (u%128):=by simp only [bits];rw [BitVec.or_comm]
 rw [e2,bits_join .u64 64 (by decide) (fun n h0 h1=>wu h0 (by omega)) 7 128 (u%128) (by decide) (by decide) (by decide) hx0 (by omega) (by omega)]
 obtain ⟨m,hm⟩:=Int.eq_ofNat_of_zero_le (show 0≤u%256 by omega)
 have hm2:m<2 ^ 8:=by omega
 rw [hm,show (128:Int)=((128:Nat):Int) from rfl]
 have h3:=(bits_nat .u8 8 (by decide) (fun n h0 h1=>wraps_u8 n h0 h1) m 128 hm2 (by decide)).2
 rw [h3]
 have h4:m ||| 128=128+m%128:=by
  have key:∀ m:Fin 256,m.val ||| 128=128+m.val%128:=by decide
  exact key ⟨m,hm2⟩
 rw [h4]
 omega
theorem varint_loop (f:Nat):∀ (o:List Int) (u:Int),0≤u→u<128*128 ^ f→u≤18446744073709551615→o.length+f+1≤140737488355328→Ev (fun k=>insolvencyref33_varint.l0 k o u) (o ++ vb f u):=by
 induction f with
 | zero=>
  intro o u h0 h1 h2 h3
  refine Ev.step (f:=fun _=>some (o ++ [u%256])) (fun k=>?_) (Ev.now _)
  simp only [insolvencyref33_varint.l0]
  rw [if_neg (by simp at h1;omega),if_pos (by omega)]
 | succ f ih=>
  intro o u h0 h1 h2 h3
  by_cases h:128≤u
  ·have ih:=ih (o ++ [Go.bits .or .u8 (u%256) 128]) (u/128) (by omega) (by rw [Int.pow_succ] at h1;omega) (by omega) (by rw [List.length_append,List.length_singleton];omega)
   rw [List.append_assoc,List.singleton_append] at ih
   have e:vb (f+1) u=Go.bits .or .u8 (u%256) 128 :: vb f (u/128):=by simp only [vb];rw [if_pos h]
   rw [e]
   refine Ev.step (fun k=>?_) ih
   simp only [insolvencyref33_varint.l0]
   rw [if_pos (by omega),if_pos (by omega),or128 h0 h2]
  ·have e:vb (f+1) u=[u%256]:=by simp only [vb];rw [if_neg h]
   rw [e]
   refine Ev.step (f:=fun _=>some (o ++ [u%256])) (fun k=>?_) (Ev.now _)
   simp only [insolvencyref33_varint.l0]
   rw [if_neg (by omega),if_pos (by omega)]
theorem zz_rng (n:Int):0≤zz n∧zz n≤18446744073709551615:=by
 unfold zz
 split <;> (rw [IntKind.wrap_u64];omega)
theorem num_ev (o:List Int) (n:Int) (h:o.length+20≤140737488355328):Ev (fun k=>insolvencyref33_num.f k o n) (o ++ vbytes n):=by
 obtain ⟨z0,z1⟩:=zz_rng n
 have g:=varint_loop 10 o (zz n) z0 (by omega) z1 (by omega)
 unfold insolvencyref33_num.f
 by_cases hn:n<0
 ·refine Ev.ite hn ?_
  have e:zz n=IntKind.u64.wrap (wrap64 (wrap64 (-2*n)-1)):=by unfold zz;rw [if_pos hn]
  rw [e] at g
  refine Ev.bind (r:=o ++ vbytes n) ?_ (Ev.now _)
  unfold vbytes
  rw [e]
  exact g
 ·refine Ev.ite_not hn ?_
  have e:zz n=IntKind.u64.wrap (wrap64 (2*n)):=by unfold zz;rw [if_neg hn]
  rw [e] at g
  refine Ev.bind (r:=o ++ vbytes n) ?_ (Ev.now _)
  unfold vbytes
  rw [e]
  exact g
def fbytes (s:ByteArray):List Int:=vbytes (s.size:Int) ++ bytesOf s
def frat (neg:Bool) (num den:ByteArray):List Int:=vbytes (nb neg) ++ (fbytes num ++ fbytes den)
theorem fbytes_len (s:ByteArray):(fbytes s).length≤s.size+11∧s.size≤(fbytes s).length:=by
 have:=vbytes_len (s.size:Int)
 unfold fbytes
 rw [List.length_append,bytesOf_length];omega
theorem str_ev (o:List Int) (s:ByteArray) (h:o.length+s.size+40≤140737488355328):Ev (fun k=>insolvencyref33_str.f k o s) (o ++ fbytes s):=by
 have hv:=vbytes_len (s.size:Int)
 refine Ev.bind (num_ev o (s.size:Int) (by omega)) ?_
 refine Ev.ite (by rw [List.length_append];omega) ?_
 unfold fbytes
 rw [← List.append_assoc]
 exact Ev.now _
theorem refrat_ev (o:List Int) (neg:Bool) (num den:ByteArray) (h:o.length+num.size+den.size+100≤140737488355328):Ev (fun k=>insolvencyref33_rat.f k o neg num den) (o ++ frat neg num den):=by
 have l0:=vbytes_len (nb neg)
 have l1:=(fbytes_len num).1
 have e:o ++ frat neg num den=o ++ vbytes (nb neg) ++ fbytes num ++ fbytes den:=by unfold frat;simp only [List.append_assoc]
 rw [e]
 unfold insolvencyref33_rat.f
 cases neg with
 | true=>
  refine Ev.ite rfl ?_
  refine Ev.bind (num_ev o 1 (by omega)) (Ev.bind (str_ev _ num ?_) (Ev.bind (str_ev _ den ?_) (Ev.now _)))
  ·have:(vbytes 1).length≤11:=vbytes_len 1
   rw [List.length_append];omega
  ·have:(vbytes 1).length≤11:=vbytes_len 1
   rw [List.length_append,List.length_append];omega
 | false=>
  refine Ev.ite_not (by decide) ?_
  refine Ev.bind (num_ev o 0 (by omega)) (Ev.bind (str_ev _ num ?_) (Ev.bind (str_ev _ den ?_) (Ev.now _)))
  ·have:(vbytes 0).length≤11:=vbytes_len 0
   rw [List.length_append];omega
  ·have:(vbytes 0).length≤11:=vbytes_len 0
   rw [List.length_append,List.length_append];omega
theorem small_ev (n:Int):insolvencyref33_small.f n=some (small n):=by
 unfold insolvencyref33_small.f small
 by_cases h:n ≥ -1125899906842624
 ·rw [if_pos h,decide_eq_true (show -1125899906842624≤n from h),Bool.true_and]
 ·rw [if_neg h,decide_eq_false (show ¬ -1125899906842624≤n from h),Bool.false_and]
structure Rc where
 a0:Int
 a1:Int
 a2:Int
 a3:Int
 a4:Int
 a5:Int
 n6:Bool
 s7:ByteArray
 s8:ByteArray
 n9:Bool
 s10:ByteArray
 s11:ByteArray
 legs:List S49
 opts:List S51
 pays:List S55
def legb (x:S49):List Int:=nbytes [x.f0,x.f1]
def optb (x:S51):List Int:=frat x.f0.f0 x.f0.f1 x.f0.f2 ++ nbytes [x.f1]
def payb (x:S55):List Int:=nbytes [x.f0.f0,x.f0.f1.f0,x.f0.f1.f1] ++ nbytes [x.f1]
def Rc.bytes (r:Rc):List Int:=nbytes [r.a0,r.a1,r.a2,r.a3,r.a4,r.a5] ++ (frat r.n6 r.s7 r.s8 ++ (frat r.n9 r.s10 r.s11 ++ (nbytes [(r.legs.length:Int)] ++ (r.legs.flatMap legb ++ (nbytes [(r.opts.length:Int)] ++ (r.opts.flatMap optb ++ (nbytes [(r.pays.length:Int)] ++ r.pays.flatMap payb)))))))
structure Sh (r:Rc):Prop where
 h7:r.s7.size≤1000000
 h8:r.s8.size≤1000000
 h10:r.s10.size≤1000000
 h11:r.s11.size≤1000000
 hl:r.legs.length≤1000
 ho:r.opts.length≤1000
 hp:r.pays.length≤1000
 hs:∀ x ∈ r.opts,x.f0.f1.size≤1000000∧x.f0.f2.size≤1000000
def Rv (neg:Bool) (num den:ByteArray) (b:Bool):Prop:=Ev (fun k=>rational_Valid.f k neg num den) b∧Ev (fun k=>insolvencyref1_Valid.f k neg num den) b
theorem getD_drop {α : Type} {l:List α} {i:Nat} {x : α} {r:List α} (d : α) (h:l.drop i=x :: r):i<l.length∧l.getD ((i:Int)).toNat d=x∧l.drop (i+1)=r:=by
 have hi:i<l.length:=by
  rcases Nat.lt_or_ge i l.length with q|q
  ·exact q
  ·rw [List.drop_of_length_le q] at h;cases h
 rw [← List.getElem_cons_drop hi] at h
 refine ⟨hi,?_,(List.cons.inj h).2⟩
 rw [Int.toNat_natCast,List.getD_eq_getElem?_getD,List.getElem?_eq_getElem hi,← (List.cons.inj h).1]
 rfl
theorem nbytes_one (n:Int):nbytes [n]=vbytes n:=by simp [nbytes]
theorem nbytes_two (a b:Int):nbytes [a,b]=vbytes a ++ vbytes b:=by simp [nbytes]
theorem nbytes_three (a b c:Int):nbytes [a,b,c]=vbytes a ++ (vbytes b ++ vbytes c):=by simp [nbytes]
section
variable (r:Rc)
theorem b3_loop (rest:List S55):∀ (i:Nat) (o:List Int),r.pays.drop i=rest→i≤r.pays.length→r.pays.length≤1000→o.length+100*rest.length+100≤100000000000000 →
 Ev (fun k=>insolvencyref33_bytesOf.l3 k o (i:Int) r.a0 r.a1 r.a2 r.a3 r.a4 r.a5 r.n6 r.s7 r.s8 r.n9 r.s10 r.s11 r.legs r.opts r.pays) (o ++ rest.flatMap payb):=by
 induction rest with
 | nil=>
  intro i o h1 h2 hp h3
  have h4:r.pays.length≤i:=List.drop_eq_nil_iff.1 h1
  rw [List.flatMap_nil,List.append_nil]
  refine Ev.step (f:=fun _=>some o) (fun k=>?_) (Ev.now _)
  simp only [insolvencyref33_bytesOf.l3]
  rw [if_neg (by omega)]
 | cons x rest ih=>
  intro i o h1 h2 hp h3
  obtain ⟨b1,b2,b3⟩:=getD_drop z55 h1
  have c1:=vbytes_len x.f0.f0
  have c2:=vbytes_len x.f0.f1.f0
  have c3:=vbytes_len x.f0.f1.f1
  have c4:=vbytes_len x.f1
  rw [List.length_cons] at h3
  have ih:=ih (i+1) (o ++ vbytes x.f0.f0 ++ vbytes x.f0.f1.f0 ++ vbytes x.f0.f1.f1 ++ vbytes x.f1) b3 (by omega) hp (by simp only [List.length_append];omega)
  have e:o ++ (x :: rest).flatMap payb=o ++ vbytes x.f0.f0 ++ vbytes x.f0.f1.f0 ++ vbytes x.f0.f1.f1 ++ vbytes x.f1 ++ rest.flatMap payb:=by
   rw [List.flatMap_cons]
   unfold payb
   rw [nbytes_three,nbytes_one]
   simp only [List.append_assoc]
  rw [e]
  refine Ev.step (f:=fun k=>(insolvencyref33_num.f k o x.f0.f0).bind fun t237=>(insolvencyref33_num.f k t237 x.f0.f1.f0).bind fun t240=>(insolvencyref33_num.f k t240 x.f0.f1.f1).bind fun t243=>(insolvencyref33_num.f k t243 x.f1).bind fun t246=>insolvencyref33_bytesOf.l3 k t246 ((i+1:Nat):Int) r.a0 r.a1 r.a2 r.a3 r.a4 r.a5 r.n6 r.s7 r.s8 r.n9 r.s10 r.s11 r.legs r.opts r.pays) (fun k=>?_)
   (Ev.bind (num_ev _ _ (by omega)) (Ev.bind (num_ev _ _ (by simp only [List.length_append];omega)) (Ev.bind (num_ev _ _ (by simp only [List.length_append];omega)) (Ev.bind (num_ev _ _ (by simp only [List.length_append];omega)) ih))))
  simp only [insolvencyref33_bytesOf.l3]
  have e2:rd_T55 r.pays (i:Int)=x:=b2
  rw [if_pos (by omega),if_pos (by omega),e2,winc' (by omega)]
theorem b2_loop (h:Sh r) (rest:List S51):∀ (i:Nat) (o:List Int),r.opts.drop i=rest→i≤r.opts.length→o.length+3000000*rest.length+200000≤100000000000000 →
 Ev (fun k=>insolvencyref33_bytesOf.l2 k o (i:Int) r.a0 r.a1 r.a2 r.a3 r.a4 r.a5 r.n6 r.s7 r.s8 r.n9 r.s10 r.s11 r.legs r.opts r.pays) (o ++ (rest.flatMap optb ++ (nbytes [(r.pays.length:Int)] ++ r.pays.flatMap payb))):=by
 have hp:=h.hp
 have ho:=h.ho
 induction rest with
 | nil=>
  intro i o h1 h2 h3
  have h4:r.opts.length≤i:=List.drop_eq_nil_iff.1 h1
  have c1:=vbytes_len (r.pays.length:Int)
  have g:=b3_loop r r.pays 0 (o ++ vbytes (r.pays.length:Int)) rfl (Nat.zero_le _) hp (by rw [List.length_append];omega)
  rw [List.flatMap_nil,List.nil_append,nbytes_one,← List.append_assoc]
  refine Ev.step (f:=fun k=>(insolvencyref33_num.f k o (r.pays.length:Int)).bind fun t232=>insolvencyref33_bytesOf.l3 k t232 0 r.a0 r.a1 r.a2 r.a3 r.a4 r.a5 r.n6 r.s7 r.s8 r.n9 r.s10 r.s11 r.legs r.opts r.pays) (fun k=>?_) (Ev.bind (num_ev _ _ (by omega)) g)
  simp only [insolvencyref33_bytesOf.l2]
  rw [if_neg (by omega)]
 | cons x rest ih=>
  intro i o h1 h2 h3
  obtain ⟨b1,b2,b3⟩:=getD_drop z51 h1
  have hx:=h.hs x (List.mem_of_mem_drop (by rw [h1];exact List.mem_cons_self))
  have c1:=vbytes_len x.f1
  have c2:(frat x.f0.f0 x.f0.f1 x.f0.f2).length≤2000100:=by
   have d1:=vbytes_len (nb x.f0.f0)
   have d2:=(fbytes_len x.f0.f1).1
   have d3:=(fbytes_len x.f0.f2).1
   unfold frat
   simp only [List.length_append];omega
  rw [List.length_cons] at h3
  have ih:=ih (i+1) (o ++ frat x.f0.f0 x.f0.f1 x.f0.f2 ++ vbytes x.f1) b3 (by omega) (by simp only [List.length_append];omega)
  have e:o ++ ((x :: rest).flatMap optb ++ (nbytes [(r.pays.length:Int)] ++ r.pays.flatMap payb))=o ++ frat x.f0.f0 x.f0.f1 x.f0.f2 ++ vbytes x.f1 ++ (rest.flatMap optb ++ (nbytes [(r.pays.length:Int)] ++ r.pays.flatMap payb)):=by
   rw [List.flatMap_cons]
   unfold optb
   rw [nbytes_one x.f1]
   simp only [List.append_assoc]
  rw [e]
  refine Ev.step (f:=fun k=>(insolvencyref33_rat.f k o x.f0.f0 x.f0.f1 x.f0.f2).bind fun t225=>(insolvencyref33_num.f k t225 x.f1).bind fun t229=>insolvencyref33_bytesOf.l2 k t229 ((i+1:Nat):Int) r.a0 r.a1 r.a2 r.a3 r.a4 r.a5 r.n6 r.s7 r.s8 r.n9 r.s10 r.s11 r.legs r.opts r.pays) (fun k=>?_)
   (Ev.bind (refrat_ev _ _ _ _ (by omega)) (Ev.bind (num_ev _ _ (by simp only [List.length_append];omega)) ih))
  simp only [insolvencyref33_bytesOf.l2]
  have e2:rd_T51 r.opts (i:Int)=x:=b2
  rw [if_pos (by omega),if_pos (by omega),e2,winc' (by omega)]
def tail2:List Int:=r.opts.flatMap optb ++ (nbytes [(r.pays.length:Int)] ++ r.pays.flatMap payb)
theorem b1_loop (h:Sh r) (rest:List S49):∀ (i:Nat) (o:List Int),r.legs.drop i=rest→i≤r.legs.length→o.length+100*rest.length+10000000000≤100000000000000 →
 Ev (fun k=>insolvencyref33_bytesOf.l1 k o (i:Int) r.a0 r.a1 r.a2 r.a3 r.a4 r.a5 r.n6 r.s7 r.s8 r.n9 r.s10 r.s11 r.legs r.opts r.pays) (o ++ (rest.flatMap legb ++ (nbytes [(r.opts.length:Int)] ++ tail2 r))):=by
 have hl:=h.hl
 have ho:=h.ho
 induction rest with
 | nil=>
  intro i o h1 h2 h3
  have h4:r.legs.length≤i:=List.drop_eq_nil_iff.1 h1
  have c1:=vbytes_len (r.opts.length:Int)
  have g:=b2_loop r h r.opts 0 (o ++ vbytes (r.opts.length:Int)) rfl (Nat.zero_le _) (by rw [List.length_append];omega)
  rw [List.flatMap_nil,List.nil_append,nbytes_one,← List.append_assoc]
  refine Ev.step (f:=fun k=>(insolvencyref33_num.f k o (r.opts.length:Int)).bind fun t221=>insolvencyref33_bytesOf.l2 k t221 0 r.a0 r.a1 r.a2 r.a3 r.a4 r.a5 r.n6 r.s7 r.s8 r.n9 r.s10 r.s11 r.legs r.opts r.pays) (fun k=>?_) (Ev.bind (num_ev _ _ (by omega)) g)
  simp only [insolvencyref33_bytesOf.l1]
  rw [if_neg (by omega)]
 | cons x rest ih=>
  intro i o h1 h2 h3
  obtain ⟨b1,b2,b3⟩:=getD_drop z49 h1
  have c1:=vbytes_len x.f0
  have c2:=vbytes_len x.f1
  rw [List.length_cons] at h3
  have ih:=ih (i+1) (o ++ vbytes x.f0 ++ vbytes x.f1) b3 (by omega) (by simp only [List.length_append];omega)
  have e:o ++ ((x :: rest).flatMap legb ++ (nbytes [(r.opts.length:Int)] ++ tail2 r))=o ++ vbytes x.f0 ++ vbytes x.f1 ++ (rest.flatMap legb ++ (nbytes [(r.opts.length:Int)] ++ tail2 r)):=by
   rw [List.flatMap_cons]
   unfold legb
   rw [nbytes_two]
   simp only [List.append_assoc]
  rw [e]
  refine Ev.step (f:=fun k=>(insolvencyref33_num.f k o x.f0).bind fun t214=>(insolvencyref33_num.f k t214 x.f1).bind fun t218=>insolvencyref33_bytesOf.l1 k t218 ((i+1:Nat):Int) r.a0 r.a1 r.a2 r.a3 r.a4 r.a5 r.n6 r.s7 r.s8 r.n9 r.s10 r.s11 r.legs r.opts r.pays) (fun k=>?_)
   (Ev.bind (num_ev _ _ (by omega)) (Ev.bind (num_ev _ _ (by simp only [List.length_append];omega)) ih))
  simp only [insolvencyref33_bytesOf.l1]
  have e2:rd_T49 r.legs (i:Int)=x:=b2
  rw [if_pos (by omega),if_pos (by omega),e2,winc' (by omega)]
theorem frat_len (neg:Bool) (num den:ByteArray) (h1:num.size≤1000000) (h2:den.size≤1000000):(frat neg num den).length≤2000100:=by
 have d1:=vbytes_len (nb neg)
 have d2:=(fbytes_len num).1
 have d3:=(fbytes_len den).1
 unfold frat
 simp only [List.length_append];omega
theorem b0_loop (h:Sh r) (xs:List Int) (hx:xs.length≤1000) (rest:List Int):∀ (i:Nat) (o:List Int),xs.drop i=rest→i≤xs.length→o.length+100*rest.length+20000000000≤100000000000000 →
 Ev (fun k=>insolvencyref33_bytesOf.l0 k o xs (i:Int) r.a0 r.a1 r.a2 r.a3 r.a4 r.a5 r.n6 r.s7 r.s8 r.n9 r.s10 r.s11 r.legs r.opts r.pays) (o ++ (nbytes rest ++ (frat r.n6 r.s7 r.s8 ++ (frat r.n9 r.s10 r.s11 ++ (nbytes [(r.legs.length:Int)] ++ (r.legs.flatMap legb ++ (nbytes [(r.opts.length:Int)] ++ tail2 r))))))):=by
 have hl:=h.hl
 have k7:=h.h7
 have k8:=h.h8
 have k10:=h.h10
 have k11:=h.h11
 induction rest with
 | nil=>
  intro i o h1 h2 h3
  have h4:xs.length≤i:=List.drop_eq_nil_iff.1 h1
  have c1:=vbytes_len (r.legs.length:Int)
  have c2:=frat_len r.n6 r.s7 r.s8 k7 k8
  have c3:=frat_len r.n9 r.s10 r.s11 k10 k11
  have g:=b1_loop r h r.legs 0 (o ++ frat r.n6 r.s7 r.s8 ++ frat r.n9 r.s10 r.s11 ++ vbytes (r.legs.length:Int)) rfl (Nat.zero_le _) (by simp only [List.length_append];omega)
  have e:o ++ (nbytes [] ++ (frat r.n6 r.s7 r.s8 ++ (frat r.n9 r.s10 r.s11 ++ (nbytes [(r.legs.length:Int)] ++ (r.legs.flatMap legb ++ (nbytes [(r.opts.length:Int)] ++ tail2 r))))))=o ++ frat r.n6 r.s7 r.s8 ++ frat r.n9 r.s10 r.s11 ++ vbytes (r.legs.length:Int) ++ (r.legs.flatMap legb ++ (nbytes [(r.opts.length:Int)] ++ tail2 r)):=by
   have e0:nbytes []=[]:=rfl
   rw [nbytes_one (r.legs.length:Int),e0,List.nil_append]
   simp only [List.append_assoc]
  rw [e]
  refine Ev.step (f:=fun k=>(insolvencyref33_rat.f k o r.n6 r.s7 r.s8).bind fun t204=>(insolvencyref33_rat.f k t204 r.n9 r.s10 r.s11).bind fun t207=>(insolvencyref33_num.f k t207 (r.legs.length:Int)).bind fun t210=>insolvencyref33_bytesOf.l1 k t210 0 r.a0 r.a1 r.a2 r.a3 r.a4 r.a5 r.n6 r.s7 r.s8 r.n9 r.s10 r.s11 r.legs r.opts r.pays) (fun k=>?_)
   (Ev.bind (refrat_ev _ _ _ _ (by omega)) (Ev.bind (refrat_ev _ _ _ _ (by simp only [List.length_append];omega)) (Ev.bind (num_ev _ _ (by simp only [List.length_append];omega)) g)))
  simp only [insolvencyref33_bytesOf.l0]
  rw [if_neg (by omega)]
 | cons x rest ih=>
  intro i o h1 h2 h3
  obtain ⟨b1,b2,b3,_⟩:=drop_rd' h1
  have c1:=vbytes_len x
  rw [List.length_cons] at h3
  have ih:=ih (i+1) (o ++ vbytes x) b3 (by omega) (by rw [List.length_append];omega)
  have e0:nbytes (x :: rest)=vbytes x ++ nbytes rest:=by unfold nbytes;rw [List.flatMap_cons]
  rw [e0,List.append_assoc,← List.append_assoc o]
  refine Ev.step (f:=fun k=>(insolvencyref33_num.f k o x).bind fun t201=>insolvencyref33_bytesOf.l0 k t201 xs ((i+1:Nat):Int) r.a0 r.a1 r.a2 r.a3 r.a4 r.a5 r.n6 r.s7 r.s8 r.n9 r.s10 r.s11 r.legs r.opts r.pays) (fun k=>?_) (Ev.bind (num_ev _ _ (by omega)) ih)
  simp only [insolvencyref33_bytesOf.l0]
  rw [if_pos (by omega),if_pos (by omega),b2,winc' (by omega)]
theorem bytes_ev (h:Sh r):Ev (fun k=>insolvencyref33_bytesOf.f k r.a0 r.a1 r.a2 r.a3 r.a4 r.a5 r.n6 r.s7 r.s8 r.n9 r.s10 r.s11 r.legs r.opts r.pays) r.bytes:=by
 have g:=b0_loop r h [r.a0,r.a1,r.a2,r.a3,r.a4,r.a5] (by simp) [r.a0,r.a1,r.a2,r.a3,r.a4,r.a5] 0 [] rfl (Nat.zero_le _) (by simp)
 rw [List.nil_append] at g
 unfold Rc.bytes insolvencyref33_bytesOf.f insolvencyref33_ints.f
 unfold tail2 at g
 refine Ev.bind (Ev.now _) ?_
 exact g
theorem small_e (n:Int):Ev (fun _=>insolvencyref33_small.f n) (small n):=by
 rw [small_ev]
 exact Ev.now _
theorem Ev.band {g:Nat→Option Bool} {b v:Bool} (h:b=true→Ev g v):Ev (fun k=>if b=true then g k else some false) (b && v):=by
 cases b with
 | false=>exact Ev.ite_not (by decide) (Ev.now _)
 | true=>exact Ev.ite rfl (h rfl)
def legv (x:S49):Bool:=small x.f0 && small x.f1
def optv (V:Bool→ByteArray→ByteArray→Bool) (x:S51):Bool:=V x.f0.f0 x.f0.f1 x.f0.f2 && small x.f1
def payv (x:S55):Bool:=small x.f0.f0 && (small x.f0.f1.f0 && (small x.f0.f1.f1 && small x.f1))
def Rc.v3 (r:Rc):Bool:=r.pays.all payv && decide ((r.bytes.length:Int)≤4096)
def Rc.v2 (r:Rc) (V:Bool→ByteArray→ByteArray→Bool):Bool:=r.opts.all (optv V) && r.v3
def Rc.v1 (r:Rc) (V:Bool→ByteArray→ByteArray→Bool):Bool:=r.legs.all legv && r.v2 V
def Rc.long (r:Rc):Prop:=r.legs.length>8∨r.opts.length>4∨r.pays.length>256
instance (r:Rc):Decidable r.long:=inferInstanceAs (Decidable (_∨_))
def Rc.vld (r:Rc) (V:Bool→ByteArray→ByteArray→Bool):Bool:=[r.a0,r.a1,r.a2,r.a3,r.a4,r.a5].all small && (V r.n6 r.s7 r.s8 && (V r.n9 r.s10 r.s11 && (if r.long then false else r.v1 V)))
structure Told (r:Rc) (V:Bool→ByteArray→ByteArray→Bool):Prop where
 v6:Rv r.n6 r.s7 r.s8 (V r.n6 r.s7 r.s8)
 v9:Rv r.n9 r.s10 r.s11 (V r.n9 r.s10 r.s11)
 vo:∀ x ∈ r.opts,Rv x.f0.f0 x.f0.f1 x.f0.f2 (V x.f0.f0 x.f0.f1 x.f0.f2)
theorem v3_loop (h:Sh r) (rest:List S55):∀ (i:Nat),r.pays.drop i=rest→i≤r.pays.length→Ev (fun k=>insolvencyref33_Valid.l3 k (i:Int) r.a0 r.a1 r.a2 r.a3 r.a4 r.a5 r.n6 r.s7 r.s8 r.n9 r.s10 r.s11 r.legs r.opts r.pays) (rest.all payv && decide ((r.bytes.length:Int)≤4096)):=by
 have hp:=h.hp
 induction rest with
 | nil=>
  intro i h1 h2
  have h4:r.pays.length≤i:=List.drop_eq_nil_iff.1 h1
  rw [List.all_nil,Bool.true_and]
  refine Ev.step (f:=fun k=>(insolvencyref33_bytesOf.f k r.a0 r.a1 r.a2 r.a3 r.a4 r.a5 r.n6 r.s7 r.s8 r.n9 r.s10 r.s11 r.legs r.opts r.pays).bind fun t269=>some (decide ((t269.length:Int)≤4096))) (fun k=>?_) (Ev.bind (bytes_ev r h) (Ev.now _))
  simp only [insolvencyref33_Valid.l3]
  rw [if_neg (by omega)]
 | cons x rest ih=>
  intro i h1 h2
  obtain ⟨b1,b2,b3⟩:=getD_drop z55 h1
  have ih:=ih (i+1) b3 (by omega)
  have e:((x :: rest).all payv && decide ((r.bytes.length:Int)≤4096))=(small x.f0.f0 && (small x.f0.f1.f0 && (small x.f0.f1.f1 && (small x.f1 && (rest.all payv && decide ((r.bytes.length:Int)≤4096)))))):=by
   rw [List.all_cons]
   unfold payv
   simp only [Bool.and_assoc]
  rw [e]
  refine Ev.step (f:=fun k=>(insolvencyref33_small.f x.f0.f0).bind fun t274=>(if t274=true then ((insolvencyref33_small.f x.f0.f1.f0).bind fun t275=>(if t275=true then ((insolvencyref33_small.f x.f0.f1.f1).bind fun t276=>(if t276=true then ((insolvencyref33_small.f x.f1).bind fun t277=>(if t277=true then (insolvencyref33_Valid.l3 k ((i+1:Nat):Int) r.a0 r.a1 r.a2 r.a3 r.a4 r.a5 r.n6 r.s7 r.s8 r.n9 r.s10 r.s11 r.legs r.opts r.pays) else (some false))) else (some false))) else (some false))) else (some false))) (fun k=>?_)
   (Ev.bind (small_e _) (Ev.band fun _=>Ev.bind (small_e _) (Ev.band fun _=>Ev.bind (small_e _) (Ev.band fun _=>Ev.bind (small_e _) (Ev.band fun _=>ih)))))
  simp only [insolvencyref33_Valid.l3]
  have e2:rd_T55 r.pays (i:Int)=x:=b2
  rw [if_pos (by omega),if_pos (by omega),e2,winc' (by omega)]
theorem v2_loop (h:Sh r) (V:Bool→ByteArray→ByteArray→Bool) (hV:Told r V) (rest:List S51):∀ (i:Nat),r.opts.drop i=rest→i≤r.opts.length→Ev (fun k=>insolvencyref33_Valid.l2 k (i:Int) r.a0 r.a1 r.a2 r.a3 r.a4 r.a5 r.n6 r.s7 r.s8 r.n9 r.s10 r.s11 r.legs r.opts r.pays) (rest.all (optv V) && r.v3):=by
 have ho:=h.ho
 induction rest with
 | nil=>
  intro i h1 h2
  have h4:r.opts.length≤i:=List.drop_eq_nil_iff.1 h1
  rw [List.all_nil,Bool.true_and]
  refine Ev.step (f:=fun k=>insolvencyref33_Valid.l3 k 0 r.a0 r.a1 r.a2 r.a3 r.a4 r.a5 r.n6 r.s7 r.s8 r.n9 r.s10 r.s11 r.legs r.opts r.pays) (fun k=>?_) (v3_loop r h r.pays 0 rfl (Nat.zero_le _))
  simp only [insolvencyref33_Valid.l2]
  rw [if_neg (by omega)]
 | cons x rest ih=>
  intro i h1 h2
  obtain ⟨b1,b2,b3⟩:=getD_drop z51 h1
  have hx:=hV.vo x (List.mem_of_mem_drop (by rw [h1];exact List.mem_cons_self))
  have ih:=ih (i+1) b3 (by omega)
  have e:((x :: rest).all (optv V) && r.v3)=(V x.f0.f0 x.f0.f1 x.f0.f2 && (small x.f1 && (rest.all (optv V) && r.v3))):=by
   rw [List.all_cons]
   show (V x.f0.f0 x.f0.f1 x.f0.f2 && small x.f1 && rest.all (optv V) && r.v3)=_
   simp only [Bool.and_assoc]
  rw [e]
  refine Ev.step (f:=fun k=>(insolvencyref1_Valid.f k x.f0.f0 x.f0.f1 x.f0.f2).bind fun t266=>(if t266=true then ((insolvencyref33_small.f x.f1).bind fun t268=>(if t268=true then (insolvencyref33_Valid.l2 k ((i+1:Nat):Int) r.a0 r.a1 r.a2 r.a3 r.a4 r.a5 r.n6 r.s7 r.s8 r.n9 r.s10 r.s11 r.legs r.opts r.pays) else (some false))) else (some false))) (fun k=>?_)
   (Ev.bind hx.2 (Ev.band fun _=>Ev.bind (small_e _) (Ev.band fun _=>ih)))
  simp only [insolvencyref33_Valid.l2]
  have e2:rd_T51 r.opts (i:Int)=x:=b2
  rw [if_pos (by omega),if_pos (by omega),e2,winc' (by omega)]
theorem v1_loop (h:Sh r) (V:Bool→ByteArray→ByteArray→Bool) (hV:Told r V) (rest:List S49):∀ (i:Nat),r.legs.drop i=rest→i≤r.legs.length→Ev (fun k=>insolvencyref33_Valid.l1 k (i:Int) r.a0 r.a1 r.a2 r.a3 r.a4 r.a5 r.n6 r.s7 r.s8 r.n9 r.s10 r.s11 r.legs r.opts r.pays) (rest.all legv && r.v2 V):=by
 have hl:=h.hl
 induction rest with
 | nil=>
  intro i h1 h2
  have h4:r.legs.length≤i:=List.drop_eq_nil_iff.1 h1
  rw [List.all_nil,Bool.true_and]
  refine Ev.step (f:=fun k=>insolvencyref33_Valid.l2 k 0 r.a0 r.a1 r.a2 r.a3 r.a4 r.a5 r.n6 r.s7 r.s8 r.n9 r.s10 r.s11 r.legs r.opts r.pays) (fun k=>?_) (v2_loop r h V hV r.opts 0 rfl (Nat.zero_le _))
  simp only [insolvencyref33_Valid.l1]
  rw [if_neg (by omega)]
 | cons x rest ih=>
  intro i h1 h2
  obtain ⟨b1,b2,b3⟩:=getD_drop z49 h1
  have ih:=ih (i+1) b3 (by omega)
  have e:((x :: rest).all legv && r.v2 V)=(small x.f0 && (small x.f1 && (rest.all legv && r.v2 V))):=by
   rw [List.all_cons]
   show (small x.f0 && small x.f1 && rest.all legv && r.v2 V)=_
   simp only [Bool.and_assoc]
  rw [e]
  refine Ev.step (f:=fun k=>(insolvencyref33_small.f x.f0).bind fun t262=>(if t262=true then ((insolvencyref33_small.f x.f1).bind fun t264=>(if t264=true then (insolvencyref33_Valid.l1 k ((i+1:Nat):Int) r.a0 r.a1 r.a2 r.a3 r.a4 r.a5 r.n6 r.s7 r.s8 r.n9 r.s10 r.s11 r.legs r.opts r.pays) else (some false))) else (some false))) (fun k=>?_)
   (Ev.bind (small_e _) (Ev.band fun _=>Ev.bind (small_e _) (Ev.band fun _=>ih)))
  simp only [insolvencyref33_Valid.l1]
  have e2:rd_T49 r.legs (i:Int)=x:=b2
  rw [if_pos (by omega),if_pos (by omega),e2,winc' (by omega)]
theorem j1_ev (h:Sh r) (V:Bool→ByteArray→ByteArray→Bool) (hV:Told r V) (b:Bool):Ev (fun k=>insolvencyref33_Valid.j1 k b r.a0 r.a1 r.a2 r.a3 r.a4 r.a5 r.n6 r.s7 r.s8 r.n9 r.s10 r.s11 r.legs r.opts r.pays) (if b=true then false else r.v1 V):=by
 cases b with
 | true=>
  refine Ev.step (f:=fun _=>some false) (fun k=>?_) (Ev.now _)
  simp [insolvencyref33_Valid.j1]
 | false=>
  refine Ev.step (f:=fun k=>insolvencyref33_Valid.l1 k 0 r.a0 r.a1 r.a2 r.a3 r.a4 r.a5 r.n6 r.s7 r.s8 r.n9 r.s10 r.s11 r.legs r.opts r.pays) (fun k=>?_) (v1_loop r h V hV r.legs 0 rfl (Nat.zero_le _))
  simp only [insolvencyref33_Valid.j1]
  rw [if_neg (by decide)]
theorem v0_loop (h:Sh r) (V:Bool→ByteArray→ByteArray→Bool) (hV:Told r V) (xs:List Int) (hx:xs.length≤1000) (rest:List Int):∀ (i:Nat),xs.drop i=rest→i≤xs.length→Ev (fun k=>insolvencyref33_Valid.l0 k xs (i:Int) r.a0 r.a1 r.a2 r.a3 r.a4 r.a5 r.n6 r.s7 r.s8 r.n9 r.s10 r.s11 r.legs r.opts r.pays) (rest.all small && (V r.n6 r.s7 r.s8 && (V r.n9 r.s10 r.s11 && (if r.long then false else r.v1 V)))):=by
 induction rest with
 | nil=>
  intro i h1 h2
  have h4:xs.length≤i:=List.drop_eq_nil_iff.1 h1
  rw [List.all_nil,Bool.true_and]
  have jt:Ev (fun k=>insolvencyref33_Valid.j1 k true r.a0 r.a1 r.a2 r.a3 r.a4 r.a5 r.n6 r.s7 r.s8 r.n9 r.s10 r.s11 r.legs r.opts r.pays) false:=j1_ev r h V hV true
  have q:Ev (fun k=>if (r.legs.length:Int)>8 then (insolvencyref33_Valid.j1 k true r.a0 r.a1 r.a2 r.a3 r.a4 r.a5 r.n6 r.s7 r.s8 r.n9 r.s10 r.s11 r.legs r.opts r.pays) else (if (r.opts.length:Int)>4 then (insolvencyref33_Valid.j1 k true r.a0 r.a1 r.a2 r.a3 r.a4 r.a5 r.n6 r.s7 r.s8 r.n9 r.s10 r.s11 r.legs r.opts r.pays) else (insolvencyref33_Valid.j1 k (decide ((r.pays.length:Int)>256)) r.a0 r.a1 r.a2 r.a3 r.a4 r.a5 r.n6 r.s7 r.s8 r.n9 r.s10 r.s11 r.legs r.opts r.pays))) (if r.long then false else r.v1 V):=by
   by_cases c1:r.legs.length>8
   ·rw [if_pos (show r.long from Or.inl c1)]
    exact Ev.ite (by omega) jt
   ·refine Ev.ite_not (by omega) ?_
    by_cases c2:r.opts.length>4
    ·rw [if_pos (show r.long from Or.inr (Or.inl c2))]
     exact Ev.ite (by omega) jt
    ·refine Ev.ite_not (by omega) ?_
     by_cases c3:r.pays.length>256
     ·rw [if_pos (show r.long from Or.inr (Or.inr c3)),decide_eq_true (show (r.pays.length:Int)>256 by omega)]
      exact jt
     ·rw [if_neg (show ¬ r.long from fun q=>q.elim c1 (fun q=>q.elim c2 c3)),decide_eq_false (show ¬ (r.pays.length:Int)>256 by omega)]
      exact j1_ev r h V hV false
  have q0:Ev (fun k=>(insolvencyref1_Valid.f k r.n6 r.s7 r.s8).bind fun t259=>(if t259=true then ((insolvencyref1_Valid.f k r.n9 r.s10 r.s11).bind fun t260=>(if t260=true then (if (r.legs.length:Int)>8 then (insolvencyref33_Valid.j1 k true r.a0 r.a1 r.a2 r.a3 r.a4 r.a5 r.n6 r.s7 r.s8 r.n9 r.s10 r.s11 r.legs r.opts r.pays) else (if (r.opts.length:Int)>4 then (insolvencyref33_Valid.j1 k true r.a0 r.a1 r.a2 r.a3 r.a4 r.a5 r.n6 r.s7 r.s8 r.n9 r.s10 r.s11 r.legs r.opts r.pays) else (insolvencyref33_Valid.j1 k (decide ((r.pays.length:Int)>256)) r.a0 r.a1 r.a2 r.a3 r.a4 r.a5 r.n6 r.s7 r.s8 r.n9 r.s10 r.s11 r.legs r.opts r.pays))) else (insolvencyref33_Valid.j1 k true r.a0 r.a1 r.a2 r.a3 r.a4 r.a5 r.n6 r.s7 r.s8 r.n9 r.s10 r.s11 r.legs r.opts r.pays))) else (insolvencyref33_Valid.j1 k true r.a0 r.a1 r.a2 r.a3 r.a4 r.a5 r.n6 r.s7 r.s8 r.n9 r.s10 r.s11 r.legs r.opts r.pays))) (V r.n6 r.s7 r.s8 && (V r.n9 r.s10 r.s11 && (if r.long then false else r.v1 V))):=by
   refine Ev.bind hV.v6.2 ?_
   by_cases c1:V r.n6 r.s7 r.s8=true
   ·rw [c1,Bool.true_and]
    refine Ev.ite rfl (Ev.bind hV.v9.2 ?_)
    by_cases c2:V r.n9 r.s10 r.s11=true
    ·rw [c2,Bool.true_and]
     exact Ev.ite rfl q
    ·rw [Bool.not_eq_true] at c2
     rw [c2,Bool.false_and]
     exact Ev.ite_not (by decide) jt
   ·rw [Bool.not_eq_true] at c1
    rw [c1,Bool.false_and]
    exact Ev.ite_not (by decide) jt
  refine Ev.step (fun k=>?_) q0
  simp only [insolvencyref33_Valid.l0]
  rw [if_neg (by omega)]
 | cons x rest ih=>
  intro i h1 h2
  obtain ⟨b1,b2,b3,_⟩:=drop_rd' h1
  have ih:=ih (i+1) b3 (by omega)
  rw [List.all_cons,Bool.and_assoc]
  refine Ev.step (f:=fun k=>(insolvencyref33_small.f x).bind fun t258=>(if t258=true then (insolvencyref33_Valid.l0 k xs ((i+1:Nat):Int) r.a0 r.a1 r.a2 r.a3 r.a4 r.a5 r.n6 r.s7 r.s8 r.n9 r.s10 r.s11 r.legs r.opts r.pays) else (some false))) (fun k=>?_)
   (Ev.bind (small_e _) (Ev.band fun _=>ih))
  simp only [insolvencyref33_Valid.l0]
  rw [if_pos (by omega),if_pos (by omega),b2,winc' (by omega)]
theorem Valid_ev (h:Sh r) (V:Bool→ByteArray→ByteArray→Bool) (hV:Told r V):Ev (fun k=>insolvencyref33_Valid.f k r.a0 r.a1 r.a2 r.a3 r.a4 r.a5 r.n6 r.s7 r.s8 r.n9 r.s10 r.s11 r.legs r.opts r.pays) (r.vld V):=by
 have g:=v0_loop r h V hV [r.a0,r.a1,r.a2,r.a3,r.a4,r.a5] (by simp) [r.a0,r.a1,r.a2,r.a3,r.a4,r.a5] 0 rfl (Nat.zero_le _)
 unfold Rc.vld insolvencyref33_Valid.f insolvencyref33_ints.f
 refine Ev.bind (Ev.now _) ?_
 exact g
def Rc.enc (r:Rc) (V:Bool→ByteArray→ByteArray→Bool):List Int×Int:=if r.vld V=true then (r.bytes,0) else ([],1)
theorem RefEncode_ev (h:Sh r) (V:Bool→ByteArray→ByteArray→Bool) (hV:Told r V):Ev (fun k=>insolvencyref33_Encode.f k r.a0 r.a1 r.a2 r.a3 r.a4 r.a5 r.n6 r.s7 r.s8 r.n9 r.s10 r.s11 r.legs r.opts r.pays) (r.enc V):=by
 unfold insolvencyref33_Encode.f Rc.enc
 refine Ev.bind (Valid_ev r h V hV) ?_
 by_cases c:r.vld V=true
 ·rw [if_pos c]
  exact Ev.ite c (Ev.bind (bytes_ev r h) (Ev.now _))
 ·rw [if_neg c]
  exact Ev.ite_not c (Ev.now _)
def rt (V:Bool→ByteArray→ByteArray→Bool) (neg:Bool) (num den:ByteArray):Bool:=tok num && tok den && V neg num den
theorem ratok_ev (V:Bool→ByteArray→ByteArray→Bool) {neg:Bool} {num den:ByteArray} (hv:Rv neg num den (V neg num den)) (ok:Bool):Ev (fun k=>ratok k ok neg num den) (ok && rt V neg num den):=by
 unfold ratok rt tok
 cases ok with
 | false=>exact Ev.ite_not (by decide) (Ev.now _)
 | true=>
  refine Ev.ite rfl ?_
  rw [Bool.true_and]
  by_cases c1:num.size≤4096
  ·refine Ev.ite c1 ?_
   rw [decide_eq_true c1,Bool.true_and]
   by_cases c2:den.size≤4096
   ·refine Ev.ite c2 ?_
    rw [decide_eq_true c2,Bool.true_and]
    exact hv.1
   ·refine Ev.ite_not c2 ?_
    rw [decide_eq_false c2,Bool.false_and]
    exact Ev.now _
  ·refine Ev.ite_not c1 ?_
   rw [decide_eq_false c1,Bool.false_and,Bool.false_and]
   exact Ev.now _
theorem wrat_ev (V:Bool→ByteArray→ByteArray→Bool) {neg:Bool} {num den:ByteArray} (hv:Rv neg num den (V neg num den)) (st:Bool×List Int):Ev (fun k=>wrat k st neg num den) (st.1 && rt V neg num den,st.2 ++ rbytes neg num den):=by
 unfold wrat
 refine Ev.bind (ratok_ev V hv st.1) ?_
 have e:(st.1 && rt V neg num den && tok num && tok den)=(st.1 && rt V neg num den):=by
  unfold rt
  cases st.1 <;> cases tok num <;> cases tok den <;> cases V neg num den <;> rfl
 show Ev (fun _=>some ((st.1 && rt V neg num den && tok num && tok den),st.2 ++ rbytes neg num den)) _
 rw [e]
 exact Ev.now _
def woptb (x:S51):List Int:=rbytes x.f0.f0 x.f0.f1 x.f0.f2 ++ nbytes [x.f1]
def woptv (V:Bool→ByteArray→ByteArray→Bool) (x:S51):Bool:=rt V x.f0.f0 x.f0.f1 x.f0.f2 && small x.f1
theorem wopts_ev (V:Bool→ByteArray→ByteArray→Bool) (l:List S51):∀ (st:Bool×List Int),(∀ x ∈ l,Rv x.f0.f0 x.f0.f1 x.f0.f2 (V x.f0.f0 x.f0.f1 x.f0.f2))→Ev (fun k=>wopts k st l) (st.1 && l.all (woptv V),st.2 ++ l.flatMap woptb):=by
 induction l with
 | nil=>
  intro st _
  rw [List.all_nil,Bool.and_true,List.flatMap_nil,List.append_nil]
  exact Ev.now _
 | cons x l ih=>
  intro st hv
  have g:=ih (wnums (st.1 && rt V x.f0.f0 x.f0.f1 x.f0.f2,st.2 ++ rbytes x.f0.f0 x.f0.f1 x.f0.f2) [x.f1]) (fun y hy=>hv y (List.mem_cons_of_mem _ hy))
  have e:((wnums (st.1 && rt V x.f0.f0 x.f0.f1 x.f0.f2,st.2 ++ rbytes x.f0.f0 x.f0.f1 x.f0.f2) [x.f1]).1 && l.all (woptv V),(wnums (st.1 && rt V x.f0.f0 x.f0.f1 x.f0.f2,st.2 ++ rbytes x.f0.f0 x.f0.f1 x.f0.f2) [x.f1]).2 ++ l.flatMap woptb)=(st.1 && (x :: l).all (woptv V),st.2 ++ (x :: l).flatMap woptb):=by
   unfold wnums
   rw [List.all_cons,List.flatMap_cons]
   unfold woptv woptb
   simp only [List.all_cons,List.all_nil,Bool.and_true,Bool.and_assoc,List.append_assoc]
  rw [e] at g
  exact Ev.bind (Ev.bind (wrat_ev V (hv x List.mem_cons_self) st) (Ev.now _)) g
theorem wlegs_eq (l:List S49):∀ st:Bool×List Int,wlegs st l=(st.1 && l.all legv,st.2 ++ l.flatMap legb):=by
 induction l with
 | nil=>
  intro st
  rw [List.all_nil,Bool.and_true,List.flatMap_nil,List.append_nil]
  rfl
 | cons x l ih=>
  intro st
  have e:wlegs st (x :: l)=wlegs (wleg st x) l:=rfl
  rw [e,ih]
  unfold wleg wnums
  rw [List.all_cons,List.flatMap_cons]
  unfold legv legb
  simp only [List.all_cons,List.all_nil,Bool.and_true,Bool.and_assoc,List.append_assoc]
theorem wpays_eq (l:List S55):∀ st:Bool×List Int,wpays st l=(st.1 && l.all payv,st.2 ++ l.flatMap payb):=by
 induction l with
 | nil=>
  intro st
  rw [List.all_nil,Bool.and_true,List.flatMap_nil,List.append_nil]
  rfl
 | cons x l ih=>
  intro st
  have e:wpays st (x :: l)=wpays (wpay st x) l:=rfl
  rw [e,ih]
  unfold wpay wnums
  rw [List.all_cons,List.flatMap_cons]
  unfold payv payb
  simp only [List.all_cons,List.all_nil,Bool.and_true,Bool.and_assoc,List.append_assoc]
def Rc.wb (r:Rc):List Int:=nbytes [r.a0,r.a1,r.a2,r.a3,r.a4,r.a5] ++ (rbytes r.n6 r.s7 r.s8 ++ (rbytes r.n9 r.s10 r.s11 ++ (nbytes [(r.legs.length:Int)] ++ (r.legs.flatMap legb ++ (nbytes [(r.opts.length:Int)] ++ (r.opts.flatMap woptb ++ (nbytes [(r.pays.length:Int)] ++ r.pays.flatMap payb)))))))
def Rc.wv (r:Rc) (V:Bool→ByteArray→ByteArray→Bool):Bool:=[r.a0,r.a1,r.a2,r.a3,r.a4,r.a5].all small && (rt V r.n6 r.s7 r.s8 && (rt V r.n9 r.s10 r.s11 && (r.legs.all legv && (r.opts.all (woptv V) && (r.pays.all payv && decide ((r.wb.length:Int)≤4096))))))
theorem encode_ev (V:Bool→ByteArray→ByteArray→Bool) (hV:Told r V):Ev (fun k=>codec_encode.f k r.a0 r.a1 r.a2 r.a3 r.a4 r.a5 r.n6 r.s7 r.s8 r.n9 r.s10 r.s11 r.legs r.opts r.pays) (if r.long then ([],false) else (r.wb,r.wv V)):=by
 unfold codec_encode.f
 by_cases c:r.long
 ·rw [if_pos c]
  exact Ev.ite c (Ev.now _)
 ·rw [if_neg c]
  refine Ev.ite_not c ?_
  have c1:r.legs.length≤8:=Nat.le_of_not_gt fun q=>c (Or.inl q)
  have c2:r.opts.length≤4:=Nat.le_of_not_gt fun q=>c (Or.inr (Or.inl q))
  have c3:r.pays.length≤256:=Nat.le_of_not_gt fun q=>c (Or.inr (Or.inr q))
  have s1:small (r.legs.length:Int)=true:=small_size (by omega)
  have s2:small (r.opts.length:Int)=true:=small_size (by omega)
  have s3:small (r.pays.length:Int)=true:=small_size (by omega)
  refine Ev.bind (wrat_ev V hV.v6 _) (Ev.bind (wrat_ev V hV.v9 _) (Ev.bind (wopts_ev V r.opts _ hV.vo) ?_))
  rw [wpays_eq,wlegs_eq]
  have e:∀ a b:List Int×Bool,a=b→Ev (fun _=>some a) b:=fun a b q=>by rw [q];exact Ev.now _
  refine e _ _ ?_
  unfold wnums
  simp only [List.all_cons,List.all_nil,s1,s2,s3,Bool.and_true,Bool.true_and,List.nil_append]
  unfold Rc.wv
  simp only [List.all_cons,List.all_nil,Bool.and_true]
  unfold Rc.wb
  simp only [Bool.and_assoc,List.append_assoc]
theorem tbytes_eq {s:ByteArray} (h:tok s=true):tbytes s=fbytes s:=if_pos (of_decide_eq_true h)
theorem rbytes_eq {neg:Bool} {num den:ByteArray} (h1:tok num=true) (h2:tok den=true):rbytes neg num den=frat neg num den:=by
 unfold rbytes frat
 rw [tbytes_eq h1,tbytes_eq h2]
def Rc.toks (r:Rc):Prop:=(tok r.s7=true∧tok r.s8=true)∧(tok r.s10=true∧tok r.s11=true) ∧ ∀ x ∈ r.opts,tok x.f0.f1=true∧tok x.f0.f2=true
theorem opts_eq (V:Bool→ByteArray→ByteArray→Bool) (l:List S51) (h:∀ x ∈ l,tok x.f0.f1=true∧tok x.f0.f2=true):l.flatMap woptb=l.flatMap optb∧l.all (woptv V)=l.all (optv V):=by
 induction l with
 | nil=>
  rw [List.flatMap_nil,List.flatMap_nil,List.all_nil,List.all_nil]
  exact ⟨rfl,rfl⟩
 | cons x l ih=>
  obtain ⟨e1,e2⟩:=ih (fun y hy=>h y (List.mem_cons_of_mem _ hy))
  obtain ⟨t1,t2⟩:=h x List.mem_cons_self
  have a:woptb x=optb x:=by
   unfold woptb optb
   rw [rbytes_eq t1 t2]
  have b:woptv V x=optv V x:=by
   unfold woptv optv rt
   rw [t1,t2]
   simp only [Bool.true_and]
  rw [List.flatMap_cons,List.flatMap_cons,List.all_cons,List.all_cons,e1,e2,a,b]
  exact ⟨rfl,rfl⟩
theorem toks_eq (V:Bool→ByteArray→ByteArray→Bool) (h:r.toks) (c:¬ r.long):r.wb=r.bytes∧r.wv V=r.vld V:=by
 obtain ⟨⟨t1,t2⟩,⟨t3,t4⟩,t5⟩:=h
 obtain ⟨o1,o2⟩:=opts_eq V r.opts t5
 have e:r.wb=r.bytes:=by
  unfold Rc.wb Rc.bytes
  rw [rbytes_eq t1 t2,rbytes_eq t3 t4,o1]
 refine ⟨e,?_⟩
 unfold Rc.wv Rc.vld Rc.v1 Rc.v2 Rc.v3 rt
 rw [e,if_neg c,t1,t2,t3,t4,o2]
 simp only [Bool.true_and]
theorem not_tok {s:ByteArray} (h:tok s=false):4096<s.size:=Nat.lt_of_not_ge (of_decide_eq_false h)
theorem frat_long {neg:Bool} {num den:ByteArray} (h:¬ (tok num=true∧tok den=true)):4096<(frat neg num den).length:=by
 have d2:=(fbytes_len num).2
 have d3:=(fbytes_len den).2
 unfold frat
 rw [List.length_append,List.length_append]
 cases h1:tok num with
 | false=>
  have:=not_tok h1
  omega
 | true=>
  cases h2:tok den with
  | false=>
   have:=not_tok h2
   omega
  | true=>exact absurd ⟨h1,h2⟩ h
theorem flat_long (l:List S51) (x:S51) (hx:x ∈ l):(optb x).length≤(l.flatMap optb).length:=by
 induction l with
 | nil=>cases hx
 | cons y l ih=>
  rw [List.flatMap_cons,List.length_append]
  rcases List.mem_cons.1 hx with q|q
  ·subst q;omega
  ·have:=ih q;omega
theorem rt_false (V:Bool→ByteArray→ByteArray→Bool) {neg:Bool} {num den:ByteArray} (h:¬ (tok num=true∧tok den=true)):rt V neg num den=false:=by
 unfold rt
 cases h1:tok num with
 | false=>rfl
 | true=>
  cases h2:tok den with
  | false=>rfl
  | true=>exact absurd ⟨h1,h2⟩ h
theorem no_toks (V:Bool→ByteArray→ByteArray→Bool) (h:¬ r.toks) (c:¬ r.long):r.wv V=false∧r.vld V=false:=by
 have hb:4096<r.bytes.length∧r.wv V=false:=by
  have hlen:∀ n:Nat,n≤(frat r.n6 r.s7 r.s8).length∨n≤(frat r.n9 r.s10 r.s11).length∨n≤(r.opts.flatMap optb).length→n≤r.bytes.length:=by
   intro n q
   unfold Rc.bytes
   simp only [List.length_append]
   omega
  by_cases h1:tok r.s7=true∧tok r.s8=true
  ·by_cases h2:tok r.s10=true∧tok r.s11=true
   ·have h3:∃ x ∈ r.opts,¬ (tok x.f0.f1=true∧tok x.f0.f2=true):=by
     refine Classical.byContradiction fun q=>h ⟨h1,h2,fun x hx=>Classical.byContradiction fun q2=>q ⟨x,hx,q2⟩⟩
    obtain ⟨x,hx,hq⟩:=h3
    have l1:=flat_long r.opts x hx
    have l2:=frat_long (neg:=x.f0.f0) hq
    have l3:(frat x.f0.f0 x.f0.f1 x.f0.f2).length≤(optb x).length:=by
     unfold optb
     rw [List.length_append];omega
    refine ⟨hlen 4097 (Or.inr (Or.inr (by omega))),?_⟩
    have f1:r.opts.all (woptv V)=false:=by
     refine Bool.eq_false_iff.2 fun q=>?_
     have:=List.all_eq_true.1 q x hx
     unfold woptv at this
     rw [rt_false V hq] at this
     cases this
    unfold Rc.wv
    rw [f1]
    simp only [Bool.false_and,Bool.and_false]
   ·refine ⟨hlen 4097 (Or.inr (Or.inl (frat_long h2))),?_⟩
    unfold Rc.wv
    rw [rt_false V h2]
    simp only [Bool.false_and,Bool.and_false]
  ·refine ⟨hlen 4097 (Or.inl (frat_long h1)),?_⟩
   unfold Rc.wv
   rw [rt_false V h1]
   simp only [Bool.false_and,Bool.and_false]
 refine ⟨hb.2,?_⟩
 unfold Rc.vld Rc.v1 Rc.v2 Rc.v3
 rw [if_neg c,decide_eq_false (show ¬ (r.bytes.length:Int)≤4096 by have:=hb.1;omega)]
 simp only [Bool.and_false]
theorem long_vld (V:Bool→ByteArray→ByteArray→Bool) (c:r.long):r.vld V=false:=by
 unfold Rc.vld
 rw [if_pos c]
 simp only [Bool.and_false]
theorem enc_of (b:Bool) (o q:List Int) (h:b=true→o=q):Ev (fun _=>if (o,b).2=true then some ((o,b).1,(0:Int)) else some ([],1)) (if b=true then (q,0) else ([],1)):=by
 cases b with
 | true=>
  rw [← h rfl]
  exact Ev.now _
 | false=>exact Ev.now _
theorem Encode_ev (V:Bool→ByteArray→ByteArray→Bool) (hV:Told r V):Ev (fun k=>codec_Encode.f k r.a0 r.a1 r.a2 r.a3 r.a4 r.a5 r.n6 r.s7 r.s8 r.n9 r.s10 r.s11 r.legs r.opts r.pays) (r.enc V):=by
 unfold codec_Encode.f Rc.enc
 refine Ev.bind (encode_ev r V hV) ?_
 by_cases c:r.long
 ·rw [if_pos c,long_vld r V c]
  exact enc_of false [] r.bytes (fun q=>by cases q)
 ·rw [if_neg c]
  by_cases t:r.toks
  ·obtain ⟨e1,e2⟩:=toks_eq r V t c
   rw [e1,e2]
   exact enc_of (r.vld V) r.bytes r.bytes (fun _=>rfl)
  ·obtain ⟨e1,e2⟩:=no_toks r V t c
   rw [e1,e2]
   exact enc_of false r.wb r.bytes (fun q=>by cases q)
theorem CodecValid_ev (V:Bool→ByteArray→ByteArray→Bool) (hV:Told r V):Ev (fun k=>codec_Valid.f k r.a0 r.a1 r.a2 r.a3 r.a4 r.a5 r.n6 r.s7 r.s8 r.n9 r.s10 r.s11 r.legs r.opts r.pays) (r.vld V):=by
 unfold codec_Valid.f
 refine Ev.bind (encode_ev r V hV) ?_
 by_cases c:r.long
 ·rw [if_pos c,long_vld r V c]
  exact Ev.now _
 ·rw [if_neg c]
  by_cases t:r.toks
  ·obtain ⟨e1,e2⟩:=toks_eq r V t c
   rw [e2]
   exact Ev.now _
  ·obtain ⟨e1,e2⟩:=no_toks r V t c
   rw [e1,e2]
   exact Ev.now _
theorem same_ev (h:Sh r) (V:Bool→ByteArray→ByteArray→Bool) (hV:Told r V):Ev (fun k=>insolvencylaw35_same.f k r.a0 r.a1 r.a2 r.a3 r.a4 r.a5 r.n6 r.s7 r.s8 r.n9 r.s10 r.s11 r.legs r.opts r.pays) true:=by
 unfold insolvencylaw35_same.f
 refine Ev.bind (Encode_ev r V hV) (Ev.bind (RefEncode_ev r h V hV) (Ev.bind (CodecValid_ev r V hV) (Ev.bind (Valid_ev r h V hV) ?_)))
 refine Ev.ite (by rw [BEq.rfl]) (Ev.ite rfl ?_)
 rw [BEq.rfl]
 exact Ev.now _
end
end Go.Proofs.YtcipcpodgkeobaaDoor.Num
end
section
namespace Go.Proofs.YtcipcpodgkeobaaDoor.Num
open Go.RowKit Go.Proofs.YtcipcpodgkeobaaDoorW.PrintWords Go.Proofs.YtcipcpodgkeobaaDoorW.PrintLast Go.Proofs.YtcipcpodgkeobaaDoorW.PrintMore Go.Proofs.YtcipcpodgkeobaaDoor.F
set_option linter.unusedVariables false
def E0:ByteArray:=⟨#[]⟩
theorem E0_toList:E0.toList=[]:=by rw [Lib.toList_data];rfl
theorem E0_size (n:Nat):E0.size≤n:=Nat.zero_le n
theorem told_zero:Rv false E0 E0 true:=by
 refine ⟨Ev.of (fun k=>rational_Valid.mono _ _ _ k) (k:=20) (by kernel_rfl),Ev.of (fun k=>insolvencyref1_Valid.mono _ _ _ k) (k:=20) (by kernel_rfl)⟩
theorem told_sevens (n:Nat) (hn:n≤1000000):Rv false (strOfNums (7 :: List.replicate n 7)) E0 true:=by
 have hd:(strOfNums (7 :: List.replicate n 7)).data.toList=7 :: (List.replicate n (7:Int)).map fun n=>UInt8.ofNat n.toNat:=by rw [strOfNums_data,List.map_cons];rfl
 have hs:(strOfNums (7 :: List.replicate n 7)).size=n+1:=by rw [strOfNums_size,List.length_cons,List.length_replicate]
 have hne:(strOfNums (7 :: List.replicate n 7)).toList≠[]:=by
  intro e
  have:=congrArg List.length e
  rw [Lib.toList_data,hd] at this
  cases this
 generalize hS:strOfNums (7 :: List.replicate n 7)=s at hd hs hne ⊢
 have hb:bt s 0=7:=by
  unfold bt
  rw [dif_pos (show (0:Int).toNat<s.size by rw [hs];exact Nat.succ_pos _)]
  have e:s.data.toList[0]?=some 7:=by rw [hd];rfl
  rw [Array.getElem?_toList] at e
  have hq:(0:Nat)<s.data.size:=by show 0<s.size;omega
  rw [Array.getElem?_eq_getElem hq] at e
  show ((s.data[0]).toNat:Int)=7
  rw [Option.some.inj e]
  rfl
 have n1:natural_Normalize.f s=some s:=by
  unfold natural_Normalize.f strings_TrimLeft.f
  rw [if_pos (show (⟨#[0]⟩:ByteArray).size=1 from rfl),if_pos (show bt ⟨#[0]⟩ 0<128 by decide)]
  show some _=some _
  rw [show (⟨#[0]⟩:ByteArray).data.toList=[0] from rfl,Lib.trimLeftS_one]
  unfold Lib.trimLeftB
  rw [hd,List.dropWhile_cons_of_neg (by decide),← hd]
 have n2:Ev (fun k=>insolvencyref1_Normalize.f k s) s:=by
  refine Ev.step (f:=fun _=>some (s.extract 0 s.size)) (fun k=>?_) ?_
  ·unfold insolvencyref1_Normalize.f
   simp only [insolvencyref1_Normalize.l0]
   rw [if_pos (by omega),if_pos (by omega),if_neg (by rw [hb];decide),if_pos (by omega)]
   rfl
  ·rw [← Lib.mk_data (s.extract 0 s.size),Lib.extract_to_end,List.drop_zero,Array.toArray_toList]
   exact Ev.now _
 have z1:natural_Normalize.f E0=some E0:=by kernel_rfl
 have z2:Ev (fun k=>insolvencyref1_Normalize.f k E0) E0:=Ev.of (fun k=>insolvencyref1_Normalize.mono _ k) (k:=20) (by kernel_rfl)
 have ne:∀ k,rational_Valid.j0 (k+1) false false s E0=some true:=by
  intro k
  simp only [rational_Valid.j0]
  rw [if_neg (by decide),if_neg hne,if_pos E0_toList]
 have nr:∀ k,insolvencyref1_Valid.j0 (k+1) false false s E0=some true:=by
  intro k
  simp only [insolvencyref1_Valid.j0]
  rw [if_neg (by decide),if_neg hne,if_pos E0_toList]
 constructor
 ·unfold rational_Valid.f
  rw [n1,z1]
  refine Ev.bind (Ev.now _) (Ev.ite rfl (Ev.bind (Ev.now _) ?_))
  rw [show (E0.toList != E0.toList)=false from bne_self_eq_false _]
  exact Ev.step (f:=fun _=>some true) ne (Ev.now _)
 ·unfold insolvencyref1_Valid.f
  refine Ev.bind n2 (Ev.ite rfl (Ev.bind z2 (Ev.ite rfl ?_)))
  rw [show (E0.toList == [1])=false by rw [E0_toList];rfl]
  exact Ev.step (f:=fun _=>some true) nr (Ev.now _)
theorem zero_same (a0 a1 a2 a3 a4 a5:Int) (legs:List S49) (opts:List S51) (pays:List S55) (hl:legs.length≤1000) (ho:opts.length≤1000) (hp:pays.length≤1000) (hz:∀ x ∈ opts,x.f0=⟨false,E0,E0⟩):Ev (fun k=>insolvencylaw35_same.f k a0 a1 a2 a3 a4 a5 false E0 E0 false E0 E0 legs opts pays) true:=by
 refine same_ev ⟨a0,a1,a2,a3,a4,a5,false,E0,E0,false,E0,E0,legs,opts,pays⟩ ⟨E0_size _,E0_size _,E0_size _,E0_size _,hl,ho,hp,fun x hx=>?_⟩ (fun _ _ _=>true) ⟨told_zero,told_zero,fun x hx=>?_⟩
 ·rw [hz x hx]
  exact ⟨E0_size _,E0_size _⟩
 ·rw [hz x hx]
  exact told_zero
theorem law_ev {g:Nat→Option Bool} (h:Ev g true):Ev (fun k=>(insolvencylaw35_awake.f k).bind fun t=>(if t=true then ((g k).bind fun t=>(some t)) else (some false))) true:=
 Ev.bind awake_ev (Ev.ite rfl (Ev.bind h (Ev.now _)))
theorem edges_loop (m:Nat):∀ i:Nat,0<i+m→i+m≤10000→Ev (fun k=>insolvencylaw35_CodecEdges.l0 k (List.replicate i 7 ++ List.replicate m 0) ((i+m:Nat):Int) (i:Int) 0 0 0 0 0 0 false E0 E0 false E0 E0) true:=by
 induction m with
 | zero=>
  intro i h0 hi
  obtain ⟨n,rfl⟩:∃ n,i=n+1:=⟨i-1,by omega⟩
  have g:Ev (fun k=>insolvencylaw35_same.f k 0 0 0 0 0 0 false (strOfNums (7 :: List.replicate n 7)) E0 false E0 E0 [] [] []) true:=by
   refine same_ev ⟨0,0,0,0,0,0,false,strOfNums (7 :: List.replicate n 7),E0,false,E0,E0,[],[],[]⟩ ⟨?_,E0_size _,E0_size _,E0_size _,Nat.zero_le _,Nat.zero_le _,Nat.zero_le _,fun x hx=>by cases hx⟩ (fun _ _ _=>true) ⟨told_sevens n (by omega),told_zero,fun x hx=>by cases hx⟩
   show (strOfNums (7 :: List.replicate n 7)).size≤1000000
   rw [strOfNums_size,List.length_cons,List.length_replicate]
   omega
  refine Ev.step (fun k=>?_) (law_ev g)
  simp only [insolvencylaw35_CodecEdges.l0]
  rw [if_neg (by omega),List.replicate_zero,List.append_nil,List.replicate_succ]
 | succ m ih=>
  intro i h0 hi
  have ih:=ih (i+1) (by omega) (by omega)
  rw [show i+1+m=i+(m+1) by omega] at ih
  have hset:(List.replicate i (7:Int) ++ List.replicate (m+1) (0:Int)).set i 7=List.replicate (i+1) 7 ++ List.replicate m 0:=by
   rw [List.replicate_succ (n:=m),List.set_append_right _ _ (by rw [List.length_replicate];exact Nat.le_refl _),List.length_replicate,Nat.sub_self,List.replicate_succ' (n:=i),List.append_assoc]
   rfl
  have hlen:(List.replicate i (7:Int) ++ List.replicate (m+1) (0:Int)).length=i+(m+1):=by rw [List.length_append,List.length_replicate,List.length_replicate]
  refine Ev.step (fun k=>?_) ih
  simp only [insolvencylaw35_CodecEdges.l0]
  rw [hlen,if_pos (by omega),if_pos (by omega),if_pos (by omega),Int.toNat_natCast,hset,winc' (by omega)]
theorem tm (x:Int) (n:Nat) (h0:0≤x) (h1:x≤65535) (hn:0<n) (hm:n≤1000):wrap64 (Int.tmod x (n:Int))=((x%(n:Int)).toNat:Int)∧(x%(n:Int)).toNat<n:=by
 have a:=Int.emod_nonneg x (show (n:Int)≠0 by omega)
 have b:=Int.emod_lt_of_pos x (show (0:Int)<n by omega)
 rw [Int.tmod_eq_emod_of_nonneg h0,w64 (by omega) (by omega)]
 omega
set_option maxRecDepth 10000 in
theorem edges_j (x1 x2 x3 x4 x5 x13:Int) (h2:0≤x2∧x2≤255) (h3:0≤x3∧x3≤255) (h4:0≤x4∧x4≤65535) (h5:0≤x5∧x5≤65535):Ev (fun k=>insolvencylaw35_CodecEdges.j0 k x1 x2 x3 x4 x5 x13) true:=by
 obtain ⟨e2,l2⟩:=tm x2 12 h2.1 (by omega) (by decide) (by decide)
 obtain ⟨e3,l3⟩:=tm x3 8 h3.1 (by omega) (by decide) (by decide)
 obtain ⟨e4,l4⟩:=tm x4 300 h4.1 (by omega) (by decide) (by decide)
 obtain ⟨e5,l5⟩:=tm x5 50 h5.1 (by omega) (by decide) (by decide)
 obtain ⟨m,e6,m0,m1⟩:∃ m:Nat,wrap64 (4060+((x5%(50:Nat)).toNat:Int))=(m:Int)∧0<m∧m≤10000:=by
  generalize (x5%(50:Nat)).toNat=q at l5 ⊢
  exact ⟨q+4060,by rw [w64 (by omega) (by omega)];omega,by omega,by omega⟩
 refine Ev.step (f:=fun k=>if (Int.tmod x1 12)=0 then ((insolvencylaw35_awake.f k).bind fun t448=>(if t448=true then ((insolvencylaw35_same.f k x13 0 0 0 0 0 false (⟨#[]⟩:ByteArray) (⟨#[]⟩:ByteArray) false (⟨#[]⟩:ByteArray) (⟨#[]⟩:ByteArray) ([]:List (S49)) ([]:List (S51)) ([]:List (S55))).bind fun t449=>(some t449)) else (some false))) else (if (Int.tmod x1 12)=1 then ((insolvencylaw35_awake.f k).bind fun t450=>(if t450=true then ((insolvencylaw35_same.f k 0 0 x13 0 0 0 false (⟨#[]⟩:ByteArray) (⟨#[]⟩:ByteArray) false (⟨#[]⟩:ByteArray) (⟨#[]⟩:ByteArray) ([]:List (S49)) ([]:List (S51)) ([]:List (S55))).bind fun t451=>(some t451)) else (some false))) else (if (Int.tmod x1 12)=2 then ((insolvencylaw35_awake.f k).bind fun t452=>(if t452=true then ((insolvencylaw35_same.f k 0 0 0 0 0 x13 false (⟨#[]⟩:ByteArray) (⟨#[]⟩:ByteArray) false (⟨#[]⟩:ByteArray) (⟨#[]⟩:ByteArray) ([]:List (S49)) ([]:List (S51)) ([]:List (S55))).bind fun t453=>(some t453)) else (some false))) else (if (Int.tmod x1 12)=3 then ((insolvencylaw35_awake.f k).bind fun t457=>(if t457=true then ((insolvencylaw35_same.f k 0 0 0 0 0 0 false (⟨#[]⟩:ByteArray) (⟨#[]⟩:ByteArray) false (⟨#[]⟩:ByteArray) (⟨#[]⟩:ByteArray) (([(⟨0,x13⟩:S49)]:List (S49))) ([]:List (S51)) ([]:List (S55))).bind fun t458=>(some t458)) else (some false))) else (if (Int.tmod x1 12)=4 then ((insolvencylaw35_awake.f k).bind fun t462=>(if t462=true then ((insolvencylaw35_same.f k 0 0 0 0 0 0 false (⟨#[]⟩:ByteArray) (⟨#[]⟩:ByteArray) false (⟨#[]⟩:ByteArray) (⟨#[]⟩:ByteArray) ([]:List (S49)) (([(⟨(⟨false,(⟨#[]⟩:ByteArray),(⟨#[]⟩:ByteArray)⟩:S30),x13⟩:S51)]:List (S51))) ([]:List (S55))).bind fun t463=>(some t463)) else (some false))) else (if (Int.tmod x1 12)=5 then ((insolvencylaw35_awake.f k).bind fun t467=>(if t467=true then ((insolvencylaw35_same.f k 0 0 0 0 0 0 false (⟨#[]⟩:ByteArray) (⟨#[]⟩:ByteArray) false (⟨#[]⟩:ByteArray) (⟨#[]⟩:ByteArray) ([]:List (S49)) ([]:List (S51)) (([(⟨(⟨0,(⟨0,0⟩:S49)⟩:S53),x13⟩:S55)]:List (S55)))).bind fun t468=>(some t468)) else (some false))) else (if (Int.tmod x1 12)=6 then ((insolvencylaw35_awake.f k).bind fun t472=>(if t472=true then ((insolvencylaw35_same.f k 0 0 0 0 0 0 false (⟨#[]⟩:ByteArray) (⟨#[]⟩:ByteArray) false (⟨#[]⟩:ByteArray) (⟨#[]⟩:ByteArray) ([]:List (S49)) ([]:List (S51)) (([(⟨(⟨x13,(⟨0,0⟩:S49)⟩:S53),0⟩:S55)]:List (S55)))).bind fun t473=>(some t473)) else (some false))) else (if (Int.tmod x1 12)=7 then (if 0≤(wrap64 (Int.tmod x2 12)) then (if (wrap64 (Int.tmod x2 12):Int).toNat≤17592186044416 then ((insolvencylaw35_awake.f k).bind fun t477=>(if t477=true then ((insolvencylaw35_same.f k 0 0 0 0 0 0 false (⟨#[]⟩:ByteArray) (⟨#[]⟩:ByteArray) false (⟨#[]⟩:ByteArray) (⟨#[]⟩:ByteArray) (List.replicate (wrap64 (Int.tmod x2 12):Int).toNat z49) ([]:List (S51)) ([]:List (S55))).bind fun t478=>(some t478)) else (some false))) else (none)) else (none)) else (if (Int.tmod x1 12)=8 then (if 0≤(wrap64 (Int.tmod x3 8)) then (if (wrap64 (Int.tmod x3 8):Int).toNat≤5864062014805 then ((insolvencylaw35_awake.f k).bind fun t482=>(if t482=true then ((insolvencylaw35_same.f k 0 0 0 0 0 0 false (⟨#[]⟩:ByteArray) (⟨#[]⟩:ByteArray) false (⟨#[]⟩:ByteArray) (⟨#[]⟩:ByteArray) ([]:List (S49)) (List.replicate (wrap64 (Int.tmod x3 8):Int).toNat z51) ([]:List (S55))).bind fun t483=>(some t483)) else (some false))) else (none)) else (none)) else (if (Int.tmod x1 12)=9 then (if 0≤(wrap64 (Int.tmod x4 300)) then (if (wrap64 (Int.tmod x4 300):Int).toNat≤8796093022208 then ((insolvencylaw35_awake.f k).bind fun t487=>(if t487=true then ((insolvencylaw35_same.f k 0 0 0 0 0 0 false (⟨#[]⟩:ByteArray) (⟨#[]⟩:ByteArray) false (⟨#[]⟩:ByteArray) (⟨#[]⟩:ByteArray) ([]:List (S49)) ([]:List (S51)) (List.replicate (wrap64 (Int.tmod x4 300):Int).toNat z55)).bind fun t488=>(some t488)) else (some false))) else (none)) else (none)) else (if (Int.tmod x1 12)=10 then (if 0≤(wrap64 (4060+(wrap64 (Int.tmod x5 50)))) then (if (wrap64 (4060+(wrap64 (Int.tmod x5 50))):Int).toNat≤281474976710656 then ((some (List.replicate (wrap64 (4060+(wrap64 (Int.tmod x5 50))):Int).toNat 0:List Int)).bind fun y489=>(insolvencylaw35_CodecEdges.l0 k y489 (y489.length:Int) 0 0 0 0 0 0 0 false (⟨#[]⟩:ByteArray) (⟨#[]⟩:ByteArray) false (⟨#[]⟩:ByteArray) (⟨#[]⟩:ByteArray))) else (none)) else (none)) else ((insolvencylaw35_awake.f k).bind fun t495=>(if t495=true then ((insolvencylaw35_same.f k 0 0 0 0 0 0 false (⟨#[]⟩:ByteArray) (⟨#[]⟩:ByteArray) false (⟨#[]⟩:ByteArray) (⟨#[]⟩:ByteArray) ([]:List (S49)) ([]:List (S51)) ([]:List (S55))).bind fun t496=>(some t496)) else (some false)))))))))))))) (fun k=>by simp only [insolvencylaw35_CodecEdges.j0]) ?_
 simp only [show (12:Int)=((12:Nat):Int) from rfl,show (8:Int)=((8:Nat):Int) from rfl,show (300:Int)=((300:Nat):Int) from rfl,show (50:Int)=((50:Nat):Int) from rfl,e2,e3,e4,e5,e6,Int.toNat_natCast]
 by_cases c0:Int.tmod x1 ((12:Nat):Int)=0
 ·exact Ev.ite c0 (law_ev (zero_same x13 0 0 0 0 0 [] [] [] (by decide) (by decide) (by decide) (fun x hx=>by cases hx)))
 refine Ev.ite_not c0 ?_
 by_cases c1:Int.tmod x1 ((12:Nat):Int)=1
 ·exact Ev.ite c1 (law_ev (zero_same 0 0 x13 0 0 0 [] [] [] (by decide) (by decide) (by decide) (fun x hx=>by cases hx)))
 refine Ev.ite_not c1 ?_
 by_cases c2:Int.tmod x1 ((12:Nat):Int)=2
 ·exact Ev.ite c2 (law_ev (zero_same 0 0 0 0 0 x13 [] [] [] (by decide) (by decide) (by decide) (fun x hx=>by cases hx)))
 refine Ev.ite_not c2 ?_
 by_cases c3:Int.tmod x1 ((12:Nat):Int)=3
 ·exact Ev.ite c3 (law_ev (zero_same 0 0 0 0 0 0 [⟨0,x13⟩] [] [] (by simp) (by simp) (by simp) (fun x hx=>by cases hx)))
 refine Ev.ite_not c3 ?_
 by_cases c4:Int.tmod x1 ((12:Nat):Int)=4
 ·exact Ev.ite c4 (law_ev (zero_same 0 0 0 0 0 0 [] [⟨⟨false,E0,E0⟩,x13⟩] [] (by simp) (by simp) (by simp) (fun x hx=>by rw [List.mem_singleton.1 hx])))
 refine Ev.ite_not c4 ?_
 by_cases c5:Int.tmod x1 ((12:Nat):Int)=5
 ·exact Ev.ite c5 (law_ev (zero_same 0 0 0 0 0 0 [] [] [⟨⟨0,⟨0,0⟩⟩,x13⟩] (by simp) (by simp) (by simp) (fun x hx=>by cases hx)))
 refine Ev.ite_not c5 ?_
 by_cases c6:Int.tmod x1 ((12:Nat):Int)=6
 ·exact Ev.ite c6 (law_ev (zero_same 0 0 0 0 0 0 [] [] [⟨⟨x13,⟨0,0⟩⟩,0⟩] (by simp) (by simp) (by simp) (fun x hx=>by cases hx)))
 refine Ev.ite_not c6 ?_
 by_cases c7:Int.tmod x1 ((12:Nat):Int)=7
 ·exact Ev.ite c7 (Ev.ite (by omega) (Ev.ite (by omega) (law_ev (zero_same 0 0 0 0 0 0 (List.replicate (x2%((12:Nat):Int)).toNat z49) [] [] (by rw [List.length_replicate];omega) (by decide) (by decide) (fun x hx=>by cases hx)))))
 refine Ev.ite_not c7 ?_
 by_cases c8:Int.tmod x1 ((12:Nat):Int)=8
 ·exact Ev.ite c8 (Ev.ite (by omega) (Ev.ite (by omega) (law_ev (zero_same 0 0 0 0 0 0 [] (List.replicate (x3%((8:Nat):Int)).toNat z51) [] (by decide) (by rw [List.length_replicate];omega) (by decide) (fun x hx=>by rw [List.eq_of_mem_replicate hx];rfl)))))
 refine Ev.ite_not c8 ?_
 by_cases c9:Int.tmod x1 ((12:Nat):Int)=9
 ·exact Ev.ite c9 (Ev.ite (by omega) (Ev.ite (by omega) (law_ev (zero_same 0 0 0 0 0 0 [] [] (List.replicate (x4%((300:Nat):Int)).toNat z55) (by decide) (by decide) (by rw [List.length_replicate];omega) (fun x hx=>by cases hx)))))
 refine Ev.ite_not c9 ?_
 by_cases c10:Int.tmod x1 ((12:Nat):Int)=10
 ·refine Ev.ite c10 (Ev.ite (Int.natCast_nonneg m) (Ev.ite (Nat.le_trans m1 (by decide)) (Ev.bind (Ev.now _) ?_)))
  rw [List.length_replicate]
  have g:=edges_loop m 0 (by rw [Nat.zero_add];exact m0) (by rw [Nat.zero_add];exact m1)
  rw [List.replicate_zero,List.nil_append,Nat.zero_add] at g
  exact g
 refine Ev.ite_not c10 ?_
 exact (law_ev (zero_same 0 0 0 0 0 0 [] [] [] (by decide) (by decide) (by decide) (fun x hx=>by cases hx)))
end Go.Proofs.YtcipcpodgkeobaaDoor.Num
namespace Go.Proofs.YtcipcpodgkeobaaDoor.Pure
open Go.RowKit Go.Proofs.YtcipcpodgkeobaaDoor.F Go.Proofs.YtcipcpodgkeobaaDoorW.PrintWords Go.Proofs.YtcipcpodgkeobaaDoorW.PrintLast
open Go.Proofs.YtcipcpodgkeobaaDoor.Num
theorem CodecEdges:insolvencylaw35_CodecEdges.Pure:=by
 intro a0 a1 a2 a3 a4 a5 h0 h1 h2 h3 h4 h5
 simp only [Lit.wf,Bool.and_eq_true,decide_eq_true_eq] at h0 h1 h2 h3 h4 h5
 refine some_of ?_
 unfold insolvencylaw35_CodecEdges.f
 by_cases c:Int.tmod a0 2=0
 ·exact Ev.ite c (edges_j _ _ _ _ _ _ h2 h3 h4 h5)
 ·exact Ev.ite_not c (edges_j _ _ _ _ _ _ h2 h3 h4 h5)
end Go.Proofs.YtcipcpodgkeobaaDoor.Pure
end
