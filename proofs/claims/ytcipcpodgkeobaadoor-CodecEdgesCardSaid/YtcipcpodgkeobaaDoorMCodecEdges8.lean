/- Part 8 of the proof of CodecEdges: the functions' walks and what they compute, in the order of the calls; each holds for all arguments that its row allows. -/
import Derived.Test.YtcipcpodgkeobaaDoorMCodecEdges6
import Derived.Test.YtcipcpodgkeobaaDoorMCodecEdges7
section
namespace Go.Proofs.YtcipcpodgkeobaaDoor.F
open Go.RowKit Go.Proofs.YtcipcpodgkeobaaDoorW.PrintWords Go.Proofs.YtcipcpodgkeobaaDoorW.PrintLast Go.Proofs.YtcipcpodgkeobaaDoorW.PrintMore
attribute [local go_sem] max2_int min2_int max_two min_two max_three min_three max_four min_four   
set_option linter.unusedVariables false
set_option linter.unusedSimpArgs false
mutual
def insolvencyref33_bytesOf.l0:Nat→List Int→List Int→Int→Int→Int→Int→Int→Int→Int→Bool→ByteArray→ByteArray→Bool→ByteArray→ByteArray→List (S49)→List (S51)→List (S55)→Option (List Int)
 | 0,_,_,_,_,_,_,_,_,_,_,_,_,_,_,_,_,_,_=>none
 | k+1,x3,x4,x5,x197000,x197001,x197002,x197003,x197004,x197005,x197006,x197007,x197008,x197009,x197010,x197011,x197012,x197013,x197014=>if x5<(x4.length:Int) then (if 0≤x5 then ((insolvencyref33_num.f k x3 (rd x4 x5)).bind fun t201=>(insolvencyref33_bytesOf.l0 k t201 x4 (wrap64 (x5+1)) x197000 x197001 x197002 x197003 x197004 x197005 x197006 x197007 x197008 x197009 x197010 x197011 x197012 x197013 x197014)) else (none)) else ((insolvencyref33_rat.f k x3 x197006 x197007 x197008).bind fun t204=>((insolvencyref33_rat.f k t204 x197009 x197010 x197011).bind fun t207=>((insolvencyref33_num.f k t207 (x197012.length:Int)).bind fun t210=>(insolvencyref33_bytesOf.l1 k t210 0 x197000 x197001 x197002 x197003 x197004 x197005 x197006 x197007 x197008 x197009 x197010 x197011 x197012 x197013 x197014))))
def insolvencyref33_bytesOf.l1:Nat→List Int→Int→Int→Int→Int→Int→Int→Int→Bool→ByteArray→ByteArray→Bool→ByteArray→ByteArray→List (S49)→List (S51)→List (S55)→Option (List Int)
 | 0,_,_,_,_,_,_,_,_,_,_,_,_,_,_,_,_,_=>none
 | k+1,x3,x6,x197000,x197001,x197002,x197003,x197004,x197005,x197006,x197007,x197008,x197009,x197010,x197011,x197012,x197013,x197014=>if x6<(x197012.length:Int) then (if 0≤x6 then ((insolvencyref33_num.f k x3 ((rd_T49 x197012 x6).f0)).bind fun t214=>((insolvencyref33_num.f k t214 ((rd_T49 x197012 x6).f1)).bind fun t218=>(insolvencyref33_bytesOf.l1 k t218 (wrap64 (x6+1)) x197000 x197001 x197002 x197003 x197004 x197005 x197006 x197007 x197008 x197009 x197010 x197011 x197012 x197013 x197014))) else (none)) else ((insolvencyref33_num.f k x3 (x197013.length:Int)).bind fun t221=>(insolvencyref33_bytesOf.l2 k t221 0 x197000 x197001 x197002 x197003 x197004 x197005 x197006 x197007 x197008 x197009 x197010 x197011 x197012 x197013 x197014))
def insolvencyref33_bytesOf.l2:Nat→List Int→Int→Int→Int→Int→Int→Int→Int→Bool→ByteArray→ByteArray→Bool→ByteArray→ByteArray→List (S49)→List (S51)→List (S55)→Option (List Int)
 | 0,_,_,_,_,_,_,_,_,_,_,_,_,_,_,_,_,_=>none
 | k+1,x3,x7,x197000,x197001,x197002,x197003,x197004,x197005,x197006,x197007,x197008,x197009,x197010,x197011,x197012,x197013,x197014=>if x7<(x197013.length:Int) then (if 0≤x7 then ((insolvencyref33_rat.f k x3 ((rd_T51 x197013 x7).f0.f0) ((rd_T51 x197013 x7).f0.f1) ((rd_T51 x197013 x7).f0.f2)).bind fun t225=>((insolvencyref33_num.f k t225 ((rd_T51 x197013 x7).f1)).bind fun t229=>(insolvencyref33_bytesOf.l2 k t229 (wrap64 (x7+1)) x197000 x197001 x197002 x197003 x197004 x197005 x197006 x197007 x197008 x197009 x197010 x197011 x197012 x197013 x197014))) else (none)) else ((insolvencyref33_num.f k x3 (x197014.length:Int)).bind fun t232=>(insolvencyref33_bytesOf.l3 k t232 0 x197000 x197001 x197002 x197003 x197004 x197005 x197006 x197007 x197008 x197009 x197010 x197011 x197012 x197013 x197014))
def insolvencyref33_bytesOf.l3:Nat→List Int→Int→Int→Int→Int→Int→Int→Int→Bool→ByteArray→ByteArray→Bool→ByteArray→ByteArray→List (S49)→List (S51)→List (S55)→Option (List Int)
 | 0,_,_,_,_,_,_,_,_,_,_,_,_,_,_,_,_,_=>none
 | k+1,x3,x8,x197000,x197001,x197002,x197003,x197004,x197005,x197006,x197007,x197008,x197009,x197010,x197011,x197012,x197013,x197014=>if x8<(x197014.length:Int) then (if 0≤x8 then ((insolvencyref33_num.f k x3 ((rd_T55 x197014 x8).f0.f0)).bind fun t237=>((insolvencyref33_num.f k t237 ((rd_T55 x197014 x8).f0.f1.f0)).bind fun t240=>((insolvencyref33_num.f k t240 ((rd_T55 x197014 x8).f0.f1.f1)).bind fun t243=>((insolvencyref33_num.f k t243 ((rd_T55 x197014 x8).f1)).bind fun t246=>(insolvencyref33_bytesOf.l3 k t246 (wrap64 (x8+1)) x197000 x197001 x197002 x197003 x197004 x197005 x197006 x197007 x197008 x197009 x197010 x197011 x197012 x197013 x197014))))) else (none)) else (some x3)
end
def insolvencyref33_bytesOf.f (k:Nat) (a0_0:Int) (a0_1:Int) (a0_2:Int) (a0_3:Int) (a0_4:Int) (a0_5:Int) (a0_6:Bool) (a0_7:ByteArray) (a0_8:ByteArray) (a0_9:Bool) (a0_10:ByteArray) (a0_11:ByteArray) (l0_12:List (S49)) (l0_13:List (S51)) (l0_14:List (S55)):Option (List Int):=(insolvencyref33_ints.f a0_0 a0_1 a0_2 a0_3 a0_4 a0_5 a0_6 a0_7 a0_8 a0_9 a0_10 a0_11 l0_12 l0_13).bind fun t197=>(insolvencyref33_bytesOf.l0 k ([]:List Int) t197 0 a0_0 a0_1 a0_2 a0_3 a0_4 a0_5 a0_6 a0_7 a0_8 a0_9 a0_10 a0_11 l0_12 l0_13 l0_14)
theorem insolvencyref33_bytesOf.mono_l:∀ k,(∀ y0 y1 y2 y3 y4 y5 y6 y7 y8 y9 y10 y11 y12 y13 y14 y15 y16 y17,LeO (insolvencyref33_bytesOf.l0 k y0 y1 y2 y3 y4 y5 y6 y7 y8 y9 y10 y11 y12 y13 y14 y15 y16 y17) (insolvencyref33_bytesOf.l0 (k+1) y0 y1 y2 y3 y4 y5 y6 y7 y8 y9 y10 y11 y12 y13 y14 y15 y16 y17))∧(∀ y0 y1 y2 y3 y4 y5 y6 y7 y8 y9 y10 y11 y12 y13 y14 y15 y16,LeO (insolvencyref33_bytesOf.l1 k y0 y1 y2 y3 y4 y5 y6 y7 y8 y9 y10 y11 y12 y13 y14 y15 y16) (insolvencyref33_bytesOf.l1 (k+1) y0 y1 y2 y3 y4 y5 y6 y7 y8 y9 y10 y11 y12 y13 y14 y15 y16))∧(∀ y0 y1 y2 y3 y4 y5 y6 y7 y8 y9 y10 y11 y12 y13 y14 y15 y16,LeO (insolvencyref33_bytesOf.l2 k y0 y1 y2 y3 y4 y5 y6 y7 y8 y9 y10 y11 y12 y13 y14 y15 y16) (insolvencyref33_bytesOf.l2 (k+1) y0 y1 y2 y3 y4 y5 y6 y7 y8 y9 y10 y11 y12 y13 y14 y15 y16))∧(∀ y0 y1 y2 y3 y4 y5 y6 y7 y8 y9 y10 y11 y12 y13 y14 y15 y16,LeO (insolvencyref33_bytesOf.l3 k y0 y1 y2 y3 y4 y5 y6 y7 y8 y9 y10 y11 y12 y13 y14 y15 y16) (insolvencyref33_bytesOf.l3 (k+1) y0 y1 y2 y3 y4 y5 y6 y7 y8 y9 y10 y11 y12 y13 y14 y15 y16))
 | 0=>⟨fun _ _ _ _ _ _ _ _ _ _ _ _ _ _ _ _ _ _ r h=>by simp [insolvencyref33_bytesOf.l0] at h,fun _ _ _ _ _ _ _ _ _ _ _ _ _ _ _ _ _ r h=>by simp [insolvencyref33_bytesOf.l1] at h,fun _ _ _ _ _ _ _ _ _ _ _ _ _ _ _ _ _ r h=>by simp [insolvencyref33_bytesOf.l2] at h,fun _ _ _ _ _ _ _ _ _ _ _ _ _ _ _ _ _ r h=>by simp [insolvencyref33_bytesOf.l3] at h⟩
 | k+1=>by
  obtain ⟨ih0,ih1,ih2,ih3⟩:=insolvencyref33_bytesOf.mono_l k
  refine ⟨?_,?_,?_,?_⟩
  ·intro y0 y1 y2 y3 y4 y5 y6 y7 y8 y9 y10 y11 y12 y13 y14 y15 y16 y17
   unfold insolvencyref33_bytesOf.l0
   repeat' first
   | (with_reducible exact ih0 _ _ _ _ _ _ _ _ _ _ _ _ _ _ _ _ _ _)
   | (with_reducible exact ih1 _ _ _ _ _ _ _ _ _ _ _ _ _ _ _ _ _)
   | (with_reducible exact ih2 _ _ _ _ _ _ _ _ _ _ _ _ _ _ _ _ _)
   | (with_reducible exact ih3 _ _ _ _ _ _ _ _ _ _ _ _ _ _ _ _ _)
   | (with_reducible exact insolvencyref33_num.mono _ _ _)
   | (with_reducible exact insolvencyref33_rat.mono _ _ _ _ _)
   | (with_reducible exact LeO.refl _)
   | (with_reducible exact LeO.none _)
   | (with_reducible refine LeO.ite ?_ ?_)
   | (with_reducible refine LeO.bind ?_ (fun _=>?_))
   | exact ih0 _ _ _ _ _ _ _ _ _ _ _ _ _ _ _ _ _ _
   | exact ih1 _ _ _ _ _ _ _ _ _ _ _ _ _ _ _ _ _
   | exact ih2 _ _ _ _ _ _ _ _ _ _ _ _ _ _ _ _ _
   | exact ih3 _ _ _ _ _ _ _ _ _ _ _ _ _ _ _ _ _
   | exact insolvencyref33_num.mono _ _ _
   | exact insolvencyref33_rat.mono _ _ _ _ _
   | exact LeO.none _
   | refine LeO.ite ?_ ?_
   | refine LeO.bind ?_ (fun _=>?_)
  ·intro y0 y1 y2 y3 y4 y5 y6 y7 y8 y9 y10 y11 y12 y13 y14 y15 y16
   unfold insolvencyref33_bytesOf.l1
   repeat' first
   | (with_reducible exact ih0 _ _ _ _ _ _ _ _ _ _ _ _ _ _ _ _ _ _)
   | (with_reducible exact ih1 _ _ _ _ _ _ _ _ _ _ _ _ _ _ _ _ _)
   | (with_reducible exact ih2 _ _ _ _ _ _ _ _ _ _ _ _ _ _ _ _ _)
   | (with_reducible exact ih3 _ _ _ _ _ _ _ _ _ _ _ _ _ _ _ _ _)
   | (with_reducible exact insolvencyref33_num.mono _ _ _)
   | (with_reducible exact insolvencyref33_rat.mono _ _ _ _ _)
   | (with_reducible exact LeO.refl _)
   | (with_reducible exact LeO.none _)
   | (with_reducible refine LeO.ite ?_ ?_)
   | (with_reducible refine LeO.bind ?_ (fun _=>?_))
   | exact ih0 _ _ _ _ _ _ _ _ _ _ _ _ _ _ _ _ _ _
   | exact ih1 _ _ _ _ _ _ _ _ _ _ _ _ _ _ _ _ _
   | exact ih2 _ _ _ _ _ _ _ _ _ _ _ _ _ _ _ _ _
   | exact ih3 _ _ _ _ _ _ _ _ _ _ _ _ _ _ _ _ _
   | exact insolvencyref33_num.mono _ _ _
   | exact insolvencyref33_rat.mono _ _ _ _ _
   | exact LeO.none _
   | refine LeO.ite ?_ ?_
   | refine LeO.bind ?_ (fun _=>?_)
  ·intro y0 y1 y2 y3 y4 y5 y6 y7 y8 y9 y10 y11 y12 y13 y14 y15 y16
   unfold insolvencyref33_bytesOf.l2
   repeat' first
   | (with_reducible exact ih0 _ _ _ _ _ _ _ _ _ _ _ _ _ _ _ _ _ _)
   | (with_reducible exact ih1 _ _ _ _ _ _ _ _ _ _ _ _ _ _ _ _ _)
   | (with_reducible exact ih2 _ _ _ _ _ _ _ _ _ _ _ _ _ _ _ _ _)
   | (with_reducible exact ih3 _ _ _ _ _ _ _ _ _ _ _ _ _ _ _ _ _)
   | (with_reducible exact insolvencyref33_num.mono _ _ _)
   | (with_reducible exact insolvencyref33_rat.mono _ _ _ _ _)
   | (with_reducible exact LeO.refl _)
   | (with_reducible exact LeO.none _)
   | (with_reducible refine LeO.ite ?_ ?_)
   | (with_reducible refine LeO.bind ?_ (fun _=>?_))
   | exact ih0 _ _ _ _ _ _ _ _ _ _ _ _ _ _ _ _ _ _
   | exact ih1 _ _ _ _ _ _ _ _ _ _ _ _ _ _ _ _ _
   | exact ih2 _ _ _ _ _ _ _ _ _ _ _ _ _ _ _ _ _
   | exact ih3 _ _ _ _ _ _ _ _ _ _ _ _ _ _ _ _ _
   | exact insolvencyref33_num.mono _ _ _
   | exact insolvencyref33_rat.mono _ _ _ _ _
   | exact LeO.none _
   | refine LeO.ite ?_ ?_
   | refine LeO.bind ?_ (fun _=>?_)
  ·intro y0 y1 y2 y3 y4 y5 y6 y7 y8 y9 y10 y11 y12 y13 y14 y15 y16
   unfold insolvencyref33_bytesOf.l3
   repeat' first
   | (with_reducible exact ih0 _ _ _ _ _ _ _ _ _ _ _ _ _ _ _ _ _ _)
   | (with_reducible exact ih1 _ _ _ _ _ _ _ _ _ _ _ _ _ _ _ _ _)
   | (with_reducible exact ih2 _ _ _ _ _ _ _ _ _ _ _ _ _ _ _ _ _)
   | (with_reducible exact ih3 _ _ _ _ _ _ _ _ _ _ _ _ _ _ _ _ _)
   | (with_reducible exact insolvencyref33_num.mono _ _ _)
   | (with_reducible exact insolvencyref33_rat.mono _ _ _ _ _)
   | (with_reducible exact LeO.refl _)
   | (with_reducible exact LeO.none _)
   | (with_reducible refine LeO.ite ?_ ?_)
   | (with_reducible refine LeO.bind ?_ (fun _=>?_))
   | exact ih0 _ _ _ _ _ _ _ _ _ _ _ _ _ _ _ _ _ _
   | exact ih1 _ _ _ _ _ _ _ _ _ _ _ _ _ _ _ _ _
   | exact ih2 _ _ _ _ _ _ _ _ _ _ _ _ _ _ _ _ _
   | exact ih3 _ _ _ _ _ _ _ _ _ _ _ _ _ _ _ _ _
   | exact insolvencyref33_num.mono _ _ _
   | exact insolvencyref33_rat.mono _ _ _ _ _
   | exact LeO.none _
   | refine LeO.ite ?_ ?_
   | refine LeO.bind ?_ (fun _=>?_)
theorem insolvencyref33_bytesOf.mono:∀ a0 a1 a2 a3 a4 a5 a6 a7 a8 a9 a10 a11 a12 a13 a14 k,LeO (insolvencyref33_bytesOf.f k a0 a1 a2 a3 a4 a5 a6 a7 a8 a9 a10 a11 a12 a13 a14) (insolvencyref33_bytesOf.f (k+1) a0 a1 a2 a3 a4 a5 a6 a7 a8 a9 a10 a11 a12 a13 a14):=by
 intro a0 a1 a2 a3 a4 a5 a6 a7 a8 a9 a10 a11 a12 a13 a14 k
 obtain ⟨ih0,ih1,ih2,ih3⟩:=insolvencyref33_bytesOf.mono_l k
 unfold insolvencyref33_bytesOf.f
 repeat' first
  | (with_reducible exact ih0 _ _ _ _ _ _ _ _ _ _ _ _ _ _ _ _ _ _)
  | (with_reducible exact ih1 _ _ _ _ _ _ _ _ _ _ _ _ _ _ _ _ _)
  | (with_reducible exact ih2 _ _ _ _ _ _ _ _ _ _ _ _ _ _ _ _ _)
  | (with_reducible exact ih3 _ _ _ _ _ _ _ _ _ _ _ _ _ _ _ _ _)
  | (with_reducible exact insolvencyref33_num.mono _ _ _)
  | (with_reducible exact insolvencyref33_rat.mono _ _ _ _ _)
  | (with_reducible exact LeO.refl _)
  | (with_reducible exact LeO.none _)
  | (with_reducible refine LeO.ite ?_ ?_)
  | (with_reducible refine LeO.bind ?_ (fun _=>?_))
  | exact ih0 _ _ _ _ _ _ _ _ _ _ _ _ _ _ _ _ _ _
  | exact ih1 _ _ _ _ _ _ _ _ _ _ _ _ _ _ _ _ _
  | exact ih2 _ _ _ _ _ _ _ _ _ _ _ _ _ _ _ _ _
  | exact ih3 _ _ _ _ _ _ _ _ _ _ _ _ _ _ _ _ _
  | exact insolvencyref33_num.mono _ _ _
  | exact insolvencyref33_rat.mono _ _ _ _ _
  | exact LeO.none _
  | refine LeO.ite ?_ ?_
  | refine LeO.bind ?_ (fun _=>?_)
def insolvencyref33_bytesOf.T7:Bool×List (List Nat×List Nat):=(true,[([],[]),([],[]),([1],[1]),([2],[2]),([0,3],[0,3]),([],[]),([5],[5]),([6],[6]),([4,7,4],[4,7]),([8,8,0,1,2,3,4,5,6,7,8],[0,8])])
def insolvencyref33_bytesOf.B7:List Nat:=[0,0,2,6,15,0,32,96,255,511]
theorem insolvencyref33_bytesOf.tab7:rtab .any (opsOf Tryd.f30 7)=insolvencyref33_bytesOf.T7:=by kernel_rfl
theorem insolvencyref33_bytesOf.bits7:waitsOk insolvencyref33_bytesOf.T7.2 insolvencyref33_bytesOf.B7=true:=by kernel_rfl
def insolvencyref33_bytesOf.T12:Bool×List (List Nat×List Nat):=(true,[([],[]),([],[]),([1],[1]),([2],[2]),([],[]),([3,4],[3,4]),([5],[5]),([6],[6]),([0,7],[0,7]),([],[]),([9],[9]),([10],[10]),([],[]),([11,12],[11,12]),([13],[13]),([14],[14]),([8,15,8],[8,15]),([16,16,0,1,2,3,4,5,6,7,8,9,10,11,12,13,14,15,16],[0,16])])
def insolvencyref33_bytesOf.B12:List Nat:=[0,0,2,6,0,30,62,126,255,0,512,1536,0,7680,15872,32256,65535,131071]
theorem insolvencyref33_bytesOf.tab12:rtab .any (opsOf Tryd.f30 12)=insolvencyref33_bytesOf.T12:=by kernel_rfl
theorem insolvencyref33_bytesOf.bits12:waitsOk insolvencyref33_bytesOf.T12.2 insolvencyref33_bytesOf.B12=true:=by kernel_rfl
def insolvencyref33_bytesOf.T17:Bool×List (List Nat×List Nat):=(true,[([],[]),([],[]),([1],[1]),([2],[2]),([],[]),([3,4],[3,4]),([5],[5]),([6],[6]),([0,7],[0,7]),([],[]),([9],[9]),([10],[10]),([],[]),([11,12],[11,12]),([13],[13]),([14],[14]),([8,15,8],[8,15]),([16,16,0,1,2,3,4,5,6,7,8,9,10,11,12,13,14,15,16],[0,16])])
def insolvencyref33_bytesOf.B17:List Nat:=[0,0,2,6,0,30,62,126,255,0,512,1536,0,7680,15872,32256,65535,131071]
theorem insolvencyref33_bytesOf.tab17:rtab .any (opsOf Tryd.f30 17)=insolvencyref33_bytesOf.T17:=by kernel_rfl
theorem insolvencyref33_bytesOf.bits17:waitsOk insolvencyref33_bytesOf.T17.2 insolvencyref33_bytesOf.B17=true:=by kernel_rfl
def insolvencyref33_bytesOf.T23:Bool×List (List Nat×List Nat):=(true,[([],[]),([],[]),([1],[1]),([2],[2]),([0,3],[0,3]),([],[]),([5],[5]),([6],[6]),([7],[7]),([4,8,4],[4,8]),([],[]),([10],[10]),([11],[11]),([12],[12]),([9,13,9],[9,13]),([],[]),([15],[15]),([14,16,14],[14,16]),([17,17,0,1,2,3,4,5,6,7,8,9,10,11,12,13,14,15,16,17],[0,17])])
def insolvencyref33_bytesOf.B23:List Nat:=[0,0,2,6,15,0,32,96,224,511,0,1024,3072,7168,16383,0,32768,131071,262143]
theorem insolvencyref33_bytesOf.tab23:rtab .any (opsOf Tryd.f30 23)=insolvencyref33_bytesOf.T23:=by kernel_rfl
theorem insolvencyref33_bytesOf.bits23:waitsOk insolvencyref33_bytesOf.T23.2 insolvencyref33_bytesOf.B23=true:=by kernel_rfl
set_option maxHeartbeats 8000000 in
set_option maxRecDepth 100000 in
theorem insolvencyref33_bytesOf.calls (k:Nat) (a0_0:Int) (a0_1:Int) (a0_2:Int) (a0_3:Int) (a0_4:Int) (a0_5:Int) (a0_6:Bool) (a0_7:ByteArray) (a0_8:ByteArray) (a0_9:Bool) (a0_10:ByteArray) (a0_11:ByteArray) (A0_12:Option Addr) (c0_12:Nat) (l0_12:List (S49)) (A0_13:Option Addr) (c0_13:Nat) (l0_13:List (S51)) (A0_14:Option Addr) (c0_14:Nat) (l0_14:List (S55)) (r:List Int) (w:World) (hr0_12:Kd.C k49 w A0_12 l0_12.length l0_12) (hc0_12:l0_12.length≤c0_12) (hr0_13:Kd.C k51 w A0_13 l0_13.length l0_13) (hc0_13:l0_13.length≤c0_13) (hr0_14:Kd.C k55 w A0_14 l0_14.length l0_14) (hc0_14:l0_14.length≤c0_14) (h:insolvencyref33_bytesOf.f k a0_0 a0_1 a0_2 a0_3 a0_4 a0_5 a0_6 a0_7 a0_8 a0_9 a0_10 a0_11 l0_12 l0_13 l0_14=some r) :
 Calls Tryd.prog 30 #[.agg #[.int .i64 a0_0,.int .i64 a0_1,.int .i64 a0_2,.int .i64 a0_3,.int .i64 a0_4,.int .i64 a0_5,.bool a0_6,.string a0_7,.string a0_8,.bool a0_9,.string a0_10,.string a0_11,.slice A0_12 l0_12.length c0_12,.slice A0_13 l0_13.length c0_13,.slice A0_14 l0_14.length c0_14]] w fun e w'=>∃ v0_:Value,e = .returned (v0_)∧Kd.R (Kd.int .u8) 5 w' w.heap.size (fun _=>True) v0_ r∧Below w.heap.size w w':=by
 have hu37:=Tryd.underlying37
 have hu34:=Tryd.underlying34
 have hu30:=Tryd.underlying30
 have hu55:=Tryd.underlying55
 have HR0_12:=Aside0.mk hr0_12
 have HC0_12:=Aside0.mk hc0_12
 clear hr0_12 hc0_12
 have HR0_13:=Aside0.mk hr0_13
 have HC0_13:=Aside0.mk hc0_13
 clear hr0_13 hc0_13
 have HR0_14:=Aside0.mk hr0_14
 have HC0_14:=Aside0.mk hc0_14
 clear hr0_14 hc0_14
 have HB:=Aside0.mk (Below.refl w.heap.size w)
 have H:((insolvencyref33_ints.f a0_0 a0_1 a0_2 a0_3 a0_4 a0_5 a0_6 a0_7 a0_8 a0_9 a0_10 a0_11 l0_12 l0_13).bind fun t197=>(insolvencyref33_bytesOf.l0 k ([]:List Int) t197 0 a0_0 a0_1 a0_2 a0_3 a0_4 a0_5 a0_6 a0_7 a0_8 a0_9 a0_10 a0_11 l0_12 l0_13 l0_14))=some r:=h
 clear h
 replace H:=Option.bind_eq_some_iff.mp H
 obtain ⟨t197,A20,H⟩:=H
 replace H:(insolvencyref33_bytesOf.l0 k ([]:List Int) t197 0 a0_0 a0_1 a0_2 a0_3 a0_4 a0_5 a0_6 a0_7 a0_8 a0_9 a0_10 a0_11 l0_12 l0_13 l0_14)=some r:=H
 have A2:=Aside0.mk A20
 clear A20
 have H':=Aside0.mk H
 clear H
 go_enter Tryd.func30,Tryd.ntmps30
 go_wp2_with (first|((with_reducible refine gate_dst (N:=1) rfl ?_);refine box_event ?hg (N:=1) ?hd (cs:=#[.int .i64 a0_0,.int .i64 a0_1,.int .i64 a0_2,.int .i64 a0_3,.int .i64 a0_4,.int .i64 a0_5,.bool a0_6,.string a0_7,.string a0_8,.bool a0_9,.string a0_10,.string a0_11,.slice A0_12 l0_12.length c0_12,.slice A0_13 l0_13.length c0_13,.slice A0_14 l0_14.length c0_14]) (t:=37) ?hr ?_;(case hd=>rfl);(case hg=>rfl);(case hr=>first|(go_simp;done)|(go_simp;rfl));intro gb196 hg w3 hbox hb;have n0_:=Aside0.mk (below_step (by repeat (first|(with_reducible first|exact HB.out|apply below_alloc|apply pw_below_drewN|apply below_drew1)|exact HB.out)) hb);have n1_:=Aside0.mk (hbox);have n2_:=Aside0.mk ((by rw [hg];exact (below_size (by repeat (first|(with_reducible first|exact HB.out|apply below_alloc|apply pw_below_drewN|apply below_drew1)|exact HB.out))):w.heap.size≤gb196));have n3_:=Aside0.mk ((by rw [hg];exact (below_size (by repeat (first|(with_reducible first|exact HB.out|apply below_alloc|apply pw_below_drewN|apply below_drew1)|exact HB.out))):w.heap.size≤gb196));clear HB;have HB:=n0_;have BK196:=n1_;have GW196:=n2_;have GE196:=n3_;clear n0_ n1_ n2_ n3_;clear hb hbox hg;have hcz4_0:w3.cell? ⟨gb196,0,none⟩=some (.int .i64 a0_0):=(blk_cell BK196.out 0).trans rfl;have hcz4_1:w3.cell? ⟨gb196,1,none⟩=some (.int .i64 a0_1):=(blk_cell BK196.out 1).trans rfl;have hcz4_2:w3.cell? ⟨gb196,2,none⟩=some (.int .i64 a0_2):=(blk_cell BK196.out 2).trans rfl;have hcz4_3:w3.cell? ⟨gb196,3,none⟩=some (.int .i64 a0_3):=(blk_cell BK196.out 3).trans rfl;have hcz4_4:w3.cell? ⟨gb196,4,none⟩=some (.int .i64 a0_4):=(blk_cell BK196.out 4).trans rfl;have hcz4_5:w3.cell? ⟨gb196,5,none⟩=some (.int .i64 a0_5):=(blk_cell BK196.out 5).trans rfl;have hcz4_6:w3.cell? ⟨gb196,6,none⟩=some (.bool a0_6):=(blk_cell BK196.out 6).trans rfl;have hcz4_7:w3.cell? ⟨gb196,7,none⟩=some (.string a0_7):=(blk_cell BK196.out 7).trans rfl;have hcz4_8:w3.cell? ⟨gb196,8,none⟩=some (.string a0_8):=(blk_cell BK196.out 8).trans rfl;have hcz4_9:w3.cell? ⟨gb196,9,none⟩=some (.bool a0_9):=(blk_cell BK196.out 9).trans rfl;have hcz4_10:w3.cell? ⟨gb196,10,none⟩=some (.string a0_10):=(blk_cell BK196.out 10).trans rfl;have hcz4_11:w3.cell? ⟨gb196,11,none⟩=some (.string a0_11):=(blk_cell BK196.out 11).trans rfl;have hcz4_12:w3.cell? ⟨gb196,12,none⟩=some (.slice A0_12 l0_12.length c0_12):=(blk_cell BK196.out 12).trans rfl;have hcz4_13:w3.cell? ⟨gb196,13,none⟩=some (.slice A0_13 l0_13.length c0_13):=(blk_cell BK196.out 13).trans rfl;have hcz4_14:w3.cell? ⟨gb196,14,none⟩=some (.slice A0_14 l0_14.length c0_14):=(blk_cell BK196.out 14).trans rfl;have hfz4_0:=blk_frozen BK196.out 0;have hfz4_1:=blk_frozen BK196.out 1;have hfz4_2:=blk_frozen BK196.out 2;have hfz4_3:=blk_frozen BK196.out 3;have hfz4_4:=blk_frozen BK196.out 4;have hfz4_5:=blk_frozen BK196.out 5;have hfz4_6:=blk_frozen BK196.out 6;have hfz4_7:=blk_frozen BK196.out 7;have hfz4_8:=blk_frozen BK196.out 8;have hfz4_9:=blk_frozen BK196.out 9;have hfz4_10:=blk_frozen BK196.out 10;have hfz4_11:=blk_frozen BK196.out 11;have hfz4_12:=blk_frozen BK196.out 12;have hfz4_13:=blk_frozen BK196.out 13;have hfz4_14:=blk_frozen BK196.out 14)|((with_reducible refine gate_callee (f:=34) rfl ?_);refine goesL_ (some 12) rfl rfl Tryd.func34 (by kernel_rfl) rfl #[.agg #[.int .i64 a0_0,.int .i64 a0_1,.int .i64 a0_2,.int .i64 a0_3,.int .i64 a0_4,.int .i64 a0_5,.bool a0_6,.string a0_7,.string a0_8,.bool a0_9,.string a0_10,.string a0_11,.slice A0_12 l0_12.length c0_12,.slice A0_13 l0_13.length c0_13]] rfl (by (try simp only [List.map_toArray,List.map_cons,List.map_nil]);first|done|rfl|(simp only [List.length_drop,List.length_take];rfl)) ?_;(with_reducible refine (insolvencyref33_ints.calls a0_0 a0_1 a0_2 a0_3 a0_4 a0_5 a0_6 a0_7 a0_8 a0_9 a0_10 a0_11 _ _ l0_12 _ _ l0_13 t197 _ ?side1 ?side2 ?side3 ?side4 A2.out).mono ?_);(case side1=>repeat (first|exact (Kd.C_below HR0_12.out HB.out)|(with_reducible refine Kd.C_alloc ?_ _)|(with_reducible refine Kd.C_drewN ?_ _)|(with_reducible refine Kd.C_drew ?_)));(case side2=>exact HC0_12.out);(case side3=>repeat (first|exact (Kd.C_below HR0_13.out HB.out)|(with_reducible refine Kd.C_alloc ?_ _)|(with_reducible refine Kd.C_drewN ?_ _)|(with_reducible refine Kd.C_drew ?_)));(case side4=>exact HC0_13.out);rintro e w5 ⟨v198,rfl,ho0,hb⟩;refine ⟨_,rfl,?_⟩;have n0_:=Aside0.mk (Kd.R_lower ho0 (below_size (by repeat (first|(with_reducible first|exact HB.out|apply below_alloc|apply pw_below_drewN|apply below_drew1|refine below_set ?_ GE196.out)|exact HB.out))));have n1_:=Aside0.mk (blk_below (g:=gb196) (o:=.cells #[.int .i64 a0_0,.int .i64 a0_1,.int .i64 a0_2,.int .i64 a0_3,.int .i64 a0_4,.int .i64 a0_5,.bool a0_6,.string a0_7,.string a0_8,.bool a0_9,.string a0_10,.string a0_11,.slice A0_12 l0_12.length c0_12,.slice A0_13 l0_13.length c0_13,.slice A0_14 l0_14.length c0_14] 37 (0,0)) (by (with_reducible repeat (first|refine blk_drewN ?_ _|refine blk_drew ?_|refine blk_alloc ?_ _));exact BK196.out) hb);have n2_:=Aside0.mk (below_step (by repeat (first|(with_reducible first|exact HB.out|apply below_alloc|apply pw_below_drewN|apply below_drew1|refine below_set ?_ GE196.out)|exact HB.out)) hb);clear BK196;clear HB;have HO199:=n0_;have BK196:=n1_;have HB:=n2_;clear n0_ n1_ n2_;(try clear hb);(try clear hb2);(try clear hk);(try clear hi);(try clear ho0)))
 go_loopg [3,5] k (fun kq v3 v5 w'=>∃ (x3_1:List Int) (x5_1:Int),v5 = .int .i64 x5_1∧Aside0 (insolvencyref33_bytesOf.l0 kq x3_1 t197 x5_1 a0_0 a0_1 a0_2 a0_3 a0_4 a0_5 a0_6 a0_7 a0_8 a0_9 a0_10 a0_11 l0_12 l0_13 l0_14=some r)∧Aside0 (kq≤k)∧Aside0 (Kd.R (Kd.int .u8) 5 w' w.heap.size (fun _=>True) v3 x3_1)∧Aside0 (Kd.R (Kd.int .i64) 3 w' w.heap.size (fun _=>True) v198 t197)∧Aside0 (w'.heap[gb196]?=some (.cells #[.int .i64 a0_0,.int .i64 a0_1,.int .i64 a0_2,.int .i64 a0_3,.int .i64 a0_4,.int .i64 a0_5,.bool a0_6,.string a0_7,.string a0_8,.bool a0_9,.string a0_10,.string a0_11,(.slice A0_12 l0_12.length c0_12),(.slice A0_13 l0_13.length c0_13),(.slice A0_14 l0_14.length c0_14)] 37 (0,0)))∧Aside0 (Below w.heap.size w w'))
 case atStart=>exact ⟨(([]:List Int)),(0),(by first|rfl|(simp;done)|(simp [*];done)),H',⟨Nat.le_refl _⟩,⟨by first|exact Kd.R_nil _ _ _ _ _|exact Kd.N_nil _ _ _ _ _|exact Kd.V_nil _ _ _ _ _|exact Kd.Q_nil _ _ _ _ _|exact Kd.S_nil _ _ _ _ _⟩,⟨by (with_reducible repeat (first|apply Kd.R_alloc|apply Kd.R_drewN|apply Kd.R_drew));exact HO199.out⟩,⟨by (with_reducible repeat (first|refine blk_drewN ?_ _|refine blk_drew ?_|refine blk_alloc ?_ _));exact BK196.out⟩,⟨by repeat (first|(with_reducible first|exact HB.out|apply below_alloc|apply pw_below_drewN|apply below_drew1|refine below_set ?_ GE196.out)|exact HB.out)⟩⟩
 case round=>
  clear H'
  try clear p2
  try clear c3
  try clear hcz4_0
  try clear hcz4_1
  try clear hcz4_10
  try clear hcz4_11
  try clear hcz4_12
  try clear hcz4_13
  try clear hcz4_14
  try clear hcz4_2
  try clear hcz4_3
  try clear hcz4_4
  try clear hcz4_5
  try clear hcz4_6
  try clear hcz4_7
  try clear hcz4_8
  try clear hcz4_9
  try clear hfz4_0
  try clear hfz4_1
  try clear hfz4_10
  try clear hfz4_11
  try clear hfz4_12
  try clear hfz4_13
  try clear hfz4_14
  try clear hfz4_2
  try clear hfz4_3
  try clear hfz4_4
  try clear hfz4_5
  try clear hfz4_6
  try clear hfz4_7
  try clear hfz4_8
  try clear hfz4_9
  obtain ⟨x3_1,x5_1,rfl,HA,HK1,HO_3,HO_4,BK196,HB⟩:=hrel
  cases gk with
  | zero=>exact absurd HA.out (by simp [insolvencyref33_bytesOf.l0])
  | succ k1=>
   have H:=HA.out
   clear HA
   simp only [insolvencyref33_bytesOf.l0] at H
   by_cases c6:x5_1<(t197.length:Int)
   ·rw [if_pos c6] at H
    have c6b0:decide (x5_1<(t197.length:Int))=true:=decide_eq_true c6
    clear c6
    by_cases c7:0≤x5_1
    ·rw [if_pos c7] at H
     have c7b0:decide (0≤x5_1)=true:=decide_eq_true c7
     clear c7
     replace H:=Option.bind_eq_some_iff.mp H
     obtain ⟨t201,A80,H⟩:=H
     replace H:(insolvencyref33_bytesOf.l0 k1 t201 t197 (wrap64 (x5_1+1)) a0_0 a0_1 a0_2 a0_3 a0_4 a0_5 a0_6 a0_7 a0_8 a0_9 a0_10 a0_11 l0_12 l0_13 l0_14)=some r:=H
     have A8:=Aside0.mk A80
     clear A80
     have H':=Aside0.mk H
     clear H
     obtain ⟨Ao9,co9,eo9⟩:=Kd.R_slice HO_4.out
     subst eo9
     have p200:0≤(x5_1:Int):=of_decide_eq_true (by first|(with_reducible assumption)|assumption)
     have q200:x5_1<(t197.length:Int):=of_decide_eq_true (by first|(with_reducible assumption)|assumption)
     obtain ⟨ad200,e200,hx200_0⟩:=Kd.at_int (Kd.R_reads' HO_4.out).2.2 x5_1 p200 q200
     cases e200
     replace p200:=eq_true p200
     replace q200:=eq_true q200
     obtain ⟨Ao10,co10,eo10⟩:=Kd.R_slice HO_3.out
     subst eo10
     go_wp2_with (first|((with_reducible refine gate_callee (f:=43) rfl ?_);refine goesL_ (some 24) rfl rfl Tryd.func43 (by kernel_rfl) rfl #[.slice Ao10 x3_1.length co10,.int .i64 (rd t197 x5_1)] rfl (by (try simp only [List.map_toArray,List.map_cons,List.map_nil]);first|done|rfl|(simp only [List.length_drop,List.length_take];rfl)) ?_;(with_reducible refine (insolvencyref33_num.calls k1 (fun k_=>some k_=(.slice Ao10 x3_1.length co10:Value).ownBlock) (.slice Ao10 x3_1.length co10) x3_1 (rd t197 x5_1) t201 w _ ?side1 ?side2 A8.out).mono ?_);(case side1=>repeat (first|(with_reducible first|exact HB.out|apply below_alloc|apply pw_below_drewN|apply below_drew1|refine below_set ?_ GE196.out)|exact HB.out));(case side2=>exact Kd.R_tight rfl HO_3.out);rintro e w11 ⟨v202,rfl,ho0,hb,hkp⟩;refine ⟨_,rfl,?_⟩;have n0_:=Aside0.mk (Kd.R_mono (ok':=fun k_=>True) (Kd.R_keptB ((Kd.R_apart' HO_4.out (Kd.R_typed HO_3.out) (by decide))) hkp (fun k_ hk_ hs_=>(hk_.2) hs_)) (fun k_ hk_=>trivial));have n1_:=Aside0.mk (blk_kept (by (with_reducible repeat (first|refine blk_drewN ?_ _|refine blk_drew ?_|refine blk_alloc ?_ _));exact BK196.out) hkp (fun hs_=>(fun e_=>(Kd.R_ne HO_3.out BK196.out (by decide)) e_) hs_));have n2_:=Aside0.mk (Kd.R_mono (ok':=fun k_=>True) ho0 (fun k_ hk_=>trivial));have n3_:=Aside0.mk (hb);clear HO_4;clear BK196;clear HB;clear HO_3;have HO_4:=n0_;have BK196:=n1_;have HO203:=n2_;have HB:=n3_;clear n0_ n1_ n2_ n3_;(try clear hb);(try clear hkp);(try clear ho0)))
     go_roundg k1
     case measure=>have:=HK1.out;omega
     case rel=>exact ⟨(t201),(wrap64 (x5_1+1)),(by first|rfl|(simp;done)|(simp [*];done)),H',⟨by have:=HK1.out;omega⟩,⟨by (with_reducible repeat (first|apply Kd.R_alloc|apply Kd.R_drewN|apply Kd.R_drew));exact HO203.out⟩,⟨by (with_reducible repeat (first|apply Kd.R_alloc|apply Kd.R_drewN|apply Kd.R_drew));exact HO_4.out⟩,⟨by (with_reducible repeat (first|refine blk_drewN ?_ _|refine blk_drew ?_|refine blk_alloc ?_ _));exact BK196.out⟩,⟨by repeat (first|(with_reducible first|exact HB.out|apply below_alloc|apply pw_below_drewN|apply below_drew1|refine below_set ?_ GE196.out)|exact HB.out)⟩⟩
    ·rw [if_neg c7] at H
     exact absurd H (by simp)
   ·rw [if_neg c6] at H
    have c6b0:decide (x5_1<(t197.length:Int))=false:=decide_eq_false c6
    clear c6
    replace H:=Option.bind_eq_some_iff.mp H
    obtain ⟨t204,A120,H⟩:=H
    replace H:((insolvencyref33_rat.f k1 t204 a0_9 a0_10 a0_11).bind fun t207=>((insolvencyref33_num.f k1 t207 (l0_12.length:Int)).bind fun t210=>(insolvencyref33_bytesOf.l1 k1 t210 0 a0_0 a0_1 a0_2 a0_3 a0_4 a0_5 a0_6 a0_7 a0_8 a0_9 a0_10 a0_11 l0_12 l0_13 l0_14)))=some r:=H
    have A12:=Aside0.mk A120
    clear A120
    replace H:=Option.bind_eq_some_iff.mp H
    obtain ⟨t207,A130,H⟩:=H
    replace H:((insolvencyref33_num.f k1 t207 (l0_12.length:Int)).bind fun t210=>(insolvencyref33_bytesOf.l1 k1 t210 0 a0_0 a0_1 a0_2 a0_3 a0_4 a0_5 a0_6 a0_7 a0_8 a0_9 a0_10 a0_11 l0_12 l0_13 l0_14))=some r:=H
    have A13:=Aside0.mk A130
    clear A130
    replace H:=Option.bind_eq_some_iff.mp H
    obtain ⟨t210,A140,H⟩:=H
    replace H:(insolvencyref33_bytesOf.l1 k1 t210 0 a0_0 a0_1 a0_2 a0_3 a0_4 a0_5 a0_6 a0_7 a0_8 a0_9 a0_10 a0_11 l0_12 l0_13 l0_14)=some r:=H
    have A14:=Aside0.mk A140
    clear A140
    have H':=Aside0.mk H
    clear H
    obtain ⟨Ao15,co15,eo15⟩:=Kd.R_slice HO_4.out
    subst eo15
    try go_wp2
    have n0_:=Aside0.mk (Kd.R_drew HO_3.out)
    have n1_:=Aside0.mk (Kd.R_drew HO_4.out)
    have n2_:=Aside0.mk (blk_drew BK196.out)
    have n3_:=Aside0.mk (below_drew1 HB.out)
    clear HO_3
    clear HO_4
    clear BK196
    clear HB
    have HO_3:=n0_
    have HO_4:=n1_
    have BK196:=n2_
    have HB:=n3_
    clear n0_ n1_ n2_ n3_
    obtain ⟨Ao17,co17,eo17⟩:=Kd.R_slice HO_3.out
    (first|subst eo17|(injection eo17 with f1_ f2_ f3_;have f4_:=f1_.symm;have f5_:=f3_.symm;clear f1_ f2_ f3_;subst f4_;subst f5_))
    refine start_ (n:=10) (S:=fun w'=>w'.cell? ⟨gb196,0,none⟩=some (.int .i64 a0_0)∧w'.cell? ⟨gb196,1,none⟩=some (.int .i64 a0_1)∧w'.cell? ⟨gb196,2,none⟩=some (.int .i64 a0_2)∧w'.cell? ⟨gb196,3,none⟩=some (.int .i64 a0_3)∧w'.cell? ⟨gb196,4,none⟩=some (.int .i64 a0_4)∧w'.cell? ⟨gb196,5,none⟩=some (.int .i64 a0_5)∧w'.cell? ⟨gb196,6,none⟩=some (.bool a0_6)∧w'.cell? ⟨gb196,7,none⟩=some (.string a0_7)∧w'.cell? ⟨gb196,8,none⟩=some (.string a0_8)∧w'.cell? ⟨gb196,9,none⟩=some (.bool a0_9)∧w'.cell? ⟨gb196,10,none⟩=some (.string a0_10)∧w'.cell? ⟨gb196,11,none⟩=some (.string a0_11)∧w'.cell? ⟨gb196,12,none⟩=some (.slice A0_12 l0_12.length c0_12)∧w'.cell? ⟨gb196,13,none⟩=some (.slice A0_13 l0_13.length c0_13)∧w'.cell? ⟨gb196,14,none⟩=some (.slice A0_14 l0_14.length c0_14)) (ds:=[]) #[false,false,false,false,false,false,false,false,false,false] (by kernel_rfl) rfl rfl ⟨(blk_cell BK196.out 0).trans rfl,(blk_cell BK196.out 1).trans rfl,(blk_cell BK196.out 2).trans rfl,(blk_cell BK196.out 3).trans rfl,(blk_cell BK196.out 4).trans rfl,(blk_cell BK196.out 5).trans rfl,(blk_cell BK196.out 6).trans rfl,(blk_cell BK196.out 7).trans rfl,(blk_cell BK196.out 8).trans rfl,(blk_cell BK196.out 9).trans rfl,(blk_cell BK196.out 10).trans rfl,(blk_cell BK196.out 11).trans rfl,(blk_cell BK196.out 12).trans rfl,(blk_cell BK196.out 13).trans rfl,(blk_cell BK196.out 14).trans rfl⟩ (fun hHeld=>?_);refine with_tabW insolvencyref33_bytesOf.tab7 insolvencyref33_bytesOf.bits7 (fun HT_ HW_=>?_)
    generalize wr.drew=w16 at HO_3 HO_4 BK196 HB hHeld ⊢
    refine pure_ (i:=0) (N:=some 25) (v:=?_) (a':=?_) #[true,false,false,false,false,false,false,false,false,false] rfl rfl (any_of HT_.out (by kernel_rfl)) (fun _ _ _ h=>h) (Or.inl ⟨by rfl,?_⟩) ?_ ?_
    rotate_left
    ·intro w'
     go_simp
     with_reducible rfl
    rotate_left
    ·simp only [Act.put,List.setIfInBounds_toArray,List.set_cons_zero,List.set_cons_succ,i64_w,i32_w]
     rfl
    refine pure_ (i:=1) (N:=some 26) (v:=?_) (a':=?_) #[true,true,false,false,false,false,false,false,false,false] rfl rfl (any_of HT_.out (by kernel_rfl)) (fun _ _ _ h=>h) (Or.inl ⟨by rfl,?_⟩) ?_ ?_
    rotate_left
    ·intro w'
     go_simp
     with_reducible rfl
    rotate_left
    ·simp only [Act.put,List.setIfInBounds_toArray,List.set_cons_zero,List.set_cons_succ,i64_w,i32_w]
     rfl
    refine pure_ (i:=2) (N:=some 27) (v:=?_) (a':=?_) #[true,true,true,false,false,false,false,false,false,false] rfl rfl (any_of HT_.out (by kernel_rfl)) (fun _ _ _ h=>h) (Or.inl ⟨by rfl,?_⟩) ?_ ?_
    rotate_left
    ·intro w'
     go_simp
     with_reducible rfl
    rotate_left
    ·simp only [Act.put,List.setIfInBounds_toArray,List.set_cons_zero,List.set_cons_succ,i64_w,i32_w]
     rfl
    refine pure_ (i:=5) (N:=some 30) (v:=?_) (a':=?_) #[true,true,true,false,false,true,false,false,false,false] rfl rfl (any_of HT_.out (by kernel_rfl)) (fun _ _ _ h=>h) (Or.inl ⟨by rfl,?_⟩) ?_ ?_
    rotate_left
    ·intro w'
     go_simp
     with_reducible rfl
    rotate_left
    ·simp only [Act.put,List.setIfInBounds_toArray,List.set_cons_zero,List.set_cons_succ,i64_w,i32_w]
     rfl
    refine pure_ (i:=6) (N:=some 31) (v:=?_) (a':=?_) #[true,true,true,false,false,true,true,false,false,false] rfl rfl (any_of HT_.out (by kernel_rfl)) (fun _ _ _ h=>h) (Or.inl ⟨by rfl,?_⟩) ?_ ?_
    rotate_left
    ·intro w'
     go_simp
     with_reducible rfl
    rotate_left
    ·simp only [Act.put,List.setIfInBounds_toArray,List.set_cons_zero,List.set_cons_succ,i64_w,i32_w]
     rfl
    refine take_ (i:=3) (N:=some 28) (v:=?_) (a':=?_) #[true,true,true,true,false,true,true,false,false,false] rfl rfl (take_ofW HT_.out HW_.out (by kernel_rfl)) (fun _ _ _ h=>h) (Or.inl ⟨by rfl,?_⟩) hHeld ?_ ?_
    rotate_left
    ·rintro w' ⟨s0,s1,s2,s3,s4,s5,s6,s7,s8,s9,s10,s11,s12,s13,s14⟩
     go_simp
     with_reducible rfl
    rotate_left
    ·simp only [Act.put,List.setIfInBounds_toArray,List.set_cons_zero,List.set_cons_succ,i64_w,i32_w]
     rfl
    refine take_ (i:=7) (N:=some 32) (v:=?_) (a':=?_) #[true,true,true,true,false,true,true,true,false,false] rfl rfl (take_ofW HT_.out HW_.out (by kernel_rfl)) (fun _ _ _ h=>h) (Or.inl ⟨by rfl,?_⟩) hHeld ?_ ?_
    rotate_left
    ·rintro w' ⟨s0,s1,s2,s3,s4,s5,s6,s7,s8,s9,s10,s11,s12,s13,s14⟩
     go_simp
     with_reducible rfl
    rotate_left
    ·simp only [Act.put,List.setIfInBounds_toArray,List.set_cons_zero,List.set_cons_succ,i64_w,i32_w]
     rfl
    refine one_ (i:=4) (N:=some 29) #[true,true,true,true,true,true,true,true,false,false] rfl rfl (one_of HT_.out (by kernel_rfl)) (by decide) (fun K hK=>?_)
    refine goes_ Tryd.func44 (by kernel_rfl) rfl #[.slice Ao17 x3_1.length co17,.agg #[.bool a0_6,.string a0_7,.string a0_8]] (by rfl) rfl rfl (by (try simp only [List.map_toArray,List.map_cons,List.map_nil]);first|done|rfl|(simp only [List.length_drop,List.length_take];rfl)) ?_
    with_reducible refine (insolvencyref33_rat.calls k1 (fun k_=>some k_=(.slice Ao17 x3_1.length co17:Value).ownBlock) (.slice Ao17 x3_1.length co17) x3_1 a0_6 a0_7 a0_8 t204 w _ ?side1 ?side2 A12.out).mono ?_
    (case side1=>repeat (first|(with_reducible first|exact HB.out|apply below_alloc|apply pw_below_drewN|apply below_drew1|refine below_set ?_ GE196.out)|exact HB.out))
    (case side2=>exact Kd.R_tight rfl HO_3.out)
    rintro e w18 ⟨v205,rfl,ho0,hb,hkp⟩
    refine ⟨_,rfl,?_⟩
    have n0_:=Aside0.mk (Kd.R_mono (ok':=fun k_=>True) (Kd.R_keptB ((Kd.R_apart' HO_4.out (Kd.R_typed HO_3.out) (by decide))) hkp (fun k_ hk_ hs_=>(hk_.2) hs_)) (fun k_ hk_=>trivial))
    have n1_:=Aside0.mk (blk_kept (by (with_reducible repeat (first|refine blk_drewN ?_ _|refine blk_drew ?_|refine blk_alloc ?_ _));exact BK196.out) hkp (fun hs_=>(fun e_=>(Kd.R_ne HO_3.out BK196.out (by decide)) e_) hs_))
    have n2_:=Aside0.mk (Kd.R_mono (ok':=fun k_=>True) ho0 (fun k_ hk_=>trivial))
    have n3_:=Aside0.mk (hb)
    clear HO_4
    clear BK196
    clear HB
    clear HO_3
    have HO_4:=n0_
    have BK196:=n1_
    have HO206:=n2_
    have HB:=n3_
    clear n0_ n1_ n2_ n3_
    (try clear hb)
    (try clear hkp)
    (try clear ho0)
    obtain ⟨Ao19,co19,eo19⟩:=Kd.R_slice HO206.out
    (first|subst eo19|(injection eo19 with f1_ f2_ f3_;have f4_:=f1_.symm;have f5_:=f3_.symm;clear f1_ f2_ f3_;subst f4_;subst f5_))
    refine hK.out _ _ ⟨(blk_cell BK196.out 0).trans rfl,(blk_cell BK196.out 1).trans rfl,(blk_cell BK196.out 2).trans rfl,(blk_cell BK196.out 3).trans rfl,(blk_cell BK196.out 4).trans rfl,(blk_cell BK196.out 5).trans rfl,(blk_cell BK196.out 6).trans rfl,(blk_cell BK196.out 7).trans rfl,(blk_cell BK196.out 8).trans rfl,(blk_cell BK196.out 9).trans rfl,(blk_cell BK196.out 10).trans rfl,(blk_cell BK196.out 11).trans rfl,(blk_cell BK196.out 12).trans rfl,(blk_cell BK196.out 13).trans rfl,(blk_cell BK196.out 14).trans rfl⟩ (fun hHeld=>?_)
    clear hK K
    refine norm_ (a':=?_) ?_ ?_
    rotate_left
    ·show Act.put _ (some 29) _=_
     simp only [Act.put,List.setIfInBounds_toArray,List.set_cons_zero,List.set_cons_succ,i64_w,i32_w]
     rfl
    refine one_ (i:=8) (N:=some 33) #[true,true,true,true,true,true,true,true,true,false] rfl rfl (one_of HT_.out (by kernel_rfl)) (by decide) (fun K hK=>?_)
    refine goes_ Tryd.func44 (by kernel_rfl) rfl #[.slice Ao19 t204.length co19,.agg #[.bool a0_9,.string a0_10,.string a0_11]] (by rfl) rfl rfl (by (try simp only [List.map_toArray,List.map_cons,List.map_nil]);first|done|rfl|(simp only [List.length_drop,List.length_take];rfl)) ?_
    with_reducible refine (insolvencyref33_rat.calls k1 (fun k_=>some k_=(.slice Ao19 t204.length co19:Value).ownBlock) (.slice Ao19 t204.length co19) t204 a0_9 a0_10 a0_11 t207 w _ ?side1 ?side2 A13.out).mono ?_
    (case side1=>repeat (first|(with_reducible first|exact HB.out|apply below_alloc|apply pw_below_drewN|apply below_drew1|refine below_set ?_ GE196.out)|exact HB.out))
    (case side2=>exact Kd.R_tight rfl HO206.out)
    rintro e w20 ⟨v208,rfl,ho0,hb,hkp⟩
    refine ⟨_,rfl,?_⟩
    have n0_:=Aside0.mk (Kd.R_mono (ok':=fun k_=>True) (Kd.R_keptB ((Kd.R_apart' HO_4.out (Kd.R_typed HO206.out) (by decide))) hkp (fun k_ hk_ hs_=>(hk_.2) hs_)) (fun k_ hk_=>trivial))
    have n1_:=Aside0.mk (blk_kept (by (with_reducible repeat (first|refine blk_drewN ?_ _|refine blk_drew ?_|refine blk_alloc ?_ _));exact BK196.out) hkp (fun hs_=>(fun e_=>(Kd.R_ne HO206.out BK196.out (by decide)) e_) hs_))
    have n2_:=Aside0.mk (Kd.R_mono (ok':=fun k_=>True) ho0 (fun k_ hk_=>trivial))
    have n3_:=Aside0.mk (hb)
    clear HO_4
    clear BK196
    clear HB
    clear HO206
    have HO_4:=n0_
    have BK196:=n1_
    have HO209:=n2_
    have HB:=n3_
    clear n0_ n1_ n2_ n3_
    (try clear hb)
    (try clear hkp)
    (try clear ho0)
    refine hK.out _ _ ⟨(blk_cell BK196.out 0).trans rfl,(blk_cell BK196.out 1).trans rfl,(blk_cell BK196.out 2).trans rfl,(blk_cell BK196.out 3).trans rfl,(blk_cell BK196.out 4).trans rfl,(blk_cell BK196.out 5).trans rfl,(blk_cell BK196.out 6).trans rfl,(blk_cell BK196.out 7).trans rfl,(blk_cell BK196.out 8).trans rfl,(blk_cell BK196.out 9).trans rfl,(blk_cell BK196.out 10).trans rfl,(blk_cell BK196.out 11).trans rfl,(blk_cell BK196.out 12).trans rfl,(blk_cell BK196.out 13).trans rfl,(blk_cell BK196.out 14).trans rfl⟩ (fun hHeld=>?_)
    clear hK K
    refine norm_ (a':=?_) ?_ ?_
    rotate_left
    ·show Act.put _ (some 33) _=_
     simp only [Act.put,List.setIfInBounds_toArray,List.set_cons_zero,List.set_cons_succ,i64_w,i32_w]
     rfl
    refine pure_ (i:=9) (N:=some 3) (v:=?_) (a':=?_) #[true,true,true,true,true,true,true,true,true,true] rfl rfl (any_of HT_.out (by kernel_rfl)) (fun _ _ _ h=>h) (Or.inl ⟨by rfl,?_⟩) ?_ ?_
    rotate_left
    ·intro w'
     go_simp
     with_reducible rfl
    rotate_left
    ·simp only [Act.put,List.setIfInBounds_toArray,List.set_cons_zero,List.set_cons_succ,i64_w,i32_w]
     rfl
    refine done_ (done_of HT_.out (by kernel_rfl)) ?_
    have hcz21_0:w20.cell? ⟨gb196,0,none⟩=some (.int .i64 a0_0):=(blk_cell BK196.out 0).trans rfl
    have hcz21_1:w20.cell? ⟨gb196,1,none⟩=some (.int .i64 a0_1):=(blk_cell BK196.out 1).trans rfl
    have hcz21_2:w20.cell? ⟨gb196,2,none⟩=some (.int .i64 a0_2):=(blk_cell BK196.out 2).trans rfl
    have hcz21_3:w20.cell? ⟨gb196,3,none⟩=some (.int .i64 a0_3):=(blk_cell BK196.out 3).trans rfl
    have hcz21_4:w20.cell? ⟨gb196,4,none⟩=some (.int .i64 a0_4):=(blk_cell BK196.out 4).trans rfl
    have hcz21_5:w20.cell? ⟨gb196,5,none⟩=some (.int .i64 a0_5):=(blk_cell BK196.out 5).trans rfl
    have hcz21_6:w20.cell? ⟨gb196,6,none⟩=some (.bool a0_6):=(blk_cell BK196.out 6).trans rfl
    have hcz21_7:w20.cell? ⟨gb196,7,none⟩=some (.string a0_7):=(blk_cell BK196.out 7).trans rfl
    have hcz21_8:w20.cell? ⟨gb196,8,none⟩=some (.string a0_8):=(blk_cell BK196.out 8).trans rfl
    have hcz21_9:w20.cell? ⟨gb196,9,none⟩=some (.bool a0_9):=(blk_cell BK196.out 9).trans rfl
    have hcz21_10:w20.cell? ⟨gb196,10,none⟩=some (.string a0_10):=(blk_cell BK196.out 10).trans rfl
    have hcz21_11:w20.cell? ⟨gb196,11,none⟩=some (.string a0_11):=(blk_cell BK196.out 11).trans rfl
    have hcz21_12:w20.cell? ⟨gb196,12,none⟩=some (.slice A0_12 l0_12.length c0_12):=(blk_cell BK196.out 12).trans rfl
    have hcz21_13:w20.cell? ⟨gb196,13,none⟩=some (.slice A0_13 l0_13.length c0_13):=(blk_cell BK196.out 13).trans rfl
    have hcz21_14:w20.cell? ⟨gb196,14,none⟩=some (.slice A0_14 l0_14.length c0_14):=(blk_cell BK196.out 14).trans rfl
    have hfz21_0:=blk_frozen BK196.out 0
    have hfz21_1:=blk_frozen BK196.out 1
    have hfz21_2:=blk_frozen BK196.out 2
    have hfz21_3:=blk_frozen BK196.out 3
    have hfz21_4:=blk_frozen BK196.out 4
    have hfz21_5:=blk_frozen BK196.out 5
    have hfz21_6:=blk_frozen BK196.out 6
    have hfz21_7:=blk_frozen BK196.out 7
    have hfz21_8:=blk_frozen BK196.out 8
    have hfz21_9:=blk_frozen BK196.out 9
    have hfz21_10:=blk_frozen BK196.out 10
    have hfz21_11:=blk_frozen BK196.out 11
    have hfz21_12:=blk_frozen BK196.out 12
    have hfz21_13:=blk_frozen BK196.out 13
    have hfz21_14:=blk_frozen BK196.out 14
    obtain ⟨Ao22,co22,eo22⟩:=Kd.R_slice HO209.out
    subst eo22
    try go_wp2_with (first|((with_reducible refine gate_callee (f:=43) rfl ?_);refine goesL_ (some 39) rfl rfl Tryd.func43 (by kernel_rfl) rfl #[.slice Ao22 t207.length co22,.int .i64 (l0_12.length:Int)] rfl (by (try simp only [List.map_toArray,List.map_cons,List.map_nil]);first|done|rfl|(simp only [List.length_drop,List.length_take];rfl)) ?_;(with_reducible refine (insolvencyref33_num.calls k1 (fun k_=>some k_=(.slice Ao22 t207.length co22:Value).ownBlock) (.slice Ao22 t207.length co22) t207 (l0_12.length:Int) t210 w _ ?side1 ?side2 A14.out).mono ?_);(case side1=>repeat (first|(with_reducible first|exact HB.out|apply below_alloc|apply pw_below_drewN|apply below_drew1|refine below_set ?_ GE196.out)|exact HB.out));(case side2=>exact Kd.R_tight rfl HO209.out);rintro e w23 ⟨v211,rfl,ho0,hb,hkp⟩;refine ⟨_,rfl,?_⟩;have n0_:=Aside0.mk (Kd.R_mono (ok':=fun k_=>True) (Kd.R_keptB ((Kd.R_apart' HO_4.out (Kd.R_typed HO209.out) (by decide))) hkp (fun k_ hk_ hs_=>(hk_.2) hs_)) (fun k_ hk_=>trivial));have n1_:=Aside0.mk (blk_kept (by (with_reducible repeat (first|refine blk_drewN ?_ _|refine blk_drew ?_|refine blk_alloc ?_ _));exact BK196.out) hkp (fun hs_=>(fun e_=>(Kd.R_ne HO209.out BK196.out (by decide)) e_) hs_));have n2_:=Aside0.mk (Kd.R_mono (ok':=fun k_=>True) ho0 (fun k_ hk_=>trivial));have n3_:=Aside0.mk (hb);clear HO_4;clear BK196;clear HB;clear HO209;have HO_4:=n0_;have BK196:=n1_;have HO212:=n2_;have HB:=n3_;clear n0_ n1_ n2_ n3_;(try clear hb);(try clear hkp);(try clear ho0)))
    go_loopg [3,6] k1 (fun kq v3 v6 w'=>∃ (x3_2:List Int) (x6_2:Int),v6 = .int .i64 x6_2∧Aside0 (insolvencyref33_bytesOf.l1 kq x3_2 x6_2 a0_0 a0_1 a0_2 a0_3 a0_4 a0_5 a0_6 a0_7 a0_8 a0_9 a0_10 a0_11 l0_12 l0_13 l0_14=some r)∧Aside0 (kq≤k1)∧Aside0 (Kd.R (Kd.int .u8) 5 w' w.heap.size (fun _=>True) v3 x3_2)∧Aside0 (w'.heap[gb196]?=some (.cells #[.int .i64 a0_0,.int .i64 a0_1,.int .i64 a0_2,.int .i64 a0_3,.int .i64 a0_4,.int .i64 a0_5,.bool a0_6,.string a0_7,.string a0_8,.bool a0_9,.string a0_10,.string a0_11,(.slice A0_12 l0_12.length c0_12),(.slice A0_13 l0_13.length c0_13),(.slice A0_14 l0_14.length c0_14)] 37 (0,0)))∧Aside0 (Below w.heap.size w w'))
    case atStart=>exact ⟨(t210),(0),(by first|rfl|(simp;done)|(simp [*];done)),H',⟨Nat.le_refl _⟩,⟨by (with_reducible repeat (first|apply Kd.R_alloc|apply Kd.R_drewN|apply Kd.R_drew));exact HO212.out⟩,⟨by (with_reducible repeat (first|refine blk_drewN ?_ _|refine blk_drew ?_|refine blk_alloc ?_ _));exact BK196.out⟩,⟨by repeat (first|(with_reducible first|exact HB.out|apply below_alloc|apply pw_below_drewN|apply below_drew1|refine below_set ?_ GE196.out)|exact HB.out)⟩⟩
    case round=>
     clear H'
     try clear p2
     try clear q2
     try clear hx2
     try clear c3
     try clear c4
     try clear c6
     try clear c6b0
     try clear p6
     try clear c7
     try clear c7b0
     try clear p20
     try clear q20
     try clear hx20
     try clear hcz21_0
     try clear hcz21_1
     try clear hcz21_10
     try clear hcz21_11
     try clear hcz21_12
     try clear hcz21_13
     try clear hcz21_14
     try clear hcz21_2
     try clear hcz21_3
     try clear hcz21_4
     try clear hcz21_5
     try clear hcz21_6
     try clear hcz21_7
     try clear hcz21_8
     try clear hcz21_9
     try clear hcz4_0
     try clear hcz4_1
     try clear hcz4_10
     try clear hcz4_11
     try clear hcz4_12
     try clear hcz4_13
     try clear hcz4_14
     try clear hcz4_2
     try clear hcz4_3
     try clear hcz4_4
     try clear hcz4_5
     try clear hcz4_6
     try clear hcz4_7
     try clear hcz4_8
     try clear hcz4_9
     try clear hfz21_0
     try clear hfz21_1
     try clear hfz21_10
     try clear hfz21_11
     try clear hfz21_12
     try clear hfz21_13
     try clear hfz21_14
     try clear hfz21_2
     try clear hfz21_3
     try clear hfz21_4
     try clear hfz21_5
     try clear hfz21_6
     try clear hfz21_7
     try clear hfz21_8
     try clear hfz21_9
     try clear hfz4_0
     try clear hfz4_1
     try clear hfz4_10
     try clear hfz4_11
     try clear hfz4_12
     try clear hfz4_13
     try clear hfz4_14
     try clear hfz4_2
     try clear hfz4_3
     try clear hfz4_4
     try clear hfz4_5
     try clear hfz4_6
     try clear hfz4_7
     try clear hfz4_8
     try clear hfz4_9
     try clear hx200_0
     try clear p2
     try clear p200
     try clear q200
     obtain ⟨x3_2,x6_2,rfl,HA,HK2,HO_3,BK196,HB⟩:=hrel
     cases gk with
     | zero=>exact absurd HA.out (by simp [insolvencyref33_bytesOf.l1])
     | succ k2=>
      have H:=HA.out
      clear HA
      simp only [insolvencyref33_bytesOf.l1] at H
      by_cases c24:x6_2<(l0_12.length:Int)
      ·rw [if_pos c24] at H
       have c24b0:decide (x6_2<(l0_12.length:Int))=true:=decide_eq_true c24
       clear c24
       by_cases c25:0≤x6_2
       ·rw [if_pos c25] at H
        have c25b0:decide (0≤x6_2)=true:=decide_eq_true c25
        clear c25
        replace H:=Option.bind_eq_some_iff.mp H
        obtain ⟨t214,A260,H⟩:=H
        replace H:((insolvencyref33_num.f k2 t214 ((rd_T49 l0_12 x6_2).f1)).bind fun t218=>(insolvencyref33_bytesOf.l1 k2 t218 (wrap64 (x6_2+1)) a0_0 a0_1 a0_2 a0_3 a0_4 a0_5 a0_6 a0_7 a0_8 a0_9 a0_10 a0_11 l0_12 l0_13 l0_14))=some r:=H
        have A26:=Aside0.mk A260
        clear A260
        replace H:=Option.bind_eq_some_iff.mp H
        obtain ⟨t218,A270,H⟩:=H
        replace H:(insolvencyref33_bytesOf.l1 k2 t218 (wrap64 (x6_2+1)) a0_0 a0_1 a0_2 a0_3 a0_4 a0_5 a0_6 a0_7 a0_8 a0_9 a0_10 a0_11 l0_12 l0_13 l0_14)=some r:=H
        have A27:=Aside0.mk A270
        clear A270
        have H':=Aside0.mk H
        clear H
        have hcz28_0:wr.cell? ⟨gb196,0,none⟩=some (.int .i64 a0_0):=(blk_cell BK196.out 0).trans rfl
        have hcz28_1:wr.cell? ⟨gb196,1,none⟩=some (.int .i64 a0_1):=(blk_cell BK196.out 1).trans rfl
        have hcz28_2:wr.cell? ⟨gb196,2,none⟩=some (.int .i64 a0_2):=(blk_cell BK196.out 2).trans rfl
        have hcz28_3:wr.cell? ⟨gb196,3,none⟩=some (.int .i64 a0_3):=(blk_cell BK196.out 3).trans rfl
        have hcz28_4:wr.cell? ⟨gb196,4,none⟩=some (.int .i64 a0_4):=(blk_cell BK196.out 4).trans rfl
        have hcz28_5:wr.cell? ⟨gb196,5,none⟩=some (.int .i64 a0_5):=(blk_cell BK196.out 5).trans rfl
        have hcz28_6:wr.cell? ⟨gb196,6,none⟩=some (.bool a0_6):=(blk_cell BK196.out 6).trans rfl
        have hcz28_7:wr.cell? ⟨gb196,7,none⟩=some (.string a0_7):=(blk_cell BK196.out 7).trans rfl
        have hcz28_8:wr.cell? ⟨gb196,8,none⟩=some (.string a0_8):=(blk_cell BK196.out 8).trans rfl
        have hcz28_9:wr.cell? ⟨gb196,9,none⟩=some (.bool a0_9):=(blk_cell BK196.out 9).trans rfl
        have hcz28_10:wr.cell? ⟨gb196,10,none⟩=some (.string a0_10):=(blk_cell BK196.out 10).trans rfl
        have hcz28_11:wr.cell? ⟨gb196,11,none⟩=some (.string a0_11):=(blk_cell BK196.out 11).trans rfl
        have hcz28_12:wr.cell? ⟨gb196,12,none⟩=some (.slice A0_12 l0_12.length c0_12):=(blk_cell BK196.out 12).trans rfl
        have hcz28_13:wr.cell? ⟨gb196,13,none⟩=some (.slice A0_13 l0_13.length c0_13):=(blk_cell BK196.out 13).trans rfl
        have hcz28_14:wr.cell? ⟨gb196,14,none⟩=some (.slice A0_14 l0_14.length c0_14):=(blk_cell BK196.out 14).trans rfl
        have hfz28_0:=blk_frozen BK196.out 0
        have hfz28_1:=blk_frozen BK196.out 1
        have hfz28_2:=blk_frozen BK196.out 2
        have hfz28_3:=blk_frozen BK196.out 3
        have hfz28_4:=blk_frozen BK196.out 4
        have hfz28_5:=blk_frozen BK196.out 5
        have hfz28_6:=blk_frozen BK196.out 6
        have hfz28_7:=blk_frozen BK196.out 7
        have hfz28_8:=blk_frozen BK196.out 8
        have hfz28_9:=blk_frozen BK196.out 9
        have hfz28_10:=blk_frozen BK196.out 10
        have hfz28_11:=blk_frozen BK196.out 11
        have hfz28_12:=blk_frozen BK196.out 12
        have hfz28_13:=blk_frozen BK196.out 13
        have hfz28_14:=blk_frozen BK196.out 14
        try go_wp2
        have n0_:=Aside0.mk (Kd.R_drew HO_3.out)
        have n1_:=Aside0.mk (blk_drew BK196.out)
        have n2_:=Aside0.mk (below_drew1 HB.out)
        clear HO_3
        clear BK196
        clear HB
        have HO_3:=n0_
        have BK196:=n1_
        have HB:=n2_
        clear n0_ n1_ n2_
        have p213:0≤(x6_2:Int):=of_decide_eq_true (by first|(with_reducible assumption)|assumption)
        have q213:x6_2<(l0_12.length:Int):=of_decide_eq_true (by first|(with_reducible assumption)|assumption)
        obtain ⟨ad213,e213,hx213_0,hx213_1⟩:=at_T49 HR0_12.out x6_2 p213 q213
        have hw213_1:=hx213_1
        have hw213_0:=hx213_0
        cases e213
        replace hx213_0:=(HB.out.cell (World.block_lt_of_cell? w _ hx213_0)).trans hx213_0
        replace hx213_1:=(HB.out.cell (World.block_lt_of_cell? w _ hx213_1)).trans hx213_1
        replace p213:=eq_true p213
        replace q213:=eq_true q213
        have p217:0≤(x6_2:Int):=of_decide_eq_true (by first|(with_reducible assumption)|assumption)
        have q217:x6_2<(l0_12.length:Int):=of_decide_eq_true (by first|(with_reducible assumption)|assumption)
        obtain ⟨ad217,e217,hx217_0,hx217_1⟩:=at_T49 HR0_12.out x6_2 p217 q217
        have hw217_1:=hx217_1
        have hw217_0:=hx217_0
        obtain rfl:ad213=ad217:=(by injection e217)
        replace hx217_0:=(HB.out.cell (World.block_lt_of_cell? w _ hx217_0)).trans hx217_0
        replace hx217_1:=(HB.out.cell (World.block_lt_of_cell? w _ hx217_1)).trans hx217_1
        replace p217:=eq_true p217
        replace q217:=eq_true q217
        obtain ⟨Ao30,co30,eo30⟩:=Kd.R_slice HO_3.out
        (first|subst eo30|(injection eo30 with f1_ f2_ f3_;have f4_:=f1_.symm;have f5_:=f3_.symm;clear f1_ f2_ f3_;subst f4_;subst f5_))
        refine start_ (n:=18) (S:=fun w'=>w'.cell? ⟨gb196,0,none⟩=some (.int .i64 a0_0)∧w'.cell? ⟨gb196,1,none⟩=some (.int .i64 a0_1)∧w'.cell? ⟨gb196,2,none⟩=some (.int .i64 a0_2)∧w'.cell? ⟨gb196,3,none⟩=some (.int .i64 a0_3)∧w'.cell? ⟨gb196,4,none⟩=some (.int .i64 a0_4)∧w'.cell? ⟨gb196,5,none⟩=some (.int .i64 a0_5)∧w'.cell? ⟨gb196,6,none⟩=some (.bool a0_6)∧w'.cell? ⟨gb196,7,none⟩=some (.string a0_7)∧w'.cell? ⟨gb196,8,none⟩=some (.string a0_8)∧w'.cell? ⟨gb196,9,none⟩=some (.bool a0_9)∧w'.cell? ⟨gb196,10,none⟩=some (.string a0_10)∧w'.cell? ⟨gb196,11,none⟩=some (.string a0_11)∧w'.cell? ⟨gb196,12,none⟩=some (.slice (some ad213) l0_12.length c0_12)∧w'.cell? ⟨gb196,13,none⟩=some (.slice A0_13 l0_13.length c0_13)∧w'.cell? ⟨gb196,14,none⟩=some (.slice A0_14 l0_14.length c0_14)∧w'.cell? (ad213.add ((x6_2).toNat*2))=some (.int .i64 ((rd_T49 l0_12 x6_2).f0))∧w'.cell? ⟨(ad213.add ((x6_2).toNat*2)).block,(ad213.add ((x6_2).toNat*2)).off+1,none⟩=some (.int .i64 ((rd_T49 l0_12 x6_2).f1))∧w'.cell? (ad213.add ((x6_2).toNat*2))=some (.int .i64 ((rd_T49 l0_12 x6_2).f0))∧w'.cell? ⟨(ad213.add ((x6_2).toNat*2)).block,(ad213.add ((x6_2).toNat*2)).off+1,none⟩=some (.int .i64 ((rd_T49 l0_12 x6_2).f1))) (ds:=[]) #[false,false,false,false,false,false,false,false,false,false,false,false,false,false,false,false,false,false] (by kernel_rfl) rfl rfl ⟨(blk_cell BK196.out 0).trans rfl,(blk_cell BK196.out 1).trans rfl,(blk_cell BK196.out 2).trans rfl,(blk_cell BK196.out 3).trans rfl,(blk_cell BK196.out 4).trans rfl,(blk_cell BK196.out 5).trans rfl,(blk_cell BK196.out 6).trans rfl,(blk_cell BK196.out 7).trans rfl,(blk_cell BK196.out 8).trans rfl,(blk_cell BK196.out 9).trans rfl,(blk_cell BK196.out 10).trans rfl,(blk_cell BK196.out 11).trans rfl,(blk_cell BK196.out 12).trans rfl,(blk_cell BK196.out 13).trans rfl,(blk_cell BK196.out 14).trans rfl,((HB.out.cell (World.block_lt_of_cell? w _ hw213_0)).trans hw213_0),((HB.out.cell (World.block_lt_of_cell? w _ hw213_1)).trans hw213_1),((HB.out.cell (World.block_lt_of_cell? w _ hw217_0)).trans hw217_0),((HB.out.cell (World.block_lt_of_cell? w _ hw217_1)).trans hw217_1)⟩ (fun hHeld=>?_);refine with_tabW insolvencyref33_bytesOf.tab12 insolvencyref33_bytesOf.bits12 (fun HT_ HW_=>?_)
        generalize wr.drew=w29 at HO_3 BK196 HB hx213_0 hx213_1 hx217_0 hx217_1 hHeld ⊢
        refine pure_ (i:=0) (N:=some 48) (v:=?_) (a':=?_) #[true,false,false,false,false,false,false,false,false,false,false,false,false,false,false,false,false,false] rfl rfl (any_of HT_.out (by kernel_rfl)) (fun _ _ _ h=>h) (Or.inl ⟨by rfl,?_⟩) ?_ ?_
        rotate_left
        ·intro w'
         go_simp
         with_reducible rfl
        rotate_left
        ·simp only [Act.put,List.setIfInBounds_toArray,List.set_cons_zero,List.set_cons_succ,i64_w,i32_w]
         rfl
        refine pure_ (i:=1) (N:=some 49) (v:=?_) (a':=?_) #[true,true,false,false,false,false,false,false,false,false,false,false,false,false,false,false,false,false] rfl rfl (any_of HT_.out (by kernel_rfl)) (fun _ _ _ h=>h) (Or.inl ⟨by rfl,?_⟩) ?_ ?_
        rotate_left
        ·intro w'
         go_simp
         with_reducible rfl
        rotate_left
        ·simp only [Act.put,List.setIfInBounds_toArray,List.set_cons_zero,List.set_cons_succ,i64_w,i32_w]
         rfl
        refine pure_ (i:=2) (N:=some 50) (v:=?_) (a':=?_) #[true,true,true,false,false,false,false,false,false,false,false,false,false,false,false,false,false,false] rfl rfl (any_of HT_.out (by kernel_rfl)) (fun _ _ _ h=>h) (Or.inl ⟨by rfl,?_⟩) ?_ ?_
        rotate_left
        ·intro w'
         go_simp
         with_reducible rfl
        rotate_left
        ·simp only [Act.put,List.setIfInBounds_toArray,List.set_cons_zero,List.set_cons_succ,i64_w,i32_w]
         rfl
        refine pure_ (i:=4) (N:=some 52) (v:=?_) (a':=?_) #[true,true,true,false,true,false,false,false,false,false,false,false,false,false,false,false,false,false] rfl rfl (any_of HT_.out (by kernel_rfl)) (fun _ _ _ h=>h) (Or.inl ⟨by rfl,?_⟩) ?_ ?_
        rotate_left
        ·intro w'
         go_simp
         with_reducible rfl
        rotate_left
        ·simp only [Act.put,List.setIfInBounds_toArray,List.set_cons_zero,List.set_cons_succ,i64_w,i32_w]
         rfl
        refine pure_ (i:=9) (N:=some 57) (v:=?_) (a':=?_) #[true,true,true,false,true,false,false,false,false,true,false,false,false,false,false,false,false,false] rfl rfl (any_of HT_.out (by kernel_rfl)) (fun _ _ _ h=>h) (Or.inl ⟨by rfl,?_⟩) ?_ ?_
        rotate_left
        ·intro w'
         go_simp
         with_reducible rfl
        rotate_left
        ·simp only [Act.put,List.setIfInBounds_toArray,List.set_cons_zero,List.set_cons_succ,i64_w,i32_w]
         rfl
        refine pure_ (i:=10) (N:=some 58) (v:=?_) (a':=?_) #[true,true,true,false,true,false,false,false,false,true,true,false,false,false,false,false,false,false] rfl rfl (any_of HT_.out (by kernel_rfl)) (fun _ _ _ h=>h) (Or.inl ⟨by rfl,?_⟩) ?_ ?_
        rotate_left
        ·intro w'
         go_simp
         with_reducible rfl
        rotate_left
        ·simp only [Act.put,List.setIfInBounds_toArray,List.set_cons_zero,List.set_cons_succ,i64_w,i32_w]
         rfl
        refine pure_ (i:=12) (N:=some 60) (v:=?_) (a':=?_) #[true,true,true,false,true,false,false,false,false,true,true,false,true,false,false,false,false,false] rfl rfl (any_of HT_.out (by kernel_rfl)) (fun _ _ _ h=>h) (Or.inl ⟨by rfl,?_⟩) ?_ ?_
        rotate_left
        ·intro w'
         go_simp
         with_reducible rfl
        rotate_left
        ·simp only [Act.put,List.setIfInBounds_toArray,List.set_cons_zero,List.set_cons_succ,i64_w,i32_w]
         rfl
        refine take_ (i:=3) (N:=some 51) (v:=?_) (a':=?_) #[true,true,true,true,true,false,false,false,false,true,true,false,true,false,false,false,false,false] rfl rfl (take_ofW HT_.out HW_.out (by kernel_rfl)) (fun _ _ _ h=>h) (Or.inl ⟨by rfl,?_⟩) hHeld ?_ ?_
        rotate_left
        ·rintro w' ⟨s0,s1,s2,s3,s4,s5,s6,s7,s8,s9,s10,s11,s12,s13,s14,s15,s16,s17,s18⟩
         go_simp
         with_reducible rfl
        rotate_left
        ·simp only [Act.put,List.setIfInBounds_toArray,List.set_cons_zero,List.set_cons_succ,i64_w,i32_w]
         rfl
        refine pure_ (i:=5) (N:=some 53) (v:=?_) (a':=?_) #[true,true,true,true,true,true,false,false,false,true,true,false,true,false,false,false,false,false] rfl rfl (any_of HT_.out (by kernel_rfl)) (fun _ _ _ h=>h) (Or.inl ⟨by rfl,?_⟩) ?_ ?_
        rotate_left
        ·intro w'
         go_simp
         with_reducible rfl
        rotate_left
        ·simp only [Act.put,List.setIfInBounds_toArray,List.set_cons_zero,List.set_cons_succ,i64_w,i32_w]
         rfl
        refine pure_ (i:=6) (N:=some 54) (v:=?_) (a':=?_) #[true,true,true,true,true,true,true,false,false,true,true,false,true,false,false,false,false,false] rfl rfl (any_of HT_.out (by kernel_rfl)) (fun _ _ _ h=>h) (Or.inl ⟨by rfl,?_⟩) ?_ ?_
        rotate_left
        ·intro w'
         go_simp
         with_reducible rfl
        rotate_left
        ·simp only [Act.put,List.setIfInBounds_toArray,List.set_cons_zero,List.set_cons_succ,i64_w,i32_w]
         rfl
        refine take_ (i:=7) (N:=some 55) (v:=?_) (a':=?_) #[true,true,true,true,true,true,true,true,false,true,true,false,true,false,false,false,false,false] rfl rfl (take_ofW HT_.out HW_.out (by kernel_rfl)) (fun _ _ _ h=>h) (Or.inl ⟨by rfl,?_⟩) hHeld ?_ ?_
        rotate_left
        ·rintro w' ⟨s0,s1,s2,s3,s4,s5,s6,s7,s8,s9,s10,s11,s12,s13,s14,s15,s16,s17,s18⟩
         go_simp
         with_reducible rfl
        rotate_left
        ·simp only [Act.put,List.setIfInBounds_toArray,List.set_cons_zero,List.set_cons_succ,i64_w,i32_w]
         rfl
        refine take_ (i:=11) (N:=some 59) (v:=?_) (a':=?_) #[true,true,true,true,true,true,true,true,false,true,true,true,true,false,false,false,false,false] rfl rfl (take_ofW HT_.out HW_.out (by kernel_rfl)) (fun _ _ _ h=>h) (Or.inl ⟨by rfl,?_⟩) hHeld ?_ ?_
        rotate_left
        ·rintro w' ⟨s0,s1,s2,s3,s4,s5,s6,s7,s8,s9,s10,s11,s12,s13,s14,s15,s16,s17,s18⟩
         go_simp
         with_reducible rfl
        rotate_left
        ·simp only [Act.put,List.setIfInBounds_toArray,List.set_cons_zero,List.set_cons_succ,i64_w,i32_w]
         rfl
        refine pure_ (i:=13) (N:=some 61) (v:=?_) (a':=?_) #[true,true,true,true,true,true,true,true,false,true,true,true,true,true,false,false,false,false] rfl rfl (any_of HT_.out (by kernel_rfl)) (fun _ _ _ h=>h) (Or.inl ⟨by rfl,?_⟩) ?_ ?_
        rotate_left
        ·intro w'
         go_simp
         with_reducible rfl
        rotate_left
        ·simp only [Act.put,List.setIfInBounds_toArray,List.set_cons_zero,List.set_cons_succ,i64_w,i32_w]
         rfl
        refine pure_ (i:=14) (N:=some 62) (v:=?_) (a':=?_) #[true,true,true,true,true,true,true,true,false,true,true,true,true,true,true,false,false,false] rfl rfl (any_of HT_.out (by kernel_rfl)) (fun _ _ _ h=>h) (Or.inl ⟨by rfl,?_⟩) ?_ ?_
        rotate_left
        ·intro w'
         go_simp
         with_reducible rfl
        rotate_left
        ·simp only [Act.put,List.setIfInBounds_toArray,List.set_cons_zero,List.set_cons_succ,i64_w,i32_w]
         rfl
        refine take_ (i:=15) (N:=some 63) (v:=?_) (a':=?_) #[true,true,true,true,true,true,true,true,false,true,true,true,true,true,true,true,false,false] rfl rfl (take_ofW HT_.out HW_.out (by kernel_rfl)) (fun _ _ _ h=>h) (Or.inl ⟨by rfl,?_⟩) hHeld ?_ ?_
        rotate_left
        ·rintro w' ⟨s0,s1,s2,s3,s4,s5,s6,s7,s8,s9,s10,s11,s12,s13,s14,s15,s16,s17,s18⟩
         go_simp
         with_reducible rfl
        rotate_left
        ·simp only [Act.put,List.setIfInBounds_toArray,List.set_cons_zero,List.set_cons_succ,i64_w,i32_w]
         rfl
        refine one_ (i:=8) (N:=some 56) #[true,true,true,true,true,true,true,true,true,true,true,true,true,true,true,true,false,false] rfl rfl (one_of HT_.out (by kernel_rfl)) (by decide) (fun K hK=>?_)
        refine goes_ Tryd.func43 (by kernel_rfl) rfl #[.slice Ao30 x3_2.length co30,.int .i64 ((rd_T49 l0_12 x6_2).f0)] (by rfl) rfl rfl (by (try simp only [List.map_toArray,List.map_cons,List.map_nil]);first|done|rfl|(simp only [List.length_drop,List.length_take];rfl)) ?_
        with_reducible refine (insolvencyref33_num.calls k2 (fun k_=>some k_=(.slice Ao30 x3_2.length co30:Value).ownBlock) (.slice Ao30 x3_2.length co30) x3_2 ((rd_T49 l0_12 x6_2).f0) t214 w _ ?side1 ?side2 A26.out).mono ?_
        (case side1=>repeat (first|(with_reducible first|exact HB.out|apply below_alloc|apply pw_below_drewN|apply below_drew1|refine below_set ?_ GE196.out)|exact HB.out))
        (case side2=>exact Kd.R_tight rfl HO_3.out)
        rintro e w31 ⟨v215,rfl,ho0,hb,hkp⟩
        refine ⟨_,rfl,?_⟩
        have n0_:=Aside0.mk (blk_kept (by (with_reducible repeat (first|refine blk_drewN ?_ _|refine blk_drew ?_|refine blk_alloc ?_ _));exact BK196.out) hkp (fun hs_=>(fun e_=>(Kd.R_ne HO_3.out BK196.out (by decide)) e_) hs_))
        have n1_:=Aside0.mk (Kd.R_mono (ok':=fun k_=>True) ho0 (fun k_ hk_=>trivial))
        have n2_:=Aside0.mk (hb)
        clear BK196
        clear HB
        clear HO_3
        have BK196:=n0_
        have HO216:=n1_
        have HB:=n2_
        clear n0_ n1_ n2_
        (try clear hb)
        (try clear hkp)
        (try clear ho0)
        obtain ⟨Ao32,co32,eo32⟩:=Kd.R_slice HO216.out
        (first|subst eo32|(injection eo32 with f1_ f2_ f3_;have f4_:=f1_.symm;have f5_:=f3_.symm;clear f1_ f2_ f3_;subst f4_;subst f5_))
        refine hK.out _ _ ⟨(blk_cell BK196.out 0).trans rfl,(blk_cell BK196.out 1).trans rfl,(blk_cell BK196.out 2).trans rfl,(blk_cell BK196.out 3).trans rfl,(blk_cell BK196.out 4).trans rfl,(blk_cell BK196.out 5).trans rfl,(blk_cell BK196.out 6).trans rfl,(blk_cell BK196.out 7).trans rfl,(blk_cell BK196.out 8).trans rfl,(blk_cell BK196.out 9).trans rfl,(blk_cell BK196.out 10).trans rfl,(blk_cell BK196.out 11).trans rfl,(blk_cell BK196.out 12).trans rfl,(blk_cell BK196.out 13).trans rfl,(blk_cell BK196.out 14).trans rfl,((HB.out.cell (World.block_lt_of_cell? w _ hw213_0)).trans hw213_0),((HB.out.cell (World.block_lt_of_cell? w _ hw213_1)).trans hw213_1),((HB.out.cell (World.block_lt_of_cell? w _ hw217_0)).trans hw217_0),((HB.out.cell (World.block_lt_of_cell? w _ hw217_1)).trans hw217_1)⟩ (fun hHeld=>?_)
        clear hK K
        refine norm_ (a':=?_) ?_ ?_
        rotate_left
        ·show Act.put _ (some 56) _=_
         simp only [Act.put,List.setIfInBounds_toArray,List.set_cons_zero,List.set_cons_succ,i64_w,i32_w]
         rfl
        refine one_ (i:=16) (N:=some 64) #[true,true,true,true,true,true,true,true,true,true,true,true,true,true,true,true,true,false] rfl rfl (one_of HT_.out (by kernel_rfl)) (by decide) (fun K hK=>?_)
        refine goes_ Tryd.func43 (by kernel_rfl) rfl #[.slice Ao32 t214.length co32,.int .i64 ((rd_T49 l0_12 x6_2).f1)] (by rfl) rfl rfl (by (try simp only [List.map_toArray,List.map_cons,List.map_nil]);first|done|rfl|(simp only [List.length_drop,List.length_take];rfl)) ?_
        with_reducible refine (insolvencyref33_num.calls k2 (fun k_=>some k_=(.slice Ao32 t214.length co32:Value).ownBlock) (.slice Ao32 t214.length co32) t214 ((rd_T49 l0_12 x6_2).f1) t218 w _ ?side1 ?side2 A27.out).mono ?_
        (case side1=>repeat (first|(with_reducible first|exact HB.out|apply below_alloc|apply pw_below_drewN|apply below_drew1|refine below_set ?_ GE196.out)|exact HB.out))
        (case side2=>exact Kd.R_tight rfl HO216.out)
        rintro e w33 ⟨v219,rfl,ho0,hb,hkp⟩
        refine ⟨_,rfl,?_⟩
        have n0_:=Aside0.mk (blk_kept (by (with_reducible repeat (first|refine blk_drewN ?_ _|refine blk_drew ?_|refine blk_alloc ?_ _));exact BK196.out) hkp (fun hs_=>(fun e_=>(Kd.R_ne HO216.out BK196.out (by decide)) e_) hs_))
        have n1_:=Aside0.mk (Kd.R_mono (ok':=fun k_=>True) ho0 (fun k_ hk_=>trivial))
        have n2_:=Aside0.mk (hb)
        clear BK196
        clear HB
        clear HO216
        have BK196:=n0_
        have HO220:=n1_
        have HB:=n2_
        clear n0_ n1_ n2_
        (try clear hb)
        (try clear hkp)
        (try clear ho0)
        refine hK.out _ _ ⟨(blk_cell BK196.out 0).trans rfl,(blk_cell BK196.out 1).trans rfl,(blk_cell BK196.out 2).trans rfl,(blk_cell BK196.out 3).trans rfl,(blk_cell BK196.out 4).trans rfl,(blk_cell BK196.out 5).trans rfl,(blk_cell BK196.out 6).trans rfl,(blk_cell BK196.out 7).trans rfl,(blk_cell BK196.out 8).trans rfl,(blk_cell BK196.out 9).trans rfl,(blk_cell BK196.out 10).trans rfl,(blk_cell BK196.out 11).trans rfl,(blk_cell BK196.out 12).trans rfl,(blk_cell BK196.out 13).trans rfl,(blk_cell BK196.out 14).trans rfl,((HB.out.cell (World.block_lt_of_cell? w _ hw213_0)).trans hw213_0),((HB.out.cell (World.block_lt_of_cell? w _ hw213_1)).trans hw213_1),((HB.out.cell (World.block_lt_of_cell? w _ hw217_0)).trans hw217_0),((HB.out.cell (World.block_lt_of_cell? w _ hw217_1)).trans hw217_1)⟩ (fun hHeld=>?_)
        clear hK K
        refine norm_ (a':=?_) ?_ ?_
        rotate_left
        ·show Act.put _ (some 64) _=_
         simp only [Act.put,List.setIfInBounds_toArray,List.set_cons_zero,List.set_cons_succ,i64_w,i32_w]
         rfl
        refine pure_ (i:=17) (N:=some 3) (v:=?_) (a':=?_) #[true,true,true,true,true,true,true,true,true,true,true,true,true,true,true,true,true,true] rfl rfl (any_of HT_.out (by kernel_rfl)) (fun _ _ _ h=>h) (Or.inl ⟨by rfl,?_⟩) ?_ ?_
        rotate_left
        ·intro w'
         go_simp
         with_reducible rfl
        rotate_left
        ·simp only [Act.put,List.setIfInBounds_toArray,List.set_cons_zero,List.set_cons_succ,i64_w,i32_w]
         rfl
        refine done_ (done_of HT_.out (by kernel_rfl)) ?_
        try go_wp2
        go_roundg k2
        case measure=>have:=HK1.out;have:=HK2.out;omega
        case rel=>exact ⟨(t218),(wrap64 (x6_2+1)),(by first|rfl|(simp;done)|(simp [*];done)),H',⟨by have:=HK1.out;have:=HK2.out;omega⟩,⟨by (with_reducible repeat (first|apply Kd.R_alloc|apply Kd.R_drewN|apply Kd.R_drew));exact HO220.out⟩,⟨by (with_reducible repeat (first|refine blk_drewN ?_ _|refine blk_drew ?_|refine blk_alloc ?_ _));exact BK196.out⟩,⟨by repeat (first|(with_reducible first|exact HB.out|apply below_alloc|apply pw_below_drewN|apply below_drew1|refine below_set ?_ GE196.out)|exact HB.out)⟩⟩
       ·rw [if_neg c25] at H
        exact absurd H (by simp)
      ·rw [if_neg c24] at H
       have c24b0:decide (x6_2<(l0_12.length:Int))=false:=decide_eq_false c24
       clear c24
       replace H:=Option.bind_eq_some_iff.mp H
       obtain ⟨t221,A340,H⟩:=H
       replace H:(insolvencyref33_bytesOf.l2 k2 t221 0 a0_0 a0_1 a0_2 a0_3 a0_4 a0_5 a0_6 a0_7 a0_8 a0_9 a0_10 a0_11 l0_12 l0_13 l0_14)=some r:=H
       have A34:=Aside0.mk A340
       clear A340
       have H':=Aside0.mk H
       clear H
       have hcz35_0:wr.cell? ⟨gb196,0,none⟩=some (.int .i64 a0_0):=(blk_cell BK196.out 0).trans rfl
       have hcz35_1:wr.cell? ⟨gb196,1,none⟩=some (.int .i64 a0_1):=(blk_cell BK196.out 1).trans rfl
       have hcz35_2:wr.cell? ⟨gb196,2,none⟩=some (.int .i64 a0_2):=(blk_cell BK196.out 2).trans rfl
       have hcz35_3:wr.cell? ⟨gb196,3,none⟩=some (.int .i64 a0_3):=(blk_cell BK196.out 3).trans rfl
       have hcz35_4:wr.cell? ⟨gb196,4,none⟩=some (.int .i64 a0_4):=(blk_cell BK196.out 4).trans rfl
       have hcz35_5:wr.cell? ⟨gb196,5,none⟩=some (.int .i64 a0_5):=(blk_cell BK196.out 5).trans rfl
       have hcz35_6:wr.cell? ⟨gb196,6,none⟩=some (.bool a0_6):=(blk_cell BK196.out 6).trans rfl
       have hcz35_7:wr.cell? ⟨gb196,7,none⟩=some (.string a0_7):=(blk_cell BK196.out 7).trans rfl
       have hcz35_8:wr.cell? ⟨gb196,8,none⟩=some (.string a0_8):=(blk_cell BK196.out 8).trans rfl
       have hcz35_9:wr.cell? ⟨gb196,9,none⟩=some (.bool a0_9):=(blk_cell BK196.out 9).trans rfl
       have hcz35_10:wr.cell? ⟨gb196,10,none⟩=some (.string a0_10):=(blk_cell BK196.out 10).trans rfl
       have hcz35_11:wr.cell? ⟨gb196,11,none⟩=some (.string a0_11):=(blk_cell BK196.out 11).trans rfl
       have hcz35_12:wr.cell? ⟨gb196,12,none⟩=some (.slice A0_12 l0_12.length c0_12):=(blk_cell BK196.out 12).trans rfl
       have hcz35_13:wr.cell? ⟨gb196,13,none⟩=some (.slice A0_13 l0_13.length c0_13):=(blk_cell BK196.out 13).trans rfl
       have hcz35_14:wr.cell? ⟨gb196,14,none⟩=some (.slice A0_14 l0_14.length c0_14):=(blk_cell BK196.out 14).trans rfl
       have hfz35_0:=blk_frozen BK196.out 0
       have hfz35_1:=blk_frozen BK196.out 1
       have hfz35_2:=blk_frozen BK196.out 2
       have hfz35_3:=blk_frozen BK196.out 3
       have hfz35_4:=blk_frozen BK196.out 4
       have hfz35_5:=blk_frozen BK196.out 5
       have hfz35_6:=blk_frozen BK196.out 6
       have hfz35_7:=blk_frozen BK196.out 7
       have hfz35_8:=blk_frozen BK196.out 8
       have hfz35_9:=blk_frozen BK196.out 9
       have hfz35_10:=blk_frozen BK196.out 10
       have hfz35_11:=blk_frozen BK196.out 11
       have hfz35_12:=blk_frozen BK196.out 12
       have hfz35_13:=blk_frozen BK196.out 13
       have hfz35_14:=blk_frozen BK196.out 14
       obtain ⟨Ao36,co36,eo36⟩:=Kd.R_slice HO_3.out
       subst eo36
       go_wp2_with (first|((with_reducible refine gate_callee (f:=43) rfl ?_);refine goesL_ (some 70) rfl rfl Tryd.func43 (by kernel_rfl) rfl #[.slice Ao36 x3_2.length co36,.int .i64 (l0_13.length:Int)] rfl (by (try simp only [List.map_toArray,List.map_cons,List.map_nil]);first|done|rfl|(simp only [List.length_drop,List.length_take];rfl)) ?_;(with_reducible refine (insolvencyref33_num.calls k2 (fun k_=>some k_=(.slice Ao36 x3_2.length co36:Value).ownBlock) (.slice Ao36 x3_2.length co36) x3_2 (l0_13.length:Int) t221 w _ ?side1 ?side2 A34.out).mono ?_);(case side1=>repeat (first|(with_reducible first|exact HB.out|apply below_alloc|apply pw_below_drewN|apply below_drew1|refine below_set ?_ GE196.out)|exact HB.out));(case side2=>exact Kd.R_tight rfl HO_3.out);rintro e w37 ⟨v222,rfl,ho0,hb,hkp⟩;refine ⟨_,rfl,?_⟩;have n0_:=Aside0.mk (blk_kept (by (with_reducible repeat (first|refine blk_drewN ?_ _|refine blk_drew ?_|refine blk_alloc ?_ _));exact BK196.out) hkp (fun hs_=>(fun e_=>(Kd.R_ne HO_3.out BK196.out (by decide)) e_) hs_));have n1_:=Aside0.mk (Kd.R_mono (ok':=fun k_=>True) ho0 (fun k_ hk_=>trivial));have n2_:=Aside0.mk (hb);clear BK196;clear HB;clear HO_3;have BK196:=n0_;have HO223:=n1_;have HB:=n2_;clear n0_ n1_ n2_;(try clear hb);(try clear hkp);(try clear ho0)))
       go_loopg [3,7] k2 (fun kq v3 v7 w'=>∃ (x3_3:List Int) (x7_3:Int),v7 = .int .i64 x7_3∧Aside0 (insolvencyref33_bytesOf.l2 kq x3_3 x7_3 a0_0 a0_1 a0_2 a0_3 a0_4 a0_5 a0_6 a0_7 a0_8 a0_9 a0_10 a0_11 l0_12 l0_13 l0_14=some r)∧Aside0 (kq≤k2)∧Aside0 (Kd.R (Kd.int .u8) 5 w' w.heap.size (fun _=>True) v3 x3_3)∧Aside0 (w'.heap[gb196]?=some (.cells #[.int .i64 a0_0,.int .i64 a0_1,.int .i64 a0_2,.int .i64 a0_3,.int .i64 a0_4,.int .i64 a0_5,.bool a0_6,.string a0_7,.string a0_8,.bool a0_9,.string a0_10,.string a0_11,(.slice A0_12 l0_12.length c0_12),(.slice A0_13 l0_13.length c0_13),(.slice A0_14 l0_14.length c0_14)] 37 (0,0)))∧Aside0 (Below w.heap.size w w'))
       case atStart=>exact ⟨(t221),(0),(by first|rfl|(simp;done)|(simp [*];done)),H',⟨Nat.le_refl _⟩,⟨by (with_reducible repeat (first|apply Kd.R_alloc|apply Kd.R_drewN|apply Kd.R_drew));exact HO223.out⟩,⟨by (with_reducible repeat (first|refine blk_drewN ?_ _|refine blk_drew ?_|refine blk_alloc ?_ _));exact BK196.out⟩,⟨by repeat (first|(with_reducible first|exact HB.out|apply below_alloc|apply pw_below_drewN|apply below_drew1|refine below_set ?_ GE196.out)|exact HB.out)⟩⟩
       case round=>
        clear H'
        try clear c2
        try clear p2
        try clear q2
        try clear hx2
        try clear c3
        try clear c4
        try clear c6
        try clear c6b0
        try clear p6
        try clear c7
        try clear c7b0
        try clear p20
        try clear q20
        try clear hx20
        try clear p21
        try clear q21
        try clear hx21
        try clear c24
        try clear c24b0
        try clear c25
        try clear c25b0
        try clear hcz21_0
        try clear hcz21_1
        try clear hcz21_10
        try clear hcz21_11
        try clear hcz21_12
        try clear hcz21_13
        try clear hcz21_14
        try clear hcz21_2
        try clear hcz21_3
        try clear hcz21_4
        try clear hcz21_5
        try clear hcz21_6
        try clear hcz21_7
        try clear hcz21_8
        try clear hcz21_9
        try clear hcz28_0
        try clear hcz28_1
        try clear hcz28_10
        try clear hcz28_11
        try clear hcz28_12
        try clear hcz28_13
        try clear hcz28_14
        try clear hcz28_2
        try clear hcz28_3
        try clear hcz28_4
        try clear hcz28_5
        try clear hcz28_6
        try clear hcz28_7
        try clear hcz28_8
        try clear hcz28_9
        try clear hcz35_0
        try clear hcz35_1
        try clear hcz35_10
        try clear hcz35_11
        try clear hcz35_12
        try clear hcz35_13
        try clear hcz35_14
        try clear hcz35_2
        try clear hcz35_3
        try clear hcz35_4
        try clear hcz35_5
        try clear hcz35_6
        try clear hcz35_7
        try clear hcz35_8
        try clear hcz35_9
        try clear hcz4_0
        try clear hcz4_1
        try clear hcz4_10
        try clear hcz4_11
        try clear hcz4_12
        try clear hcz4_13
        try clear hcz4_14
        try clear hcz4_2
        try clear hcz4_3
        try clear hcz4_4
        try clear hcz4_5
        try clear hcz4_6
        try clear hcz4_7
        try clear hcz4_8
        try clear hcz4_9
        try clear hfz21_0
        try clear hfz21_1
        try clear hfz21_10
        try clear hfz21_11
        try clear hfz21_12
        try clear hfz21_13
        try clear hfz21_14
        try clear hfz21_2
        try clear hfz21_3
        try clear hfz21_4
        try clear hfz21_5
        try clear hfz21_6
        try clear hfz21_7
        try clear hfz21_8
        try clear hfz21_9
        try clear hfz28_0
        try clear hfz28_1
        try clear hfz28_10
        try clear hfz28_11
        try clear hfz28_12
        try clear hfz28_13
        try clear hfz28_14
        try clear hfz28_2
        try clear hfz28_3
        try clear hfz28_4
        try clear hfz28_5
        try clear hfz28_6
        try clear hfz28_7
        try clear hfz28_8
        try clear hfz28_9
        try clear hfz35_0
        try clear hfz35_1
        try clear hfz35_10
        try clear hfz35_11
        try clear hfz35_12
        try clear hfz35_13
        try clear hfz35_14
        try clear hfz35_2
        try clear hfz35_3
        try clear hfz35_4
        try clear hfz35_5
        try clear hfz35_6
        try clear hfz35_7
        try clear hfz35_8
        try clear hfz35_9
        try clear hfz4_0
        try clear hfz4_1
        try clear hfz4_10
        try clear hfz4_11
        try clear hfz4_12
        try clear hfz4_13
        try clear hfz4_14
        try clear hfz4_2
        try clear hfz4_3
        try clear hfz4_4
        try clear hfz4_5
        try clear hfz4_6
        try clear hfz4_7
        try clear hfz4_8
        try clear hfz4_9
        try clear hx200_0
        try clear hx213_0
        try clear hx213_1
        try clear hx217_0
        try clear hx217_1
        try clear p2
        try clear p20
        try clear p200
        try clear p213
        try clear p217
        try clear p6
        try clear q2
        try clear q20
        try clear q200
        try clear q213
        try clear q217
        obtain ⟨x3_3,x7_3,rfl,HA,HK3,HO_3,BK196,HB⟩:=hrel
        cases gk with
        | zero=>exact absurd HA.out (by simp [insolvencyref33_bytesOf.l2])
        | succ k3=>
         have H:=HA.out
         clear HA
         simp only [insolvencyref33_bytesOf.l2] at H
         by_cases c38:x7_3<(l0_13.length:Int)
         ·rw [if_pos c38] at H
          have c38b0:decide (x7_3<(l0_13.length:Int))=true:=decide_eq_true c38
          clear c38
          by_cases c39:0≤x7_3
          ·rw [if_pos c39] at H
           have c39b0:decide (0≤x7_3)=true:=decide_eq_true c39
           clear c39
           replace H:=Option.bind_eq_some_iff.mp H
           obtain ⟨t225,A400,H⟩:=H
           replace H:((insolvencyref33_num.f k3 t225 ((rd_T51 l0_13 x7_3).f1)).bind fun t229=>(insolvencyref33_bytesOf.l2 k3 t229 (wrap64 (x7_3+1)) a0_0 a0_1 a0_2 a0_3 a0_4 a0_5 a0_6 a0_7 a0_8 a0_9 a0_10 a0_11 l0_12 l0_13 l0_14))=some r:=H
           have A40:=Aside0.mk A400
           clear A400
           replace H:=Option.bind_eq_some_iff.mp H
           obtain ⟨t229,A410,H⟩:=H
           replace H:(insolvencyref33_bytesOf.l2 k3 t229 (wrap64 (x7_3+1)) a0_0 a0_1 a0_2 a0_3 a0_4 a0_5 a0_6 a0_7 a0_8 a0_9 a0_10 a0_11 l0_12 l0_13 l0_14)=some r:=H
           have A41:=Aside0.mk A410
           clear A410
           have H':=Aside0.mk H
           clear H
           have hcz42_0:wr.cell? ⟨gb196,0,none⟩=some (.int .i64 a0_0):=(blk_cell BK196.out 0).trans rfl
           have hcz42_1:wr.cell? ⟨gb196,1,none⟩=some (.int .i64 a0_1):=(blk_cell BK196.out 1).trans rfl
           have hcz42_2:wr.cell? ⟨gb196,2,none⟩=some (.int .i64 a0_2):=(blk_cell BK196.out 2).trans rfl
           have hcz42_3:wr.cell? ⟨gb196,3,none⟩=some (.int .i64 a0_3):=(blk_cell BK196.out 3).trans rfl
           have hcz42_4:wr.cell? ⟨gb196,4,none⟩=some (.int .i64 a0_4):=(blk_cell BK196.out 4).trans rfl
           have hcz42_5:wr.cell? ⟨gb196,5,none⟩=some (.int .i64 a0_5):=(blk_cell BK196.out 5).trans rfl
           have hcz42_6:wr.cell? ⟨gb196,6,none⟩=some (.bool a0_6):=(blk_cell BK196.out 6).trans rfl
           have hcz42_7:wr.cell? ⟨gb196,7,none⟩=some (.string a0_7):=(blk_cell BK196.out 7).trans rfl
           have hcz42_8:wr.cell? ⟨gb196,8,none⟩=some (.string a0_8):=(blk_cell BK196.out 8).trans rfl
           have hcz42_9:wr.cell? ⟨gb196,9,none⟩=some (.bool a0_9):=(blk_cell BK196.out 9).trans rfl
           have hcz42_10:wr.cell? ⟨gb196,10,none⟩=some (.string a0_10):=(blk_cell BK196.out 10).trans rfl
           have hcz42_11:wr.cell? ⟨gb196,11,none⟩=some (.string a0_11):=(blk_cell BK196.out 11).trans rfl
           have hcz42_12:wr.cell? ⟨gb196,12,none⟩=some (.slice A0_12 l0_12.length c0_12):=(blk_cell BK196.out 12).trans rfl
           have hcz42_13:wr.cell? ⟨gb196,13,none⟩=some (.slice A0_13 l0_13.length c0_13):=(blk_cell BK196.out 13).trans rfl
           have hcz42_14:wr.cell? ⟨gb196,14,none⟩=some (.slice A0_14 l0_14.length c0_14):=(blk_cell BK196.out 14).trans rfl
           have hfz42_0:=blk_frozen BK196.out 0
           have hfz42_1:=blk_frozen BK196.out 1
           have hfz42_2:=blk_frozen BK196.out 2
           have hfz42_3:=blk_frozen BK196.out 3
           have hfz42_4:=blk_frozen BK196.out 4
           have hfz42_5:=blk_frozen BK196.out 5
           have hfz42_6:=blk_frozen BK196.out 6
           have hfz42_7:=blk_frozen BK196.out 7
           have hfz42_8:=blk_frozen BK196.out 8
           have hfz42_9:=blk_frozen BK196.out 9
           have hfz42_10:=blk_frozen BK196.out 10
           have hfz42_11:=blk_frozen BK196.out 11
           have hfz42_12:=blk_frozen BK196.out 12
           have hfz42_13:=blk_frozen BK196.out 13
           have hfz42_14:=blk_frozen BK196.out 14
           try go_wp2
           have n0_:=Aside0.mk (Kd.R_drew HO_3.out)
           have n1_:=Aside0.mk (blk_drew BK196.out)
           have n2_:=Aside0.mk (below_drew1 HB.out)
           clear HO_3
           clear BK196
           clear HB
           have HO_3:=n0_
           have BK196:=n1_
           have HB:=n2_
           clear n0_ n1_ n2_
           have p224:0≤(x7_3:Int):=of_decide_eq_true (by first|(with_reducible assumption)|assumption)
           have q224:x7_3<(l0_13.length:Int):=of_decide_eq_true (by first|(with_reducible assumption)|assumption)
           obtain ⟨ad224,e224,hx224_0,hx224_1,hx224_2,hx224_3⟩:=at_T51 HR0_13.out x7_3 p224 q224
           have hw224_3:=hx224_3
           have hw224_2:=hx224_2
           have hw224_1:=hx224_1
           have hw224_0:=hx224_0
           cases e224
           replace hx224_0:=(HB.out.cell (World.block_lt_of_cell? w _ hx224_0)).trans hx224_0
           replace hx224_1:=(HB.out.cell (World.block_lt_of_cell? w _ hx224_1)).trans hx224_1
           replace hx224_2:=(HB.out.cell (World.block_lt_of_cell? w _ hx224_2)).trans hx224_2
           replace hx224_3:=(HB.out.cell (World.block_lt_of_cell? w _ hx224_3)).trans hx224_3
           replace p224:=eq_true p224
           replace q224:=eq_true q224
           have p228:0≤(x7_3:Int):=of_decide_eq_true (by first|(with_reducible assumption)|assumption)
           have q228:x7_3<(l0_13.length:Int):=of_decide_eq_true (by first|(with_reducible assumption)|assumption)
           obtain ⟨ad228,e228,hx228_0,hx228_1,hx228_2,hx228_3⟩:=at_T51 HR0_13.out x7_3 p228 q228
           have hw228_3:=hx228_3
           have hw228_2:=hx228_2
           have hw228_1:=hx228_1
           have hw228_0:=hx228_0
           obtain rfl:ad224=ad228:=(by injection e228)
           replace hx228_0:=(HB.out.cell (World.block_lt_of_cell? w _ hx228_0)).trans hx228_0
           replace hx228_1:=(HB.out.cell (World.block_lt_of_cell? w _ hx228_1)).trans hx228_1
           replace hx228_2:=(HB.out.cell (World.block_lt_of_cell? w _ hx228_2)).trans hx228_2
           replace hx228_3:=(HB.out.cell (World.block_lt_of_cell? w _ hx228_3)).trans hx228_3
           replace p228:=eq_true p228
           replace q228:=eq_true q228
           obtain ⟨Ao44,co44,eo44⟩:=Kd.R_slice HO_3.out
           (first|subst eo44|(injection eo44 with f1_ f2_ f3_;have f4_:=f1_.symm;have f5_:=f3_.symm;clear f1_ f2_ f3_;subst f4_;subst f5_))
           refine start_ (n:=18) (S:=fun w'=>w'.cell? ⟨gb196,0,none⟩=some (.int .i64 a0_0)∧w'.cell? ⟨gb196,1,none⟩=some (.int .i64 a0_1)∧w'.cell? ⟨gb196,2,none⟩=some (.int .i64 a0_2)∧w'.cell? ⟨gb196,3,none⟩=some (.int .i64 a0_3)∧w'.cell? ⟨gb196,4,none⟩=some (.int .i64 a0_4)∧w'.cell? ⟨gb196,5,none⟩=some (.int .i64 a0_5)∧w'.cell? ⟨gb196,6,none⟩=some (.bool a0_6)∧w'.cell? ⟨gb196,7,none⟩=some (.string a0_7)∧w'.cell? ⟨gb196,8,none⟩=some (.string a0_8)∧w'.cell? ⟨gb196,9,none⟩=some (.bool a0_9)∧w'.cell? ⟨gb196,10,none⟩=some (.string a0_10)∧w'.cell? ⟨gb196,11,none⟩=some (.string a0_11)∧w'.cell? ⟨gb196,12,none⟩=some (.slice A0_12 l0_12.length c0_12)∧w'.cell? ⟨gb196,13,none⟩=some (.slice (some ad224) l0_13.length c0_13)∧w'.cell? ⟨gb196,14,none⟩=some (.slice A0_14 l0_14.length c0_14)∧w'.cell? (ad224.add ((x7_3).toNat*4))=some (.bool ((rd_T51 l0_13 x7_3).f0.f0))∧w'.cell? ⟨(ad224.add ((x7_3).toNat*4)).block,(ad224.add ((x7_3).toNat*4)).off+1,none⟩=some (.string ((rd_T51 l0_13 x7_3).f0.f1))∧w'.cell? ⟨(ad224.add ((x7_3).toNat*4)).block,(ad224.add ((x7_3).toNat*4)).off+2,none⟩=some (.string ((rd_T51 l0_13 x7_3).f0.f2))∧w'.cell? ⟨(ad224.add ((x7_3).toNat*4)).block,(ad224.add ((x7_3).toNat*4)).off+3,none⟩=some (.int .i64 ((rd_T51 l0_13 x7_3).f1))∧w'.cell? (ad224.add ((x7_3).toNat*4))=some (.bool ((rd_T51 l0_13 x7_3).f0.f0))∧w'.cell? ⟨(ad224.add ((x7_3).toNat*4)).block,(ad224.add ((x7_3).toNat*4)).off+1,none⟩=some (.string ((rd_T51 l0_13 x7_3).f0.f1))∧w'.cell? ⟨(ad224.add ((x7_3).toNat*4)).block,(ad224.add ((x7_3).toNat*4)).off+2,none⟩=some (.string ((rd_T51 l0_13 x7_3).f0.f2))∧w'.cell? ⟨(ad224.add ((x7_3).toNat*4)).block,(ad224.add ((x7_3).toNat*4)).off+3,none⟩=some (.int .i64 ((rd_T51 l0_13 x7_3).f1))) (ds:=[]) #[false,false,false,false,false,false,false,false,false,false,false,false,false,false,false,false,false,false] (by kernel_rfl) rfl rfl ⟨(blk_cell BK196.out 0).trans rfl,(blk_cell BK196.out 1).trans rfl,(blk_cell BK196.out 2).trans rfl,(blk_cell BK196.out 3).trans rfl,(blk_cell BK196.out 4).trans rfl,(blk_cell BK196.out 5).trans rfl,(blk_cell BK196.out 6).trans rfl,(blk_cell BK196.out 7).trans rfl,(blk_cell BK196.out 8).trans rfl,(blk_cell BK196.out 9).trans rfl,(blk_cell BK196.out 10).trans rfl,(blk_cell BK196.out 11).trans rfl,(blk_cell BK196.out 12).trans rfl,(blk_cell BK196.out 13).trans rfl,(blk_cell BK196.out 14).trans rfl,((HB.out.cell (World.block_lt_of_cell? w _ hw224_0)).trans hw224_0),((HB.out.cell (World.block_lt_of_cell? w _ hw224_1)).trans hw224_1),((HB.out.cell (World.block_lt_of_cell? w _ hw224_2)).trans hw224_2),((HB.out.cell (World.block_lt_of_cell? w _ hw224_3)).trans hw224_3),((HB.out.cell (World.block_lt_of_cell? w _ hw228_0)).trans hw228_0),((HB.out.cell (World.block_lt_of_cell? w _ hw228_1)).trans hw228_1),((HB.out.cell (World.block_lt_of_cell? w _ hw228_2)).trans hw228_2),((HB.out.cell (World.block_lt_of_cell? w _ hw228_3)).trans hw228_3)⟩ (fun hHeld=>?_);refine with_tabW insolvencyref33_bytesOf.tab17 insolvencyref33_bytesOf.bits17 (fun HT_ HW_=>?_)
           generalize wr.drew=w43 at HO_3 BK196 HB hx224_0 hx224_1 hx224_2 hx224_3 hx228_0 hx228_1 hx228_2 hx228_3 hHeld ⊢
           refine pure_ (i:=0) (N:=some 79) (v:=?_) (a':=?_) #[true,false,false,false,false,false,false,false,false,false,false,false,false,false,false,false,false,false] rfl rfl (any_of HT_.out (by kernel_rfl)) (fun _ _ _ h=>h) (Or.inl ⟨by rfl,?_⟩) ?_ ?_
           rotate_left
           ·intro w'
            go_simp
            with_reducible rfl
           rotate_left
           ·simp only [Act.put,List.setIfInBounds_toArray,List.set_cons_zero,List.set_cons_succ,i64_w,i32_w]
            rfl
           refine pure_ (i:=1) (N:=some 80) (v:=?_) (a':=?_) #[true,true,false,false,false,false,false,false,false,false,false,false,false,false,false,false,false,false] rfl rfl (any_of HT_.out (by kernel_rfl)) (fun _ _ _ h=>h) (Or.inl ⟨by rfl,?_⟩) ?_ ?_
           rotate_left
           ·intro w'
            go_simp
            with_reducible rfl
           rotate_left
           ·simp only [Act.put,List.setIfInBounds_toArray,List.set_cons_zero,List.set_cons_succ,i64_w,i32_w]
            rfl
           refine pure_ (i:=2) (N:=some 81) (v:=?_) (a':=?_) #[true,true,true,false,false,false,false,false,false,false,false,false,false,false,false,false,false,false] rfl rfl (any_of HT_.out (by kernel_rfl)) (fun _ _ _ h=>h) (Or.inl ⟨by rfl,?_⟩) ?_ ?_
           rotate_left
           ·intro w'
            go_simp
            with_reducible rfl
           rotate_left
           ·simp only [Act.put,List.setIfInBounds_toArray,List.set_cons_zero,List.set_cons_succ,i64_w,i32_w]
            rfl
           refine pure_ (i:=4) (N:=some 83) (v:=?_) (a':=?_) #[true,true,true,false,true,false,false,false,false,false,false,false,false,false,false,false,false,false] rfl rfl (any_of HT_.out (by kernel_rfl)) (fun _ _ _ h=>h) (Or.inl ⟨by rfl,?_⟩) ?_ ?_
           rotate_left
           ·intro w'
            go_simp
            with_reducible rfl
           rotate_left
           ·simp only [Act.put,List.setIfInBounds_toArray,List.set_cons_zero,List.set_cons_succ,i64_w,i32_w]
            rfl
           refine pure_ (i:=9) (N:=some 88) (v:=?_) (a':=?_) #[true,true,true,false,true,false,false,false,false,true,false,false,false,false,false,false,false,false] rfl rfl (any_of HT_.out (by kernel_rfl)) (fun _ _ _ h=>h) (Or.inl ⟨by rfl,?_⟩) ?_ ?_
           rotate_left
           ·intro w'
            go_simp
            with_reducible rfl
           rotate_left
           ·simp only [Act.put,List.setIfInBounds_toArray,List.set_cons_zero,List.set_cons_succ,i64_w,i32_w]
            rfl
           refine pure_ (i:=10) (N:=some 89) (v:=?_) (a':=?_) #[true,true,true,false,true,false,false,false,false,true,true,false,false,false,false,false,false,false] rfl rfl (any_of HT_.out (by kernel_rfl)) (fun _ _ _ h=>h) (Or.inl ⟨by rfl,?_⟩) ?_ ?_
           rotate_left
           ·intro w'
            go_simp
            with_reducible rfl
           rotate_left
           ·simp only [Act.put,List.setIfInBounds_toArray,List.set_cons_zero,List.set_cons_succ,i64_w,i32_w]
            rfl
           refine pure_ (i:=12) (N:=some 91) (v:=?_) (a':=?_) #[true,true,true,false,true,false,false,false,false,true,true,false,true,false,false,false,false,false] rfl rfl (any_of HT_.out (by kernel_rfl)) (fun _ _ _ h=>h) (Or.inl ⟨by rfl,?_⟩) ?_ ?_
           rotate_left
           ·intro w'
            go_simp
            with_reducible rfl
           rotate_left
           ·simp only [Act.put,List.setIfInBounds_toArray,List.set_cons_zero,List.set_cons_succ,i64_w,i32_w]
            rfl
           refine take_ (i:=3) (N:=some 82) (v:=?_) (a':=?_) #[true,true,true,true,true,false,false,false,false,true,true,false,true,false,false,false,false,false] rfl rfl (take_ofW HT_.out HW_.out (by kernel_rfl)) (fun _ _ _ h=>h) (Or.inl ⟨by rfl,?_⟩) hHeld ?_ ?_
           rotate_left
           ·rintro w' ⟨s0,s1,s2,s3,s4,s5,s6,s7,s8,s9,s10,s11,s12,s13,s14,s15,s16,s17,s18,s19,s20,s21,s22⟩
            go_simp
            with_reducible rfl
           rotate_left
           ·simp only [Act.put,List.setIfInBounds_toArray,List.set_cons_zero,List.set_cons_succ,i64_w,i32_w]
            rfl
           refine pure_ (i:=5) (N:=some 84) (v:=?_) (a':=?_) #[true,true,true,true,true,true,false,false,false,true,true,false,true,false,false,false,false,false] rfl rfl (any_of HT_.out (by kernel_rfl)) (fun _ _ _ h=>h) (Or.inl ⟨by rfl,?_⟩) ?_ ?_
           rotate_left
           ·intro w'
            go_simp
            with_reducible rfl
           rotate_left
           ·simp only [Act.put,List.setIfInBounds_toArray,List.set_cons_zero,List.set_cons_succ,i64_w,i32_w]
            rfl
           refine pure_ (i:=6) (N:=some 85) (v:=?_) (a':=?_) #[true,true,true,true,true,true,true,false,false,true,true,false,true,false,false,false,false,false] rfl rfl (any_of HT_.out (by kernel_rfl)) (fun _ _ _ h=>h) (Or.inl ⟨by rfl,?_⟩) ?_ ?_
           rotate_left
           ·intro w'
            go_simp
            with_reducible rfl
           rotate_left
           ·simp only [Act.put,List.setIfInBounds_toArray,List.set_cons_zero,List.set_cons_succ,i64_w,i32_w]
            rfl
           refine take_ (i:=7) (N:=some 86) (v:=?_) (a':=?_) #[true,true,true,true,true,true,true,true,false,true,true,false,true,false,false,false,false,false] rfl rfl (take_ofW HT_.out HW_.out (by kernel_rfl)) (fun _ _ _ h=>h) (Or.inl ⟨by rfl,?_⟩) hHeld ?_ ?_
           rotate_left
           ·rintro w' ⟨s0,s1,s2,s3,s4,s5,s6,s7,s8,s9,s10,s11,s12,s13,s14,s15,s16,s17,s18,s19,s20,s21,s22⟩
            go_simp
            with_reducible rfl
           rotate_left
           ·simp only [Act.put,List.setIfInBounds_toArray,List.set_cons_zero,List.set_cons_succ,i64_w,i32_w]
            rfl
           refine take_ (i:=11) (N:=some 90) (v:=?_) (a':=?_) #[true,true,true,true,true,true,true,true,false,true,true,true,true,false,false,false,false,false] rfl rfl (take_ofW HT_.out HW_.out (by kernel_rfl)) (fun _ _ _ h=>h) (Or.inl ⟨by rfl,?_⟩) hHeld ?_ ?_
           rotate_left
           ·rintro w' ⟨s0,s1,s2,s3,s4,s5,s6,s7,s8,s9,s10,s11,s12,s13,s14,s15,s16,s17,s18,s19,s20,s21,s22⟩
            go_simp
            with_reducible rfl
           rotate_left
           ·simp only [Act.put,List.setIfInBounds_toArray,List.set_cons_zero,List.set_cons_succ,i64_w,i32_w]
            rfl
           refine pure_ (i:=13) (N:=some 92) (v:=?_) (a':=?_) #[true,true,true,true,true,true,true,true,false,true,true,true,true,true,false,false,false,false] rfl rfl (any_of HT_.out (by kernel_rfl)) (fun _ _ _ h=>h) (Or.inl ⟨by rfl,?_⟩) ?_ ?_
           rotate_left
           ·intro w'
            go_simp
            with_reducible rfl
           rotate_left
           ·simp only [Act.put,List.setIfInBounds_toArray,List.set_cons_zero,List.set_cons_succ,i64_w,i32_w]
            rfl
           refine pure_ (i:=14) (N:=some 93) (v:=?_) (a':=?_) #[true,true,true,true,true,true,true,true,false,true,true,true,true,true,true,false,false,false] rfl rfl (any_of HT_.out (by kernel_rfl)) (fun _ _ _ h=>h) (Or.inl ⟨by rfl,?_⟩) ?_ ?_
           rotate_left
           ·intro w'
            go_simp
            with_reducible rfl
           rotate_left
           ·simp only [Act.put,List.setIfInBounds_toArray,List.set_cons_zero,List.set_cons_succ,i64_w,i32_w]
            rfl
           refine take_ (i:=15) (N:=some 94) (v:=?_) (a':=?_) #[true,true,true,true,true,true,true,true,false,true,true,true,true,true,true,true,false,false] rfl rfl (take_ofW HT_.out HW_.out (by kernel_rfl)) (fun _ _ _ h=>h) (Or.inl ⟨by rfl,?_⟩) hHeld ?_ ?_
           rotate_left
           ·rintro w' ⟨s0,s1,s2,s3,s4,s5,s6,s7,s8,s9,s10,s11,s12,s13,s14,s15,s16,s17,s18,s19,s20,s21,s22⟩
            go_simp
            with_reducible rfl
           rotate_left
           ·simp only [Act.put,List.setIfInBounds_toArray,List.set_cons_zero,List.set_cons_succ,i64_w,i32_w]
            rfl
           refine one_ (i:=8) (N:=some 87) #[true,true,true,true,true,true,true,true,true,true,true,true,true,true,true,true,false,false] rfl rfl (one_of HT_.out (by kernel_rfl)) (by decide) (fun K hK=>?_)
           refine goes_ Tryd.func44 (by kernel_rfl) rfl #[.slice Ao44 x3_3.length co44,.agg #[.bool ((rd_T51 l0_13 x7_3).f0.f0),.string ((rd_T51 l0_13 x7_3).f0.f1),.string ((rd_T51 l0_13 x7_3).f0.f2)]] (by rfl) rfl rfl (by (try simp only [List.map_toArray,List.map_cons,List.map_nil]);first|done|rfl|(simp only [List.length_drop,List.length_take];rfl)) ?_
           with_reducible refine (insolvencyref33_rat.calls k3 (fun k_=>some k_=(.slice Ao44 x3_3.length co44:Value).ownBlock) (.slice Ao44 x3_3.length co44) x3_3 ((rd_T51 l0_13 x7_3).f0.f0) ((rd_T51 l0_13 x7_3).f0.f1) ((rd_T51 l0_13 x7_3).f0.f2) t225 w _ ?side1 ?side2 A40.out).mono ?_
           (case side1=>repeat (first|(with_reducible first|exact HB.out|apply below_alloc|apply pw_below_drewN|apply below_drew1|refine below_set ?_ GE196.out)|exact HB.out))
           (case side2=>exact Kd.R_tight rfl HO_3.out)
           rintro e w45 ⟨v226,rfl,ho0,hb,hkp⟩
           refine ⟨_,rfl,?_⟩
           have n0_:=Aside0.mk (blk_kept (by (with_reducible repeat (first|refine blk_drewN ?_ _|refine blk_drew ?_|refine blk_alloc ?_ _));exact BK196.out) hkp (fun hs_=>(fun e_=>(Kd.R_ne HO_3.out BK196.out (by decide)) e_) hs_))
           have n1_:=Aside0.mk (Kd.R_mono (ok':=fun k_=>True) ho0 (fun k_ hk_=>trivial))
           have n2_:=Aside0.mk (hb)
           clear BK196
           clear HB
           clear HO_3
           have BK196:=n0_
           have HO227:=n1_
           have HB:=n2_
           clear n0_ n1_ n2_
           (try clear hb)
           (try clear hkp)
           (try clear ho0)
           obtain ⟨Ao46,co46,eo46⟩:=Kd.R_slice HO227.out
           (first|subst eo46|(injection eo46 with f1_ f2_ f3_;have f4_:=f1_.symm;have f5_:=f3_.symm;clear f1_ f2_ f3_;subst f4_;subst f5_))
           refine hK.out _ _ ⟨(blk_cell BK196.out 0).trans rfl,(blk_cell BK196.out 1).trans rfl,(blk_cell BK196.out 2).trans rfl,(blk_cell BK196.out 3).trans rfl,(blk_cell BK196.out 4).trans rfl,(blk_cell BK196.out 5).trans rfl,(blk_cell BK196.out 6).trans rfl,(blk_cell BK196.out 7).trans rfl,(blk_cell BK196.out 8).trans rfl,(blk_cell BK196.out 9).trans rfl,(blk_cell BK196.out 10).trans rfl,(blk_cell BK196.out 11).trans rfl,(blk_cell BK196.out 12).trans rfl,(blk_cell BK196.out 13).trans rfl,(blk_cell BK196.out 14).trans rfl,((HB.out.cell (World.block_lt_of_cell? w _ hw224_0)).trans hw224_0),((HB.out.cell (World.block_lt_of_cell? w _ hw224_1)).trans hw224_1),((HB.out.cell (World.block_lt_of_cell? w _ hw224_2)).trans hw224_2),((HB.out.cell (World.block_lt_of_cell? w _ hw224_3)).trans hw224_3),((HB.out.cell (World.block_lt_of_cell? w _ hw228_0)).trans hw228_0),((HB.out.cell (World.block_lt_of_cell? w _ hw228_1)).trans hw228_1),((HB.out.cell (World.block_lt_of_cell? w _ hw228_2)).trans hw228_2),((HB.out.cell (World.block_lt_of_cell? w _ hw228_3)).trans hw228_3)⟩ (fun hHeld=>?_)
           clear hK K
           refine norm_ (a':=?_) ?_ ?_
           rotate_left
           ·show Act.put _ (some 87) _=_
            simp only [Act.put,List.setIfInBounds_toArray,List.set_cons_zero,List.set_cons_succ,i64_w,i32_w]
            rfl
           refine one_ (i:=16) (N:=some 95) #[true,true,true,true,true,true,true,true,true,true,true,true,true,true,true,true,true,false] rfl rfl (one_of HT_.out (by kernel_rfl)) (by decide) (fun K hK=>?_)
           refine goes_ Tryd.func43 (by kernel_rfl) rfl #[.slice Ao46 t225.length co46,.int .i64 ((rd_T51 l0_13 x7_3).f1)] (by rfl) rfl rfl (by (try simp only [List.map_toArray,List.map_cons,List.map_nil]);first|done|rfl|(simp only [List.length_drop,List.length_take];rfl)) ?_
           with_reducible refine (insolvencyref33_num.calls k3 (fun k_=>some k_=(.slice Ao46 t225.length co46:Value).ownBlock) (.slice Ao46 t225.length co46) t225 ((rd_T51 l0_13 x7_3).f1) t229 w _ ?side1 ?side2 A41.out).mono ?_
           (case side1=>repeat (first|(with_reducible first|exact HB.out|apply below_alloc|apply pw_below_drewN|apply below_drew1|refine below_set ?_ GE196.out)|exact HB.out))
           (case side2=>exact Kd.R_tight rfl HO227.out)
           rintro e w47 ⟨v230,rfl,ho0,hb,hkp⟩
           refine ⟨_,rfl,?_⟩
           have n0_:=Aside0.mk (blk_kept (by (with_reducible repeat (first|refine blk_drewN ?_ _|refine blk_drew ?_|refine blk_alloc ?_ _));exact BK196.out) hkp (fun hs_=>(fun e_=>(Kd.R_ne HO227.out BK196.out (by decide)) e_) hs_))
           have n1_:=Aside0.mk (Kd.R_mono (ok':=fun k_=>True) ho0 (fun k_ hk_=>trivial))
           have n2_:=Aside0.mk (hb)
           clear BK196
           clear HB
           clear HO227
           have BK196:=n0_
           have HO231:=n1_
           have HB:=n2_
           clear n0_ n1_ n2_
           (try clear hb)
           (try clear hkp)
           (try clear ho0)
           refine hK.out _ _ ⟨(blk_cell BK196.out 0).trans rfl,(blk_cell BK196.out 1).trans rfl,(blk_cell BK196.out 2).trans rfl,(blk_cell BK196.out 3).trans rfl,(blk_cell BK196.out 4).trans rfl,(blk_cell BK196.out 5).trans rfl,(blk_cell BK196.out 6).trans rfl,(blk_cell BK196.out 7).trans rfl,(blk_cell BK196.out 8).trans rfl,(blk_cell BK196.out 9).trans rfl,(blk_cell BK196.out 10).trans rfl,(blk_cell BK196.out 11).trans rfl,(blk_cell BK196.out 12).trans rfl,(blk_cell BK196.out 13).trans rfl,(blk_cell BK196.out 14).trans rfl,((HB.out.cell (World.block_lt_of_cell? w _ hw224_0)).trans hw224_0),((HB.out.cell (World.block_lt_of_cell? w _ hw224_1)).trans hw224_1),((HB.out.cell (World.block_lt_of_cell? w _ hw224_2)).trans hw224_2),((HB.out.cell (World.block_lt_of_cell? w _ hw224_3)).trans hw224_3),((HB.out.cell (World.block_lt_of_cell? w _ hw228_0)).trans hw228_0),((HB.out.cell (World.block_lt_of_cell? w _ hw228_1)).trans hw228_1),((HB.out.cell (World.block_lt_of_cell? w _ hw228_2)).trans hw228_2),((HB.out.cell (World.block_lt_of_cell? w _ hw228_3)).trans hw228_3)⟩ (fun hHeld=>?_)
           clear hK K
           refine norm_ (a':=?_) ?_ ?_
           rotate_left
           ·show Act.put _ (some 95) _=_
            simp only [Act.put,List.setIfInBounds_toArray,List.set_cons_zero,List.set_cons_succ,i64_w,i32_w]
            rfl
           refine pure_ (i:=17) (N:=some 3) (v:=?_) (a':=?_) #[true,true,true,true,true,true,true,true,true,true,true,true,true,true,true,true,true,true] rfl rfl (any_of HT_.out (by kernel_rfl)) (fun _ _ _ h=>h) (Or.inl ⟨by rfl,?_⟩) ?_ ?_
           rotate_left
           ·intro w'
            go_simp
            with_reducible rfl
           rotate_left
           ·simp only [Act.put,List.setIfInBounds_toArray,List.set_cons_zero,List.set_cons_succ,i64_w,i32_w]
            rfl
           refine done_ (done_of HT_.out (by kernel_rfl)) ?_
           try go_wp2
           go_roundg k3
           case measure=>have:=HK1.out;have:=HK2.out;have:=HK3.out;omega
           case rel=>exact ⟨(t229),(wrap64 (x7_3+1)),(by first|rfl|(simp;done)|(simp [*];done)),H',⟨by have:=HK1.out;have:=HK2.out;have:=HK3.out;omega⟩,⟨by (with_reducible repeat (first|apply Kd.R_alloc|apply Kd.R_drewN|apply Kd.R_drew));exact HO231.out⟩,⟨by (with_reducible repeat (first|refine blk_drewN ?_ _|refine blk_drew ?_|refine blk_alloc ?_ _));exact BK196.out⟩,⟨by repeat (first|(with_reducible first|exact HB.out|apply below_alloc|apply pw_below_drewN|apply below_drew1|refine below_set ?_ GE196.out)|exact HB.out)⟩⟩
          ·rw [if_neg c39] at H
           exact absurd H (by simp)
         ·rw [if_neg c38] at H
          have c38b0:decide (x7_3<(l0_13.length:Int))=false:=decide_eq_false c38
          clear c38
          replace H:=Option.bind_eq_some_iff.mp H
          obtain ⟨t232,A480,H⟩:=H
          replace H:(insolvencyref33_bytesOf.l3 k3 t232 0 a0_0 a0_1 a0_2 a0_3 a0_4 a0_5 a0_6 a0_7 a0_8 a0_9 a0_10 a0_11 l0_12 l0_13 l0_14)=some r:=H
          have A48:=Aside0.mk A480
          clear A480
          have H':=Aside0.mk H
          clear H
          have hcz49_0:wr.cell? ⟨gb196,0,none⟩=some (.int .i64 a0_0):=(blk_cell BK196.out 0).trans rfl
          have hcz49_1:wr.cell? ⟨gb196,1,none⟩=some (.int .i64 a0_1):=(blk_cell BK196.out 1).trans rfl
          have hcz49_2:wr.cell? ⟨gb196,2,none⟩=some (.int .i64 a0_2):=(blk_cell BK196.out 2).trans rfl
          have hcz49_3:wr.cell? ⟨gb196,3,none⟩=some (.int .i64 a0_3):=(blk_cell BK196.out 3).trans rfl
          have hcz49_4:wr.cell? ⟨gb196,4,none⟩=some (.int .i64 a0_4):=(blk_cell BK196.out 4).trans rfl
          have hcz49_5:wr.cell? ⟨gb196,5,none⟩=some (.int .i64 a0_5):=(blk_cell BK196.out 5).trans rfl
          have hcz49_6:wr.cell? ⟨gb196,6,none⟩=some (.bool a0_6):=(blk_cell BK196.out 6).trans rfl
          have hcz49_7:wr.cell? ⟨gb196,7,none⟩=some (.string a0_7):=(blk_cell BK196.out 7).trans rfl
          have hcz49_8:wr.cell? ⟨gb196,8,none⟩=some (.string a0_8):=(blk_cell BK196.out 8).trans rfl
          have hcz49_9:wr.cell? ⟨gb196,9,none⟩=some (.bool a0_9):=(blk_cell BK196.out 9).trans rfl
          have hcz49_10:wr.cell? ⟨gb196,10,none⟩=some (.string a0_10):=(blk_cell BK196.out 10).trans rfl
          have hcz49_11:wr.cell? ⟨gb196,11,none⟩=some (.string a0_11):=(blk_cell BK196.out 11).trans rfl
          have hcz49_12:wr.cell? ⟨gb196,12,none⟩=some (.slice A0_12 l0_12.length c0_12):=(blk_cell BK196.out 12).trans rfl
          have hcz49_13:wr.cell? ⟨gb196,13,none⟩=some (.slice A0_13 l0_13.length c0_13):=(blk_cell BK196.out 13).trans rfl
          have hcz49_14:wr.cell? ⟨gb196,14,none⟩=some (.slice A0_14 l0_14.length c0_14):=(blk_cell BK196.out 14).trans rfl
          have hfz49_0:=blk_frozen BK196.out 0
          have hfz49_1:=blk_frozen BK196.out 1
          have hfz49_2:=blk_frozen BK196.out 2
          have hfz49_3:=blk_frozen BK196.out 3
          have hfz49_4:=blk_frozen BK196.out 4
          have hfz49_5:=blk_frozen BK196.out 5
          have hfz49_6:=blk_frozen BK196.out 6
          have hfz49_7:=blk_frozen BK196.out 7
          have hfz49_8:=blk_frozen BK196.out 8
          have hfz49_9:=blk_frozen BK196.out 9
          have hfz49_10:=blk_frozen BK196.out 10
          have hfz49_11:=blk_frozen BK196.out 11
          have hfz49_12:=blk_frozen BK196.out 12
          have hfz49_13:=blk_frozen BK196.out 13
          have hfz49_14:=blk_frozen BK196.out 14
          obtain ⟨Ao50,co50,eo50⟩:=Kd.R_slice HO_3.out
          subst eo50
          go_wp2_with (first|((with_reducible refine gate_callee (f:=43) rfl ?_);refine goesL_ (some 100) rfl rfl Tryd.func43 (by kernel_rfl) rfl #[.slice Ao50 x3_3.length co50,.int .i64 (l0_14.length:Int)] rfl (by (try simp only [List.map_toArray,List.map_cons,List.map_nil]);first|done|rfl|(simp only [List.length_drop,List.length_take];rfl)) ?_;(with_reducible refine (insolvencyref33_num.calls k3 (fun k_=>some k_=(.slice Ao50 x3_3.length co50:Value).ownBlock) (.slice Ao50 x3_3.length co50) x3_3 (l0_14.length:Int) t232 w _ ?side1 ?side2 A48.out).mono ?_);(case side1=>repeat (first|(with_reducible first|exact HB.out|apply below_alloc|apply pw_below_drewN|apply below_drew1|refine below_set ?_ GE196.out)|exact HB.out));(case side2=>exact Kd.R_tight rfl HO_3.out);rintro e w51 ⟨v233,rfl,ho0,hb,hkp⟩;refine ⟨_,rfl,?_⟩;have n0_:=Aside0.mk (blk_kept (by (with_reducible repeat (first|refine blk_drewN ?_ _|refine blk_drew ?_|refine blk_alloc ?_ _));exact BK196.out) hkp (fun hs_=>(fun e_=>(Kd.R_ne HO_3.out BK196.out (by decide)) e_) hs_));have n1_:=Aside0.mk (Kd.R_mono (ok':=fun k_=>True) ho0 (fun k_ hk_=>trivial));have n2_:=Aside0.mk (hb);clear BK196;clear HB;clear HO_3;have BK196:=n0_;have HO234:=n1_;have HB:=n2_;clear n0_ n1_ n2_;(try clear hb);(try clear hkp);(try clear ho0)))
          go_loopg [3,8] k3 (fun kq v3 v8 w'=>∃ (x3_4:List Int) (x8_4:Int),v8 = .int .i64 x8_4∧Aside0 (insolvencyref33_bytesOf.l3 kq x3_4 x8_4 a0_0 a0_1 a0_2 a0_3 a0_4 a0_5 a0_6 a0_7 a0_8 a0_9 a0_10 a0_11 l0_12 l0_13 l0_14=some r)∧Aside0 (kq≤k3)∧Aside0 (Kd.R (Kd.int .u8) 5 w' w.heap.size (fun _=>True) v3 x3_4)∧Aside0 (w'.heap[gb196]?=some (.cells #[.int .i64 a0_0,.int .i64 a0_1,.int .i64 a0_2,.int .i64 a0_3,.int .i64 a0_4,.int .i64 a0_5,.bool a0_6,.string a0_7,.string a0_8,.bool a0_9,.string a0_10,.string a0_11,(.slice A0_12 l0_12.length c0_12),(.slice A0_13 l0_13.length c0_13),(.slice A0_14 l0_14.length c0_14)] 37 (0,0)))∧Aside0 (Below w.heap.size w w'))
          case atStart=>exact ⟨(t232),(0),(by first|rfl|(simp;done)|(simp [*];done)),H',⟨Nat.le_refl _⟩,⟨by (with_reducible repeat (first|apply Kd.R_alloc|apply Kd.R_drewN|apply Kd.R_drew));exact HO234.out⟩,⟨by (with_reducible repeat (first|refine blk_drewN ?_ _|refine blk_drew ?_|refine blk_alloc ?_ _));exact BK196.out⟩,⟨by repeat (first|(with_reducible first|exact HB.out|apply below_alloc|apply pw_below_drewN|apply below_drew1|refine below_set ?_ GE196.out)|exact HB.out)⟩⟩
          case round=>
           clear H'
           try clear c2
           try clear p2
           try clear q2
           try clear hx2
           try clear c3
           try clear c4
           try clear c6
           try clear c6b0
           try clear p6
           try clear c7
           try clear c7b0
           try clear p20
           try clear q20
           try clear hx20
           try clear p21
           try clear q21
           try clear hx21
           try clear p22
           try clear q22
           try clear hx22
           try clear c24
           try clear c24b0
           try clear c25
           try clear c25b0
           try clear c38
           try clear c38b0
           try clear c39
           try clear c39b0
           try clear c43
           try clear c44
           try clear hcz21_0
           try clear hcz21_1
           try clear hcz21_10
           try clear hcz21_11
           try clear hcz21_12
           try clear hcz21_13
           try clear hcz21_14
           try clear hcz21_2
           try clear hcz21_3
           try clear hcz21_4
           try clear hcz21_5
           try clear hcz21_6
           try clear hcz21_7
           try clear hcz21_8
           try clear hcz21_9
           try clear hcz28_0
           try clear hcz28_1
           try clear hcz28_10
           try clear hcz28_11
           try clear hcz28_12
           try clear hcz28_13
           try clear hcz28_14
           try clear hcz28_2
           try clear hcz28_3
           try clear hcz28_4
           try clear hcz28_5
           try clear hcz28_6
           try clear hcz28_7
           try clear hcz28_8
           try clear hcz28_9
           try clear hcz35_0
           try clear hcz35_1
           try clear hcz35_10
           try clear hcz35_11
           try clear hcz35_12
           try clear hcz35_13
           try clear hcz35_14
           try clear hcz35_2
           try clear hcz35_3
           try clear hcz35_4
           try clear hcz35_5
           try clear hcz35_6
           try clear hcz35_7
           try clear hcz35_8
           try clear hcz35_9
           try clear hcz42_0
           try clear hcz42_1
           try clear hcz42_10
           try clear hcz42_11
           try clear hcz42_12
           try clear hcz42_13
           try clear hcz42_14
           try clear hcz42_2
           try clear hcz42_3
           try clear hcz42_4
           try clear hcz42_5
           try clear hcz42_6
           try clear hcz42_7
           try clear hcz42_8
           try clear hcz42_9
           try clear hcz49_0
           try clear hcz49_1
           try clear hcz49_10
           try clear hcz49_11
           try clear hcz49_12
           try clear hcz49_13
           try clear hcz49_14
           try clear hcz49_2
           try clear hcz49_3
           try clear hcz49_4
           try clear hcz49_5
           try clear hcz49_6
           try clear hcz49_7
           try clear hcz49_8
           try clear hcz49_9
           try clear hcz4_0
           try clear hcz4_1
           try clear hcz4_10
           try clear hcz4_11
           try clear hcz4_12
           try clear hcz4_13
           try clear hcz4_14
           try clear hcz4_2
           try clear hcz4_3
           try clear hcz4_4
           try clear hcz4_5
           try clear hcz4_6
           try clear hcz4_7
           try clear hcz4_8
           try clear hcz4_9
           try clear hfz21_0
           try clear hfz21_1
           try clear hfz21_10
           try clear hfz21_11
           try clear hfz21_12
           try clear hfz21_13
           try clear hfz21_14
           try clear hfz21_2
           try clear hfz21_3
           try clear hfz21_4
           try clear hfz21_5
           try clear hfz21_6
           try clear hfz21_7
           try clear hfz21_8
           try clear hfz21_9
           try clear hfz28_0
           try clear hfz28_1
           try clear hfz28_10
           try clear hfz28_11
           try clear hfz28_12
           try clear hfz28_13
           try clear hfz28_14
           try clear hfz28_2
           try clear hfz28_3
           try clear hfz28_4
           try clear hfz28_5
           try clear hfz28_6
           try clear hfz28_7
           try clear hfz28_8
           try clear hfz28_9
           try clear hfz35_0
           try clear hfz35_1
           try clear hfz35_10
           try clear hfz35_11
           try clear hfz35_12
           try clear hfz35_13
           try clear hfz35_14
           try clear hfz35_2
           try clear hfz35_3
           try clear hfz35_4
           try clear hfz35_5
           try clear hfz35_6
           try clear hfz35_7
           try clear hfz35_8
           try clear hfz35_9
           try clear hfz42_0
           try clear hfz42_1
           try clear hfz42_10
           try clear hfz42_11
           try clear hfz42_12
           try clear hfz42_13
           try clear hfz42_14
           try clear hfz42_2
           try clear hfz42_3
           try clear hfz42_4
           try clear hfz42_5
           try clear hfz42_6
           try clear hfz42_7
           try clear hfz42_8
           try clear hfz42_9
           try clear hfz49_0
           try clear hfz49_1
           try clear hfz49_10
           try clear hfz49_11
           try clear hfz49_12
           try clear hfz49_13
           try clear hfz49_14
           try clear hfz49_2
           try clear hfz49_3
           try clear hfz49_4
           try clear hfz49_5
           try clear hfz49_6
           try clear hfz49_7
           try clear hfz49_8
           try clear hfz49_9
           try clear hfz4_0
           try clear hfz4_1
           try clear hfz4_10
           try clear hfz4_11
           try clear hfz4_12
           try clear hfz4_13
           try clear hfz4_14
           try clear hfz4_2
           try clear hfz4_3
           try clear hfz4_4
           try clear hfz4_5
           try clear hfz4_6
           try clear hfz4_7
           try clear hfz4_8
           try clear hfz4_9
           try clear hx200_0
           try clear hx213_0
           try clear hx213_1
           try clear hx217_0
           try clear hx217_1
           try clear hx224_0
           try clear hx224_1
           try clear hx224_2
           try clear hx224_3
           try clear hx228_0
           try clear hx228_1
           try clear hx228_2
           try clear hx228_3
           try clear p2
           try clear p20
           try clear p200
           try clear p21
           try clear p213
           try clear p217
           try clear p224
           try clear p228
           try clear p6
           try clear q2
           try clear q20
           try clear q200
           try clear q21
           try clear q213
           try clear q217
           try clear q224
           try clear q228
           obtain ⟨x3_4,x8_4,rfl,HA,HK4,HO_3,BK196,HB⟩:=hrel
           cases gk with
           | zero=>exact absurd HA.out (by simp [insolvencyref33_bytesOf.l3])
           | succ k4=>
            have H:=HA.out
            clear HA
            simp only [insolvencyref33_bytesOf.l3] at H
            by_cases c52:x8_4<(l0_14.length:Int)
            ·rw [if_pos c52] at H
             have c52b0:decide (x8_4<(l0_14.length:Int))=true:=decide_eq_true c52
             clear c52
             by_cases c53:0≤x8_4
             ·rw [if_pos c53] at H
              have c53b0:decide (0≤x8_4)=true:=decide_eq_true c53
              clear c53
              replace H:=Option.bind_eq_some_iff.mp H
              obtain ⟨t237,A540,H⟩:=H
              replace H:((insolvencyref33_num.f k4 t237 ((rd_T55 l0_14 x8_4).f0.f1.f0)).bind fun t240=>((insolvencyref33_num.f k4 t240 ((rd_T55 l0_14 x8_4).f0.f1.f1)).bind fun t243=>((insolvencyref33_num.f k4 t243 ((rd_T55 l0_14 x8_4).f1)).bind fun t246=>(insolvencyref33_bytesOf.l3 k4 t246 (wrap64 (x8_4+1)) a0_0 a0_1 a0_2 a0_3 a0_4 a0_5 a0_6 a0_7 a0_8 a0_9 a0_10 a0_11 l0_12 l0_13 l0_14))))=some r:=H
              have A54:=Aside0.mk A540
              clear A540
              replace H:=Option.bind_eq_some_iff.mp H
              obtain ⟨t240,A550,H⟩:=H
              replace H:((insolvencyref33_num.f k4 t240 ((rd_T55 l0_14 x8_4).f0.f1.f1)).bind fun t243=>((insolvencyref33_num.f k4 t243 ((rd_T55 l0_14 x8_4).f1)).bind fun t246=>(insolvencyref33_bytesOf.l3 k4 t246 (wrap64 (x8_4+1)) a0_0 a0_1 a0_2 a0_3 a0_4 a0_5 a0_6 a0_7 a0_8 a0_9 a0_10 a0_11 l0_12 l0_13 l0_14)))=some r:=H
              have A55:=Aside0.mk A550
              clear A550
              replace H:=Option.bind_eq_some_iff.mp H
              obtain ⟨t243,A560,H⟩:=H
              replace H:((insolvencyref33_num.f k4 t243 ((rd_T55 l0_14 x8_4).f1)).bind fun t246=>(insolvencyref33_bytesOf.l3 k4 t246 (wrap64 (x8_4+1)) a0_0 a0_1 a0_2 a0_3 a0_4 a0_5 a0_6 a0_7 a0_8 a0_9 a0_10 a0_11 l0_12 l0_13 l0_14))=some r:=H
              have A56:=Aside0.mk A560
              clear A560
              replace H:=Option.bind_eq_some_iff.mp H
              obtain ⟨t246,A570,H⟩:=H
              replace H:(insolvencyref33_bytesOf.l3 k4 t246 (wrap64 (x8_4+1)) a0_0 a0_1 a0_2 a0_3 a0_4 a0_5 a0_6 a0_7 a0_8 a0_9 a0_10 a0_11 l0_12 l0_13 l0_14)=some r:=H
              have A57:=Aside0.mk A570
              clear A570
              have H':=Aside0.mk H
              clear H
              have hcz58_0:wr.cell? ⟨gb196,0,none⟩=some (.int .i64 a0_0):=(blk_cell BK196.out 0).trans rfl
              have hcz58_1:wr.cell? ⟨gb196,1,none⟩=some (.int .i64 a0_1):=(blk_cell BK196.out 1).trans rfl
              have hcz58_2:wr.cell? ⟨gb196,2,none⟩=some (.int .i64 a0_2):=(blk_cell BK196.out 2).trans rfl
              have hcz58_3:wr.cell? ⟨gb196,3,none⟩=some (.int .i64 a0_3):=(blk_cell BK196.out 3).trans rfl
              have hcz58_4:wr.cell? ⟨gb196,4,none⟩=some (.int .i64 a0_4):=(blk_cell BK196.out 4).trans rfl
              have hcz58_5:wr.cell? ⟨gb196,5,none⟩=some (.int .i64 a0_5):=(blk_cell BK196.out 5).trans rfl
              have hcz58_6:wr.cell? ⟨gb196,6,none⟩=some (.bool a0_6):=(blk_cell BK196.out 6).trans rfl
              have hcz58_7:wr.cell? ⟨gb196,7,none⟩=some (.string a0_7):=(blk_cell BK196.out 7).trans rfl
              have hcz58_8:wr.cell? ⟨gb196,8,none⟩=some (.string a0_8):=(blk_cell BK196.out 8).trans rfl
              have hcz58_9:wr.cell? ⟨gb196,9,none⟩=some (.bool a0_9):=(blk_cell BK196.out 9).trans rfl
              have hcz58_10:wr.cell? ⟨gb196,10,none⟩=some (.string a0_10):=(blk_cell BK196.out 10).trans rfl
              have hcz58_11:wr.cell? ⟨gb196,11,none⟩=some (.string a0_11):=(blk_cell BK196.out 11).trans rfl
              have hcz58_12:wr.cell? ⟨gb196,12,none⟩=some (.slice A0_12 l0_12.length c0_12):=(blk_cell BK196.out 12).trans rfl
              have hcz58_13:wr.cell? ⟨gb196,13,none⟩=some (.slice A0_13 l0_13.length c0_13):=(blk_cell BK196.out 13).trans rfl
              have hcz58_14:wr.cell? ⟨gb196,14,none⟩=some (.slice A0_14 l0_14.length c0_14):=(blk_cell BK196.out 14).trans rfl
              have hfz58_0:=blk_frozen BK196.out 0
              have hfz58_1:=blk_frozen BK196.out 1
              have hfz58_2:=blk_frozen BK196.out 2
              have hfz58_3:=blk_frozen BK196.out 3
              have hfz58_4:=blk_frozen BK196.out 4
              have hfz58_5:=blk_frozen BK196.out 5
              have hfz58_6:=blk_frozen BK196.out 6
              have hfz58_7:=blk_frozen BK196.out 7
              have hfz58_8:=blk_frozen BK196.out 8
              have hfz58_9:=blk_frozen BK196.out 9
              have hfz58_10:=blk_frozen BK196.out 10
              have hfz58_11:=blk_frozen BK196.out 11
              have hfz58_12:=blk_frozen BK196.out 12
              have hfz58_13:=blk_frozen BK196.out 13
              have hfz58_14:=blk_frozen BK196.out 14
              have p235:0≤(x8_4:Int):=of_decide_eq_true (by first|(with_reducible assumption)|assumption)
              have q235:x8_4<(l0_14.length:Int):=of_decide_eq_true (by first|(with_reducible assumption)|assumption)
              obtain ⟨ad235,e235,hx235_0,hx235_1,hx235_2,hx235_3⟩:=at_T55 HR0_14.out x8_4 p235 q235
              cases e235
              replace hx235_0:=(HB.out.cell (World.block_lt_of_cell? w _ hx235_0)).trans hx235_0
              replace hx235_1:=(HB.out.cell (World.block_lt_of_cell? w _ hx235_1)).trans hx235_1
              replace hx235_2:=(HB.out.cell (World.block_lt_of_cell? w _ hx235_2)).trans hx235_2
              replace hx235_3:=(HB.out.cell (World.block_lt_of_cell? w _ hx235_3)).trans hx235_3
              replace p235:=eq_true p235
              replace q235:=eq_true q235
              try go_wp2_with (first|((with_reducible refine gate_dst (N:=9) rfl ?_);refine box_event ?hg (N:=9) ?hd (cs:=#[.int .i64 0,.int .i64 0,.int .i64 0,.int .i64 0]) (t:=55) ?hr ?_;(case hd=>rfl);(case hg=>rfl);(case hr=>first|(go_simp;done)|(go_simp;rfl));intro gb236 hg w59 hbox hb;have n0_:=Aside0.mk (Kd.R_below (by (with_reducible repeat (first|apply Kd.R_alloc|apply Kd.R_drewN|apply Kd.R_drew));exact HO_3.out) hb);have n1_:=Aside0.mk (blk_below (g:=gb196) (o:=.cells #[.int .i64 a0_0,.int .i64 a0_1,.int .i64 a0_2,.int .i64 a0_3,.int .i64 a0_4,.int .i64 a0_5,.bool a0_6,.string a0_7,.string a0_8,.bool a0_9,.string a0_10,.string a0_11,.slice A0_12 l0_12.length c0_12,.slice A0_13 l0_13.length c0_13,.slice (some ad235) l0_14.length c0_14] 37 (0,0)) (by (with_reducible repeat (first|refine blk_drewN ?_ _|refine blk_drew ?_|refine blk_alloc ?_ _));exact BK196.out) hb);have n2_:=Aside0.mk (below_step (by repeat (first|(with_reducible first|exact HB.out|apply below_alloc|apply pw_below_drewN|apply below_drew1|refine below_set ?_ GE196.out)|exact HB.out)) hb);have n3_:=Aside0.mk (hbox);have n4_:=Aside0.mk ((by rw [hg];exact (below_size (by repeat (first|(with_reducible first|exact HB.out|apply below_alloc|apply pw_below_drewN|apply below_drew1|refine below_set ?_ GE196.out)|exact HB.out))):w.heap.size≤gb236));have n5_:=Aside0.mk ((by rw [hg];exact (below_size (by repeat (first|(with_reducible first|exact HB.out|apply below_alloc|apply pw_below_drewN|apply below_drew1|refine below_set ?_ GE196.out)|exact HB.out))):w.heap.size≤gb236));have n6_:=Aside0.mk ((by rw [hg];exact Nat.ne_of_lt (blk_lt (g:=gb196) (o:=.cells #[.int .i64 a0_0,.int .i64 a0_1,.int .i64 a0_2,.int .i64 a0_3,.int .i64 a0_4,.int .i64 a0_5,.bool a0_6,.string a0_7,.string a0_8,.bool a0_9,.string a0_10,.string a0_11,.slice A0_12 l0_12.length c0_12,.slice A0_13 l0_13.length c0_13,.slice (some ad235) l0_14.length c0_14] 37 (0,0)) (by (with_reducible repeat (first|refine blk_drewN ?_ _|refine blk_drew ?_|refine blk_alloc ?_ _));exact BK196.out)):gb196≠gb236));have n7_:=Aside0.mk ((by rw [hg];exact Nat.ne_of_gt (blk_lt (g:=gb196) (o:=.cells #[.int .i64 a0_0,.int .i64 a0_1,.int .i64 a0_2,.int .i64 a0_3,.int .i64 a0_4,.int .i64 a0_5,.bool a0_6,.string a0_7,.string a0_8,.bool a0_9,.string a0_10,.string a0_11,.slice A0_12 l0_12.length c0_12,.slice A0_13 l0_13.length c0_13,.slice (some ad235) l0_14.length c0_14] 37 (0,0)) (by (with_reducible repeat (first|refine blk_drewN ?_ _|refine blk_drew ?_|refine blk_alloc ?_ _));exact BK196.out)):gb236≠gb196));clear HO_3;clear BK196;clear HB;have HO_3:=n0_;have BK196:=n1_;have HB:=n2_;have BK236:=n3_;have GW236:=n4_;have GE236:=n5_;have NB196_236:=n6_;have NB236_196:=n7_;clear n0_ n1_ n2_ n3_ n4_ n5_ n6_ n7_;clear hb hbox hg;have hnb60:=NB236_196.out;have hnc60:=NB196_236.out;have hcz61_0:w59.cell? ⟨gb236,0,none⟩=some (.int .i64 0):=(blk_cell BK236.out 0).trans rfl;have hcz61_1:w59.cell? ⟨gb236,1,none⟩=some (.int .i64 0):=(blk_cell BK236.out 1).trans rfl;have hcz61_2:w59.cell? ⟨gb236,2,none⟩=some (.int .i64 0):=(blk_cell BK236.out 2).trans rfl;have hcz61_3:w59.cell? ⟨gb236,3,none⟩=some (.int .i64 0):=(blk_cell BK236.out 3).trans rfl;have hfz61_0:=blk_frozen BK236.out 0;have hfz61_1:=blk_frozen BK236.out 1;have hfz61_2:=blk_frozen BK236.out 2;have hfz61_3:=blk_frozen BK236.out 3))
              have n0_:Aside0 (Kd.R (Kd.int .u8) 5 ((((w59.setCell ⟨gb236,0,none⟩ (.int .i64 ((rd_T55 l0_14 x8_4).f0.f0))).setCell ⟨gb236,1,none⟩ (.int .i64 ((rd_T55 l0_14 x8_4).f0.f1.f0))).setCell ⟨gb236,2,none⟩ (.int .i64 ((rd_T55 l0_14 x8_4).f0.f1.f1))).setCell ⟨gb236,3,none⟩ (.int .i64 ((rd_T55 l0_14 x8_4).f1))) w.heap.size (fun _=>True) u3 x3_4):=⟨by (with_reducible repeat (first|apply Kd.R_alloc|apply Kd.R_drewN|apply Kd.R_drew));exact Kd.R_mono (Kd.R_far (p:=⟨gb236,3,none⟩) (Kd.R_far (p:=⟨gb236,2,none⟩) (Kd.R_far (p:=⟨gb236,1,none⟩) (Kd.R_far (p:=⟨gb236,0,none⟩) (Kd.R_types HO_3.out BK236.out (by decide)) (fun _ hk=>hk.2) (.int .i64 ((rd_T55 l0_14 x8_4).f0.f0))) (fun _ hk=>hk.2) (.int .i64 ((rd_T55 l0_14 x8_4).f0.f1.f0))) (fun _ hk=>hk.2) (.int .i64 ((rd_T55 l0_14 x8_4).f0.f1.f1))) (fun _ hk=>hk.2) (.int .i64 ((rd_T55 l0_14 x8_4).f1))) (fun _ hk=>trivial)⟩
              have n1_:Aside0 (((((w59.setCell ⟨gb236,0,none⟩ (.int .i64 ((rd_T55 l0_14 x8_4).f0.f0))).setCell ⟨gb236,1,none⟩ (.int .i64 ((rd_T55 l0_14 x8_4).f0.f1.f0))).setCell ⟨gb236,2,none⟩ (.int .i64 ((rd_T55 l0_14 x8_4).f0.f1.f1))).setCell ⟨gb236,3,none⟩ (.int .i64 ((rd_T55 l0_14 x8_4).f1))).heap[gb196]?=some (.cells #[.int .i64 a0_0,.int .i64 a0_1,.int .i64 a0_2,.int .i64 a0_3,.int .i64 a0_4,.int .i64 a0_5,.bool a0_6,.string a0_7,.string a0_8,.bool a0_9,.string a0_10,.string a0_11,.slice A0_12 l0_12.length c0_12,.slice A0_13 l0_13.length c0_13,.slice (some ad235) l0_14.length c0_14] 37 (0,0))):=⟨by (with_reducible repeat (first|refine blk_drewN ?_ _|refine blk_drew ?_|refine blk_alloc ?_ _));refine blk_far ?_ NB196_236.out _;(with_reducible repeat (first|refine blk_drewN ?_ _|refine blk_drew ?_|refine blk_alloc ?_ _));refine blk_far ?_ NB196_236.out _;(with_reducible repeat (first|refine blk_drewN ?_ _|refine blk_drew ?_|refine blk_alloc ?_ _));refine blk_far ?_ NB196_236.out _;(with_reducible repeat (first|refine blk_drewN ?_ _|refine blk_drew ?_|refine blk_alloc ?_ _));refine blk_far ?_ NB196_236.out _;(with_reducible repeat (first|refine blk_drewN ?_ _|refine blk_drew ?_|refine blk_alloc ?_ _));exact BK196.out⟩
              have n2_:Aside0 (((((w59.setCell ⟨gb236,0,none⟩ (.int .i64 ((rd_T55 l0_14 x8_4).f0.f0))).setCell ⟨gb236,1,none⟩ (.int .i64 ((rd_T55 l0_14 x8_4).f0.f1.f0))).setCell ⟨gb236,2,none⟩ (.int .i64 ((rd_T55 l0_14 x8_4).f0.f1.f1))).setCell ⟨gb236,3,none⟩ (.int .i64 ((rd_T55 l0_14 x8_4).f1))).heap[gb236]?=some (.cells #[.int .i64 ((rd_T55 l0_14 x8_4).f0.f0),.int .i64 ((rd_T55 l0_14 x8_4).f0.f1.f0),.int .i64 ((rd_T55 l0_14 x8_4).f0.f1.f1),.int .i64 ((rd_T55 l0_14 x8_4).f1)] 55 (0,0))):=⟨by (with_reducible repeat (first|refine blk_drewN ?_ _|refine blk_drew ?_|refine blk_alloc ?_ _));refine blk_put (cs:=#[.int .i64 ((rd_T55 l0_14 x8_4).f0.f0),.int .i64 ((rd_T55 l0_14 x8_4).f0.f1.f0),.int .i64 ((rd_T55 l0_14 x8_4).f0.f1.f1),.int .i64 0]) ?_ 3 _ rfl;(with_reducible repeat (first|refine blk_drewN ?_ _|refine blk_drew ?_|refine blk_alloc ?_ _));refine blk_put (cs:=#[.int .i64 ((rd_T55 l0_14 x8_4).f0.f0),.int .i64 ((rd_T55 l0_14 x8_4).f0.f1.f0),.int .i64 0,.int .i64 0]) ?_ 2 _ rfl;(with_reducible repeat (first|refine blk_drewN ?_ _|refine blk_drew ?_|refine blk_alloc ?_ _));refine blk_put (cs:=#[.int .i64 ((rd_T55 l0_14 x8_4).f0.f0),.int .i64 0,.int .i64 0,.int .i64 0]) ?_ 1 _ rfl;(with_reducible repeat (first|refine blk_drewN ?_ _|refine blk_drew ?_|refine blk_alloc ?_ _));refine blk_put (cs:=#[.int .i64 0,.int .i64 0,.int .i64 0,.int .i64 0]) ?_ 0 _ rfl;(with_reducible repeat (first|refine blk_drewN ?_ _|refine blk_drew ?_|refine blk_alloc ?_ _));exact BK236.out⟩
              have n3_:Aside0 (Below w.heap.size w ((((w59.setCell ⟨gb236,0,none⟩ (.int .i64 ((rd_T55 l0_14 x8_4).f0.f0))).setCell ⟨gb236,1,none⟩ (.int .i64 ((rd_T55 l0_14 x8_4).f0.f1.f0))).setCell ⟨gb236,2,none⟩ (.int .i64 ((rd_T55 l0_14 x8_4).f0.f1.f1))).setCell ⟨gb236,3,none⟩ (.int .i64 ((rd_T55 l0_14 x8_4).f1)))):=⟨by repeat (first|(with_reducible first|exact HB.out|apply below_alloc|apply pw_below_drewN|apply below_drew1|refine below_set ?_ GE196.out|refine below_set ?_ GE236.out)|exact HB.out)⟩
              (try clear HO_3)
              (try clear BK196)
              (try clear BK236)
              (try clear HB)
              generalize ((((w59.setCell ⟨gb236,0,none⟩ (.int .i64 ((rd_T55 l0_14 x8_4).f0.f0))).setCell ⟨gb236,1,none⟩ (.int .i64 ((rd_T55 l0_14 x8_4).f0.f1.f0))).setCell ⟨gb236,2,none⟩ (.int .i64 ((rd_T55 l0_14 x8_4).f0.f1.f1))).setCell ⟨gb236,3,none⟩ (.int .i64 ((rd_T55 l0_14 x8_4).f1)))=w62 at n0_ n1_ n2_ n3_ ⊢
              have HO_3:=n0_
              have BK196:=n1_
              have BK236:=n2_
              have HB:=n3_
              clear n0_ n1_ n2_ n3_
              have n0_:=Aside0.mk (Kd.R_drew HO_3.out)
              have n1_:=Aside0.mk (blk_drew BK196.out)
              have n2_:=Aside0.mk (blk_drew BK236.out)
              have n3_:=Aside0.mk (below_drew1 HB.out)
              clear HO_3
              clear BK196
              clear BK236
              clear HB
              have HO_3:=n0_
              have BK196:=n1_
              have BK236:=n2_
              have HB:=n3_
              clear n0_ n1_ n2_ n3_
              obtain ⟨Ao64,co64,eo64⟩:=Kd.R_slice HO_3.out
              (first|subst eo64|(injection eo64 with f1_ f2_ f3_;have f4_:=f1_.symm;have f5_:=f3_.symm;clear f1_ f2_ f3_;subst f4_;subst f5_))
              refine start_ (n:=19) (S:=fun w'=>w'.cell? ⟨gb236,0,none⟩=some (.int .i64 ((rd_T55 l0_14 x8_4).f0.f0))∧w'.cell? ⟨gb236,1,none⟩=some (.int .i64 ((rd_T55 l0_14 x8_4).f0.f1.f0))∧w'.cell? ⟨gb236,2,none⟩=some (.int .i64 ((rd_T55 l0_14 x8_4).f0.f1.f1))∧w'.cell? ⟨gb236,3,none⟩=some (.int .i64 ((rd_T55 l0_14 x8_4).f1))) (ds:=[]) #[false,false,false,false,false,false,false,false,false,false,false,false,false,false,false,false,false,false,false] (by kernel_rfl) rfl rfl ⟨(blk_cell BK236.out 0).trans rfl,(blk_cell BK236.out 1).trans rfl,(blk_cell BK236.out 2).trans rfl,(blk_cell BK236.out 3).trans rfl⟩ (fun hHeld=>?_);refine with_tabW insolvencyref33_bytesOf.tab23 insolvencyref33_bytesOf.bits23 (fun HT_ HW_=>?_)
              generalize w62.drew=w63 at HO_3 BK196 BK236 HB hHeld ⊢
              refine pure_ (i:=0) (N:=some 113) (v:=?_) (a':=?_) #[true,false,false,false,false,false,false,false,false,false,false,false,false,false,false,false,false,false,false] rfl rfl (any_of HT_.out (by kernel_rfl)) (fun _ _ _ h=>h) (Or.inl ⟨by rfl,?_⟩) ?_ ?_
              rotate_left
              ·intro w'
               go_simp
               with_reducible rfl
              rotate_left
              ·simp only [Act.put,List.setIfInBounds_toArray,List.set_cons_zero,List.set_cons_succ,i64_w,i32_w]
               rfl
              refine pure_ (i:=1) (N:=some 114) (v:=?_) (a':=?_) #[true,true,false,false,false,false,false,false,false,false,false,false,false,false,false,false,false,false,false] rfl rfl (any_of HT_.out (by kernel_rfl)) (fun _ _ _ h=>h) (Or.inl ⟨by rfl,?_⟩) ?_ ?_
              rotate_left
              ·intro w'
               go_simp
               with_reducible rfl
              rotate_left
              ·simp only [Act.put,List.setIfInBounds_toArray,List.set_cons_zero,List.set_cons_succ,i64_w,i32_w]
               rfl
              refine pure_ (i:=2) (N:=some 115) (v:=?_) (a':=?_) #[true,true,true,false,false,false,false,false,false,false,false,false,false,false,false,false,false,false,false] rfl rfl (any_of HT_.out (by kernel_rfl)) (fun _ _ _ h=>h) (Or.inl ⟨by rfl,?_⟩) ?_ ?_
              rotate_left
              ·intro w'
               go_simp
               with_reducible rfl
              rotate_left
              ·simp only [Act.put,List.setIfInBounds_toArray,List.set_cons_zero,List.set_cons_succ,i64_w,i32_w]
               rfl
              refine pure_ (i:=5) (N:=some 118) (v:=?_) (a':=?_) #[true,true,true,false,false,true,false,false,false,false,false,false,false,false,false,false,false,false,false] rfl rfl (any_of HT_.out (by kernel_rfl)) (fun _ _ _ h=>h) (Or.inl ⟨by rfl,?_⟩) ?_ ?_
              rotate_left
              ·intro w'
               go_simp
               with_reducible rfl
              rotate_left
              ·simp only [Act.put,List.setIfInBounds_toArray,List.set_cons_zero,List.set_cons_succ,i64_w,i32_w]
               rfl
              refine pure_ (i:=6) (N:=some 119) (v:=?_) (a':=?_) #[true,true,true,false,false,true,true,false,false,false,false,false,false,false,false,false,false,false,false] rfl rfl (any_of HT_.out (by kernel_rfl)) (fun _ _ _ h=>h) (Or.inl ⟨by rfl,?_⟩) ?_ ?_
              rotate_left
              ·intro w'
               go_simp
               with_reducible rfl
              rotate_left
              ·simp only [Act.put,List.setIfInBounds_toArray,List.set_cons_zero,List.set_cons_succ,i64_w,i32_w]
               rfl
              refine pure_ (i:=7) (N:=some 120) (v:=?_) (a':=?_) #[true,true,true,false,false,true,true,true,false,false,false,false,false,false,false,false,false,false,false] rfl rfl (any_of HT_.out (by kernel_rfl)) (fun _ _ _ h=>h) (Or.inl ⟨by rfl,?_⟩) ?_ ?_
              rotate_left
              ·intro w'
               go_simp
               with_reducible rfl
              rotate_left
              ·simp only [Act.put,List.setIfInBounds_toArray,List.set_cons_zero,List.set_cons_succ,i64_w,i32_w]
               rfl
              refine pure_ (i:=10) (N:=some 123) (v:=?_) (a':=?_) #[true,true,true,false,false,true,true,true,false,false,true,false,false,false,false,false,false,false,false] rfl rfl (any_of HT_.out (by kernel_rfl)) (fun _ _ _ h=>h) (Or.inl ⟨by rfl,?_⟩) ?_ ?_
              rotate_left
              ·intro w'
               go_simp
               with_reducible rfl
              rotate_left
              ·simp only [Act.put,List.setIfInBounds_toArray,List.set_cons_zero,List.set_cons_succ,i64_w,i32_w]
               rfl
              refine pure_ (i:=11) (N:=some 124) (v:=?_) (a':=?_) #[true,true,true,false,false,true,true,true,false,false,true,true,false,false,false,false,false,false,false] rfl rfl (any_of HT_.out (by kernel_rfl)) (fun _ _ _ h=>h) (Or.inl ⟨by rfl,?_⟩) ?_ ?_
              rotate_left
              ·intro w'
               go_simp
               with_reducible rfl
              rotate_left
              ·simp only [Act.put,List.setIfInBounds_toArray,List.set_cons_zero,List.set_cons_succ,i64_w,i32_w]
               rfl
              refine pure_ (i:=12) (N:=some 125) (v:=?_) (a':=?_) #[true,true,true,false,false,true,true,true,false,false,true,true,true,false,false,false,false,false,false] rfl rfl (any_of HT_.out (by kernel_rfl)) (fun _ _ _ h=>h) (Or.inl ⟨by rfl,?_⟩) ?_ ?_
              rotate_left
              ·intro w'
               go_simp
               with_reducible rfl
              rotate_left
              ·simp only [Act.put,List.setIfInBounds_toArray,List.set_cons_zero,List.set_cons_succ,i64_w,i32_w]
               rfl
              refine pure_ (i:=15) (N:=some 128) (v:=?_) (a':=?_) #[true,true,true,false,false,true,true,true,false,false,true,true,true,false,false,true,false,false,false] rfl rfl (any_of HT_.out (by kernel_rfl)) (fun _ _ _ h=>h) (Or.inl ⟨by rfl,?_⟩) ?_ ?_
              rotate_left
              ·intro w'
               go_simp
               with_reducible rfl
              rotate_left
              ·simp only [Act.put,List.setIfInBounds_toArray,List.set_cons_zero,List.set_cons_succ,i64_w,i32_w]
               rfl
              refine take_ (i:=3) (N:=some 116) (v:=?_) (a':=?_) #[true,true,true,true,false,true,true,true,false,false,true,true,true,false,false,true,false,false,false] rfl rfl (take_ofW HT_.out HW_.out (by kernel_rfl)) (fun _ _ _ h=>h) (Or.inl ⟨by rfl,?_⟩) hHeld ?_ ?_
              rotate_left
              ·rintro w' ⟨s0,s1,s2,s3⟩
               go_simp
               with_reducible rfl
              rotate_left
              ·simp only [Act.put,List.setIfInBounds_toArray,List.set_cons_zero,List.set_cons_succ,i64_w,i32_w]
               rfl
              refine take_ (i:=8) (N:=some 121) (v:=?_) (a':=?_) #[true,true,true,true,false,true,true,true,true,false,true,true,true,false,false,true,false,false,false] rfl rfl (take_ofW HT_.out HW_.out (by kernel_rfl)) (fun _ _ _ h=>h) (Or.inl ⟨by rfl,?_⟩) hHeld ?_ ?_
              rotate_left
              ·rintro w' ⟨s0,s1,s2,s3⟩
               go_simp
               with_reducible rfl
              rotate_left
              ·simp only [Act.put,List.setIfInBounds_toArray,List.set_cons_zero,List.set_cons_succ,i64_w,i32_w]
               rfl
              refine take_ (i:=13) (N:=some 126) (v:=?_) (a':=?_) #[true,true,true,true,false,true,true,true,true,false,true,true,true,true,false,true,false,false,false] rfl rfl (take_ofW HT_.out HW_.out (by kernel_rfl)) (fun _ _ _ h=>h) (Or.inl ⟨by rfl,?_⟩) hHeld ?_ ?_
              rotate_left
              ·rintro w' ⟨s0,s1,s2,s3⟩
               go_simp
               with_reducible rfl
              rotate_left
              ·simp only [Act.put,List.setIfInBounds_toArray,List.set_cons_zero,List.set_cons_succ,i64_w,i32_w]
               rfl
              refine take_ (i:=16) (N:=some 129) (v:=?_) (a':=?_) #[true,true,true,true,false,true,true,true,true,false,true,true,true,true,false,true,true,false,false] rfl rfl (take_ofW HT_.out HW_.out (by kernel_rfl)) (fun _ _ _ h=>h) (Or.inl ⟨by rfl,?_⟩) hHeld ?_ ?_
              rotate_left
              ·rintro w' ⟨s0,s1,s2,s3⟩
               go_simp
               with_reducible rfl
              rotate_left
              ·simp only [Act.put,List.setIfInBounds_toArray,List.set_cons_zero,List.set_cons_succ,i64_w,i32_w]
               rfl
              refine one_ (i:=4) (N:=some 117) #[true,true,true,true,true,true,true,true,true,false,true,true,true,true,false,true,true,false,false] rfl rfl (one_of HT_.out (by kernel_rfl)) (by decide) (fun K hK=>?_)
              refine goes_ Tryd.func43 (by kernel_rfl) rfl #[.slice Ao64 x3_4.length co64,.int .i64 ((rd_T55 l0_14 x8_4).f0.f0)] (by rfl) rfl rfl (by (try simp only [List.map_toArray,List.map_cons,List.map_nil]);first|done|rfl|(simp only [List.length_drop,List.length_take];rfl)) ?_
              with_reducible refine (insolvencyref33_num.calls k4 (fun k_=>some k_=(.slice Ao64 x3_4.length co64:Value).ownBlock) (.slice Ao64 x3_4.length co64) x3_4 ((rd_T55 l0_14 x8_4).f0.f0) t237 w _ ?side1 ?side2 A54.out).mono ?_
              (case side1=>repeat (first|(with_reducible first|exact HB.out|apply below_alloc|apply pw_below_drewN|apply below_drew1|refine below_set ?_ GE196.out|refine below_set ?_ GE236.out)|exact HB.out))
              (case side2=>exact Kd.R_tight rfl HO_3.out)
              rintro e w65 ⟨v238,rfl,ho0,hb,hkp⟩
              refine ⟨_,rfl,?_⟩
              have n0_:=Aside0.mk (blk_kept (by (with_reducible repeat (first|refine blk_drewN ?_ _|refine blk_drew ?_|refine blk_alloc ?_ _));exact BK196.out) hkp (fun hs_=>(fun e_=>(Kd.R_ne HO_3.out BK196.out (by decide)) e_) hs_))
              have n1_:=Aside0.mk (blk_kept (by (with_reducible repeat (first|refine blk_drewN ?_ _|refine blk_drew ?_|refine blk_alloc ?_ _));exact BK236.out) hkp (fun hs_=>(fun e_=>(Kd.R_ne HO_3.out BK236.out (by decide)) e_) hs_))
              have n2_:=Aside0.mk (Kd.R_mono (ok':=fun k_=>True) ho0 (fun k_ hk_=>trivial))
              have n3_:=Aside0.mk (hb)
              clear BK196
              clear BK236
              clear HB
              clear HO_3
              have BK196:=n0_
              have BK236:=n1_
              have HO239:=n2_
              have HB:=n3_
              clear n0_ n1_ n2_ n3_
              (try clear hb)
              (try clear hkp)
              (try clear ho0)
              obtain ⟨Ao66,co66,eo66⟩:=Kd.R_slice HO239.out
              (first|subst eo66|(injection eo66 with f1_ f2_ f3_;have f4_:=f1_.symm;have f5_:=f3_.symm;clear f1_ f2_ f3_;subst f4_;subst f5_))
              refine hK.out _ _ ⟨(blk_cell BK236.out 0).trans rfl,(blk_cell BK236.out 1).trans rfl,(blk_cell BK236.out 2).trans rfl,(blk_cell BK236.out 3).trans rfl⟩ (fun hHeld=>?_)
              clear hK K
              refine norm_ (a':=?_) ?_ ?_
              rotate_left
              ·show Act.put _ (some 117) _=_
               simp only [Act.put,List.setIfInBounds_toArray,List.set_cons_zero,List.set_cons_succ,i64_w,i32_w]
               rfl
              refine one_ (i:=9) (N:=some 122) #[true,true,true,true,true,true,true,true,true,true,true,true,true,true,false,true,true,false,false] rfl rfl (one_of HT_.out (by kernel_rfl)) (by decide) (fun K hK=>?_)
              refine goes_ Tryd.func43 (by kernel_rfl) rfl #[.slice Ao66 t237.length co66,.int .i64 ((rd_T55 l0_14 x8_4).f0.f1.f0)] (by rfl) rfl rfl (by (try simp only [List.map_toArray,List.map_cons,List.map_nil]);first|done|rfl|(simp only [List.length_drop,List.length_take];rfl)) ?_
              with_reducible refine (insolvencyref33_num.calls k4 (fun k_=>some k_=(.slice Ao66 t237.length co66:Value).ownBlock) (.slice Ao66 t237.length co66) t237 ((rd_T55 l0_14 x8_4).f0.f1.f0) t240 w _ ?side1 ?side2 A55.out).mono ?_
              (case side1=>repeat (first|(with_reducible first|exact HB.out|apply below_alloc|apply pw_below_drewN|apply below_drew1|refine below_set ?_ GE196.out|refine below_set ?_ GE236.out)|exact HB.out))
              (case side2=>exact Kd.R_tight rfl HO239.out)
              rintro e w67 ⟨v241,rfl,ho0,hb,hkp⟩
              refine ⟨_,rfl,?_⟩
              have n0_:=Aside0.mk (blk_kept (by (with_reducible repeat (first|refine blk_drewN ?_ _|refine blk_drew ?_|refine blk_alloc ?_ _));exact BK196.out) hkp (fun hs_=>(fun e_=>(Kd.R_ne HO239.out BK196.out (by decide)) e_) hs_))
              have n1_:=Aside0.mk (blk_kept (by (with_reducible repeat (first|refine blk_drewN ?_ _|refine blk_drew ?_|refine blk_alloc ?_ _));exact BK236.out) hkp (fun hs_=>(fun e_=>(Kd.R_ne HO239.out BK236.out (by decide)) e_) hs_))
              have n2_:=Aside0.mk (Kd.R_mono (ok':=fun k_=>True) ho0 (fun k_ hk_=>trivial))
              have n3_:=Aside0.mk (hb)
              clear BK196
              clear BK236
              clear HB
              clear HO239
              have BK196:=n0_
              have BK236:=n1_
              have HO242:=n2_
              have HB:=n3_
              clear n0_ n1_ n2_ n3_
              (try clear hb)
              (try clear hkp)
              (try clear ho0)
              obtain ⟨Ao68,co68,eo68⟩:=Kd.R_slice HO242.out
              (first|subst eo68|(injection eo68 with f1_ f2_ f3_;have f4_:=f1_.symm;have f5_:=f3_.symm;clear f1_ f2_ f3_;subst f4_;subst f5_))
              refine hK.out _ _ ⟨(blk_cell BK236.out 0).trans rfl,(blk_cell BK236.out 1).trans rfl,(blk_cell BK236.out 2).trans rfl,(blk_cell BK236.out 3).trans rfl⟩ (fun hHeld=>?_)
              clear hK K
              refine norm_ (a':=?_) ?_ ?_
              rotate_left
              ·show Act.put _ (some 122) _=_
               simp only [Act.put,List.setIfInBounds_toArray,List.set_cons_zero,List.set_cons_succ,i64_w,i32_w]
               rfl
              refine one_ (i:=14) (N:=some 127) #[true,true,true,true,true,true,true,true,true,true,true,true,true,true,true,true,true,false,false] rfl rfl (one_of HT_.out (by kernel_rfl)) (by decide) (fun K hK=>?_)
              refine goes_ Tryd.func43 (by kernel_rfl) rfl #[.slice Ao68 t240.length co68,.int .i64 ((rd_T55 l0_14 x8_4).f0.f1.f1)] (by rfl) rfl rfl (by (try simp only [List.map_toArray,List.map_cons,List.map_nil]);first|done|rfl|(simp only [List.length_drop,List.length_take];rfl)) ?_
              with_reducible refine (insolvencyref33_num.calls k4 (fun k_=>some k_=(.slice Ao68 t240.length co68:Value).ownBlock) (.slice Ao68 t240.length co68) t240 ((rd_T55 l0_14 x8_4).f0.f1.f1) t243 w _ ?side1 ?side2 A56.out).mono ?_
              (case side1=>repeat (first|(with_reducible first|exact HB.out|apply below_alloc|apply pw_below_drewN|apply below_drew1|refine below_set ?_ GE196.out|refine below_set ?_ GE236.out)|exact HB.out))
              (case side2=>exact Kd.R_tight rfl HO242.out)
              rintro e w69 ⟨v244,rfl,ho0,hb,hkp⟩
              refine ⟨_,rfl,?_⟩
              have n0_:=Aside0.mk (blk_kept (by (with_reducible repeat (first|refine blk_drewN ?_ _|refine blk_drew ?_|refine blk_alloc ?_ _));exact BK196.out) hkp (fun hs_=>(fun e_=>(Kd.R_ne HO242.out BK196.out (by decide)) e_) hs_))
              have n1_:=Aside0.mk (blk_kept (by (with_reducible repeat (first|refine blk_drewN ?_ _|refine blk_drew ?_|refine blk_alloc ?_ _));exact BK236.out) hkp (fun hs_=>(fun e_=>(Kd.R_ne HO242.out BK236.out (by decide)) e_) hs_))
              have n2_:=Aside0.mk (Kd.R_mono (ok':=fun k_=>True) ho0 (fun k_ hk_=>trivial))
              have n3_:=Aside0.mk (hb)
              clear BK196
              clear BK236
              clear HB
              clear HO242
              have BK196:=n0_
              have BK236:=n1_
              have HO245:=n2_
              have HB:=n3_
              clear n0_ n1_ n2_ n3_
              (try clear hb)
              (try clear hkp)
              (try clear ho0)
              obtain ⟨Ao70,co70,eo70⟩:=Kd.R_slice HO245.out
              (first|subst eo70|(injection eo70 with f1_ f2_ f3_;have f4_:=f1_.symm;have f5_:=f3_.symm;clear f1_ f2_ f3_;subst f4_;subst f5_))
              refine hK.out _ _ ⟨(blk_cell BK236.out 0).trans rfl,(blk_cell BK236.out 1).trans rfl,(blk_cell BK236.out 2).trans rfl,(blk_cell BK236.out 3).trans rfl⟩ (fun hHeld=>?_)
              clear hK K
              refine norm_ (a':=?_) ?_ ?_
              rotate_left
              ·show Act.put _ (some 127) _=_
               simp only [Act.put,List.setIfInBounds_toArray,List.set_cons_zero,List.set_cons_succ,i64_w,i32_w]
               rfl
              refine one_ (i:=17) (N:=some 130) #[true,true,true,true,true,true,true,true,true,true,true,true,true,true,true,true,true,true,false] rfl rfl (one_of HT_.out (by kernel_rfl)) (by decide) (fun K hK=>?_)
              refine goes_ Tryd.func43 (by kernel_rfl) rfl #[.slice Ao70 t243.length co70,.int .i64 ((rd_T55 l0_14 x8_4).f1)] (by rfl) rfl rfl (by (try simp only [List.map_toArray,List.map_cons,List.map_nil]);first|done|rfl|(simp only [List.length_drop,List.length_take];rfl)) ?_
              with_reducible refine (insolvencyref33_num.calls k4 (fun k_=>some k_=(.slice Ao70 t243.length co70:Value).ownBlock) (.slice Ao70 t243.length co70) t243 ((rd_T55 l0_14 x8_4).f1) t246 w _ ?side1 ?side2 A57.out).mono ?_
              (case side1=>repeat (first|(with_reducible first|exact HB.out|apply below_alloc|apply pw_below_drewN|apply below_drew1|refine below_set ?_ GE196.out|refine below_set ?_ GE236.out)|exact HB.out))
              (case side2=>exact Kd.R_tight rfl HO245.out)
              rintro e w71 ⟨v247,rfl,ho0,hb,hkp⟩
              refine ⟨_,rfl,?_⟩
              have n0_:=Aside0.mk (blk_kept (by (with_reducible repeat (first|refine blk_drewN ?_ _|refine blk_drew ?_|refine blk_alloc ?_ _));exact BK196.out) hkp (fun hs_=>(fun e_=>(Kd.R_ne HO245.out BK196.out (by decide)) e_) hs_))
              have n1_:=Aside0.mk (blk_kept (by (with_reducible repeat (first|refine blk_drewN ?_ _|refine blk_drew ?_|refine blk_alloc ?_ _));exact BK236.out) hkp (fun hs_=>(fun e_=>(Kd.R_ne HO245.out BK236.out (by decide)) e_) hs_))
              have n2_:=Aside0.mk (Kd.R_mono (ok':=fun k_=>True) ho0 (fun k_ hk_=>trivial))
              have n3_:=Aside0.mk (hb)
              clear BK196
              clear BK236
              clear HB
              clear HO245
              have BK196:=n0_
              have BK236:=n1_
              have HO248:=n2_
              have HB:=n3_
              clear n0_ n1_ n2_ n3_
              (try clear hb)
              (try clear hkp)
              (try clear ho0)
              refine hK.out _ _ ⟨(blk_cell BK236.out 0).trans rfl,(blk_cell BK236.out 1).trans rfl,(blk_cell BK236.out 2).trans rfl,(blk_cell BK236.out 3).trans rfl⟩ (fun hHeld=>?_)
              clear hK K
              refine norm_ (a':=?_) ?_ ?_
              rotate_left
              ·show Act.put _ (some 130) _=_
               simp only [Act.put,List.setIfInBounds_toArray,List.set_cons_zero,List.set_cons_succ,i64_w,i32_w]
               rfl
              refine pure_ (i:=18) (N:=some 3) (v:=?_) (a':=?_) #[true,true,true,true,true,true,true,true,true,true,true,true,true,true,true,true,true,true,true] rfl rfl (any_of HT_.out (by kernel_rfl)) (fun _ _ _ h=>h) (Or.inl ⟨by rfl,?_⟩) ?_ ?_
              rotate_left
              ·intro w'
               go_simp
               with_reducible rfl
              rotate_left
              ·simp only [Act.put,List.setIfInBounds_toArray,List.set_cons_zero,List.set_cons_succ,i64_w,i32_w]
               rfl
              refine done_ (done_of HT_.out (by kernel_rfl)) ?_
              try go_wp2
              go_roundg k4
              case measure=>have:=HK1.out;have:=HK2.out;have:=HK3.out;have:=HK4.out;omega
              case rel=>exact ⟨(t246),(wrap64 (x8_4+1)),(by first|rfl|(simp;done)|(simp [*];done)),H',⟨by have:=HK1.out;have:=HK2.out;have:=HK3.out;have:=HK4.out;omega⟩,⟨by (with_reducible repeat (first|apply Kd.R_alloc|apply Kd.R_drewN|apply Kd.R_drew));exact HO248.out⟩,⟨by (with_reducible repeat (first|refine blk_drewN ?_ _|refine blk_drew ?_|refine blk_alloc ?_ _));exact BK196.out⟩,⟨by repeat (first|(with_reducible first|exact HB.out|apply below_alloc|apply pw_below_drewN|apply below_drew1|refine below_set ?_ GE196.out|refine below_set ?_ GE236.out)|exact HB.out)⟩⟩
             ·rw [if_neg c53] at H
              exact absurd H (by simp)
            ·rw [if_neg c52] at H
             have c52b0:decide (x8_4<(l0_14.length:Int))=false:=decide_eq_false c52
             clear c52
             obtain rfl:=Option.some.inj H
             have hcz72_0:wr.cell? ⟨gb196,0,none⟩=some (.int .i64 a0_0):=(blk_cell BK196.out 0).trans rfl
             have hcz72_1:wr.cell? ⟨gb196,1,none⟩=some (.int .i64 a0_1):=(blk_cell BK196.out 1).trans rfl
             have hcz72_2:wr.cell? ⟨gb196,2,none⟩=some (.int .i64 a0_2):=(blk_cell BK196.out 2).trans rfl
             have hcz72_3:wr.cell? ⟨gb196,3,none⟩=some (.int .i64 a0_3):=(blk_cell BK196.out 3).trans rfl
             have hcz72_4:wr.cell? ⟨gb196,4,none⟩=some (.int .i64 a0_4):=(blk_cell BK196.out 4).trans rfl
             have hcz72_5:wr.cell? ⟨gb196,5,none⟩=some (.int .i64 a0_5):=(blk_cell BK196.out 5).trans rfl
             have hcz72_6:wr.cell? ⟨gb196,6,none⟩=some (.bool a0_6):=(blk_cell BK196.out 6).trans rfl
             have hcz72_7:wr.cell? ⟨gb196,7,none⟩=some (.string a0_7):=(blk_cell BK196.out 7).trans rfl
             have hcz72_8:wr.cell? ⟨gb196,8,none⟩=some (.string a0_8):=(blk_cell BK196.out 8).trans rfl
             have hcz72_9:wr.cell? ⟨gb196,9,none⟩=some (.bool a0_9):=(blk_cell BK196.out 9).trans rfl
             have hcz72_10:wr.cell? ⟨gb196,10,none⟩=some (.string a0_10):=(blk_cell BK196.out 10).trans rfl
             have hcz72_11:wr.cell? ⟨gb196,11,none⟩=some (.string a0_11):=(blk_cell BK196.out 11).trans rfl
             have hcz72_12:wr.cell? ⟨gb196,12,none⟩=some (.slice A0_12 l0_12.length c0_12):=(blk_cell BK196.out 12).trans rfl
             have hcz72_13:wr.cell? ⟨gb196,13,none⟩=some (.slice A0_13 l0_13.length c0_13):=(blk_cell BK196.out 13).trans rfl
             have hcz72_14:wr.cell? ⟨gb196,14,none⟩=some (.slice A0_14 l0_14.length c0_14):=(blk_cell BK196.out 14).trans rfl
             have hfz72_0:=blk_frozen BK196.out 0
             have hfz72_1:=blk_frozen BK196.out 1
             have hfz72_2:=blk_frozen BK196.out 2
             have hfz72_3:=blk_frozen BK196.out 3
             have hfz72_4:=blk_frozen BK196.out 4
             have hfz72_5:=blk_frozen BK196.out 5
             have hfz72_6:=blk_frozen BK196.out 6
             have hfz72_7:=blk_frozen BK196.out 7
             have hfz72_8:=blk_frozen BK196.out 8
             have hfz72_9:=blk_frozen BK196.out 9
             have hfz72_10:=blk_frozen BK196.out 10
             have hfz72_11:=blk_frozen BK196.out 11
             have hfz72_12:=blk_frozen BK196.out 12
             have hfz72_13:=blk_frozen BK196.out 13
             have hfz72_14:=blk_frozen BK196.out 14
             go_wp2
             go_ret
             exact ⟨_,by first|rfl|(simp [errW_none,errW_some] <;> rfl)|(simp [*,errW_none,errW_some] <;> rfl),by (with_reducible repeat (first|apply Kd.R_alloc|apply Kd.R_drewN|apply Kd.R_drew));exact HO_3.out,by repeat (first|(with_reducible first|exact HB.out|apply below_alloc|apply pw_below_drewN|apply below_drew1|refine below_set ?_ GE196.out)|exact HB.out)⟩
end Go.Proofs.YtcipcpodgkeobaaDoor.F
end
section
namespace Go.Proofs.YtcipcpodgkeobaaDoor.F
open Go.RowKit Go.Proofs.YtcipcpodgkeobaaDoorW.PrintWords Go.Proofs.YtcipcpodgkeobaaDoorW.PrintLast Go.Proofs.YtcipcpodgkeobaaDoorW.PrintMore
attribute [local go_sem] max2_int min2_int max_two min_two max_three min_three max_four min_four   
set_option linter.unusedVariables false
set_option linter.unusedSimpArgs false
def insolvencyref33_small.f (a0:Int):Option (Bool):=if a0≥(-1125899906842624) then (some (decide (a0≤1125899906842624))) else (some false)
set_option maxHeartbeats 8000000 in
set_option maxRecDepth 100000 in
theorem insolvencyref33_small.calls (a0:Int) (r:Bool) (w:World) (h:insolvencyref33_small.f a0=some r) :
 Calls Tryd.prog 35 #[.int .i64 a0] w fun e w'=>e = .returned (.bool r)∧Drawn0 w w':=by
 have H:(if a0≥(-1125899906842624) then (some (decide (a0≤1125899906842624))) else (some false))=some r:=h
 clear h
 by_cases c2:a0≥(-1125899906842624)
 ·rw [if_pos c2] at H
  have c2b0:decide ((-1125899906842624)≤a0)=true:=decide_eq_true c2
  clear c2
  obtain rfl:=Option.some.inj H
  go_enter Tryd.func35,Tryd.ntmps35
  go_wp2
  go_ret
  exact ⟨by first|rfl|(simp;done)|(simp [*];done),by repeat (first|exact Drawn0.refl _|apply Drawn0.step)⟩
 ·rw [if_neg c2] at H
  have c2b0:decide ((-1125899906842624)≤a0)=false:=decide_eq_false c2
  clear c2
  obtain rfl:=Option.some.inj H
  go_enter Tryd.func35,Tryd.ntmps35
  go_wp2
  go_ret
  exact ⟨by first|rfl|(simp;done)|(simp [*];done),by repeat (first|exact Drawn0.refl _|apply Drawn0.step)⟩
end Go.Proofs.YtcipcpodgkeobaaDoor.F
end
