/- Part 11 of the proof of CodecRound: the functions' walks and what they compute, in the order of the calls; each holds for all arguments that its row allows. -/
import Derived.Test.YtcipcpodgkeobaaDoorMCodecRound7
import Derived.Test.YtcipcpodgkeobaaDoorMCodecRound8
import Derived.Test.YtcipcpodgkeobaaDoorMCodecRound10
import Derived.Test.YtcipcpodgkeobaaDoorMCodecRound9
import Derived.Test.YtcipcpodgkeobaaDoorMCodecRound6
import Derived.Laws.BitsLemmas
import Derived.IntWalk
import Derived.Test.YtcipcpodgkeobaaDoorMCodecRound3
import Derived.KernelRfl
section
namespace Go.Proofs.YtcipcpodgkeobaaDoor.F
open Go.RowKit Go.Proofs.YtcipcpodgkeobaaDoorW.PrintWords Go.Proofs.YtcipcpodgkeobaaDoorW.PrintLast Go.Proofs.YtcipcpodgkeobaaDoorW.PrintMore
attribute [local go_sem] max2_int min2_int max_two min_two max_three min_three max_four min_four   
set_option linter.unusedVariables false
set_option linter.unusedSimpArgs false
attribute [local go_sem high] eqA30 eqA49 eqA51
mutual
def za2.j0:Nat→Bool→Int→Int→Int→Int→Int→Int→Bool→ByteArray→ByteArray→Bool→ByteArray→ByteArray→List (S49)→List (S51)→Int→Int→Int→Int→Int→Int→Bool→ByteArray→ByteArray→Bool→ByteArray→ByteArray→List (S49)→List (S51)→Option (Bool)
 | 0,_,_,_,_,_,_,_,_,_,_,_,_,_,_,_,_,_,_,_,_,_,_,_,_,_,_,_,_,_=>none
 | k+1,x44,x866000,x866001,x866002,x866003,x866004,x866005,x866006,x866007,x866008,x866009,x866010,x866011,x866012,x866013,x867000,x867001,x867002,x867003,x867004,x867005,x867006,x867007,x867008,x867009,x867010,x867011,x867012,x867013=>if x44=true then (some false) else (za2.l0 k 0 x866000 x866001 x866002 x866003 x866004 x866005 x866006 x866007 x866008 x866009 x866010 x866011 x866012 x866013 x867000 x867001 x867002 x867003 x867004 x867005 x867006 x867007 x867008 x867009 x867010 x867011 x867012 x867013)
def za2.l0:Nat→Int→Int→Int→Int→Int→Int→Int→Bool→ByteArray→ByteArray→Bool→ByteArray→ByteArray→List (S49)→List (S51)→Int→Int→Int→Int→Int→Int→Bool→ByteArray→ByteArray→Bool→ByteArray→ByteArray→List (S49)→List (S51)→Option (Bool)
 | 0,_,_,_,_,_,_,_,_,_,_,_,_,_,_,_,_,_,_,_,_,_,_,_,_,_,_,_,_,_=>none
 | k+1,x5,x866000,x866001,x866002,x866003,x866004,x866005,x866006,x866007,x866008,x866009,x866010,x866011,x866012,x866013,x867000,x867001,x867002,x867003,x867004,x867005,x867006,x867007,x867008,x867009,x867010,x867011,x867012,x867013=>if x5<(x866012.length:Int) then (if 0≤x5 then (if x5<(x867012.length:Int) then (if (!(((rd_T49 x866012 x5).f0) == ((rd_T49 x867012 x5).f0)) || (!(((rd_T49 x866012 x5).f1) == ((rd_T49 x867012 x5).f1))))=true then (some false) else (za2.l0 k (wrap64 (x5+1)) x866000 x866001 x866002 x866003 x866004 x866005 x866006 x866007 x866008 x866009 x866010 x866011 x866012 x866013 x867000 x867001 x867002 x867003 x867004 x867005 x867006 x867007 x867008 x867009 x867010 x867011 x867012 x867013)) else (none)) else (none)) else (za2.l1 k 0 x866000 x866001 x866002 x866003 x866004 x866005 x866006 x866007 x866008 x866009 x866010 x866011 x866012 x866013 x867000 x867001 x867002 x867003 x867004 x867005 x867006 x867007 x867008 x867009 x867010 x867011 x867012 x867013)
def za2.l1:Nat→Int→Int→Int→Int→Int→Int→Int→Bool→ByteArray→ByteArray→Bool→ByteArray→ByteArray→List (S49)→List (S51)→Int→Int→Int→Int→Int→Int→Bool→ByteArray→ByteArray→Bool→ByteArray→ByteArray→List (S49)→List (S51)→Option (Bool)
 | 0,_,_,_,_,_,_,_,_,_,_,_,_,_,_,_,_,_,_,_,_,_,_,_,_,_,_,_,_,_=>none
 | k+1,x6,x866000,x866001,x866002,x866003,x866004,x866005,x866006,x866007,x866008,x866009,x866010,x866011,x866012,x866013,x867000,x867001,x867002,x867003,x867004,x867005,x867006,x867007,x867008,x867009,x867010,x867011,x867012,x867013=>if x6<(x866013.length:Int) then (if 0≤x6 then (if x6<(x867013.length:Int) then (if ((!(((rd_T51 x866013 x6).f0.f0) == ((rd_T51 x867013 x6).f0.f0)) || (!((((rd_T51 x866013 x6).f0.f1).toList) == (((rd_T51 x867013 x6).f0.f1).toList)) || (!((((rd_T51 x866013 x6).f0.f2).toList) == (((rd_T51 x867013 x6).f0.f2).toList))))) || (!(((rd_T51 x866013 x6).f1) == ((rd_T51 x867013 x6).f1))))=true then (some false) else (za2.l1 k (wrap64 (x6+1)) x866000 x866001 x866002 x866003 x866004 x866005 x866006 x866007 x866008 x866009 x866010 x866011 x866012 x866013 x867000 x867001 x867002 x867003 x867004 x867005 x867006 x867007 x867008 x867009 x867010 x867011 x867012 x867013)) else (none)) else (none)) else (some true)
end
def za2.f (k:Nat) (a0_0:Int) (a0_1:Int) (a0_2:Int) (a0_3:Int) (a0_4:Int) (a0_5:Int) (a0_6:Bool) (a0_7:ByteArray) (a0_8:ByteArray) (a0_9:Bool) (a0_10:ByteArray) (a0_11:ByteArray) (l0_12:List (S49)) (l0_13:List (S51)) (a1_0:Int) (a1_1:Int) (a1_2:Int) (a1_3:Int) (a1_4:Int) (a1_5:Int) (a1_6:Bool) (a1_7:ByteArray) (a1_8:ByteArray) (a1_9:Bool) (a1_10:ByteArray) (a1_11:ByteArray) (l1_12:List (S49)) (l1_13:List (S51)):Option (Bool):=(zbo.f a0_0 a0_1 a0_2 a0_3 a0_4 a0_5 a0_6 a0_7 a0_8 a0_9 a0_10 a0_11 l0_12 l0_13).bind fun t867=>((zbo.f a1_0 a1_1 a1_2 a1_3 a1_4 a1_5 a1_6 a1_7 a1_8 a1_9 a1_10 a1_11 l1_12 l1_13).bind fun t870=>((zam.f k t867 t870).bind fun t873=>(if t873=true then (if (!(a0_6 == a1_6) || (!(a0_7.toList == a1_7.toList) || (!(a0_8.toList == a1_8.toList))))=true then (za2.j0 k true a0_0 a0_1 a0_2 a0_3 a0_4 a0_5 a0_6 a0_7 a0_8 a0_9 a0_10 a0_11 l0_12 l0_13 a1_0 a1_1 a1_2 a1_3 a1_4 a1_5 a1_6 a1_7 a1_8 a1_9 a1_10 a1_11 l1_12 l1_13) else (if (!(a0_9 == a1_9) || (!(a0_10.toList == a1_10.toList) || (!(a0_11.toList == a1_11.toList))))=true then (za2.j0 k true a0_0 a0_1 a0_2 a0_3 a0_4 a0_5 a0_6 a0_7 a0_8 a0_9 a0_10 a0_11 l0_12 l0_13 a1_0 a1_1 a1_2 a1_3 a1_4 a1_5 a1_6 a1_7 a1_8 a1_9 a1_10 a1_11 l1_12 l1_13) else (if (l0_12.length:Int)=(l1_12.length:Int) then (za2.j0 k ((l0_13.length:Int) != (l1_13.length:Int)) a0_0 a0_1 a0_2 a0_3 a0_4 a0_5 a0_6 a0_7 a0_8 a0_9 a0_10 a0_11 l0_12 l0_13 a1_0 a1_1 a1_2 a1_3 a1_4 a1_5 a1_6 a1_7 a1_8 a1_9 a1_10 a1_11 l1_12 l1_13) else (za2.j0 k true a0_0 a0_1 a0_2 a0_3 a0_4 a0_5 a0_6 a0_7 a0_8 a0_9 a0_10 a0_11 l0_12 l0_13 a1_0 a1_1 a1_2 a1_3 a1_4 a1_5 a1_6 a1_7 a1_8 a1_9 a1_10 a1_11 l1_12 l1_13)))) else (za2.j0 k true a0_0 a0_1 a0_2 a0_3 a0_4 a0_5 a0_6 a0_7 a0_8 a0_9 a0_10 a0_11 l0_12 l0_13 a1_0 a1_1 a1_2 a1_3 a1_4 a1_5 a1_6 a1_7 a1_8 a1_9 a1_10 a1_11 l1_12 l1_13))))
theorem za2.mono_l:∀ k,(∀ y0 y1 y2 y3 y4 y5 y6 y7 y8 y9 y10 y11 y12 y13 y14 y15 y16 y17 y18 y19 y20 y21 y22 y23 y24 y25 y26 y27 y28,LeO (za2.j0 k y0 y1 y2 y3 y4 y5 y6 y7 y8 y9 y10 y11 y12 y13 y14 y15 y16 y17 y18 y19 y20 y21 y22 y23 y24 y25 y26 y27 y28) (za2.j0 (k+1) y0 y1 y2 y3 y4 y5 y6 y7 y8 y9 y10 y11 y12 y13 y14 y15 y16 y17 y18 y19 y20 y21 y22 y23 y24 y25 y26 y27 y28))∧(∀ y0 y1 y2 y3 y4 y5 y6 y7 y8 y9 y10 y11 y12 y13 y14 y15 y16 y17 y18 y19 y20 y21 y22 y23 y24 y25 y26 y27 y28,LeO (za2.l0 k y0 y1 y2 y3 y4 y5 y6 y7 y8 y9 y10 y11 y12 y13 y14 y15 y16 y17 y18 y19 y20 y21 y22 y23 y24 y25 y26 y27 y28) (za2.l0 (k+1) y0 y1 y2 y3 y4 y5 y6 y7 y8 y9 y10 y11 y12 y13 y14 y15 y16 y17 y18 y19 y20 y21 y22 y23 y24 y25 y26 y27 y28))∧(∀ y0 y1 y2 y3 y4 y5 y6 y7 y8 y9 y10 y11 y12 y13 y14 y15 y16 y17 y18 y19 y20 y21 y22 y23 y24 y25 y26 y27 y28,LeO (za2.l1 k y0 y1 y2 y3 y4 y5 y6 y7 y8 y9 y10 y11 y12 y13 y14 y15 y16 y17 y18 y19 y20 y21 y22 y23 y24 y25 y26 y27 y28) (za2.l1 (k+1) y0 y1 y2 y3 y4 y5 y6 y7 y8 y9 y10 y11 y12 y13 y14 y15 y16 y17 y18 y19 y20 y21 y22 y23 y24 y25 y26 y27 y28))
 | 0=>⟨fun _ _ _ _ _ _ _ _ _ _ _ _ _ _ _ _ _ _ _ _ _ _ _ _ _ _ _ _ _ r h=>by simp [za2.j0] at h,fun _ _ _ _ _ _ _ _ _ _ _ _ _ _ _ _ _ _ _ _ _ _ _ _ _ _ _ _ _ r h=>by simp [za2.l0] at h,fun _ _ _ _ _ _ _ _ _ _ _ _ _ _ _ _ _ _ _ _ _ _ _ _ _ _ _ _ _ r h=>by simp [za2.l1] at h⟩
 | k+1=>by
  obtain ⟨ih0,ih1,ih2⟩:=za2.mono_l k;refine ⟨?_,?_,?_⟩
  ·intro y0 y1 y2 y3 y4 y5 y6 y7 y8 y9 y10 y11 y12 y13 y14 y15 y16 y17 y18 y19 y20 y21 y22 y23 y24 y25 y26 y27 y28
   unfold za2.j0
   repeat' first
   | (with_reducible exact ih0 _ _ _ _ _ _ _ _ _ _ _ _ _ _ _ _ _ _ _ _ _ _ _ _ _ _ _ _ _)
   | (with_reducible exact ih1 _ _ _ _ _ _ _ _ _ _ _ _ _ _ _ _ _ _ _ _ _ _ _ _ _ _ _ _ _)
   | (with_reducible exact ih2 _ _ _ _ _ _ _ _ _ _ _ _ _ _ _ _ _ _ _ _ _ _ _ _ _ _ _ _ _)
   | (with_reducible exact zam.mono _ _ _)
   | (with_reducible exact LeO.refl _)
   | (with_reducible exact LeO.none _)
   | (with_reducible refine LeO.ite ?_ ?_)
   | (with_reducible refine LeO.bind ?_ (fun _=>?_))
   | exact ih0 _ _ _ _ _ _ _ _ _ _ _ _ _ _ _ _ _ _ _ _ _ _ _ _ _ _ _ _ _
   | exact ih1 _ _ _ _ _ _ _ _ _ _ _ _ _ _ _ _ _ _ _ _ _ _ _ _ _ _ _ _ _
   | exact ih2 _ _ _ _ _ _ _ _ _ _ _ _ _ _ _ _ _ _ _ _ _ _ _ _ _ _ _ _ _
   | exact zam.mono _ _ _
   | exact LeO.none _
   | refine LeO.ite ?_ ?_
   | refine LeO.bind ?_ (fun _=>?_)
  ·intro y0 y1 y2 y3 y4 y5 y6 y7 y8 y9 y10 y11 y12 y13 y14 y15 y16 y17 y18 y19 y20 y21 y22 y23 y24 y25 y26 y27 y28
   unfold za2.l0
   repeat' first
   | (with_reducible exact ih0 _ _ _ _ _ _ _ _ _ _ _ _ _ _ _ _ _ _ _ _ _ _ _ _ _ _ _ _ _)
   | (with_reducible exact ih1 _ _ _ _ _ _ _ _ _ _ _ _ _ _ _ _ _ _ _ _ _ _ _ _ _ _ _ _ _)
   | (with_reducible exact ih2 _ _ _ _ _ _ _ _ _ _ _ _ _ _ _ _ _ _ _ _ _ _ _ _ _ _ _ _ _)
   | (with_reducible exact zam.mono _ _ _)
   | (with_reducible exact LeO.refl _)
   | (with_reducible exact LeO.none _)
   | (with_reducible refine LeO.ite ?_ ?_)
   | (with_reducible refine LeO.bind ?_ (fun _=>?_))
   | exact ih0 _ _ _ _ _ _ _ _ _ _ _ _ _ _ _ _ _ _ _ _ _ _ _ _ _ _ _ _ _
   | exact ih1 _ _ _ _ _ _ _ _ _ _ _ _ _ _ _ _ _ _ _ _ _ _ _ _ _ _ _ _ _
   | exact ih2 _ _ _ _ _ _ _ _ _ _ _ _ _ _ _ _ _ _ _ _ _ _ _ _ _ _ _ _ _
   | exact zam.mono _ _ _
   | exact LeO.none _
   | refine LeO.ite ?_ ?_
   | refine LeO.bind ?_ (fun _=>?_)
  ·intro y0 y1 y2 y3 y4 y5 y6 y7 y8 y9 y10 y11 y12 y13 y14 y15 y16 y17 y18 y19 y20 y21 y22 y23 y24 y25 y26 y27 y28
   unfold za2.l1
   repeat' first
   | (with_reducible exact ih0 _ _ _ _ _ _ _ _ _ _ _ _ _ _ _ _ _ _ _ _ _ _ _ _ _ _ _ _ _)
   | (with_reducible exact ih1 _ _ _ _ _ _ _ _ _ _ _ _ _ _ _ _ _ _ _ _ _ _ _ _ _ _ _ _ _)
   | (with_reducible exact ih2 _ _ _ _ _ _ _ _ _ _ _ _ _ _ _ _ _ _ _ _ _ _ _ _ _ _ _ _ _)
   | (with_reducible exact zam.mono _ _ _)
   | (with_reducible exact LeO.refl _)
   | (with_reducible exact LeO.none _)
   | (with_reducible refine LeO.ite ?_ ?_)
   | (with_reducible refine LeO.bind ?_ (fun _=>?_))
   | exact ih0 _ _ _ _ _ _ _ _ _ _ _ _ _ _ _ _ _ _ _ _ _ _ _ _ _ _ _ _ _
   | exact ih1 _ _ _ _ _ _ _ _ _ _ _ _ _ _ _ _ _ _ _ _ _ _ _ _ _ _ _ _ _
   | exact ih2 _ _ _ _ _ _ _ _ _ _ _ _ _ _ _ _ _ _ _ _ _ _ _ _ _ _ _ _ _
   | exact zam.mono _ _ _
   | exact LeO.none _
   | refine LeO.ite ?_ ?_
   | refine LeO.bind ?_ (fun _=>?_)
theorem za2.mono:∀ a0 a1 a2 a3 a4 a5 a6 a7 a8 a9 a10 a11 a12 a13 a14 a15 a16 a17 a18 a19 a20 a21 a22 a23 a24 a25 a26 a27 k,LeO (za2.f k a0 a1 a2 a3 a4 a5 a6 a7 a8 a9 a10 a11 a12 a13 a14 a15 a16 a17 a18 a19 a20 a21 a22 a23 a24 a25 a26 a27) (za2.f (k+1) a0 a1 a2 a3 a4 a5 a6 a7 a8 a9 a10 a11 a12 a13 a14 a15 a16 a17 a18 a19 a20 a21 a22 a23 a24 a25 a26 a27):=by
 intro a0 a1 a2 a3 a4 a5 a6 a7 a8 a9 a10 a11 a12 a13 a14 a15 a16 a17 a18 a19 a20 a21 a22 a23 a24 a25 a26 a27 k;obtain ⟨ih0,ih1,ih2⟩:=za2.mono_l k;unfold za2.f
 repeat' first
  | (with_reducible exact ih0 _ _ _ _ _ _ _ _ _ _ _ _ _ _ _ _ _ _ _ _ _ _ _ _ _ _ _ _ _)
  | (with_reducible exact ih1 _ _ _ _ _ _ _ _ _ _ _ _ _ _ _ _ _ _ _ _ _ _ _ _ _ _ _ _ _)
  | (with_reducible exact ih2 _ _ _ _ _ _ _ _ _ _ _ _ _ _ _ _ _ _ _ _ _ _ _ _ _ _ _ _ _)
  | (with_reducible exact zam.mono _ _ _)
  | (with_reducible exact LeO.refl _)
  | (with_reducible exact LeO.none _)
  | (with_reducible refine LeO.ite ?_ ?_)
  | (with_reducible refine LeO.bind ?_ (fun _=>?_))
  | exact ih0 _ _ _ _ _ _ _ _ _ _ _ _ _ _ _ _ _ _ _ _ _ _ _ _ _ _ _ _ _
  | exact ih1 _ _ _ _ _ _ _ _ _ _ _ _ _ _ _ _ _ _ _ _ _ _ _ _ _ _ _ _ _
  | exact ih2 _ _ _ _ _ _ _ _ _ _ _ _ _ _ _ _ _ _ _ _ _ _ _ _ _ _ _ _ _
  | exact zam.mono _ _ _
  | exact LeO.none _
  | refine LeO.ite ?_ ?_
  | refine LeO.bind ?_ (fun _=>?_)
def za2.T1:Bool×List (List Nat×List Nat):=(true,[([],[]),([0],[0]),([],[]),([2,1],[2]),([1,3,3],[1,3]),([4],[4]),([5,4],[5]),([6],[6]),([7,6],[6,7]),([6],[6]),([9,6],[6,9]),([8,10,6],[6,8,10]),([6,11],[6,11]),([12,6],[12]),([13],[13]),([14,13],[13,14]),([13],[13]),([16,13],[13,16]),([15,17,13],[13,15,17]),([13,18],[13,18]),([19,13],[19]),([20],[20]),([21,20],[20,21]),([22,20],[20,22]),([20],[20]),([24,20],[20,24]),([25,20],[20,25]),([23,26,20],[20,23,26]),([20,27],[20,27]),([28,20],[28]),([29],[29]),([30,29],[29,30]),([31,29],[29,31]),([29],[29]),([33,29],[29,33]),([34,29],[29,34]),([32,35,29],[29,32,35]),([29,36],[29,36])])
def za2.B1:List Nat:=[0,1,0,7,15,31,63,127,255,127,639,2047,4095,8191,16383,32767,16383,81919,262143,524287,1048575,2097151,4194303,8388607,2097151,18874367,52428799,134217727,268435455,536870911,1073741823,2147483647,4294967295,1073741823,9663676415,26843545599,68719476735,137438953471]
theorem za2.tab1:rtab .any (opsOf Tryd.f32 1)=za2.T1:=by kernel_rfl
theorem za2.bits1:waitsOk za2.T1.2 za2.B1=true:=by kernel_rfl
def za2.T6:Bool×List (List Nat×List Nat):=(true,[([],[]),([0],[0]),([],[]),([1,2],[1,2]),([3],[3]),([],[]),([5],[5]),([],[]),([6,7],[6,7]),([8],[8]),([4,9],[4,9])])
def za2.B6:List Nat:=[0,1,0,7,15,0,32,0,224,480,1023]
theorem za2.tab6:rtab .any (opsOf Tryd.f32 6)=za2.T6:=by kernel_rfl
theorem za2.bits6:waitsOk za2.T6.2 za2.B6=true:=by kernel_rfl
def za2.T11:Bool×List (List Nat×List Nat):=(true,[([],[]),([0],[0]),([],[]),([1,2],[1,2]),([3],[3]),([],[]),([5],[5]),([],[]),([6,7],[6,7]),([8],[8]),([4,9],[4,9])])
def za2.B11:List Nat:=[0,1,0,7,15,0,32,0,224,480,1023]
theorem za2.tab11:rtab .any (opsOf Tryd.f32 11)=za2.T11:=by kernel_rfl
theorem za2.bits11:waitsOk za2.T11.2 za2.B11=true:=by kernel_rfl
set_option maxHeartbeats 8000000 in
set_option maxRecDepth 100000 in
theorem za2.calls (k:Nat) (a0_0:Int) (a0_1:Int) (a0_2:Int) (a0_3:Int) (a0_4:Int) (a0_5:Int) (a0_6:Bool) (a0_7:ByteArray) (a0_8:ByteArray) (a0_9:Bool) (a0_10:ByteArray) (a0_11:ByteArray) (A0_12:Option Addr) (c0_12:Nat) (l0_12:List (S49)) (A0_13:Option Addr) (c0_13:Nat) (l0_13:List (S51)) (a1_0:Int) (a1_1:Int) (a1_2:Int) (a1_3:Int) (a1_4:Int) (a1_5:Int) (a1_6:Bool) (a1_7:ByteArray) (a1_8:ByteArray) (a1_9:Bool) (a1_10:ByteArray) (a1_11:ByteArray) (A1_12:Option Addr) (c1_12:Nat) (l1_12:List (S49)) (A1_13:Option Addr) (c1_13:Nat) (l1_13:List (S51)) (r:Bool) (w:World) (hr0_12:Kd.C k49 w A0_12 l0_12.length l0_12) (hc0_12:l0_12.length≤c0_12) (hr0_13:Kd.C k51 w A0_13 l0_13.length l0_13) (hc0_13:l0_13.length≤c0_13) (hr1_12:Kd.C k49 w A1_12 l1_12.length l1_12) (hc1_12:l1_12.length≤c1_12) (hr1_13:Kd.C k51 w A1_13 l1_13.length l1_13) (hc1_13:l1_13.length≤c1_13) (h:za2.f k a0_0 a0_1 a0_2 a0_3 a0_4 a0_5 a0_6 a0_7 a0_8 a0_9 a0_10 a0_11 l0_12 l0_13 a1_0 a1_1 a1_2 a1_3 a1_4 a1_5 a1_6 a1_7 a1_8 a1_9 a1_10 a1_11 l1_12 l1_13=some r) :
 Calls Tryd.prog 32 #[.agg #[.int .i64 a0_0,.int .i64 a0_1,.int .i64 a0_2,.int .i64 a0_3,.int .i64 a0_4,.int .i64 a0_5,.bool a0_6,.string a0_7,.string a0_8,.bool a0_9,.string a0_10,.string a0_11,.slice A0_12 l0_12.length c0_12,.slice A0_13 l0_13.length c0_13],.agg #[.int .i64 a1_0,.int .i64 a1_1,.int .i64 a1_2,.int .i64 a1_3,.int .i64 a1_4,.int .i64 a1_5,.bool a1_6,.string a1_7,.string a1_8,.bool a1_9,.string a1_10,.string a1_11,.slice A1_12 l1_12.length c1_12,.slice A1_13 l1_13.length c1_13]] w fun e w'=>e = .returned (.bool r)∧Below w.heap.size w w':=by
 have hu34:=Tryd.underlying34;have hu30:=Tryd.underlying30;have hu49:=Tryd.underlying49;have hu51:=Tryd.underlying51;have HR0_12:=za1.mk hr0_12;have HC0_12:=za1.mk hc0_12;clear hr0_12 hc0_12;have HR0_13:=za1.mk hr0_13;have HC0_13:=za1.mk hc0_13;clear hr0_13 hc0_13;have HR1_12:=za1.mk hr1_12;have HC1_12:=za1.mk hc1_12;clear hr1_12 hc1_12;have HR1_13:=za1.mk hr1_13;have HC1_13:=za1.mk hc1_13;clear hr1_13 hc1_13;have HB:=am (Below.refl w.heap.size w);have H:((zbo.f a0_0 a0_1 a0_2 a0_3 a0_4 a0_5 a0_6 a0_7 a0_8 a0_9 a0_10 a0_11 l0_12 l0_13).bind fun t867=>((zbo.f a1_0 a1_1 a1_2 a1_3 a1_4 a1_5 a1_6 a1_7 a1_8 a1_9 a1_10 a1_11 l1_12 l1_13).bind fun t870=>((zam.f k t867 t870).bind fun t873=>(if t873=true then (if (!(a0_6 == a1_6) || (!(a0_7.toList == a1_7.toList) || (!(a0_8.toList == a1_8.toList))))=true then (za2.j0 k true a0_0 a0_1 a0_2 a0_3 a0_4 a0_5 a0_6 a0_7 a0_8 a0_9 a0_10 a0_11 l0_12 l0_13 a1_0 a1_1 a1_2 a1_3 a1_4 a1_5 a1_6 a1_7 a1_8 a1_9 a1_10 a1_11 l1_12 l1_13) else (if (!(a0_9 == a1_9) || (!(a0_10.toList == a1_10.toList) || (!(a0_11.toList == a1_11.toList))))=true then (za2.j0 k true a0_0 a0_1 a0_2 a0_3 a0_4 a0_5 a0_6 a0_7 a0_8 a0_9 a0_10 a0_11 l0_12 l0_13 a1_0 a1_1 a1_2 a1_3 a1_4 a1_5 a1_6 a1_7 a1_8 a1_9 a1_10 a1_11 l1_12 l1_13) else (if (l0_12.length:Int)=(l1_12.length:Int) then (za2.j0 k ((l0_13.length:Int) != (l1_13.length:Int)) a0_0 a0_1 a0_2 a0_3 a0_4 a0_5 a0_6 a0_7 a0_8 a0_9 a0_10 a0_11 l0_12 l0_13 a1_0 a1_1 a1_2 a1_3 a1_4 a1_5 a1_6 a1_7 a1_8 a1_9 a1_10 a1_11 l1_12 l1_13) else (za2.j0 k true a0_0 a0_1 a0_2 a0_3 a0_4 a0_5 a0_6 a0_7 a0_8 a0_9 a0_10 a0_11 l0_12 l0_13 a1_0 a1_1 a1_2 a1_3 a1_4 a1_5 a1_6 a1_7 a1_8 a1_9 a1_10 a1_11 l1_12 l1_13)))) else (za2.j0 k true a0_0 a0_1 a0_2 a0_3 a0_4 a0_5 a0_6 a0_7 a0_8 a0_9 a0_10 a0_11 l0_12 l0_13 a1_0 a1_1 a1_2 a1_3 a1_4 a1_5 a1_6 a1_7 a1_8 a1_9 a1_10 a1_11 l1_12 l1_13)))))=some r:=h;clear h;have HC3:=za1.mk H;clear H;go_enter Tryd.func32,Tryd.ntmps32
 go_upto_region 1 with (first|((with_reducible refine zbr (N:=2) rfl ?_);(try (refine zcz (by rfl) ?_;dsimp only));refine zbq ?hg (N:=2) ?hd (cs:=#[.int .i64 a0_0,.int .i64 a0_1,.int .i64 a0_2,.int .i64 a0_3,.int .i64 a0_4,.int .i64 a0_5,.bool a0_6,.string a0_7,.string a0_8,.bool a0_9,.string a0_10,.string a0_11,.slice A0_12 l0_12.length c0_12,.slice A0_13 l0_13.length c0_13]) (t:=34) ?hr ?_;(case hd=>rfl);(case hg=>rfl);(case hr=>first|(go_simp;done)|(go_simp;rfl));intro g_a hg w4 hbox hb;have B_a:=am (hbox);have W_a:=am ((q48:w.heap.size≤g_a));have E_a:=am ((q48:w.heap.size≤g_a));replace HB:=am (zab q2 hb);clear hb hbox hg)|((with_reducible refine zbr (N:=3) rfl ?_);(try (refine zcz (by rfl) ?_;dsimp only));refine zbq ?hg (N:=3) ?hd (cs:=#[.int .i64 a1_0,.int .i64 a1_1,.int .i64 a1_2,.int .i64 a1_3,.int .i64 a1_4,.int .i64 a1_5,.bool a1_6,.string a1_7,.string a1_8,.bool a1_9,.string a1_10,.string a1_11,.slice A1_12 l1_12.length c1_12,.slice A1_13 l1_13.length c1_13]) (t:=34) ?hr ?_;(case hd=>rfl);(case hg=>rfl);(case hr=>first|(go_simp;done)|(go_simp;rfl));intro g_b hg w5 hbox hb;have B_b:=am (hbox);have W_b:=am ((q49:w.heap.size≤g_b));have E_b:=am ((q49:w.heap.size≤g_b));have N_a_b:=am ((q50:g_a≠g_b));have N_b_a:=am ((q51:g_b≠g_a));replace B_a:=am (zaf q1 hb);replace HB:=am (zab q3 hb);clear hb hbox hg))
 (try simp only [Act.put,List.setIfInBounds_toArray,List.set_cons_zero,List.set_cons_succ])
 go_cut [44] (fun v44 wc=>∃ (kq:Nat) (x44_2:Bool),v44 = .bool x44_2∧za1 (za2.j0 kq x44_2 a0_0 a0_1 a0_2 a0_3 a0_4 a0_5 a0_6 a0_7 a0_8 a0_9 a0_10 a0_11 l0_12 l0_13 a1_0 a1_1 a1_2 a1_3 a1_4 a1_5 a1_6 a1_7 a1_8 a1_9 a1_10 a1_11 l1_12 l1_13=some r)∧za1 (kq≤k)∧za1 (wc.heap[g_a]?=some (.cells #[.int .i64 a0_0,.int .i64 a0_1,.int .i64 a0_2,.int .i64 a0_3,.int .i64 a0_4,.int .i64 a0_5,.bool a0_6,.string a0_7,.string a0_8,.bool a0_9,.string a0_10,.string a0_11,(.slice A0_12 l0_12.length c0_12),(.slice A0_13 l0_13.length c0_13)] 34 (0,0)))∧za1 (wc.heap[g_b]?=some (.cells #[.int .i64 a1_0,.int .i64 a1_1,.int .i64 a1_2,.int .i64 a1_3,.int .i64 a1_4,.int .i64 a1_5,.bool a1_6,.string a1_7,.string a1_8,.bool a1_9,.string a1_10,.string a1_11,(.slice A1_12 l1_12.length c1_12),(.slice A1_13 l1_13.length c1_13)] 34 (0,0)))∧za1 (Below w.heap.size w wc))
 case first=>
  have H:=HC3.out;clear HC3;replace H:=Option.bind_eq_some_iff.mp H;obtain ⟨t867,A60,H⟩:=H;replace H:((zbo.f a1_0 a1_1 a1_2 a1_3 a1_4 a1_5 a1_6 a1_7 a1_8 a1_9 a1_10 a1_11 l1_12 l1_13).bind fun t870=>((zam.f k t867 t870).bind fun t873=>(if t873=true then (if (!(a0_6 == a1_6) || (!(a0_7.toList == a1_7.toList) || (!(a0_8.toList == a1_8.toList))))=true then (za2.j0 k true a0_0 a0_1 a0_2 a0_3 a0_4 a0_5 a0_6 a0_7 a0_8 a0_9 a0_10 a0_11 l0_12 l0_13 a1_0 a1_1 a1_2 a1_3 a1_4 a1_5 a1_6 a1_7 a1_8 a1_9 a1_10 a1_11 l1_12 l1_13) else (if (!(a0_9 == a1_9) || (!(a0_10.toList == a1_10.toList) || (!(a0_11.toList == a1_11.toList))))=true then (za2.j0 k true a0_0 a0_1 a0_2 a0_3 a0_4 a0_5 a0_6 a0_7 a0_8 a0_9 a0_10 a0_11 l0_12 l0_13 a1_0 a1_1 a1_2 a1_3 a1_4 a1_5 a1_6 a1_7 a1_8 a1_9 a1_10 a1_11 l1_12 l1_13) else (if (l0_12.length:Int)=(l1_12.length:Int) then (za2.j0 k ((l0_13.length:Int) != (l1_13.length:Int)) a0_0 a0_1 a0_2 a0_3 a0_4 a0_5 a0_6 a0_7 a0_8 a0_9 a0_10 a0_11 l0_12 l0_13 a1_0 a1_1 a1_2 a1_3 a1_4 a1_5 a1_6 a1_7 a1_8 a1_9 a1_10 a1_11 l1_12 l1_13) else (za2.j0 k true a0_0 a0_1 a0_2 a0_3 a0_4 a0_5 a0_6 a0_7 a0_8 a0_9 a0_10 a0_11 l0_12 l0_13 a1_0 a1_1 a1_2 a1_3 a1_4 a1_5 a1_6 a1_7 a1_8 a1_9 a1_10 a1_11 l1_12 l1_13)))) else (za2.j0 k true a0_0 a0_1 a0_2 a0_3 a0_4 a0_5 a0_6 a0_7 a0_8 a0_9 a0_10 a0_11 l0_12 l0_13 a1_0 a1_1 a1_2 a1_3 a1_4 a1_5 a1_6 a1_7 a1_8 a1_9 a1_10 a1_11 l1_12 l1_13))))=some r:=H;have A6:=za1.mk A60;clear A60;replace H:=Option.bind_eq_some_iff.mp H;obtain ⟨t870,A70,H⟩:=H;replace H:((zam.f k t867 t870).bind fun t873=>(if t873=true then (if (!(a0_6 == a1_6) || (!(a0_7.toList == a1_7.toList) || (!(a0_8.toList == a1_8.toList))))=true then (za2.j0 k true a0_0 a0_1 a0_2 a0_3 a0_4 a0_5 a0_6 a0_7 a0_8 a0_9 a0_10 a0_11 l0_12 l0_13 a1_0 a1_1 a1_2 a1_3 a1_4 a1_5 a1_6 a1_7 a1_8 a1_9 a1_10 a1_11 l1_12 l1_13) else (if (!(a0_9 == a1_9) || (!(a0_10.toList == a1_10.toList) || (!(a0_11.toList == a1_11.toList))))=true then (za2.j0 k true a0_0 a0_1 a0_2 a0_3 a0_4 a0_5 a0_6 a0_7 a0_8 a0_9 a0_10 a0_11 l0_12 l0_13 a1_0 a1_1 a1_2 a1_3 a1_4 a1_5 a1_6 a1_7 a1_8 a1_9 a1_10 a1_11 l1_12 l1_13) else (if (l0_12.length:Int)=(l1_12.length:Int) then (za2.j0 k ((l0_13.length:Int) != (l1_13.length:Int)) a0_0 a0_1 a0_2 a0_3 a0_4 a0_5 a0_6 a0_7 a0_8 a0_9 a0_10 a0_11 l0_12 l0_13 a1_0 a1_1 a1_2 a1_3 a1_4 a1_5 a1_6 a1_7 a1_8 a1_9 a1_10 a1_11 l1_12 l1_13) else (za2.j0 k true a0_0 a0_1 a0_2 a0_3 a0_4 a0_5 a0_6 a0_7 a0_8 a0_9 a0_10 a0_11 l0_12 l0_13 a1_0 a1_1 a1_2 a1_3 a1_4 a1_5 a1_6 a1_7 a1_8 a1_9 a1_10 a1_11 l1_12 l1_13)))) else (za2.j0 k true a0_0 a0_1 a0_2 a0_3 a0_4 a0_5 a0_6 a0_7 a0_8 a0_9 a0_10 a0_11 l0_12 l0_13 a1_0 a1_1 a1_2 a1_3 a1_4 a1_5 a1_6 a1_7 a1_8 a1_9 a1_10 a1_11 l1_12 l1_13)))=some r:=H;have A7:=za1.mk A70;clear A70;replace H:=Option.bind_eq_some_iff.mp H;obtain ⟨t873,A80,H⟩:=H;replace H:(if t873=true then (if (!(a0_6 == a1_6) || (!(a0_7.toList == a1_7.toList) || (!(a0_8.toList == a1_8.toList))))=true then (za2.j0 k true a0_0 a0_1 a0_2 a0_3 a0_4 a0_5 a0_6 a0_7 a0_8 a0_9 a0_10 a0_11 l0_12 l0_13 a1_0 a1_1 a1_2 a1_3 a1_4 a1_5 a1_6 a1_7 a1_8 a1_9 a1_10 a1_11 l1_12 l1_13) else (if (!(a0_9 == a1_9) || (!(a0_10.toList == a1_10.toList) || (!(a0_11.toList == a1_11.toList))))=true then (za2.j0 k true a0_0 a0_1 a0_2 a0_3 a0_4 a0_5 a0_6 a0_7 a0_8 a0_9 a0_10 a0_11 l0_12 l0_13 a1_0 a1_1 a1_2 a1_3 a1_4 a1_5 a1_6 a1_7 a1_8 a1_9 a1_10 a1_11 l1_12 l1_13) else (if (l0_12.length:Int)=(l1_12.length:Int) then (za2.j0 k ((l0_13.length:Int) != (l1_13.length:Int)) a0_0 a0_1 a0_2 a0_3 a0_4 a0_5 a0_6 a0_7 a0_8 a0_9 a0_10 a0_11 l0_12 l0_13 a1_0 a1_1 a1_2 a1_3 a1_4 a1_5 a1_6 a1_7 a1_8 a1_9 a1_10 a1_11 l1_12 l1_13) else (za2.j0 k true a0_0 a0_1 a0_2 a0_3 a0_4 a0_5 a0_6 a0_7 a0_8 a0_9 a0_10 a0_11 l0_12 l0_13 a1_0 a1_1 a1_2 a1_3 a1_4 a1_5 a1_6 a1_7 a1_8 a1_9 a1_10 a1_11 l1_12 l1_13)))) else (za2.j0 k true a0_0 a0_1 a0_2 a0_3 a0_4 a0_5 a0_6 a0_7 a0_8 a0_9 a0_10 a0_11 l0_12 l0_13 a1_0 a1_1 a1_2 a1_3 a1_4 a1_5 a1_6 a1_7 a1_8 a1_9 a1_10 a1_11 l1_12 l1_13))=some r:=H;have A8:=za1.mk A80;clear A80
  by_cases c9:t873=true
  ·subst c9
   have H1:(if (!(a0_6 == a1_6) || (!(a0_7.toList == a1_7.toList) || (!(a0_8.toList == a1_8.toList))))=true then (za2.j0 k true a0_0 a0_1 a0_2 a0_3 a0_4 a0_5 a0_6 a0_7 a0_8 a0_9 a0_10 a0_11 l0_12 l0_13 a1_0 a1_1 a1_2 a1_3 a1_4 a1_5 a1_6 a1_7 a1_8 a1_9 a1_10 a1_11 l1_12 l1_13) else (if (!(a0_9 == a1_9) || (!(a0_10.toList == a1_10.toList) || (!(a0_11.toList == a1_11.toList))))=true then (za2.j0 k true a0_0 a0_1 a0_2 a0_3 a0_4 a0_5 a0_6 a0_7 a0_8 a0_9 a0_10 a0_11 l0_12 l0_13 a1_0 a1_1 a1_2 a1_3 a1_4 a1_5 a1_6 a1_7 a1_8 a1_9 a1_10 a1_11 l1_12 l1_13) else (if (l0_12.length:Int)=(l1_12.length:Int) then (za2.j0 k ((l0_13.length:Int) != (l1_13.length:Int)) a0_0 a0_1 a0_2 a0_3 a0_4 a0_5 a0_6 a0_7 a0_8 a0_9 a0_10 a0_11 l0_12 l0_13 a1_0 a1_1 a1_2 a1_3 a1_4 a1_5 a1_6 a1_7 a1_8 a1_9 a1_10 a1_11 l1_12 l1_13) else (za2.j0 k true a0_0 a0_1 a0_2 a0_3 a0_4 a0_5 a0_6 a0_7 a0_8 a0_9 a0_10 a0_11 l0_12 l0_13 a1_0 a1_1 a1_2 a1_3 a1_4 a1_5 a1_6 a1_7 a1_8 a1_9 a1_10 a1_11 l1_12 l1_13))))=some r:=by rw [if_pos rfl] at H;exact H
   clear H;have H:=H1;clear H1
   by_cases c10:(!(a0_6 == a1_6) || (!(a0_7.toList == a1_7.toList) || (!(a0_8.toList == a1_8.toList))))=true
   ·rw [if_pos c10] at H
    have c10b0:(!(a0_6 == a1_6) || (!(a0_7.toList == a1_7.toList) || (!(a0_8.toList == a1_8.toList))))=true:=c10;clear c10
    (first|rw [c10b0]|(simp only [i64_w,i32_w];rw [c10b0])|skip)
    have H':=za1.mk H;clear H
    try go_wp2
    replace B_a:=am (za6 B_a.out);replace B_b:=am (za6 B_b.out);replace HB:=am (zar HB.out);refine start_ (n:=38) (S:=fun w'=>w'.cell? ⟨g_a,0,none⟩=some (.int .i64 a0_0)∧w'.cell? ⟨g_a,1,none⟩=some (.int .i64 a0_1)∧w'.cell? ⟨g_a,2,none⟩=some (.int .i64 a0_2)∧w'.cell? ⟨g_a,3,none⟩=some (.int .i64 a0_3)∧w'.cell? ⟨g_a,4,none⟩=some (.int .i64 a0_4)∧w'.cell? ⟨g_a,5,none⟩=some (.int .i64 a0_5)∧w'.cell? ⟨g_a,6,none⟩=some (.bool a0_6)∧w'.cell? ⟨g_a,7,none⟩=some (.string a0_7)∧w'.cell? ⟨g_a,8,none⟩=some (.string a0_8)∧w'.cell? ⟨g_a,9,none⟩=some (.bool a0_9)∧w'.cell? ⟨g_a,10,none⟩=some (.string a0_10)∧w'.cell? ⟨g_a,11,none⟩=some (.string a0_11)∧w'.cell? ⟨g_a,12,none⟩=some (.slice A0_12 l0_12.length c0_12)∧w'.cell? ⟨g_a,13,none⟩=some (.slice A0_13 l0_13.length c0_13)∧w'.cell? ⟨g_b,0,none⟩=some (.int .i64 a1_0)∧w'.cell? ⟨g_b,1,none⟩=some (.int .i64 a1_1)∧w'.cell? ⟨g_b,2,none⟩=some (.int .i64 a1_2)∧w'.cell? ⟨g_b,3,none⟩=some (.int .i64 a1_3)∧w'.cell? ⟨g_b,4,none⟩=some (.int .i64 a1_4)∧w'.cell? ⟨g_b,5,none⟩=some (.int .i64 a1_5)∧w'.cell? ⟨g_b,6,none⟩=some (.bool a1_6)∧w'.cell? ⟨g_b,7,none⟩=some (.string a1_7)∧w'.cell? ⟨g_b,8,none⟩=some (.string a1_8)∧w'.cell? ⟨g_b,9,none⟩=some (.bool a1_9)∧w'.cell? ⟨g_b,10,none⟩=some (.string a1_10)∧w'.cell? ⟨g_b,11,none⟩=some (.string a1_11)∧w'.cell? ⟨g_b,12,none⟩=some (.slice A1_12 l1_12.length c1_12)∧w'.cell? ⟨g_b,13,none⟩=some (.slice A1_13 l1_13.length c1_13)) (ds:=[]) #[false,false,false,false,false,false,false,false,false,false,false,false,false,false,false,false,false,false,false,false,false,false,false,false,false,false,false,false,false,false,false,false,false,false,false,false,false,false] (by kernel_rfl) rfl rfl ⟨bc B_a 0,bc B_a 1,bc B_a 2,bc B_a 3,bc B_a 4,bc B_a 5,bc B_a 6,bc B_a 7,bc B_a 8,bc B_a 9,bc B_a 10,bc B_a 11,bc B_a 12,bc B_a 13,bc B_b 0,bc B_b 1,bc B_b 2,bc B_b 3,bc B_b 4,bc B_b 5,bc B_b 6,bc B_b 7,bc B_b 8,bc B_b 9,bc B_b 10,bc B_b 11,bc B_b 12,bc B_b 13⟩ (fun hHeld=>?_);refine with_tabW za2.tab1 za2.bits1 (fun HT_ HW_=>?_)
    generalize w5.drew=w11 at B_a B_b HB hHeld ⊢
    refine tk28 0 7 rfl rfl ?_;refine tk28 2 9 rfl rfl ?_;refine one_ (i:=1) (N:=some 8) #[true,true,true,false,false,false,false,false,false,false,false,false,false,false,false,false,false,false,false,false,false,false,false,false,false,false,false,false,false,false,false,false,false,false,false,false,false,false] rfl rfl (one_of HT_.out (by kernel_rfl)) (by decide) (fun K hK=>?_);refine goes_ Tryd.func34 (by kernel_rfl) rfl #[.agg #[.int .i64 a0_0,.int .i64 a0_1,.int .i64 a0_2,.int .i64 a0_3,.int .i64 a0_4,.int .i64 a0_5,.bool a0_6,.string a0_7,.string a0_8,.bool a0_9,.string a0_10,.string a0_11,.slice A0_12 l0_12.length c0_12,.slice A0_13 l0_13.length c0_13]] (by rfl) rfl rfl q4 ?_
    with_reducible refine (zbo.calls a0_0 a0_1 a0_2 a0_3 a0_4 a0_5 a0_6 a0_7 a0_8 a0_9 a0_10 a0_11 _ _ l0_12 _ _ l0_13 t867 _ ?side1 ?side2 ?side3 ?side4 A6.out).mono ?_
    (case side1=>repeat (first|exact (Kd.zc6 HR0_12.out HB.out)|(with_reducible refine Kd.zbv ?_ _)|(with_reducible refine Kd.zbw ?_ _)|(with_reducible refine Kd.zc8 ?_)))
    (case side2=>exact HC0_12.out)
    (case side3=>repeat (first|exact (Kd.zc6 HR0_13.out HB.out)|(with_reducible refine Kd.zbv ?_ _)|(with_reducible refine Kd.zbw ?_ _)|(with_reducible refine Kd.zc8 ?_)))
    (case side4=>exact HC0_13.out)
    rintro e w12 ⟨v868,rfl,ho0,hb⟩;refine ⟨_,rfl,?_⟩;have HO869:=am (Kd.zc9 ho0 (zbb q6));replace B_a:=am (zaf q1 hb);replace B_b:=am (zaf q7 hb);replace HB:=am (zab q6 hb);(try clear hb);(try clear hb2);(try clear hk);(try clear hi);(try clear ho0);refine hK.out _ _ ⟨bc B_a 0,bc B_a 1,bc B_a 2,bc B_a 3,bc B_a 4,bc B_a 5,bc B_a 6,bc B_a 7,bc B_a 8,bc B_a 9,bc B_a 10,bc B_a 11,bc B_a 12,bc B_a 13,bc B_b 0,bc B_b 1,bc B_b 2,bc B_b 3,bc B_b 4,bc B_b 5,bc B_b 6,bc B_b 7,bc B_b 8,bc B_b 9,bc B_b 10,bc B_b 11,bc B_b 12,bc B_b 13⟩ (fun hHeld=>?_);clear hK K;refine norm_ (a':=?_) ?_ ?_;rotate_left
    ·show Act.put _ (some 8) _=_
     simp only [Act.put,List.setIfInBounds_toArray,List.set_cons_zero,List.set_cons_succ,i64_w,i32_w]
     rfl
    refine one_ (i:=3) (N:=some 10) #[true,true,true,true,false,false,false,false,false,false,false,false,false,false,false,false,false,false,false,false,false,false,false,false,false,false,false,false,false,false,false,false,false,false,false,false,false,false] rfl rfl (one_of HT_.out (by kernel_rfl)) (by decide) (fun K hK=>?_);refine goes_ Tryd.func34 (by kernel_rfl) rfl #[.agg #[.int .i64 a1_0,.int .i64 a1_1,.int .i64 a1_2,.int .i64 a1_3,.int .i64 a1_4,.int .i64 a1_5,.bool a1_6,.string a1_7,.string a1_8,.bool a1_9,.string a1_10,.string a1_11,.slice A1_12 l1_12.length c1_12,.slice A1_13 l1_13.length c1_13]] (by rfl) rfl rfl q4 ?_
    with_reducible refine (zbo.calls a1_0 a1_1 a1_2 a1_3 a1_4 a1_5 a1_6 a1_7 a1_8 a1_9 a1_10 a1_11 _ _ l1_12 _ _ l1_13 t870 _ ?side1 ?side2 ?side3 ?side4 A7.out).mono ?_
    (case side1=>repeat (first|exact (Kd.zc6 HR1_12.out HB.out)|(with_reducible refine Kd.zbv ?_ _)|(with_reducible refine Kd.zbw ?_ _)|(with_reducible refine Kd.zc8 ?_)))
    (case side2=>exact HC1_12.out)
    (case side3=>repeat (first|exact (Kd.zc6 HR1_13.out HB.out)|(with_reducible refine Kd.zbv ?_ _)|(with_reducible refine Kd.zbw ?_ _)|(with_reducible refine Kd.zc8 ?_)))
    (case side4=>exact HC1_13.out)
    rintro e w13 ⟨v871,rfl,ho0,hb⟩;refine ⟨_,rfl,?_⟩;have HO872:=am (Kd.zc9 (Kd.R_new' ho0 (Kd.R_lt q28)) (zbb q6));replace HO869:=am (Kd.R_elder' q28 (Kd.zct ho0) hb);replace B_a:=am (zaf q1 hb);replace B_b:=am (zaf q7 hb);replace HB:=am (zab q6 hb);(try clear hb);(try clear hb2);(try clear hk);(try clear hi);(try clear ho0);obtain ⟨Ao14,co14,eo14⟩:=Kd.zbn HO869.out
    (first|subst eo14|(injection eo14 with f1_ f2_ f3_;have f4_:=f1_.symm;have f5_:=f3_.symm;clear f1_ f2_ f3_;subst f4_;subst f5_))
    obtain ⟨Ao15,co15,eo15⟩:=Kd.zbn HO872.out
    (first|subst eo15|(injection eo15 with f1_ f2_ f3_;have f4_:=f1_.symm;have f5_:=f3_.symm;clear f1_ f2_ f3_;subst f4_;subst f5_))
    refine hK.out _ _ ⟨bc B_a 0,bc B_a 1,bc B_a 2,bc B_a 3,bc B_a 4,bc B_a 5,bc B_a 6,bc B_a 7,bc B_a 8,bc B_a 9,bc B_a 10,bc B_a 11,bc B_a 12,bc B_a 13,bc B_b 0,bc B_b 1,bc B_b 2,bc B_b 3,bc B_b 4,bc B_b 5,bc B_b 6,bc B_b 7,bc B_b 8,bc B_b 9,bc B_b 10,bc B_b 11,bc B_b 12,bc B_b 13⟩ (fun hHeld=>?_);clear hK K;refine norm_ (a':=?_) ?_ ?_;rotate_left
    ·show Act.put _ (some 10) _=_
     simp only [Act.put,List.setIfInBounds_toArray,List.set_cons_zero,List.set_cons_succ,i64_w,i32_w]
     rfl
    refine one_ (i:=4) (N:=some 11) #[true,true,true,true,true,false,false,false,false,false,false,false,false,false,false,false,false,false,false,false,false,false,false,false,false,false,false,false,false,false,false,false,false,false,false,false,false,false] rfl rfl (one_of HT_.out (by kernel_rfl)) (by decide) (fun K hK=>?_);refine goes_ Tryd.func48 (by kernel_rfl) rfl #[.slice Ao14 t867.length co14,.slice Ao15 t870.length co15] (by rfl) rfl rfl q4 ?_
    with_reducible refine (zam.calls k _ _ t867 _ _ t870 true _ ?side1 ?side2 ?side3 ?side4 A8.out).mono ?_
    (case side1=>repeat (first|exact (Kd.R_reads' HO869.out).2.2|(with_reducible refine Kd.zbv ?_ _)|(with_reducible refine Kd.zbw ?_ _)|(with_reducible refine Kd.zc8 ?_)))
    (case side2=>exact (Kd.R_reads' HO869.out).2.1)
    (case side3=>repeat (first|exact (Kd.R_reads' HO872.out).2.2|(with_reducible refine Kd.zbv ?_ _)|(with_reducible refine Kd.zbw ?_ _)|(with_reducible refine Kd.zc8 ?_)))
    (case side4=>exact (Kd.R_reads' HO872.out).2.1)
    rintro e w' ⟨rfl,⟨nd,rfl⟩⟩;refine ⟨_,rfl,?_⟩;refine hK.out _ _ ⟨bc B_a 0,bc B_a 1,bc B_a 2,bc B_a 3,bc B_a 4,bc B_a 5,bc B_a 6,bc B_a 7,bc B_a 8,bc B_a 9,bc B_a 10,bc B_a 11,bc B_a 12,bc B_a 13,bc B_b 0,bc B_b 1,bc B_b 2,bc B_b 3,bc B_b 4,bc B_b 5,bc B_b 6,bc B_b 7,bc B_b 8,bc B_b 9,bc B_b 10,bc B_b 11,bc B_b 12,bc B_b 13⟩ (fun hHeld=>?_);clear hK K;refine norm_ (a':=?_) ?_ ?_;rotate_left
    ·show Act.put _ (some 11) _=_
     simp only [Act.put,List.setIfInBounds_toArray,List.set_cons_zero,List.set_cons_succ,i64_w,i32_w]
     rfl
    refine pp 5 12 rfl rfl ?_;refine pp 6 13 rfl rfl ?_;refine pp 7 14 rfl rfl ?_;refine pp 9 16 rfl rfl ?_;refine tk28 8 15 rfl rfl ?_;refine tk28 10 17 rfl rfl ?_;refine pp 11 18 rfl rfl ?_;refine pp 12 19 rfl rfl ?_;refine pp 13 20 rfl rfl ?_;refine pu 14 21 rfl rfl ?_;refine pu 15 22 rfl rfl ?_;refine pu 16 23 rfl rfl ?_;refine pu 17 24 rfl rfl ?_;refine pu 18 25 rfl rfl ?_;refine pp 19 26 rfl rfl ?_;refine pp 20 27 rfl rfl ?_;refine pu 21 28 rfl rfl ?_;refine pu 22 29 rfl rfl ?_;refine pu 23 30 rfl rfl ?_;refine pu 24 31 rfl rfl ?_;refine pu 25 32 rfl rfl ?_;refine pu 26 33 rfl rfl ?_;refine pu 27 34 rfl rfl ?_;refine pp 28 35 rfl rfl ?_;refine pp 29 36 rfl rfl ?_;refine pu 30 37 rfl rfl ?_;refine pu 31 38 rfl rfl ?_;refine pu 32 39 rfl rfl ?_;refine pu 33 40 rfl rfl ?_;refine pu 34 41 rfl rfl ?_;refine pu 35 42 rfl rfl ?_;refine pu 36 43 rfl rfl ?_;refine pp 37 44 rfl rfl ?_;refine done_ (done_of HT_.out (by kernel_rfl)) ?_
    try go_wp2
    go_meet
    case rel=>exact ⟨_,(true),q5,H',⟨q18⟩,⟨q1⟩,⟨q7⟩,⟨q6⟩⟩
   ·rw [if_neg c10] at H
    have c10b0:(!(a0_6 == a1_6) || (!(a0_7.toList == a1_7.toList) || (!(a0_8.toList == a1_8.toList))))=false:=by simpa using c10
    clear c10
    (first|rw [c10b0]|(simp only [i64_w,i32_w];rw [c10b0])|skip)
    by_cases c16:(!(a0_9 == a1_9) || (!(a0_10.toList == a1_10.toList) || (!(a0_11.toList == a1_11.toList))))=true
    ·rw [if_pos c16] at H
     have c16b0:(!(a0_9 == a1_9) || (!(a0_10.toList == a1_10.toList) || (!(a0_11.toList == a1_11.toList))))=true:=c16;clear c16;have H':=za1.mk H;clear H
     try go_wp2
     replace B_a:=am (za6 B_a.out);replace B_b:=am (za6 B_b.out);replace HB:=am (zar HB.out);refine start_ (n:=38) (S:=fun w'=>w'.cell? ⟨g_a,0,none⟩=some (.int .i64 a0_0)∧w'.cell? ⟨g_a,1,none⟩=some (.int .i64 a0_1)∧w'.cell? ⟨g_a,2,none⟩=some (.int .i64 a0_2)∧w'.cell? ⟨g_a,3,none⟩=some (.int .i64 a0_3)∧w'.cell? ⟨g_a,4,none⟩=some (.int .i64 a0_4)∧w'.cell? ⟨g_a,5,none⟩=some (.int .i64 a0_5)∧w'.cell? ⟨g_a,6,none⟩=some (.bool a0_6)∧w'.cell? ⟨g_a,7,none⟩=some (.string a0_7)∧w'.cell? ⟨g_a,8,none⟩=some (.string a0_8)∧w'.cell? ⟨g_a,9,none⟩=some (.bool a0_9)∧w'.cell? ⟨g_a,10,none⟩=some (.string a0_10)∧w'.cell? ⟨g_a,11,none⟩=some (.string a0_11)∧w'.cell? ⟨g_a,12,none⟩=some (.slice A0_12 l0_12.length c0_12)∧w'.cell? ⟨g_a,13,none⟩=some (.slice A0_13 l0_13.length c0_13)∧w'.cell? ⟨g_b,0,none⟩=some (.int .i64 a1_0)∧w'.cell? ⟨g_b,1,none⟩=some (.int .i64 a1_1)∧w'.cell? ⟨g_b,2,none⟩=some (.int .i64 a1_2)∧w'.cell? ⟨g_b,3,none⟩=some (.int .i64 a1_3)∧w'.cell? ⟨g_b,4,none⟩=some (.int .i64 a1_4)∧w'.cell? ⟨g_b,5,none⟩=some (.int .i64 a1_5)∧w'.cell? ⟨g_b,6,none⟩=some (.bool a1_6)∧w'.cell? ⟨g_b,7,none⟩=some (.string a1_7)∧w'.cell? ⟨g_b,8,none⟩=some (.string a1_8)∧w'.cell? ⟨g_b,9,none⟩=some (.bool a1_9)∧w'.cell? ⟨g_b,10,none⟩=some (.string a1_10)∧w'.cell? ⟨g_b,11,none⟩=some (.string a1_11)∧w'.cell? ⟨g_b,12,none⟩=some (.slice A1_12 l1_12.length c1_12)∧w'.cell? ⟨g_b,13,none⟩=some (.slice A1_13 l1_13.length c1_13)) (ds:=[]) #[false,false,false,false,false,false,false,false,false,false,false,false,false,false,false,false,false,false,false,false,false,false,false,false,false,false,false,false,false,false,false,false,false,false,false,false,false,false] (by kernel_rfl) rfl rfl ⟨bc B_a 0,bc B_a 1,bc B_a 2,bc B_a 3,bc B_a 4,bc B_a 5,bc B_a 6,bc B_a 7,bc B_a 8,bc B_a 9,bc B_a 10,bc B_a 11,bc B_a 12,bc B_a 13,bc B_b 0,bc B_b 1,bc B_b 2,bc B_b 3,bc B_b 4,bc B_b 5,bc B_b 6,bc B_b 7,bc B_b 8,bc B_b 9,bc B_b 10,bc B_b 11,bc B_b 12,bc B_b 13⟩ (fun hHeld=>?_);refine with_tabW za2.tab1 za2.bits1 (fun HT_ HW_=>?_)
     generalize w5.drew=w17 at B_a B_b HB hHeld ⊢
     refine tk28 0 7 rfl rfl ?_;refine tk28 2 9 rfl rfl ?_;refine one_ (i:=1) (N:=some 8) #[true,true,true,false,false,false,false,false,false,false,false,false,false,false,false,false,false,false,false,false,false,false,false,false,false,false,false,false,false,false,false,false,false,false,false,false,false,false] rfl rfl (one_of HT_.out (by kernel_rfl)) (by decide) (fun K hK=>?_);refine goes_ Tryd.func34 (by kernel_rfl) rfl #[.agg #[.int .i64 a0_0,.int .i64 a0_1,.int .i64 a0_2,.int .i64 a0_3,.int .i64 a0_4,.int .i64 a0_5,.bool a0_6,.string a0_7,.string a0_8,.bool a0_9,.string a0_10,.string a0_11,.slice A0_12 l0_12.length c0_12,.slice A0_13 l0_13.length c0_13]] (by rfl) rfl rfl q4 ?_
     with_reducible refine (zbo.calls a0_0 a0_1 a0_2 a0_3 a0_4 a0_5 a0_6 a0_7 a0_8 a0_9 a0_10 a0_11 _ _ l0_12 _ _ l0_13 t867 _ ?side1 ?side2 ?side3 ?side4 A6.out).mono ?_
     (case side1=>repeat (first|exact (Kd.zc6 HR0_12.out HB.out)|(with_reducible refine Kd.zbv ?_ _)|(with_reducible refine Kd.zbw ?_ _)|(with_reducible refine Kd.zc8 ?_)))
     (case side2=>exact HC0_12.out)
     (case side3=>repeat (first|exact (Kd.zc6 HR0_13.out HB.out)|(with_reducible refine Kd.zbv ?_ _)|(with_reducible refine Kd.zbw ?_ _)|(with_reducible refine Kd.zc8 ?_)))
     (case side4=>exact HC0_13.out)
     rintro e w18 ⟨v868,rfl,ho0,hb⟩;refine ⟨_,rfl,?_⟩;have HO869:=am (Kd.zc9 ho0 (zbb q6));replace B_a:=am (zaf q1 hb);replace B_b:=am (zaf q7 hb);replace HB:=am (zab q6 hb);(try clear hb);(try clear hb2);(try clear hk);(try clear hi);(try clear ho0);refine hK.out _ _ ⟨bc B_a 0,bc B_a 1,bc B_a 2,bc B_a 3,bc B_a 4,bc B_a 5,bc B_a 6,bc B_a 7,bc B_a 8,bc B_a 9,bc B_a 10,bc B_a 11,bc B_a 12,bc B_a 13,bc B_b 0,bc B_b 1,bc B_b 2,bc B_b 3,bc B_b 4,bc B_b 5,bc B_b 6,bc B_b 7,bc B_b 8,bc B_b 9,bc B_b 10,bc B_b 11,bc B_b 12,bc B_b 13⟩ (fun hHeld=>?_);clear hK K;refine norm_ (a':=?_) ?_ ?_;rotate_left
     ·show Act.put _ (some 8) _=_
      simp only [Act.put,List.setIfInBounds_toArray,List.set_cons_zero,List.set_cons_succ,i64_w,i32_w]
      rfl
     refine one_ (i:=3) (N:=some 10) #[true,true,true,true,false,false,false,false,false,false,false,false,false,false,false,false,false,false,false,false,false,false,false,false,false,false,false,false,false,false,false,false,false,false,false,false,false,false] rfl rfl (one_of HT_.out (by kernel_rfl)) (by decide) (fun K hK=>?_);refine goes_ Tryd.func34 (by kernel_rfl) rfl #[.agg #[.int .i64 a1_0,.int .i64 a1_1,.int .i64 a1_2,.int .i64 a1_3,.int .i64 a1_4,.int .i64 a1_5,.bool a1_6,.string a1_7,.string a1_8,.bool a1_9,.string a1_10,.string a1_11,.slice A1_12 l1_12.length c1_12,.slice A1_13 l1_13.length c1_13]] (by rfl) rfl rfl q4 ?_
     with_reducible refine (zbo.calls a1_0 a1_1 a1_2 a1_3 a1_4 a1_5 a1_6 a1_7 a1_8 a1_9 a1_10 a1_11 _ _ l1_12 _ _ l1_13 t870 _ ?side1 ?side2 ?side3 ?side4 A7.out).mono ?_
     (case side1=>repeat (first|exact (Kd.zc6 HR1_12.out HB.out)|(with_reducible refine Kd.zbv ?_ _)|(with_reducible refine Kd.zbw ?_ _)|(with_reducible refine Kd.zc8 ?_)))
     (case side2=>exact HC1_12.out)
     (case side3=>repeat (first|exact (Kd.zc6 HR1_13.out HB.out)|(with_reducible refine Kd.zbv ?_ _)|(with_reducible refine Kd.zbw ?_ _)|(with_reducible refine Kd.zc8 ?_)))
     (case side4=>exact HC1_13.out)
     rintro e w19 ⟨v871,rfl,ho0,hb⟩;refine ⟨_,rfl,?_⟩;have HO872:=am (Kd.zc9 (Kd.R_new' ho0 (Kd.R_lt q28)) (zbb q6));replace HO869:=am (Kd.R_elder' q28 (Kd.zct ho0) hb);replace B_a:=am (zaf q1 hb);replace B_b:=am (zaf q7 hb);replace HB:=am (zab q6 hb);(try clear hb);(try clear hb2);(try clear hk);(try clear hi);(try clear ho0);obtain ⟨Ao20,co20,eo20⟩:=Kd.zbn HO869.out
     (first|subst eo20|(injection eo20 with f1_ f2_ f3_;have f4_:=f1_.symm;have f5_:=f3_.symm;clear f1_ f2_ f3_;subst f4_;subst f5_))
     obtain ⟨Ao21,co21,eo21⟩:=Kd.zbn HO872.out
     (first|subst eo21|(injection eo21 with f1_ f2_ f3_;have f4_:=f1_.symm;have f5_:=f3_.symm;clear f1_ f2_ f3_;subst f4_;subst f5_))
     refine hK.out _ _ ⟨bc B_a 0,bc B_a 1,bc B_a 2,bc B_a 3,bc B_a 4,bc B_a 5,bc B_a 6,bc B_a 7,bc B_a 8,bc B_a 9,bc B_a 10,bc B_a 11,bc B_a 12,bc B_a 13,bc B_b 0,bc B_b 1,bc B_b 2,bc B_b 3,bc B_b 4,bc B_b 5,bc B_b 6,bc B_b 7,bc B_b 8,bc B_b 9,bc B_b 10,bc B_b 11,bc B_b 12,bc B_b 13⟩ (fun hHeld=>?_);clear hK K;refine norm_ (a':=?_) ?_ ?_;rotate_left
     ·show Act.put _ (some 10) _=_
      simp only [Act.put,List.setIfInBounds_toArray,List.set_cons_zero,List.set_cons_succ,i64_w,i32_w]
      rfl
     refine one_ (i:=4) (N:=some 11) #[true,true,true,true,true,false,false,false,false,false,false,false,false,false,false,false,false,false,false,false,false,false,false,false,false,false,false,false,false,false,false,false,false,false,false,false,false,false] rfl rfl (one_of HT_.out (by kernel_rfl)) (by decide) (fun K hK=>?_);refine goes_ Tryd.func48 (by kernel_rfl) rfl #[.slice Ao20 t867.length co20,.slice Ao21 t870.length co21] (by rfl) rfl rfl q4 ?_
     with_reducible refine (zam.calls k _ _ t867 _ _ t870 true _ ?side1 ?side2 ?side3 ?side4 A8.out).mono ?_
     (case side1=>repeat (first|exact (Kd.R_reads' HO869.out).2.2|(with_reducible refine Kd.zbv ?_ _)|(with_reducible refine Kd.zbw ?_ _)|(with_reducible refine Kd.zc8 ?_)))
     (case side2=>exact (Kd.R_reads' HO869.out).2.1)
     (case side3=>repeat (first|exact (Kd.R_reads' HO872.out).2.2|(with_reducible refine Kd.zbv ?_ _)|(with_reducible refine Kd.zbw ?_ _)|(with_reducible refine Kd.zc8 ?_)))
     (case side4=>exact (Kd.R_reads' HO872.out).2.1)
     rintro e w' ⟨rfl,⟨nd,rfl⟩⟩;refine ⟨_,rfl,?_⟩;refine hK.out _ _ ⟨bc B_a 0,bc B_a 1,bc B_a 2,bc B_a 3,bc B_a 4,bc B_a 5,bc B_a 6,bc B_a 7,bc B_a 8,bc B_a 9,bc B_a 10,bc B_a 11,bc B_a 12,bc B_a 13,bc B_b 0,bc B_b 1,bc B_b 2,bc B_b 3,bc B_b 4,bc B_b 5,bc B_b 6,bc B_b 7,bc B_b 8,bc B_b 9,bc B_b 10,bc B_b 11,bc B_b 12,bc B_b 13⟩ (fun hHeld=>?_);clear hK K;refine norm_ (a':=?_) ?_ ?_;rotate_left
     ·show Act.put _ (some 11) _=_
      simp only [Act.put,List.setIfInBounds_toArray,List.set_cons_zero,List.set_cons_succ,i64_w,i32_w]
      rfl
     refine pp 5 12 rfl rfl ?_;refine pp 6 13 rfl rfl ?_;refine pp 7 14 rfl rfl ?_;refine pp 9 16 rfl rfl ?_;refine tk28 8 15 rfl rfl ?_;refine tk28 10 17 rfl rfl ?_;refine pp 11 18 rfl rfl ?_;refine pp 12 19 rfl rfl ?_;refine pp 13 20 rfl rfl ?_;refine pp 14 21 rfl rfl ?_;refine pp 16 23 rfl rfl ?_;refine tk28 15 22 rfl rfl ?_;refine tk28 17 24 rfl rfl ?_;refine pp 18 25 rfl rfl ?_;refine pp 19 26 rfl rfl ?_;refine pp 20 27 rfl rfl ?_;refine pu 21 28 rfl rfl ?_;refine pu 22 29 rfl rfl ?_;refine pu 23 30 rfl rfl ?_;refine pu 24 31 rfl rfl ?_;refine pu 25 32 rfl rfl ?_;refine pu 26 33 rfl rfl ?_;refine pu 27 34 rfl rfl ?_;refine pp 28 35 rfl rfl ?_;refine pp 29 36 rfl rfl ?_;refine pu 30 37 rfl rfl ?_;refine pu 31 38 rfl rfl ?_;refine pu 32 39 rfl rfl ?_;refine pu 33 40 rfl rfl ?_;refine pu 34 41 rfl rfl ?_;refine pu 35 42 rfl rfl ?_;refine pu 36 43 rfl rfl ?_;refine pp 37 44 rfl rfl ?_;refine done_ (done_of HT_.out (by kernel_rfl)) ?_
     try go_wp2
     go_meet
     case rel=>exact ⟨_,(true),q5,H',⟨q18⟩,⟨q1⟩,⟨q7⟩,⟨q6⟩⟩
    ·rw [if_neg c16] at H
     have c16b0:(!(a0_9 == a1_9) || (!(a0_10.toList == a1_10.toList) || (!(a0_11.toList == a1_11.toList))))=false:=by simpa using c16
     clear c16
     by_cases c22:(l0_12.length:Int)=(l1_12.length:Int)
     ·rw [if_pos c22] at H
      have c22b0:((l0_12.length:Int) == (l1_12.length:Int))=true:=beq_iff_eq.mpr c22;have c22b1:((l0_12.length:Int) != (l1_12.length:Int))=false:=bne_eq_false_iff_eq.mpr c22
      have c22b2:(l0_12.length == l1_12.length)=true:=by first|simpa using c22|(simp at c22 ⊢;omega)
      clear c22;have H':=za1.mk H;clear H
      try go_wp2
      replace B_a:=am (za6 B_a.out);replace B_b:=am (za6 B_b.out);replace HB:=am (zar HB.out);refine start_ (n:=38) (S:=fun w'=>w'.cell? ⟨g_a,0,none⟩=some (.int .i64 a0_0)∧w'.cell? ⟨g_a,1,none⟩=some (.int .i64 a0_1)∧w'.cell? ⟨g_a,2,none⟩=some (.int .i64 a0_2)∧w'.cell? ⟨g_a,3,none⟩=some (.int .i64 a0_3)∧w'.cell? ⟨g_a,4,none⟩=some (.int .i64 a0_4)∧w'.cell? ⟨g_a,5,none⟩=some (.int .i64 a0_5)∧w'.cell? ⟨g_a,6,none⟩=some (.bool a0_6)∧w'.cell? ⟨g_a,7,none⟩=some (.string a0_7)∧w'.cell? ⟨g_a,8,none⟩=some (.string a0_8)∧w'.cell? ⟨g_a,9,none⟩=some (.bool a0_9)∧w'.cell? ⟨g_a,10,none⟩=some (.string a0_10)∧w'.cell? ⟨g_a,11,none⟩=some (.string a0_11)∧w'.cell? ⟨g_a,12,none⟩=some (.slice A0_12 l0_12.length c0_12)∧w'.cell? ⟨g_a,13,none⟩=some (.slice A0_13 l0_13.length c0_13)∧w'.cell? ⟨g_b,0,none⟩=some (.int .i64 a1_0)∧w'.cell? ⟨g_b,1,none⟩=some (.int .i64 a1_1)∧w'.cell? ⟨g_b,2,none⟩=some (.int .i64 a1_2)∧w'.cell? ⟨g_b,3,none⟩=some (.int .i64 a1_3)∧w'.cell? ⟨g_b,4,none⟩=some (.int .i64 a1_4)∧w'.cell? ⟨g_b,5,none⟩=some (.int .i64 a1_5)∧w'.cell? ⟨g_b,6,none⟩=some (.bool a1_6)∧w'.cell? ⟨g_b,7,none⟩=some (.string a1_7)∧w'.cell? ⟨g_b,8,none⟩=some (.string a1_8)∧w'.cell? ⟨g_b,9,none⟩=some (.bool a1_9)∧w'.cell? ⟨g_b,10,none⟩=some (.string a1_10)∧w'.cell? ⟨g_b,11,none⟩=some (.string a1_11)∧w'.cell? ⟨g_b,12,none⟩=some (.slice A1_12 l1_12.length c1_12)∧w'.cell? ⟨g_b,13,none⟩=some (.slice A1_13 l1_13.length c1_13)) (ds:=[]) #[false,false,false,false,false,false,false,false,false,false,false,false,false,false,false,false,false,false,false,false,false,false,false,false,false,false,false,false,false,false,false,false,false,false,false,false,false,false] (by kernel_rfl) rfl rfl ⟨bc B_a 0,bc B_a 1,bc B_a 2,bc B_a 3,bc B_a 4,bc B_a 5,bc B_a 6,bc B_a 7,bc B_a 8,bc B_a 9,bc B_a 10,bc B_a 11,bc B_a 12,bc B_a 13,bc B_b 0,bc B_b 1,bc B_b 2,bc B_b 3,bc B_b 4,bc B_b 5,bc B_b 6,bc B_b 7,bc B_b 8,bc B_b 9,bc B_b 10,bc B_b 11,bc B_b 12,bc B_b 13⟩ (fun hHeld=>?_);refine with_tabW za2.tab1 za2.bits1 (fun HT_ HW_=>?_)
      generalize w5.drew=w23 at B_a B_b HB hHeld ⊢
      refine tk28 0 7 rfl rfl ?_;refine tk28 2 9 rfl rfl ?_;refine one_ (i:=1) (N:=some 8) #[true,true,true,false,false,false,false,false,false,false,false,false,false,false,false,false,false,false,false,false,false,false,false,false,false,false,false,false,false,false,false,false,false,false,false,false,false,false] rfl rfl (one_of HT_.out (by kernel_rfl)) (by decide) (fun K hK=>?_);refine goes_ Tryd.func34 (by kernel_rfl) rfl #[.agg #[.int .i64 a0_0,.int .i64 a0_1,.int .i64 a0_2,.int .i64 a0_3,.int .i64 a0_4,.int .i64 a0_5,.bool a0_6,.string a0_7,.string a0_8,.bool a0_9,.string a0_10,.string a0_11,.slice A0_12 l0_12.length c0_12,.slice A0_13 l0_13.length c0_13]] (by rfl) rfl rfl q4 ?_
      with_reducible refine (zbo.calls a0_0 a0_1 a0_2 a0_3 a0_4 a0_5 a0_6 a0_7 a0_8 a0_9 a0_10 a0_11 _ _ l0_12 _ _ l0_13 t867 _ ?side1 ?side2 ?side3 ?side4 A6.out).mono ?_
      (case side1=>repeat (first|exact (Kd.zc6 HR0_12.out HB.out)|(with_reducible refine Kd.zbv ?_ _)|(with_reducible refine Kd.zbw ?_ _)|(with_reducible refine Kd.zc8 ?_)))
      (case side2=>exact HC0_12.out)
      (case side3=>repeat (first|exact (Kd.zc6 HR0_13.out HB.out)|(with_reducible refine Kd.zbv ?_ _)|(with_reducible refine Kd.zbw ?_ _)|(with_reducible refine Kd.zc8 ?_)))
      (case side4=>exact HC0_13.out)
      rintro e w24 ⟨v868,rfl,ho0,hb⟩;refine ⟨_,rfl,?_⟩;have HO869:=am (Kd.zc9 ho0 (zbb q6));replace B_a:=am (zaf q1 hb);replace B_b:=am (zaf q7 hb);replace HB:=am (zab q6 hb);(try clear hb);(try clear hb2);(try clear hk);(try clear hi);(try clear ho0);refine hK.out _ _ ⟨bc B_a 0,bc B_a 1,bc B_a 2,bc B_a 3,bc B_a 4,bc B_a 5,bc B_a 6,bc B_a 7,bc B_a 8,bc B_a 9,bc B_a 10,bc B_a 11,bc B_a 12,bc B_a 13,bc B_b 0,bc B_b 1,bc B_b 2,bc B_b 3,bc B_b 4,bc B_b 5,bc B_b 6,bc B_b 7,bc B_b 8,bc B_b 9,bc B_b 10,bc B_b 11,bc B_b 12,bc B_b 13⟩ (fun hHeld=>?_);clear hK K;refine norm_ (a':=?_) ?_ ?_;rotate_left
      ·show Act.put _ (some 8) _=_
       simp only [Act.put,List.setIfInBounds_toArray,List.set_cons_zero,List.set_cons_succ,i64_w,i32_w]
       rfl
      refine one_ (i:=3) (N:=some 10) #[true,true,true,true,false,false,false,false,false,false,false,false,false,false,false,false,false,false,false,false,false,false,false,false,false,false,false,false,false,false,false,false,false,false,false,false,false,false] rfl rfl (one_of HT_.out (by kernel_rfl)) (by decide) (fun K hK=>?_);refine goes_ Tryd.func34 (by kernel_rfl) rfl #[.agg #[.int .i64 a1_0,.int .i64 a1_1,.int .i64 a1_2,.int .i64 a1_3,.int .i64 a1_4,.int .i64 a1_5,.bool a1_6,.string a1_7,.string a1_8,.bool a1_9,.string a1_10,.string a1_11,.slice A1_12 l1_12.length c1_12,.slice A1_13 l1_13.length c1_13]] (by rfl) rfl rfl q4 ?_
      with_reducible refine (zbo.calls a1_0 a1_1 a1_2 a1_3 a1_4 a1_5 a1_6 a1_7 a1_8 a1_9 a1_10 a1_11 _ _ l1_12 _ _ l1_13 t870 _ ?side1 ?side2 ?side3 ?side4 A7.out).mono ?_
      (case side1=>repeat (first|exact (Kd.zc6 HR1_12.out HB.out)|(with_reducible refine Kd.zbv ?_ _)|(with_reducible refine Kd.zbw ?_ _)|(with_reducible refine Kd.zc8 ?_)))
      (case side2=>exact HC1_12.out)
      (case side3=>repeat (first|exact (Kd.zc6 HR1_13.out HB.out)|(with_reducible refine Kd.zbv ?_ _)|(with_reducible refine Kd.zbw ?_ _)|(with_reducible refine Kd.zc8 ?_)))
      (case side4=>exact HC1_13.out)
      rintro e w25 ⟨v871,rfl,ho0,hb⟩;refine ⟨_,rfl,?_⟩;have HO872:=am (Kd.zc9 (Kd.R_new' ho0 (Kd.R_lt q28)) (zbb q6));replace HO869:=am (Kd.R_elder' q28 (Kd.zct ho0) hb);replace B_a:=am (zaf q1 hb);replace B_b:=am (zaf q7 hb);replace HB:=am (zab q6 hb);(try clear hb);(try clear hb2);(try clear hk);(try clear hi);(try clear ho0);obtain ⟨Ao26,co26,eo26⟩:=Kd.zbn HO869.out
      (first|subst eo26|(injection eo26 with f1_ f2_ f3_;have f4_:=f1_.symm;have f5_:=f3_.symm;clear f1_ f2_ f3_;subst f4_;subst f5_))
      obtain ⟨Ao27,co27,eo27⟩:=Kd.zbn HO872.out
      (first|subst eo27|(injection eo27 with f1_ f2_ f3_;have f4_:=f1_.symm;have f5_:=f3_.symm;clear f1_ f2_ f3_;subst f4_;subst f5_))
      refine hK.out _ _ ⟨bc B_a 0,bc B_a 1,bc B_a 2,bc B_a 3,bc B_a 4,bc B_a 5,bc B_a 6,bc B_a 7,bc B_a 8,bc B_a 9,bc B_a 10,bc B_a 11,bc B_a 12,bc B_a 13,bc B_b 0,bc B_b 1,bc B_b 2,bc B_b 3,bc B_b 4,bc B_b 5,bc B_b 6,bc B_b 7,bc B_b 8,bc B_b 9,bc B_b 10,bc B_b 11,bc B_b 12,bc B_b 13⟩ (fun hHeld=>?_);clear hK K;refine norm_ (a':=?_) ?_ ?_;rotate_left
      ·show Act.put _ (some 10) _=_
       simp only [Act.put,List.setIfInBounds_toArray,List.set_cons_zero,List.set_cons_succ,i64_w,i32_w]
       rfl
      refine one_ (i:=4) (N:=some 11) #[true,true,true,true,true,false,false,false,false,false,false,false,false,false,false,false,false,false,false,false,false,false,false,false,false,false,false,false,false,false,false,false,false,false,false,false,false,false] rfl rfl (one_of HT_.out (by kernel_rfl)) (by decide) (fun K hK=>?_);refine goes_ Tryd.func48 (by kernel_rfl) rfl #[.slice Ao26 t867.length co26,.slice Ao27 t870.length co27] (by rfl) rfl rfl q4 ?_
      with_reducible refine (zam.calls k _ _ t867 _ _ t870 true _ ?side1 ?side2 ?side3 ?side4 A8.out).mono ?_
      (case side1=>repeat (first|exact (Kd.R_reads' HO869.out).2.2|(with_reducible refine Kd.zbv ?_ _)|(with_reducible refine Kd.zbw ?_ _)|(with_reducible refine Kd.zc8 ?_)))
      (case side2=>exact (Kd.R_reads' HO869.out).2.1)
      (case side3=>repeat (first|exact (Kd.R_reads' HO872.out).2.2|(with_reducible refine Kd.zbv ?_ _)|(with_reducible refine Kd.zbw ?_ _)|(with_reducible refine Kd.zc8 ?_)))
      (case side4=>exact (Kd.R_reads' HO872.out).2.1)
      rintro e w' ⟨rfl,⟨nd,rfl⟩⟩;refine ⟨_,rfl,?_⟩;refine hK.out _ _ ⟨bc B_a 0,bc B_a 1,bc B_a 2,bc B_a 3,bc B_a 4,bc B_a 5,bc B_a 6,bc B_a 7,bc B_a 8,bc B_a 9,bc B_a 10,bc B_a 11,bc B_a 12,bc B_a 13,bc B_b 0,bc B_b 1,bc B_b 2,bc B_b 3,bc B_b 4,bc B_b 5,bc B_b 6,bc B_b 7,bc B_b 8,bc B_b 9,bc B_b 10,bc B_b 11,bc B_b 12,bc B_b 13⟩ (fun hHeld=>?_);clear hK K;refine norm_ (a':=?_) ?_ ?_;rotate_left
      ·show Act.put _ (some 11) _=_
       simp only [Act.put,List.setIfInBounds_toArray,List.set_cons_zero,List.set_cons_succ,i64_w,i32_w]
       rfl
      refine pp 5 12 rfl rfl ?_;refine pp 6 13 rfl rfl ?_;refine pp 7 14 rfl rfl ?_;refine pp 9 16 rfl rfl ?_;refine tk28 8 15 rfl rfl ?_;refine tk28 10 17 rfl rfl ?_;refine pp 11 18 rfl rfl ?_;refine pp 12 19 rfl rfl ?_;refine pp 13 20 rfl rfl ?_;refine pp 14 21 rfl rfl ?_;refine pp 16 23 rfl rfl ?_;refine tk28 15 22 rfl rfl ?_;refine tk28 17 24 rfl rfl ?_;refine pp 18 25 rfl rfl ?_;refine pp 19 26 rfl rfl ?_;refine pp 20 27 rfl rfl ?_;refine pp 21 28 rfl rfl ?_;refine pp 24 31 rfl rfl ?_;refine tk28 22 29 rfl rfl ?_;refine pp 23 30 rfl rfl ?_;refine tk28 25 32 rfl rfl ?_;refine pp 26 33 rfl rfl ?_;refine pp 27 34 rfl rfl ?_;refine pp 28 35 rfl rfl ?_;refine pp 29 36 rfl rfl ?_;refine pp 30 37 rfl rfl ?_;refine pp 33 40 rfl rfl ?_;refine tk28 31 38 rfl rfl ?_;refine pp 32 39 rfl rfl ?_;refine tk28 34 41 rfl rfl ?_;refine pp 35 42 rfl rfl ?_;refine pp 36 43 rfl rfl ?_;refine pp 37 44 rfl rfl ?_;refine done_ (done_of HT_.out (by kernel_rfl)) ?_
      try go_wp2
      go_meet
      case rel=>exact ⟨_,(((l0_13.length:Int) != (l1_13.length:Int))),q5,H',⟨q18⟩,⟨q1⟩,⟨q7⟩,⟨q6⟩⟩
     ·rw [if_neg c22] at H
      have c22b0:((l0_12.length:Int) == (l1_12.length:Int))=false:=beq_eq_false_iff_ne.mpr c22;have c22b1:((l0_12.length:Int) != (l1_12.length:Int))=true:=bne_iff_ne.mpr c22
      have c22b2:(l0_12.length == l1_12.length)=false:=by first|simpa using c22|(simp at c22 ⊢;omega)
      have H':=za1.mk H;clear H
      try go_wp2
      replace B_a:=am (za6 B_a.out);replace B_b:=am (za6 B_b.out);replace HB:=am (zar HB.out);refine start_ (n:=38) (S:=fun w'=>w'.cell? ⟨g_a,0,none⟩=some (.int .i64 a0_0)∧w'.cell? ⟨g_a,1,none⟩=some (.int .i64 a0_1)∧w'.cell? ⟨g_a,2,none⟩=some (.int .i64 a0_2)∧w'.cell? ⟨g_a,3,none⟩=some (.int .i64 a0_3)∧w'.cell? ⟨g_a,4,none⟩=some (.int .i64 a0_4)∧w'.cell? ⟨g_a,5,none⟩=some (.int .i64 a0_5)∧w'.cell? ⟨g_a,6,none⟩=some (.bool a0_6)∧w'.cell? ⟨g_a,7,none⟩=some (.string a0_7)∧w'.cell? ⟨g_a,8,none⟩=some (.string a0_8)∧w'.cell? ⟨g_a,9,none⟩=some (.bool a0_9)∧w'.cell? ⟨g_a,10,none⟩=some (.string a0_10)∧w'.cell? ⟨g_a,11,none⟩=some (.string a0_11)∧w'.cell? ⟨g_a,12,none⟩=some (.slice A0_12 l0_12.length c0_12)∧w'.cell? ⟨g_a,13,none⟩=some (.slice A0_13 l0_13.length c0_13)∧w'.cell? ⟨g_b,0,none⟩=some (.int .i64 a1_0)∧w'.cell? ⟨g_b,1,none⟩=some (.int .i64 a1_1)∧w'.cell? ⟨g_b,2,none⟩=some (.int .i64 a1_2)∧w'.cell? ⟨g_b,3,none⟩=some (.int .i64 a1_3)∧w'.cell? ⟨g_b,4,none⟩=some (.int .i64 a1_4)∧w'.cell? ⟨g_b,5,none⟩=some (.int .i64 a1_5)∧w'.cell? ⟨g_b,6,none⟩=some (.bool a1_6)∧w'.cell? ⟨g_b,7,none⟩=some (.string a1_7)∧w'.cell? ⟨g_b,8,none⟩=some (.string a1_8)∧w'.cell? ⟨g_b,9,none⟩=some (.bool a1_9)∧w'.cell? ⟨g_b,10,none⟩=some (.string a1_10)∧w'.cell? ⟨g_b,11,none⟩=some (.string a1_11)∧w'.cell? ⟨g_b,12,none⟩=some (.slice A1_12 l1_12.length c1_12)∧w'.cell? ⟨g_b,13,none⟩=some (.slice A1_13 l1_13.length c1_13)) (ds:=[]) #[false,false,false,false,false,false,false,false,false,false,false,false,false,false,false,false,false,false,false,false,false,false,false,false,false,false,false,false,false,false,false,false,false,false,false,false,false,false] (by kernel_rfl) rfl rfl ⟨bc B_a 0,bc B_a 1,bc B_a 2,bc B_a 3,bc B_a 4,bc B_a 5,bc B_a 6,bc B_a 7,bc B_a 8,bc B_a 9,bc B_a 10,bc B_a 11,bc B_a 12,bc B_a 13,bc B_b 0,bc B_b 1,bc B_b 2,bc B_b 3,bc B_b 4,bc B_b 5,bc B_b 6,bc B_b 7,bc B_b 8,bc B_b 9,bc B_b 10,bc B_b 11,bc B_b 12,bc B_b 13⟩ (fun hHeld=>?_);refine with_tabW za2.tab1 za2.bits1 (fun HT_ HW_=>?_)
      generalize w5.drew=w28 at B_a B_b HB hHeld ⊢
      refine tk28 0 7 rfl rfl ?_;refine tk28 2 9 rfl rfl ?_;refine one_ (i:=1) (N:=some 8) #[true,true,true,false,false,false,false,false,false,false,false,false,false,false,false,false,false,false,false,false,false,false,false,false,false,false,false,false,false,false,false,false,false,false,false,false,false,false] rfl rfl (one_of HT_.out (by kernel_rfl)) (by decide) (fun K hK=>?_);refine goes_ Tryd.func34 (by kernel_rfl) rfl #[.agg #[.int .i64 a0_0,.int .i64 a0_1,.int .i64 a0_2,.int .i64 a0_3,.int .i64 a0_4,.int .i64 a0_5,.bool a0_6,.string a0_7,.string a0_8,.bool a0_9,.string a0_10,.string a0_11,.slice A0_12 l0_12.length c0_12,.slice A0_13 l0_13.length c0_13]] (by rfl) rfl rfl q4 ?_
      with_reducible refine (zbo.calls a0_0 a0_1 a0_2 a0_3 a0_4 a0_5 a0_6 a0_7 a0_8 a0_9 a0_10 a0_11 _ _ l0_12 _ _ l0_13 t867 _ ?side1 ?side2 ?side3 ?side4 A6.out).mono ?_
      (case side1=>repeat (first|exact (Kd.zc6 HR0_12.out HB.out)|(with_reducible refine Kd.zbv ?_ _)|(with_reducible refine Kd.zbw ?_ _)|(with_reducible refine Kd.zc8 ?_)))
      (case side2=>exact HC0_12.out)
      (case side3=>repeat (first|exact (Kd.zc6 HR0_13.out HB.out)|(with_reducible refine Kd.zbv ?_ _)|(with_reducible refine Kd.zbw ?_ _)|(with_reducible refine Kd.zc8 ?_)))
      (case side4=>exact HC0_13.out)
      rintro e w29 ⟨v868,rfl,ho0,hb⟩;refine ⟨_,rfl,?_⟩;have HO869:=am (Kd.zc9 ho0 (zbb q6));replace B_a:=am (zaf q1 hb);replace B_b:=am (zaf q7 hb);replace HB:=am (zab q6 hb);(try clear hb);(try clear hb2);(try clear hk);(try clear hi);(try clear ho0);refine hK.out _ _ ⟨bc B_a 0,bc B_a 1,bc B_a 2,bc B_a 3,bc B_a 4,bc B_a 5,bc B_a 6,bc B_a 7,bc B_a 8,bc B_a 9,bc B_a 10,bc B_a 11,bc B_a 12,bc B_a 13,bc B_b 0,bc B_b 1,bc B_b 2,bc B_b 3,bc B_b 4,bc B_b 5,bc B_b 6,bc B_b 7,bc B_b 8,bc B_b 9,bc B_b 10,bc B_b 11,bc B_b 12,bc B_b 13⟩ (fun hHeld=>?_);clear hK K;refine norm_ (a':=?_) ?_ ?_;rotate_left
      ·show Act.put _ (some 8) _=_
       simp only [Act.put,List.setIfInBounds_toArray,List.set_cons_zero,List.set_cons_succ,i64_w,i32_w]
       rfl
      refine one_ (i:=3) (N:=some 10) #[true,true,true,true,false,false,false,false,false,false,false,false,false,false,false,false,false,false,false,false,false,false,false,false,false,false,false,false,false,false,false,false,false,false,false,false,false,false] rfl rfl (one_of HT_.out (by kernel_rfl)) (by decide) (fun K hK=>?_);refine goes_ Tryd.func34 (by kernel_rfl) rfl #[.agg #[.int .i64 a1_0,.int .i64 a1_1,.int .i64 a1_2,.int .i64 a1_3,.int .i64 a1_4,.int .i64 a1_5,.bool a1_6,.string a1_7,.string a1_8,.bool a1_9,.string a1_10,.string a1_11,.slice A1_12 l1_12.length c1_12,.slice A1_13 l1_13.length c1_13]] (by rfl) rfl rfl q4 ?_
      with_reducible refine (zbo.calls a1_0 a1_1 a1_2 a1_3 a1_4 a1_5 a1_6 a1_7 a1_8 a1_9 a1_10 a1_11 _ _ l1_12 _ _ l1_13 t870 _ ?side1 ?side2 ?side3 ?side4 A7.out).mono ?_
      (case side1=>repeat (first|exact (Kd.zc6 HR1_12.out HB.out)|(with_reducible refine Kd.zbv ?_ _)|(with_reducible refine Kd.zbw ?_ _)|(with_reducible refine Kd.zc8 ?_)))
      (case side2=>exact HC1_12.out)
      (case side3=>repeat (first|exact (Kd.zc6 HR1_13.out HB.out)|(with_reducible refine Kd.zbv ?_ _)|(with_reducible refine Kd.zbw ?_ _)|(with_reducible refine Kd.zc8 ?_)))
      (case side4=>exact HC1_13.out)
      rintro e w30 ⟨v871,rfl,ho0,hb⟩;refine ⟨_,rfl,?_⟩;have HO872:=am (Kd.zc9 (Kd.R_new' ho0 (Kd.R_lt q28)) (zbb q6));replace HO869:=am (Kd.R_elder' q28 (Kd.zct ho0) hb);replace B_a:=am (zaf q1 hb);replace B_b:=am (zaf q7 hb);replace HB:=am (zab q6 hb);(try clear hb);(try clear hb2);(try clear hk);(try clear hi);(try clear ho0);obtain ⟨Ao31,co31,eo31⟩:=Kd.zbn HO869.out
      (first|subst eo31|(injection eo31 with f1_ f2_ f3_;have f4_:=f1_.symm;have f5_:=f3_.symm;clear f1_ f2_ f3_;subst f4_;subst f5_))
      obtain ⟨Ao32,co32,eo32⟩:=Kd.zbn HO872.out
      (first|subst eo32|(injection eo32 with f1_ f2_ f3_;have f4_:=f1_.symm;have f5_:=f3_.symm;clear f1_ f2_ f3_;subst f4_;subst f5_))
      refine hK.out _ _ ⟨bc B_a 0,bc B_a 1,bc B_a 2,bc B_a 3,bc B_a 4,bc B_a 5,bc B_a 6,bc B_a 7,bc B_a 8,bc B_a 9,bc B_a 10,bc B_a 11,bc B_a 12,bc B_a 13,bc B_b 0,bc B_b 1,bc B_b 2,bc B_b 3,bc B_b 4,bc B_b 5,bc B_b 6,bc B_b 7,bc B_b 8,bc B_b 9,bc B_b 10,bc B_b 11,bc B_b 12,bc B_b 13⟩ (fun hHeld=>?_);clear hK K;refine norm_ (a':=?_) ?_ ?_;rotate_left
      ·show Act.put _ (some 10) _=_
       simp only [Act.put,List.setIfInBounds_toArray,List.set_cons_zero,List.set_cons_succ,i64_w,i32_w]
       rfl
      refine one_ (i:=4) (N:=some 11) #[true,true,true,true,true,false,false,false,false,false,false,false,false,false,false,false,false,false,false,false,false,false,false,false,false,false,false,false,false,false,false,false,false,false,false,false,false,false] rfl rfl (one_of HT_.out (by kernel_rfl)) (by decide) (fun K hK=>?_);refine goes_ Tryd.func48 (by kernel_rfl) rfl #[.slice Ao31 t867.length co31,.slice Ao32 t870.length co32] (by rfl) rfl rfl q4 ?_
      with_reducible refine (zam.calls k _ _ t867 _ _ t870 true _ ?side1 ?side2 ?side3 ?side4 A8.out).mono ?_
      (case side1=>repeat (first|exact (Kd.R_reads' HO869.out).2.2|(with_reducible refine Kd.zbv ?_ _)|(with_reducible refine Kd.zbw ?_ _)|(with_reducible refine Kd.zc8 ?_)))
      (case side2=>exact (Kd.R_reads' HO869.out).2.1)
      (case side3=>repeat (first|exact (Kd.R_reads' HO872.out).2.2|(with_reducible refine Kd.zbv ?_ _)|(with_reducible refine Kd.zbw ?_ _)|(with_reducible refine Kd.zc8 ?_)))
      (case side4=>exact (Kd.R_reads' HO872.out).2.1)
      rintro e w' ⟨rfl,⟨nd,rfl⟩⟩;refine ⟨_,rfl,?_⟩;refine hK.out _ _ ⟨bc B_a 0,bc B_a 1,bc B_a 2,bc B_a 3,bc B_a 4,bc B_a 5,bc B_a 6,bc B_a 7,bc B_a 8,bc B_a 9,bc B_a 10,bc B_a 11,bc B_a 12,bc B_a 13,bc B_b 0,bc B_b 1,bc B_b 2,bc B_b 3,bc B_b 4,bc B_b 5,bc B_b 6,bc B_b 7,bc B_b 8,bc B_b 9,bc B_b 10,bc B_b 11,bc B_b 12,bc B_b 13⟩ (fun hHeld=>?_);clear hK K;refine norm_ (a':=?_) ?_ ?_;rotate_left
      ·show Act.put _ (some 11) _=_
       simp only [Act.put,List.setIfInBounds_toArray,List.set_cons_zero,List.set_cons_succ,i64_w,i32_w]
       rfl
      refine pp 5 12 rfl rfl ?_;refine pp 6 13 rfl rfl ?_;refine pp 7 14 rfl rfl ?_;refine pp 9 16 rfl rfl ?_;refine tk28 8 15 rfl rfl ?_;refine tk28 10 17 rfl rfl ?_;refine pp 11 18 rfl rfl ?_;refine pp 12 19 rfl rfl ?_;refine pp 13 20 rfl rfl ?_;refine pp 14 21 rfl rfl ?_;refine pp 16 23 rfl rfl ?_;refine tk28 15 22 rfl rfl ?_;refine tk28 17 24 rfl rfl ?_;refine pp 18 25 rfl rfl ?_;refine pp 19 26 rfl rfl ?_;refine pp 20 27 rfl rfl ?_;refine pp 21 28 rfl rfl ?_;refine pp 24 31 rfl rfl ?_;refine tk28 22 29 rfl rfl ?_;refine pp 23 30 rfl rfl ?_;refine tk28 25 32 rfl rfl ?_;refine pp 26 33 rfl rfl ?_;refine pp 27 34 rfl rfl ?_;refine pp 28 35 rfl rfl ?_;refine pp 29 36 rfl rfl ?_;refine pu 30 37 rfl rfl ?_;refine pu 31 38 rfl rfl ?_;refine pu 32 39 rfl rfl ?_;refine pu 33 40 rfl rfl ?_;refine pu 34 41 rfl rfl ?_;refine pu 35 42 rfl rfl ?_;refine pu 36 43 rfl rfl ?_;refine pp 37 44 rfl rfl ?_;refine done_ (done_of HT_.out (by kernel_rfl)) ?_
      try go_wp2
      go_meet
      case rel=>exact ⟨_,(true),q5,H',⟨q18⟩,⟨q1⟩,⟨q7⟩,⟨q6⟩⟩
  ·replace c9:=Bool.eq_false_iff.mpr c9
   subst c9
   have H1:(za2.j0 k true a0_0 a0_1 a0_2 a0_3 a0_4 a0_5 a0_6 a0_7 a0_8 a0_9 a0_10 a0_11 l0_12 l0_13 a1_0 a1_1 a1_2 a1_3 a1_4 a1_5 a1_6 a1_7 a1_8 a1_9 a1_10 a1_11 l1_12 l1_13)=some r:=by rw [if_neg (show ¬ (false=true) by decide)] at H;exact H
   clear H;have H:=H1;clear H1;have H':=za1.mk H;clear H
   try go_wp2
   replace B_a:=am (za6 B_a.out);replace B_b:=am (za6 B_b.out);replace HB:=am (zar HB.out);refine start_ (n:=38) (S:=fun w'=>w'.cell? ⟨g_a,0,none⟩=some (.int .i64 a0_0)∧w'.cell? ⟨g_a,1,none⟩=some (.int .i64 a0_1)∧w'.cell? ⟨g_a,2,none⟩=some (.int .i64 a0_2)∧w'.cell? ⟨g_a,3,none⟩=some (.int .i64 a0_3)∧w'.cell? ⟨g_a,4,none⟩=some (.int .i64 a0_4)∧w'.cell? ⟨g_a,5,none⟩=some (.int .i64 a0_5)∧w'.cell? ⟨g_a,6,none⟩=some (.bool a0_6)∧w'.cell? ⟨g_a,7,none⟩=some (.string a0_7)∧w'.cell? ⟨g_a,8,none⟩=some (.string a0_8)∧w'.cell? ⟨g_a,9,none⟩=some (.bool a0_9)∧w'.cell? ⟨g_a,10,none⟩=some (.string a0_10)∧w'.cell? ⟨g_a,11,none⟩=some (.string a0_11)∧w'.cell? ⟨g_a,12,none⟩=some (.slice A0_12 l0_12.length c0_12)∧w'.cell? ⟨g_a,13,none⟩=some (.slice A0_13 l0_13.length c0_13)∧w'.cell? ⟨g_b,0,none⟩=some (.int .i64 a1_0)∧w'.cell? ⟨g_b,1,none⟩=some (.int .i64 a1_1)∧w'.cell? ⟨g_b,2,none⟩=some (.int .i64 a1_2)∧w'.cell? ⟨g_b,3,none⟩=some (.int .i64 a1_3)∧w'.cell? ⟨g_b,4,none⟩=some (.int .i64 a1_4)∧w'.cell? ⟨g_b,5,none⟩=some (.int .i64 a1_5)∧w'.cell? ⟨g_b,6,none⟩=some (.bool a1_6)∧w'.cell? ⟨g_b,7,none⟩=some (.string a1_7)∧w'.cell? ⟨g_b,8,none⟩=some (.string a1_8)∧w'.cell? ⟨g_b,9,none⟩=some (.bool a1_9)∧w'.cell? ⟨g_b,10,none⟩=some (.string a1_10)∧w'.cell? ⟨g_b,11,none⟩=some (.string a1_11)∧w'.cell? ⟨g_b,12,none⟩=some (.slice A1_12 l1_12.length c1_12)∧w'.cell? ⟨g_b,13,none⟩=some (.slice A1_13 l1_13.length c1_13)) (ds:=[]) #[false,false,false,false,false,false,false,false,false,false,false,false,false,false,false,false,false,false,false,false,false,false,false,false,false,false,false,false,false,false,false,false,false,false,false,false,false,false] (by kernel_rfl) rfl rfl ⟨bc B_a 0,bc B_a 1,bc B_a 2,bc B_a 3,bc B_a 4,bc B_a 5,bc B_a 6,bc B_a 7,bc B_a 8,bc B_a 9,bc B_a 10,bc B_a 11,bc B_a 12,bc B_a 13,bc B_b 0,bc B_b 1,bc B_b 2,bc B_b 3,bc B_b 4,bc B_b 5,bc B_b 6,bc B_b 7,bc B_b 8,bc B_b 9,bc B_b 10,bc B_b 11,bc B_b 12,bc B_b 13⟩ (fun hHeld=>?_);refine with_tabW za2.tab1 za2.bits1 (fun HT_ HW_=>?_)
   generalize w5.drew=w33 at B_a B_b HB hHeld ⊢
   refine tk28 0 7 rfl rfl ?_;refine tk28 2 9 rfl rfl ?_;refine one_ (i:=1) (N:=some 8) #[true,true,true,false,false,false,false,false,false,false,false,false,false,false,false,false,false,false,false,false,false,false,false,false,false,false,false,false,false,false,false,false,false,false,false,false,false,false] rfl rfl (one_of HT_.out (by kernel_rfl)) (by decide) (fun K hK=>?_);refine goes_ Tryd.func34 (by kernel_rfl) rfl #[.agg #[.int .i64 a0_0,.int .i64 a0_1,.int .i64 a0_2,.int .i64 a0_3,.int .i64 a0_4,.int .i64 a0_5,.bool a0_6,.string a0_7,.string a0_8,.bool a0_9,.string a0_10,.string a0_11,.slice A0_12 l0_12.length c0_12,.slice A0_13 l0_13.length c0_13]] (by rfl) rfl rfl q4 ?_
   with_reducible refine (zbo.calls a0_0 a0_1 a0_2 a0_3 a0_4 a0_5 a0_6 a0_7 a0_8 a0_9 a0_10 a0_11 _ _ l0_12 _ _ l0_13 t867 _ ?side1 ?side2 ?side3 ?side4 A6.out).mono ?_
   (case side1=>repeat (first|exact (Kd.zc6 HR0_12.out HB.out)|(with_reducible refine Kd.zbv ?_ _)|(with_reducible refine Kd.zbw ?_ _)|(with_reducible refine Kd.zc8 ?_)))
   (case side2=>exact HC0_12.out)
   (case side3=>repeat (first|exact (Kd.zc6 HR0_13.out HB.out)|(with_reducible refine Kd.zbv ?_ _)|(with_reducible refine Kd.zbw ?_ _)|(with_reducible refine Kd.zc8 ?_)))
   (case side4=>exact HC0_13.out)
   rintro e w34 ⟨v868,rfl,ho0,hb⟩;refine ⟨_,rfl,?_⟩;have HO869:=am (Kd.zc9 ho0 (zbb q6));replace B_a:=am (zaf q1 hb);replace B_b:=am (zaf q7 hb);replace HB:=am (zab q6 hb);(try clear hb);(try clear hb2);(try clear hk);(try clear hi);(try clear ho0);refine hK.out _ _ ⟨bc B_a 0,bc B_a 1,bc B_a 2,bc B_a 3,bc B_a 4,bc B_a 5,bc B_a 6,bc B_a 7,bc B_a 8,bc B_a 9,bc B_a 10,bc B_a 11,bc B_a 12,bc B_a 13,bc B_b 0,bc B_b 1,bc B_b 2,bc B_b 3,bc B_b 4,bc B_b 5,bc B_b 6,bc B_b 7,bc B_b 8,bc B_b 9,bc B_b 10,bc B_b 11,bc B_b 12,bc B_b 13⟩ (fun hHeld=>?_);clear hK K;refine norm_ (a':=?_) ?_ ?_;rotate_left
   ·show Act.put _ (some 8) _=_
    simp only [Act.put,List.setIfInBounds_toArray,List.set_cons_zero,List.set_cons_succ,i64_w,i32_w]
    rfl
   refine one_ (i:=3) (N:=some 10) #[true,true,true,true,false,false,false,false,false,false,false,false,false,false,false,false,false,false,false,false,false,false,false,false,false,false,false,false,false,false,false,false,false,false,false,false,false,false] rfl rfl (one_of HT_.out (by kernel_rfl)) (by decide) (fun K hK=>?_);refine goes_ Tryd.func34 (by kernel_rfl) rfl #[.agg #[.int .i64 a1_0,.int .i64 a1_1,.int .i64 a1_2,.int .i64 a1_3,.int .i64 a1_4,.int .i64 a1_5,.bool a1_6,.string a1_7,.string a1_8,.bool a1_9,.string a1_10,.string a1_11,.slice A1_12 l1_12.length c1_12,.slice A1_13 l1_13.length c1_13]] (by rfl) rfl rfl q4 ?_
   with_reducible refine (zbo.calls a1_0 a1_1 a1_2 a1_3 a1_4 a1_5 a1_6 a1_7 a1_8 a1_9 a1_10 a1_11 _ _ l1_12 _ _ l1_13 t870 _ ?side1 ?side2 ?side3 ?side4 A7.out).mono ?_
   (case side1=>repeat (first|exact (Kd.zc6 HR1_12.out HB.out)|(with_reducible refine Kd.zbv ?_ _)|(with_reducible refine Kd.zbw ?_ _)|(with_reducible refine Kd.zc8 ?_)))
   (case side2=>exact HC1_12.out)
   (case side3=>repeat (first|exact (Kd.zc6 HR1_13.out HB.out)|(with_reducible refine Kd.zbv ?_ _)|(with_reducible refine Kd.zbw ?_ _)|(with_reducible refine Kd.zc8 ?_)))
   (case side4=>exact HC1_13.out)
   rintro e w35 ⟨v871,rfl,ho0,hb⟩;refine ⟨_,rfl,?_⟩;have HO872:=am (Kd.zc9 (Kd.R_new' ho0 (Kd.R_lt q28)) (zbb q6));replace HO869:=am (Kd.R_elder' q28 (Kd.zct ho0) hb);replace B_a:=am (zaf q1 hb);replace B_b:=am (zaf q7 hb);replace HB:=am (zab q6 hb);(try clear hb);(try clear hb2);(try clear hk);(try clear hi);(try clear ho0);obtain ⟨Ao36,co36,eo36⟩:=Kd.zbn HO869.out
   (first|subst eo36|(injection eo36 with f1_ f2_ f3_;have f4_:=f1_.symm;have f5_:=f3_.symm;clear f1_ f2_ f3_;subst f4_;subst f5_))
   obtain ⟨Ao37,co37,eo37⟩:=Kd.zbn HO872.out
   (first|subst eo37|(injection eo37 with f1_ f2_ f3_;have f4_:=f1_.symm;have f5_:=f3_.symm;clear f1_ f2_ f3_;subst f4_;subst f5_))
   refine hK.out _ _ ⟨bc B_a 0,bc B_a 1,bc B_a 2,bc B_a 3,bc B_a 4,bc B_a 5,bc B_a 6,bc B_a 7,bc B_a 8,bc B_a 9,bc B_a 10,bc B_a 11,bc B_a 12,bc B_a 13,bc B_b 0,bc B_b 1,bc B_b 2,bc B_b 3,bc B_b 4,bc B_b 5,bc B_b 6,bc B_b 7,bc B_b 8,bc B_b 9,bc B_b 10,bc B_b 11,bc B_b 12,bc B_b 13⟩ (fun hHeld=>?_);clear hK K;refine norm_ (a':=?_) ?_ ?_;rotate_left
   ·show Act.put _ (some 10) _=_
    simp only [Act.put,List.setIfInBounds_toArray,List.set_cons_zero,List.set_cons_succ,i64_w,i32_w]
    rfl
   refine one_ (i:=4) (N:=some 11) #[true,true,true,true,true,false,false,false,false,false,false,false,false,false,false,false,false,false,false,false,false,false,false,false,false,false,false,false,false,false,false,false,false,false,false,false,false,false] rfl rfl (one_of HT_.out (by kernel_rfl)) (by decide) (fun K hK=>?_);refine goes_ Tryd.func48 (by kernel_rfl) rfl #[.slice Ao36 t867.length co36,.slice Ao37 t870.length co37] (by rfl) rfl rfl q4 ?_
   with_reducible refine (zam.calls k _ _ t867 _ _ t870 false _ ?side1 ?side2 ?side3 ?side4 A8.out).mono ?_
   (case side1=>repeat (first|exact (Kd.R_reads' HO869.out).2.2|(with_reducible refine Kd.zbv ?_ _)|(with_reducible refine Kd.zbw ?_ _)|(with_reducible refine Kd.zc8 ?_)))
   (case side2=>exact (Kd.R_reads' HO869.out).2.1)
   (case side3=>repeat (first|exact (Kd.R_reads' HO872.out).2.2|(with_reducible refine Kd.zbv ?_ _)|(with_reducible refine Kd.zbw ?_ _)|(with_reducible refine Kd.zc8 ?_)))
   (case side4=>exact (Kd.R_reads' HO872.out).2.1)
   rintro e w' ⟨rfl,⟨nd,rfl⟩⟩;refine ⟨_,rfl,?_⟩;refine hK.out _ _ ⟨bc B_a 0,bc B_a 1,bc B_a 2,bc B_a 3,bc B_a 4,bc B_a 5,bc B_a 6,bc B_a 7,bc B_a 8,bc B_a 9,bc B_a 10,bc B_a 11,bc B_a 12,bc B_a 13,bc B_b 0,bc B_b 1,bc B_b 2,bc B_b 3,bc B_b 4,bc B_b 5,bc B_b 6,bc B_b 7,bc B_b 8,bc B_b 9,bc B_b 10,bc B_b 11,bc B_b 12,bc B_b 13⟩ (fun hHeld=>?_);clear hK K;refine norm_ (a':=?_) ?_ ?_;rotate_left
   ·show Act.put _ (some 11) _=_
    simp only [Act.put,List.setIfInBounds_toArray,List.set_cons_zero,List.set_cons_succ,i64_w,i32_w]
    rfl
   refine pp 5 12 rfl rfl ?_;refine pp 6 13 rfl rfl ?_;refine pu 7 14 rfl rfl ?_;refine pu 8 15 rfl rfl ?_;refine pu 9 16 rfl rfl ?_;refine pu 10 17 rfl rfl ?_;refine pu 11 18 rfl rfl ?_;refine pp 12 19 rfl rfl ?_;refine pp 13 20 rfl rfl ?_;refine pu 14 21 rfl rfl ?_;refine pu 15 22 rfl rfl ?_;refine pu 16 23 rfl rfl ?_;refine pu 17 24 rfl rfl ?_;refine pu 18 25 rfl rfl ?_;refine pp 19 26 rfl rfl ?_;refine pp 20 27 rfl rfl ?_;refine pu 21 28 rfl rfl ?_;refine pu 22 29 rfl rfl ?_;refine pu 23 30 rfl rfl ?_;refine pu 24 31 rfl rfl ?_;refine pu 25 32 rfl rfl ?_;refine pu 26 33 rfl rfl ?_;refine pu 27 34 rfl rfl ?_;refine pp 28 35 rfl rfl ?_;refine pp 29 36 rfl rfl ?_;refine pu 30 37 rfl rfl ?_;refine pu 31 38 rfl rfl ?_;refine pu 32 39 rfl rfl ?_;refine pu 33 40 rfl rfl ?_;refine pu 34 41 rfl rfl ?_;refine pu 35 42 rfl rfl ?_;refine pu 36 43 rfl rfl ?_;refine pp 37 44 rfl rfl ?_;refine done_ (done_of HT_.out (by kernel_rfl)) ?_
   try go_wp2
   go_meet
   case rel=>exact ⟨_,(true),q5,H',⟨q18⟩,⟨q1⟩,⟨q7⟩,⟨q6⟩⟩
 case rest=>
  clear HC3;(try clear c1);(try clear p2);(try clear c3);(try clear c4);(try clear c9);(try clear c34);obtain ⟨kq,x44_2,rfl,HA,HJ2,B_a,B_b,HB⟩:=hcut
  cases kq with
  | zero=>exact absurd HA.out (by simp [za2.j0])
  | succ kj2=>
   have H:=HA.out;clear HA;simp only [za2.j0] at H
   by_cases c38:x44_2=true
   ·subst c38
    have H1:(some false)=some r:=by rw [if_pos rfl] at H;exact H
    clear H;have H:=H1;clear H1;obtain rfl:=Option.some.inj H
    go_wp2
    go_ret;exact ⟨q8,q6⟩
   ·replace c38:=Bool.eq_false_iff.mpr c38
    subst c38
    have H1:(za2.l0 kj2 0 a0_0 a0_1 a0_2 a0_3 a0_4 a0_5 a0_6 a0_7 a0_8 a0_9 a0_10 a0_11 l0_12 l0_13 a1_0 a1_1 a1_2 a1_3 a1_4 a1_5 a1_6 a1_7 a1_8 a1_9 a1_10 a1_11 l1_12 l1_13)=some r:=by rw [if_neg (show ¬ (false=true) by decide)] at H;exact H
    clear H;have H:=H1;clear H1;have H':=za1.mk H;clear H
    go_wp2
    go_loopg [5] kj2 (fun kq v5 w'=>∃ (x5_2:Int),v5 = .int .i64 x5_2∧za1 (za2.l0 kq x5_2 a0_0 a0_1 a0_2 a0_3 a0_4 a0_5 a0_6 a0_7 a0_8 a0_9 a0_10 a0_11 l0_12 l0_13 a1_0 a1_1 a1_2 a1_3 a1_4 a1_5 a1_6 a1_7 a1_8 a1_9 a1_10 a1_11 l1_12 l1_13=some r)∧za1 (kq≤kj2)∧za1 (w'.heap[g_a]?=some (.cells #[.int .i64 a0_0,.int .i64 a0_1,.int .i64 a0_2,.int .i64 a0_3,.int .i64 a0_4,.int .i64 a0_5,.bool a0_6,.string a0_7,.string a0_8,.bool a0_9,.string a0_10,.string a0_11,(.slice A0_12 l0_12.length c0_12),(.slice A0_13 l0_13.length c0_13)] 34 (0,0)))∧za1 (w'.heap[g_b]?=some (.cells #[.int .i64 a1_0,.int .i64 a1_1,.int .i64 a1_2,.int .i64 a1_3,.int .i64 a1_4,.int .i64 a1_5,.bool a1_6,.string a1_7,.string a1_8,.bool a1_9,.string a1_10,.string a1_11,(.slice A1_12 l1_12.length c1_12),(.slice A1_13 l1_13.length c1_13)] 34 (0,0)))∧za1 (Below w.heap.size w w'))
    case atStart=>exact ⟨(0),q5,H',⟨Nat.le_refl _⟩,⟨q1⟩,⟨q7⟩,⟨q6⟩⟩
    case round=>
     clear H';(try clear c1);(try clear p2 p2);(try clear c3);(try clear c4);(try clear c9);(try clear c34);(try clear c38);obtain ⟨x5_2,rfl,HA,HK2,B_a,B_b,HB⟩:=hrel
     cases gk with
     | zero=>exact absurd HA.out (by simp [za2.l0])
     | succ k2=>
      have H:=HA.out;clear HA;simp only [za2.l0] at H
      by_cases c39:x5_2<(l0_12.length:Int)
      ·rw [if_pos c39] at H
       have c39b0:decide (x5_2<(l0_12.length:Int))=true:=decide_eq_true c39;clear c39
       by_cases c40:0≤x5_2
       ·rw [if_pos c40] at H
        have c40b0:decide (0≤x5_2)=true:=decide_eq_true c40;clear c40
        by_cases c41:x5_2<(l1_12.length:Int)
        ·rw [if_pos c41] at H
         have c41b0:decide (x5_2<(l1_12.length:Int))=true:=decide_eq_true c41;clear c41
         by_cases c42:(!(((rd_T49 l0_12 x5_2).f0) == ((rd_T49 l1_12 x5_2).f0)) || (!(((rd_T49 l0_12 x5_2).f1) == ((rd_T49 l1_12 x5_2).f1))))=true
         ·rw [if_pos c42] at H
          have c42b0:(!(((rd_T49 l0_12 x5_2).f0) == ((rd_T49 l1_12 x5_2).f0)) || (!(((rd_T49 l0_12 x5_2).f1) == ((rd_T49 l1_12 x5_2).f1))))=true:=c42;clear c42;obtain rfl:=Option.some.inj H;have hnb43:=N_a_b.out;have hnc43:=N_b_a.out;obtain ⟨c_a0,c_a1,c_a2,c_a3,c_a4,c_a5,c_a6,c_a7,c_a8,c_a9,c_a10,c_a11,c_a12,c_a13⟩:=cs14 B_a.out;obtain ⟨f_a0,f_a1,f_a2,f_a3,f_a4,f_a5,f_a6,f_a7,f_a8,f_a9,f_a10,f_a11,f_a12,f_a13⟩:=fs14 B_a.out
          try go_wp2
          replace B_a:=am (za6 B_a.out);replace B_b:=am (za6 B_b.out);replace HB:=am (zar HB.out);have p874:0≤(x5_2:Int):=of_decide_eq_true q0;have q874:x5_2<(l0_12.length:Int):=of_decide_eq_true q0;obtain ⟨ad874,e874,hx874_0,hx874_1⟩:=at_T49 HR0_12.out x5_2 p874 q874;have hw874_1:=hx874_1;have hw874_0:=hx874_0;cases e874;replace hx874_0:=(HB.out.cell (World.block_lt_of_cell? w _ hx874_0)).trans hx874_0;replace hx874_1:=(HB.out.cell (World.block_lt_of_cell? w _ hx874_1)).trans hx874_1;replace p874:=eq_true p874;replace q874:=eq_true q874;have p875:0≤(x5_2:Int):=of_decide_eq_true q0;have q875:x5_2<(l1_12.length:Int):=of_decide_eq_true q0;obtain ⟨ad875,e875,hx875_0,hx875_1⟩:=at_T49 HR1_12.out x5_2 p875 q875;have hw875_1:=hx875_1;have hw875_0:=hx875_0;cases e875;replace hx875_0:=(HB.out.cell (World.block_lt_of_cell? w _ hx875_0)).trans hx875_0;replace hx875_1:=(HB.out.cell (World.block_lt_of_cell? w _ hx875_1)).trans hx875_1;replace p875:=eq_true p875;replace q875:=eq_true q875;refine start_ (n:=11) (S:=fun w'=>w'.cell? ⟨g_a,0,none⟩=some (.int .i64 a0_0)∧w'.cell? ⟨g_a,1,none⟩=some (.int .i64 a0_1)∧w'.cell? ⟨g_a,2,none⟩=some (.int .i64 a0_2)∧w'.cell? ⟨g_a,3,none⟩=some (.int .i64 a0_3)∧w'.cell? ⟨g_a,4,none⟩=some (.int .i64 a0_4)∧w'.cell? ⟨g_a,5,none⟩=some (.int .i64 a0_5)∧w'.cell? ⟨g_a,6,none⟩=some (.bool a0_6)∧w'.cell? ⟨g_a,7,none⟩=some (.string a0_7)∧w'.cell? ⟨g_a,8,none⟩=some (.string a0_8)∧w'.cell? ⟨g_a,9,none⟩=some (.bool a0_9)∧w'.cell? ⟨g_a,10,none⟩=some (.string a0_10)∧w'.cell? ⟨g_a,11,none⟩=some (.string a0_11)∧w'.cell? ⟨g_a,12,none⟩=some (.slice (some ad874) l0_12.length c0_12)∧w'.cell? ⟨g_a,13,none⟩=some (.slice A0_13 l0_13.length c0_13)∧w'.cell? ⟨g_b,0,none⟩=some (.int .i64 a1_0)∧w'.cell? ⟨g_b,1,none⟩=some (.int .i64 a1_1)∧w'.cell? ⟨g_b,2,none⟩=some (.int .i64 a1_2)∧w'.cell? ⟨g_b,3,none⟩=some (.int .i64 a1_3)∧w'.cell? ⟨g_b,4,none⟩=some (.int .i64 a1_4)∧w'.cell? ⟨g_b,5,none⟩=some (.int .i64 a1_5)∧w'.cell? ⟨g_b,6,none⟩=some (.bool a1_6)∧w'.cell? ⟨g_b,7,none⟩=some (.string a1_7)∧w'.cell? ⟨g_b,8,none⟩=some (.string a1_8)∧w'.cell? ⟨g_b,9,none⟩=some (.bool a1_9)∧w'.cell? ⟨g_b,10,none⟩=some (.string a1_10)∧w'.cell? ⟨g_b,11,none⟩=some (.string a1_11)∧w'.cell? ⟨g_b,12,none⟩=some (.slice (some ad875) l1_12.length c1_12)∧w'.cell? ⟨g_b,13,none⟩=some (.slice A1_13 l1_13.length c1_13)∧w'.cell? (ad874.add ((x5_2).toNat*2))=some (.int .i64 ((rd_T49 l0_12 x5_2).f0))∧w'.cell? ⟨(ad874.add ((x5_2).toNat*2)).block,(ad874.add ((x5_2).toNat*2)).off+1,none⟩=some (.int .i64 ((rd_T49 l0_12 x5_2).f1))∧w'.cell? (ad875.add ((x5_2).toNat*2))=some (.int .i64 ((rd_T49 l1_12 x5_2).f0))∧w'.cell? ⟨(ad875.add ((x5_2).toNat*2)).block,(ad875.add ((x5_2).toNat*2)).off+1,none⟩=some (.int .i64 ((rd_T49 l1_12 x5_2).f1))) (ds:=[]) #[false,false,false,false,false,false,false,false,false,false,false] (by kernel_rfl) rfl rfl ⟨bc B_a 0,bc B_a 1,bc B_a 2,bc B_a 3,bc B_a 4,bc B_a 5,bc B_a 6,bc B_a 7,bc B_a 8,bc B_a 9,bc B_a 10,bc B_a 11,bc B_a 12,bc B_a 13,bc B_b 0,bc B_b 1,bc B_b 2,bc B_b 3,bc B_b 4,bc B_b 5,bc B_b 6,bc B_b 7,bc B_b 8,bc B_b 9,bc B_b 10,bc B_b 11,bc B_b 12,bc B_b 13,((HB.out.cell (World.block_lt_of_cell? w _ hw874_0)).trans hw874_0),((HB.out.cell (World.block_lt_of_cell? w _ hw874_1)).trans hw874_1),((HB.out.cell (World.block_lt_of_cell? w _ hw875_0)).trans hw875_0),((HB.out.cell (World.block_lt_of_cell? w _ hw875_1)).trans hw875_1)⟩ (fun hHeld=>?_);refine with_tabW za2.tab6 za2.bits6 (fun HT_ HW_=>?_)
          generalize wr.drew=w45 at B_a B_b HB hx874_0 hx874_1 hx875_0 hx875_1 hHeld ⊢
          refine pp 0 52 rfl rfl ?_;refine pp 2 54 rfl rfl ?_;refine pp 5 57 rfl rfl ?_;refine pp 7 59 rfl rfl ?_;refine tk32 1 53 rfl rfl ?_;refine pp 3 55 rfl rfl ?_;refine tk32 4 56 rfl rfl ?_;refine tk32 6 58 rfl rfl ?_;refine pp 8 60 rfl rfl ?_;refine tk32 9 61 rfl rfl ?_;refine pp 10 62 rfl rfl ?_;refine done_ (done_of HT_.out (by kernel_rfl)) ?_
          try go_wp2
          go_ret;exact ⟨q8,q6⟩
         ·rw [if_neg c42] at H
          have c42b0:(!(((rd_T49 l0_12 x5_2).f0) == ((rd_T49 l1_12 x5_2).f0)) || (!(((rd_T49 l0_12 x5_2).f1) == ((rd_T49 l1_12 x5_2).f1))))=false:=by simpa using c42
          clear c42;have H':=za1.mk H;clear H;have hnb46:=N_a_b.out;have hnc46:=N_b_a.out;obtain ⟨c_b0,c_b1,c_b2,c_b3,c_b4,c_b5,c_b6,c_b7,c_b8,c_b9,c_b10,c_b11,c_b12,c_b13⟩:=cs14 B_a.out;obtain ⟨f_b0,f_b1,f_b2,f_b3,f_b4,f_b5,f_b6,f_b7,f_b8,f_b9,f_b10,f_b11,f_b12,f_b13⟩:=fs14 B_a.out
          try go_wp2
          replace B_a:=am (za6 B_a.out);replace B_b:=am (za6 B_b.out);replace HB:=am (zar HB.out);have p874:0≤(x5_2:Int):=of_decide_eq_true q0;have q874:x5_2<(l0_12.length:Int):=of_decide_eq_true q0;obtain ⟨ad874,e874,hx874_0,hx874_1⟩:=at_T49 HR0_12.out x5_2 p874 q874;have hw874_1:=hx874_1;have hw874_0:=hx874_0;cases e874;replace hx874_0:=(HB.out.cell (World.block_lt_of_cell? w _ hx874_0)).trans hx874_0;replace hx874_1:=(HB.out.cell (World.block_lt_of_cell? w _ hx874_1)).trans hx874_1;replace p874:=eq_true p874;replace q874:=eq_true q874;have p875:0≤(x5_2:Int):=of_decide_eq_true q0;have q875:x5_2<(l1_12.length:Int):=of_decide_eq_true q0;obtain ⟨ad875,e875,hx875_0,hx875_1⟩:=at_T49 HR1_12.out x5_2 p875 q875;have hw875_1:=hx875_1;have hw875_0:=hx875_0;cases e875;replace hx875_0:=(HB.out.cell (World.block_lt_of_cell? w _ hx875_0)).trans hx875_0;replace hx875_1:=(HB.out.cell (World.block_lt_of_cell? w _ hx875_1)).trans hx875_1;replace p875:=eq_true p875;replace q875:=eq_true q875;refine start_ (n:=11) (S:=fun w'=>w'.cell? ⟨g_a,0,none⟩=some (.int .i64 a0_0)∧w'.cell? ⟨g_a,1,none⟩=some (.int .i64 a0_1)∧w'.cell? ⟨g_a,2,none⟩=some (.int .i64 a0_2)∧w'.cell? ⟨g_a,3,none⟩=some (.int .i64 a0_3)∧w'.cell? ⟨g_a,4,none⟩=some (.int .i64 a0_4)∧w'.cell? ⟨g_a,5,none⟩=some (.int .i64 a0_5)∧w'.cell? ⟨g_a,6,none⟩=some (.bool a0_6)∧w'.cell? ⟨g_a,7,none⟩=some (.string a0_7)∧w'.cell? ⟨g_a,8,none⟩=some (.string a0_8)∧w'.cell? ⟨g_a,9,none⟩=some (.bool a0_9)∧w'.cell? ⟨g_a,10,none⟩=some (.string a0_10)∧w'.cell? ⟨g_a,11,none⟩=some (.string a0_11)∧w'.cell? ⟨g_a,12,none⟩=some (.slice (some ad874) l0_12.length c0_12)∧w'.cell? ⟨g_a,13,none⟩=some (.slice A0_13 l0_13.length c0_13)∧w'.cell? ⟨g_b,0,none⟩=some (.int .i64 a1_0)∧w'.cell? ⟨g_b,1,none⟩=some (.int .i64 a1_1)∧w'.cell? ⟨g_b,2,none⟩=some (.int .i64 a1_2)∧w'.cell? ⟨g_b,3,none⟩=some (.int .i64 a1_3)∧w'.cell? ⟨g_b,4,none⟩=some (.int .i64 a1_4)∧w'.cell? ⟨g_b,5,none⟩=some (.int .i64 a1_5)∧w'.cell? ⟨g_b,6,none⟩=some (.bool a1_6)∧w'.cell? ⟨g_b,7,none⟩=some (.string a1_7)∧w'.cell? ⟨g_b,8,none⟩=some (.string a1_8)∧w'.cell? ⟨g_b,9,none⟩=some (.bool a1_9)∧w'.cell? ⟨g_b,10,none⟩=some (.string a1_10)∧w'.cell? ⟨g_b,11,none⟩=some (.string a1_11)∧w'.cell? ⟨g_b,12,none⟩=some (.slice (some ad875) l1_12.length c1_12)∧w'.cell? ⟨g_b,13,none⟩=some (.slice A1_13 l1_13.length c1_13)∧w'.cell? (ad874.add ((x5_2).toNat*2))=some (.int .i64 ((rd_T49 l0_12 x5_2).f0))∧w'.cell? ⟨(ad874.add ((x5_2).toNat*2)).block,(ad874.add ((x5_2).toNat*2)).off+1,none⟩=some (.int .i64 ((rd_T49 l0_12 x5_2).f1))∧w'.cell? (ad875.add ((x5_2).toNat*2))=some (.int .i64 ((rd_T49 l1_12 x5_2).f0))∧w'.cell? ⟨(ad875.add ((x5_2).toNat*2)).block,(ad875.add ((x5_2).toNat*2)).off+1,none⟩=some (.int .i64 ((rd_T49 l1_12 x5_2).f1))) (ds:=[]) #[false,false,false,false,false,false,false,false,false,false,false] (by kernel_rfl) rfl rfl ⟨bc B_a 0,bc B_a 1,bc B_a 2,bc B_a 3,bc B_a 4,bc B_a 5,bc B_a 6,bc B_a 7,bc B_a 8,bc B_a 9,bc B_a 10,bc B_a 11,bc B_a 12,bc B_a 13,bc B_b 0,bc B_b 1,bc B_b 2,bc B_b 3,bc B_b 4,bc B_b 5,bc B_b 6,bc B_b 7,bc B_b 8,bc B_b 9,bc B_b 10,bc B_b 11,bc B_b 12,bc B_b 13,((HB.out.cell (World.block_lt_of_cell? w _ hw874_0)).trans hw874_0),((HB.out.cell (World.block_lt_of_cell? w _ hw874_1)).trans hw874_1),((HB.out.cell (World.block_lt_of_cell? w _ hw875_0)).trans hw875_0),((HB.out.cell (World.block_lt_of_cell? w _ hw875_1)).trans hw875_1)⟩ (fun hHeld=>?_);refine with_tabW za2.tab6 za2.bits6 (fun HT_ HW_=>?_)
          generalize wr.drew=w48 at B_a B_b HB hx874_0 hx874_1 hx875_0 hx875_1 hHeld ⊢
          refine pp 0 52 rfl rfl ?_;refine pp 2 54 rfl rfl ?_;refine pp 5 57 rfl rfl ?_;refine pp 7 59 rfl rfl ?_;refine tk32 1 53 rfl rfl ?_;refine pp 3 55 rfl rfl ?_;refine tk32 4 56 rfl rfl ?_;refine tk32 6 58 rfl rfl ?_;refine pp 8 60 rfl rfl ?_;refine tk32 9 61 rfl rfl ?_;refine pp 10 62 rfl rfl ?_;refine done_ (done_of HT_.out (by kernel_rfl)) ?_
          try go_wp2
          go_roundg k2
          case measure=>have:=HJ2.out;have:=HK2.out;omega
          case rel=>exact ⟨(wrap64 (x5_2+1)),q5,H',⟨by have:=HJ2.out;have:=HK2.out;omega⟩,⟨q1⟩,⟨q7⟩,⟨q6⟩⟩
        ·rw [if_neg c41] at H
         exact absurd H (by simp)
       ·rw [if_neg c40] at H
        exact absurd H (by simp)
      ·rw [if_neg c39] at H
       have c39b0:decide (x5_2<(l0_12.length:Int))=false:=decide_eq_false c39;clear c39;have H':=za1.mk H;clear H;have hnb49:=N_a_b.out;have hnc49:=N_b_a.out;obtain ⟨c_c0,c_c1,c_c2,c_c3,c_c4,c_c5,c_c6,c_c7,c_c8,c_c9,c_c10,c_c11,c_c12,c_c13⟩:=cs14 B_a.out;obtain ⟨f_c0,f_c1,f_c2,f_c3,f_c4,f_c5,f_c6,f_c7,f_c8,f_c9,f_c10,f_c11,f_c12,f_c13⟩:=fs14 B_a.out
       go_wp2
       go_loopg [6] k2 (fun kq v6 w'=>∃ (x6_3:Int),v6 = .int .i64 x6_3∧za1 (za2.l1 kq x6_3 a0_0 a0_1 a0_2 a0_3 a0_4 a0_5 a0_6 a0_7 a0_8 a0_9 a0_10 a0_11 l0_12 l0_13 a1_0 a1_1 a1_2 a1_3 a1_4 a1_5 a1_6 a1_7 a1_8 a1_9 a1_10 a1_11 l1_12 l1_13=some r)∧za1 (kq≤k2)∧za1 (w'.heap[g_a]?=some (.cells #[.int .i64 a0_0,.int .i64 a0_1,.int .i64 a0_2,.int .i64 a0_3,.int .i64 a0_4,.int .i64 a0_5,.bool a0_6,.string a0_7,.string a0_8,.bool a0_9,.string a0_10,.string a0_11,(.slice A0_12 l0_12.length c0_12),(.slice A0_13 l0_13.length c0_13)] 34 (0,0)))∧za1 (w'.heap[g_b]?=some (.cells #[.int .i64 a1_0,.int .i64 a1_1,.int .i64 a1_2,.int .i64 a1_3,.int .i64 a1_4,.int .i64 a1_5,.bool a1_6,.string a1_7,.string a1_8,.bool a1_9,.string a1_10,.string a1_11,(.slice A1_12 l1_12.length c1_12),(.slice A1_13 l1_13.length c1_13)] 34 (0,0)))∧za1 (Below w.heap.size w w'))
       case atStart=>exact ⟨(0),q5,H',⟨Nat.le_refl _⟩,⟨q1⟩,⟨q7⟩,⟨q6⟩⟩
       case round=>
        clear H';(try clear c1);(try clear p2 p2);(try clear c3);(try clear c4);(try clear p6);(try clear p8);(try clear q8);(try clear hx8);(try clear c9);(try clear c34);(try clear c38);(try clear c39);(try clear c39b0);(try clear c40);(try clear c40b0);(try clear c41);(try clear c41b0);(try clear c42);(try clear c42b0);(try clear c43);(try clear c46);(try clear c49);(try clear c_a0 c_a1 c_a10 c_a11 c_a12 c_a13 c_a2 c_a3 c_a4 c_a5 c_a6 c_a7 c_a8 c_a9 f_a0 f_a1 f_a10 f_a11 f_a12 f_a13 f_a2 f_a3 f_a4 f_a5 f_a6 f_a7 f_a8 f_a9);(try clear c_b0 c_b1 c_b10 c_b11 c_b12 c_b13 c_b2 c_b3 c_b4 c_b5 c_b6 c_b7 c_b8 c_b9 f_b0 f_b1 f_b10 f_b11 f_b12 f_b13 f_b2 f_b3 f_b4 f_b5 f_b6 f_b7 f_b8 f_b9);(try clear c_c0 c_c1 c_c10 c_c11 c_c12 c_c13 c_c2 c_c3 c_c4 c_c5 c_c6 c_c7 c_c8 c_c9 f_c0 f_c1 f_c10 f_c11 f_c12 f_c13 f_c2 f_c3 f_c4 f_c5 f_c6 f_c7 f_c8 f_c9);(try clear hx874_0);(try clear hx874_1);(try clear hx875_0);(try clear hx875_1);(try clear p874);(try clear p875);(try clear q874);(try clear q875);obtain ⟨x6_3,rfl,HA,HK3,B_a,B_b,HB⟩:=hrel
        cases gk with
        | zero=>exact absurd HA.out (by simp [za2.l1])
        | succ k3=>
         have H:=HA.out;clear HA;simp only [za2.l1] at H
         by_cases c51:x6_3<(l0_13.length:Int)
         ·rw [if_pos c51] at H
          have c51b0:decide (x6_3<(l0_13.length:Int))=true:=decide_eq_true c51;clear c51
          by_cases c52:0≤x6_3
          ·rw [if_pos c52] at H
           have c52b0:decide (0≤x6_3)=true:=decide_eq_true c52;clear c52
           by_cases c53:x6_3<(l1_13.length:Int)
           ·rw [if_pos c53] at H
            have c53b0:decide (x6_3<(l1_13.length:Int))=true:=decide_eq_true c53;clear c53
            by_cases c54:((!(((rd_T51 l0_13 x6_3).f0.f0) == ((rd_T51 l1_13 x6_3).f0.f0)) || (!((((rd_T51 l0_13 x6_3).f0.f1).toList) == (((rd_T51 l1_13 x6_3).f0.f1).toList)) || (!((((rd_T51 l0_13 x6_3).f0.f2).toList) == (((rd_T51 l1_13 x6_3).f0.f2).toList))))) || (!(((rd_T51 l0_13 x6_3).f1) == ((rd_T51 l1_13 x6_3).f1))))=true
            ·rw [if_pos c54] at H
             have c54b0:((!(((rd_T51 l0_13 x6_3).f0.f0) == ((rd_T51 l1_13 x6_3).f0.f0)) || (!((((rd_T51 l0_13 x6_3).f0.f1).toList) == (((rd_T51 l1_13 x6_3).f0.f1).toList)) || (!((((rd_T51 l0_13 x6_3).f0.f2).toList) == (((rd_T51 l1_13 x6_3).f0.f2).toList))))) || (!(((rd_T51 l0_13 x6_3).f1) == ((rd_T51 l1_13 x6_3).f1))))=true:=c54;clear c54;obtain rfl:=Option.some.inj H;have hnb55:=N_a_b.out;have hnc55:=N_b_a.out;obtain ⟨c_d0,c_d1,c_d2,c_d3,c_d4,c_d5,c_d6,c_d7,c_d8,c_d9,c_d10,c_d11,c_d12,c_d13⟩:=cs14 B_a.out;obtain ⟨f_d0,f_d1,f_d2,f_d3,f_d4,f_d5,f_d6,f_d7,f_d8,f_d9,f_d10,f_d11,f_d12,f_d13⟩:=fs14 B_a.out
             try go_wp2
             replace B_a:=am (za6 B_a.out);replace B_b:=am (za6 B_b.out);replace HB:=am (zar HB.out);have p876:0≤(x6_3:Int):=of_decide_eq_true q0;have q876:x6_3<(l0_13.length:Int):=of_decide_eq_true q0;obtain ⟨ad876,e876,hx876_0,hx876_1,hx876_2,hx876_3⟩:=at_T51 HR0_13.out x6_3 p876 q876;have hw876_3:=hx876_3;have hw876_2:=hx876_2;have hw876_1:=hx876_1;have hw876_0:=hx876_0;cases e876;replace hx876_0:=(HB.out.cell (World.block_lt_of_cell? w _ hx876_0)).trans hx876_0;replace hx876_1:=(HB.out.cell (World.block_lt_of_cell? w _ hx876_1)).trans hx876_1;replace hx876_2:=(HB.out.cell (World.block_lt_of_cell? w _ hx876_2)).trans hx876_2;replace hx876_3:=(HB.out.cell (World.block_lt_of_cell? w _ hx876_3)).trans hx876_3;replace p876:=eq_true p876;replace q876:=eq_true q876;have p877:0≤(x6_3:Int):=of_decide_eq_true q0;have q877:x6_3<(l1_13.length:Int):=of_decide_eq_true q0;obtain ⟨ad877,e877,hx877_0,hx877_1,hx877_2,hx877_3⟩:=at_T51 HR1_13.out x6_3 p877 q877;have hw877_3:=hx877_3;have hw877_2:=hx877_2;have hw877_1:=hx877_1;have hw877_0:=hx877_0;cases e877;replace hx877_0:=(HB.out.cell (World.block_lt_of_cell? w _ hx877_0)).trans hx877_0;replace hx877_1:=(HB.out.cell (World.block_lt_of_cell? w _ hx877_1)).trans hx877_1;replace hx877_2:=(HB.out.cell (World.block_lt_of_cell? w _ hx877_2)).trans hx877_2;replace hx877_3:=(HB.out.cell (World.block_lt_of_cell? w _ hx877_3)).trans hx877_3;replace p877:=eq_true p877;replace q877:=eq_true q877;refine start_ (n:=11) (S:=fun w'=>w'.cell? ⟨g_a,0,none⟩=some (.int .i64 a0_0)∧w'.cell? ⟨g_a,1,none⟩=some (.int .i64 a0_1)∧w'.cell? ⟨g_a,2,none⟩=some (.int .i64 a0_2)∧w'.cell? ⟨g_a,3,none⟩=some (.int .i64 a0_3)∧w'.cell? ⟨g_a,4,none⟩=some (.int .i64 a0_4)∧w'.cell? ⟨g_a,5,none⟩=some (.int .i64 a0_5)∧w'.cell? ⟨g_a,6,none⟩=some (.bool a0_6)∧w'.cell? ⟨g_a,7,none⟩=some (.string a0_7)∧w'.cell? ⟨g_a,8,none⟩=some (.string a0_8)∧w'.cell? ⟨g_a,9,none⟩=some (.bool a0_9)∧w'.cell? ⟨g_a,10,none⟩=some (.string a0_10)∧w'.cell? ⟨g_a,11,none⟩=some (.string a0_11)∧w'.cell? ⟨g_a,12,none⟩=some (.slice A0_12 l0_12.length c0_12)∧w'.cell? ⟨g_a,13,none⟩=some (.slice (some ad876) l0_13.length c0_13)∧w'.cell? ⟨g_b,0,none⟩=some (.int .i64 a1_0)∧w'.cell? ⟨g_b,1,none⟩=some (.int .i64 a1_1)∧w'.cell? ⟨g_b,2,none⟩=some (.int .i64 a1_2)∧w'.cell? ⟨g_b,3,none⟩=some (.int .i64 a1_3)∧w'.cell? ⟨g_b,4,none⟩=some (.int .i64 a1_4)∧w'.cell? ⟨g_b,5,none⟩=some (.int .i64 a1_5)∧w'.cell? ⟨g_b,6,none⟩=some (.bool a1_6)∧w'.cell? ⟨g_b,7,none⟩=some (.string a1_7)∧w'.cell? ⟨g_b,8,none⟩=some (.string a1_8)∧w'.cell? ⟨g_b,9,none⟩=some (.bool a1_9)∧w'.cell? ⟨g_b,10,none⟩=some (.string a1_10)∧w'.cell? ⟨g_b,11,none⟩=some (.string a1_11)∧w'.cell? ⟨g_b,12,none⟩=some (.slice A1_12 l1_12.length c1_12)∧w'.cell? ⟨g_b,13,none⟩=some (.slice (some ad877) l1_13.length c1_13)∧w'.cell? (ad876.add ((x6_3).toNat*4))=some (.bool ((rd_T51 l0_13 x6_3).f0.f0))∧w'.cell? ⟨(ad876.add ((x6_3).toNat*4)).block,(ad876.add ((x6_3).toNat*4)).off+1,none⟩=some (.string ((rd_T51 l0_13 x6_3).f0.f1))∧w'.cell? ⟨(ad876.add ((x6_3).toNat*4)).block,(ad876.add ((x6_3).toNat*4)).off+2,none⟩=some (.string ((rd_T51 l0_13 x6_3).f0.f2))∧w'.cell? ⟨(ad876.add ((x6_3).toNat*4)).block,(ad876.add ((x6_3).toNat*4)).off+3,none⟩=some (.int .i64 ((rd_T51 l0_13 x6_3).f1))∧w'.cell? (ad877.add ((x6_3).toNat*4))=some (.bool ((rd_T51 l1_13 x6_3).f0.f0))∧w'.cell? ⟨(ad877.add ((x6_3).toNat*4)).block,(ad877.add ((x6_3).toNat*4)).off+1,none⟩=some (.string ((rd_T51 l1_13 x6_3).f0.f1))∧w'.cell? ⟨(ad877.add ((x6_3).toNat*4)).block,(ad877.add ((x6_3).toNat*4)).off+2,none⟩=some (.string ((rd_T51 l1_13 x6_3).f0.f2))∧w'.cell? ⟨(ad877.add ((x6_3).toNat*4)).block,(ad877.add ((x6_3).toNat*4)).off+3,none⟩=some (.int .i64 ((rd_T51 l1_13 x6_3).f1))) (ds:=[]) #[false,false,false,false,false,false,false,false,false,false,false] (by kernel_rfl) rfl rfl ⟨bc B_a 0,bc B_a 1,bc B_a 2,bc B_a 3,bc B_a 4,bc B_a 5,bc B_a 6,bc B_a 7,bc B_a 8,bc B_a 9,bc B_a 10,bc B_a 11,bc B_a 12,bc B_a 13,bc B_b 0,bc B_b 1,bc B_b 2,bc B_b 3,bc B_b 4,bc B_b 5,bc B_b 6,bc B_b 7,bc B_b 8,bc B_b 9,bc B_b 10,bc B_b 11,bc B_b 12,bc B_b 13,((HB.out.cell (World.block_lt_of_cell? w _ hw876_0)).trans hw876_0),((HB.out.cell (World.block_lt_of_cell? w _ hw876_1)).trans hw876_1),((HB.out.cell (World.block_lt_of_cell? w _ hw876_2)).trans hw876_2),((HB.out.cell (World.block_lt_of_cell? w _ hw876_3)).trans hw876_3),((HB.out.cell (World.block_lt_of_cell? w _ hw877_0)).trans hw877_0),((HB.out.cell (World.block_lt_of_cell? w _ hw877_1)).trans hw877_1),((HB.out.cell (World.block_lt_of_cell? w _ hw877_2)).trans hw877_2),((HB.out.cell (World.block_lt_of_cell? w _ hw877_3)).trans hw877_3)⟩ (fun hHeld=>?_);refine with_tabW za2.tab11 za2.bits11 (fun HT_ HW_=>?_)
             generalize wr.drew=w57 at B_a B_b HB hx876_0 hx876_1 hx876_2 hx876_3 hx877_0 hx877_1 hx877_2 hx877_3 hHeld ⊢
             refine pp 0 70 rfl rfl ?_;refine pp 2 72 rfl rfl ?_;refine pp 5 75 rfl rfl ?_;refine pp 7 77 rfl rfl ?_;refine tk36 1 71 rfl rfl ?_;refine pp 3 73 rfl rfl ?_;refine tk36 4 74 rfl rfl ?_;refine tk36 6 76 rfl rfl ?_;refine pp 8 78 rfl rfl ?_;refine tk36 9 79 rfl rfl ?_;refine pp 10 80 rfl rfl ?_;refine done_ (done_of HT_.out (by kernel_rfl)) ?_
             try go_wp2
             go_ret;exact ⟨q8,q6⟩
            ·rw [if_neg c54] at H
             have c54b0:((!(((rd_T51 l0_13 x6_3).f0.f0) == ((rd_T51 l1_13 x6_3).f0.f0)) || (!((((rd_T51 l0_13 x6_3).f0.f1).toList) == (((rd_T51 l1_13 x6_3).f0.f1).toList)) || (!((((rd_T51 l0_13 x6_3).f0.f2).toList) == (((rd_T51 l1_13 x6_3).f0.f2).toList))))) || (!(((rd_T51 l0_13 x6_3).f1) == ((rd_T51 l1_13 x6_3).f1))))=false:=by simpa using c54
             clear c54;have H':=za1.mk H;clear H;have hnb58:=N_a_b.out;have hnc58:=N_b_a.out;obtain ⟨c_e0,c_e1,c_e2,c_e3,c_e4,c_e5,c_e6,c_e7,c_e8,c_e9,c_e10,c_e11,c_e12,c_e13⟩:=cs14 B_a.out;obtain ⟨f_e0,f_e1,f_e2,f_e3,f_e4,f_e5,f_e6,f_e7,f_e8,f_e9,f_e10,f_e11,f_e12,f_e13⟩:=fs14 B_a.out
             try go_wp2
             replace B_a:=am (za6 B_a.out);replace B_b:=am (za6 B_b.out);replace HB:=am (zar HB.out);have p876:0≤(x6_3:Int):=of_decide_eq_true q0;have q876:x6_3<(l0_13.length:Int):=of_decide_eq_true q0;obtain ⟨ad876,e876,hx876_0,hx876_1,hx876_2,hx876_3⟩:=at_T51 HR0_13.out x6_3 p876 q876;have hw876_3:=hx876_3;have hw876_2:=hx876_2;have hw876_1:=hx876_1;have hw876_0:=hx876_0;cases e876;replace hx876_0:=(HB.out.cell (World.block_lt_of_cell? w _ hx876_0)).trans hx876_0;replace hx876_1:=(HB.out.cell (World.block_lt_of_cell? w _ hx876_1)).trans hx876_1;replace hx876_2:=(HB.out.cell (World.block_lt_of_cell? w _ hx876_2)).trans hx876_2;replace hx876_3:=(HB.out.cell (World.block_lt_of_cell? w _ hx876_3)).trans hx876_3;replace p876:=eq_true p876;replace q876:=eq_true q876;have p877:0≤(x6_3:Int):=of_decide_eq_true q0;have q877:x6_3<(l1_13.length:Int):=of_decide_eq_true q0;obtain ⟨ad877,e877,hx877_0,hx877_1,hx877_2,hx877_3⟩:=at_T51 HR1_13.out x6_3 p877 q877;have hw877_3:=hx877_3;have hw877_2:=hx877_2;have hw877_1:=hx877_1;have hw877_0:=hx877_0;cases e877;replace hx877_0:=(HB.out.cell (World.block_lt_of_cell? w _ hx877_0)).trans hx877_0;replace hx877_1:=(HB.out.cell (World.block_lt_of_cell? w _ hx877_1)).trans hx877_1;replace hx877_2:=(HB.out.cell (World.block_lt_of_cell? w _ hx877_2)).trans hx877_2;replace hx877_3:=(HB.out.cell (World.block_lt_of_cell? w _ hx877_3)).trans hx877_3;replace p877:=eq_true p877;replace q877:=eq_true q877;refine start_ (n:=11) (S:=fun w'=>w'.cell? ⟨g_a,0,none⟩=some (.int .i64 a0_0)∧w'.cell? ⟨g_a,1,none⟩=some (.int .i64 a0_1)∧w'.cell? ⟨g_a,2,none⟩=some (.int .i64 a0_2)∧w'.cell? ⟨g_a,3,none⟩=some (.int .i64 a0_3)∧w'.cell? ⟨g_a,4,none⟩=some (.int .i64 a0_4)∧w'.cell? ⟨g_a,5,none⟩=some (.int .i64 a0_5)∧w'.cell? ⟨g_a,6,none⟩=some (.bool a0_6)∧w'.cell? ⟨g_a,7,none⟩=some (.string a0_7)∧w'.cell? ⟨g_a,8,none⟩=some (.string a0_8)∧w'.cell? ⟨g_a,9,none⟩=some (.bool a0_9)∧w'.cell? ⟨g_a,10,none⟩=some (.string a0_10)∧w'.cell? ⟨g_a,11,none⟩=some (.string a0_11)∧w'.cell? ⟨g_a,12,none⟩=some (.slice A0_12 l0_12.length c0_12)∧w'.cell? ⟨g_a,13,none⟩=some (.slice (some ad876) l0_13.length c0_13)∧w'.cell? ⟨g_b,0,none⟩=some (.int .i64 a1_0)∧w'.cell? ⟨g_b,1,none⟩=some (.int .i64 a1_1)∧w'.cell? ⟨g_b,2,none⟩=some (.int .i64 a1_2)∧w'.cell? ⟨g_b,3,none⟩=some (.int .i64 a1_3)∧w'.cell? ⟨g_b,4,none⟩=some (.int .i64 a1_4)∧w'.cell? ⟨g_b,5,none⟩=some (.int .i64 a1_5)∧w'.cell? ⟨g_b,6,none⟩=some (.bool a1_6)∧w'.cell? ⟨g_b,7,none⟩=some (.string a1_7)∧w'.cell? ⟨g_b,8,none⟩=some (.string a1_8)∧w'.cell? ⟨g_b,9,none⟩=some (.bool a1_9)∧w'.cell? ⟨g_b,10,none⟩=some (.string a1_10)∧w'.cell? ⟨g_b,11,none⟩=some (.string a1_11)∧w'.cell? ⟨g_b,12,none⟩=some (.slice A1_12 l1_12.length c1_12)∧w'.cell? ⟨g_b,13,none⟩=some (.slice (some ad877) l1_13.length c1_13)∧w'.cell? (ad876.add ((x6_3).toNat*4))=some (.bool ((rd_T51 l0_13 x6_3).f0.f0))∧w'.cell? ⟨(ad876.add ((x6_3).toNat*4)).block,(ad876.add ((x6_3).toNat*4)).off+1,none⟩=some (.string ((rd_T51 l0_13 x6_3).f0.f1))∧w'.cell? ⟨(ad876.add ((x6_3).toNat*4)).block,(ad876.add ((x6_3).toNat*4)).off+2,none⟩=some (.string ((rd_T51 l0_13 x6_3).f0.f2))∧w'.cell? ⟨(ad876.add ((x6_3).toNat*4)).block,(ad876.add ((x6_3).toNat*4)).off+3,none⟩=some (.int .i64 ((rd_T51 l0_13 x6_3).f1))∧w'.cell? (ad877.add ((x6_3).toNat*4))=some (.bool ((rd_T51 l1_13 x6_3).f0.f0))∧w'.cell? ⟨(ad877.add ((x6_3).toNat*4)).block,(ad877.add ((x6_3).toNat*4)).off+1,none⟩=some (.string ((rd_T51 l1_13 x6_3).f0.f1))∧w'.cell? ⟨(ad877.add ((x6_3).toNat*4)).block,(ad877.add ((x6_3).toNat*4)).off+2,none⟩=some (.string ((rd_T51 l1_13 x6_3).f0.f2))∧w'.cell? ⟨(ad877.add ((x6_3).toNat*4)).block,(ad877.add ((x6_3).toNat*4)).off+3,none⟩=some (.int .i64 ((rd_T51 l1_13 x6_3).f1))) (ds:=[]) #[false,false,false,false,false,false,false,false,false,false,false] (by kernel_rfl) rfl rfl ⟨bc B_a 0,bc B_a 1,bc B_a 2,bc B_a 3,bc B_a 4,bc B_a 5,bc B_a 6,bc B_a 7,bc B_a 8,bc B_a 9,bc B_a 10,bc B_a 11,bc B_a 12,bc B_a 13,bc B_b 0,bc B_b 1,bc B_b 2,bc B_b 3,bc B_b 4,bc B_b 5,bc B_b 6,bc B_b 7,bc B_b 8,bc B_b 9,bc B_b 10,bc B_b 11,bc B_b 12,bc B_b 13,((HB.out.cell (World.block_lt_of_cell? w _ hw876_0)).trans hw876_0),((HB.out.cell (World.block_lt_of_cell? w _ hw876_1)).trans hw876_1),((HB.out.cell (World.block_lt_of_cell? w _ hw876_2)).trans hw876_2),((HB.out.cell (World.block_lt_of_cell? w _ hw876_3)).trans hw876_3),((HB.out.cell (World.block_lt_of_cell? w _ hw877_0)).trans hw877_0),((HB.out.cell (World.block_lt_of_cell? w _ hw877_1)).trans hw877_1),((HB.out.cell (World.block_lt_of_cell? w _ hw877_2)).trans hw877_2),((HB.out.cell (World.block_lt_of_cell? w _ hw877_3)).trans hw877_3)⟩ (fun hHeld=>?_);refine with_tabW za2.tab11 za2.bits11 (fun HT_ HW_=>?_)
             generalize wr.drew=w60 at B_a B_b HB hx876_0 hx876_1 hx876_2 hx876_3 hx877_0 hx877_1 hx877_2 hx877_3 hHeld ⊢
             refine pp 0 70 rfl rfl ?_;refine pp 2 72 rfl rfl ?_;refine pp 5 75 rfl rfl ?_;refine pp 7 77 rfl rfl ?_;refine tk36 1 71 rfl rfl ?_;refine pp 3 73 rfl rfl ?_;refine tk36 4 74 rfl rfl ?_;refine tk36 6 76 rfl rfl ?_;refine pp 8 78 rfl rfl ?_;refine tk36 9 79 rfl rfl ?_;refine pp 10 80 rfl rfl ?_;refine done_ (done_of HT_.out (by kernel_rfl)) ?_
             try go_wp2
             go_roundg k3
             case measure=>have:=HJ2.out;have:=HK2.out;have:=HK3.out;omega
             case rel=>exact ⟨(wrap64 (x6_3+1)),q5,H',⟨by have:=HJ2.out;have:=HK2.out;have:=HK3.out;omega⟩,⟨q1⟩,⟨q7⟩,⟨q6⟩⟩
           ·rw [if_neg c53] at H
            exact absurd H (by simp)
          ·rw [if_neg c52] at H
           exact absurd H (by simp)
         ·rw [if_neg c51] at H
          have c51b0:decide (x6_3<(l0_13.length:Int))=false:=decide_eq_false c51;clear c51;obtain rfl:=Option.some.inj H;have hnb61:=N_a_b.out;have hnc61:=N_b_a.out;obtain ⟨c_f0,c_f1,c_f2,c_f3,c_f4,c_f5,c_f6,c_f7,c_f8,c_f9,c_f10,c_f11,c_f12,c_f13⟩:=cs14 B_a.out;obtain ⟨f_f0,f_f1,f_f2,f_f3,f_f4,f_f5,f_f6,f_f7,f_f8,f_f9,f_f10,f_f11,f_f12,f_f13⟩:=fs14 B_a.out
          go_wp2
          go_ret;exact ⟨q8,q6⟩
end Go.Proofs.YtcipcpodgkeobaaDoor.F
end
section
namespace Go.Proofs.YtcipcpodgkeobaaDoor.F
open Go.RowKit Go.Proofs.YtcipcpodgkeobaaDoorW.PrintWords Go.Proofs.YtcipcpodgkeobaaDoorW.PrintLast Go.Proofs.YtcipcpodgkeobaaDoorW.PrintMore
attribute [local go_sem] max2_int min2_int max_two min_two max_three min_three max_four min_four   
set_option linter.unusedVariables false
set_option linter.unusedSimpArgs false
theorem eqA53 (d:Nat) (w:World) (x0 y0:Int) (x1 y1:Int) (x2 y2:Int) :
 (Op.equalIn (d+3) 53 (.agg #[.int .i64 x0,.int .i64 x1,.int .i64 x2]) (.agg #[.int .i64 y0,.int .i64 y1,.int .i64 y2])).run Tryd.prog w = .ok (x0 == y0 && ((x1 == y1 && (x2 == y2)))) w:=by
 refine eqA_of Tryd.underlying53 (by kernel_rfl) ?_;refine eqf_cons (by rfl) (by go_simp;rfl) (by go_simp;rfl) (by go_simp) ?_;exact eqf_last (by rfl) (by go_simp) (by go_simp) (eqA49 (d+0) w _ _ _ _)
theorem eqA55 (d:Nat) (w:World) (x0 y0:Int) (x1 y1:Int) (x2 y2:Int) (x3 y3:Int) :
 (Op.equalIn (d+4) 55 (.agg #[.int .i64 x0,.int .i64 x1,.int .i64 x2,.int .i64 x3]) (.agg #[.int .i64 y0,.int .i64 y1,.int .i64 y2,.int .i64 y3])).run Tryd.prog w = .ok ((x0 == y0 && ((x1 == y1 && (x2 == y2)))) && (x3 == y3)) w:=by
 refine eqA_of Tryd.underlying55 (by kernel_rfl) ?_;refine eqf_cons (by rfl) (by go_simp) (by go_simp) (eqA53 (d+0) w _ _ _ _ _ _) ?_;exact eqf_last (by rfl) (by go_simp;rfl) (by go_simp;rfl) (by go_simp)
end Go.Proofs.YtcipcpodgkeobaaDoor.F
end
section
namespace Go.Proofs.YtcipcpodgkeobaaDoor.F
open Go.RowKit Go.Proofs.YtcipcpodgkeobaaDoorW.PrintWords Go.Proofs.YtcipcpodgkeobaaDoorW.PrintLast Go.Proofs.YtcipcpodgkeobaaDoorW.PrintMore
attribute [local go_sem] max2_int min2_int max_two min_two max_three min_three max_four min_four   
set_option linter.unusedVariables false
set_option linter.unusedSimpArgs false
attribute [local go_sem high] eqA55
def zaq.l0:Nat→List (S55)→List (S55)→Int→Option (Bool)
 | 0,_,_,_=>none
 | k+1,x0,x1,x5=>if x5<(x0.length:Int) then (if 0≤x5 then (if x5<(x1.length:Int) then (if ((!(((rd_T55 x0 x5).f0.f0) == ((rd_T55 x1 x5).f0.f0)) || ((!(((rd_T55 x0 x5).f0.f1.f0) == ((rd_T55 x1 x5).f0.f1.f0)) || (!(((rd_T55 x0 x5).f0.f1.f1) == ((rd_T55 x1 x5).f0.f1.f1)))))) || (!(((rd_T55 x0 x5).f1) == ((rd_T55 x1 x5).f1))))=true then (some false) else (zaq.l0 k x0 x1 (wrap64 (x5+1)))) else (none)) else (none)) else (some true)
def zaq.f (k:Nat) (l0:List (S55)) (l1:List (S55)):Option (Bool):=if (l0.length:Int)=(l1.length:Int) then (zaq.l0 k l0 l1 0) else (some false)
theorem zaq.mono_l:∀ k,(∀ y0 y1 y2,LeO (zaq.l0 k y0 y1 y2) (zaq.l0 (k+1) y0 y1 y2))
 | 0=>fun _ _ _ r h=>by simp [zaq.l0] at h
 | k+1=>by
  have ih0:=zaq.mono_l k
  ·intro y0 y1 y2
   unfold zaq.l0
   repeat' first
   | (with_reducible exact ih0 _ _ _)
   | (with_reducible exact LeO.refl _)
   | (with_reducible exact LeO.none _)
   | (with_reducible refine LeO.ite ?_ ?_)
   | (with_reducible refine LeO.bind ?_ (fun _=>?_))
   | exact ih0 _ _ _
   | exact LeO.none _
   | refine LeO.ite ?_ ?_
   | refine LeO.bind ?_ (fun _=>?_)
theorem zaq.mono:∀ a0 a1 k,LeO (zaq.f k a0 a1) (zaq.f (k+1) a0 a1):=by
 intro a0 a1 k;have ih0:=zaq.mono_l k;unfold zaq.f
 repeat' first
  | (with_reducible exact ih0 _ _ _)
  | (with_reducible exact LeO.refl _)
  | (with_reducible exact LeO.none _)
  | (with_reducible refine LeO.ite ?_ ?_)
  | (with_reducible refine LeO.bind ?_ (fun _=>?_))
  | exact ih0 _ _ _
  | exact LeO.none _
  | refine LeO.ite ?_ ?_
  | refine LeO.bind ?_ (fun _=>?_)
set_option maxHeartbeats 8000000 in
set_option maxRecDepth 100000 in
theorem zaq.calls (k:Nat) (A0:Option Addr) (c0:Nat) (l0:List (S55)) (A1:Option Addr) (c1:Nat) (l1:List (S55)) (r:Bool) (w:World) (hr0:Kd.C k55 w A0 l0.length l0) (hc0:l0.length≤c0) (hr1:Kd.C k55 w A1 l1.length l1) (hc1:l1.length≤c1) (h:zaq.f k l0 l1=some r) :
 Calls Tryd.prog 33 #[.slice A0 l0.length c0,.slice A1 l1.length c1] w fun e w'=>e = .returned (.bool r)∧Drawn0 w w':=by
 have hu55:=Tryd.underlying55;have HR0:=za1.mk hr0;have HC0:=za1.mk hc0;clear hr0 hc0;have HR1:=za1.mk hr1;have HC1:=za1.mk hc1;clear hr1 hc1;have H:(if (l0.length:Int)=(l1.length:Int) then (zaq.l0 k l0 l1 0) else (some false))=some r:=h;clear h
 by_cases c3:(l0.length:Int)=(l1.length:Int)
 ·rw [if_pos c3] at H
  have c3b0:((l0.length:Int) == (l1.length:Int))=true:=beq_iff_eq.mpr c3;have c3b1:((l0.length:Int) != (l1.length:Int))=false:=bne_eq_false_iff_eq.mpr c3
  have c3b2:(l0.length == l1.length)=true:=by first|simpa using c3|(simp at c3 ⊢;omega)
  clear c3;have H':=za1.mk H;clear H;go_enter Tryd.func33,Tryd.ntmps33
  go_wp2
  repeat (go_quiet (fail);try go_wp2)
  go_loopg [5] k (fun kq v5 w'=>∃ (x5_1:Int),v5 = .int .i64 x5_1∧za1 (zaq.l0 kq l0 l1 x5_1=some r)∧za1 (kq≤k)∧Drawn0 w w')
  case atStart=>exact ⟨(0),q5,H',⟨Nat.le_refl _⟩,q11⟩
  case round=>
   clear H';(try clear c1);(try clear p2);(try clear c3);(try clear c3b0);(try clear c3b1);(try clear c3b2);obtain ⟨x5_1,rfl,HA,HK1,⟨m1,rfl⟩⟩:=hrel
   cases gk with
   | zero=>exact absurd HA.out (by simp [zaq.l0])
   | succ k1=>
    have H:=HA.out;clear HA;simp only [zaq.l0] at H
    by_cases c4:x5_1<(l0.length:Int)
    ·rw [if_pos c4] at H
     have c4b0:decide (x5_1<(l0.length:Int))=true:=decide_eq_true c4;clear c4
     by_cases c5:0≤x5_1
     ·rw [if_pos c5] at H
      have c5b0:decide (0≤x5_1)=true:=decide_eq_true c5;clear c5
      by_cases c6:x5_1<(l1.length:Int)
      ·rw [if_pos c6] at H
       have c6b0:decide (x5_1<(l1.length:Int))=true:=decide_eq_true c6;clear c6
       by_cases c7:((!(((rd_T55 l0 x5_1).f0.f0) == ((rd_T55 l1 x5_1).f0.f0)) || ((!(((rd_T55 l0 x5_1).f0.f1.f0) == ((rd_T55 l1 x5_1).f0.f1.f0)) || (!(((rd_T55 l0 x5_1).f0.f1.f1) == ((rd_T55 l1 x5_1).f0.f1.f1)))))) || (!(((rd_T55 l0 x5_1).f1) == ((rd_T55 l1 x5_1).f1))))=true
       ·rw [if_pos c7] at H
        have c7b0:((!(((rd_T55 l0 x5_1).f0.f0) == ((rd_T55 l1 x5_1).f0.f0)) || ((!(((rd_T55 l0 x5_1).f0.f1.f0) == ((rd_T55 l1 x5_1).f0.f1.f0)) || (!(((rd_T55 l0 x5_1).f0.f1.f1) == ((rd_T55 l1 x5_1).f0.f1.f1)))))) || (!(((rd_T55 l0 x5_1).f1) == ((rd_T55 l1 x5_1).f1))))=true:=c7;clear c7;obtain rfl:=Option.some.inj H;have p878:0≤(x5_1:Int):=of_decide_eq_true q0;have q878:x5_1<(l0.length:Int):=of_decide_eq_true q0;obtain ⟨ad878,e878,hx878_0,hx878_1,hx878_2,hx878_3⟩:=at_T55 HR0.out x5_1 p878 q878;cases e878;replace p878:=eq_true p878;replace q878:=eq_true q878;have p879:0≤(x5_1:Int):=of_decide_eq_true q0;have q879:x5_1<(l1.length:Int):=of_decide_eq_true q0;obtain ⟨ad879,e879,hx879_0,hx879_1,hx879_2,hx879_3⟩:=at_T55 HR1.out x5_1 p879 q879;cases e879;replace p879:=eq_true p879;replace q879:=eq_true q879
        go_wp2
        repeat (go_quiet (fail);try go_wp2)
        go_ret;exact ⟨q5,q11⟩
       ·rw [if_neg c7] at H
        have c7b0:((!(((rd_T55 l0 x5_1).f0.f0) == ((rd_T55 l1 x5_1).f0.f0)) || ((!(((rd_T55 l0 x5_1).f0.f1.f0) == ((rd_T55 l1 x5_1).f0.f1.f0)) || (!(((rd_T55 l0 x5_1).f0.f1.f1) == ((rd_T55 l1 x5_1).f0.f1.f1)))))) || (!(((rd_T55 l0 x5_1).f1) == ((rd_T55 l1 x5_1).f1))))=false:=by simpa using c7
        clear c7;have H':=za1.mk H;clear H;have p878:0≤(x5_1:Int):=of_decide_eq_true q0;have q878:x5_1<(l0.length:Int):=of_decide_eq_true q0;obtain ⟨ad878,e878,hx878_0,hx878_1,hx878_2,hx878_3⟩:=at_T55 HR0.out x5_1 p878 q878;cases e878;replace p878:=eq_true p878;replace q878:=eq_true q878;have p879:0≤(x5_1:Int):=of_decide_eq_true q0;have q879:x5_1<(l1.length:Int):=of_decide_eq_true q0;obtain ⟨ad879,e879,hx879_0,hx879_1,hx879_2,hx879_3⟩:=at_T55 HR1.out x5_1 p879 q879;cases e879;replace p879:=eq_true p879;replace q879:=eq_true q879
        go_wp2
        repeat (go_quiet (fail);try go_wp2)
        go_roundg k1
        case measure=>have:=HK1.out;omega
        case rel=>exact ⟨(wrap64 (x5_1+1)),q5,H',⟨q13⟩,q11⟩
      ·rw [if_neg c6] at H
       exact absurd H (by simp)
     ·rw [if_neg c5] at H
      exact absurd H (by simp)
    ·rw [if_neg c4] at H
     have c4b0:decide (x5_1<(l0.length:Int))=false:=decide_eq_false c4;clear c4;obtain rfl:=Option.some.inj H
     go_wp2
     repeat (go_quiet (fail);try go_wp2)
     go_ret;exact ⟨q5,q11⟩
 ·rw [if_neg c3] at H
  have c3b0:((l0.length:Int) == (l1.length:Int))=false:=beq_eq_false_iff_ne.mpr c3;have c3b1:((l0.length:Int) != (l1.length:Int))=true:=bne_iff_ne.mpr c3
  have c3b2:(l0.length == l1.length)=false:=by first|simpa using c3|(simp at c3 ⊢;omega)
  obtain rfl:=Option.some.inj H;go_enter Tryd.func33,Tryd.ntmps33
  go_wp2
  repeat (go_quiet (fail);try go_wp2)
  go_ret;exact ⟨q5,q11⟩
end Go.Proofs.YtcipcpodgkeobaaDoor.F
end
section
namespace Go.Proofs.YtcipcpodgkeobaaDoor.F
open Go.RowKit Go.Proofs.YtcipcpodgkeobaaDoorW.PrintWords Go.Proofs.YtcipcpodgkeobaaDoorW.PrintLast Go.Proofs.YtcipcpodgkeobaaDoorW.PrintMore
attribute [local go_sem] max2_int min2_int max_two min_two max_three min_three max_four min_four   
set_option linter.unusedVariables false
set_option linter.unusedSimpArgs false
def zbl.f (k:Nat) (a0_0:Int) (a0_1:Int) (a0_2:Int) (a0_3:Int) (a0_4:Int) (a0_5:Int) (a0_6:Bool) (a0_7:ByteArray) (a0_8:ByteArray) (a0_9:Bool) (a0_10:ByteArray) (a0_11:ByteArray) (l0_12:List (S49)) (l0_13:List (S51)) (l0_14:List (S55)) (a1_0:Int) (a1_1:Int) (a1_2:Int) (a1_3:Int) (a1_4:Int) (a1_5:Int) (a1_6:Bool) (a1_7:ByteArray) (a1_8:ByteArray) (a1_9:Bool) (a1_10:ByteArray) (a1_11:ByteArray) (l1_12:List (S49)) (l1_13:List (S51)) (l1_14:List (S55)):Option (Bool):=(za2.f k a0_0 a0_1 a0_2 a0_3 a0_4 a0_5 a0_6 a0_7 a0_8 a0_9 a0_10 a0_11 l0_12 l0_13 a1_0 a1_1 a1_2 a1_3 a1_4 a1_5 a1_6 a1_7 a1_8 a1_9 a1_10 a1_11 l1_12 l1_13).bind fun t882=>(if t882=true then ((zaq.f k l0_14 l1_14).bind fun t883=>(some t883)) else (some false))
theorem zbl.mono:∀ a0 a1 a2 a3 a4 a5 a6 a7 a8 a9 a10 a11 a12 a13 a14 a15 a16 a17 a18 a19 a20 a21 a22 a23 a24 a25 a26 a27 a28 a29 k,LeO (zbl.f k a0 a1 a2 a3 a4 a5 a6 a7 a8 a9 a10 a11 a12 a13 a14 a15 a16 a17 a18 a19 a20 a21 a22 a23 a24 a25 a26 a27 a28 a29) (zbl.f (k+1) a0 a1 a2 a3 a4 a5 a6 a7 a8 a9 a10 a11 a12 a13 a14 a15 a16 a17 a18 a19 a20 a21 a22 a23 a24 a25 a26 a27 a28 a29):=by
 intro a0 a1 a2 a3 a4 a5 a6 a7 a8 a9 a10 a11 a12 a13 a14 a15 a16 a17 a18 a19 a20 a21 a22 a23 a24 a25 a26 a27 a28 a29 k;unfold zbl.f
 repeat' first
  | (with_reducible exact za2.mono _ _ _ _ _ _ _ _ _ _ _ _ _ _ _ _ _ _ _ _ _ _ _ _ _ _ _ _ _)
  | (with_reducible exact zaq.mono _ _ _)
  | (with_reducible exact LeO.refl _)
  | (with_reducible exact LeO.none _)
  | (with_reducible refine LeO.ite ?_ ?_)
  | (with_reducible refine LeO.bind ?_ (fun _=>?_))
  | exact za2.mono _ _ _ _ _ _ _ _ _ _ _ _ _ _ _ _ _ _ _ _ _ _ _ _ _ _ _ _ _
  | exact zaq.mono _ _ _
  | exact LeO.none _
  | refine LeO.ite ?_ ?_
  | refine LeO.bind ?_ (fun _=>?_)
set_option maxHeartbeats 8000000 in
set_option maxRecDepth 100000 in
theorem zbl.calls (k:Nat) (a0_0:Int) (a0_1:Int) (a0_2:Int) (a0_3:Int) (a0_4:Int) (a0_5:Int) (a0_6:Bool) (a0_7:ByteArray) (a0_8:ByteArray) (a0_9:Bool) (a0_10:ByteArray) (a0_11:ByteArray) (A0_12:Option Addr) (c0_12:Nat) (l0_12:List (S49)) (A0_13:Option Addr) (c0_13:Nat) (l0_13:List (S51)) (A0_14:Option Addr) (c0_14:Nat) (l0_14:List (S55)) (a1_0:Int) (a1_1:Int) (a1_2:Int) (a1_3:Int) (a1_4:Int) (a1_5:Int) (a1_6:Bool) (a1_7:ByteArray) (a1_8:ByteArray) (a1_9:Bool) (a1_10:ByteArray) (a1_11:ByteArray) (A1_12:Option Addr) (c1_12:Nat) (l1_12:List (S49)) (A1_13:Option Addr) (c1_13:Nat) (l1_13:List (S51)) (A1_14:Option Addr) (c1_14:Nat) (l1_14:List (S55)) (r:Bool) (w:World) (hr0_12:Kd.C k49 w A0_12 l0_12.length l0_12) (hc0_12:l0_12.length≤c0_12) (hr0_13:Kd.C k51 w A0_13 l0_13.length l0_13) (hc0_13:l0_13.length≤c0_13) (hr0_14:Kd.C k55 w A0_14 l0_14.length l0_14) (hc0_14:l0_14.length≤c0_14) (hr1_12:Kd.C k49 w A1_12 l1_12.length l1_12) (hc1_12:l1_12.length≤c1_12) (hr1_13:Kd.C k51 w A1_13 l1_13.length l1_13) (hc1_13:l1_13.length≤c1_13) (hr1_14:Kd.C k55 w A1_14 l1_14.length l1_14) (hc1_14:l1_14.length≤c1_14) (h:zbl.f k a0_0 a0_1 a0_2 a0_3 a0_4 a0_5 a0_6 a0_7 a0_8 a0_9 a0_10 a0_11 l0_12 l0_13 l0_14 a1_0 a1_1 a1_2 a1_3 a1_4 a1_5 a1_6 a1_7 a1_8 a1_9 a1_10 a1_11 l1_12 l1_13 l1_14=some r) :
 Calls Tryd.prog 20 #[.agg #[.int .i64 a0_0,.int .i64 a0_1,.int .i64 a0_2,.int .i64 a0_3,.int .i64 a0_4,.int .i64 a0_5,.bool a0_6,.string a0_7,.string a0_8,.bool a0_9,.string a0_10,.string a0_11,.slice A0_12 l0_12.length c0_12,.slice A0_13 l0_13.length c0_13,.slice A0_14 l0_14.length c0_14],.agg #[.int .i64 a1_0,.int .i64 a1_1,.int .i64 a1_2,.int .i64 a1_3,.int .i64 a1_4,.int .i64 a1_5,.bool a1_6,.string a1_7,.string a1_8,.bool a1_9,.string a1_10,.string a1_11,.slice A1_12 l1_12.length c1_12,.slice A1_13 l1_13.length c1_13,.slice A1_14 l1_14.length c1_14]] w fun e w'=>e = .returned (.bool r)∧Below w.heap.size w w':=by
 have hu37:=Tryd.underlying37;have hu34:=Tryd.underlying34;have HR0_12:=za1.mk hr0_12;have HC0_12:=za1.mk hc0_12;clear hr0_12 hc0_12;have HR0_13:=za1.mk hr0_13;have HC0_13:=za1.mk hc0_13;clear hr0_13 hc0_13;have HR0_14:=za1.mk hr0_14;have HC0_14:=za1.mk hc0_14;clear hr0_14 hc0_14;have HR1_12:=za1.mk hr1_12;have HC1_12:=za1.mk hc1_12;clear hr1_12 hc1_12;have HR1_13:=za1.mk hr1_13;have HC1_13:=za1.mk hc1_13;clear hr1_13 hc1_13;have HR1_14:=za1.mk hr1_14;have HC1_14:=za1.mk hc1_14;clear hr1_14 hc1_14;have HB:=am (Below.refl w.heap.size w);have H:((za2.f k a0_0 a0_1 a0_2 a0_3 a0_4 a0_5 a0_6 a0_7 a0_8 a0_9 a0_10 a0_11 l0_12 l0_13 a1_0 a1_1 a1_2 a1_3 a1_4 a1_5 a1_6 a1_7 a1_8 a1_9 a1_10 a1_11 l1_12 l1_13).bind fun t882=>(if t882=true then ((zaq.f k l0_14 l1_14).bind fun t883=>(some t883)) else (some false)))=some r:=h;clear h;replace H:=Option.bind_eq_some_iff.mp H;obtain ⟨t882,A30,H⟩:=H;replace H:(if t882=true then ((zaq.f k l0_14 l1_14).bind fun t883=>(some t883)) else (some false))=some r:=H;have A3:=za1.mk A30;clear A30
 by_cases c4:t882=true
 ·subst c4
  have H1:((zaq.f k l0_14 l1_14).bind fun t883=>(some t883))=some r:=by rw [if_pos rfl] at H;exact H
  clear H;have H:=H1;clear H1;replace H:=Option.bind_eq_some_iff.mp H;obtain ⟨t883,A50,H⟩:=H;replace H:(some t883)=some r:=H;have A5:=za1.mk A50;clear A50;obtain rfl:=Option.some.inj H;go_enter Tryd.func20,Tryd.ntmps20
  go_wp2_with (first|((with_reducible refine zbr (N:=2) rfl ?_);refine zbq ?hg (N:=2) ?hd (cs:=#[.int .i64 a0_0,.int .i64 a0_1,.int .i64 a0_2,.int .i64 a0_3,.int .i64 a0_4,.int .i64 a0_5,.bool a0_6,.string a0_7,.string a0_8,.bool a0_9,.string a0_10,.string a0_11,.slice A0_12 l0_12.length c0_12,.slice A0_13 l0_13.length c0_13,.slice A0_14 l0_14.length c0_14]) (t:=37) ?hr ?_;(case hd=>rfl);(case hg=>rfl);(case hr=>first|(go_simp;done)|(go_simp;rfl));intro g_a hg w6 hbox hb;have B_a:=am (hbox);have W_a:=am ((q48:w.heap.size≤g_a));have E_a:=am ((q48:w.heap.size≤g_a));replace HB:=am (zab q2 hb);clear hb hbox hg)|((with_reducible refine zbr (N:=3) rfl ?_);refine zbq ?hg (N:=3) ?hd (cs:=#[.int .i64 a1_0,.int .i64 a1_1,.int .i64 a1_2,.int .i64 a1_3,.int .i64 a1_4,.int .i64 a1_5,.bool a1_6,.string a1_7,.string a1_8,.bool a1_9,.string a1_10,.string a1_11,.slice A1_12 l1_12.length c1_12,.slice A1_13 l1_13.length c1_13,.slice A1_14 l1_14.length c1_14]) (t:=37) ?hr ?_;(case hd=>rfl);(case hg=>rfl);(case hr=>first|(go_simp;done)|(go_simp;rfl));intro g_b hg w7 hbox hb;have B_b:=am (hbox);have W_b:=am ((q49:w.heap.size≤g_b));have E_b:=am ((q49:w.heap.size≤g_b));have N_a_b:=am ((q50:g_a≠g_b));have N_b_a:=am ((q51:g_b≠g_a));replace B_a:=am (zaf q1 hb);replace HB:=am (zab q3 hb);clear hb hbox hg;have hnb8:=N_a_b.out;have hnc8:=N_b_a.out;obtain ⟨c_a0,c_a1,c_a2,c_a3,c_a4,c_a5,c_a6,c_a7,c_a8,c_a9,c_a10,c_a11,c_a12,c_a13,c_a14⟩:=cs15 B_a.out;obtain ⟨f_a0,f_a1,f_a2,f_a3,f_a4,f_a5,f_a6,f_a7,f_a8,f_a9,f_a10,f_a11,f_a12,f_a13,f_a14⟩:=fs15 B_a.out;obtain ⟨c_b0,c_b1,c_b2,c_b3,c_b4,c_b5,c_b6,c_b7,c_b8,c_b9,c_b10,c_b11,c_b12,c_b13,c_b14⟩:=cs15 B_b.out;obtain ⟨f_b0,f_b1,f_b2,f_b3,f_b4,f_b5,f_b6,f_b7,f_b8,f_b9,f_b10,f_b11,f_b12,f_b13,f_b14⟩:=fs15 B_b.out)|((with_reducible refine zan (f:=32) rfl ?_);refine goesL_ (some 9) rfl rfl Tryd.func32 (by kernel_rfl) rfl #[.agg #[.int .i64 a0_0,.int .i64 a0_1,.int .i64 a0_2,.int .i64 a0_3,.int .i64 a0_4,.int .i64 a0_5,.bool a0_6,.string a0_7,.string a0_8,.bool a0_9,.string a0_10,.string a0_11,.slice A0_12 l0_12.length c0_12,.slice A0_13 l0_13.length c0_13],.agg #[.int .i64 a1_0,.int .i64 a1_1,.int .i64 a1_2,.int .i64 a1_3,.int .i64 a1_4,.int .i64 a1_5,.bool a1_6,.string a1_7,.string a1_8,.bool a1_9,.string a1_10,.string a1_11,.slice A1_12 l1_12.length c1_12,.slice A1_13 l1_13.length c1_13]] rfl q4 ?_;(with_reducible refine (za2.calls k a0_0 a0_1 a0_2 a0_3 a0_4 a0_5 a0_6 a0_7 a0_8 a0_9 a0_10 a0_11 _ _ l0_12 _ _ l0_13 a1_0 a1_1 a1_2 a1_3 a1_4 a1_5 a1_6 a1_7 a1_8 a1_9 a1_10 a1_11 _ _ l1_12 _ _ l1_13 true _ ?side1 ?side2 ?side3 ?side4 ?side5 ?side6 ?side7 ?side8 A3.out).mono ?_);(case side1=>repeat (first|exact (Kd.zc6 HR0_12.out HB.out)|(with_reducible refine Kd.zbv ?_ _)|(with_reducible refine Kd.zbw ?_ _)|(with_reducible refine Kd.zc8 ?_)));(case side2=>exact HC0_12.out);(case side3=>repeat (first|exact (Kd.zc6 HR0_13.out HB.out)|(with_reducible refine Kd.zbv ?_ _)|(with_reducible refine Kd.zbw ?_ _)|(with_reducible refine Kd.zc8 ?_)));(case side4=>exact HC0_13.out);(case side5=>repeat (first|exact (Kd.zc6 HR1_12.out HB.out)|(with_reducible refine Kd.zbv ?_ _)|(with_reducible refine Kd.zbw ?_ _)|(with_reducible refine Kd.zc8 ?_)));(case side6=>exact HC1_12.out);(case side7=>repeat (first|exact (Kd.zc6 HR1_13.out HB.out)|(with_reducible refine Kd.zbv ?_ _)|(with_reducible refine Kd.zbw ?_ _)|(with_reducible refine Kd.zc8 ?_)));(case side8=>exact HC1_13.out);rintro e w11 ⟨rfl,hb⟩;refine ⟨_,rfl,?_⟩;replace B_a:=am (zaf q1 hb);replace B_b:=am (zaf q7 hb);replace HB:=am (zab q6 hb);(try clear hb);(try clear hb2);(try clear hk);(try clear hi);obtain ⟨c_c0,c_c1,c_c2,c_c3,c_c4,c_c5,c_c6,c_c7,c_c8,c_c9,c_c10,c_c11,c_c12,c_c13,c_c14⟩:=cs15 B_a.out;obtain ⟨f_c0,f_c1,f_c2,f_c3,f_c4,f_c5,f_c6,f_c7,f_c8,f_c9,f_c10,f_c11,f_c12,f_c13,f_c14⟩:=fs15 B_a.out;obtain ⟨c_d0,c_d1,c_d2,c_d3,c_d4,c_d5,c_d6,c_d7,c_d8,c_d9,c_d10,c_d11,c_d12,c_d13,c_d14⟩:=cs15 B_b.out;obtain ⟨f_d0,f_d1,f_d2,f_d3,f_d4,f_d5,f_d6,f_d7,f_d8,f_d9,f_d10,f_d11,f_d12,f_d13,f_d14⟩:=fs15 B_b.out)|(go_at_call 33;(with_reducible refine (zaq.calls k _ _ l0_14 _ _ l1_14 t883 _ ?side1 ?side2 ?side3 ?side4 A5.out).mono ?_);(case side1=>repeat (first|exact (Kd.zc6 HR0_14.out HB.out)|(with_reducible refine Kd.zbv ?_ _)|(with_reducible refine Kd.zbw ?_ _)|(with_reducible refine Kd.zc8 ?_)));(case side2=>exact HC0_14.out);(case side3=>repeat (first|exact (Kd.zc6 HR1_14.out HB.out)|(with_reducible refine Kd.zbv ?_ _)|(with_reducible refine Kd.zbw ?_ _)|(with_reducible refine Kd.zc8 ?_)));(case side4=>exact HC1_14.out);rintro e w' ⟨rfl,⟨nd,rfl⟩⟩))
  go_ret;exact ⟨q8,q6⟩
 ·replace c4:=Bool.eq_false_iff.mpr c4
  subst c4
  have H1:(some false)=some r:=by rw [if_neg (show ¬ (false=true) by decide)] at H;exact H
  clear H;have H:=H1;clear H1;obtain rfl:=Option.some.inj H;go_enter Tryd.func20,Tryd.ntmps20
  go_wp2_with (first|((with_reducible refine zbr (N:=2) rfl ?_);refine zbq ?hg (N:=2) ?hd (cs:=#[.int .i64 a0_0,.int .i64 a0_1,.int .i64 a0_2,.int .i64 a0_3,.int .i64 a0_4,.int .i64 a0_5,.bool a0_6,.string a0_7,.string a0_8,.bool a0_9,.string a0_10,.string a0_11,.slice A0_12 l0_12.length c0_12,.slice A0_13 l0_13.length c0_13,.slice A0_14 l0_14.length c0_14]) (t:=37) ?hr ?_;(case hd=>rfl);(case hg=>rfl);(case hr=>first|(go_simp;done)|(go_simp;rfl));intro g_a hg w14 hbox hb;have B_a:=am (hbox);have W_a:=am ((q48:w.heap.size≤g_a));have E_a:=am ((q48:w.heap.size≤g_a));replace HB:=am (zab q2 hb);clear hb hbox hg)|((with_reducible refine zbr (N:=3) rfl ?_);refine zbq ?hg (N:=3) ?hd (cs:=#[.int .i64 a1_0,.int .i64 a1_1,.int .i64 a1_2,.int .i64 a1_3,.int .i64 a1_4,.int .i64 a1_5,.bool a1_6,.string a1_7,.string a1_8,.bool a1_9,.string a1_10,.string a1_11,.slice A1_12 l1_12.length c1_12,.slice A1_13 l1_13.length c1_13,.slice A1_14 l1_14.length c1_14]) (t:=37) ?hr ?_;(case hd=>rfl);(case hg=>rfl);(case hr=>first|(go_simp;done)|(go_simp;rfl));intro g_b hg w15 hbox hb;have B_b:=am (hbox);have W_b:=am ((q49:w.heap.size≤g_b));have E_b:=am ((q49:w.heap.size≤g_b));have N_a_b:=am ((q50:g_a≠g_b));have N_b_a:=am ((q51:g_b≠g_a));replace B_a:=am (zaf q1 hb);replace HB:=am (zab q3 hb);clear hb hbox hg;have hnb16:=N_a_b.out;have hnc16:=N_b_a.out;obtain ⟨c_e0,c_e1,c_e2,c_e3,c_e4,c_e5,c_e6,c_e7,c_e8,c_e9,c_e10,c_e11,c_e12,c_e13,c_e14⟩:=cs15 B_a.out;obtain ⟨f_e0,f_e1,f_e2,f_e3,f_e4,f_e5,f_e6,f_e7,f_e8,f_e9,f_e10,f_e11,f_e12,f_e13,f_e14⟩:=fs15 B_a.out;obtain ⟨c_f0,c_f1,c_f2,c_f3,c_f4,c_f5,c_f6,c_f7,c_f8,c_f9,c_f10,c_f11,c_f12,c_f13,c_f14⟩:=cs15 B_b.out;obtain ⟨f_f0,f_f1,f_f2,f_f3,f_f4,f_f5,f_f6,f_f7,f_f8,f_f9,f_f10,f_f11,f_f12,f_f13,f_f14⟩:=fs15 B_b.out)|((with_reducible refine zan (f:=32) rfl ?_);refine goesL_ (some 9) rfl rfl Tryd.func32 (by kernel_rfl) rfl #[.agg #[.int .i64 a0_0,.int .i64 a0_1,.int .i64 a0_2,.int .i64 a0_3,.int .i64 a0_4,.int .i64 a0_5,.bool a0_6,.string a0_7,.string a0_8,.bool a0_9,.string a0_10,.string a0_11,.slice A0_12 l0_12.length c0_12,.slice A0_13 l0_13.length c0_13],.agg #[.int .i64 a1_0,.int .i64 a1_1,.int .i64 a1_2,.int .i64 a1_3,.int .i64 a1_4,.int .i64 a1_5,.bool a1_6,.string a1_7,.string a1_8,.bool a1_9,.string a1_10,.string a1_11,.slice A1_12 l1_12.length c1_12,.slice A1_13 l1_13.length c1_13]] rfl q4 ?_;(with_reducible refine (za2.calls k a0_0 a0_1 a0_2 a0_3 a0_4 a0_5 a0_6 a0_7 a0_8 a0_9 a0_10 a0_11 _ _ l0_12 _ _ l0_13 a1_0 a1_1 a1_2 a1_3 a1_4 a1_5 a1_6 a1_7 a1_8 a1_9 a1_10 a1_11 _ _ l1_12 _ _ l1_13 false _ ?side1 ?side2 ?side3 ?side4 ?side5 ?side6 ?side7 ?side8 A3.out).mono ?_);(case side1=>repeat (first|exact (Kd.zc6 HR0_12.out HB.out)|(with_reducible refine Kd.zbv ?_ _)|(with_reducible refine Kd.zbw ?_ _)|(with_reducible refine Kd.zc8 ?_)));(case side2=>exact HC0_12.out);(case side3=>repeat (first|exact (Kd.zc6 HR0_13.out HB.out)|(with_reducible refine Kd.zbv ?_ _)|(with_reducible refine Kd.zbw ?_ _)|(with_reducible refine Kd.zc8 ?_)));(case side4=>exact HC0_13.out);(case side5=>repeat (first|exact (Kd.zc6 HR1_12.out HB.out)|(with_reducible refine Kd.zbv ?_ _)|(with_reducible refine Kd.zbw ?_ _)|(with_reducible refine Kd.zc8 ?_)));(case side6=>exact HC1_12.out);(case side7=>repeat (first|exact (Kd.zc6 HR1_13.out HB.out)|(with_reducible refine Kd.zbv ?_ _)|(with_reducible refine Kd.zbw ?_ _)|(with_reducible refine Kd.zc8 ?_)));(case side8=>exact HC1_13.out);rintro e w19 ⟨rfl,hb⟩;refine ⟨_,rfl,?_⟩;replace B_a:=am (zaf q1 hb);replace B_b:=am (zaf q7 hb);replace HB:=am (zab q6 hb);(try clear hb);(try clear hb2);(try clear hk);(try clear hi)))
  go_ret;exact ⟨q8,q6⟩
def zcc.f (k:Nat) (a0_0:Int) (a0_1:Int) (a0_2:Int) (a0_3:Int) (a0_4:Int) (a0_5:Int) (a1_0:Int) (a1_1:Int) (l2:List (S72)) (l3:List (S40)) (l4:List (S73)):Option (Bool):=(za5.f k a0_0 a0_1 a0_2 a0_3 a0_4 a0_5 a1_0 a1_1 l2 l3 l4).bind fun bt1041=>((zcb.f k bt1041.1 bt1041.2.1 bt1041.2.2.1 bt1041.2.2.2.1 bt1041.2.2.2.2.1 bt1041.2.2.2.2.2.1 bt1041.2.2.2.2.2.2.1 bt1041.2.2.2.2.2.2.2.1 bt1041.2.2.2.2.2.2.2.2.1 bt1041.2.2.2.2.2.2.2.2.2.1 bt1041.2.2.2.2.2.2.2.2.2.2.1 bt1041.2.2.2.2.2.2.2.2.2.2.2.1 bt1041.2.2.2.2.2.2.2.2.2.2.2.2.1 bt1041.2.2.2.2.2.2.2.2.2.2.2.2.2.1 bt1041.2.2.2.2.2.2.2.2.2.2.2.2.2.2).bind fun bt1063=>((zb8.f k bt1063.1).bind fun bt1067=>((zb4.f k).bind fun t1090=>(if t1090=true then (if bt1063.2=0 then (if bt1067.2.2.2.2.2.2.2.2.2.2.2.2.2.2.2=0 then ((zbl.f k bt1041.1 bt1041.2.1 bt1041.2.2.1 bt1041.2.2.2.1 bt1041.2.2.2.2.1 bt1041.2.2.2.2.2.1 bt1041.2.2.2.2.2.2.1 bt1041.2.2.2.2.2.2.2.1 bt1041.2.2.2.2.2.2.2.2.1 bt1041.2.2.2.2.2.2.2.2.2.1 bt1041.2.2.2.2.2.2.2.2.2.2.1 bt1041.2.2.2.2.2.2.2.2.2.2.2.1 bt1041.2.2.2.2.2.2.2.2.2.2.2.2.1 bt1041.2.2.2.2.2.2.2.2.2.2.2.2.2.1 bt1041.2.2.2.2.2.2.2.2.2.2.2.2.2.2 bt1067.1 bt1067.2.1 bt1067.2.2.1 bt1067.2.2.2.1 bt1067.2.2.2.2.1 bt1067.2.2.2.2.2.1 bt1067.2.2.2.2.2.2.1 bt1067.2.2.2.2.2.2.2.1 bt1067.2.2.2.2.2.2.2.2.1 bt1067.2.2.2.2.2.2.2.2.2.1 bt1067.2.2.2.2.2.2.2.2.2.2.1 bt1067.2.2.2.2.2.2.2.2.2.2.2.1 bt1067.2.2.2.2.2.2.2.2.2.2.2.2.1 bt1067.2.2.2.2.2.2.2.2.2.2.2.2.2.1 bt1067.2.2.2.2.2.2.2.2.2.2.2.2.2.2.1).bind fun t1091=>(some t1091)) else (none)) else (none)) else (none)))))
theorem zcc.mono:∀ a0 a1 a2 a3 a4 a5 a6 a7 a8 a9 a10 k,LeO (zcc.f k a0 a1 a2 a3 a4 a5 a6 a7 a8 a9 a10) (zcc.f (k+1) a0 a1 a2 a3 a4 a5 a6 a7 a8 a9 a10):=by
 intro a0 a1 a2 a3 a4 a5 a6 a7 a8 a9 a10 k;unfold zcc.f
 repeat' first
  | (with_reducible exact zb8.mono _ _)
  | (with_reducible exact zcb.mono _ _ _ _ _ _ _ _ _ _ _ _ _ _ _ _)
  | (with_reducible exact za5.mono _ _ _ _ _ _ _ _ _ _ _ _)
  | (with_reducible exact zb4.mono _)
  | (with_reducible exact zbl.mono _ _ _ _ _ _ _ _ _ _ _ _ _ _ _ _ _ _ _ _ _ _ _ _ _ _ _ _ _ _ _)
  | (with_reducible exact LeO.refl _)
  | (with_reducible exact LeO.none _)
  | (with_reducible refine LeO.ite ?_ ?_)
  | (with_reducible refine LeO.bind ?_ (fun _=>?_))
  | exact zb8.mono _ _
  | exact zcb.mono _ _ _ _ _ _ _ _ _ _ _ _ _ _ _ _
  | exact za5.mono _ _ _ _ _ _ _ _ _ _ _ _
  | exact zb4.mono _
  | exact zbl.mono _ _ _ _ _ _ _ _ _ _ _ _ _ _ _ _ _ _ _ _ _ _ _ _ _ _ _ _ _ _ _
  | exact LeO.none _
  | refine LeO.ite ?_ ?_
  | refine LeO.bind ?_ (fun _=>?_)
set_option maxHeartbeats 8000000 in
set_option maxRecDepth 100000 in
theorem zcc.calls (k:Nat) (a0_0:Int) (a0_1:Int) (a0_2:Int) (a0_3:Int) (a0_4:Int) (a0_5:Int) (a1_0:Int) (a1_1:Int) (A2:Option Addr) (c2:Nat) (l2:List (S72)) (A3:Option Addr) (c3:Nat) (l3:List (S40)) (A4:Option Addr) (c4:Nat) (l4:List (S73)) (r:Bool) (w:World) (hr2:Kd.C k72 w A2 l2.length l2) (hc2:l2.length≤c2) (hr3:Kd.C k40 w A3 l3.length l3) (hc3:l3.length≤c3) (hr4:Kd.C k73 w A4 l4.length l4) (hc4:l4.length≤c4) (h:zcc.f k a0_0 a0_1 a0_2 a0_3 a0_4 a0_5 a1_0 a1_1 l2 l3 l4=some r) :
 Calls Tryd.prog 9 #[.agg #[.int .i16 a0_0,.int .i16 a0_1,.int .i16 a0_2,.int .i16 a0_3,.int .i16 a0_4,.int .i16 a0_5],.agg #[.int .u16 a1_0,.int .u16 a1_1],.slice A2 l2.length c2,.slice A3 l3.length c3,.slice A4 l4.length c4] w fun e w'=>e = .returned (.bool r)∧Below w.heap.size w w':=by
 have hu39:=Tryd.underlying39;have hu40:=Tryd.underlying40;have hu37:=Tryd.underlying37;have HR2:=za1.mk hr2;have HC2:=za1.mk hc2;clear hr2 hc2;have HR3:=za1.mk hr3;have HC3:=za1.mk hc3;clear hr3 hc3;have HR4:=za1.mk hr4;have HC4:=za1.mk hc4;clear hr4 hc4;have HB:=am (Below.refl w.heap.size w);have H:((za5.f k a0_0 a0_1 a0_2 a0_3 a0_4 a0_5 a1_0 a1_1 l2 l3 l4).bind fun bt1041=>((zcb.f k bt1041.1 bt1041.2.1 bt1041.2.2.1 bt1041.2.2.2.1 bt1041.2.2.2.2.1 bt1041.2.2.2.2.2.1 bt1041.2.2.2.2.2.2.1 bt1041.2.2.2.2.2.2.2.1 bt1041.2.2.2.2.2.2.2.2.1 bt1041.2.2.2.2.2.2.2.2.2.1 bt1041.2.2.2.2.2.2.2.2.2.2.1 bt1041.2.2.2.2.2.2.2.2.2.2.2.1 bt1041.2.2.2.2.2.2.2.2.2.2.2.2.1 bt1041.2.2.2.2.2.2.2.2.2.2.2.2.2.1 bt1041.2.2.2.2.2.2.2.2.2.2.2.2.2.2).bind fun bt1063=>((zb8.f k bt1063.1).bind fun bt1067=>((zb4.f k).bind fun t1090=>(if t1090=true then (if bt1063.2=0 then (if bt1067.2.2.2.2.2.2.2.2.2.2.2.2.2.2.2=0 then ((zbl.f k bt1041.1 bt1041.2.1 bt1041.2.2.1 bt1041.2.2.2.1 bt1041.2.2.2.2.1 bt1041.2.2.2.2.2.1 bt1041.2.2.2.2.2.2.1 bt1041.2.2.2.2.2.2.2.1 bt1041.2.2.2.2.2.2.2.2.1 bt1041.2.2.2.2.2.2.2.2.2.1 bt1041.2.2.2.2.2.2.2.2.2.2.1 bt1041.2.2.2.2.2.2.2.2.2.2.2.1 bt1041.2.2.2.2.2.2.2.2.2.2.2.2.1 bt1041.2.2.2.2.2.2.2.2.2.2.2.2.2.1 bt1041.2.2.2.2.2.2.2.2.2.2.2.2.2.2 bt1067.1 bt1067.2.1 bt1067.2.2.1 bt1067.2.2.2.1 bt1067.2.2.2.2.1 bt1067.2.2.2.2.2.1 bt1067.2.2.2.2.2.2.1 bt1067.2.2.2.2.2.2.2.1 bt1067.2.2.2.2.2.2.2.2.1 bt1067.2.2.2.2.2.2.2.2.2.1 bt1067.2.2.2.2.2.2.2.2.2.2.1 bt1067.2.2.2.2.2.2.2.2.2.2.2.1 bt1067.2.2.2.2.2.2.2.2.2.2.2.2.1 bt1067.2.2.2.2.2.2.2.2.2.2.2.2.2.1 bt1067.2.2.2.2.2.2.2.2.2.2.2.2.2.2.1).bind fun t1091=>(some t1091)) else (none)) else (none)) else (none))))))=some r:=h;clear h;replace H:=Option.bind_eq_some_iff.mp H;obtain ⟨⟨t1041,t1042,t1043,t1044,t1045,t1046,t1047,t1048,t1049,t1050,t1051,t1052,t1053,t1056,t1059⟩,A60,H⟩:=H;replace H:((zcb.f k t1041 t1042 t1043 t1044 t1045 t1046 t1047 t1048 t1049 t1050 t1051 t1052 t1053 t1056 t1059).bind fun bt1063=>((zb8.f k bt1063.1).bind fun bt1067=>((zb4.f k).bind fun t1090=>(if t1090=true then (if bt1063.2=0 then (if bt1067.2.2.2.2.2.2.2.2.2.2.2.2.2.2.2=0 then ((zbl.f k t1041 t1042 t1043 t1044 t1045 t1046 t1047 t1048 t1049 t1050 t1051 t1052 t1053 t1056 t1059 bt1067.1 bt1067.2.1 bt1067.2.2.1 bt1067.2.2.2.1 bt1067.2.2.2.2.1 bt1067.2.2.2.2.2.1 bt1067.2.2.2.2.2.2.1 bt1067.2.2.2.2.2.2.2.1 bt1067.2.2.2.2.2.2.2.2.1 bt1067.2.2.2.2.2.2.2.2.2.1 bt1067.2.2.2.2.2.2.2.2.2.2.1 bt1067.2.2.2.2.2.2.2.2.2.2.2.1 bt1067.2.2.2.2.2.2.2.2.2.2.2.2.1 bt1067.2.2.2.2.2.2.2.2.2.2.2.2.2.1 bt1067.2.2.2.2.2.2.2.2.2.2.2.2.2.2.1).bind fun t1091=>(some t1091)) else (none)) else (none)) else (none)))))=some r:=H;have A6:=za1.mk A60;clear A60;replace H:=Option.bind_eq_some_iff.mp H;obtain ⟨⟨t1063,t1066⟩,A70,H⟩:=H;replace H:((zb8.f k t1063).bind fun bt1067=>((zb4.f k).bind fun t1090=>(if t1090=true then (if t1066=0 then (if bt1067.2.2.2.2.2.2.2.2.2.2.2.2.2.2.2=0 then ((zbl.f k t1041 t1042 t1043 t1044 t1045 t1046 t1047 t1048 t1049 t1050 t1051 t1052 t1053 t1056 t1059 bt1067.1 bt1067.2.1 bt1067.2.2.1 bt1067.2.2.2.1 bt1067.2.2.2.2.1 bt1067.2.2.2.2.2.1 bt1067.2.2.2.2.2.2.1 bt1067.2.2.2.2.2.2.2.1 bt1067.2.2.2.2.2.2.2.2.1 bt1067.2.2.2.2.2.2.2.2.2.1 bt1067.2.2.2.2.2.2.2.2.2.2.1 bt1067.2.2.2.2.2.2.2.2.2.2.2.1 bt1067.2.2.2.2.2.2.2.2.2.2.2.2.1 bt1067.2.2.2.2.2.2.2.2.2.2.2.2.2.1 bt1067.2.2.2.2.2.2.2.2.2.2.2.2.2.2.1).bind fun t1091=>(some t1091)) else (none)) else (none)) else (none))))=some r:=H;have A7:=za1.mk A70;clear A70;replace H:=Option.bind_eq_some_iff.mp H;obtain ⟨⟨t1067,t1068,t1069,t1070,t1071,t1072,t1073,t1074,t1075,t1076,t1077,t1078,t1079,t1082,t1085,t1088⟩,A80,H⟩:=H;replace H:((zb4.f k).bind fun t1090=>(if t1090=true then (if t1066=0 then (if t1088=0 then ((zbl.f k t1041 t1042 t1043 t1044 t1045 t1046 t1047 t1048 t1049 t1050 t1051 t1052 t1053 t1056 t1059 t1067 t1068 t1069 t1070 t1071 t1072 t1073 t1074 t1075 t1076 t1077 t1078 t1079 t1082 t1085).bind fun t1091=>(some t1091)) else (none)) else (none)) else (none)))=some r:=H;have A8:=za1.mk A80;clear A80;replace H:=Option.bind_eq_some_iff.mp H;obtain ⟨t1090,A90,H⟩:=H;replace H:(if t1090=true then (if t1066=0 then (if t1088=0 then ((zbl.f k t1041 t1042 t1043 t1044 t1045 t1046 t1047 t1048 t1049 t1050 t1051 t1052 t1053 t1056 t1059 t1067 t1068 t1069 t1070 t1071 t1072 t1073 t1074 t1075 t1076 t1077 t1078 t1079 t1082 t1085).bind fun t1091=>(some t1091)) else (none)) else (none)) else (none))=some r:=H;have A9:=za1.mk A90;clear A90
 by_cases c10:t1090=true
 ·subst c10
  have H1:(if t1066=0 then (if t1088=0 then ((zbl.f k t1041 t1042 t1043 t1044 t1045 t1046 t1047 t1048 t1049 t1050 t1051 t1052 t1053 t1056 t1059 t1067 t1068 t1069 t1070 t1071 t1072 t1073 t1074 t1075 t1076 t1077 t1078 t1079 t1082 t1085).bind fun t1091=>(some t1091)) else (none)) else (none))=some r:=by rw [if_pos rfl] at H;exact H
  clear H;have H:=H1;clear H1
  by_cases c11:t1066=0
  ·rw [if_pos c11] at H
   have c11b0:(t1066 == 0)=true:=beq_iff_eq.mpr c11;have c11b1:(t1066 != 0)=false:=bne_eq_false_iff_eq.mpr c11;clear c11
   by_cases c12:t1088=0
   ·rw [if_pos c12] at H
    have c12b0:(t1088 == 0)=true:=beq_iff_eq.mpr c12;have c12b1:(t1088 != 0)=false:=bne_eq_false_iff_eq.mpr c12;clear c12;replace H:=Option.bind_eq_some_iff.mp H;obtain ⟨t1091,A130,H⟩:=H;replace H:(some t1091)=some r:=H;have A13:=za1.mk A130;clear A130;obtain rfl:=Option.some.inj H;go_enter Tryd.func9,Tryd.ntmps9
    go_wp2_with (first|((with_reducible refine zbr (N:=5) rfl ?_);refine zbq ?hg (N:=5) ?hd (cs:=#[.int .i16 a0_0,.int .i16 a0_1,.int .i16 a0_2,.int .i16 a0_3,.int .i16 a0_4,.int .i16 a0_5]) (t:=39) ?hr ?_;(case hd=>rfl);(case hg=>rfl);(case hr=>first|(go_simp;done)|(go_simp;rfl));intro g_a hg w14 hbox hb;have B_a:=am (hbox);have W_a:=am ((q48:w.heap.size≤g_a));have E_a:=am ((q48:w.heap.size≤g_a));replace HB:=am (zab q2 hb);clear hb hbox hg)|((with_reducible refine zbr (N:=6) rfl ?_);refine zbq ?hg (N:=6) ?hd (cs:=#[.int .u16 a1_0,.int .u16 a1_1]) (t:=40) ?hr ?_;(case hd=>rfl);(case hg=>rfl);(case hr=>first|(go_simp;done)|(go_simp;rfl));intro g_b hg w15 hbox hb;have B_b:=am (hbox);have W_b:=am ((q49:w.heap.size≤g_b));have E_b:=am ((q49:w.heap.size≤g_b));have N_a_b:=am ((q50:g_a≠g_b));have N_b_a:=am ((q51:g_b≠g_a));replace B_a:=am (zaf q1 hb);replace HB:=am (zab q3 hb);clear hb hbox hg;have hnb16:=N_a_b.out;have hnc16:=N_b_a.out;obtain ⟨c_a0,c_a1,c_a2,c_a3,c_a4,c_a5⟩:=cs6 B_a.out;obtain ⟨f_a0,f_a1,f_a2,f_a3,f_a4,f_a5⟩:=fs6 B_a.out;obtain ⟨c_b0,c_b1⟩:=cs2 B_b.out;obtain ⟨f_b0,f_b1⟩:=fs2 B_b.out)|((with_reducible refine zan (f:=15) rfl ?_);refine goesL_ (some 21) rfl rfl Tryd.func15 (by kernel_rfl) rfl #[.agg #[.int .i16 a0_0,.int .i16 a0_1,.int .i16 a0_2,.int .i16 a0_3,.int .i16 a0_4,.int .i16 a0_5],.agg #[.int .u16 a1_0,.int .u16 a1_1],.slice A2 l2.length c2,.slice A3 l3.length c3,.slice A4 l4.length c4] rfl q4 ?_;(with_reducible refine (za5.calls k a0_0 a0_1 a0_2 a0_3 a0_4 a0_5 a1_0 a1_1 _ _ l2 _ _ l3 _ _ l4 t1041 t1042 t1043 t1044 t1045 t1046 t1047 t1048 t1049 t1050 t1051 t1052 t1053 t1056 t1059 _ ?side1 ?side2 ?side3 ?side4 ?side5 ?side6 A6.out).mono ?_);(case side1=>repeat (first|exact (Kd.zc6 HR2.out HB.out)|(with_reducible refine Kd.zbv ?_ _)|(with_reducible refine Kd.zbw ?_ _)|(with_reducible refine Kd.zc8 ?_)));(case side2=>exact HC2.out);(case side3=>repeat (first|exact (Kd.zc6 HR3.out HB.out)|(with_reducible refine Kd.zbv ?_ _)|(with_reducible refine Kd.zbw ?_ _)|(with_reducible refine Kd.zc8 ?_)));(case side4=>exact HC3.out);(case side5=>repeat (first|exact (Kd.zc6 HR4.out HB.out)|(with_reducible refine Kd.zbv ?_ _)|(with_reducible refine Kd.zbw ?_ _)|(with_reducible refine Kd.zc8 ?_)));(case side6=>exact HC4.out);rintro e w19 ⟨v1054,v1057,v1060,rfl,ho0,ho1,ho2,hb⟩;refine ⟨_,rfl,?_⟩;have HO1055:=am (Kd.zc9 ho0 (zbb q6));have HO1058:=am (Kd.zc9 ho1 (zbb q6));have HO1061:=am (Kd.zc9 ho2 (zbb q6));replace B_a:=am (zaf q1 hb);replace B_b:=am (zaf q7 hb);replace HB:=am (zab q6 hb);(try clear hb);(try clear hb2);(try clear hk);(try clear hi);(try clear ho0);(try clear ho1);(try clear ho2))|((with_reducible refine zbr (N:=11) rfl ?_);refine zbq ?hg (N:=11) ?hd (cs:=#[.int .i64 0,.int .i64 0,.int .i64 0,.int .i64 0,.int .i64 0,.int .i64 0,.bool false,.string (⟨#[]⟩:ByteArray),.string (⟨#[]⟩:ByteArray),.bool false,.string (⟨#[]⟩:ByteArray),.string (⟨#[]⟩:ByteArray),.slice none 0 0,.slice none 0 0,.slice none 0 0]) (t:=37) ?hr ?_;(case hd=>rfl);(case hg=>rfl);(case hr=>first|(go_simp;done)|(go_simp;rfl));intro g_c hg w20 hbox hb;have B_c:=am (hbox);have W_c:=am ((by rw [hg];exact (zbb q6):w.heap.size≤g_c));have E_c:=am ((by rw [hg];exact (zbb q6):w.heap.size≤g_c));have N_a_c:=am ((q50:g_a≠g_c));have N_c_a:=am ((q51:g_c≠g_a));have N_b_c:=am ((by rw [hg];exact Nat.ne_of_lt (zcj q7):g_b≠g_c));have N_c_b:=am ((by rw [hg];exact Nat.ne_of_gt (zcj q7):g_c≠g_b));replace HO1055:=am (Kd.zbx (by (with_reducible repeat (first|apply Kd.zb1|apply Kd.zb2|apply Kd.zb9));exact HO1055.out) hb);replace HO1058:=am (Kd.zbx (by (with_reducible repeat (first|apply Kd.zb1|apply Kd.zb2|apply Kd.zb9));exact HO1058.out) hb);replace HO1061:=am (Kd.zbx (by (with_reducible repeat (first|apply Kd.zb1|apply Kd.zb2|apply Kd.zb9));exact HO1061.out) hb);replace B_a:=am (zaf q1 hb);replace B_b:=am (zaf q7 hb);replace HB:=am (zab q6 hb);clear hb hbox hg;have hnb21:=N_c_a.out;have hnc21:=N_a_c.out;have hnb22:=N_c_b.out;have hnc22:=N_b_c.out;obtain ⟨c_c0,c_c1,c_c2,c_c3,c_c4,c_c5,c_c6,c_c7,c_c8,c_c9,c_c10,c_c11,c_c12,c_c13,c_c14⟩:=cs15 B_c.out;obtain ⟨f_c0,f_c1,f_c2,f_c3,f_c4,f_c5,f_c6,f_c7,f_c8,f_c9,f_c10,f_c11,f_c12,f_c13,f_c14⟩:=fs15 B_c.out;obtain ⟨Ao24,co24,eo24⟩:=Kd.zbn HO1055.out;subst eo24;obtain ⟨Ao25,co25,eo25⟩:=Kd.zbn HO1058.out;subst eo25;obtain ⟨Ao26,co26,eo26⟩:=Kd.zbn HO1061.out;subst eo26)|((with_reducible refine zan (f:=16) rfl ?_);refine goesL_ (some 24) rfl rfl Tryd.func16 (by kernel_rfl) rfl #[.agg #[.int .i64 t1041,.int .i64 t1042,.int .i64 t1043,.int .i64 t1044,.int .i64 t1045,.int .i64 t1046,.bool t1047,.string t1048,.string t1049,.bool t1050,.string t1051,.string t1052,.slice Ao24 t1053.length co24,.slice Ao25 t1056.length co25,.slice Ao26 t1059.length co26]] rfl q4 ?_;(with_reducible refine (zcb.calls k t1041 t1042 t1043 t1044 t1045 t1046 t1047 t1048 t1049 t1050 t1051 t1052 _ _ t1053 _ _ t1056 _ _ t1059 t1063 t1066 _ ?side1 ?side2 ?side3 ?side4 ?side5 ?side6 A7.out).mono ?_);(case side1=>refine (Kd.R_reads' (e:=49) (base:=w.heap.size) (ok:=fun k_=>True) (n:=t1053.length) (c:=co24) ?_).2.2;exact (by (with_reducible repeat (first|apply Kd.zb1|apply Kd.zb2|apply Kd.zb9));exact (Kd.zbm (Kd.zav (p:=⟨g_c,14,none⟩) (Kd.zav (p:=⟨g_c,13,none⟩) (Kd.zav (p:=⟨g_c,12,none⟩) (Kd.zav (p:=⟨g_c,11,none⟩) (Kd.zav (p:=⟨g_c,10,none⟩) (Kd.zav (p:=⟨g_c,9,none⟩) (Kd.zav (p:=⟨g_c,8,none⟩) (Kd.zav (p:=⟨g_c,7,none⟩) (Kd.zav (p:=⟨g_c,6,none⟩) (Kd.zav (p:=⟨g_c,5,none⟩) (Kd.zav (p:=⟨g_c,4,none⟩) (Kd.zav (p:=⟨g_c,3,none⟩) (Kd.zav (p:=⟨g_c,2,none⟩) (Kd.zav (p:=⟨g_c,1,none⟩) (Kd.zav (p:=⟨g_c,0,none⟩) (Kd.zcf HO1055.out B_c.out (by decide)) (fun _ hk=>hk.2) (.int .i64 t1041)) (fun _ hk=>hk.2) (.int .i64 t1042)) (fun _ hk=>hk.2) (.int .i64 t1043)) (fun _ hk=>hk.2) (.int .i64 t1044)) (fun _ hk=>hk.2) (.int .i64 t1045)) (fun _ hk=>hk.2) (.int .i64 t1046)) (fun _ hk=>hk.2) (.bool t1047)) (fun _ hk=>hk.2) (.string t1048)) (fun _ hk=>hk.2) (.string t1049)) (fun _ hk=>hk.2) (.bool t1050)) (fun _ hk=>hk.2) (.string t1051)) (fun _ hk=>hk.2) (.string t1052)) (fun _ hk=>hk.2) (.slice Ao24 t1053.length co24)) (fun _ hk=>hk.2) (.slice Ao25 t1056.length co25)) (fun _ hk=>hk.2) (.slice Ao26 t1059.length co26)) (fun _ h_=>h_.1))));(case side2=>exact (Kd.R_reads' HO1055.out).2.1);(case side3=>refine (Kd.R_reads' (e:=51) (base:=w.heap.size) (ok:=fun k_=>True) (n:=t1056.length) (c:=co25) ?_).2.2;exact (by (with_reducible repeat (first|apply Kd.zb1|apply Kd.zb2|apply Kd.zb9));exact (Kd.zbm (Kd.zav (p:=⟨g_c,14,none⟩) (Kd.zav (p:=⟨g_c,13,none⟩) (Kd.zav (p:=⟨g_c,12,none⟩) (Kd.zav (p:=⟨g_c,11,none⟩) (Kd.zav (p:=⟨g_c,10,none⟩) (Kd.zav (p:=⟨g_c,9,none⟩) (Kd.zav (p:=⟨g_c,8,none⟩) (Kd.zav (p:=⟨g_c,7,none⟩) (Kd.zav (p:=⟨g_c,6,none⟩) (Kd.zav (p:=⟨g_c,5,none⟩) (Kd.zav (p:=⟨g_c,4,none⟩) (Kd.zav (p:=⟨g_c,3,none⟩) (Kd.zav (p:=⟨g_c,2,none⟩) (Kd.zav (p:=⟨g_c,1,none⟩) (Kd.zav (p:=⟨g_c,0,none⟩) (Kd.zcf HO1058.out B_c.out (by decide)) (fun _ hk=>hk.2) (.int .i64 t1041)) (fun _ hk=>hk.2) (.int .i64 t1042)) (fun _ hk=>hk.2) (.int .i64 t1043)) (fun _ hk=>hk.2) (.int .i64 t1044)) (fun _ hk=>hk.2) (.int .i64 t1045)) (fun _ hk=>hk.2) (.int .i64 t1046)) (fun _ hk=>hk.2) (.bool t1047)) (fun _ hk=>hk.2) (.string t1048)) (fun _ hk=>hk.2) (.string t1049)) (fun _ hk=>hk.2) (.bool t1050)) (fun _ hk=>hk.2) (.string t1051)) (fun _ hk=>hk.2) (.string t1052)) (fun _ hk=>hk.2) (.slice Ao24 t1053.length co24)) (fun _ hk=>hk.2) (.slice Ao25 t1056.length co25)) (fun _ hk=>hk.2) (.slice Ao26 t1059.length co26)) (fun _ h_=>h_.1))));(case side4=>exact (Kd.R_reads' HO1058.out).2.1);(case side5=>refine (Kd.R_reads' (e:=55) (base:=w.heap.size) (ok:=fun k_=>True) (n:=t1059.length) (c:=co26) ?_).2.2;exact (by (with_reducible repeat (first|apply Kd.zb1|apply Kd.zb2|apply Kd.zb9));exact (Kd.zbm (Kd.zav (p:=⟨g_c,14,none⟩) (Kd.zav (p:=⟨g_c,13,none⟩) (Kd.zav (p:=⟨g_c,12,none⟩) (Kd.zav (p:=⟨g_c,11,none⟩) (Kd.zav (p:=⟨g_c,10,none⟩) (Kd.zav (p:=⟨g_c,9,none⟩) (Kd.zav (p:=⟨g_c,8,none⟩) (Kd.zav (p:=⟨g_c,7,none⟩) (Kd.zav (p:=⟨g_c,6,none⟩) (Kd.zav (p:=⟨g_c,5,none⟩) (Kd.zav (p:=⟨g_c,4,none⟩) (Kd.zav (p:=⟨g_c,3,none⟩) (Kd.zav (p:=⟨g_c,2,none⟩) (Kd.zav (p:=⟨g_c,1,none⟩) (Kd.zav (p:=⟨g_c,0,none⟩) (Kd.zcf HO1061.out B_c.out (by decide)) (fun _ hk=>hk.2) (.int .i64 t1041)) (fun _ hk=>hk.2) (.int .i64 t1042)) (fun _ hk=>hk.2) (.int .i64 t1043)) (fun _ hk=>hk.2) (.int .i64 t1044)) (fun _ hk=>hk.2) (.int .i64 t1045)) (fun _ hk=>hk.2) (.int .i64 t1046)) (fun _ hk=>hk.2) (.bool t1047)) (fun _ hk=>hk.2) (.string t1048)) (fun _ hk=>hk.2) (.string t1049)) (fun _ hk=>hk.2) (.bool t1050)) (fun _ hk=>hk.2) (.string t1051)) (fun _ hk=>hk.2) (.string t1052)) (fun _ hk=>hk.2) (.slice Ao24 t1053.length co24)) (fun _ hk=>hk.2) (.slice Ao25 t1056.length co25)) (fun _ hk=>hk.2) (.slice Ao26 t1059.length co26)) (fun _ h_=>h_.1))));(case side6=>exact (Kd.R_reads' HO1061.out).2.1);rintro e w27 ⟨v1064,rfl,ho0,hb⟩;refine ⟨_,rfl,?_⟩;have HO1065:=am (Kd.zc9 ho0 (zbb q12));replace HO1055:=am (Kd.zbx (by (with_reducible repeat (first|apply Kd.zb1|apply Kd.zb2|apply Kd.zb9));exact (Kd.zbm (Kd.zav (p:=⟨g_c,14,none⟩) (Kd.zav (p:=⟨g_c,13,none⟩) (Kd.zav (p:=⟨g_c,12,none⟩) (Kd.zav (p:=⟨g_c,11,none⟩) (Kd.zav (p:=⟨g_c,10,none⟩) (Kd.zav (p:=⟨g_c,9,none⟩) (Kd.zav (p:=⟨g_c,8,none⟩) (Kd.zav (p:=⟨g_c,7,none⟩) (Kd.zav (p:=⟨g_c,6,none⟩) (Kd.zav (p:=⟨g_c,5,none⟩) (Kd.zav (p:=⟨g_c,4,none⟩) (Kd.zav (p:=⟨g_c,3,none⟩) (Kd.zav (p:=⟨g_c,2,none⟩) (Kd.zav (p:=⟨g_c,1,none⟩) (Kd.zav (p:=⟨g_c,0,none⟩) (Kd.zcf HO1055.out B_c.out (by decide)) (fun _ hk=>hk.2) (.int .i64 t1041)) (fun _ hk=>hk.2) (.int .i64 t1042)) (fun _ hk=>hk.2) (.int .i64 t1043)) (fun _ hk=>hk.2) (.int .i64 t1044)) (fun _ hk=>hk.2) (.int .i64 t1045)) (fun _ hk=>hk.2) (.int .i64 t1046)) (fun _ hk=>hk.2) (.bool t1047)) (fun _ hk=>hk.2) (.string t1048)) (fun _ hk=>hk.2) (.string t1049)) (fun _ hk=>hk.2) (.bool t1050)) (fun _ hk=>hk.2) (.string t1051)) (fun _ hk=>hk.2) (.string t1052)) (fun _ hk=>hk.2) (.slice Ao24 t1053.length co24)) (fun _ hk=>hk.2) (.slice Ao25 t1056.length co25)) (fun _ hk=>hk.2) (.slice Ao26 t1059.length co26)) (fun _ h_=>h_.1))) hb);replace HO1058:=am (Kd.zbx (by (with_reducible repeat (first|apply Kd.zb1|apply Kd.zb2|apply Kd.zb9));exact (Kd.zbm (Kd.zav (p:=⟨g_c,14,none⟩) (Kd.zav (p:=⟨g_c,13,none⟩) (Kd.zav (p:=⟨g_c,12,none⟩) (Kd.zav (p:=⟨g_c,11,none⟩) (Kd.zav (p:=⟨g_c,10,none⟩) (Kd.zav (p:=⟨g_c,9,none⟩) (Kd.zav (p:=⟨g_c,8,none⟩) (Kd.zav (p:=⟨g_c,7,none⟩) (Kd.zav (p:=⟨g_c,6,none⟩) (Kd.zav (p:=⟨g_c,5,none⟩) (Kd.zav (p:=⟨g_c,4,none⟩) (Kd.zav (p:=⟨g_c,3,none⟩) (Kd.zav (p:=⟨g_c,2,none⟩) (Kd.zav (p:=⟨g_c,1,none⟩) (Kd.zav (p:=⟨g_c,0,none⟩) (Kd.zcf HO1058.out B_c.out (by decide)) (fun _ hk=>hk.2) (.int .i64 t1041)) (fun _ hk=>hk.2) (.int .i64 t1042)) (fun _ hk=>hk.2) (.int .i64 t1043)) (fun _ hk=>hk.2) (.int .i64 t1044)) (fun _ hk=>hk.2) (.int .i64 t1045)) (fun _ hk=>hk.2) (.int .i64 t1046)) (fun _ hk=>hk.2) (.bool t1047)) (fun _ hk=>hk.2) (.string t1048)) (fun _ hk=>hk.2) (.string t1049)) (fun _ hk=>hk.2) (.bool t1050)) (fun _ hk=>hk.2) (.string t1051)) (fun _ hk=>hk.2) (.string t1052)) (fun _ hk=>hk.2) (.slice Ao24 t1053.length co24)) (fun _ hk=>hk.2) (.slice Ao25 t1056.length co25)) (fun _ hk=>hk.2) (.slice Ao26 t1059.length co26)) (fun _ h_=>h_.1))) hb);replace HO1061:=am (Kd.zbx (by (with_reducible repeat (first|apply Kd.zb1|apply Kd.zb2|apply Kd.zb9));exact (Kd.zbm (Kd.zav (p:=⟨g_c,14,none⟩) (Kd.zav (p:=⟨g_c,13,none⟩) (Kd.zav (p:=⟨g_c,12,none⟩) (Kd.zav (p:=⟨g_c,11,none⟩) (Kd.zav (p:=⟨g_c,10,none⟩) (Kd.zav (p:=⟨g_c,9,none⟩) (Kd.zav (p:=⟨g_c,8,none⟩) (Kd.zav (p:=⟨g_c,7,none⟩) (Kd.zav (p:=⟨g_c,6,none⟩) (Kd.zav (p:=⟨g_c,5,none⟩) (Kd.zav (p:=⟨g_c,4,none⟩) (Kd.zav (p:=⟨g_c,3,none⟩) (Kd.zav (p:=⟨g_c,2,none⟩) (Kd.zav (p:=⟨g_c,1,none⟩) (Kd.zav (p:=⟨g_c,0,none⟩) (Kd.zcf HO1061.out B_c.out (by decide)) (fun _ hk=>hk.2) (.int .i64 t1041)) (fun _ hk=>hk.2) (.int .i64 t1042)) (fun _ hk=>hk.2) (.int .i64 t1043)) (fun _ hk=>hk.2) (.int .i64 t1044)) (fun _ hk=>hk.2) (.int .i64 t1045)) (fun _ hk=>hk.2) (.int .i64 t1046)) (fun _ hk=>hk.2) (.bool t1047)) (fun _ hk=>hk.2) (.string t1048)) (fun _ hk=>hk.2) (.string t1049)) (fun _ hk=>hk.2) (.bool t1050)) (fun _ hk=>hk.2) (.string t1051)) (fun _ hk=>hk.2) (.string t1052)) (fun _ hk=>hk.2) (.slice Ao24 t1053.length co24)) (fun _ hk=>hk.2) (.slice Ao25 t1056.length co25)) (fun _ hk=>hk.2) (.slice Ao26 t1059.length co26)) (fun _ h_=>h_.1))) hb);replace B_a:=am (zaf (g:=g_a) (o:=.cells #[.int .i16 a0_0,.int .i16 a0_1,.int .i16 a0_2,.int .i16 a0_3,.int .i16 a0_4,.int .i16 a0_5] 39 (0,0)) (by (with_reducible repeat (first|refine za4 ?_ _|refine za6 ?_|refine za0 ?_ _));refine zay ?_ N_a_c.out _;(with_reducible repeat (first|refine za4 ?_ _|refine za6 ?_|refine za0 ?_ _));refine zay ?_ N_a_c.out _;(with_reducible repeat (first|refine za4 ?_ _|refine za6 ?_|refine za0 ?_ _));refine zay ?_ N_a_c.out _;(with_reducible repeat (first|refine za4 ?_ _|refine za6 ?_|refine za0 ?_ _));refine zay ?_ N_a_c.out _;(with_reducible repeat (first|refine za4 ?_ _|refine za6 ?_|refine za0 ?_ _));refine zay ?_ N_a_c.out _;(with_reducible repeat (first|refine za4 ?_ _|refine za6 ?_|refine za0 ?_ _));refine zay ?_ N_a_c.out _;(with_reducible repeat (first|refine za4 ?_ _|refine za6 ?_|refine za0 ?_ _));refine zay ?_ N_a_c.out _;(with_reducible repeat (first|refine za4 ?_ _|refine za6 ?_|refine za0 ?_ _));refine zay ?_ N_a_c.out _;(with_reducible repeat (first|refine za4 ?_ _|refine za6 ?_|refine za0 ?_ _));refine zay ?_ N_a_c.out _;(with_reducible repeat (first|refine za4 ?_ _|refine za6 ?_|refine za0 ?_ _));refine zay ?_ N_a_c.out _;(with_reducible repeat (first|refine za4 ?_ _|refine za6 ?_|refine za0 ?_ _));refine zay ?_ N_a_c.out _;(with_reducible repeat (first|refine za4 ?_ _|refine za6 ?_|refine za0 ?_ _));refine zay ?_ N_a_c.out _;(with_reducible repeat (first|refine za4 ?_ _|refine za6 ?_|refine za0 ?_ _));refine zay ?_ N_a_c.out _;(with_reducible repeat (first|refine za4 ?_ _|refine za6 ?_|refine za0 ?_ _));refine zay ?_ N_a_c.out _;(with_reducible repeat (first|refine za4 ?_ _|refine za6 ?_|refine za0 ?_ _));refine zay ?_ N_a_c.out _;(with_reducible repeat (first|refine za4 ?_ _|refine za6 ?_|refine za0 ?_ _));exact B_a.out) hb);replace B_b:=am (zaf (g:=g_b) (o:=.cells #[.int .u16 a1_0,.int .u16 a1_1] 40 (0,0)) (by (with_reducible repeat (first|refine za4 ?_ _|refine za6 ?_|refine za0 ?_ _));refine zay ?_ N_b_c.out _;(with_reducible repeat (first|refine za4 ?_ _|refine za6 ?_|refine za0 ?_ _));refine zay ?_ N_b_c.out _;(with_reducible repeat (first|refine za4 ?_ _|refine za6 ?_|refine za0 ?_ _));refine zay ?_ N_b_c.out _;(with_reducible repeat (first|refine za4 ?_ _|refine za6 ?_|refine za0 ?_ _));refine zay ?_ N_b_c.out _;(with_reducible repeat (first|refine za4 ?_ _|refine za6 ?_|refine za0 ?_ _));refine zay ?_ N_b_c.out _;(with_reducible repeat (first|refine za4 ?_ _|refine za6 ?_|refine za0 ?_ _));refine zay ?_ N_b_c.out _;(with_reducible repeat (first|refine za4 ?_ _|refine za6 ?_|refine za0 ?_ _));refine zay ?_ N_b_c.out _;(with_reducible repeat (first|refine za4 ?_ _|refine za6 ?_|refine za0 ?_ _));refine zay ?_ N_b_c.out _;(with_reducible repeat (first|refine za4 ?_ _|refine za6 ?_|refine za0 ?_ _));refine zay ?_ N_b_c.out _;(with_reducible repeat (first|refine za4 ?_ _|refine za6 ?_|refine za0 ?_ _));refine zay ?_ N_b_c.out _;(with_reducible repeat (first|refine za4 ?_ _|refine za6 ?_|refine za0 ?_ _));refine zay ?_ N_b_c.out _;(with_reducible repeat (first|refine za4 ?_ _|refine za6 ?_|refine za0 ?_ _));refine zay ?_ N_b_c.out _;(with_reducible repeat (first|refine za4 ?_ _|refine za6 ?_|refine za0 ?_ _));refine zay ?_ N_b_c.out _;(with_reducible repeat (first|refine za4 ?_ _|refine za6 ?_|refine za0 ?_ _));refine zay ?_ N_b_c.out _;(with_reducible repeat (first|refine za4 ?_ _|refine za6 ?_|refine za0 ?_ _));refine zay ?_ N_b_c.out _;(with_reducible repeat (first|refine za4 ?_ _|refine za6 ?_|refine za0 ?_ _));exact B_b.out) hb);replace B_c:=am (zaf (g:=g_c) (o:=.cells #[.int .i64 t1041,.int .i64 t1042,.int .i64 t1043,.int .i64 t1044,.int .i64 t1045,.int .i64 t1046,.bool t1047,.string t1048,.string t1049,.bool t1050,.string t1051,.string t1052,.slice Ao24 t1053.length co24,.slice Ao25 t1056.length co25,.slice Ao26 t1059.length co26] 37 (0,0)) (by (with_reducible repeat (first|refine za4 ?_ _|refine za6 ?_|refine za0 ?_ _));refine za9 (cs:=#[.int .i64 t1041,.int .i64 t1042,.int .i64 t1043,.int .i64 t1044,.int .i64 t1045,.int .i64 t1046,.bool t1047,.string t1048,.string t1049,.bool t1050,.string t1051,.string t1052,.slice Ao24 t1053.length co24,.slice Ao25 t1056.length co25,.slice none 0 0]) ?_ 14 _ rfl;(with_reducible repeat (first|refine za4 ?_ _|refine za6 ?_|refine za0 ?_ _));refine za9 (cs:=#[.int .i64 t1041,.int .i64 t1042,.int .i64 t1043,.int .i64 t1044,.int .i64 t1045,.int .i64 t1046,.bool t1047,.string t1048,.string t1049,.bool t1050,.string t1051,.string t1052,.slice Ao24 t1053.length co24,.slice none 0 0,.slice none 0 0]) ?_ 13 _ rfl;(with_reducible repeat (first|refine za4 ?_ _|refine za6 ?_|refine za0 ?_ _));refine za9 (cs:=#[.int .i64 t1041,.int .i64 t1042,.int .i64 t1043,.int .i64 t1044,.int .i64 t1045,.int .i64 t1046,.bool t1047,.string t1048,.string t1049,.bool t1050,.string t1051,.string t1052,.slice none 0 0,.slice none 0 0,.slice none 0 0]) ?_ 12 _ rfl;(with_reducible repeat (first|refine za4 ?_ _|refine za6 ?_|refine za0 ?_ _));refine za9 (cs:=#[.int .i64 t1041,.int .i64 t1042,.int .i64 t1043,.int .i64 t1044,.int .i64 t1045,.int .i64 t1046,.bool t1047,.string t1048,.string t1049,.bool t1050,.string t1051,.string (⟨#[]⟩:ByteArray),.slice none 0 0,.slice none 0 0,.slice none 0 0]) ?_ 11 _ rfl;(with_reducible repeat (first|refine za4 ?_ _|refine za6 ?_|refine za0 ?_ _));refine za9 (cs:=#[.int .i64 t1041,.int .i64 t1042,.int .i64 t1043,.int .i64 t1044,.int .i64 t1045,.int .i64 t1046,.bool t1047,.string t1048,.string t1049,.bool t1050,.string (⟨#[]⟩:ByteArray),.string (⟨#[]⟩:ByteArray),.slice none 0 0,.slice none 0 0,.slice none 0 0]) ?_ 10 _ rfl;(with_reducible repeat (first|refine za4 ?_ _|refine za6 ?_|refine za0 ?_ _));refine za9 (cs:=#[.int .i64 t1041,.int .i64 t1042,.int .i64 t1043,.int .i64 t1044,.int .i64 t1045,.int .i64 t1046,.bool t1047,.string t1048,.string t1049,.bool false,.string (⟨#[]⟩:ByteArray),.string (⟨#[]⟩:ByteArray),.slice none 0 0,.slice none 0 0,.slice none 0 0]) ?_ 9 _ rfl;(with_reducible repeat (first|refine za4 ?_ _|refine za6 ?_|refine za0 ?_ _));refine za9 (cs:=#[.int .i64 t1041,.int .i64 t1042,.int .i64 t1043,.int .i64 t1044,.int .i64 t1045,.int .i64 t1046,.bool t1047,.string t1048,.string (⟨#[]⟩:ByteArray),.bool false,.string (⟨#[]⟩:ByteArray),.string (⟨#[]⟩:ByteArray),.slice none 0 0,.slice none 0 0,.slice none 0 0]) ?_ 8 _ rfl;(with_reducible repeat (first|refine za4 ?_ _|refine za6 ?_|refine za0 ?_ _));refine za9 (cs:=#[.int .i64 t1041,.int .i64 t1042,.int .i64 t1043,.int .i64 t1044,.int .i64 t1045,.int .i64 t1046,.bool t1047,.string (⟨#[]⟩:ByteArray),.string (⟨#[]⟩:ByteArray),.bool false,.string (⟨#[]⟩:ByteArray),.string (⟨#[]⟩:ByteArray),.slice none 0 0,.slice none 0 0,.slice none 0 0]) ?_ 7 _ rfl;(with_reducible repeat (first|refine za4 ?_ _|refine za6 ?_|refine za0 ?_ _));refine za9 (cs:=#[.int .i64 t1041,.int .i64 t1042,.int .i64 t1043,.int .i64 t1044,.int .i64 t1045,.int .i64 t1046,.bool false,.string (⟨#[]⟩:ByteArray),.string (⟨#[]⟩:ByteArray),.bool false,.string (⟨#[]⟩:ByteArray),.string (⟨#[]⟩:ByteArray),.slice none 0 0,.slice none 0 0,.slice none 0 0]) ?_ 6 _ rfl;(with_reducible repeat (first|refine za4 ?_ _|refine za6 ?_|refine za0 ?_ _));refine za9 (cs:=#[.int .i64 t1041,.int .i64 t1042,.int .i64 t1043,.int .i64 t1044,.int .i64 t1045,.int .i64 0,.bool false,.string (⟨#[]⟩:ByteArray),.string (⟨#[]⟩:ByteArray),.bool false,.string (⟨#[]⟩:ByteArray),.string (⟨#[]⟩:ByteArray),.slice none 0 0,.slice none 0 0,.slice none 0 0]) ?_ 5 _ rfl;(with_reducible repeat (first|refine za4 ?_ _|refine za6 ?_|refine za0 ?_ _));refine za9 (cs:=#[.int .i64 t1041,.int .i64 t1042,.int .i64 t1043,.int .i64 t1044,.int .i64 0,.int .i64 0,.bool false,.string (⟨#[]⟩:ByteArray),.string (⟨#[]⟩:ByteArray),.bool false,.string (⟨#[]⟩:ByteArray),.string (⟨#[]⟩:ByteArray),.slice none 0 0,.slice none 0 0,.slice none 0 0]) ?_ 4 _ rfl;(with_reducible repeat (first|refine za4 ?_ _|refine za6 ?_|refine za0 ?_ _));refine za9 (cs:=#[.int .i64 t1041,.int .i64 t1042,.int .i64 t1043,.int .i64 0,.int .i64 0,.int .i64 0,.bool false,.string (⟨#[]⟩:ByteArray),.string (⟨#[]⟩:ByteArray),.bool false,.string (⟨#[]⟩:ByteArray),.string (⟨#[]⟩:ByteArray),.slice none 0 0,.slice none 0 0,.slice none 0 0]) ?_ 3 _ rfl;(with_reducible repeat (first|refine za4 ?_ _|refine za6 ?_|refine za0 ?_ _));refine za9 (cs:=#[.int .i64 t1041,.int .i64 t1042,.int .i64 0,.int .i64 0,.int .i64 0,.int .i64 0,.bool false,.string (⟨#[]⟩:ByteArray),.string (⟨#[]⟩:ByteArray),.bool false,.string (⟨#[]⟩:ByteArray),.string (⟨#[]⟩:ByteArray),.slice none 0 0,.slice none 0 0,.slice none 0 0]) ?_ 2 _ rfl;(with_reducible repeat (first|refine za4 ?_ _|refine za6 ?_|refine za0 ?_ _));refine za9 (cs:=#[.int .i64 t1041,.int .i64 0,.int .i64 0,.int .i64 0,.int .i64 0,.int .i64 0,.bool false,.string (⟨#[]⟩:ByteArray),.string (⟨#[]⟩:ByteArray),.bool false,.string (⟨#[]⟩:ByteArray),.string (⟨#[]⟩:ByteArray),.slice none 0 0,.slice none 0 0,.slice none 0 0]) ?_ 1 _ rfl;(with_reducible repeat (first|refine za4 ?_ _|refine za6 ?_|refine za0 ?_ _));refine za9 (cs:=#[.int .i64 0,.int .i64 0,.int .i64 0,.int .i64 0,.int .i64 0,.int .i64 0,.bool false,.string (⟨#[]⟩:ByteArray),.string (⟨#[]⟩:ByteArray),.bool false,.string (⟨#[]⟩:ByteArray),.string (⟨#[]⟩:ByteArray),.slice none 0 0,.slice none 0 0,.slice none 0 0]) ?_ 0 _ rfl;(with_reducible repeat (first|refine za4 ?_ _|refine za6 ?_|refine za0 ?_ _));exact B_c.out) hb);replace HB:=am (zab q12 hb);(try clear hb);(try clear hb2);(try clear hk);(try clear hi);(try clear ho0);obtain ⟨Ao28,co28,eo28⟩:=Kd.zbn HO1065.out;subst eo28)|((with_reducible refine zan (f:=17) rfl ?_);refine goesL_ (some 29) rfl rfl Tryd.func17 (by kernel_rfl) rfl #[.slice Ao28 t1063.length co28] rfl q4 ?_;(with_reducible refine (zb8.calls k _ _ t1063 t1067 t1068 t1069 t1070 t1071 t1072 t1073 t1074 t1075 t1076 t1077 t1078 t1079 t1082 t1085 t1088 _ ?side1 ?side2 A8.out).mono ?_);(case side1=>repeat (first|exact (Kd.R_reads' HO1065.out).2.2|(with_reducible refine Kd.zbv ?_ _)|(with_reducible refine Kd.zbw ?_ _)|(with_reducible refine Kd.zc8 ?_)));(case side2=>exact (Kd.R_reads' HO1065.out).2.1);rintro e w29 ⟨v1080,v1083,v1086,rfl,ho0,ho1,ho2,hb⟩;refine ⟨_,rfl,?_⟩;have HO1081:=am (Kd.zc9 (Kd.R_new' ho0 (Kd.R_lt (by (with_reducible repeat (first|apply Kd.zb1|apply Kd.zb2|apply Kd.zb9));exact HO1055.out))) (zbb q12));have HO1084:=am (Kd.zc9 (Kd.R_new' ho1 (Kd.R_lt (by (with_reducible repeat (first|apply Kd.zb1|apply Kd.zb2|apply Kd.zb9));exact HO1058.out))) (zbb q12));have HO1087:=am (Kd.zc9 (Kd.R_new' ho2 (Kd.R_lt (by (with_reducible repeat (first|apply Kd.zb1|apply Kd.zb2|apply Kd.zb9));exact HO1061.out))) (zbb q12));replace HO1055:=am (Kd.R_elder' (by (with_reducible repeat (first|apply Kd.zb1|apply Kd.zb2|apply Kd.zb9));exact HO1055.out) (Kd.zct ho0) hb);replace HO1058:=am (Kd.R_elder' (by (with_reducible repeat (first|apply Kd.zb1|apply Kd.zb2|apply Kd.zb9));exact HO1058.out) (Kd.zct ho1) hb);replace HO1061:=am (Kd.R_elder' (by (with_reducible repeat (first|apply Kd.zb1|apply Kd.zb2|apply Kd.zb9));exact HO1061.out) (Kd.zct ho2) hb);replace HO1065:=am (Kd.zbx (by (with_reducible repeat (first|apply Kd.zb1|apply Kd.zb2|apply Kd.zb9));exact HO1065.out) hb);replace B_a:=am (zaf q1 hb);replace B_b:=am (zaf q7 hb);replace B_c:=am (zaf q10 hb);replace HB:=am (zab q12 hb);(try clear hb);(try clear hb2);(try clear hk);(try clear hi);(try clear ho0);(try clear ho1);(try clear ho2))|((with_reducible refine zbr (N:=14) rfl ?_);refine zbq ?hg (N:=14) ?hd (cs:=#[.int .i64 0,.int .i64 0,.int .i64 0,.int .i64 0,.int .i64 0,.int .i64 0,.bool false,.string (⟨#[]⟩:ByteArray),.string (⟨#[]⟩:ByteArray),.bool false,.string (⟨#[]⟩:ByteArray),.string (⟨#[]⟩:ByteArray),.slice none 0 0,.slice none 0 0,.slice none 0 0]) (t:=37) ?hr ?_;(case hd=>rfl);(case hg=>rfl);(case hr=>first|(go_simp;done)|(go_simp;rfl));intro g_d hg w30 hbox hb;have B_d:=am (hbox);have W_d:=am ((by rw [hg];exact (zbb q12):w.heap.size≤g_d));have E_d:=am ((by rw [hg];exact (zbb q12):w.heap.size≤g_d));have N_a_d:=am ((q50:g_a≠g_d));have N_d_a:=am ((q51:g_d≠g_a));have N_b_d:=am ((by rw [hg];exact Nat.ne_of_lt (zcj q7):g_b≠g_d));have N_d_b:=am ((by rw [hg];exact Nat.ne_of_gt (zcj q7):g_d≠g_b));have N_c_d:=am ((by rw [hg];exact Nat.ne_of_lt (zcj q10):g_c≠g_d));have N_d_c:=am ((by rw [hg];exact Nat.ne_of_gt (zcj q10):g_d≠g_c));replace HO1055:=am (Kd.zbx (by (with_reducible repeat (first|apply Kd.zb1|apply Kd.zb2|apply Kd.zb9));exact HO1055.out) hb);replace HO1058:=am (Kd.zbx (by (with_reducible repeat (first|apply Kd.zb1|apply Kd.zb2|apply Kd.zb9));exact HO1058.out) hb);replace HO1061:=am (Kd.zbx (by (with_reducible repeat (first|apply Kd.zb1|apply Kd.zb2|apply Kd.zb9));exact HO1061.out) hb);replace HO1065:=am (Kd.zbx (by (with_reducible repeat (first|apply Kd.zb1|apply Kd.zb2|apply Kd.zb9));exact HO1065.out) hb);replace HO1081:=am (Kd.zbx (by (with_reducible repeat (first|apply Kd.zb1|apply Kd.zb2|apply Kd.zb9));exact HO1081.out) hb);replace HO1084:=am (Kd.zbx (by (with_reducible repeat (first|apply Kd.zb1|apply Kd.zb2|apply Kd.zb9));exact HO1084.out) hb);replace HO1087:=am (Kd.zbx (by (with_reducible repeat (first|apply Kd.zb1|apply Kd.zb2|apply Kd.zb9));exact HO1087.out) hb);replace B_a:=am (zaf q1 hb);replace B_b:=am (zaf q7 hb);replace B_c:=am (zaf q10 hb);replace HB:=am (zab q12 hb);clear hb hbox hg;have hnb31:=N_d_a.out;have hnc31:=N_a_d.out;have hnb32:=N_d_b.out;have hnc32:=N_b_d.out;have hnb33:=N_d_c.out;have hnc33:=N_c_d.out;obtain ⟨c_d0,c_d1,c_d2,c_d3,c_d4,c_d5,c_d6,c_d7,c_d8,c_d9,c_d10,c_d11,c_d12,c_d13,c_d14⟩:=cs15 B_d.out;obtain ⟨f_d0,f_d1,f_d2,f_d3,f_d4,f_d5,f_d6,f_d7,f_d8,f_d9,f_d10,f_d11,f_d12,f_d13,f_d14⟩:=fs15 B_d.out;obtain ⟨Ao35,co35,eo35⟩:=Kd.zbn HO1081.out;subst eo35;obtain ⟨Ao36,co36,eo36⟩:=Kd.zbn HO1084.out;subst eo36;obtain ⟨Ao37,co37,eo37⟩:=Kd.zbn HO1087.out;subst eo37)|((with_reducible refine zan (f:=10) rfl ?_);refine goesL_ (some 32) rfl rfl Tryd.func10 (by kernel_rfl) rfl #[] rfl q4 ?_;(with_reducible refine (zb4.calls k  true _ A9.out).mono ?_);rintro e w38 ⟨rfl,hb⟩;refine ⟨_,rfl,?_⟩;replace HO1055:=am (Kd.zbx (by (with_reducible repeat (first|apply Kd.zb1|apply Kd.zb2|apply Kd.zb9));exact (Kd.zbm (Kd.zav (p:=⟨g_d,14,none⟩) (Kd.zav (p:=⟨g_d,13,none⟩) (Kd.zav (p:=⟨g_d,12,none⟩) (Kd.zav (p:=⟨g_d,11,none⟩) (Kd.zav (p:=⟨g_d,10,none⟩) (Kd.zav (p:=⟨g_d,9,none⟩) (Kd.zav (p:=⟨g_d,8,none⟩) (Kd.zav (p:=⟨g_d,7,none⟩) (Kd.zav (p:=⟨g_d,6,none⟩) (Kd.zav (p:=⟨g_d,5,none⟩) (Kd.zav (p:=⟨g_d,4,none⟩) (Kd.zav (p:=⟨g_d,3,none⟩) (Kd.zav (p:=⟨g_d,2,none⟩) (Kd.zav (p:=⟨g_d,1,none⟩) (Kd.zav (p:=⟨g_d,0,none⟩) (Kd.zcf HO1055.out B_d.out (by decide)) (fun _ hk=>hk.2) (.int .i64 t1067)) (fun _ hk=>hk.2) (.int .i64 t1068)) (fun _ hk=>hk.2) (.int .i64 t1069)) (fun _ hk=>hk.2) (.int .i64 t1070)) (fun _ hk=>hk.2) (.int .i64 t1071)) (fun _ hk=>hk.2) (.int .i64 t1072)) (fun _ hk=>hk.2) (.bool t1073)) (fun _ hk=>hk.2) (.string t1074)) (fun _ hk=>hk.2) (.string t1075)) (fun _ hk=>hk.2) (.bool t1076)) (fun _ hk=>hk.2) (.string t1077)) (fun _ hk=>hk.2) (.string t1078)) (fun _ hk=>hk.2) (.slice Ao35 t1079.length co35)) (fun _ hk=>hk.2) (.slice Ao36 t1082.length co36)) (fun _ hk=>hk.2) (.slice Ao37 t1085.length co37)) (fun _ h_=>h_.1))) hb);replace HO1058:=am (Kd.zbx (by (with_reducible repeat (first|apply Kd.zb1|apply Kd.zb2|apply Kd.zb9));exact (Kd.zbm (Kd.zav (p:=⟨g_d,14,none⟩) (Kd.zav (p:=⟨g_d,13,none⟩) (Kd.zav (p:=⟨g_d,12,none⟩) (Kd.zav (p:=⟨g_d,11,none⟩) (Kd.zav (p:=⟨g_d,10,none⟩) (Kd.zav (p:=⟨g_d,9,none⟩) (Kd.zav (p:=⟨g_d,8,none⟩) (Kd.zav (p:=⟨g_d,7,none⟩) (Kd.zav (p:=⟨g_d,6,none⟩) (Kd.zav (p:=⟨g_d,5,none⟩) (Kd.zav (p:=⟨g_d,4,none⟩) (Kd.zav (p:=⟨g_d,3,none⟩) (Kd.zav (p:=⟨g_d,2,none⟩) (Kd.zav (p:=⟨g_d,1,none⟩) (Kd.zav (p:=⟨g_d,0,none⟩) (Kd.zcf HO1058.out B_d.out (by decide)) (fun _ hk=>hk.2) (.int .i64 t1067)) (fun _ hk=>hk.2) (.int .i64 t1068)) (fun _ hk=>hk.2) (.int .i64 t1069)) (fun _ hk=>hk.2) (.int .i64 t1070)) (fun _ hk=>hk.2) (.int .i64 t1071)) (fun _ hk=>hk.2) (.int .i64 t1072)) (fun _ hk=>hk.2) (.bool t1073)) (fun _ hk=>hk.2) (.string t1074)) (fun _ hk=>hk.2) (.string t1075)) (fun _ hk=>hk.2) (.bool t1076)) (fun _ hk=>hk.2) (.string t1077)) (fun _ hk=>hk.2) (.string t1078)) (fun _ hk=>hk.2) (.slice Ao35 t1079.length co35)) (fun _ hk=>hk.2) (.slice Ao36 t1082.length co36)) (fun _ hk=>hk.2) (.slice Ao37 t1085.length co37)) (fun _ h_=>h_.1))) hb);replace HO1061:=am (Kd.zbx (by (with_reducible repeat (first|apply Kd.zb1|apply Kd.zb2|apply Kd.zb9));exact (Kd.zbm (Kd.zav (p:=⟨g_d,14,none⟩) (Kd.zav (p:=⟨g_d,13,none⟩) (Kd.zav (p:=⟨g_d,12,none⟩) (Kd.zav (p:=⟨g_d,11,none⟩) (Kd.zav (p:=⟨g_d,10,none⟩) (Kd.zav (p:=⟨g_d,9,none⟩) (Kd.zav (p:=⟨g_d,8,none⟩) (Kd.zav (p:=⟨g_d,7,none⟩) (Kd.zav (p:=⟨g_d,6,none⟩) (Kd.zav (p:=⟨g_d,5,none⟩) (Kd.zav (p:=⟨g_d,4,none⟩) (Kd.zav (p:=⟨g_d,3,none⟩) (Kd.zav (p:=⟨g_d,2,none⟩) (Kd.zav (p:=⟨g_d,1,none⟩) (Kd.zav (p:=⟨g_d,0,none⟩) (Kd.zcf HO1061.out B_d.out (by decide)) (fun _ hk=>hk.2) (.int .i64 t1067)) (fun _ hk=>hk.2) (.int .i64 t1068)) (fun _ hk=>hk.2) (.int .i64 t1069)) (fun _ hk=>hk.2) (.int .i64 t1070)) (fun _ hk=>hk.2) (.int .i64 t1071)) (fun _ hk=>hk.2) (.int .i64 t1072)) (fun _ hk=>hk.2) (.bool t1073)) (fun _ hk=>hk.2) (.string t1074)) (fun _ hk=>hk.2) (.string t1075)) (fun _ hk=>hk.2) (.bool t1076)) (fun _ hk=>hk.2) (.string t1077)) (fun _ hk=>hk.2) (.string t1078)) (fun _ hk=>hk.2) (.slice Ao35 t1079.length co35)) (fun _ hk=>hk.2) (.slice Ao36 t1082.length co36)) (fun _ hk=>hk.2) (.slice Ao37 t1085.length co37)) (fun _ h_=>h_.1))) hb);replace HO1065:=am (Kd.zbx (by (with_reducible repeat (first|apply Kd.zb1|apply Kd.zb2|apply Kd.zb9));exact (Kd.zbm (Kd.zav (p:=⟨g_d,14,none⟩) (Kd.zav (p:=⟨g_d,13,none⟩) (Kd.zav (p:=⟨g_d,12,none⟩) (Kd.zav (p:=⟨g_d,11,none⟩) (Kd.zav (p:=⟨g_d,10,none⟩) (Kd.zav (p:=⟨g_d,9,none⟩) (Kd.zav (p:=⟨g_d,8,none⟩) (Kd.zav (p:=⟨g_d,7,none⟩) (Kd.zav (p:=⟨g_d,6,none⟩) (Kd.zav (p:=⟨g_d,5,none⟩) (Kd.zav (p:=⟨g_d,4,none⟩) (Kd.zav (p:=⟨g_d,3,none⟩) (Kd.zav (p:=⟨g_d,2,none⟩) (Kd.zav (p:=⟨g_d,1,none⟩) (Kd.zav (p:=⟨g_d,0,none⟩) (Kd.zcf HO1065.out B_d.out (by decide)) (fun _ hk=>hk.2) (.int .i64 t1067)) (fun _ hk=>hk.2) (.int .i64 t1068)) (fun _ hk=>hk.2) (.int .i64 t1069)) (fun _ hk=>hk.2) (.int .i64 t1070)) (fun _ hk=>hk.2) (.int .i64 t1071)) (fun _ hk=>hk.2) (.int .i64 t1072)) (fun _ hk=>hk.2) (.bool t1073)) (fun _ hk=>hk.2) (.string t1074)) (fun _ hk=>hk.2) (.string t1075)) (fun _ hk=>hk.2) (.bool t1076)) (fun _ hk=>hk.2) (.string t1077)) (fun _ hk=>hk.2) (.string t1078)) (fun _ hk=>hk.2) (.slice Ao35 t1079.length co35)) (fun _ hk=>hk.2) (.slice Ao36 t1082.length co36)) (fun _ hk=>hk.2) (.slice Ao37 t1085.length co37)) (fun _ h_=>h_.1))) hb);replace HO1081:=am (Kd.zbx (by (with_reducible repeat (first|apply Kd.zb1|apply Kd.zb2|apply Kd.zb9));exact (Kd.zbm (Kd.zav (p:=⟨g_d,14,none⟩) (Kd.zav (p:=⟨g_d,13,none⟩) (Kd.zav (p:=⟨g_d,12,none⟩) (Kd.zav (p:=⟨g_d,11,none⟩) (Kd.zav (p:=⟨g_d,10,none⟩) (Kd.zav (p:=⟨g_d,9,none⟩) (Kd.zav (p:=⟨g_d,8,none⟩) (Kd.zav (p:=⟨g_d,7,none⟩) (Kd.zav (p:=⟨g_d,6,none⟩) (Kd.zav (p:=⟨g_d,5,none⟩) (Kd.zav (p:=⟨g_d,4,none⟩) (Kd.zav (p:=⟨g_d,3,none⟩) (Kd.zav (p:=⟨g_d,2,none⟩) (Kd.zav (p:=⟨g_d,1,none⟩) (Kd.zav (p:=⟨g_d,0,none⟩) (Kd.zcf HO1081.out B_d.out (by decide)) (fun _ hk=>hk.2) (.int .i64 t1067)) (fun _ hk=>hk.2) (.int .i64 t1068)) (fun _ hk=>hk.2) (.int .i64 t1069)) (fun _ hk=>hk.2) (.int .i64 t1070)) (fun _ hk=>hk.2) (.int .i64 t1071)) (fun _ hk=>hk.2) (.int .i64 t1072)) (fun _ hk=>hk.2) (.bool t1073)) (fun _ hk=>hk.2) (.string t1074)) (fun _ hk=>hk.2) (.string t1075)) (fun _ hk=>hk.2) (.bool t1076)) (fun _ hk=>hk.2) (.string t1077)) (fun _ hk=>hk.2) (.string t1078)) (fun _ hk=>hk.2) (.slice Ao35 t1079.length co35)) (fun _ hk=>hk.2) (.slice Ao36 t1082.length co36)) (fun _ hk=>hk.2) (.slice Ao37 t1085.length co37)) (fun _ h_=>h_.1))) hb);replace HO1084:=am (Kd.zbx (by (with_reducible repeat (first|apply Kd.zb1|apply Kd.zb2|apply Kd.zb9));exact (Kd.zbm (Kd.zav (p:=⟨g_d,14,none⟩) (Kd.zav (p:=⟨g_d,13,none⟩) (Kd.zav (p:=⟨g_d,12,none⟩) (Kd.zav (p:=⟨g_d,11,none⟩) (Kd.zav (p:=⟨g_d,10,none⟩) (Kd.zav (p:=⟨g_d,9,none⟩) (Kd.zav (p:=⟨g_d,8,none⟩) (Kd.zav (p:=⟨g_d,7,none⟩) (Kd.zav (p:=⟨g_d,6,none⟩) (Kd.zav (p:=⟨g_d,5,none⟩) (Kd.zav (p:=⟨g_d,4,none⟩) (Kd.zav (p:=⟨g_d,3,none⟩) (Kd.zav (p:=⟨g_d,2,none⟩) (Kd.zav (p:=⟨g_d,1,none⟩) (Kd.zav (p:=⟨g_d,0,none⟩) (Kd.zcf HO1084.out B_d.out (by decide)) (fun _ hk=>hk.2) (.int .i64 t1067)) (fun _ hk=>hk.2) (.int .i64 t1068)) (fun _ hk=>hk.2) (.int .i64 t1069)) (fun _ hk=>hk.2) (.int .i64 t1070)) (fun _ hk=>hk.2) (.int .i64 t1071)) (fun _ hk=>hk.2) (.int .i64 t1072)) (fun _ hk=>hk.2) (.bool t1073)) (fun _ hk=>hk.2) (.string t1074)) (fun _ hk=>hk.2) (.string t1075)) (fun _ hk=>hk.2) (.bool t1076)) (fun _ hk=>hk.2) (.string t1077)) (fun _ hk=>hk.2) (.string t1078)) (fun _ hk=>hk.2) (.slice Ao35 t1079.length co35)) (fun _ hk=>hk.2) (.slice Ao36 t1082.length co36)) (fun _ hk=>hk.2) (.slice Ao37 t1085.length co37)) (fun _ h_=>h_.1))) hb);replace HO1087:=am (Kd.zbx (by (with_reducible repeat (first|apply Kd.zb1|apply Kd.zb2|apply Kd.zb9));exact (Kd.zbm (Kd.zav (p:=⟨g_d,14,none⟩) (Kd.zav (p:=⟨g_d,13,none⟩) (Kd.zav (p:=⟨g_d,12,none⟩) (Kd.zav (p:=⟨g_d,11,none⟩) (Kd.zav (p:=⟨g_d,10,none⟩) (Kd.zav (p:=⟨g_d,9,none⟩) (Kd.zav (p:=⟨g_d,8,none⟩) (Kd.zav (p:=⟨g_d,7,none⟩) (Kd.zav (p:=⟨g_d,6,none⟩) (Kd.zav (p:=⟨g_d,5,none⟩) (Kd.zav (p:=⟨g_d,4,none⟩) (Kd.zav (p:=⟨g_d,3,none⟩) (Kd.zav (p:=⟨g_d,2,none⟩) (Kd.zav (p:=⟨g_d,1,none⟩) (Kd.zav (p:=⟨g_d,0,none⟩) (Kd.zcf HO1087.out B_d.out (by decide)) (fun _ hk=>hk.2) (.int .i64 t1067)) (fun _ hk=>hk.2) (.int .i64 t1068)) (fun _ hk=>hk.2) (.int .i64 t1069)) (fun _ hk=>hk.2) (.int .i64 t1070)) (fun _ hk=>hk.2) (.int .i64 t1071)) (fun _ hk=>hk.2) (.int .i64 t1072)) (fun _ hk=>hk.2) (.bool t1073)) (fun _ hk=>hk.2) (.string t1074)) (fun _ hk=>hk.2) (.string t1075)) (fun _ hk=>hk.2) (.bool t1076)) (fun _ hk=>hk.2) (.string t1077)) (fun _ hk=>hk.2) (.string t1078)) (fun _ hk=>hk.2) (.slice Ao35 t1079.length co35)) (fun _ hk=>hk.2) (.slice Ao36 t1082.length co36)) (fun _ hk=>hk.2) (.slice Ao37 t1085.length co37)) (fun _ h_=>h_.1))) hb);replace B_a:=am (zaf (g:=g_a) (o:=.cells #[.int .i16 a0_0,.int .i16 a0_1,.int .i16 a0_2,.int .i16 a0_3,.int .i16 a0_4,.int .i16 a0_5] 39 (0,0)) q43 hb);replace B_b:=am (zaf (g:=g_b) (o:=.cells #[.int .u16 a1_0,.int .u16 a1_1] 40 (0,0)) q44 hb);replace B_c:=am (zaf (g:=g_c) (o:=.cells #[.int .i64 t1041,.int .i64 t1042,.int .i64 t1043,.int .i64 t1044,.int .i64 t1045,.int .i64 t1046,.bool t1047,.string t1048,.string t1049,.bool t1050,.string t1051,.string t1052,.slice Ao24 t1053.length co24,.slice Ao25 t1056.length co25,.slice Ao26 t1059.length co26] 37 (0,0)) (by (with_reducible repeat (first|refine za4 ?_ _|refine za6 ?_|refine za0 ?_ _));refine zay ?_ N_c_d.out _;(with_reducible repeat (first|refine za4 ?_ _|refine za6 ?_|refine za0 ?_ _));refine zay ?_ N_c_d.out _;(with_reducible repeat (first|refine za4 ?_ _|refine za6 ?_|refine za0 ?_ _));refine zay ?_ N_c_d.out _;(with_reducible repeat (first|refine za4 ?_ _|refine za6 ?_|refine za0 ?_ _));refine zay ?_ N_c_d.out _;(with_reducible repeat (first|refine za4 ?_ _|refine za6 ?_|refine za0 ?_ _));refine zay ?_ N_c_d.out _;(with_reducible repeat (first|refine za4 ?_ _|refine za6 ?_|refine za0 ?_ _));refine zay ?_ N_c_d.out _;(with_reducible repeat (first|refine za4 ?_ _|refine za6 ?_|refine za0 ?_ _));refine zay ?_ N_c_d.out _;(with_reducible repeat (first|refine za4 ?_ _|refine za6 ?_|refine za0 ?_ _));refine zay ?_ N_c_d.out _;(with_reducible repeat (first|refine za4 ?_ _|refine za6 ?_|refine za0 ?_ _));refine zay ?_ N_c_d.out _;(with_reducible repeat (first|refine za4 ?_ _|refine za6 ?_|refine za0 ?_ _));refine zay ?_ N_c_d.out _;(with_reducible repeat (first|refine za4 ?_ _|refine za6 ?_|refine za0 ?_ _));refine zay ?_ N_c_d.out _;(with_reducible repeat (first|refine za4 ?_ _|refine za6 ?_|refine za0 ?_ _));refine zay ?_ N_c_d.out _;(with_reducible repeat (first|refine za4 ?_ _|refine za6 ?_|refine za0 ?_ _));refine zay ?_ N_c_d.out _;(with_reducible repeat (first|refine za4 ?_ _|refine za6 ?_|refine za0 ?_ _));refine zay ?_ N_c_d.out _;(with_reducible repeat (first|refine za4 ?_ _|refine za6 ?_|refine za0 ?_ _));refine zay ?_ N_c_d.out _;(with_reducible repeat (first|refine za4 ?_ _|refine za6 ?_|refine za0 ?_ _));exact B_c.out) hb);replace B_d:=am (zaf (g:=g_d) (o:=.cells #[.int .i64 t1067,.int .i64 t1068,.int .i64 t1069,.int .i64 t1070,.int .i64 t1071,.int .i64 t1072,.bool t1073,.string t1074,.string t1075,.bool t1076,.string t1077,.string t1078,.slice Ao35 t1079.length co35,.slice Ao36 t1082.length co36,.slice Ao37 t1085.length co37] 37 (0,0)) (by (with_reducible repeat (first|refine za4 ?_ _|refine za6 ?_|refine za0 ?_ _));refine za9 (cs:=#[.int .i64 t1067,.int .i64 t1068,.int .i64 t1069,.int .i64 t1070,.int .i64 t1071,.int .i64 t1072,.bool t1073,.string t1074,.string t1075,.bool t1076,.string t1077,.string t1078,.slice Ao35 t1079.length co35,.slice Ao36 t1082.length co36,.slice none 0 0]) ?_ 14 _ rfl;(with_reducible repeat (first|refine za4 ?_ _|refine za6 ?_|refine za0 ?_ _));refine za9 (cs:=#[.int .i64 t1067,.int .i64 t1068,.int .i64 t1069,.int .i64 t1070,.int .i64 t1071,.int .i64 t1072,.bool t1073,.string t1074,.string t1075,.bool t1076,.string t1077,.string t1078,.slice Ao35 t1079.length co35,.slice none 0 0,.slice none 0 0]) ?_ 13 _ rfl;(with_reducible repeat (first|refine za4 ?_ _|refine za6 ?_|refine za0 ?_ _));refine za9 (cs:=#[.int .i64 t1067,.int .i64 t1068,.int .i64 t1069,.int .i64 t1070,.int .i64 t1071,.int .i64 t1072,.bool t1073,.string t1074,.string t1075,.bool t1076,.string t1077,.string t1078,.slice none 0 0,.slice none 0 0,.slice none 0 0]) ?_ 12 _ rfl;(with_reducible repeat (first|refine za4 ?_ _|refine za6 ?_|refine za0 ?_ _));refine za9 (cs:=#[.int .i64 t1067,.int .i64 t1068,.int .i64 t1069,.int .i64 t1070,.int .i64 t1071,.int .i64 t1072,.bool t1073,.string t1074,.string t1075,.bool t1076,.string t1077,.string (⟨#[]⟩:ByteArray),.slice none 0 0,.slice none 0 0,.slice none 0 0]) ?_ 11 _ rfl;(with_reducible repeat (first|refine za4 ?_ _|refine za6 ?_|refine za0 ?_ _));refine za9 (cs:=#[.int .i64 t1067,.int .i64 t1068,.int .i64 t1069,.int .i64 t1070,.int .i64 t1071,.int .i64 t1072,.bool t1073,.string t1074,.string t1075,.bool t1076,.string (⟨#[]⟩:ByteArray),.string (⟨#[]⟩:ByteArray),.slice none 0 0,.slice none 0 0,.slice none 0 0]) ?_ 10 _ rfl;(with_reducible repeat (first|refine za4 ?_ _|refine za6 ?_|refine za0 ?_ _));refine za9 (cs:=#[.int .i64 t1067,.int .i64 t1068,.int .i64 t1069,.int .i64 t1070,.int .i64 t1071,.int .i64 t1072,.bool t1073,.string t1074,.string t1075,.bool false,.string (⟨#[]⟩:ByteArray),.string (⟨#[]⟩:ByteArray),.slice none 0 0,.slice none 0 0,.slice none 0 0]) ?_ 9 _ rfl;(with_reducible repeat (first|refine za4 ?_ _|refine za6 ?_|refine za0 ?_ _));refine za9 (cs:=#[.int .i64 t1067,.int .i64 t1068,.int .i64 t1069,.int .i64 t1070,.int .i64 t1071,.int .i64 t1072,.bool t1073,.string t1074,.string (⟨#[]⟩:ByteArray),.bool false,.string (⟨#[]⟩:ByteArray),.string (⟨#[]⟩:ByteArray),.slice none 0 0,.slice none 0 0,.slice none 0 0]) ?_ 8 _ rfl;(with_reducible repeat (first|refine za4 ?_ _|refine za6 ?_|refine za0 ?_ _));refine za9 (cs:=#[.int .i64 t1067,.int .i64 t1068,.int .i64 t1069,.int .i64 t1070,.int .i64 t1071,.int .i64 t1072,.bool t1073,.string (⟨#[]⟩:ByteArray),.string (⟨#[]⟩:ByteArray),.bool false,.string (⟨#[]⟩:ByteArray),.string (⟨#[]⟩:ByteArray),.slice none 0 0,.slice none 0 0,.slice none 0 0]) ?_ 7 _ rfl;(with_reducible repeat (first|refine za4 ?_ _|refine za6 ?_|refine za0 ?_ _));refine za9 (cs:=#[.int .i64 t1067,.int .i64 t1068,.int .i64 t1069,.int .i64 t1070,.int .i64 t1071,.int .i64 t1072,.bool false,.string (⟨#[]⟩:ByteArray),.string (⟨#[]⟩:ByteArray),.bool false,.string (⟨#[]⟩:ByteArray),.string (⟨#[]⟩:ByteArray),.slice none 0 0,.slice none 0 0,.slice none 0 0]) ?_ 6 _ rfl;(with_reducible repeat (first|refine za4 ?_ _|refine za6 ?_|refine za0 ?_ _));refine za9 (cs:=#[.int .i64 t1067,.int .i64 t1068,.int .i64 t1069,.int .i64 t1070,.int .i64 t1071,.int .i64 0,.bool false,.string (⟨#[]⟩:ByteArray),.string (⟨#[]⟩:ByteArray),.bool false,.string (⟨#[]⟩:ByteArray),.string (⟨#[]⟩:ByteArray),.slice none 0 0,.slice none 0 0,.slice none 0 0]) ?_ 5 _ rfl;(with_reducible repeat (first|refine za4 ?_ _|refine za6 ?_|refine za0 ?_ _));refine za9 (cs:=#[.int .i64 t1067,.int .i64 t1068,.int .i64 t1069,.int .i64 t1070,.int .i64 0,.int .i64 0,.bool false,.string (⟨#[]⟩:ByteArray),.string (⟨#[]⟩:ByteArray),.bool false,.string (⟨#[]⟩:ByteArray),.string (⟨#[]⟩:ByteArray),.slice none 0 0,.slice none 0 0,.slice none 0 0]) ?_ 4 _ rfl;(with_reducible repeat (first|refine za4 ?_ _|refine za6 ?_|refine za0 ?_ _));refine za9 (cs:=#[.int .i64 t1067,.int .i64 t1068,.int .i64 t1069,.int .i64 0,.int .i64 0,.int .i64 0,.bool false,.string (⟨#[]⟩:ByteArray),.string (⟨#[]⟩:ByteArray),.bool false,.string (⟨#[]⟩:ByteArray),.string (⟨#[]⟩:ByteArray),.slice none 0 0,.slice none 0 0,.slice none 0 0]) ?_ 3 _ rfl;(with_reducible repeat (first|refine za4 ?_ _|refine za6 ?_|refine za0 ?_ _));refine za9 (cs:=#[.int .i64 t1067,.int .i64 t1068,.int .i64 0,.int .i64 0,.int .i64 0,.int .i64 0,.bool false,.string (⟨#[]⟩:ByteArray),.string (⟨#[]⟩:ByteArray),.bool false,.string (⟨#[]⟩:ByteArray),.string (⟨#[]⟩:ByteArray),.slice none 0 0,.slice none 0 0,.slice none 0 0]) ?_ 2 _ rfl;(with_reducible repeat (first|refine za4 ?_ _|refine za6 ?_|refine za0 ?_ _));refine za9 (cs:=#[.int .i64 t1067,.int .i64 0,.int .i64 0,.int .i64 0,.int .i64 0,.int .i64 0,.bool false,.string (⟨#[]⟩:ByteArray),.string (⟨#[]⟩:ByteArray),.bool false,.string (⟨#[]⟩:ByteArray),.string (⟨#[]⟩:ByteArray),.slice none 0 0,.slice none 0 0,.slice none 0 0]) ?_ 1 _ rfl;(with_reducible repeat (first|refine za4 ?_ _|refine za6 ?_|refine za0 ?_ _));refine za9 (cs:=#[.int .i64 0,.int .i64 0,.int .i64 0,.int .i64 0,.int .i64 0,.int .i64 0,.bool false,.string (⟨#[]⟩:ByteArray),.string (⟨#[]⟩:ByteArray),.bool false,.string (⟨#[]⟩:ByteArray),.string (⟨#[]⟩:ByteArray),.slice none 0 0,.slice none 0 0,.slice none 0 0]) ?_ 0 _ rfl;(with_reducible repeat (first|refine za4 ?_ _|refine za6 ?_|refine za0 ?_ _));exact B_d.out) hb);replace HB:=am (zab q14 hb);(try clear hb);(try clear hb2);(try clear hk);(try clear hi);obtain ⟨c_e0,c_e1,c_e2,c_e3,c_e4,c_e5,c_e6,c_e7,c_e8,c_e9,c_e10,c_e11,c_e12,c_e13,c_e14⟩:=cs15 B_c.out;obtain ⟨f_e0,f_e1,f_e2,f_e3,f_e4,f_e5,f_e6,f_e7,f_e8,f_e9,f_e10,f_e11,f_e12,f_e13,f_e14⟩:=fs15 B_c.out;obtain ⟨c_f0,c_f1,c_f2,c_f3,c_f4,c_f5,c_f6,c_f7,c_f8,c_f9,c_f10,c_f11,c_f12,c_f13,c_f14⟩:=cs15 B_d.out;obtain ⟨f_f0,f_f1,f_f2,f_f3,f_f4,f_f5,f_f6,f_f7,f_f8,f_f9,f_f10,f_f11,f_f12,f_f13,f_f14⟩:=fs15 B_d.out)|(go_at_call 20;(with_reducible refine (zbl.calls k t1041 t1042 t1043 t1044 t1045 t1046 t1047 t1048 t1049 t1050 t1051 t1052 _ _ t1053 _ _ t1056 _ _ t1059 t1067 t1068 t1069 t1070 t1071 t1072 t1073 t1074 t1075 t1076 t1077 t1078 _ _ t1079 _ _ t1082 _ _ t1085 t1091 _ ?side1 ?side2 ?side3 ?side4 ?side5 ?side6 ?side7 ?side8 ?side9 ?side10 ?side11 ?side12 A13.out).mono ?_);(case side1=>repeat (first|exact (Kd.R_reads' HO1055.out).2.2|(with_reducible refine Kd.zbv ?_ _)|(with_reducible refine Kd.zbw ?_ _)|(with_reducible refine Kd.zc8 ?_)));(case side2=>exact (Kd.R_reads' HO1055.out).2.1);(case side3=>repeat (first|exact (Kd.R_reads' HO1058.out).2.2|(with_reducible refine Kd.zbv ?_ _)|(with_reducible refine Kd.zbw ?_ _)|(with_reducible refine Kd.zc8 ?_)));(case side4=>exact (Kd.R_reads' HO1058.out).2.1);(case side5=>repeat (first|exact (Kd.R_reads' HO1061.out).2.2|(with_reducible refine Kd.zbv ?_ _)|(with_reducible refine Kd.zbw ?_ _)|(with_reducible refine Kd.zc8 ?_)));(case side6=>exact (Kd.R_reads' HO1061.out).2.1);(case side7=>repeat (first|exact (Kd.R_reads' HO1081.out).2.2|(with_reducible refine Kd.zbv ?_ _)|(with_reducible refine Kd.zbw ?_ _)|(with_reducible refine Kd.zc8 ?_)));(case side8=>exact (Kd.R_reads' HO1081.out).2.1);(case side9=>repeat (first|exact (Kd.R_reads' HO1084.out).2.2|(with_reducible refine Kd.zbv ?_ _)|(with_reducible refine Kd.zbw ?_ _)|(with_reducible refine Kd.zc8 ?_)));(case side10=>exact (Kd.R_reads' HO1084.out).2.1);(case side11=>repeat (first|exact (Kd.R_reads' HO1087.out).2.2|(with_reducible refine Kd.zbv ?_ _)|(with_reducible refine Kd.zbw ?_ _)|(with_reducible refine Kd.zc8 ?_)));(case side12=>exact (Kd.R_reads' HO1087.out).2.1);rintro e w41 ⟨rfl,hb⟩;replace HO1055:=am (Kd.zbx (by (with_reducible repeat (first|apply Kd.zb1|apply Kd.zb2|apply Kd.zb9));exact HO1055.out) hb);replace HO1058:=am (Kd.zbx (by (with_reducible repeat (first|apply Kd.zb1|apply Kd.zb2|apply Kd.zb9));exact HO1058.out) hb);replace HO1061:=am (Kd.zbx (by (with_reducible repeat (first|apply Kd.zb1|apply Kd.zb2|apply Kd.zb9));exact HO1061.out) hb);replace HO1065:=am (Kd.zbx (by (with_reducible repeat (first|apply Kd.zb1|apply Kd.zb2|apply Kd.zb9));exact HO1065.out) hb);replace HO1081:=am (Kd.zbx (by (with_reducible repeat (first|apply Kd.zb1|apply Kd.zb2|apply Kd.zb9));exact HO1081.out) hb);replace HO1084:=am (Kd.zbx (by (with_reducible repeat (first|apply Kd.zb1|apply Kd.zb2|apply Kd.zb9));exact HO1084.out) hb);replace HO1087:=am (Kd.zbx (by (with_reducible repeat (first|apply Kd.zb1|apply Kd.zb2|apply Kd.zb9));exact HO1087.out) hb);replace B_a:=am (zaf q1 hb);replace B_b:=am (zaf q7 hb);replace B_c:=am (zaf q10 hb);replace B_d:=am (zaf q20 hb);replace HB:=am (zab q14 hb);(try clear hb);(try clear hb2);(try clear hk);(try clear hi)))
    go_ret;exact ⟨q8,q14⟩
   ·rw [if_neg c12] at H
    exact absurd H (by simp)
  ·rw [if_neg c11] at H
   exact absurd H (by simp)
 ·rw [if_neg c10] at H
  exact absurd H (by simp)
end Go.Proofs.YtcipcpodgkeobaaDoor.F
end
section
namespace Go.Proofs.YtcipcpodgkeobaaDoor.Num
open Go.RowKit Go.Proofs.YtcipcpodgkeobaaDoorW.PrintWords Go.Proofs.YtcipcpodgkeobaaDoorW.PrintLast Go.Proofs.YtcipcpodgkeobaaDoorW.PrintMore
theorem w64 {n:Int} (h0 : -9223372036854775808≤n) (h1:n≤9223372036854775807):wrap64 n=n:=by unfold wrap64;omega
theorem wu {n:Int} (h0:0≤n) (h1:n≤18446744073709551615):IntKind.u64.wrap n=n:=IntWalk.u64_in n ⟨h0,h1⟩
def val:List Int→Int
 | []=>0
 | x :: r=>x+4294967296*val r
def Dig (l:List Int):Prop:=∀ x ∈ l,0≤x∧x<4294967296
def Nz:List Int→Prop
 | []=>True
 | [x]=>x≠0
 | _ :: y :: r=>Nz (y :: r)
def Is (l:List Int) (n:Int):Prop:=Dig l∧Nz l∧val l=n
theorem Dig.nil:Dig []:=fun _ h=>by cases h
theorem Dig.cons {x:Int} {r:List Int} (h0:0≤x) (h1:x<4294967296) (h:Dig r):Dig (x :: r):=fun y hy=>by
 rcases List.mem_cons.1 hy with rfl|hy
 ·exact ⟨h0,h1⟩
 ·exact h y hy
theorem Dig.head {x:Int} {r:List Int} (h:Dig (x :: r)):0≤x∧x<4294967296:=h x List.mem_cons_self
theorem Dig.tail {x:Int} {r:List Int} (h:Dig (x :: r)):Dig r:=fun y hy=>h y (List.mem_cons_of_mem _ hy)
theorem Dig.app {a b:List Int} (ha:Dig a) (hb:Dig b):Dig (a ++ b):=fun y hy=>by
 rcases List.mem_append.1 hy with hy|hy
 ·exact ha y hy
 ·exact hb y hy
theorem Dig.at {l:List Int} (h:Dig l) (i:Int):0≤rd l i∧rd l i<4294967296:=by
 unfold rd;rw [List.getD_eq_getElem?_getD]
 by_cases hi:i.toNat<l.length
 ·rw [List.getElem?_eq_getElem hi]
  exact h _ (List.getElem_mem hi)
 ·rw [List.getElem?_eq_none (by omega)]
  exact ⟨by decide,by decide⟩
theorem Dig.take {l:List Int} (h:Dig l) (n:Nat):Dig (l.take n):=fun y hy=>h y (List.mem_of_mem_take hy)
theorem Dig.drop {l:List Int} (h:Dig l) (n:Nat):Dig (l.drop n):=fun y hy=>h y (List.mem_of_mem_drop hy)
theorem val_nonneg {l:List Int} (h:Dig l):0≤val l:=by
 induction l with
 | nil=>exact Int.le_refl _
 | cons x r ih=>
  have:=ih h.tail;have:=h.head;simp only [val];omega
theorem Nz.tail {x:Int} {r:List Int} (h:Nz (x :: r)):Nz r:=by
 cases r with
 | nil=>trivial
 | cons y r=>exact h
theorem Is.nil:Is [] 0:=⟨Dig.nil,trivial,rfl⟩
theorem Is.nonneg {l:List Int} {n:Int} (h:Is l n):0≤n:=h.2.2 ▸ val_nonneg h.1
theorem Is.one {x:Int} (h0:0<x) (h1:x<4294967296):Is [x] x:=⟨Dig.cons (by omega) h1 Dig.nil,by show x≠0;omega,by simp [val]⟩
theorem Nz.app {a:List Int} {x:Int} (hx:x≠0):Nz (a ++ [x]):=by
 induction a with
 | nil=>exact hx
 | cons y a ih=>
  cases a with
  | nil=>exact hx
  | cons z a=>exact ih
def bev (l:List UInt8):Nat:=l.foldl (fun a b=>a*256+b.toNat) 0
def digs (n:Nat):List UInt8:=if _h:n=0 then [] else digs (n/256) ++ [UInt8.ofNat n]
termination_by n
def S (n:Int):ByteArray:=⟨(digs n.toNat).toArray⟩
def B (s:ByteArray):Int:=bev s.data.toList
theorem Ev.ite {α : Type} {c:Prop} [Decidable c] {f g:Nat→Option α} {r : α} (hc:c) (h:Ev f r):Ev (fun k=>if c then f k else g k) r:=by
 simpa only [if_pos hc] using h
theorem Ev.ite_not {α : Type} {c:Prop} [Decidable c] {f g:Nat→Option α} {r : α} (hc:¬ c) (h:Ev g r):Ev (fun k=>if c then f k else g k) r:=by
 simpa only [if_neg hc] using h
end Go.Proofs.YtcipcpodgkeobaaDoor.Num
end
section
namespace Go.Proofs.YtcipcpodgkeobaaDoor.F
open Go.RowKit Go.Proofs.YtcipcpodgkeobaaDoorW.PrintWords Go.Proofs.YtcipcpodgkeobaaDoorW.PrintLast Go.Proofs.YtcipcpodgkeobaaDoorW.PrintMore
attribute [local go_sem] max2_int min2_int max_two min_two max_three min_three max_four min_four   
set_option linter.unusedVariables false
set_option linter.unusedSimpArgs false

end Go.Proofs.YtcipcpodgkeobaaDoor.F
end
section
namespace Go.Proofs.YtcipcpodgkeobaaDoor.Num
open Go.RowKit Go.Proofs.YtcipcpodgkeobaaDoorW.PrintWords Go.Proofs.YtcipcpodgkeobaaDoorW.PrintLast Go.Proofs.YtcipcpodgkeobaaDoorW.PrintMore Go.Proofs.YtcipcpodgkeobaaDoor.F
set_option linter.unusedVariables false
theorem some_of {g:Nat→Option Bool} (h:Ev g true):∃ k,g k=some true:=h.elim fun K hK=>⟨K,hK K (Nat.le_refl _)⟩
def Bys (l:List Int):Prop:=∀ x ∈ l,0≤x∧x≤255
def ast (s:Int×Int) (b:Int):Int×Int:=((s.1+b)%65521,(s.2+(s.1+b)%65521)%65521)
def wd (s:Int×Int):Int:=s.2*65536+s.1
theorem winc' {i:Nat} (h:i≤4000000000):wrap64 ((i:Int)+1)=((i+1:Nat):Int):=by rw [w64 (by omega) (by omega)];omega
theorem drop_rd' {l:List Int} {i:Nat} {x:Int} {r:List Int} (h:l.drop i=x :: r):i<l.length∧rd l (i:Int)=x∧l.drop (i+1)=r∧x ∈ l:=by
 have hi:i<l.length:=by
  rcases Nat.lt_or_ge i l.length with q|q
  ·exact q
  ·rw [List.drop_of_length_le q] at h;cases h
 rw [← List.getElem_cons_drop hi] at h;have e:=(List.cons.inj h).1;refine ⟨hi,?_,(List.cons.inj h).2,e ▸ List.getElem_mem hi⟩;unfold rd;rw [Int.toNat_natCast,List.getD_eq_getElem?_getD,List.getElem?_eq_getElem hi,← e]
 rfl
def ad (l:List Int):Int:=wd (l.foldl ast (1,0))
set_option maxRecDepth 100000 in
theorem awake_now:zb4.f 40=some true:=by kernel_rfl
theorem awake_ev:Ev (fun k=>zb4.f k) true:=Ev.of (fun k=>zb4.mono k) (k:=40) awake_now
end Go.Proofs.YtcipcpodgkeobaaDoor.Num
end
section
namespace Go.Proofs.YtcipcpodgkeobaaDoor.Num
open Go.RowKit Go.Proofs.YtcipcpodgkeobaaDoorW.PrintWords Go.Proofs.YtcipcpodgkeobaaDoorW.PrintLast Go.Proofs.YtcipcpodgkeobaaDoorW.PrintMore Go.Proofs.YtcipcpodgkeobaaDoor.F
set_option linter.unusedVariables false
theorem bs_bytes {l:List Int} (h:Bys l):bytesOf (strOfNums l)=l:=strOfNums_bytes h
theorem bytes_bs (s:ByteArray):strOfNums (bytesOf s)=s:=by
 have h:(bytesOf s).map (fun n:Int=>UInt8.ofNat n.toNat)=s.data.toList:=by
  unfold bytesOf;rw [List.map_map];refine (List.map_congr_left (g:=id) fun b _=>?_).trans (List.map_id _)
  show UInt8.ofNat ((b.toNat:Int)).toNat=b
  rw [Int.toNat_natCast,UInt8.ofNat_toNat]
 show (⟨((bytesOf s).map (fun n:Int=>UInt8.ofNat n.toNat)).toArray⟩:ByteArray)=s
 rw [h,Array.toArray_toList]
theorem bys_of (s:ByteArray):Bys (bytesOf s):=bytesOf_rng s
theorem Bys.app {a b:List Int} (ha:Bys a) (hb:Bys b):Bys (a ++ b):=fun x hx=>(List.mem_append.1 hx).elim (ha x) (hb x)
theorem Bys.take {l:List Int} (h:Bys l) (n:Nat):Bys (l.take n):=fun x hx=>h x (List.mem_of_mem_take hx)
theorem Bys.drop {l:List Int} (h:Bys l) (n:Nat):Bys (l.drop n):=fun x hx=>h x (List.mem_of_mem_drop hx)
theorem bs_size {l:List Int} (h:Bys l):(strOfNums l).size=l.length:=by rw [← bytesOf_length,bs_bytes h]
theorem bs_drop {a b:List Int} (ha:Bys a) (hb:Bys b):dropS a.length (strOfNums (a ++ b))=strOfNums b:=by
 unfold dropS;rw [bs_bytes (ha.app hb),List.drop_left]
theorem bs_take {a b:List Int} (ha:Bys a) (hb:Bys b):takeS a.length (strOfNums (a ++ b))=strOfNums a:=by
 unfold takeS;rw [bs_bytes (ha.app hb),List.take_left]
def app (s:ByteArray) (t:List Int):ByteArray:=strOfNums (bytesOf s ++ t)
theorem and127 {x:Int} (h0:0≤x) (h1:x≤255):bits .and .u8 x 127=x%128:=
 bits_mask .u8 8 (by decide) (fun n h0 h1=>wraps_u8 n h0 h1) 7 (by decide) x h0 (by omega)
set_option maxRecDepth 100000 in
theorem or_128 {x:Int} (h0:0≤x) (h1:x≤255):bits .or .u8 x 128=128+x%128:=by
 obtain ⟨m,rfl⟩:=Int.eq_ofNat_of_zero_le h0
 have hm2:m<2 ^ 8:=by omega
 rw [show (128:Int)=((128:Nat):Int) from rfl,(bits_nat .u8 8 (by decide) (fun n h0 h1=>wraps_u8 n h0 h1) m 128 hm2 (by decide)).2]
 have key:∀ m:Fin 256,m.val ||| 128=128+m.val%128:=by decide
 have:=key ⟨m,hm2⟩;rw [show m ||| 128=128+m%128 from this]
 omega
theorem vb_bys (f:Nat):∀ u,Bys (vb f u):=by
 induction f with
 | zero=>
  intro u x hx;rw [List.mem_singleton.1 hx]
  omega
 | succ f ih=>
  intro u x hx;simp only [vb] at hx
  split at hx
  ·rcases List.mem_cons.1 hx with rfl|h
   ·rw [or_128 (by omega) (by omega)];omega
   ·exact ih _ x h
  ·rw [List.mem_singleton.1 hx];omega
theorem vbytes_bys (n:Int):Bys (vbytes n):=vb_bys 10 _
theorem st7_eq {acc x:Int} {i:Nat} (hx0:0≤x) (hx1:x≤255) (hi:i≤8) (h0:0≤acc) (h1:acc<128 ^ i):st7 acc x i=acc+x%128*128 ^ i:=by
 have hm0:=Int.emod_nonneg x (show (128:Int)≠0 by decide);have hm1:=Int.emod_lt_of_pos x (show (0:Int)<128 by decide);unfold st7;rw [and127 hx0 hx1,wu hm0 (by omega)]
 generalize x%128=y at hm0 hm1 ⊢
 have hp:(2:Int) ^ (7*i)=128 ^ i:=by rw [Int.pow_mul];rfl
 have hp1:(0:Int)<128 ^ i:=Int.pow_pos (by decide)
 have hp2:(128:Int) ^ i≤72057594037927936:=by
  have:i=0∨i=1∨i=2∨i=3∨i=4∨i=5∨i=6∨i=7∨i=8:=by omega
  rcases this with rfl|rfl|rfl|rfl|rfl|rfl|rfl|rfl|rfl <;> decide
 have hy:y*128 ^ i≤127*128 ^ i:=Int.mul_le_mul_of_nonneg_right (by omega) (by omega);have hy0:0≤y*128 ^ i:=Int.mul_nonneg hm0 (by omega);rw [hp,wu hy0 (by omega)]
 have hc:bits .or .u64 acc (y*128 ^ i)=bits .or .u64 (y*128 ^ i) acc:=by simp only [bits];rw [BitVec.or_comm]
 rw [hc,bits_join .u64 64 (by decide) (fun n h0 h1=>wu h0 (by omega)) (7*i) (y*128 ^ i) acc hy0 (by rw [hp];exact Int.mul_emod_left _ _) (by omega) h0 (by rw [hp];exact h1) (by omega)]
 omega
theorem rn_vb (t:List Int):∀ (m i f g:Nat) (acc u:Int),0≤u→u<128 ^ (m+1)→m+1≤f→m≤g→i+m≤8→0≤acc→acc<128 ^ i →
 rn f i acc (vb g u ++ t)=some (acc+u*128 ^ i,i+(vb g u).length):=by
 have one:∀ (i f g:Nat) (acc u:Int),0≤u→u<128→1≤f→i≤8→0≤acc→acc<128 ^ i→rn f i acc (vb g u ++ t)=some (acc+u*128 ^ i,i+(vb g u).length):=by
  intro i f g acc u h0 h1 hf hi ha hb
  obtain ⟨f,rfl⟩:∃ m,f=m+1:=⟨f-1,by omega⟩
  have e:vb g u=[u]:=by
   cases g with
   | zero=>simp only [vb];rw [Int.emod_eq_of_lt h0 (by omega)]
   | succ g=>simp only [vb];rw [if_neg (by omega),Int.emod_eq_of_lt h0 (by omega)]
  rw [e,List.singleton_append];simp only [rn];rw [if_pos h1,st7_eq h0 (by omega) hi ha hb,Int.emod_eq_of_lt h0 h1]
  rfl
 intro m
 induction m with
 | zero=>intro i f g acc u h0 h1 hf hg hi ha hb;exact one i f g acc u h0 (by simpa using h1) hf (by omega) ha hb
 | succ m ih=>
  intro i f g acc u h0 h1 hf hg hi ha hb
  by_cases h:u<128
  ·exact one i f g acc u h0 h (by omega) (by omega) ha hb
  ·obtain ⟨f,rfl⟩:∃ m,f=m+1:=⟨f-1,by omega⟩
   obtain ⟨g,rfl⟩:∃ m,g=m+1:=⟨g-1,by omega⟩
   have e:vb (g+1) u=(128+u%128) :: vb g (u/128):=by
    simp only [vb];rw [if_pos (by omega),or_128 (by omega) (by omega)]
    congr 2
    omega
   have hm0:=Int.emod_nonneg u (show (128:Int)≠0 by decide);have hm1:=Int.emod_lt_of_pos u (show (0:Int)<128 by decide);have hp1:(0:Int)<128 ^ i:=Int.pow_pos (by decide)
   have hs:st7 acc (128+u%128) i=acc+u%128*128 ^ i:=by
    rw [st7_eq (by omega) (by omega) (by omega) ha hb]
    congr 2
    omega
   have hlt:u%128*128 ^ i≤127*128 ^ i:=Int.mul_le_mul_of_nonneg_right (by omega) (by omega);have hge:0≤u%128*128 ^ i:=Int.mul_nonneg hm0 (by omega);have hdiv:u/128<128 ^ (m+1):=Int.ediv_lt_of_lt_mul (by decide) (by rw [← Int.pow_succ];exact h1);have g1:=ih (i+1) f g (acc+u%128*128 ^ i) (u/128) (by omega) hdiv (by omega) (by omega) (by omega) (by omega) (by rw [Int.pow_succ];omega);rw [e,List.cons_append];simp only [rn];rw [if_neg (by omega),hs,g1,List.length_cons]
   have e2:u/128*128 ^ (i+1)=128*(u/128)*128 ^ i:=by rw [Int.pow_succ,Int.mul_comm (128 ^ i) 128,← Int.mul_assoc,Int.mul_comm (u/128) 128]
   have e3:u*128 ^ i=u%128*128 ^ i+128*(u/128)*128 ^ i:=by rw [← Int.add_mul,Int.emod_add_mul_ediv]
   rw [e2,e3];refine congrArg some (Prod.ext ?_ ?_)
   ·show acc+u%128*128 ^ i+128*(u/128)*128 ^ i=acc+(u%128*128 ^ i+128*(u/128)*128 ^ i)
    omega
   ·show i+1+(vb g (u/128)).length=i+((vb g (u/128)).length+1)
    omega
theorem small_iff {n:Int} : small n=true ↔ -1125899906842624≤n∧n≤1125899906842624:=by unfold small;rw [Bool.and_eq_true,decide_eq_true_eq,decide_eq_true_eq]
theorem zz_small {n:Int} (h:small n=true):zz n=(if n<0 then -2*n-1 else 2*n)∧0≤zz n∧zz n<4503599627370496:=by
 obtain ⟨h0,h1⟩:=small_iff.1 h;unfold zz
 by_cases hn:n<0
 ·rw [if_pos hn,if_pos hn,w64 (n:=-2*n) (by omega) (by omega),w64 (by omega) (by omega),wu (by omega) (by omega)]
  omega
 ·rw [if_neg hn,if_neg hn,w64 (by omega) (by omega),wu (by omega) (by omega)]
  omega
theorem and1 {u:Int} (h0:0≤u) (h1:u≤18446744073709551615):bits .and .u64 u 1=u%2:=
 bits_mask .u64 64 (by decide) (fun n h0 h1=>wu h0 (by omega)) 1 (by decide) u h0 (by omega)
theorem sv_zz {n:Int} (h:small n=true):sv (zz n)=n:=by
 obtain ⟨e,h0,h1⟩:=zz_small h;obtain ⟨n0,n1⟩:=small_iff.1 h;unfold sv;rw [and1 h0 (by omega),Int.tdiv_eq_ediv_of_nonneg h0]
 by_cases hn:n<0
 ·rw [if_pos hn] at e
  rw [if_pos (beq_iff_eq.mpr (by omega)),wu (by omega) (by omega),w64 (n:=zz n/2) (by omega) (by omega),w64 (n:=-(zz n/2)) (by omega) (by omega),w64 (by omega) (by omega)]
  omega
 ·rw [if_neg hn] at e
  rw [if_neg (by rw [beq_iff_eq];omega),wu (by omega) (by omega),w64 (by omega) (by omega)]
  omega
theorem num_r (k:Nat) {n:Int} (h:small n=true) {t:List Int} (ht:Bys t) (b:Bool):zbk.f k (strOfNums (vbytes n ++ t)) b=some (n,strOfNums t,b):=by
 obtain ⟨_,h0,h1⟩:=zz_small h;have g:=rn_vb t 7 0 9 10 0 (zz n) h0 (by omega) (by decide) (by decide) (by decide) (by decide) (by decide);unfold zbk.f rnum;rw [bs_bytes ((vbytes_bys n).app ht)];unfold vbytes;rw [g]
 have e:(0:Int)+zz n*128 ^ 0=zz n:=by omega
 simp only [e,sv_zz h,Nat.zero_add];rw [bs_drop (vb_bys 10 _) ht]
theorem int_r (k:Nat) {n:Int} (h:small n=true) {t:List Int} (ht:Bys t) (b:Bool):zaa.f k (strOfNums (vbytes n ++ t)) b=some (n,strOfNums t,b):=by
 unfold zaa.f;rw [num_r k h ht]
 rfl
theorem count_r (k:Nat) {n:Int} {m:Int} (h:small n=true) (h0:0≤n) (h1:n≤m) {t:List Int} (ht:Bys t):zax.f k (strOfNums (vbytes n ++ t)) false m=some (n,strOfNums t,false):=by
 unfold zax.f;rw [num_r k h ht,Option.bind_some];dsimp only;rw [if_neg (by decide),if_neg (by omega),if_neg (by omega)]
def sbytes (s:ByteArray):List Int:=vbytes (s.size:Int) ++ bytesOf s
theorem sbytes_bys (s:ByteArray):Bys (sbytes s):=(vbytes_bys _).app (bys_of s)
theorem text_r (k:Nat) {s:ByteArray} (h:s.size≤4096) {t:List Int} (ht:Bys t):zc0.f k (strOfNums (sbytes s ++ t)) false=some (s,strOfNums t,false):=by
 unfold zc0.f sbytes
 have hb:=((bys_of s).app ht)
 rw [List.append_assoc,count_r k (n:=(s.size:Int)) (by rw [small_iff];omega) (by omega) (by rw [bs_size ((vbytes_bys _).app hb),List.length_append,List.length_append,bytesOf_length];omega) hb]
 have e1:takeS s.size (strOfNums (bytesOf s ++ t))=s:=by
  have:=bs_take (bys_of s) ht;rw [bytesOf_length,bytes_bs] at this;exact this
 have e2:dropS s.size (strOfNums (bytesOf s ++ t))=strOfNums t:=by
  have:=bs_drop (bys_of s) ht;rw [bytesOf_length] at this;exact this
 rw [Option.bind_some];dsimp only;rw [if_neg (by rw [bs_size hb,List.length_append,bytesOf_length];omega),Int.toNat_natCast,e1,e2]
def qbytes (neg:Bool) (num den:ByteArray):List Int:=vbytes (nb neg) ++ (sbytes num ++ sbytes den)
theorem qbytes_bys (neg:Bool) (num den:ByteArray):Bys (qbytes neg num den):=(vbytes_bys _).app ((sbytes_bys _).app (sbytes_bys _))
theorem rat_r (k:Nat) {neg:Bool} {num den:ByteArray} (h1:num.size≤4096) (h2:den.size≤4096) {t:List Int} (ht:Bys t):zbi.f k (strOfNums (qbytes neg num den ++ t)) false=some (neg,num,den,strOfNums t,false):=by
 unfold zbi.f qbytes;have hb1:=(sbytes_bys den).app ht;have hb2:=(sbytes_bys num).app hb1;rw [List.append_assoc,List.append_assoc,num_r k (small_nb neg) hb2];rw [Option.bind_some];dsimp only;rw [text_r k h1 hb1,Option.bind_some];dsimp only;rw [text_r k h2 ht,Option.bind_some]
 have e:(nb neg == 1)=neg:=by cases neg <;> rfl
 dsimp only;rw [e]
end Go.Proofs.YtcipcpodgkeobaaDoor.Num
end
section
namespace Go.Proofs.YtcipcpodgkeobaaDoor.F
open Go.RowKit Go.Proofs.YtcipcpodgkeobaaDoorW.PrintWords Go.Proofs.YtcipcpodgkeobaaDoorW.PrintLast Go.Proofs.YtcipcpodgkeobaaDoorW.PrintMore
attribute [local go_sem] max2_int min2_int max_two min_two max_three min_three max_four min_four   
set_option linter.unusedVariables false
set_option linter.unusedSimpArgs false

def zc5.f (k:Nat) (a0:ByteArray) (a1:ByteArray):Option (ByteArray):=(zai.f k a0).bind fun t484=>((zai.f k a1).bind fun t487=>((zb0.f k t484 t487).bind fun t490=>((zao.f k t490).bind fun t493=>(some t493))))
theorem zc5.mono:∀ a0 a1 k,LeO (zc5.f k a0 a1) (zc5.f (k+1) a0 a1):=by
 intro a0 a1 k;unfold zc5.f
 repeat' first
  | (with_reducible exact zb0.mono _ _ _)
  | (with_reducible exact zai.mono _ _)
  | (with_reducible exact zao.mono _ _)
  | (with_reducible exact LeO.refl _)
  | (with_reducible exact LeO.none _)
  | (with_reducible refine LeO.ite ?_ ?_)
  | (with_reducible refine LeO.bind ?_ (fun _=>?_))
  | exact zb0.mono _ _ _
  | exact zai.mono _ _
  | exact zao.mono _ _
  | exact LeO.none _
  | refine LeO.ite ?_ ?_
  | refine LeO.bind ?_ (fun _=>?_)
set_option maxHeartbeats 8000000 in
set_option maxRecDepth 100000 in
theorem zc5.calls (k:Nat) (a0:ByteArray) (a1:ByteArray) (r:ByteArray) (w:World) (h:zc5.f k a0 a1=some r) :
 Calls Tryd.prog 50 #[.string a0,.string a1] w fun e w'=>e = .returned (.string r)∧Below w.heap.size w w':=by
 have HB:=am (Below.refl w.heap.size w);have H:((zai.f k a0).bind fun t484=>((zai.f k a1).bind fun t487=>((zb0.f k t484 t487).bind fun t490=>((zao.f k t490).bind fun t493=>(some t493)))))=some r:=h;clear h;replace H:=Option.bind_eq_some_iff.mp H;obtain ⟨t484,A30,H⟩:=H;replace H:((zai.f k a1).bind fun t487=>((zb0.f k t484 t487).bind fun t490=>((zao.f k t490).bind fun t493=>(some t493))))=some r:=H;have A3:=za1.mk A30;clear A30;replace H:=Option.bind_eq_some_iff.mp H;obtain ⟨t487,A40,H⟩:=H;replace H:((zb0.f k t484 t487).bind fun t490=>((zao.f k t490).bind fun t493=>(some t493)))=some r:=H;have A4:=za1.mk A40;clear A40;replace H:=Option.bind_eq_some_iff.mp H;obtain ⟨t490,A50,H⟩:=H;replace H:((zao.f k t490).bind fun t493=>(some t493))=some r:=H;have A5:=za1.mk A50;clear A50;replace H:=Option.bind_eq_some_iff.mp H;obtain ⟨t493,A60,H⟩:=H;replace H:(some t493)=some r:=H;have A6:=za1.mk A60;clear A60;obtain rfl:=Option.some.inj H;go_enter Tryd.func50,Tryd.ntmps50
 go_wp2_with (first|((with_reducible refine zan (f:=61) rfl ?_);refine goesL_ (some 6) rfl rfl Tryd.func61 (by kernel_rfl) rfl #[.string a0] rfl q4 ?_;(with_reducible refine (zai.calls k a0 t484 _ A3.out).mono ?_);rintro e w7 ⟨v485,rfl,ho0,hb⟩;refine ⟨_,rfl,?_⟩;have HO486:=am (Kd.zc9 ho0 (zbb q2));replace HB:=am (zab q2 hb);(try clear hb);(try clear hb2);(try clear hk);(try clear hi);(try clear ho0))|((with_reducible refine zan (f:=61) rfl ?_);refine goesL_ (some 8) rfl rfl Tryd.func61 (by kernel_rfl) rfl #[.string a1] rfl q4 ?_;(with_reducible refine (zai.calls k a1 t487 _ A4.out).mono ?_);rintro e w8 ⟨v488,rfl,ho0,hb⟩;refine ⟨_,rfl,?_⟩;have HO489:=am (Kd.zc9 (Kd.R_new' ho0 (Kd.R_lt (by (with_reducible repeat (first|apply Kd.zb1|apply Kd.zb2|apply Kd.zb9));exact HO486.out))) (zbb q2));replace HO486:=am (Kd.R_elder' (by (with_reducible repeat (first|apply Kd.zb1|apply Kd.zb2|apply Kd.zb9));exact HO486.out) (Kd.zct ho0) hb);replace HB:=am (zab q2 hb);(try clear hb);(try clear hb2);(try clear hk);(try clear hi);(try clear ho0);obtain ⟨Ao9,co9,eo9⟩:=Kd.zbn HO486.out;subst eo9;obtain ⟨Ao10,co10,eo10⟩:=Kd.zbn HO489.out;subst eo10)|((with_reducible refine zan (f:=60) rfl ?_);refine goesL_ (some 9) rfl rfl Tryd.func60 (by kernel_rfl) rfl #[.slice Ao9 t484.length co9,.slice Ao10 t487.length co10] rfl q4 ?_;(with_reducible refine (zb0.calls k (fun k_=>some k_=(.slice Ao9 t484.length co9:Value).ownBlock) (.slice Ao9 t484.length co9) t484 (fun k_=>some k_=(.slice Ao10 t487.length co10:Value).ownBlock) (.slice Ao10 t487.length co10) t487 t490 w _ ?side1 ?side2 ?side3 ?side4 ?side5 A5.out).mono ?_);(case side1=>repeat (first|(with_reducible first|exact HB.out|apply zaw|apply zah|apply zar)|exact HB.out));(case side2=>exact Kd.zci rfl HO486.out);(case side3=>exact fun k_ e_=>(HO486.out.1 k_ e_.symm).2);(case side4=>exact Kd.zci rfl HO489.out);(case side5=>exact fun k_ e_=>(HO489.out.1 k_ e_.symm).2);rintro e w11 ⟨v491,rfl,ho0,hb,hkp⟩;refine ⟨_,rfl,?_⟩;have n0_:=am (Kd.zbm (ok':=fun k_=>True) ho0 (fun k_ hk_=>trivial));have n1_:=am (hb);clear HB;clear HO486;clear HO489;have HO492:=n0_;have HB:=n1_;clear n0_ n1_;(try clear hb);(try clear hkp);(try clear ho0);obtain ⟨Ao12,co12,eo12⟩:=Kd.zbn HO492.out;subst eo12)|((with_reducible refine zan (f:=59) rfl ?_);refine goesL_ (some 10) rfl rfl Tryd.func59 (by kernel_rfl) rfl #[.slice Ao12 t490.length co12] rfl q4 ?_;(with_reducible refine (zao.calls k (fun k_=>some k_=(.slice Ao12 t490.length co12:Value).ownBlock) (.slice Ao12 t490.length co12) t490 t493 w _ ?side1 ?side2 A6.out).mono ?_);(case side1=>repeat (first|(with_reducible first|exact HB.out|apply zaw|apply zah|apply zar)|exact HB.out));(case side2=>exact Kd.zci rfl HO492.out);rintro e w13 ⟨rfl,hb,hkp⟩;refine ⟨_,rfl,?_⟩;have n0_:=am (hb);clear HB;clear HO492;have HB:=n0_;clear n0_;(try clear hb);(try clear hkp)))
 go_ret;exact ⟨q8,q2⟩
def zac.j0:Nat→Bool→Bool→ByteArray→ByteArray→Option (Bool)
 | 0,_,_,_,_=>none
 | k+1,x21,x495000,x495001,x495002=>if x21=true then (some false) else (if x495001.toList=([]:List UInt8) then (if x495000=true then (some false) else (some (x495002.toList == ([]:List UInt8)))) else (if x495002.toList=([]:List UInt8) then (some true) else ((zc5.f k x495001 x495002).bind fun t497=>(some (t497.toList == ([1]:List UInt8))))))
def zac.f (k:Nat) (a0_0:Bool) (a0_1:ByteArray) (a0_2:ByteArray):Option (Bool):=(za8.f k a0_1).bind fun t495=>(if t495.toList=a0_1.toList then ((za8.f k a0_2).bind fun t496=>(if t496.toList=a0_2.toList then (zac.j0 k (a0_2.toList == ([1]:List UInt8)) a0_0 a0_1 a0_2) else (zac.j0 k true a0_0 a0_1 a0_2))) else (zac.j0 k true a0_0 a0_1 a0_2))
theorem zac.mono_l:∀ k,(∀ y0 y1 y2 y3,LeO (zac.j0 k y0 y1 y2 y3) (zac.j0 (k+1) y0 y1 y2 y3))
 | 0=>fun _ _ _ _ r h=>by simp [zac.j0] at h
 | k+1=>by
  have ih0:=zac.mono_l k
  ·intro y0 y1 y2 y3
   unfold zac.j0
   repeat' first
   | (with_reducible exact ih0 _ _ _ _)
   | (with_reducible exact zc5.mono _ _ _)
   | (with_reducible exact za8.mono _ _)
   | (with_reducible exact LeO.refl _)
   | (with_reducible exact LeO.none _)
   | (with_reducible refine LeO.ite ?_ ?_)
   | (with_reducible refine LeO.bind ?_ (fun _=>?_))
   | exact ih0 _ _ _ _
   | exact zc5.mono _ _ _
   | exact za8.mono _ _
   | exact LeO.none _
   | refine LeO.ite ?_ ?_
   | refine LeO.bind ?_ (fun _=>?_)
theorem zac.mono:∀ a0 a1 a2 k,LeO (zac.f k a0 a1 a2) (zac.f (k+1) a0 a1 a2):=by
 intro a0 a1 a2 k;have ih0:=zac.mono_l k;unfold zac.f
 repeat' first
  | (with_reducible exact ih0 _ _ _ _)
  | (with_reducible exact zc5.mono _ _ _)
  | (with_reducible exact za8.mono _ _)
  | (with_reducible exact LeO.refl _)
  | (with_reducible exact LeO.none _)
  | (with_reducible refine LeO.ite ?_ ?_)
  | (with_reducible refine LeO.bind ?_ (fun _=>?_))
  | exact ih0 _ _ _ _
  | exact zc5.mono _ _ _
  | exact za8.mono _ _
  | exact LeO.none _
  | refine LeO.ite ?_ ?_
  | refine LeO.bind ?_ (fun _=>?_)
set_option maxHeartbeats 8000000 in
set_option maxRecDepth 100000 in
theorem zac.calls (k:Nat) (a0_0:Bool) (a0_1:ByteArray) (a0_2:ByteArray) (r:Bool) (w:World) (h:zac.f k a0_0 a0_1 a0_2=some r) :
 Calls Tryd.prog 36 #[.agg #[.bool a0_0,.string a0_1,.string a0_2]] w fun e w'=>e = .returned (.bool r)∧Below w.heap.size w w':=by
 have hu30:=Tryd.underlying30;have HB:=am (Below.refl w.heap.size w);have H:((za8.f k a0_1).bind fun t495=>(if t495.toList=a0_1.toList then ((za8.f k a0_2).bind fun t496=>(if t496.toList=a0_2.toList then (zac.j0 k (a0_2.toList == ([1]:List UInt8)) a0_0 a0_1 a0_2) else (zac.j0 k true a0_0 a0_1 a0_2))) else (zac.j0 k true a0_0 a0_1 a0_2)))=some r:=h;clear h;have HC2:=za1.mk H;clear H;go_enter Tryd.func36,Tryd.ntmps36
 go_upto_region 1 with (first|((with_reducible refine zbr (N:=1) rfl ?_);refine zbq ?hg (N:=1) ?hd (cs:=#[.bool a0_0,.string a0_1,.string a0_2]) (t:=30) ?hr ?_;(case hd=>rfl);(case hg=>rfl);(case hr=>first|(go_simp;done)|(go_simp;rfl));intro g_a hg w3 hbox hb;have B_a:=am (hbox);have W_a:=am ((q48:w.heap.size≤g_a));have E_a:=am ((q48:w.heap.size≤g_a));replace HB:=am (zab q2 hb);clear hb hbox hg))
 repeat (go_quiet (first|((with_reducible refine zbr (N:=1) rfl ?_);refine zbq ?hg (N:=1) ?hd (cs:=#[.bool a0_0,.string a0_1,.string a0_2]) (t:=30) ?hr ?_;(case hd=>rfl);(case hg=>rfl);(case hr=>first|(go_simp;done)|(go_simp;rfl));intro g_a hg w3 hbox hb;have B_a:=am (hbox);have W_a:=am ((q48:w.heap.size≤g_a));have E_a:=am ((q48:w.heap.size≤g_a));replace HB:=am (zab q2 hb);clear hb hbox hg));go_upto_region 1 with (first|((with_reducible refine zbr (N:=1) rfl ?_);refine zbq ?hg (N:=1) ?hd (cs:=#[.bool a0_0,.string a0_1,.string a0_2]) (t:=30) ?hr ?_;(case hd=>rfl);(case hg=>rfl);(case hr=>first|(go_simp;done)|(go_simp;rfl));intro g_a hg w3 hbox hb;have B_a:=am (hbox);have W_a:=am ((q48:w.heap.size≤g_a));have E_a:=am ((q48:w.heap.size≤g_a));replace HB:=am (zab q2 hb);clear hb hbox hg)))
 (try simp only [Act.put,List.setIfInBounds_toArray,List.set_cons_zero,List.set_cons_succ])
 go_cut [21] (fun v21 wc=>∃ (kq:Nat) (x21_1:Bool),v21 = .bool x21_1∧za1 (zac.j0 kq x21_1 a0_0 a0_1 a0_2=some r)∧za1 (kq≤k)∧za1 (wc.heap[g_a]?=some (.cells #[.bool a0_0,.string a0_1,.string a0_2] 30 (0,0)))∧za1 (Below w.heap.size w wc))
 case first=>
  have H:=HC2.out;clear HC2;replace H:=Option.bind_eq_some_iff.mp H;obtain ⟨t495,A40,H⟩:=H;replace H:(if t495.toList=a0_1.toList then ((za8.f k a0_2).bind fun t496=>(if t496.toList=a0_2.toList then (zac.j0 k (a0_2.toList == ([1]:List UInt8)) a0_0 a0_1 a0_2) else (zac.j0 k true a0_0 a0_1 a0_2))) else (zac.j0 k true a0_0 a0_1 a0_2))=some r:=H;have A4:=za1.mk A40;clear A40
  by_cases c5:t495.toList=a0_1.toList
  ·rw [if_pos c5] at H
   have c5b0:(t495.toList == a0_1.toList)=true:=beq_iff_eq.mpr c5;have c5b1:(t495.toList != a0_1.toList)=false:=bne_eq_false_iff_eq.mpr c5;clear c5
   (first|rw [c5b0]|(simp only [i64_w,i32_w];rw [c5b0])|skip)
   replace H:=Option.bind_eq_some_iff.mp H;obtain ⟨t496,A60,H⟩:=H;replace H:(if t496.toList=a0_2.toList then (zac.j0 k (a0_2.toList == ([1]:List UInt8)) a0_0 a0_1 a0_2) else (zac.j0 k true a0_0 a0_1 a0_2))=some r:=H;have A6:=za1.mk A60;clear A60
   by_cases c7:t496.toList=a0_2.toList
   ·rw [if_pos c7] at H
    have c7b0:(t496.toList == a0_2.toList)=true:=beq_iff_eq.mpr c7;have c7b1:(t496.toList != a0_2.toList)=false:=bne_eq_false_iff_eq.mpr c7;clear c7;have H':=za1.mk H;clear H;obtain ⟨c_a0,c_a1,c_a2⟩:=cs3 B_a.out;obtain ⟨f_a0,f_a1,f_a2⟩:=fs3 B_a.out
    go_wp2_with (first|(go_at_call 49;(with_reducible refine (za8.calls k a0_1 t495 _ A4.out).mono ?_);rintro e w' ⟨rfl,⟨nd,rfl⟩⟩;(try first|exact ⟨rfl,_,World.drewN_drewN _ _ _⟩|exact ⟨rfl,_,Eq.trans (World.drewN_drewN _ _ _) (congrArg (World.drewN _) (Nat.add_assoc _ _ _))⟩))|(go_at_call 49;(with_reducible refine (za8.calls k a0_2 t496 _ A6.out).mono ?_);rintro e w' ⟨rfl,⟨nd,rfl⟩⟩;(try first|exact ⟨rfl,_,World.drewN_drewN _ _ _⟩|exact ⟨rfl,_,Eq.trans (World.drewN_drewN _ _ _) (congrArg (World.drewN _) (Nat.add_assoc _ _ _))⟩)))
    repeat (go_quiet (first|(go_at_call 49;(with_reducible refine (za8.calls k a0_1 t495 _ A4.out).mono ?_);rintro e w' ⟨rfl,⟨nd,rfl⟩⟩;(try first|exact ⟨rfl,_,World.drewN_drewN _ _ _⟩|exact ⟨rfl,_,Eq.trans (World.drewN_drewN _ _ _) (congrArg (World.drewN _) (Nat.add_assoc _ _ _))⟩))|(go_at_call 49;(with_reducible refine (za8.calls k a0_2 t496 _ A6.out).mono ?_);rintro e w' ⟨rfl,⟨nd,rfl⟩⟩;(try first|exact ⟨rfl,_,World.drewN_drewN _ _ _⟩|exact ⟨rfl,_,Eq.trans (World.drewN_drewN _ _ _) (congrArg (World.drewN _) (Nat.add_assoc _ _ _))⟩)));try go_wp2_with (first|(go_at_call 49;(with_reducible refine (za8.calls k a0_1 t495 _ A4.out).mono ?_);rintro e w' ⟨rfl,⟨nd,rfl⟩⟩;(try first|exact ⟨rfl,_,World.drewN_drewN _ _ _⟩|exact ⟨rfl,_,Eq.trans (World.drewN_drewN _ _ _) (congrArg (World.drewN _) (Nat.add_assoc _ _ _))⟩))|(go_at_call 49;(with_reducible refine (za8.calls k a0_2 t496 _ A6.out).mono ?_);rintro e w' ⟨rfl,⟨nd,rfl⟩⟩;(try first|exact ⟨rfl,_,World.drewN_drewN _ _ _⟩|exact ⟨rfl,_,Eq.trans (World.drewN_drewN _ _ _) (congrArg (World.drewN _) (Nat.add_assoc _ _ _))⟩))))
    go_meet
    case rel=>exact ⟨_,((a0_2.toList == ([1]:List UInt8))),q5,H',⟨q18⟩,⟨q1⟩,⟨q3⟩⟩
   ·rw [if_neg c7] at H
    have c7b0:(t496.toList == a0_2.toList)=false:=beq_eq_false_iff_ne.mpr c7;have c7b1:(t496.toList != a0_2.toList)=true:=bne_iff_ne.mpr c7;have H':=za1.mk H;clear H;obtain ⟨c_b0,c_b1,c_b2⟩:=cs3 B_a.out;obtain ⟨f_b0,f_b1,f_b2⟩:=fs3 B_a.out
    go_wp2_with (first|(go_at_call 49;(with_reducible refine (za8.calls k a0_1 t495 _ A4.out).mono ?_);rintro e w' ⟨rfl,⟨nd,rfl⟩⟩;(try first|exact ⟨rfl,_,World.drewN_drewN _ _ _⟩|exact ⟨rfl,_,Eq.trans (World.drewN_drewN _ _ _) (congrArg (World.drewN _) (Nat.add_assoc _ _ _))⟩))|(go_at_call 49;(with_reducible refine (za8.calls k a0_2 t496 _ A6.out).mono ?_);rintro e w' ⟨rfl,⟨nd,rfl⟩⟩;(try first|exact ⟨rfl,_,World.drewN_drewN _ _ _⟩|exact ⟨rfl,_,Eq.trans (World.drewN_drewN _ _ _) (congrArg (World.drewN _) (Nat.add_assoc _ _ _))⟩)))
    repeat (go_quiet (first|(go_at_call 49;(with_reducible refine (za8.calls k a0_1 t495 _ A4.out).mono ?_);rintro e w' ⟨rfl,⟨nd,rfl⟩⟩;(try first|exact ⟨rfl,_,World.drewN_drewN _ _ _⟩|exact ⟨rfl,_,Eq.trans (World.drewN_drewN _ _ _) (congrArg (World.drewN _) (Nat.add_assoc _ _ _))⟩))|(go_at_call 49;(with_reducible refine (za8.calls k a0_2 t496 _ A6.out).mono ?_);rintro e w' ⟨rfl,⟨nd,rfl⟩⟩;(try first|exact ⟨rfl,_,World.drewN_drewN _ _ _⟩|exact ⟨rfl,_,Eq.trans (World.drewN_drewN _ _ _) (congrArg (World.drewN _) (Nat.add_assoc _ _ _))⟩)));try go_wp2_with (first|(go_at_call 49;(with_reducible refine (za8.calls k a0_1 t495 _ A4.out).mono ?_);rintro e w' ⟨rfl,⟨nd,rfl⟩⟩;(try first|exact ⟨rfl,_,World.drewN_drewN _ _ _⟩|exact ⟨rfl,_,Eq.trans (World.drewN_drewN _ _ _) (congrArg (World.drewN _) (Nat.add_assoc _ _ _))⟩))|(go_at_call 49;(with_reducible refine (za8.calls k a0_2 t496 _ A6.out).mono ?_);rintro e w' ⟨rfl,⟨nd,rfl⟩⟩;(try first|exact ⟨rfl,_,World.drewN_drewN _ _ _⟩|exact ⟨rfl,_,Eq.trans (World.drewN_drewN _ _ _) (congrArg (World.drewN _) (Nat.add_assoc _ _ _))⟩))))
    go_meet
    case rel=>exact ⟨_,(true),q5,H',⟨q18⟩,⟨q1⟩,⟨q3⟩⟩
  ·rw [if_neg c5] at H
   have c5b0:(t495.toList == a0_1.toList)=false:=beq_eq_false_iff_ne.mpr c5;have c5b1:(t495.toList != a0_1.toList)=true:=bne_iff_ne.mpr c5
   (first|rw [c5b0]|(simp only [i64_w,i32_w];rw [c5b0])|skip)
   have H':=za1.mk H;clear H;obtain ⟨c_c0,c_c1,c_c2⟩:=cs3 B_a.out;obtain ⟨f_c0,f_c1,f_c2⟩:=fs3 B_a.out
   go_wp2_with (first|(go_at_call 49;(with_reducible refine (za8.calls k a0_1 t495 _ A4.out).mono ?_);rintro e w' ⟨rfl,⟨nd,rfl⟩⟩;(try first|exact ⟨rfl,_,World.drewN_drewN _ _ _⟩|exact ⟨rfl,_,Eq.trans (World.drewN_drewN _ _ _) (congrArg (World.drewN _) (Nat.add_assoc _ _ _))⟩)))
   repeat (go_quiet (first|(go_at_call 49;(with_reducible refine (za8.calls k a0_1 t495 _ A4.out).mono ?_);rintro e w' ⟨rfl,⟨nd,rfl⟩⟩;(try first|exact ⟨rfl,_,World.drewN_drewN _ _ _⟩|exact ⟨rfl,_,Eq.trans (World.drewN_drewN _ _ _) (congrArg (World.drewN _) (Nat.add_assoc _ _ _))⟩)));try go_wp2_with (first|(go_at_call 49;(with_reducible refine (za8.calls k a0_1 t495 _ A4.out).mono ?_);rintro e w' ⟨rfl,⟨nd,rfl⟩⟩;(try first|exact ⟨rfl,_,World.drewN_drewN _ _ _⟩|exact ⟨rfl,_,Eq.trans (World.drewN_drewN _ _ _) (congrArg (World.drewN _) (Nat.add_assoc _ _ _))⟩))))
   go_meet
   case rel=>exact ⟨_,(true),q5,H',⟨q18⟩,⟨q1⟩,⟨q3⟩⟩
 case rest=>
  clear HC2;(try clear p2);(try clear c3);(try clear c5);(try clear c5b0);(try clear c5b1);(try clear c7);(try clear c7b0);(try clear c7b1);(try clear c_c0 c_c1 c_c2 f_c0 f_c1 f_c2);(try clear c_a0 c_a1 c_a2 f_a0 f_a1 f_a2);(try clear c_b0 c_b1 c_b2 f_b0 f_b1 f_b2);obtain ⟨kq,x21_1,rfl,HA,HJ1,B_a,HB⟩:=hcut
  cases kq with
  | zero=>exact absurd HA.out (by simp [zac.j0])
  | succ kj1=>
   have H:=HA.out;clear HA;simp only [zac.j0] at H
   by_cases c11:x21_1=true
   ·subst c11
    have H1:(some false)=some r:=by rw [if_pos rfl] at H;exact H
    clear H;have H:=H1;clear H1;obtain rfl:=Option.some.inj H
    go_wp2
    repeat (go_quiet (fail);try go_wp2)
    go_ret;exact ⟨q8,q3⟩
   ·replace c11:=Bool.eq_false_iff.mpr c11
    subst c11
    have H1:(if a0_1.toList=([]:List UInt8) then (if a0_0=true then (some false) else (some (a0_2.toList == ([]:List UInt8)))) else (if a0_2.toList=([]:List UInt8) then (some true) else ((zc5.f kj1 a0_1 a0_2).bind fun t497=>(some (t497.toList == ([1]:List UInt8))))))=some r:=by rw [if_neg (show ¬ (false=true) by decide)] at H;exact H
    clear H;have H:=H1;clear H1
    by_cases c12:a0_1.toList=([]:List UInt8)
    ·rw [if_pos c12] at H
     have c12b0:(a0_1.toList == ([]:List UInt8))=true:=beq_iff_eq.mpr c12;have c12b1:(a0_1.toList != ([]:List UInt8))=false:=bne_eq_false_iff_eq.mpr c12;clear c12
     by_cases c13:a0_0=true
     ·subst c13
      have H1:(some false)=some r:=by rw [if_pos rfl] at H;exact H
      clear H;have H:=H1;clear H1;obtain rfl:=Option.some.inj H;obtain ⟨c_d0,c_d1,c_d2⟩:=cs3 B_a.out;obtain ⟨f_d0,f_d1,f_d2⟩:=fs3 B_a.out
      go_wp2
      repeat (go_quiet (fail);try go_wp2)
      go_ret;exact ⟨q8,q3⟩
     ·replace c13:=Bool.eq_false_iff.mpr c13
      subst c13
      have H1:(some (a0_2.toList == ([]:List UInt8)))=some r:=by rw [if_neg (show ¬ (false=true) by decide)] at H;exact H
      clear H;have H:=H1;clear H1;obtain rfl:=Option.some.inj H;obtain ⟨c_e0,c_e1,c_e2⟩:=cs3 B_a.out;obtain ⟨f_e0,f_e1,f_e2⟩:=fs3 B_a.out
      go_wp2
      repeat (go_quiet (fail);try go_wp2)
      go_ret;exact ⟨q8,q3⟩
    ·rw [if_neg c12] at H
     have c12b0:(a0_1.toList == ([]:List UInt8))=false:=beq_eq_false_iff_ne.mpr c12;have c12b1:(a0_1.toList != ([]:List UInt8))=true:=bne_iff_ne.mpr c12
     by_cases c16:a0_2.toList=([]:List UInt8)
     ·rw [if_pos c16] at H
      have c16b0:(a0_2.toList == ([]:List UInt8))=true:=beq_iff_eq.mpr c16;have c16b1:(a0_2.toList != ([]:List UInt8))=false:=bne_eq_false_iff_eq.mpr c16;clear c16;obtain rfl:=Option.some.inj H;obtain ⟨c_f0,c_f1,c_f2⟩:=cs3 B_a.out;obtain ⟨f_f0,f_f1,f_f2⟩:=fs3 B_a.out
      go_wp2
      repeat (go_quiet (fail);try go_wp2)
      go_ret;exact ⟨q8,q3⟩
     ·rw [if_neg c16] at H
      have c16b0:(a0_2.toList == ([]:List UInt8))=false:=beq_eq_false_iff_ne.mpr c16;have c16b1:(a0_2.toList != ([]:List UInt8))=true:=bne_iff_ne.mpr c16;replace H:=Option.bind_eq_some_iff.mp H;obtain ⟨t497,A180,H⟩:=H;replace H:(some (t497.toList == ([1]:List UInt8)))=some r:=H;have A18:=za1.mk A180;clear A180;obtain rfl:=Option.some.inj H;obtain ⟨c_g0,c_g1,c_g2⟩:=cs3 B_a.out;obtain ⟨f_g0,f_g1,f_g2⟩:=fs3 B_a.out
      go_wp2_with (first|(go_at_call 50;(with_reducible refine (zc5.calls kj1 a0_1 a0_2 t497 _ A18.out).mono ?_);rintro e w20 ⟨rfl,hb⟩;replace B_a:=am (zaf q1 hb);replace HB:=am (zab q3 hb);(try clear hb);(try clear hb2);(try clear hk);(try clear hi)))
      repeat (go_quiet (first|(go_at_call 50;(with_reducible refine (zc5.calls kj1 a0_1 a0_2 t497 _ A18.out).mono ?_);rintro e w20 ⟨rfl,hb⟩;replace B_a:=am (zaf q1 hb);replace HB:=am (zab q3 hb);(try clear hb);(try clear hb2);(try clear hk);(try clear hi)));try go_wp2_with (first|(go_at_call 50;(with_reducible refine (zc5.calls kj1 a0_1 a0_2 t497 _ A18.out).mono ?_);rintro e w20 ⟨rfl,hb⟩;replace B_a:=am (zaf q1 hb);replace HB:=am (zab q3 hb);(try clear hb);(try clear hb2);(try clear hk);(try clear hi))))
      go_ret;exact ⟨q8,q3⟩
def zb5.l0:Nat→List Int→Int→Option (List Int)
 | 0,_,_=>none
 | k+1,x0,x1=>if x1≥128 then (if x0.length<140737488355328 then (zb5.l0 k (x0 ++ [(Go.bits .or .u64 (Go.bits .and .u64 x1 127) 128)%256]) (x1/128)) else (none)) else (if x0.length<140737488355328 then (some (x0 ++ [(x1)%256])) else (none))
def zb5.f (k:Nat) (l0:List Int) (a1:Int):Option (List Int):=zb5.l0 k l0 a1
theorem zb5.mono_l:∀ k,(∀ y0 y1,LeO (zb5.l0 k y0 y1) (zb5.l0 (k+1) y0 y1))
 | 0=>fun _ _ r h=>by simp [zb5.l0] at h
 | k+1=>by
  have ih0:=zb5.mono_l k
  ·intro y0 y1
   unfold zb5.l0
   repeat' first
   | (with_reducible exact ih0 _ _)
   | (with_reducible exact LeO.refl _)
   | (with_reducible exact LeO.none _)
   | (with_reducible refine LeO.ite ?_ ?_)
   | (with_reducible refine LeO.bind ?_ (fun _=>?_))
   | exact ih0 _ _
   | exact LeO.none _
   | refine LeO.ite ?_ ?_
   | refine LeO.bind ?_ (fun _=>?_)
theorem zb5.mono:∀ a0 a1 k,LeO (zb5.f k a0 a1) (zb5.f (k+1) a0 a1):=by
 intro a0 a1 k;have ih0:=zb5.mono_l k;unfold zb5.f
 repeat' first
  | (with_reducible exact ih0 _ _)
  | (with_reducible exact LeO.refl _)
  | (with_reducible exact LeO.none _)
  | (with_reducible refine LeO.ite ?_ ?_)
  | (with_reducible refine LeO.bind ?_ (fun _=>?_))
  | exact ih0 _ _
  | exact LeO.none _
  | refine LeO.ite ?_ ?_
  | refine LeO.bind ?_ (fun _=>?_)
set_option maxHeartbeats 8000000 in
set_option maxRecDepth 100000 in
theorem zb5.calls (k:Nat) (P0_:Nat→Prop) (u9000_:Value) (l0:List Int) (a1:Int) (r:List Int) (w0 w:World) (hB:Below w0.heap.size w0 w) (ho0:Kd.R (Kd.int .u8) 5 w w0.heap.size P0_ u9000_ l0) (h:zb5.f k l0 a1=some r) :
 Calls Tryd.prog 56 #[u9000_,.int .u64 a1] w fun e w'=>∃ v0_:Value,e = .returned (v0_)∧Kd.R (Kd.int .u8) 5 w' w0.heap.size (fun k_=>(P0_ k_∨w.heap.size≤k_)) v0_ r∧Below w0.heap.size w0 w'∧Kept w w' (fun k_=>P0_ k_):=by
 have HO0:=am (show Kd.R (Kd.int .u8) 5 w w0.heap.size (fun k_=>(P0_ k_∨w.heap.size≤k_)) u9000_ l0 from Kd.zbm ho0 (fun k_ hk=>(.inl hk)));have HK:=am (Kept.refl w (fun k_=>P0_ k_));have HW0:=za1.mk hB.size;have HB:=za1.mk hB;clear hB;have H:(zb5.l0 k l0 a1)=some r:=h;clear h;have H':=za1.mk H;clear H;go_enter Tryd.func56,Tryd.ntmps56
 go_wp2
 go_loopg [0,1] k (fun kq v0 v1 w'=>∃ (x0_1:List Int) (x1_1:Int),v1 = .int .u64 x1_1∧za1 (zb5.l0 kq x0_1 x1_1=some r)∧za1 (kq≤k)∧za1 (Kd.R (Kd.int .u8) 5 w' w0.heap.size (fun k_=>(P0_ k_∨w.heap.size≤k_)) v0 x0_1)∧za1 (Kept w w' (fun k_=>P0_ k_))∧za1 (Below w0.heap.size w0 w'))
 case atStart=>exact ⟨(l0),(a1),q5,H',⟨Nat.le_refl _⟩,⟨q21⟩,⟨q9⟩,⟨q2⟩⟩
 case round=>
  clear H';(try clear p2);obtain ⟨x0_1,x1_1,rfl,HA,HK1,HO_0,HK,HB⟩:=hrel
  cases gk with
  | zero=>exact absurd HA.out (by simp [zb5.l0])
  | succ k1=>
   have H:=HA.out;clear HA;simp only [zb5.l0] at H
   by_cases c3:x1_1≥128
   ·rw [if_pos c3] at H
    have c3b0:decide (128≤x1_1)=true:=decide_eq_true c3;clear c3
    by_cases c4:x0_1.length<140737488355328
    ·rw [if_pos c4] at H
     have LMc4:=za1.mk c4;clear c4
     obtain ⟨y279,hy279⟩:∃ y_:List Int,y_=(x0_1 ++ [(Go.bits .or .u64 (Go.bits .and .u64 x1_1 127) 128)%256]):=⟨_,rfl⟩
     replace H:(zb5.l0 k1 y279 (x1_1/128))=some r:=by first|(rw [hy279];with_reducible exact H)|(have H2_:=(Option.bind_some _ _).symm.trans H;rw [hy279];with_reducible exact H2_)|(have H2_:=(Option.bind_some _ _).symm.trans H;with_reducible exact H2_)|with_reducible exact H|(rw [hy279];exact H)|exact H
     have Ny279:=za1.mk hy279;clear hy279;have H':=za1.mk H;clear H
     go_wp2_with (first|((with_reducible refine zd7 (b:=.append) (xs:=#[.tmp 7,.tmp 12]) rfl ?_);at_builtin;refine Kd.R_append (Kd.int .u8) (w0:=w0) w0.heap.size rfl (.tmp 7) (.tmp 12) 22 5 (.int .u8 0) 1 rfl Tryd.underlying22 info5 rfl (by decide) (by omega) u0 x0_1 ((Go.bits .or .u64 (Go.bits .and .u64 x1_1 127) 128)%256) [.int .u8 ((Go.bits .or .u64 (Go.bits .and .u64 x1_1 127) 128)%256)] (fun k_=>(P0_ k_∨w.heap.size≤k_)) (fun _=>False) rfl rfl ?aP (fun _ hk=>hk.elim) ?aF ?aO ?aB ?aS ?aL ?_;(case aP=>exact rfl);(case aB=>exact q2);(case aF=>exact (fun k_ hk=>(.inr (Nat.le_trans (by first|exact HK.out.1|exact (show Kept w _ (fun k_=>P0_ k_) from by repeat (first|(with_reducible first|exact HK.out|apply Kept.alloc|apply Kept.drewN|apply Kept.drew)|exact HK.out)).1) hk))));(case aO=>exact q36);(case aS=>exact (zbb q2));(case aL=>have:=LMc4.out;omega);intro v280 w5 ho hb hg hat;rw [← Ny279.out] at ho;have n0_:=am (hb);have n1_:=am (Kept.of_grown (S:=(fun k_=>P0_ k_)) hg q9 (fun k_ e_=>(HO_0.out.1 k_ e_)));have n2_:=am (ho);clear HB;clear HK;clear HO_0;have HB:=n0_;have HK:=n1_;have HO281:=n2_;clear n0_ n1_ n2_;clear ho hb hg hat))
     go_roundg k1
     case measure=>have:=HK1.out;omega
     case rel=>exact ⟨(y279),(x1_1/128),q5,H',⟨q13⟩,⟨by (with_reducible repeat (first|apply Kd.zb1|apply Kd.zb2|apply Kd.zb9));exact HO281.out⟩,⟨q9⟩,⟨q2⟩⟩
    ·rw [if_neg c4] at H
     exact absurd H (by simp)
   ·rw [if_neg c3] at H
    have c3b0:decide (128≤x1_1)=false:=decide_eq_false c3;clear c3
    by_cases c6:x0_1.length<140737488355328
    ·rw [if_pos c6] at H
     have LMc6:=za1.mk c6;clear c6
     obtain ⟨y282,hy282⟩:∃ y_:List Int,y_=(x0_1 ++ [(x1_1)%256]):=⟨_,rfl⟩
     replace H:(some y282)=some r:=by first|(rw [hy282];with_reducible exact H)|(have H2_:=(Option.bind_some _ _).symm.trans H;rw [hy282];with_reducible exact H2_)|(have H2_:=(Option.bind_some _ _).symm.trans H;with_reducible exact H2_)|with_reducible exact H|(rw [hy282];exact H)|exact H
     have Ny282:=za1.mk hy282;clear hy282;obtain rfl:=Option.some.inj H
     go_wp2_with (first|((with_reducible refine zd7 (b:=.append) (xs:=#[.tmp 16,.tmp 19]) rfl ?_);at_builtin;refine Kd.R_append (Kd.int .u8) (w0:=w0) w0.heap.size rfl (.tmp 16) (.tmp 19) 22 5 (.int .u8 0) 1 rfl Tryd.underlying22 info5 rfl (by decide) (by omega) u0 x0_1 ((x1_1)%256) [.int .u8 ((x1_1)%256)] (fun k_=>(P0_ k_∨w.heap.size≤k_)) (fun _=>False) rfl rfl ?aP (fun _ hk=>hk.elim) ?aF ?aO ?aB ?aS ?aL ?_;(case aP=>exact rfl);(case aB=>exact q2);(case aF=>exact (fun k_ hk=>(.inr (Nat.le_trans (by first|exact HK.out.1|exact (show Kept w _ (fun k_=>P0_ k_) from by repeat (first|(with_reducible first|exact HK.out|apply Kept.alloc|apply Kept.drewN|apply Kept.drew)|exact HK.out)).1) hk))));(case aO=>exact q36);(case aS=>exact (zbb q2));(case aL=>have:=LMc6.out;omega);intro v283 w7 ho hb hg hat;rw [← Ny282.out] at ho;have n0_:=am (hb);have n1_:=am (Kept.of_grown (S:=(fun k_=>P0_ k_)) hg q9 (fun k_ e_=>(HO_0.out.1 k_ e_)));have n2_:=am (ho);clear HB;clear HK;clear HO_0;have HB:=n0_;have HK:=n1_;have HO284:=n2_;clear n0_ n1_ n2_;clear ho hb hg hat))
     go_ret;exact ⟨_,q8,by (with_reducible repeat (first|apply Kd.zb1|apply Kd.zb2|apply Kd.zb9));exact HO284.out,q2,q9⟩
    ·rw [if_neg c6] at H
     exact absurd H (by simp)
def zae.f (k:Nat) (l0:List Int) (a1:Int):Option (List Int):=if a1<0 then ((zb5.f k l0 (IntKind.u64.wrap (wrap64 ((wrap64 ((-2)*a1))-1)))).bind fun t285=>(some t285)) else ((zb5.f k l0 (IntKind.u64.wrap (wrap64 (2*a1)))).bind fun t288=>(some t288))
theorem zae.mono:∀ a0 a1 k,LeO (zae.f k a0 a1) (zae.f (k+1) a0 a1):=by
 intro a0 a1 k;unfold zae.f
 repeat' first
  | (with_reducible exact zb5.mono _ _ _)
  | (with_reducible exact LeO.refl _)
  | (with_reducible exact LeO.none _)
  | (with_reducible refine LeO.ite ?_ ?_)
  | (with_reducible refine LeO.bind ?_ (fun _=>?_))
  | exact zb5.mono _ _ _
  | exact LeO.none _
  | refine LeO.ite ?_ ?_
  | refine LeO.bind ?_ (fun _=>?_)
set_option maxHeartbeats 8000000 in
set_option maxRecDepth 100000 in
theorem zae.calls (k:Nat) (P0_:Nat→Prop) (u9000_:Value) (l0:List Int) (a1:Int) (r:List Int) (w0 w:World) (hB:Below w0.heap.size w0 w) (ho0:Kd.R (Kd.int .u8) 5 w w0.heap.size P0_ u9000_ l0) (h:zae.f k l0 a1=some r) :
 Calls Tryd.prog 43 #[u9000_,.int .i64 a1] w fun e w'=>∃ v0_:Value,e = .returned (v0_)∧Kd.R (Kd.int .u8) 5 w' w0.heap.size (fun k_=>(P0_ k_∨w.heap.size≤k_)) v0_ r∧Below w0.heap.size w0 w'∧Kept w w' (fun k_=>P0_ k_):=by
 have HO0:=am (show Kd.R (Kd.int .u8) 5 w w0.heap.size (fun k_=>(P0_ k_∨w.heap.size≤k_)) u9000_ l0 from Kd.zbm ho0 (fun k_ hk=>(.inl hk)));have HK:=am (Kept.refl w (fun k_=>P0_ k_));have HW0:=za1.mk hB.size;have HB:=za1.mk hB;clear hB;have H:(if a1<0 then ((zb5.f k l0 (IntKind.u64.wrap (wrap64 ((wrap64 ((-2)*a1))-1)))).bind fun t285=>(some t285)) else ((zb5.f k l0 (IntKind.u64.wrap (wrap64 (2*a1)))).bind fun t288=>(some t288)))=some r:=h;clear h
 by_cases c3:a1<0
 ·rw [if_pos c3] at H
  have c3b0:decide (a1<0)=true:=decide_eq_true c3;clear c3;replace H:=Option.bind_eq_some_iff.mp H;obtain ⟨t285,A40,H⟩:=H;replace H:(some t285)=some r:=H;have A4:=za1.mk A40;clear A40;obtain rfl:=Option.some.inj H;obtain ⟨Ao5,co5,eo5⟩:=Kd.zbn HO0.out;subst eo5;go_enter Tryd.func43,Tryd.ntmps43
  go_wp2_with (first|((with_reducible refine zan (f:=56) rfl ?_);refine goesL_ (some 12) rfl rfl Tryd.func56 (by kernel_rfl) rfl #[.slice Ao5 l0.length co5,.int .u64 (IntKind.u64.wrap (wrap64 ((wrap64 ((-2)*a1))-1)))] rfl q4 ?_;(with_reducible refine (zb5.calls k (fun k_=>some k_=(.slice Ao5 l0.length co5:Value).ownBlock) (.slice Ao5 l0.length co5) l0 (IntKind.u64.wrap (wrap64 ((wrap64 ((-2)*a1))-1))) t285 w0 _ ?side1 ?side2 A4.out).mono ?_);(case side1=>repeat (first|(with_reducible first|exact HB.out|apply zaw|apply zah|apply zar)|exact HB.out));(case side2=>exact Kd.zci rfl HO0.out);rintro e w6 ⟨v286,rfl,ho0,hb,hkp⟩;refine ⟨_,rfl,?_⟩;have n0_:=am (Kd.zbm (ok':=fun k_=>(P0_ k_∨w.heap.size≤k_)) ho0 (fun k_ hk_=>Or.elim hk_ (fun hs_=>(HO0.out.1 k_ (hs_).symm)) (fun hn_=>(.inr (Nat.le_trans (by first|exact HK.out.1|exact (show Kept w _ (fun k_=>P0_ k_) from by repeat (first|(with_reducible first|exact HK.out|apply Kept.alloc|apply Kept.drewN|apply Kept.drew)|exact HK.out)).1) hn_)))));have n1_:=am (Kept.then_ (S:=(fun k_=>P0_ k_)) q9 hkp (fun k_ hs_=>(fun e_=>(HO0.out.1 k_ e_.symm)) hs_));have n2_:=am (hb);clear HK;clear HB;clear HO0;have HO287:=n0_;have HK:=n1_;have HB:=n2_;clear n0_ n1_ n2_;(try clear hb);(try clear hkp);(try clear ho0)))
  go_ret;exact ⟨_,q8,by (with_reducible repeat (first|apply Kd.zb1|apply Kd.zb2|apply Kd.zb9));exact HO287.out,q2,q9⟩
 ·rw [if_neg c3] at H
  have c3b0:decide (a1<0)=false:=decide_eq_false c3;clear c3;replace H:=Option.bind_eq_some_iff.mp H;obtain ⟨t288,A70,H⟩:=H;replace H:(some t288)=some r:=H;have A7:=za1.mk A70;clear A70;obtain rfl:=Option.some.inj H;obtain ⟨Ao8,co8,eo8⟩:=Kd.zbn HO0.out;subst eo8;go_enter Tryd.func43,Tryd.ntmps43
  go_wp2_with (first|((with_reducible refine zan (f:=56) rfl ?_);refine goesL_ (some 17) rfl rfl Tryd.func56 (by kernel_rfl) rfl #[.slice Ao8 l0.length co8,.int .u64 (IntKind.u64.wrap (wrap64 (2*a1)))] rfl q4 ?_;(with_reducible refine (zb5.calls k (fun k_=>some k_=(.slice Ao8 l0.length co8:Value).ownBlock) (.slice Ao8 l0.length co8) l0 (IntKind.u64.wrap (wrap64 (2*a1))) t288 w0 _ ?side1 ?side2 A7.out).mono ?_);(case side1=>repeat (first|(with_reducible first|exact HB.out|apply zaw|apply zah|apply zar)|exact HB.out));(case side2=>exact Kd.zci rfl HO0.out);rintro e w9 ⟨v289,rfl,ho0,hb,hkp⟩;refine ⟨_,rfl,?_⟩;have n0_:=am (Kd.zbm (ok':=fun k_=>(P0_ k_∨w.heap.size≤k_)) ho0 (fun k_ hk_=>Or.elim hk_ (fun hs_=>(HO0.out.1 k_ (hs_).symm)) (fun hn_=>(.inr (Nat.le_trans (by first|exact HK.out.1|exact (show Kept w _ (fun k_=>P0_ k_) from by repeat (first|(with_reducible first|exact HK.out|apply Kept.alloc|apply Kept.drewN|apply Kept.drew)|exact HK.out)).1) hn_)))));have n1_:=am (Kept.then_ (S:=(fun k_=>P0_ k_)) q9 hkp (fun k_ hs_=>(fun e_=>(HO0.out.1 k_ e_.symm)) hs_));have n2_:=am (hb);clear HK;clear HB;clear HO0;have HO290:=n0_;have HK:=n1_;have HB:=n2_;clear n0_ n1_ n2_;(try clear hb);(try clear hkp);(try clear ho0)))
  go_ret;exact ⟨_,q8,by (with_reducible repeat (first|apply Kd.zb1|apply Kd.zb2|apply Kd.zb9));exact HO290.out,q2,q9⟩
def zbd.f (k:Nat) (l0:List Int) (a1:ByteArray):Option (List Int):=(zae.f k l0 (a1.size:Int)).bind fun t291=>(if t291.length+a1.size<140737488355328 then (some (t291 ++ bytesOf a1)) else (none))
theorem zbd.mono:∀ a0 a1 k,LeO (zbd.f k a0 a1) (zbd.f (k+1) a0 a1):=by
 intro a0 a1 k;unfold zbd.f
 repeat' first
  | (with_reducible exact zae.mono _ _ _)
  | (with_reducible exact LeO.refl _)
  | (with_reducible exact LeO.none _)
  | (with_reducible refine LeO.ite ?_ ?_)
  | (with_reducible refine LeO.bind ?_ (fun _=>?_))
  | exact zae.mono _ _ _
  | exact LeO.none _
  | refine LeO.ite ?_ ?_
  | refine LeO.bind ?_ (fun _=>?_)
set_option maxHeartbeats 8000000 in
set_option maxRecDepth 100000 in
theorem zbd.calls (k:Nat) (P0_:Nat→Prop) (u9000_:Value) (l0:List Int) (a1:ByteArray) (r:List Int) (w0 w:World) (hB:Below w0.heap.size w0 w) (ho0:Kd.R (Kd.int .u8) 5 w w0.heap.size P0_ u9000_ l0) (h:zbd.f k l0 a1=some r) :
 Calls Tryd.prog 57 #[u9000_,.string a1] w fun e w'=>∃ v0_:Value,e = .returned (v0_)∧Kd.R (Kd.int .u8) 5 w' w0.heap.size (fun k_=>(P0_ k_∨w.heap.size≤k_)) v0_ r∧Below w0.heap.size w0 w'∧Kept w w' (fun k_=>P0_ k_):=by
 have HO0:=am (show Kd.R (Kd.int .u8) 5 w w0.heap.size (fun k_=>(P0_ k_∨w.heap.size≤k_)) u9000_ l0 from Kd.zbm ho0 (fun k_ hk=>(.inl hk)));have HK:=am (Kept.refl w (fun k_=>P0_ k_));have HW0:=za1.mk hB.size;have HB:=za1.mk hB;clear hB;have H:((zae.f k l0 (a1.size:Int)).bind fun t291=>(if t291.length+a1.size<140737488355328 then (some (t291 ++ bytesOf a1)) else (none)))=some r:=h;clear h;replace H:=Option.bind_eq_some_iff.mp H;obtain ⟨t291,A30,H⟩:=H;replace H:(if t291.length+a1.size<140737488355328 then (some (t291 ++ bytesOf a1)) else (none))=some r:=H;have A3:=za1.mk A30;clear A30
 by_cases c4:t291.length+a1.size<140737488355328
 ·rw [if_pos c4] at H
  have LMc4:=za1.mk c4;clear c4
  obtain ⟨y294,hy294⟩:∃ y_:List Int,y_=(t291 ++ bytesOf a1):=⟨_,rfl⟩
  replace H:(some y294)=some r:=by first|(rw [hy294];with_reducible exact H)|(have H2_:=(Option.bind_some _ _).symm.trans H;rw [hy294];with_reducible exact H2_)|(have H2_:=(Option.bind_some _ _).symm.trans H;with_reducible exact H2_)|with_reducible exact H|(rw [hy294];exact H)|exact H
  have Ny294:=za1.mk hy294;clear hy294;obtain rfl:=Option.some.inj H;obtain ⟨Ao5,co5,eo5⟩:=Kd.zbn HO0.out;subst eo5;go_enter Tryd.func57,Tryd.ntmps57
  go_wp2_with (first|((with_reducible refine zan (f:=43) rfl ?_);refine goesL_ (some 8) rfl rfl Tryd.func43 (by kernel_rfl) rfl #[.slice Ao5 l0.length co5,.int .i64 (a1.size:Int)] rfl q4 ?_;(with_reducible refine (zae.calls k (fun k_=>some k_=(.slice Ao5 l0.length co5:Value).ownBlock) (.slice Ao5 l0.length co5) l0 (a1.size:Int) t291 w0 _ ?side1 ?side2 A3.out).mono ?_);(case side1=>repeat (first|(with_reducible first|exact HB.out|apply zaw|apply zah|apply zar)|exact HB.out));(case side2=>exact Kd.zci rfl HO0.out);rintro e w6 ⟨v292,rfl,ho0,hb,hkp⟩;refine ⟨_,rfl,?_⟩;have n0_:=am (Kd.zbm (ok':=fun k_=>(P0_ k_∨w.heap.size≤k_)) ho0 (fun k_ hk_=>Or.elim hk_ (fun hs_=>(HO0.out.1 k_ (hs_).symm)) (fun hn_=>(.inr (Nat.le_trans (by first|exact HK.out.1|exact (show Kept w _ (fun k_=>P0_ k_) from by repeat (first|(with_reducible first|exact HK.out|apply Kept.alloc|apply Kept.drewN|apply Kept.drew)|exact HK.out)).1) hn_)))));have n1_:=am (Kept.then_ (S:=(fun k_=>P0_ k_)) q9 hkp (fun k_ hs_=>(fun e_=>(HO0.out.1 k_ e_.symm)) hs_));have n2_:=am (hb);clear HK;clear HB;clear HO0;have HO293:=n0_;have HK:=n1_;have HB:=n2_;clear n0_ n1_ n2_;(try clear hb);(try clear hkp);(try clear ho0))|(at_builtin;refine append_str (w0:=w0) w0.heap.size rfl (.tmp 8) _ 22 9 5 rfl Tryd.underlying22 Tryd.underlying9 info5 v292 t291 a1 rfl rfl ?aO ?aB ?aS ?aL ?_;(case aB=>exact q2);(case aO=>exact (Kd.zcr (by (with_reducible repeat (first|apply Kd.zb1|apply Kd.zb2|apply Kd.zb9));exact HO293.out)));(case aS=>exact (zbb q2));(case aL=>have:=LMc4.out;omega);intro v295 w7 ho0 hb hg hat;have ho:=Kd.R_of_own (h1:=fun _=>rfl) (ok:=fun k_=>(P0_ k_∨w.heap.size≤k_)) ho0 (fun k_ e_=>Or.elim hat (fun q_=>HO293.out.1 k_ (q_.symm.trans e_)) (fun h_=>h_.elim fun b_ z_=>.inr (by have y_:=Option.some.inj (z_.1.symm.trans e_);have x_:=HK.out.1;have u_:=z_.2;omega)));clear ho0;rw [← Ny294.out] at ho;have n0_:=am (hb);have n1_:=am (Kept.of_grown (S:=(fun k_=>P0_ k_)) hg q9 (fun k_ e_=>(HO293.out.1 k_ e_)));have n2_:=am (ho);clear HB;clear HK;clear HO293;have HB:=n0_;have HK:=n1_;have HO296:=n2_;clear n0_ n1_ n2_;clear ho hb hg hat))
  go_ret;exact ⟨_,q8,by (with_reducible repeat (first|apply Kd.zb1|apply Kd.zb2|apply Kd.zb9));exact HO296.out,q2,q9⟩
 ·rw [if_neg c4] at H
  exact absurd H (by simp)
def zb6.f (k:Nat) (l0:List Int) (a1_0:Bool) (a1_1:ByteArray) (a1_2:ByteArray):Option (List Int):=if a1_0=true then ((zae.f k l0 1).bind fun t298=>((zbd.f k t298 a1_1).bind fun t301=>((zbd.f k t301 a1_2).bind fun t304=>(some t304)))) else ((zae.f k l0 0).bind fun t307=>((zbd.f k t307 a1_1).bind fun t310=>((zbd.f k t310 a1_2).bind fun t313=>(some t313))))
theorem zb6.mono:∀ a0 a1 a2 a3 k,LeO (zb6.f k a0 a1 a2 a3) (zb6.f (k+1) a0 a1 a2 a3):=by
 intro a0 a1 a2 a3 k;unfold zb6.f
 repeat' first
  | (with_reducible exact zae.mono _ _ _)
  | (with_reducible exact zbd.mono _ _ _)
  | (with_reducible exact LeO.refl _)
  | (with_reducible exact LeO.none _)
  | (with_reducible refine LeO.ite ?_ ?_)
  | (with_reducible refine LeO.bind ?_ (fun _=>?_))
  | exact zae.mono _ _ _
  | exact zbd.mono _ _ _
  | exact LeO.none _
  | refine LeO.ite ?_ ?_
  | refine LeO.bind ?_ (fun _=>?_)
def zb6.T4:Bool×List (List Nat×List Nat):=(true,[([],[]),([],[]),([1],[1]),([0,2],[0,2]),([],[]),([4],[4]),([3,5,3],[3,5]),([6,6,0,1,2,3,4,5,6],[6])])
def zb6.B4:List Nat:=[0,0,2,7,0,16,63,127]
theorem zb6.tab4:rtab .any (opsOf Tryd.f44 4)=zb6.T4:=by kernel_rfl
theorem zb6.bits4:waitsOk zb6.T4.2 zb6.B4=true:=by kernel_rfl
set_option maxHeartbeats 8000000 in
set_option maxRecDepth 100000 in
theorem zb6.calls (k:Nat) (P0_:Nat→Prop) (u9000_:Value) (l0:List Int) (a1_0:Bool) (a1_1:ByteArray) (a1_2:ByteArray) (r:List Int) (w0 w:World) (hB:Below w0.heap.size w0 w) (ho0:Kd.R (Kd.int .u8) 5 w w0.heap.size P0_ u9000_ l0) (h:zb6.f k l0 a1_0 a1_1 a1_2=some r) :
 Calls Tryd.prog 44 #[u9000_,.agg #[.bool a1_0,.string a1_1,.string a1_2]] w fun e w'=>∃ v0_:Value,e = .returned (v0_)∧Kd.R (Kd.int .u8) 5 w' w0.heap.size (fun k_=>(P0_ k_∨w.heap.size≤k_)) v0_ r∧Below w0.heap.size w0 w'∧Kept w w' (fun k_=>P0_ k_):=by
 have hu30:=Tryd.underlying30;have HO0:=am (show Kd.R (Kd.int .u8) 5 w w0.heap.size (fun k_=>(P0_ k_∨w.heap.size≤k_)) u9000_ l0 from Kd.zbm ho0 (fun k_ hk=>(.inl hk)));have HK:=am (Kept.refl w (fun k_=>P0_ k_));have HW0:=za1.mk hB.size;have HB:=za1.mk hB;clear hB;have H:(if a1_0=true then ((zae.f k l0 1).bind fun t298=>((zbd.f k t298 a1_1).bind fun t301=>((zbd.f k t301 a1_2).bind fun t304=>(some t304)))) else ((zae.f k l0 0).bind fun t307=>((zbd.f k t307 a1_1).bind fun t310=>((zbd.f k t310 a1_2).bind fun t313=>(some t313)))))=some r:=h;clear h
 by_cases c3:a1_0=true
 ·subst c3
  have H1:((zae.f k l0 1).bind fun t298=>((zbd.f k t298 a1_1).bind fun t301=>((zbd.f k t301 a1_2).bind fun t304=>(some t304))))=some r:=by rw [if_pos rfl] at H;exact H
  clear H;have H:=H1;clear H1;replace H:=Option.bind_eq_some_iff.mp H;obtain ⟨t298,A40,H⟩:=H;replace H:((zbd.f k t298 a1_1).bind fun t301=>((zbd.f k t301 a1_2).bind fun t304=>(some t304)))=some r:=H;have A4:=za1.mk A40;clear A40;replace H:=Option.bind_eq_some_iff.mp H;obtain ⟨t301,A50,H⟩:=H;replace H:((zbd.f k t301 a1_2).bind fun t304=>(some t304))=some r:=H;have A5:=za1.mk A50;clear A50;replace H:=Option.bind_eq_some_iff.mp H;obtain ⟨t304,A60,H⟩:=H;replace H:(some t304)=some r:=H;have A6:=za1.mk A60;clear A60;obtain rfl:=Option.some.inj H;go_enter Tryd.func44,Tryd.ntmps44
  try go_wp2_with (first|((with_reducible refine zbr (N:=3) rfl ?_);refine zbq ?hg (N:=3) ?hd (cs:=#[.bool true,.string a1_1,.string a1_2]) (t:=30) ?hr ?_;(case hd=>rfl);(case hg=>rfl);(case hr=>first|(go_simp;done)|(go_simp;rfl));intro g_a hg w7 hbox hb;have B_a:=am (hbox);have W_a:=am ((by rw [hg];exact (by first|exact HK.out.1|exact (show Kept w _ (fun k_=>P0_ k_) from by repeat (first|(with_reducible first|exact HK.out|apply Kept.alloc|apply Kept.drewN|apply Kept.drew)|exact HK.out)).1):w.heap.size≤g_a));have E_a:=am ((q48:w0.heap.size≤g_a));replace HO0:=am (Kd.zbx q21 hb);replace HK:=am (Kept.below (S:=(fun k_=>P0_ k_)) q9 hb);replace HB:=am (zab q2 hb);clear hb hbox hg;obtain ⟨c_a0,c_a1,c_a2⟩:=cs3 B_a.out;obtain ⟨f_a0,f_a1,f_a2⟩:=fs3 B_a.out;obtain ⟨Ao9,co9,eo9⟩:=Kd.zbn HO0.out;subst eo9)|((with_reducible refine zan (f:=43) rfl ?_);refine goesL_ (some 8) rfl rfl Tryd.func43 (by kernel_rfl) rfl #[.slice Ao9 l0.length co9,.int .i64 1] rfl q4 ?_;(with_reducible refine (zae.calls k (fun k_=>some k_=(.slice Ao9 l0.length co9:Value).ownBlock) (.slice Ao9 l0.length co9) l0 1 t298 w0 _ ?side1 ?side2 A4.out).mono ?_);(case side1=>repeat (first|(with_reducible first|exact HB.out|apply zaw|apply zah|apply zar|refine zak ?_ E_a.out)|exact HB.out));(case side2=>exact Kd.zci rfl HO0.out);rintro e w10 ⟨v299,rfl,ho0,hb,hkp⟩;refine ⟨_,rfl,?_⟩;have n0_:=am (zcm q1 hkp (fun hs_=>(fun e_=>(Kd.zd5 HO0.out B_a.out (by decide)) e_) hs_));have n1_:=am (Kd.zbm (ok':=fun k_=>(P0_ k_∨w.heap.size≤k_)) ho0 (fun k_ hk_=>Or.elim hk_ (fun hs_=>(HO0.out.1 k_ (hs_).symm)) (fun hn_=>(.inr (Nat.le_trans (by first|exact HK.out.1|exact (show Kept w _ (fun k_=>P0_ k_) from by repeat (first|(with_reducible first|exact HK.out|apply Kept.alloc|apply Kept.drewN|apply Kept.drew|refine Kept.setCell ?_ (.inr W_a.out) _)|exact HK.out)).1) hn_)))));have n2_:=am (Kept.then_ (S:=(fun k_=>P0_ k_)) q32 hkp (fun k_ hs_=>(fun e_=>(HO0.out.1 k_ e_.symm)) hs_));have n3_:=am (hb);clear B_a;clear HK;clear HB;clear HO0;have B_a:=n0_;have HO300:=n1_;have HK:=n2_;have HB:=n3_;clear n0_ n1_ n2_ n3_;(try clear hb);(try clear hkp);(try clear ho0)))
  replace HO300:=am (Kd.zb9 HO300.out);replace B_a:=am (za6 B_a.out);replace HK:=am (Kept.drew HK.out);replace HB:=am (zar HB.out);obtain ⟨Ao12,co12,eo12⟩:=Kd.zbn HO300.out
  (first|subst eo12|(injection eo12 with f1_ f2_ f3_;have f4_:=f1_.symm;have f5_:=f3_.symm;clear f1_ f2_ f3_;subst f4_;subst f5_))
  refine start_ (n:=8) (S:=fun w'=>w'.cell? ⟨g_a,0,none⟩=some (.bool true)∧w'.cell? ⟨g_a,1,none⟩=some (.string a1_1)∧w'.cell? ⟨g_a,2,none⟩=some (.string a1_2)) (ds:=[]) #[false,false,false,false,false,false,false,false] (by kernel_rfl) rfl rfl ⟨bc B_a 0,bc B_a 1,bc B_a 2⟩ (fun hHeld=>?_);refine with_tabW zb6.tab4 zb6.bits4 (fun HT_ HW_=>?_)
  generalize w10.drew=w11 at HO300 B_a HK HB hHeld ⊢
  refine pp 0 11 rfl rfl ?_;refine pp 1 12 rfl rfl ?_;refine pp 4 15 rfl rfl ?_;refine tk3 2 13 rfl rfl ?_;refine tk3 5 16 rfl rfl ?_;refine one_ (i:=3) (N:=some 14) #[true,true,true,true,true,true,false,false] rfl rfl (one_of HT_.out (by kernel_rfl)) (by decide) (fun K hK=>?_);refine goes_ Tryd.func57 (by kernel_rfl) rfl #[.slice Ao12 t298.length co12,.string a1_1] (by rfl) rfl rfl q4 ?_
  with_reducible refine (zbd.calls k (fun k_=>some k_=(.slice Ao12 t298.length co12:Value).ownBlock) (.slice Ao12 t298.length co12) t298 a1_1 t301 w0 _ ?side1 ?side2 A5.out).mono ?_
  (case side1=>repeat (first|(with_reducible first|exact HB.out|apply zaw|apply zah|apply zar|refine zak ?_ E_a.out)|exact HB.out))
  (case side2=>exact Kd.zci rfl HO300.out)
  rintro e w13 ⟨v302,rfl,ho0,hb,hkp⟩;refine ⟨_,rfl,?_⟩;have n0_:=am (zcm q1 hkp (fun hs_=>(fun e_=>(Kd.zd5 HO300.out B_a.out (by decide)) e_) hs_));have n1_:=am (Kd.zbm (ok':=fun k_=>(P0_ k_∨w.heap.size≤k_)) ho0 (fun k_ hk_=>Or.elim hk_ (fun hs_=>(HO300.out.1 k_ (hs_).symm)) (fun hn_=>(.inr (Nat.le_trans (by first|exact HK.out.1|exact (show Kept w _ (fun k_=>P0_ k_) from by repeat (first|(with_reducible first|exact HK.out|apply Kept.alloc|apply Kept.drewN|apply Kept.drew|refine Kept.setCell ?_ (.inr W_a.out) _)|exact HK.out)).1) hn_)))));have n2_:=am (Kept.then_ (S:=(fun k_=>P0_ k_)) q32 hkp (fun k_ hs_=>(fun e_=>(HO300.out.1 k_ e_.symm)) hs_));have n3_:=am (hb);clear B_a;clear HK;clear HB;clear HO300;have B_a:=n0_;have HO303:=n1_;have HK:=n2_;have HB:=n3_;clear n0_ n1_ n2_ n3_;(try clear hb);(try clear hkp);(try clear ho0);obtain ⟨Ao14,co14,eo14⟩:=Kd.zbn HO303.out
  (first|subst eo14|(injection eo14 with f1_ f2_ f3_;have f4_:=f1_.symm;have f5_:=f3_.symm;clear f1_ f2_ f3_;subst f4_;subst f5_))
  refine hK.out _ _ ⟨bc B_a 0,bc B_a 1,bc B_a 2⟩ (fun hHeld=>?_);clear hK K;refine norm_ (a':=?_) ?_ ?_;rotate_left
  ·show Act.put _ (some 14) _=_
   simp only [Act.put,List.setIfInBounds_toArray,List.set_cons_zero,List.set_cons_succ,i64_w,i32_w]
   rfl
  refine one_ (i:=6) (N:=some 17) #[true,true,true,true,true,true,true,false] rfl rfl (one_of HT_.out (by kernel_rfl)) (by decide) (fun K hK=>?_);refine goes_ Tryd.func57 (by kernel_rfl) rfl #[.slice Ao14 t301.length co14,.string a1_2] (by rfl) rfl rfl q4 ?_
  with_reducible refine (zbd.calls k (fun k_=>some k_=(.slice Ao14 t301.length co14:Value).ownBlock) (.slice Ao14 t301.length co14) t301 a1_2 t304 w0 _ ?side1 ?side2 A6.out).mono ?_
  (case side1=>repeat (first|(with_reducible first|exact HB.out|apply zaw|apply zah|apply zar|refine zak ?_ E_a.out)|exact HB.out))
  (case side2=>exact Kd.zci rfl HO303.out)
  rintro e w15 ⟨v305,rfl,ho0,hb,hkp⟩;refine ⟨_,rfl,?_⟩;have n0_:=am (zcm q1 hkp (fun hs_=>(fun e_=>(Kd.zd5 HO303.out B_a.out (by decide)) e_) hs_));have n1_:=am (Kd.zbm (ok':=fun k_=>(P0_ k_∨w.heap.size≤k_)) ho0 (fun k_ hk_=>Or.elim hk_ (fun hs_=>(HO303.out.1 k_ (hs_).symm)) (fun hn_=>(.inr (Nat.le_trans (by first|exact HK.out.1|exact (show Kept w _ (fun k_=>P0_ k_) from by repeat (first|(with_reducible first|exact HK.out|apply Kept.alloc|apply Kept.drewN|apply Kept.drew|refine Kept.setCell ?_ (.inr W_a.out) _)|exact HK.out)).1) hn_)))));have n2_:=am (Kept.then_ (S:=(fun k_=>P0_ k_)) q32 hkp (fun k_ hs_=>(fun e_=>(HO303.out.1 k_ e_.symm)) hs_));have n3_:=am (hb);clear B_a;clear HK;clear HB;clear HO303;have B_a:=n0_;have HO306:=n1_;have HK:=n2_;have HB:=n3_;clear n0_ n1_ n2_ n3_;(try clear hb);(try clear hkp);(try clear ho0);refine hK.out _ _ ⟨bc B_a 0,bc B_a 1,bc B_a 2⟩ (fun hHeld=>?_);clear hK K;refine norm_ (a':=?_) ?_ ?_;rotate_left
  ·show Act.put _ (some 17) _=_
   simp only [Act.put,List.setIfInBounds_toArray,List.set_cons_zero,List.set_cons_succ,i64_w,i32_w]
   rfl
  refine pp 7 4 rfl rfl ?_;refine done_ (done_of HT_.out (by kernel_rfl)) ?_
  try go_wp2
  go_ret;exact ⟨_,q8,by (with_reducible repeat (first|apply Kd.zb1|apply Kd.zb2|apply Kd.zb9));exact HO306.out,q3,q32⟩
 ·replace c3:=Bool.eq_false_iff.mpr c3
  subst c3
  have H1:((zae.f k l0 0).bind fun t307=>((zbd.f k t307 a1_1).bind fun t310=>((zbd.f k t310 a1_2).bind fun t313=>(some t313))))=some r:=by rw [if_neg (show ¬ (false=true) by decide)] at H;exact H
  clear H;have H:=H1;clear H1;replace H:=Option.bind_eq_some_iff.mp H;obtain ⟨t307,A160,H⟩:=H;replace H:((zbd.f k t307 a1_1).bind fun t310=>((zbd.f k t310 a1_2).bind fun t313=>(some t313)))=some r:=H;have A16:=za1.mk A160;clear A160;replace H:=Option.bind_eq_some_iff.mp H;obtain ⟨t310,A170,H⟩:=H;replace H:((zbd.f k t310 a1_2).bind fun t313=>(some t313))=some r:=H;have A17:=za1.mk A170;clear A170;replace H:=Option.bind_eq_some_iff.mp H;obtain ⟨t313,A180,H⟩:=H;replace H:(some t313)=some r:=H;have A18:=za1.mk A180;clear A180;obtain rfl:=Option.some.inj H;go_enter Tryd.func44,Tryd.ntmps44
  try go_wp2_with (first|((with_reducible refine zbr (N:=3) rfl ?_);refine zbq ?hg (N:=3) ?hd (cs:=#[.bool false,.string a1_1,.string a1_2]) (t:=30) ?hr ?_;(case hd=>rfl);(case hg=>rfl);(case hr=>first|(go_simp;done)|(go_simp;rfl));intro g_a hg w19 hbox hb;have B_a:=am (hbox);have W_a:=am ((by rw [hg];exact (by first|exact HK.out.1|exact (show Kept w _ (fun k_=>P0_ k_) from by repeat (first|(with_reducible first|exact HK.out|apply Kept.alloc|apply Kept.drewN|apply Kept.drew)|exact HK.out)).1):w.heap.size≤g_a));have E_a:=am ((q48:w0.heap.size≤g_a));replace HO0:=am (Kd.zbx q21 hb);replace HK:=am (Kept.below (S:=(fun k_=>P0_ k_)) q9 hb);replace HB:=am (zab q2 hb);clear hb hbox hg;obtain ⟨c_b0,c_b1,c_b2⟩:=cs3 B_a.out;obtain ⟨f_b0,f_b1,f_b2⟩:=fs3 B_a.out;obtain ⟨Ao21,co21,eo21⟩:=Kd.zbn HO0.out;subst eo21)|((with_reducible refine zan (f:=43) rfl ?_);refine goesL_ (some 10) rfl rfl Tryd.func43 (by kernel_rfl) rfl #[.slice Ao21 l0.length co21,.int .i64 0] rfl q4 ?_;(with_reducible refine (zae.calls k (fun k_=>some k_=(.slice Ao21 l0.length co21:Value).ownBlock) (.slice Ao21 l0.length co21) l0 0 t307 w0 _ ?side1 ?side2 A16.out).mono ?_);(case side1=>repeat (first|(with_reducible first|exact HB.out|apply zaw|apply zah|apply zar|refine zak ?_ E_a.out)|exact HB.out));(case side2=>exact Kd.zci rfl HO0.out);rintro e w22 ⟨v308,rfl,ho0,hb,hkp⟩;refine ⟨_,rfl,?_⟩;have n0_:=am (zcm q1 hkp (fun hs_=>(fun e_=>(Kd.zd5 HO0.out B_a.out (by decide)) e_) hs_));have n1_:=am (Kd.zbm (ok':=fun k_=>(P0_ k_∨w.heap.size≤k_)) ho0 (fun k_ hk_=>Or.elim hk_ (fun hs_=>(HO0.out.1 k_ (hs_).symm)) (fun hn_=>(.inr (Nat.le_trans (by first|exact HK.out.1|exact (show Kept w _ (fun k_=>P0_ k_) from by repeat (first|(with_reducible first|exact HK.out|apply Kept.alloc|apply Kept.drewN|apply Kept.drew|refine Kept.setCell ?_ (.inr W_a.out) _)|exact HK.out)).1) hn_)))));have n2_:=am (Kept.then_ (S:=(fun k_=>P0_ k_)) q32 hkp (fun k_ hs_=>(fun e_=>(HO0.out.1 k_ e_.symm)) hs_));have n3_:=am (hb);clear B_a;clear HK;clear HB;clear HO0;have B_a:=n0_;have HO309:=n1_;have HK:=n2_;have HB:=n3_;clear n0_ n1_ n2_ n3_;(try clear hb);(try clear hkp);(try clear ho0)))
  replace HO309:=am (Kd.zb9 HO309.out);replace B_a:=am (za6 B_a.out);replace HK:=am (Kept.drew HK.out);replace HB:=am (zar HB.out);obtain ⟨Ao24,co24,eo24⟩:=Kd.zbn HO309.out
  (first|subst eo24|(injection eo24 with f1_ f2_ f3_;have f4_:=f1_.symm;have f5_:=f3_.symm;clear f1_ f2_ f3_;subst f4_;subst f5_))
  refine start_ (n:=8) (S:=fun w'=>w'.cell? ⟨g_a,0,none⟩=some (.bool false)∧w'.cell? ⟨g_a,1,none⟩=some (.string a1_1)∧w'.cell? ⟨g_a,2,none⟩=some (.string a1_2)) (ds:=[]) #[false,false,false,false,false,false,false,false] (by kernel_rfl) rfl rfl ⟨bc B_a 0,bc B_a 1,bc B_a 2⟩ (fun hHeld=>?_);refine with_tabW zb6.tab4 zb6.bits4 (fun HT_ HW_=>?_)
  generalize w22.drew=w23 at HO309 B_a HK HB hHeld ⊢
  refine pp 0 11 rfl rfl ?_;refine pp 1 12 rfl rfl ?_;refine pp 4 15 rfl rfl ?_;refine tk3 2 13 rfl rfl ?_;refine tk3 5 16 rfl rfl ?_;refine one_ (i:=3) (N:=some 14) #[true,true,true,true,true,true,false,false] rfl rfl (one_of HT_.out (by kernel_rfl)) (by decide) (fun K hK=>?_);refine goes_ Tryd.func57 (by kernel_rfl) rfl #[.slice Ao24 t307.length co24,.string a1_1] (by rfl) rfl rfl q4 ?_
  with_reducible refine (zbd.calls k (fun k_=>some k_=(.slice Ao24 t307.length co24:Value).ownBlock) (.slice Ao24 t307.length co24) t307 a1_1 t310 w0 _ ?side1 ?side2 A17.out).mono ?_
  (case side1=>repeat (first|(with_reducible first|exact HB.out|apply zaw|apply zah|apply zar|refine zak ?_ E_a.out)|exact HB.out))
  (case side2=>exact Kd.zci rfl HO309.out)
  rintro e w25 ⟨v311,rfl,ho0,hb,hkp⟩;refine ⟨_,rfl,?_⟩;have n0_:=am (zcm q1 hkp (fun hs_=>(fun e_=>(Kd.zd5 HO309.out B_a.out (by decide)) e_) hs_));have n1_:=am (Kd.zbm (ok':=fun k_=>(P0_ k_∨w.heap.size≤k_)) ho0 (fun k_ hk_=>Or.elim hk_ (fun hs_=>(HO309.out.1 k_ (hs_).symm)) (fun hn_=>(.inr (Nat.le_trans (by first|exact HK.out.1|exact (show Kept w _ (fun k_=>P0_ k_) from by repeat (first|(with_reducible first|exact HK.out|apply Kept.alloc|apply Kept.drewN|apply Kept.drew|refine Kept.setCell ?_ (.inr W_a.out) _)|exact HK.out)).1) hn_)))));have n2_:=am (Kept.then_ (S:=(fun k_=>P0_ k_)) q32 hkp (fun k_ hs_=>(fun e_=>(HO309.out.1 k_ e_.symm)) hs_));have n3_:=am (hb);clear B_a;clear HK;clear HB;clear HO309;have B_a:=n0_;have HO312:=n1_;have HK:=n2_;have HB:=n3_;clear n0_ n1_ n2_ n3_;(try clear hb);(try clear hkp);(try clear ho0);obtain ⟨Ao26,co26,eo26⟩:=Kd.zbn HO312.out
  (first|subst eo26|(injection eo26 with f1_ f2_ f3_;have f4_:=f1_.symm;have f5_:=f3_.symm;clear f1_ f2_ f3_;subst f4_;subst f5_))
  refine hK.out _ _ ⟨bc B_a 0,bc B_a 1,bc B_a 2⟩ (fun hHeld=>?_);clear hK K;refine norm_ (a':=?_) ?_ ?_;rotate_left
  ·show Act.put _ (some 14) _=_
   simp only [Act.put,List.setIfInBounds_toArray,List.set_cons_zero,List.set_cons_succ,i64_w,i32_w]
   rfl
  refine one_ (i:=6) (N:=some 17) #[true,true,true,true,true,true,true,false] rfl rfl (one_of HT_.out (by kernel_rfl)) (by decide) (fun K hK=>?_);refine goes_ Tryd.func57 (by kernel_rfl) rfl #[.slice Ao26 t310.length co26,.string a1_2] (by rfl) rfl rfl q4 ?_
  with_reducible refine (zbd.calls k (fun k_=>some k_=(.slice Ao26 t310.length co26:Value).ownBlock) (.slice Ao26 t310.length co26) t310 a1_2 t313 w0 _ ?side1 ?side2 A18.out).mono ?_
  (case side1=>repeat (first|(with_reducible first|exact HB.out|apply zaw|apply zah|apply zar|refine zak ?_ E_a.out)|exact HB.out))
  (case side2=>exact Kd.zci rfl HO312.out)
  rintro e w27 ⟨v314,rfl,ho0,hb,hkp⟩;refine ⟨_,rfl,?_⟩;have n0_:=am (zcm q1 hkp (fun hs_=>(fun e_=>(Kd.zd5 HO312.out B_a.out (by decide)) e_) hs_));have n1_:=am (Kd.zbm (ok':=fun k_=>(P0_ k_∨w.heap.size≤k_)) ho0 (fun k_ hk_=>Or.elim hk_ (fun hs_=>(HO312.out.1 k_ (hs_).symm)) (fun hn_=>(.inr (Nat.le_trans (by first|exact HK.out.1|exact (show Kept w _ (fun k_=>P0_ k_) from by repeat (first|(with_reducible first|exact HK.out|apply Kept.alloc|apply Kept.drewN|apply Kept.drew|refine Kept.setCell ?_ (.inr W_a.out) _)|exact HK.out)).1) hn_)))));have n2_:=am (Kept.then_ (S:=(fun k_=>P0_ k_)) q32 hkp (fun k_ hs_=>(fun e_=>(HO312.out.1 k_ e_.symm)) hs_));have n3_:=am (hb);clear B_a;clear HK;clear HB;clear HO312;have B_a:=n0_;have HO315:=n1_;have HK:=n2_;have HB:=n3_;clear n0_ n1_ n2_ n3_;(try clear hb);(try clear hkp);(try clear ho0);refine hK.out _ _ ⟨bc B_a 0,bc B_a 1,bc B_a 2⟩ (fun hHeld=>?_);clear hK K;refine norm_ (a':=?_) ?_ ?_;rotate_left
  ·show Act.put _ (some 17) _=_
   simp only [Act.put,List.setIfInBounds_toArray,List.set_cons_zero,List.set_cons_succ,i64_w,i32_w]
   rfl
  refine pp 7 4 rfl rfl ?_;refine done_ (done_of HT_.out (by kernel_rfl)) ?_
  try go_wp2
  go_ret;exact ⟨_,q8,by (with_reducible repeat (first|apply Kd.zb1|apply Kd.zb2|apply Kd.zb9));exact HO315.out,q3,q32⟩
end Go.Proofs.YtcipcpodgkeobaaDoor.F
end
