/- Part 12 of the proof of CodecRound: the functions' walks and what they compute, in the order of the calls; each holds for all arguments that its row allows. -/
import Derived.Test.YtcipcpodgkeobaaDoorMCodecRound7
import Derived.Test.YtcipcpodgkeobaaDoorMCodecRound8
import Derived.Test.YtcipcpodgkeobaaDoorMCodecRound10
import Derived.Test.YtcipcpodgkeobaaDoorMCodecRound11
import Derived.Test.YtcipcpodgkeobaaDoorMCodecRound9
import Derived.WalkKit
import Derived.ProofKit
import Derived.OpenShut
import Derived.ChangeOld
import Derived.Below
import Derived.ChangeSlices
import Derived.SizedLaws
section
namespace Go.Proofs.YtcipcpodgkeobaaDoor.F
open Go.RowKit Go.Proofs.YtcipcpodgkeobaaDoorW.PrintWords Go.Proofs.YtcipcpodgkeobaaDoorW.PrintLast Go.Proofs.YtcipcpodgkeobaaDoorW.PrintMore
attribute [local go_sem] max2_int min2_int max_two min_two max_three min_three max_four min_four   
set_option linter.unusedVariables false
set_option linter.unusedSimpArgs false
mutual
def za3.l0:Nat→List Int→List Int→Int→Int→Int→Int→Int→Int→Int→Bool→ByteArray→ByteArray→Bool→ByteArray→ByteArray→List (S49)→List (S51)→List (S55)→Option (List Int)
 | 0,_,_,_,_,_,_,_,_,_,_,_,_,_,_,_,_,_,_=>none
 | k+1,x3,x4,x5,x317000,x317001,x317002,x317003,x317004,x317005,x317006,x317007,x317008,x317009,x317010,x317011,x317012,x317013,x317014=>if x5<(x4.length:Int) then (if 0≤x5 then ((zae.f k x3 (rd x4 x5)).bind fun t321=>(za3.l0 k t321 x4 (wrap64 (x5+1)) x317000 x317001 x317002 x317003 x317004 x317005 x317006 x317007 x317008 x317009 x317010 x317011 x317012 x317013 x317014)) else (none)) else ((zb6.f k x3 x317006 x317007 x317008).bind fun t324=>((zb6.f k t324 x317009 x317010 x317011).bind fun t327=>((zae.f k t327 (x317012.length:Int)).bind fun t330=>(za3.l1 k t330 0 x317000 x317001 x317002 x317003 x317004 x317005 x317006 x317007 x317008 x317009 x317010 x317011 x317012 x317013 x317014))))
def za3.l1:Nat→List Int→Int→Int→Int→Int→Int→Int→Int→Bool→ByteArray→ByteArray→Bool→ByteArray→ByteArray→List (S49)→List (S51)→List (S55)→Option (List Int)
 | 0,_,_,_,_,_,_,_,_,_,_,_,_,_,_,_,_,_=>none
 | k+1,x3,x6,x317000,x317001,x317002,x317003,x317004,x317005,x317006,x317007,x317008,x317009,x317010,x317011,x317012,x317013,x317014=>if x6<(x317012.length:Int) then (if 0≤x6 then ((zae.f k x3 ((rd_T49 x317012 x6).f0)).bind fun t334=>((zae.f k t334 ((rd_T49 x317012 x6).f1)).bind fun t338=>(za3.l1 k t338 (wrap64 (x6+1)) x317000 x317001 x317002 x317003 x317004 x317005 x317006 x317007 x317008 x317009 x317010 x317011 x317012 x317013 x317014))) else (none)) else ((zae.f k x3 (x317013.length:Int)).bind fun t341=>(za3.l2 k t341 0 x317000 x317001 x317002 x317003 x317004 x317005 x317006 x317007 x317008 x317009 x317010 x317011 x317012 x317013 x317014))
def za3.l2:Nat→List Int→Int→Int→Int→Int→Int→Int→Int→Bool→ByteArray→ByteArray→Bool→ByteArray→ByteArray→List (S49)→List (S51)→List (S55)→Option (List Int)
 | 0,_,_,_,_,_,_,_,_,_,_,_,_,_,_,_,_,_=>none
 | k+1,x3,x7,x317000,x317001,x317002,x317003,x317004,x317005,x317006,x317007,x317008,x317009,x317010,x317011,x317012,x317013,x317014=>if x7<(x317013.length:Int) then (if 0≤x7 then ((zb6.f k x3 ((rd_T51 x317013 x7).f0.f0) ((rd_T51 x317013 x7).f0.f1) ((rd_T51 x317013 x7).f0.f2)).bind fun t345=>((zae.f k t345 ((rd_T51 x317013 x7).f1)).bind fun t349=>(za3.l2 k t349 (wrap64 (x7+1)) x317000 x317001 x317002 x317003 x317004 x317005 x317006 x317007 x317008 x317009 x317010 x317011 x317012 x317013 x317014))) else (none)) else ((zae.f k x3 (x317014.length:Int)).bind fun t352=>(za3.l3 k t352 0 x317000 x317001 x317002 x317003 x317004 x317005 x317006 x317007 x317008 x317009 x317010 x317011 x317012 x317013 x317014))
def za3.l3:Nat→List Int→Int→Int→Int→Int→Int→Int→Int→Bool→ByteArray→ByteArray→Bool→ByteArray→ByteArray→List (S49)→List (S51)→List (S55)→Option (List Int)
 | 0,_,_,_,_,_,_,_,_,_,_,_,_,_,_,_,_,_=>none
 | k+1,x3,x8,x317000,x317001,x317002,x317003,x317004,x317005,x317006,x317007,x317008,x317009,x317010,x317011,x317012,x317013,x317014=>if x8<(x317014.length:Int) then (if 0≤x8 then ((zae.f k x3 ((rd_T55 x317014 x8).f0.f0)).bind fun t357=>((zae.f k t357 ((rd_T55 x317014 x8).f0.f1.f0)).bind fun t360=>((zae.f k t360 ((rd_T55 x317014 x8).f0.f1.f1)).bind fun t363=>((zae.f k t363 ((rd_T55 x317014 x8).f1)).bind fun t366=>(za3.l3 k t366 (wrap64 (x8+1)) x317000 x317001 x317002 x317003 x317004 x317005 x317006 x317007 x317008 x317009 x317010 x317011 x317012 x317013 x317014))))) else (none)) else (some x3)
end
def za3.f (k:Nat) (a0_0:Int) (a0_1:Int) (a0_2:Int) (a0_3:Int) (a0_4:Int) (a0_5:Int) (a0_6:Bool) (a0_7:ByteArray) (a0_8:ByteArray) (a0_9:Bool) (a0_10:ByteArray) (a0_11:ByteArray) (l0_12:List (S49)) (l0_13:List (S51)) (l0_14:List (S55)):Option (List Int):=(zbo.f a0_0 a0_1 a0_2 a0_3 a0_4 a0_5 a0_6 a0_7 a0_8 a0_9 a0_10 a0_11 l0_12 l0_13).bind fun t317=>(za3.l0 k ([]:List Int) t317 0 a0_0 a0_1 a0_2 a0_3 a0_4 a0_5 a0_6 a0_7 a0_8 a0_9 a0_10 a0_11 l0_12 l0_13 l0_14)
theorem za3.mono_l:∀ k,(∀ y0 y1 y2 y3 y4 y5 y6 y7 y8 y9 y10 y11 y12 y13 y14 y15 y16 y17,LeO (za3.l0 k y0 y1 y2 y3 y4 y5 y6 y7 y8 y9 y10 y11 y12 y13 y14 y15 y16 y17) (za3.l0 (k+1) y0 y1 y2 y3 y4 y5 y6 y7 y8 y9 y10 y11 y12 y13 y14 y15 y16 y17))∧(∀ y0 y1 y2 y3 y4 y5 y6 y7 y8 y9 y10 y11 y12 y13 y14 y15 y16,LeO (za3.l1 k y0 y1 y2 y3 y4 y5 y6 y7 y8 y9 y10 y11 y12 y13 y14 y15 y16) (za3.l1 (k+1) y0 y1 y2 y3 y4 y5 y6 y7 y8 y9 y10 y11 y12 y13 y14 y15 y16))∧(∀ y0 y1 y2 y3 y4 y5 y6 y7 y8 y9 y10 y11 y12 y13 y14 y15 y16,LeO (za3.l2 k y0 y1 y2 y3 y4 y5 y6 y7 y8 y9 y10 y11 y12 y13 y14 y15 y16) (za3.l2 (k+1) y0 y1 y2 y3 y4 y5 y6 y7 y8 y9 y10 y11 y12 y13 y14 y15 y16))∧(∀ y0 y1 y2 y3 y4 y5 y6 y7 y8 y9 y10 y11 y12 y13 y14 y15 y16,LeO (za3.l3 k y0 y1 y2 y3 y4 y5 y6 y7 y8 y9 y10 y11 y12 y13 y14 y15 y16) (za3.l3 (k+1) y0 y1 y2 y3 y4 y5 y6 y7 y8 y9 y10 y11 y12 y13 y14 y15 y16))
 | 0=>⟨fun _ _ _ _ _ _ _ _ _ _ _ _ _ _ _ _ _ _ r h=>by simp [za3.l0] at h,fun _ _ _ _ _ _ _ _ _ _ _ _ _ _ _ _ _ r h=>by simp [za3.l1] at h,fun _ _ _ _ _ _ _ _ _ _ _ _ _ _ _ _ _ r h=>by simp [za3.l2] at h,fun _ _ _ _ _ _ _ _ _ _ _ _ _ _ _ _ _ r h=>by simp [za3.l3] at h⟩
 | k+1=>by
  obtain ⟨ih0,ih1,ih2,ih3⟩:=za3.mono_l k;refine ⟨?_,?_,?_,?_⟩
  ·intro y0 y1 y2 y3 y4 y5 y6 y7 y8 y9 y10 y11 y12 y13 y14 y15 y16 y17
   unfold za3.l0
   repeat' first
   | (with_reducible exact ih0 _ _ _ _ _ _ _ _ _ _ _ _ _ _ _ _ _ _)
   | (with_reducible exact ih1 _ _ _ _ _ _ _ _ _ _ _ _ _ _ _ _ _)
   | (with_reducible exact ih2 _ _ _ _ _ _ _ _ _ _ _ _ _ _ _ _ _)
   | (with_reducible exact ih3 _ _ _ _ _ _ _ _ _ _ _ _ _ _ _ _ _)
   | (with_reducible exact zae.mono _ _ _)
   | (with_reducible exact zb6.mono _ _ _ _ _)
   | (with_reducible exact LeO.refl _)
   | (with_reducible exact LeO.none _)
   | (with_reducible refine LeO.ite ?_ ?_)
   | (with_reducible refine LeO.bind ?_ (fun _=>?_))
   | exact ih0 _ _ _ _ _ _ _ _ _ _ _ _ _ _ _ _ _ _
   | exact ih1 _ _ _ _ _ _ _ _ _ _ _ _ _ _ _ _ _
   | exact ih2 _ _ _ _ _ _ _ _ _ _ _ _ _ _ _ _ _
   | exact ih3 _ _ _ _ _ _ _ _ _ _ _ _ _ _ _ _ _
   | exact zae.mono _ _ _
   | exact zb6.mono _ _ _ _ _
   | exact LeO.none _
   | refine LeO.ite ?_ ?_
   | refine LeO.bind ?_ (fun _=>?_)
  ·intro y0 y1 y2 y3 y4 y5 y6 y7 y8 y9 y10 y11 y12 y13 y14 y15 y16
   unfold za3.l1
   repeat' first
   | (with_reducible exact ih0 _ _ _ _ _ _ _ _ _ _ _ _ _ _ _ _ _ _)
   | (with_reducible exact ih1 _ _ _ _ _ _ _ _ _ _ _ _ _ _ _ _ _)
   | (with_reducible exact ih2 _ _ _ _ _ _ _ _ _ _ _ _ _ _ _ _ _)
   | (with_reducible exact ih3 _ _ _ _ _ _ _ _ _ _ _ _ _ _ _ _ _)
   | (with_reducible exact zae.mono _ _ _)
   | (with_reducible exact zb6.mono _ _ _ _ _)
   | (with_reducible exact LeO.refl _)
   | (with_reducible exact LeO.none _)
   | (with_reducible refine LeO.ite ?_ ?_)
   | (with_reducible refine LeO.bind ?_ (fun _=>?_))
   | exact ih0 _ _ _ _ _ _ _ _ _ _ _ _ _ _ _ _ _ _
   | exact ih1 _ _ _ _ _ _ _ _ _ _ _ _ _ _ _ _ _
   | exact ih2 _ _ _ _ _ _ _ _ _ _ _ _ _ _ _ _ _
   | exact ih3 _ _ _ _ _ _ _ _ _ _ _ _ _ _ _ _ _
   | exact zae.mono _ _ _
   | exact zb6.mono _ _ _ _ _
   | exact LeO.none _
   | refine LeO.ite ?_ ?_
   | refine LeO.bind ?_ (fun _=>?_)
  ·intro y0 y1 y2 y3 y4 y5 y6 y7 y8 y9 y10 y11 y12 y13 y14 y15 y16
   unfold za3.l2
   repeat' first
   | (with_reducible exact ih0 _ _ _ _ _ _ _ _ _ _ _ _ _ _ _ _ _ _)
   | (with_reducible exact ih1 _ _ _ _ _ _ _ _ _ _ _ _ _ _ _ _ _)
   | (with_reducible exact ih2 _ _ _ _ _ _ _ _ _ _ _ _ _ _ _ _ _)
   | (with_reducible exact ih3 _ _ _ _ _ _ _ _ _ _ _ _ _ _ _ _ _)
   | (with_reducible exact zae.mono _ _ _)
   | (with_reducible exact zb6.mono _ _ _ _ _)
   | (with_reducible exact LeO.refl _)
   | (with_reducible exact LeO.none _)
   | (with_reducible refine LeO.ite ?_ ?_)
   | (with_reducible refine LeO.bind ?_ (fun _=>?_))
   | exact ih0 _ _ _ _ _ _ _ _ _ _ _ _ _ _ _ _ _ _
   | exact ih1 _ _ _ _ _ _ _ _ _ _ _ _ _ _ _ _ _
   | exact ih2 _ _ _ _ _ _ _ _ _ _ _ _ _ _ _ _ _
   | exact ih3 _ _ _ _ _ _ _ _ _ _ _ _ _ _ _ _ _
   | exact zae.mono _ _ _
   | exact zb6.mono _ _ _ _ _
   | exact LeO.none _
   | refine LeO.ite ?_ ?_
   | refine LeO.bind ?_ (fun _=>?_)
  ·intro y0 y1 y2 y3 y4 y5 y6 y7 y8 y9 y10 y11 y12 y13 y14 y15 y16
   unfold za3.l3
   repeat' first
   | (with_reducible exact ih0 _ _ _ _ _ _ _ _ _ _ _ _ _ _ _ _ _ _)
   | (with_reducible exact ih1 _ _ _ _ _ _ _ _ _ _ _ _ _ _ _ _ _)
   | (with_reducible exact ih2 _ _ _ _ _ _ _ _ _ _ _ _ _ _ _ _ _)
   | (with_reducible exact ih3 _ _ _ _ _ _ _ _ _ _ _ _ _ _ _ _ _)
   | (with_reducible exact zae.mono _ _ _)
   | (with_reducible exact zb6.mono _ _ _ _ _)
   | (with_reducible exact LeO.refl _)
   | (with_reducible exact LeO.none _)
   | (with_reducible refine LeO.ite ?_ ?_)
   | (with_reducible refine LeO.bind ?_ (fun _=>?_))
   | exact ih0 _ _ _ _ _ _ _ _ _ _ _ _ _ _ _ _ _ _
   | exact ih1 _ _ _ _ _ _ _ _ _ _ _ _ _ _ _ _ _
   | exact ih2 _ _ _ _ _ _ _ _ _ _ _ _ _ _ _ _ _
   | exact ih3 _ _ _ _ _ _ _ _ _ _ _ _ _ _ _ _ _
   | exact zae.mono _ _ _
   | exact zb6.mono _ _ _ _ _
   | exact LeO.none _
   | refine LeO.ite ?_ ?_
   | refine LeO.bind ?_ (fun _=>?_)
theorem za3.mono:∀ a0 a1 a2 a3 a4 a5 a6 a7 a8 a9 a10 a11 a12 a13 a14 k,LeO (za3.f k a0 a1 a2 a3 a4 a5 a6 a7 a8 a9 a10 a11 a12 a13 a14) (za3.f (k+1) a0 a1 a2 a3 a4 a5 a6 a7 a8 a9 a10 a11 a12 a13 a14):=by
 intro a0 a1 a2 a3 a4 a5 a6 a7 a8 a9 a10 a11 a12 a13 a14 k;obtain ⟨ih0,ih1,ih2,ih3⟩:=za3.mono_l k;unfold za3.f
 repeat' first
  | (with_reducible exact ih0 _ _ _ _ _ _ _ _ _ _ _ _ _ _ _ _ _ _)
  | (with_reducible exact ih1 _ _ _ _ _ _ _ _ _ _ _ _ _ _ _ _ _)
  | (with_reducible exact ih2 _ _ _ _ _ _ _ _ _ _ _ _ _ _ _ _ _)
  | (with_reducible exact ih3 _ _ _ _ _ _ _ _ _ _ _ _ _ _ _ _ _)
  | (with_reducible exact zae.mono _ _ _)
  | (with_reducible exact zb6.mono _ _ _ _ _)
  | (with_reducible exact LeO.refl _)
  | (with_reducible exact LeO.none _)
  | (with_reducible refine LeO.ite ?_ ?_)
  | (with_reducible refine LeO.bind ?_ (fun _=>?_))
  | exact ih0 _ _ _ _ _ _ _ _ _ _ _ _ _ _ _ _ _ _
  | exact ih1 _ _ _ _ _ _ _ _ _ _ _ _ _ _ _ _ _
  | exact ih2 _ _ _ _ _ _ _ _ _ _ _ _ _ _ _ _ _
  | exact ih3 _ _ _ _ _ _ _ _ _ _ _ _ _ _ _ _ _
  | exact zae.mono _ _ _
  | exact zb6.mono _ _ _ _ _
  | exact LeO.none _
  | refine LeO.ite ?_ ?_
  | refine LeO.bind ?_ (fun _=>?_)
def za3.T7:Bool×List (List Nat×List Nat):=(true,[([],[]),([],[]),([1],[1]),([2],[2]),([0,3],[0,3]),([],[]),([5],[5]),([6],[6]),([4,7,4],[4,7]),([8,8,0,1,2,3,4,5,6,7,8],[0,8])])
def za3.B7:List Nat:=[0,0,2,6,15,0,32,96,255,511]
theorem za3.tab7:rtab .any (opsOf Tryd.f30 7)=za3.T7:=by kernel_rfl
theorem za3.bits7:waitsOk za3.T7.2 za3.B7=true:=by kernel_rfl
def za3.T12:Bool×List (List Nat×List Nat):=(true,[([],[]),([],[]),([1],[1]),([2],[2]),([],[]),([3,4],[3,4]),([5],[5]),([6],[6]),([0,7],[0,7]),([],[]),([9],[9]),([10],[10]),([],[]),([11,12],[11,12]),([13],[13]),([14],[14]),([8,15,8],[8,15]),([16,16,0,1,2,3,4,5,6,7,8,9,10,11,12,13,14,15,16],[0,16])])
def za3.B12:List Nat:=[0,0,2,6,0,30,62,126,255,0,512,1536,0,7680,15872,32256,65535,131071]
theorem za3.tab12:rtab .any (opsOf Tryd.f30 12)=za3.T12:=by kernel_rfl
theorem za3.bits12:waitsOk za3.T12.2 za3.B12=true:=by kernel_rfl
def za3.T17:Bool×List (List Nat×List Nat):=(true,[([],[]),([],[]),([1],[1]),([2],[2]),([],[]),([3,4],[3,4]),([5],[5]),([6],[6]),([0,7],[0,7]),([],[]),([9],[9]),([10],[10]),([],[]),([11,12],[11,12]),([13],[13]),([14],[14]),([8,15,8],[8,15]),([16,16,0,1,2,3,4,5,6,7,8,9,10,11,12,13,14,15,16],[0,16])])
def za3.B17:List Nat:=[0,0,2,6,0,30,62,126,255,0,512,1536,0,7680,15872,32256,65535,131071]
theorem za3.tab17:rtab .any (opsOf Tryd.f30 17)=za3.T17:=by kernel_rfl
theorem za3.bits17:waitsOk za3.T17.2 za3.B17=true:=by kernel_rfl
def za3.T23:Bool×List (List Nat×List Nat):=(true,[([],[]),([],[]),([1],[1]),([2],[2]),([0,3],[0,3]),([],[]),([5],[5]),([6],[6]),([7],[7]),([4,8,4],[4,8]),([],[]),([10],[10]),([11],[11]),([12],[12]),([9,13,9],[9,13]),([],[]),([15],[15]),([14,16,14],[14,16]),([17,17,0,1,2,3,4,5,6,7,8,9,10,11,12,13,14,15,16,17],[0,17])])
def za3.B23:List Nat:=[0,0,2,6,15,0,32,96,224,511,0,1024,3072,7168,16383,0,32768,131071,262143]
theorem za3.tab23:rtab .any (opsOf Tryd.f30 23)=za3.T23:=by kernel_rfl
theorem za3.bits23:waitsOk za3.T23.2 za3.B23=true:=by kernel_rfl
set_option maxHeartbeats 8000000 in
set_option maxRecDepth 100000 in
theorem za3.calls (k:Nat) (a0_0:Int) (a0_1:Int) (a0_2:Int) (a0_3:Int) (a0_4:Int) (a0_5:Int) (a0_6:Bool) (a0_7:ByteArray) (a0_8:ByteArray) (a0_9:Bool) (a0_10:ByteArray) (a0_11:ByteArray) (A0_12:Option Addr) (c0_12:Nat) (l0_12:List (S49)) (A0_13:Option Addr) (c0_13:Nat) (l0_13:List (S51)) (A0_14:Option Addr) (c0_14:Nat) (l0_14:List (S55)) (r:List Int) (w:World) (hr0_12:Kd.C k49 w A0_12 l0_12.length l0_12) (hc0_12:l0_12.length≤c0_12) (hr0_13:Kd.C k51 w A0_13 l0_13.length l0_13) (hc0_13:l0_13.length≤c0_13) (hr0_14:Kd.C k55 w A0_14 l0_14.length l0_14) (hc0_14:l0_14.length≤c0_14) (h:za3.f k a0_0 a0_1 a0_2 a0_3 a0_4 a0_5 a0_6 a0_7 a0_8 a0_9 a0_10 a0_11 l0_12 l0_13 l0_14=some r) :
 Calls Tryd.prog 30 #[.agg #[.int .i64 a0_0,.int .i64 a0_1,.int .i64 a0_2,.int .i64 a0_3,.int .i64 a0_4,.int .i64 a0_5,.bool a0_6,.string a0_7,.string a0_8,.bool a0_9,.string a0_10,.string a0_11,.slice A0_12 l0_12.length c0_12,.slice A0_13 l0_13.length c0_13,.slice A0_14 l0_14.length c0_14]] w fun e w'=>∃ v0_:Value,e = .returned (v0_)∧Kd.R (Kd.int .u8) 5 w' w.heap.size (fun _=>True) v0_ r∧Below w.heap.size w w':=by
 have hu37:=Tryd.underlying37;have hu34:=Tryd.underlying34;have hu30:=Tryd.underlying30;have hu55:=Tryd.underlying55;have HR0_12:=za1.mk hr0_12;have HC0_12:=za1.mk hc0_12;clear hr0_12 hc0_12;have HR0_13:=za1.mk hr0_13;have HC0_13:=za1.mk hc0_13;clear hr0_13 hc0_13;have HR0_14:=za1.mk hr0_14;have HC0_14:=za1.mk hc0_14;clear hr0_14 hc0_14;have HB:=am (Below.refl w.heap.size w);have H:((zbo.f a0_0 a0_1 a0_2 a0_3 a0_4 a0_5 a0_6 a0_7 a0_8 a0_9 a0_10 a0_11 l0_12 l0_13).bind fun t317=>(za3.l0 k ([]:List Int) t317 0 a0_0 a0_1 a0_2 a0_3 a0_4 a0_5 a0_6 a0_7 a0_8 a0_9 a0_10 a0_11 l0_12 l0_13 l0_14))=some r:=h;clear h;replace H:=Option.bind_eq_some_iff.mp H;obtain ⟨t317,A20,H⟩:=H;replace H:(za3.l0 k ([]:List Int) t317 0 a0_0 a0_1 a0_2 a0_3 a0_4 a0_5 a0_6 a0_7 a0_8 a0_9 a0_10 a0_11 l0_12 l0_13 l0_14)=some r:=H;have A2:=za1.mk A20;clear A20;have H':=za1.mk H;clear H;go_enter Tryd.func30,Tryd.ntmps30
 go_wp2_with (first|((with_reducible refine zbr (N:=1) rfl ?_);refine zbq ?hg (N:=1) ?hd (cs:=#[.int .i64 a0_0,.int .i64 a0_1,.int .i64 a0_2,.int .i64 a0_3,.int .i64 a0_4,.int .i64 a0_5,.bool a0_6,.string a0_7,.string a0_8,.bool a0_9,.string a0_10,.string a0_11,.slice A0_12 l0_12.length c0_12,.slice A0_13 l0_13.length c0_13,.slice A0_14 l0_14.length c0_14]) (t:=37) ?hr ?_;(case hd=>rfl);(case hg=>rfl);(case hr=>first|(go_simp;done)|(go_simp;rfl));intro g_a hg w3 hbox hb;have B_a:=am (hbox);have W_a:=am ((q48:w.heap.size≤g_a));have E_a:=am ((q48:w.heap.size≤g_a));replace HB:=am (zab q2 hb);clear hb hbox hg;obtain ⟨c_a0,c_a1,c_a2,c_a3,c_a4,c_a5,c_a6,c_a7,c_a8,c_a9,c_a10,c_a11,c_a12,c_a13,c_a14⟩:=cs15 B_a.out;obtain ⟨f_a0,f_a1,f_a2,f_a3,f_a4,f_a5,f_a6,f_a7,f_a8,f_a9,f_a10,f_a11,f_a12,f_a13,f_a14⟩:=fs15 B_a.out)|((with_reducible refine zan (f:=34) rfl ?_);refine goesL_ (some 12) rfl rfl Tryd.func34 (by kernel_rfl) rfl #[.agg #[.int .i64 a0_0,.int .i64 a0_1,.int .i64 a0_2,.int .i64 a0_3,.int .i64 a0_4,.int .i64 a0_5,.bool a0_6,.string a0_7,.string a0_8,.bool a0_9,.string a0_10,.string a0_11,.slice A0_12 l0_12.length c0_12,.slice A0_13 l0_13.length c0_13]] rfl q4 ?_;(with_reducible refine (zbo.calls a0_0 a0_1 a0_2 a0_3 a0_4 a0_5 a0_6 a0_7 a0_8 a0_9 a0_10 a0_11 _ _ l0_12 _ _ l0_13 t317 _ ?side1 ?side2 ?side3 ?side4 A2.out).mono ?_);(case side1=>repeat (first|exact (Kd.zc6 HR0_12.out HB.out)|(with_reducible refine Kd.zbv ?_ _)|(with_reducible refine Kd.zbw ?_ _)|(with_reducible refine Kd.zc8 ?_)));(case side2=>exact HC0_12.out);(case side3=>repeat (first|exact (Kd.zc6 HR0_13.out HB.out)|(with_reducible refine Kd.zbv ?_ _)|(with_reducible refine Kd.zbw ?_ _)|(with_reducible refine Kd.zc8 ?_)));(case side4=>exact HC0_13.out);rintro e w5 ⟨v318,rfl,ho0,hb⟩;refine ⟨_,rfl,?_⟩;have HO319:=am (Kd.zc9 ho0 (zbb q3));replace B_a:=am (zaf q1 hb);replace HB:=am (zab q3 hb);(try clear hb);(try clear hb2);(try clear hk);(try clear hi);(try clear ho0)))
 go_loopg [3,5] k (fun kq v3 v5 w'=>∃ (x3_1:List Int) (x5_1:Int),v5 = .int .i64 x5_1∧za1 (za3.l0 kq x3_1 t317 x5_1 a0_0 a0_1 a0_2 a0_3 a0_4 a0_5 a0_6 a0_7 a0_8 a0_9 a0_10 a0_11 l0_12 l0_13 l0_14=some r)∧za1 (kq≤k)∧za1 (Kd.R (Kd.int .u8) 5 w' w.heap.size (fun _=>True) v3 x3_1)∧za1 (Kd.R (Kd.int .i64) 3 w' w.heap.size (fun _=>True) v318 t317)∧za1 (w'.heap[g_a]?=some (.cells #[.int .i64 a0_0,.int .i64 a0_1,.int .i64 a0_2,.int .i64 a0_3,.int .i64 a0_4,.int .i64 a0_5,.bool a0_6,.string a0_7,.string a0_8,.bool a0_9,.string a0_10,.string a0_11,(.slice A0_12 l0_12.length c0_12),(.slice A0_13 l0_13.length c0_13),(.slice A0_14 l0_14.length c0_14)] 37 (0,0)))∧za1 (Below w.heap.size w w'))
 case atStart=>exact ⟨(([]:List Int)),(0),q5,H',⟨Nat.le_refl _⟩,⟨q26⟩,⟨by (with_reducible repeat (first|apply Kd.zb1|apply Kd.zb2|apply Kd.zb9));exact HO319.out⟩,⟨q1⟩,⟨q3⟩⟩
 case round=>
  clear H';(try clear p2);(try clear c3);(try clear c_a0 c_a1 c_a10 c_a11 c_a12 c_a13 c_a14 c_a2 c_a3 c_a4 c_a5 c_a6 c_a7 c_a8 c_a9 f_a0 f_a1 f_a10 f_a11 f_a12 f_a13 f_a14 f_a2 f_a3 f_a4 f_a5 f_a6 f_a7 f_a8 f_a9);obtain ⟨x3_1,x5_1,rfl,HA,HK1,HO_3,HO_4,B_a,HB⟩:=hrel
  cases gk with
  | zero=>exact absurd HA.out (by simp [za3.l0])
  | succ k1=>
   have H:=HA.out;clear HA;simp only [za3.l0] at H
   by_cases c6:x5_1<(t317.length:Int)
   ·rw [if_pos c6] at H
    have c6b0:decide (x5_1<(t317.length:Int))=true:=decide_eq_true c6;clear c6
    by_cases c7:0≤x5_1
    ·rw [if_pos c7] at H
     have c7b0:decide (0≤x5_1)=true:=decide_eq_true c7;clear c7;replace H:=Option.bind_eq_some_iff.mp H;obtain ⟨t321,A80,H⟩:=H;replace H:(za3.l0 k1 t321 t317 (wrap64 (x5_1+1)) a0_0 a0_1 a0_2 a0_3 a0_4 a0_5 a0_6 a0_7 a0_8 a0_9 a0_10 a0_11 l0_12 l0_13 l0_14)=some r:=H;have A8:=za1.mk A80;clear A80;have H':=za1.mk H;clear H;obtain ⟨Ao9,co9,eo9⟩:=Kd.zbn HO_4.out;subst eo9;have p320:0≤(x5_1:Int):=of_decide_eq_true q0;have q320:x5_1<(t317.length:Int):=of_decide_eq_true q0;obtain ⟨ad320,e320,hx320_0⟩:=Kd.at_int (Kd.R_reads' HO_4.out).2.2 x5_1 p320 q320;cases e320;replace p320:=eq_true p320;replace q320:=eq_true q320;obtain ⟨Ao10,co10,eo10⟩:=Kd.zbn HO_3.out;subst eo10
     go_wp2_with (first|((with_reducible refine zan (f:=43) rfl ?_);refine goesL_ (some 24) rfl rfl Tryd.func43 (by kernel_rfl) rfl #[.slice Ao10 x3_1.length co10,.int .i64 (rd t317 x5_1)] rfl q4 ?_;(with_reducible refine (zae.calls k1 (fun k_=>some k_=(.slice Ao10 x3_1.length co10:Value).ownBlock) (.slice Ao10 x3_1.length co10) x3_1 (rd t317 x5_1) t321 w _ ?side1 ?side2 A8.out).mono ?_);(case side1=>repeat (first|(with_reducible first|exact HB.out|apply zaw|apply zah|apply zar|refine zak ?_ E_a.out)|exact HB.out));(case side2=>exact Kd.zci rfl HO_3.out);rintro e w11 ⟨v322,rfl,ho0,hb,hkp⟩;refine ⟨_,rfl,?_⟩;have n0_:=am (Kd.zbm (ok':=fun k_=>True) (Kd.zd9 ((Kd.R_apart' HO_4.out (Kd.zd6 HO_3.out) (by decide))) hkp (fun k_ hk_ hs_=>(hk_.2) hs_)) (fun k_ hk_=>trivial));have n1_:=am (zcm q1 hkp (fun hs_=>(fun e_=>(Kd.zd5 HO_3.out B_a.out (by decide)) e_) hs_));have n2_:=am (Kd.zbm (ok':=fun k_=>True) ho0 (fun k_ hk_=>trivial));have n3_:=am (hb);clear HO_4;clear B_a;clear HB;clear HO_3;have HO_4:=n0_;have B_a:=n1_;have HO323:=n2_;have HB:=n3_;clear n0_ n1_ n2_ n3_;(try clear hb);(try clear hkp);(try clear ho0)))
     go_roundg k1
     case measure=>have:=HK1.out;omega
     case rel=>exact ⟨(t321),(wrap64 (x5_1+1)),q5,H',⟨q13⟩,⟨by (with_reducible repeat (first|apply Kd.zb1|apply Kd.zb2|apply Kd.zb9));exact HO323.out⟩,⟨by (with_reducible repeat (first|apply Kd.zb1|apply Kd.zb2|apply Kd.zb9));exact HO_4.out⟩,⟨q1⟩,⟨q3⟩⟩
    ·rw [if_neg c7] at H
     exact absurd H (by simp)
   ·rw [if_neg c6] at H
    have c6b0:decide (x5_1<(t317.length:Int))=false:=decide_eq_false c6;clear c6;replace H:=Option.bind_eq_some_iff.mp H;obtain ⟨t324,A120,H⟩:=H;replace H:((zb6.f k1 t324 a0_9 a0_10 a0_11).bind fun t327=>((zae.f k1 t327 (l0_12.length:Int)).bind fun t330=>(za3.l1 k1 t330 0 a0_0 a0_1 a0_2 a0_3 a0_4 a0_5 a0_6 a0_7 a0_8 a0_9 a0_10 a0_11 l0_12 l0_13 l0_14)))=some r:=H;have A12:=za1.mk A120;clear A120;replace H:=Option.bind_eq_some_iff.mp H;obtain ⟨t327,A130,H⟩:=H;replace H:((zae.f k1 t327 (l0_12.length:Int)).bind fun t330=>(za3.l1 k1 t330 0 a0_0 a0_1 a0_2 a0_3 a0_4 a0_5 a0_6 a0_7 a0_8 a0_9 a0_10 a0_11 l0_12 l0_13 l0_14))=some r:=H;have A13:=za1.mk A130;clear A130;replace H:=Option.bind_eq_some_iff.mp H;obtain ⟨t330,A140,H⟩:=H;replace H:(za3.l1 k1 t330 0 a0_0 a0_1 a0_2 a0_3 a0_4 a0_5 a0_6 a0_7 a0_8 a0_9 a0_10 a0_11 l0_12 l0_13 l0_14)=some r:=H;have A14:=za1.mk A140;clear A140;have H':=za1.mk H;clear H;obtain ⟨Ao15,co15,eo15⟩:=Kd.zbn HO_4.out;subst eo15
    try go_wp2
    replace HO_3:=am (Kd.zb9 HO_3.out);replace HO_4:=am (Kd.zb9 HO_4.out);replace B_a:=am (za6 B_a.out);replace HB:=am (zar HB.out);obtain ⟨Ao17,co17,eo17⟩:=Kd.zbn HO_3.out
    (first|subst eo17|(injection eo17 with f1_ f2_ f3_;have f4_:=f1_.symm;have f5_:=f3_.symm;clear f1_ f2_ f3_;subst f4_;subst f5_))
    refine start_ (n:=10) (S:=fun w'=>w'.cell? ⟨g_a,0,none⟩=some (.int .i64 a0_0)∧w'.cell? ⟨g_a,1,none⟩=some (.int .i64 a0_1)∧w'.cell? ⟨g_a,2,none⟩=some (.int .i64 a0_2)∧w'.cell? ⟨g_a,3,none⟩=some (.int .i64 a0_3)∧w'.cell? ⟨g_a,4,none⟩=some (.int .i64 a0_4)∧w'.cell? ⟨g_a,5,none⟩=some (.int .i64 a0_5)∧w'.cell? ⟨g_a,6,none⟩=some (.bool a0_6)∧w'.cell? ⟨g_a,7,none⟩=some (.string a0_7)∧w'.cell? ⟨g_a,8,none⟩=some (.string a0_8)∧w'.cell? ⟨g_a,9,none⟩=some (.bool a0_9)∧w'.cell? ⟨g_a,10,none⟩=some (.string a0_10)∧w'.cell? ⟨g_a,11,none⟩=some (.string a0_11)∧w'.cell? ⟨g_a,12,none⟩=some (.slice A0_12 l0_12.length c0_12)∧w'.cell? ⟨g_a,13,none⟩=some (.slice A0_13 l0_13.length c0_13)∧w'.cell? ⟨g_a,14,none⟩=some (.slice A0_14 l0_14.length c0_14)) (ds:=[]) #[false,false,false,false,false,false,false,false,false,false] (by kernel_rfl) rfl rfl ⟨bc B_a 0,bc B_a 1,bc B_a 2,bc B_a 3,bc B_a 4,bc B_a 5,bc B_a 6,bc B_a 7,bc B_a 8,bc B_a 9,bc B_a 10,bc B_a 11,bc B_a 12,bc B_a 13,bc B_a 14⟩ (fun hHeld=>?_);refine with_tabW za3.tab7 za3.bits7 (fun HT_ HW_=>?_)
    generalize wr.drew=w16 at HO_3 HO_4 B_a HB hHeld ⊢
    refine pp 0 25 rfl rfl ?_;refine pp 1 26 rfl rfl ?_;refine pp 2 27 rfl rfl ?_;refine pp 5 30 rfl rfl ?_;refine pp 6 31 rfl rfl ?_;refine tk15 3 28 rfl rfl ?_;refine tk15 7 32 rfl rfl ?_;refine one_ (i:=4) (N:=some 29) #[true,true,true,true,true,true,true,true,false,false] rfl rfl (one_of HT_.out (by kernel_rfl)) (by decide) (fun K hK=>?_);refine goes_ Tryd.func44 (by kernel_rfl) rfl #[.slice Ao17 x3_1.length co17,.agg #[.bool a0_6,.string a0_7,.string a0_8]] (by rfl) rfl rfl q4 ?_
    with_reducible refine (zb6.calls k1 (fun k_=>some k_=(.slice Ao17 x3_1.length co17:Value).ownBlock) (.slice Ao17 x3_1.length co17) x3_1 a0_6 a0_7 a0_8 t324 w _ ?side1 ?side2 A12.out).mono ?_
    (case side1=>repeat (first|(with_reducible first|exact HB.out|apply zaw|apply zah|apply zar|refine zak ?_ E_a.out)|exact HB.out))
    (case side2=>exact Kd.zci rfl HO_3.out)
    rintro e w18 ⟨v325,rfl,ho0,hb,hkp⟩;refine ⟨_,rfl,?_⟩;have n0_:=am (Kd.zbm (ok':=fun k_=>True) (Kd.zd9 ((Kd.R_apart' HO_4.out (Kd.zd6 HO_3.out) (by decide))) hkp (fun k_ hk_ hs_=>(hk_.2) hs_)) (fun k_ hk_=>trivial));have n1_:=am (zcm q1 hkp (fun hs_=>(fun e_=>(Kd.zd5 HO_3.out B_a.out (by decide)) e_) hs_));have n2_:=am (Kd.zbm (ok':=fun k_=>True) ho0 (fun k_ hk_=>trivial));have n3_:=am (hb);clear HO_4;clear B_a;clear HB;clear HO_3;have HO_4:=n0_;have B_a:=n1_;have HO326:=n2_;have HB:=n3_;clear n0_ n1_ n2_ n3_;(try clear hb);(try clear hkp);(try clear ho0);obtain ⟨Ao19,co19,eo19⟩:=Kd.zbn HO326.out
    (first|subst eo19|(injection eo19 with f1_ f2_ f3_;have f4_:=f1_.symm;have f5_:=f3_.symm;clear f1_ f2_ f3_;subst f4_;subst f5_))
    refine hK.out _ _ ⟨bc B_a 0,bc B_a 1,bc B_a 2,bc B_a 3,bc B_a 4,bc B_a 5,bc B_a 6,bc B_a 7,bc B_a 8,bc B_a 9,bc B_a 10,bc B_a 11,bc B_a 12,bc B_a 13,bc B_a 14⟩ (fun hHeld=>?_);clear hK K;refine norm_ (a':=?_) ?_ ?_;rotate_left
    ·show Act.put _ (some 29) _=_
     simp only [Act.put,List.setIfInBounds_toArray,List.set_cons_zero,List.set_cons_succ,i64_w,i32_w]
     rfl
    refine one_ (i:=8) (N:=some 33) #[true,true,true,true,true,true,true,true,true,false] rfl rfl (one_of HT_.out (by kernel_rfl)) (by decide) (fun K hK=>?_);refine goes_ Tryd.func44 (by kernel_rfl) rfl #[.slice Ao19 t324.length co19,.agg #[.bool a0_9,.string a0_10,.string a0_11]] (by rfl) rfl rfl q4 ?_
    with_reducible refine (zb6.calls k1 (fun k_=>some k_=(.slice Ao19 t324.length co19:Value).ownBlock) (.slice Ao19 t324.length co19) t324 a0_9 a0_10 a0_11 t327 w _ ?side1 ?side2 A13.out).mono ?_
    (case side1=>repeat (first|(with_reducible first|exact HB.out|apply zaw|apply zah|apply zar|refine zak ?_ E_a.out)|exact HB.out))
    (case side2=>exact Kd.zci rfl HO326.out)
    rintro e w20 ⟨v328,rfl,ho0,hb,hkp⟩;refine ⟨_,rfl,?_⟩;have n0_:=am (Kd.zbm (ok':=fun k_=>True) (Kd.zd9 ((Kd.R_apart' HO_4.out (Kd.zd6 HO326.out) (by decide))) hkp (fun k_ hk_ hs_=>(hk_.2) hs_)) (fun k_ hk_=>trivial));have n1_:=am (zcm q1 hkp (fun hs_=>(fun e_=>(Kd.zd5 HO326.out B_a.out (by decide)) e_) hs_));have n2_:=am (Kd.zbm (ok':=fun k_=>True) ho0 (fun k_ hk_=>trivial));have n3_:=am (hb);clear HO_4;clear B_a;clear HB;clear HO326;have HO_4:=n0_;have B_a:=n1_;have HO329:=n2_;have HB:=n3_;clear n0_ n1_ n2_ n3_;(try clear hb);(try clear hkp);(try clear ho0);refine hK.out _ _ ⟨bc B_a 0,bc B_a 1,bc B_a 2,bc B_a 3,bc B_a 4,bc B_a 5,bc B_a 6,bc B_a 7,bc B_a 8,bc B_a 9,bc B_a 10,bc B_a 11,bc B_a 12,bc B_a 13,bc B_a 14⟩ (fun hHeld=>?_);clear hK K;refine norm_ (a':=?_) ?_ ?_;rotate_left
    ·show Act.put _ (some 33) _=_
     simp only [Act.put,List.setIfInBounds_toArray,List.set_cons_zero,List.set_cons_succ,i64_w,i32_w]
     rfl
    refine pp 9 3 rfl rfl ?_;refine done_ (done_of HT_.out (by kernel_rfl)) ?_;obtain ⟨c_b0,c_b1,c_b2,c_b3,c_b4,c_b5,c_b6,c_b7,c_b8,c_b9,c_b10,c_b11,c_b12,c_b13,c_b14⟩:=cs15 B_a.out;obtain ⟨f_b0,f_b1,f_b2,f_b3,f_b4,f_b5,f_b6,f_b7,f_b8,f_b9,f_b10,f_b11,f_b12,f_b13,f_b14⟩:=fs15 B_a.out;obtain ⟨Ao22,co22,eo22⟩:=Kd.zbn HO329.out;subst eo22
    try go_wp2_with (first|((with_reducible refine zan (f:=43) rfl ?_);refine goesL_ (some 39) rfl rfl Tryd.func43 (by kernel_rfl) rfl #[.slice Ao22 t327.length co22,.int .i64 (l0_12.length:Int)] rfl q4 ?_;(with_reducible refine (zae.calls k1 (fun k_=>some k_=(.slice Ao22 t327.length co22:Value).ownBlock) (.slice Ao22 t327.length co22) t327 (l0_12.length:Int) t330 w _ ?side1 ?side2 A14.out).mono ?_);(case side1=>repeat (first|(with_reducible first|exact HB.out|apply zaw|apply zah|apply zar|refine zak ?_ E_a.out)|exact HB.out));(case side2=>exact Kd.zci rfl HO329.out);rintro e w23 ⟨v331,rfl,ho0,hb,hkp⟩;refine ⟨_,rfl,?_⟩;have n0_:=am (Kd.zbm (ok':=fun k_=>True) (Kd.zd9 ((Kd.R_apart' HO_4.out (Kd.zd6 HO329.out) (by decide))) hkp (fun k_ hk_ hs_=>(hk_.2) hs_)) (fun k_ hk_=>trivial));have n1_:=am (zcm q1 hkp (fun hs_=>(fun e_=>(Kd.zd5 HO329.out B_a.out (by decide)) e_) hs_));have n2_:=am (Kd.zbm (ok':=fun k_=>True) ho0 (fun k_ hk_=>trivial));have n3_:=am (hb);clear HO_4;clear B_a;clear HB;clear HO329;have HO_4:=n0_;have B_a:=n1_;have HO332:=n2_;have HB:=n3_;clear n0_ n1_ n2_ n3_;(try clear hb);(try clear hkp);(try clear ho0)))
    go_loopg [3,6] k1 (fun kq v3 v6 w'=>∃ (x3_2:List Int) (x6_2:Int),v6 = .int .i64 x6_2∧za1 (za3.l1 kq x3_2 x6_2 a0_0 a0_1 a0_2 a0_3 a0_4 a0_5 a0_6 a0_7 a0_8 a0_9 a0_10 a0_11 l0_12 l0_13 l0_14=some r)∧za1 (kq≤k1)∧za1 (Kd.R (Kd.int .u8) 5 w' w.heap.size (fun _=>True) v3 x3_2)∧za1 (w'.heap[g_a]?=some (.cells #[.int .i64 a0_0,.int .i64 a0_1,.int .i64 a0_2,.int .i64 a0_3,.int .i64 a0_4,.int .i64 a0_5,.bool a0_6,.string a0_7,.string a0_8,.bool a0_9,.string a0_10,.string a0_11,(.slice A0_12 l0_12.length c0_12),(.slice A0_13 l0_13.length c0_13),(.slice A0_14 l0_14.length c0_14)] 37 (0,0)))∧za1 (Below w.heap.size w w'))
    case atStart=>exact ⟨(t330),(0),q5,H',⟨Nat.le_refl _⟩,⟨by (with_reducible repeat (first|apply Kd.zb1|apply Kd.zb2|apply Kd.zb9));exact HO332.out⟩,⟨q1⟩,⟨q3⟩⟩
    case round=>
     clear H';(try clear p2 p2);(try clear c3);(try clear p3);(try clear q3);(try clear hx3);(try clear c4);(try clear c6);(try clear c6b0);(try clear p6);(try clear c7);(try clear c7b0);(try clear c_b0 c_b1 c_b10 c_b11 c_b12 c_b13 c_b14 c_b2 c_b3 c_b4 c_b5 c_b6 c_b7 c_b8 c_b9 f_b0 f_b1 f_b10 f_b11 f_b12 f_b13 f_b14 f_b2 f_b3 f_b4 f_b5 f_b6 f_b7 f_b8 f_b9);(try clear c_a0 c_a1 c_a10 c_a11 c_a12 c_a13 c_a14 c_a2 c_a3 c_a4 c_a5 c_a6 c_a7 c_a8 c_a9 f_a0 f_a1 f_a10 f_a11 f_a12 f_a13 f_a14 f_a2 f_a3 f_a4 f_a5 f_a6 f_a7 f_a8 f_a9);(try clear hx320_0);(try clear p320);(try clear q320);obtain ⟨x3_2,x6_2,rfl,HA,HK2,HO_3,B_a,HB⟩:=hrel
     cases gk with
     | zero=>exact absurd HA.out (by simp [za3.l1])
     | succ k2=>
      have H:=HA.out;clear HA;simp only [za3.l1] at H
      by_cases c24:x6_2<(l0_12.length:Int)
      ·rw [if_pos c24] at H
       have c24b0:decide (x6_2<(l0_12.length:Int))=true:=decide_eq_true c24;clear c24
       by_cases c25:0≤x6_2
       ·rw [if_pos c25] at H
        have c25b0:decide (0≤x6_2)=true:=decide_eq_true c25;clear c25;replace H:=Option.bind_eq_some_iff.mp H;obtain ⟨t334,A260,H⟩:=H;replace H:((zae.f k2 t334 ((rd_T49 l0_12 x6_2).f1)).bind fun t338=>(za3.l1 k2 t338 (wrap64 (x6_2+1)) a0_0 a0_1 a0_2 a0_3 a0_4 a0_5 a0_6 a0_7 a0_8 a0_9 a0_10 a0_11 l0_12 l0_13 l0_14))=some r:=H;have A26:=za1.mk A260;clear A260;replace H:=Option.bind_eq_some_iff.mp H;obtain ⟨t338,A270,H⟩:=H;replace H:(za3.l1 k2 t338 (wrap64 (x6_2+1)) a0_0 a0_1 a0_2 a0_3 a0_4 a0_5 a0_6 a0_7 a0_8 a0_9 a0_10 a0_11 l0_12 l0_13 l0_14)=some r:=H;have A27:=za1.mk A270;clear A270;have H':=za1.mk H;clear H;obtain ⟨c_c0,c_c1,c_c2,c_c3,c_c4,c_c5,c_c6,c_c7,c_c8,c_c9,c_c10,c_c11,c_c12,c_c13,c_c14⟩:=cs15 B_a.out;obtain ⟨f_c0,f_c1,f_c2,f_c3,f_c4,f_c5,f_c6,f_c7,f_c8,f_c9,f_c10,f_c11,f_c12,f_c13,f_c14⟩:=fs15 B_a.out
        try go_wp2
        replace HO_3:=am (Kd.zb9 HO_3.out);replace B_a:=am (za6 B_a.out);replace HB:=am (zar HB.out);have p333:0≤(x6_2:Int):=of_decide_eq_true q0;have q333:x6_2<(l0_12.length:Int):=of_decide_eq_true q0;obtain ⟨ad333,e333,hx333_0,hx333_1⟩:=at_T49 HR0_12.out x6_2 p333 q333;have hw333_1:=hx333_1;have hw333_0:=hx333_0;cases e333;replace hx333_0:=(HB.out.cell (World.block_lt_of_cell? w _ hx333_0)).trans hx333_0;replace hx333_1:=(HB.out.cell (World.block_lt_of_cell? w _ hx333_1)).trans hx333_1;replace p333:=eq_true p333;replace q333:=eq_true q333;have p337:0≤(x6_2:Int):=of_decide_eq_true q0;have q337:x6_2<(l0_12.length:Int):=of_decide_eq_true q0;obtain ⟨ad337,e337,hx337_0,hx337_1⟩:=at_T49 HR0_12.out x6_2 p337 q337;have hw337_1:=hx337_1;have hw337_0:=hx337_0
        obtain rfl:ad333=ad337:=(by injection e337)
        replace hx337_0:=(HB.out.cell (World.block_lt_of_cell? w _ hx337_0)).trans hx337_0;replace hx337_1:=(HB.out.cell (World.block_lt_of_cell? w _ hx337_1)).trans hx337_1;replace p337:=eq_true p337;replace q337:=eq_true q337;obtain ⟨Ao30,co30,eo30⟩:=Kd.zbn HO_3.out
        (first|subst eo30|(injection eo30 with f1_ f2_ f3_;have f4_:=f1_.symm;have f5_:=f3_.symm;clear f1_ f2_ f3_;subst f4_;subst f5_))
        refine start_ (n:=18) (S:=fun w'=>w'.cell? ⟨g_a,0,none⟩=some (.int .i64 a0_0)∧w'.cell? ⟨g_a,1,none⟩=some (.int .i64 a0_1)∧w'.cell? ⟨g_a,2,none⟩=some (.int .i64 a0_2)∧w'.cell? ⟨g_a,3,none⟩=some (.int .i64 a0_3)∧w'.cell? ⟨g_a,4,none⟩=some (.int .i64 a0_4)∧w'.cell? ⟨g_a,5,none⟩=some (.int .i64 a0_5)∧w'.cell? ⟨g_a,6,none⟩=some (.bool a0_6)∧w'.cell? ⟨g_a,7,none⟩=some (.string a0_7)∧w'.cell? ⟨g_a,8,none⟩=some (.string a0_8)∧w'.cell? ⟨g_a,9,none⟩=some (.bool a0_9)∧w'.cell? ⟨g_a,10,none⟩=some (.string a0_10)∧w'.cell? ⟨g_a,11,none⟩=some (.string a0_11)∧w'.cell? ⟨g_a,12,none⟩=some (.slice (some ad333) l0_12.length c0_12)∧w'.cell? ⟨g_a,13,none⟩=some (.slice A0_13 l0_13.length c0_13)∧w'.cell? ⟨g_a,14,none⟩=some (.slice A0_14 l0_14.length c0_14)∧w'.cell? (ad333.add ((x6_2).toNat*2))=some (.int .i64 ((rd_T49 l0_12 x6_2).f0))∧w'.cell? ⟨(ad333.add ((x6_2).toNat*2)).block,(ad333.add ((x6_2).toNat*2)).off+1,none⟩=some (.int .i64 ((rd_T49 l0_12 x6_2).f1))∧w'.cell? (ad333.add ((x6_2).toNat*2))=some (.int .i64 ((rd_T49 l0_12 x6_2).f0))∧w'.cell? ⟨(ad333.add ((x6_2).toNat*2)).block,(ad333.add ((x6_2).toNat*2)).off+1,none⟩=some (.int .i64 ((rd_T49 l0_12 x6_2).f1))) (ds:=[]) #[false,false,false,false,false,false,false,false,false,false,false,false,false,false,false,false,false,false] (by kernel_rfl) rfl rfl ⟨bc B_a 0,bc B_a 1,bc B_a 2,bc B_a 3,bc B_a 4,bc B_a 5,bc B_a 6,bc B_a 7,bc B_a 8,bc B_a 9,bc B_a 10,bc B_a 11,bc B_a 12,bc B_a 13,bc B_a 14,((HB.out.cell (World.block_lt_of_cell? w _ hw333_0)).trans hw333_0),((HB.out.cell (World.block_lt_of_cell? w _ hw333_1)).trans hw333_1),((HB.out.cell (World.block_lt_of_cell? w _ hw337_0)).trans hw337_0),((HB.out.cell (World.block_lt_of_cell? w _ hw337_1)).trans hw337_1)⟩ (fun hHeld=>?_);refine with_tabW za3.tab12 za3.bits12 (fun HT_ HW_=>?_)
        generalize wr.drew=w29 at HO_3 B_a HB hx333_0 hx333_1 hx337_0 hx337_1 hHeld ⊢
        refine pp 0 48 rfl rfl ?_;refine pp 1 49 rfl rfl ?_;refine pp 2 50 rfl rfl ?_;refine pp 4 52 rfl rfl ?_;refine pp 9 57 rfl rfl ?_;refine pp 10 58 rfl rfl ?_;refine pp 12 60 rfl rfl ?_;refine tk19 3 51 rfl rfl ?_;refine pp 5 53 rfl rfl ?_;refine pp 6 54 rfl rfl ?_;refine tk19 7 55 rfl rfl ?_;refine tk19 11 59 rfl rfl ?_;refine pp 13 61 rfl rfl ?_;refine pp 14 62 rfl rfl ?_;refine tk19 15 63 rfl rfl ?_;refine one_ (i:=8) (N:=some 56) #[true,true,true,true,true,true,true,true,true,true,true,true,true,true,true,true,false,false] rfl rfl (one_of HT_.out (by kernel_rfl)) (by decide) (fun K hK=>?_);refine goes_ Tryd.func43 (by kernel_rfl) rfl #[.slice Ao30 x3_2.length co30,.int .i64 ((rd_T49 l0_12 x6_2).f0)] (by rfl) rfl rfl q4 ?_
        with_reducible refine (zae.calls k2 (fun k_=>some k_=(.slice Ao30 x3_2.length co30:Value).ownBlock) (.slice Ao30 x3_2.length co30) x3_2 ((rd_T49 l0_12 x6_2).f0) t334 w _ ?side1 ?side2 A26.out).mono ?_
        (case side1=>repeat (first|(with_reducible first|exact HB.out|apply zaw|apply zah|apply zar|refine zak ?_ E_a.out)|exact HB.out))
        (case side2=>exact Kd.zci rfl HO_3.out)
        rintro e w31 ⟨v335,rfl,ho0,hb,hkp⟩;refine ⟨_,rfl,?_⟩;have n0_:=am (zcm q1 hkp (fun hs_=>(fun e_=>(Kd.zd5 HO_3.out B_a.out (by decide)) e_) hs_));have n1_:=am (Kd.zbm (ok':=fun k_=>True) ho0 (fun k_ hk_=>trivial));have n2_:=am (hb);clear B_a;clear HB;clear HO_3;have B_a:=n0_;have HO336:=n1_;have HB:=n2_;clear n0_ n1_ n2_;(try clear hb);(try clear hkp);(try clear ho0);obtain ⟨Ao32,co32,eo32⟩:=Kd.zbn HO336.out
        (first|subst eo32|(injection eo32 with f1_ f2_ f3_;have f4_:=f1_.symm;have f5_:=f3_.symm;clear f1_ f2_ f3_;subst f4_;subst f5_))
        refine hK.out _ _ ⟨bc B_a 0,bc B_a 1,bc B_a 2,bc B_a 3,bc B_a 4,bc B_a 5,bc B_a 6,bc B_a 7,bc B_a 8,bc B_a 9,bc B_a 10,bc B_a 11,bc B_a 12,bc B_a 13,bc B_a 14,((HB.out.cell (World.block_lt_of_cell? w _ hw333_0)).trans hw333_0),((HB.out.cell (World.block_lt_of_cell? w _ hw333_1)).trans hw333_1),((HB.out.cell (World.block_lt_of_cell? w _ hw337_0)).trans hw337_0),((HB.out.cell (World.block_lt_of_cell? w _ hw337_1)).trans hw337_1)⟩ (fun hHeld=>?_);clear hK K;refine norm_ (a':=?_) ?_ ?_;rotate_left
        ·show Act.put _ (some 56) _=_
         simp only [Act.put,List.setIfInBounds_toArray,List.set_cons_zero,List.set_cons_succ,i64_w,i32_w]
         rfl
        refine one_ (i:=16) (N:=some 64) #[true,true,true,true,true,true,true,true,true,true,true,true,true,true,true,true,true,false] rfl rfl (one_of HT_.out (by kernel_rfl)) (by decide) (fun K hK=>?_);refine goes_ Tryd.func43 (by kernel_rfl) rfl #[.slice Ao32 t334.length co32,.int .i64 ((rd_T49 l0_12 x6_2).f1)] (by rfl) rfl rfl q4 ?_
        with_reducible refine (zae.calls k2 (fun k_=>some k_=(.slice Ao32 t334.length co32:Value).ownBlock) (.slice Ao32 t334.length co32) t334 ((rd_T49 l0_12 x6_2).f1) t338 w _ ?side1 ?side2 A27.out).mono ?_
        (case side1=>repeat (first|(with_reducible first|exact HB.out|apply zaw|apply zah|apply zar|refine zak ?_ E_a.out)|exact HB.out))
        (case side2=>exact Kd.zci rfl HO336.out)
        rintro e w33 ⟨v339,rfl,ho0,hb,hkp⟩;refine ⟨_,rfl,?_⟩;have n0_:=am (zcm q1 hkp (fun hs_=>(fun e_=>(Kd.zd5 HO336.out B_a.out (by decide)) e_) hs_));have n1_:=am (Kd.zbm (ok':=fun k_=>True) ho0 (fun k_ hk_=>trivial));have n2_:=am (hb);clear B_a;clear HB;clear HO336;have B_a:=n0_;have HO340:=n1_;have HB:=n2_;clear n0_ n1_ n2_;(try clear hb);(try clear hkp);(try clear ho0);refine hK.out _ _ ⟨bc B_a 0,bc B_a 1,bc B_a 2,bc B_a 3,bc B_a 4,bc B_a 5,bc B_a 6,bc B_a 7,bc B_a 8,bc B_a 9,bc B_a 10,bc B_a 11,bc B_a 12,bc B_a 13,bc B_a 14,((HB.out.cell (World.block_lt_of_cell? w _ hw333_0)).trans hw333_0),((HB.out.cell (World.block_lt_of_cell? w _ hw333_1)).trans hw333_1),((HB.out.cell (World.block_lt_of_cell? w _ hw337_0)).trans hw337_0),((HB.out.cell (World.block_lt_of_cell? w _ hw337_1)).trans hw337_1)⟩ (fun hHeld=>?_);clear hK K;refine norm_ (a':=?_) ?_ ?_;rotate_left
        ·show Act.put _ (some 64) _=_
         simp only [Act.put,List.setIfInBounds_toArray,List.set_cons_zero,List.set_cons_succ,i64_w,i32_w]
         rfl
        refine pp 17 3 rfl rfl ?_;refine done_ (done_of HT_.out (by kernel_rfl)) ?_
        try go_wp2
        go_roundg k2
        case measure=>have:=HK1.out;have:=HK2.out;omega
        case rel=>exact ⟨(t338),(wrap64 (x6_2+1)),q5,H',⟨by have:=HK1.out;have:=HK2.out;omega⟩,⟨by (with_reducible repeat (first|apply Kd.zb1|apply Kd.zb2|apply Kd.zb9));exact HO340.out⟩,⟨q1⟩,⟨q3⟩⟩
       ·rw [if_neg c25] at H
        exact absurd H (by simp)
      ·rw [if_neg c24] at H
       have c24b0:decide (x6_2<(l0_12.length:Int))=false:=decide_eq_false c24;clear c24;replace H:=Option.bind_eq_some_iff.mp H;obtain ⟨t341,A340,H⟩:=H;replace H:(za3.l2 k2 t341 0 a0_0 a0_1 a0_2 a0_3 a0_4 a0_5 a0_6 a0_7 a0_8 a0_9 a0_10 a0_11 l0_12 l0_13 l0_14)=some r:=H;have A34:=za1.mk A340;clear A340;have H':=za1.mk H;clear H;obtain ⟨c_d0,c_d1,c_d2,c_d3,c_d4,c_d5,c_d6,c_d7,c_d8,c_d9,c_d10,c_d11,c_d12,c_d13,c_d14⟩:=cs15 B_a.out;obtain ⟨f_d0,f_d1,f_d2,f_d3,f_d4,f_d5,f_d6,f_d7,f_d8,f_d9,f_d10,f_d11,f_d12,f_d13,f_d14⟩:=fs15 B_a.out;obtain ⟨Ao36,co36,eo36⟩:=Kd.zbn HO_3.out;subst eo36
       go_wp2_with (first|((with_reducible refine zan (f:=43) rfl ?_);refine goesL_ (some 70) rfl rfl Tryd.func43 (by kernel_rfl) rfl #[.slice Ao36 x3_2.length co36,.int .i64 (l0_13.length:Int)] rfl q4 ?_;(with_reducible refine (zae.calls k2 (fun k_=>some k_=(.slice Ao36 x3_2.length co36:Value).ownBlock) (.slice Ao36 x3_2.length co36) x3_2 (l0_13.length:Int) t341 w _ ?side1 ?side2 A34.out).mono ?_);(case side1=>repeat (first|(with_reducible first|exact HB.out|apply zaw|apply zah|apply zar|refine zak ?_ E_a.out)|exact HB.out));(case side2=>exact Kd.zci rfl HO_3.out);rintro e w37 ⟨v342,rfl,ho0,hb,hkp⟩;refine ⟨_,rfl,?_⟩;have n0_:=am (zcm q1 hkp (fun hs_=>(fun e_=>(Kd.zd5 HO_3.out B_a.out (by decide)) e_) hs_));have n1_:=am (Kd.zbm (ok':=fun k_=>True) ho0 (fun k_ hk_=>trivial));have n2_:=am (hb);clear B_a;clear HB;clear HO_3;have B_a:=n0_;have HO343:=n1_;have HB:=n2_;clear n0_ n1_ n2_;(try clear hb);(try clear hkp);(try clear ho0)))
       go_loopg [3,7] k2 (fun kq v3 v7 w'=>∃ (x3_3:List Int) (x7_3:Int),v7 = .int .i64 x7_3∧za1 (za3.l2 kq x3_3 x7_3 a0_0 a0_1 a0_2 a0_3 a0_4 a0_5 a0_6 a0_7 a0_8 a0_9 a0_10 a0_11 l0_12 l0_13 l0_14=some r)∧za1 (kq≤k2)∧za1 (Kd.R (Kd.int .u8) 5 w' w.heap.size (fun _=>True) v3 x3_3)∧za1 (w'.heap[g_a]?=some (.cells #[.int .i64 a0_0,.int .i64 a0_1,.int .i64 a0_2,.int .i64 a0_3,.int .i64 a0_4,.int .i64 a0_5,.bool a0_6,.string a0_7,.string a0_8,.bool a0_9,.string a0_10,.string a0_11,(.slice A0_12 l0_12.length c0_12),(.slice A0_13 l0_13.length c0_13),(.slice A0_14 l0_14.length c0_14)] 37 (0,0)))∧za1 (Below w.heap.size w w'))
       case atStart=>exact ⟨(t341),(0),q5,H',⟨Nat.le_refl _⟩,⟨by (with_reducible repeat (first|apply Kd.zb1|apply Kd.zb2|apply Kd.zb9));exact HO343.out⟩,⟨q1⟩,⟨q3⟩⟩
       case round=>
        clear H';(try clear c2);(try clear p2 p2);(try clear c3);(try clear p3 p3);(try clear q3 q3);(try clear hx3);(try clear c4);(try clear c6);(try clear c6b0);(try clear p6 p6);(try clear c7);(try clear c7b0);(try clear c24);(try clear c24b0);(try clear c25);(try clear c25b0);(try clear p32);(try clear q32);(try clear hx32);(try clear p33);(try clear q33);(try clear hx33);(try clear c_b0 c_b1 c_b10 c_b11 c_b12 c_b13 c_b14 c_b2 c_b3 c_b4 c_b5 c_b6 c_b7 c_b8 c_b9 f_b0 f_b1 f_b10 f_b11 f_b12 f_b13 f_b14 f_b2 f_b3 f_b4 f_b5 f_b6 f_b7 f_b8 f_b9);(try clear c_c0 c_c1 c_c10 c_c11 c_c12 c_c13 c_c14 c_c2 c_c3 c_c4 c_c5 c_c6 c_c7 c_c8 c_c9 f_c0 f_c1 f_c10 f_c11 f_c12 f_c13 f_c14 f_c2 f_c3 f_c4 f_c5 f_c6 f_c7 f_c8 f_c9);(try clear c_d0 c_d1 c_d10 c_d11 c_d12 c_d13 c_d14 c_d2 c_d3 c_d4 c_d5 c_d6 c_d7 c_d8 c_d9 f_d0 f_d1 f_d10 f_d11 f_d12 f_d13 f_d14 f_d2 f_d3 f_d4 f_d5 f_d6 f_d7 f_d8 f_d9);(try clear c_a0 c_a1 c_a10 c_a11 c_a12 c_a13 c_a14 c_a2 c_a3 c_a4 c_a5 c_a6 c_a7 c_a8 c_a9 f_a0 f_a1 f_a10 f_a11 f_a12 f_a13 f_a14 f_a2 f_a3 f_a4 f_a5 f_a6 f_a7 f_a8 f_a9);(try clear hx320_0);(try clear hx333_0);(try clear hx333_1);(try clear hx337_0);(try clear hx337_1);(try clear p320);(try clear p333);(try clear p337);(try clear q320);(try clear q333);(try clear q337);obtain ⟨x3_3,x7_3,rfl,HA,HK3,HO_3,B_a,HB⟩:=hrel
        cases gk with
        | zero=>exact absurd HA.out (by simp [za3.l2])
        | succ k3=>
         have H:=HA.out;clear HA;simp only [za3.l2] at H
         by_cases c38:x7_3<(l0_13.length:Int)
         ·rw [if_pos c38] at H
          have c38b0:decide (x7_3<(l0_13.length:Int))=true:=decide_eq_true c38;clear c38
          by_cases c39:0≤x7_3
          ·rw [if_pos c39] at H
           have c39b0:decide (0≤x7_3)=true:=decide_eq_true c39;clear c39;replace H:=Option.bind_eq_some_iff.mp H;obtain ⟨t345,A400,H⟩:=H;replace H:((zae.f k3 t345 ((rd_T51 l0_13 x7_3).f1)).bind fun t349=>(za3.l2 k3 t349 (wrap64 (x7_3+1)) a0_0 a0_1 a0_2 a0_3 a0_4 a0_5 a0_6 a0_7 a0_8 a0_9 a0_10 a0_11 l0_12 l0_13 l0_14))=some r:=H;have A40:=za1.mk A400;clear A400;replace H:=Option.bind_eq_some_iff.mp H;obtain ⟨t349,A410,H⟩:=H;replace H:(za3.l2 k3 t349 (wrap64 (x7_3+1)) a0_0 a0_1 a0_2 a0_3 a0_4 a0_5 a0_6 a0_7 a0_8 a0_9 a0_10 a0_11 l0_12 l0_13 l0_14)=some r:=H;have A41:=za1.mk A410;clear A410;have H':=za1.mk H;clear H;obtain ⟨c_e0,c_e1,c_e2,c_e3,c_e4,c_e5,c_e6,c_e7,c_e8,c_e9,c_e10,c_e11,c_e12,c_e13,c_e14⟩:=cs15 B_a.out;obtain ⟨f_e0,f_e1,f_e2,f_e3,f_e4,f_e5,f_e6,f_e7,f_e8,f_e9,f_e10,f_e11,f_e12,f_e13,f_e14⟩:=fs15 B_a.out
           try go_wp2
           replace HO_3:=am (Kd.zb9 HO_3.out);replace B_a:=am (za6 B_a.out);replace HB:=am (zar HB.out);have p344:0≤(x7_3:Int):=of_decide_eq_true q0;have q344:x7_3<(l0_13.length:Int):=of_decide_eq_true q0;obtain ⟨ad344,e344,hx344_0,hx344_1,hx344_2,hx344_3⟩:=at_T51 HR0_13.out x7_3 p344 q344;have hw344_3:=hx344_3;have hw344_2:=hx344_2;have hw344_1:=hx344_1;have hw344_0:=hx344_0;cases e344;replace hx344_0:=(HB.out.cell (World.block_lt_of_cell? w _ hx344_0)).trans hx344_0;replace hx344_1:=(HB.out.cell (World.block_lt_of_cell? w _ hx344_1)).trans hx344_1;replace hx344_2:=(HB.out.cell (World.block_lt_of_cell? w _ hx344_2)).trans hx344_2;replace hx344_3:=(HB.out.cell (World.block_lt_of_cell? w _ hx344_3)).trans hx344_3;replace p344:=eq_true p344;replace q344:=eq_true q344;have p348:0≤(x7_3:Int):=of_decide_eq_true q0;have q348:x7_3<(l0_13.length:Int):=of_decide_eq_true q0;obtain ⟨ad348,e348,hx348_0,hx348_1,hx348_2,hx348_3⟩:=at_T51 HR0_13.out x7_3 p348 q348;have hw348_3:=hx348_3;have hw348_2:=hx348_2;have hw348_1:=hx348_1;have hw348_0:=hx348_0
           obtain rfl:ad344=ad348:=(by injection e348)
           replace hx348_0:=(HB.out.cell (World.block_lt_of_cell? w _ hx348_0)).trans hx348_0;replace hx348_1:=(HB.out.cell (World.block_lt_of_cell? w _ hx348_1)).trans hx348_1;replace hx348_2:=(HB.out.cell (World.block_lt_of_cell? w _ hx348_2)).trans hx348_2;replace hx348_3:=(HB.out.cell (World.block_lt_of_cell? w _ hx348_3)).trans hx348_3;replace p348:=eq_true p348;replace q348:=eq_true q348;obtain ⟨Ao44,co44,eo44⟩:=Kd.zbn HO_3.out
           (first|subst eo44|(injection eo44 with f1_ f2_ f3_;have f4_:=f1_.symm;have f5_:=f3_.symm;clear f1_ f2_ f3_;subst f4_;subst f5_))
           refine start_ (n:=18) (S:=fun w'=>w'.cell? ⟨g_a,0,none⟩=some (.int .i64 a0_0)∧w'.cell? ⟨g_a,1,none⟩=some (.int .i64 a0_1)∧w'.cell? ⟨g_a,2,none⟩=some (.int .i64 a0_2)∧w'.cell? ⟨g_a,3,none⟩=some (.int .i64 a0_3)∧w'.cell? ⟨g_a,4,none⟩=some (.int .i64 a0_4)∧w'.cell? ⟨g_a,5,none⟩=some (.int .i64 a0_5)∧w'.cell? ⟨g_a,6,none⟩=some (.bool a0_6)∧w'.cell? ⟨g_a,7,none⟩=some (.string a0_7)∧w'.cell? ⟨g_a,8,none⟩=some (.string a0_8)∧w'.cell? ⟨g_a,9,none⟩=some (.bool a0_9)∧w'.cell? ⟨g_a,10,none⟩=some (.string a0_10)∧w'.cell? ⟨g_a,11,none⟩=some (.string a0_11)∧w'.cell? ⟨g_a,12,none⟩=some (.slice A0_12 l0_12.length c0_12)∧w'.cell? ⟨g_a,13,none⟩=some (.slice (some ad344) l0_13.length c0_13)∧w'.cell? ⟨g_a,14,none⟩=some (.slice A0_14 l0_14.length c0_14)∧w'.cell? (ad344.add ((x7_3).toNat*4))=some (.bool ((rd_T51 l0_13 x7_3).f0.f0))∧w'.cell? ⟨(ad344.add ((x7_3).toNat*4)).block,(ad344.add ((x7_3).toNat*4)).off+1,none⟩=some (.string ((rd_T51 l0_13 x7_3).f0.f1))∧w'.cell? ⟨(ad344.add ((x7_3).toNat*4)).block,(ad344.add ((x7_3).toNat*4)).off+2,none⟩=some (.string ((rd_T51 l0_13 x7_3).f0.f2))∧w'.cell? ⟨(ad344.add ((x7_3).toNat*4)).block,(ad344.add ((x7_3).toNat*4)).off+3,none⟩=some (.int .i64 ((rd_T51 l0_13 x7_3).f1))∧w'.cell? (ad344.add ((x7_3).toNat*4))=some (.bool ((rd_T51 l0_13 x7_3).f0.f0))∧w'.cell? ⟨(ad344.add ((x7_3).toNat*4)).block,(ad344.add ((x7_3).toNat*4)).off+1,none⟩=some (.string ((rd_T51 l0_13 x7_3).f0.f1))∧w'.cell? ⟨(ad344.add ((x7_3).toNat*4)).block,(ad344.add ((x7_3).toNat*4)).off+2,none⟩=some (.string ((rd_T51 l0_13 x7_3).f0.f2))∧w'.cell? ⟨(ad344.add ((x7_3).toNat*4)).block,(ad344.add ((x7_3).toNat*4)).off+3,none⟩=some (.int .i64 ((rd_T51 l0_13 x7_3).f1))) (ds:=[]) #[false,false,false,false,false,false,false,false,false,false,false,false,false,false,false,false,false,false] (by kernel_rfl) rfl rfl ⟨bc B_a 0,bc B_a 1,bc B_a 2,bc B_a 3,bc B_a 4,bc B_a 5,bc B_a 6,bc B_a 7,bc B_a 8,bc B_a 9,bc B_a 10,bc B_a 11,bc B_a 12,bc B_a 13,bc B_a 14,((HB.out.cell (World.block_lt_of_cell? w _ hw344_0)).trans hw344_0),((HB.out.cell (World.block_lt_of_cell? w _ hw344_1)).trans hw344_1),((HB.out.cell (World.block_lt_of_cell? w _ hw344_2)).trans hw344_2),((HB.out.cell (World.block_lt_of_cell? w _ hw344_3)).trans hw344_3),((HB.out.cell (World.block_lt_of_cell? w _ hw348_0)).trans hw348_0),((HB.out.cell (World.block_lt_of_cell? w _ hw348_1)).trans hw348_1),((HB.out.cell (World.block_lt_of_cell? w _ hw348_2)).trans hw348_2),((HB.out.cell (World.block_lt_of_cell? w _ hw348_3)).trans hw348_3)⟩ (fun hHeld=>?_);refine with_tabW za3.tab17 za3.bits17 (fun HT_ HW_=>?_)
           generalize wr.drew=w43 at HO_3 B_a HB hx344_0 hx344_1 hx344_2 hx344_3 hx348_0 hx348_1 hx348_2 hx348_3 hHeld ⊢
           refine pp 0 79 rfl rfl ?_;refine pp 1 80 rfl rfl ?_;refine pp 2 81 rfl rfl ?_;refine pp 4 83 rfl rfl ?_;refine pp 9 88 rfl rfl ?_;refine pp 10 89 rfl rfl ?_;refine pp 12 91 rfl rfl ?_;refine tk23 3 82 rfl rfl ?_;refine pp 5 84 rfl rfl ?_;refine pp 6 85 rfl rfl ?_;refine tk23 7 86 rfl rfl ?_;refine tk23 11 90 rfl rfl ?_;refine pp 13 92 rfl rfl ?_;refine pp 14 93 rfl rfl ?_;refine tk23 15 94 rfl rfl ?_;refine one_ (i:=8) (N:=some 87) #[true,true,true,true,true,true,true,true,true,true,true,true,true,true,true,true,false,false] rfl rfl (one_of HT_.out (by kernel_rfl)) (by decide) (fun K hK=>?_);refine goes_ Tryd.func44 (by kernel_rfl) rfl #[.slice Ao44 x3_3.length co44,.agg #[.bool ((rd_T51 l0_13 x7_3).f0.f0),.string ((rd_T51 l0_13 x7_3).f0.f1),.string ((rd_T51 l0_13 x7_3).f0.f2)]] (by rfl) rfl rfl q4 ?_
           with_reducible refine (zb6.calls k3 (fun k_=>some k_=(.slice Ao44 x3_3.length co44:Value).ownBlock) (.slice Ao44 x3_3.length co44) x3_3 ((rd_T51 l0_13 x7_3).f0.f0) ((rd_T51 l0_13 x7_3).f0.f1) ((rd_T51 l0_13 x7_3).f0.f2) t345 w _ ?side1 ?side2 A40.out).mono ?_
           (case side1=>repeat (first|(with_reducible first|exact HB.out|apply zaw|apply zah|apply zar|refine zak ?_ E_a.out)|exact HB.out))
           (case side2=>exact Kd.zci rfl HO_3.out)
           rintro e w45 ⟨v346,rfl,ho0,hb,hkp⟩;refine ⟨_,rfl,?_⟩;have n0_:=am (zcm q1 hkp (fun hs_=>(fun e_=>(Kd.zd5 HO_3.out B_a.out (by decide)) e_) hs_));have n1_:=am (Kd.zbm (ok':=fun k_=>True) ho0 (fun k_ hk_=>trivial));have n2_:=am (hb);clear B_a;clear HB;clear HO_3;have B_a:=n0_;have HO347:=n1_;have HB:=n2_;clear n0_ n1_ n2_;(try clear hb);(try clear hkp);(try clear ho0);obtain ⟨Ao46,co46,eo46⟩:=Kd.zbn HO347.out
           (first|subst eo46|(injection eo46 with f1_ f2_ f3_;have f4_:=f1_.symm;have f5_:=f3_.symm;clear f1_ f2_ f3_;subst f4_;subst f5_))
           refine hK.out _ _ ⟨bc B_a 0,bc B_a 1,bc B_a 2,bc B_a 3,bc B_a 4,bc B_a 5,bc B_a 6,bc B_a 7,bc B_a 8,bc B_a 9,bc B_a 10,bc B_a 11,bc B_a 12,bc B_a 13,bc B_a 14,((HB.out.cell (World.block_lt_of_cell? w _ hw344_0)).trans hw344_0),((HB.out.cell (World.block_lt_of_cell? w _ hw344_1)).trans hw344_1),((HB.out.cell (World.block_lt_of_cell? w _ hw344_2)).trans hw344_2),((HB.out.cell (World.block_lt_of_cell? w _ hw344_3)).trans hw344_3),((HB.out.cell (World.block_lt_of_cell? w _ hw348_0)).trans hw348_0),((HB.out.cell (World.block_lt_of_cell? w _ hw348_1)).trans hw348_1),((HB.out.cell (World.block_lt_of_cell? w _ hw348_2)).trans hw348_2),((HB.out.cell (World.block_lt_of_cell? w _ hw348_3)).trans hw348_3)⟩ (fun hHeld=>?_);clear hK K;refine norm_ (a':=?_) ?_ ?_;rotate_left
           ·show Act.put _ (some 87) _=_
            simp only [Act.put,List.setIfInBounds_toArray,List.set_cons_zero,List.set_cons_succ,i64_w,i32_w]
            rfl
           refine one_ (i:=16) (N:=some 95) #[true,true,true,true,true,true,true,true,true,true,true,true,true,true,true,true,true,false] rfl rfl (one_of HT_.out (by kernel_rfl)) (by decide) (fun K hK=>?_);refine goes_ Tryd.func43 (by kernel_rfl) rfl #[.slice Ao46 t345.length co46,.int .i64 ((rd_T51 l0_13 x7_3).f1)] (by rfl) rfl rfl q4 ?_
           with_reducible refine (zae.calls k3 (fun k_=>some k_=(.slice Ao46 t345.length co46:Value).ownBlock) (.slice Ao46 t345.length co46) t345 ((rd_T51 l0_13 x7_3).f1) t349 w _ ?side1 ?side2 A41.out).mono ?_
           (case side1=>repeat (first|(with_reducible first|exact HB.out|apply zaw|apply zah|apply zar|refine zak ?_ E_a.out)|exact HB.out))
           (case side2=>exact Kd.zci rfl HO347.out)
           rintro e w47 ⟨v350,rfl,ho0,hb,hkp⟩;refine ⟨_,rfl,?_⟩;have n0_:=am (zcm q1 hkp (fun hs_=>(fun e_=>(Kd.zd5 HO347.out B_a.out (by decide)) e_) hs_));have n1_:=am (Kd.zbm (ok':=fun k_=>True) ho0 (fun k_ hk_=>trivial));have n2_:=am (hb);clear B_a;clear HB;clear HO347;have B_a:=n0_;have HO351:=n1_;have HB:=n2_;clear n0_ n1_ n2_;(try clear hb);(try clear hkp);(try clear ho0);refine hK.out _ _ ⟨bc B_a 0,bc B_a 1,bc B_a 2,bc B_a 3,bc B_a 4,bc B_a 5,bc B_a 6,bc B_a 7,bc B_a 8,bc B_a 9,bc B_a 10,bc B_a 11,bc B_a 12,bc B_a 13,bc B_a 14,((HB.out.cell (World.block_lt_of_cell? w _ hw344_0)).trans hw344_0),((HB.out.cell (World.block_lt_of_cell? w _ hw344_1)).trans hw344_1),((HB.out.cell (World.block_lt_of_cell? w _ hw344_2)).trans hw344_2),((HB.out.cell (World.block_lt_of_cell? w _ hw344_3)).trans hw344_3),((HB.out.cell (World.block_lt_of_cell? w _ hw348_0)).trans hw348_0),((HB.out.cell (World.block_lt_of_cell? w _ hw348_1)).trans hw348_1),((HB.out.cell (World.block_lt_of_cell? w _ hw348_2)).trans hw348_2),((HB.out.cell (World.block_lt_of_cell? w _ hw348_3)).trans hw348_3)⟩ (fun hHeld=>?_);clear hK K;refine norm_ (a':=?_) ?_ ?_;rotate_left
           ·show Act.put _ (some 95) _=_
            simp only [Act.put,List.setIfInBounds_toArray,List.set_cons_zero,List.set_cons_succ,i64_w,i32_w]
            rfl
           refine pp 17 3 rfl rfl ?_;refine done_ (done_of HT_.out (by kernel_rfl)) ?_
           try go_wp2
           go_roundg k3
           case measure=>have:=HK1.out;have:=HK2.out;have:=HK3.out;omega
           case rel=>exact ⟨(t349),(wrap64 (x7_3+1)),q5,H',⟨by have:=HK1.out;have:=HK2.out;have:=HK3.out;omega⟩,⟨by (with_reducible repeat (first|apply Kd.zb1|apply Kd.zb2|apply Kd.zb9));exact HO351.out⟩,⟨q1⟩,⟨q3⟩⟩
          ·rw [if_neg c39] at H
           exact absurd H (by simp)
         ·rw [if_neg c38] at H
          have c38b0:decide (x7_3<(l0_13.length:Int))=false:=decide_eq_false c38;clear c38;replace H:=Option.bind_eq_some_iff.mp H;obtain ⟨t352,A480,H⟩:=H;replace H:(za3.l3 k3 t352 0 a0_0 a0_1 a0_2 a0_3 a0_4 a0_5 a0_6 a0_7 a0_8 a0_9 a0_10 a0_11 l0_12 l0_13 l0_14)=some r:=H;have A48:=za1.mk A480;clear A480;have H':=za1.mk H;clear H;obtain ⟨c_f0,c_f1,c_f2,c_f3,c_f4,c_f5,c_f6,c_f7,c_f8,c_f9,c_f10,c_f11,c_f12,c_f13,c_f14⟩:=cs15 B_a.out;obtain ⟨f_f0,f_f1,f_f2,f_f3,f_f4,f_f5,f_f6,f_f7,f_f8,f_f9,f_f10,f_f11,f_f12,f_f13,f_f14⟩:=fs15 B_a.out;obtain ⟨Ao50,co50,eo50⟩:=Kd.zbn HO_3.out;subst eo50
          go_wp2_with (first|((with_reducible refine zan (f:=43) rfl ?_);refine goesL_ (some 100) rfl rfl Tryd.func43 (by kernel_rfl) rfl #[.slice Ao50 x3_3.length co50,.int .i64 (l0_14.length:Int)] rfl q4 ?_;(with_reducible refine (zae.calls k3 (fun k_=>some k_=(.slice Ao50 x3_3.length co50:Value).ownBlock) (.slice Ao50 x3_3.length co50) x3_3 (l0_14.length:Int) t352 w _ ?side1 ?side2 A48.out).mono ?_);(case side1=>repeat (first|(with_reducible first|exact HB.out|apply zaw|apply zah|apply zar|refine zak ?_ E_a.out)|exact HB.out));(case side2=>exact Kd.zci rfl HO_3.out);rintro e w51 ⟨v353,rfl,ho0,hb,hkp⟩;refine ⟨_,rfl,?_⟩;have n0_:=am (zcm q1 hkp (fun hs_=>(fun e_=>(Kd.zd5 HO_3.out B_a.out (by decide)) e_) hs_));have n1_:=am (Kd.zbm (ok':=fun k_=>True) ho0 (fun k_ hk_=>trivial));have n2_:=am (hb);clear B_a;clear HB;clear HO_3;have B_a:=n0_;have HO354:=n1_;have HB:=n2_;clear n0_ n1_ n2_;(try clear hb);(try clear hkp);(try clear ho0)))
          go_loopg [3,8] k3 (fun kq v3 v8 w'=>∃ (x3_4:List Int) (x8_4:Int),v8 = .int .i64 x8_4∧za1 (za3.l3 kq x3_4 x8_4 a0_0 a0_1 a0_2 a0_3 a0_4 a0_5 a0_6 a0_7 a0_8 a0_9 a0_10 a0_11 l0_12 l0_13 l0_14=some r)∧za1 (kq≤k3)∧za1 (Kd.R (Kd.int .u8) 5 w' w.heap.size (fun _=>True) v3 x3_4)∧za1 (w'.heap[g_a]?=some (.cells #[.int .i64 a0_0,.int .i64 a0_1,.int .i64 a0_2,.int .i64 a0_3,.int .i64 a0_4,.int .i64 a0_5,.bool a0_6,.string a0_7,.string a0_8,.bool a0_9,.string a0_10,.string a0_11,(.slice A0_12 l0_12.length c0_12),(.slice A0_13 l0_13.length c0_13),(.slice A0_14 l0_14.length c0_14)] 37 (0,0)))∧za1 (Below w.heap.size w w'))
          case atStart=>exact ⟨(t352),(0),q5,H',⟨Nat.le_refl _⟩,⟨by (with_reducible repeat (first|apply Kd.zb1|apply Kd.zb2|apply Kd.zb9));exact HO354.out⟩,⟨q1⟩,⟨q3⟩⟩
          case round=>
           clear H';(try clear c2);(try clear p2 p2);(try clear c3);(try clear p3 p3);(try clear q3 q3);(try clear hx3);(try clear c4);(try clear c6);(try clear c6b0);(try clear p6 p6);(try clear c7);(try clear c7b0);(try clear c24);(try clear c24b0);(try clear c25);(try clear c25b0);(try clear p32 p32);(try clear q32 q32);(try clear hx32);(try clear p33 p33);(try clear q33 q33);(try clear hx33);(try clear p34);(try clear q34);(try clear hx34);(try clear c38);(try clear c38b0);(try clear c39);(try clear c39b0);(try clear c43);(try clear c44);(try clear c_b0 c_b1 c_b10 c_b11 c_b12 c_b13 c_b14 c_b2 c_b3 c_b4 c_b5 c_b6 c_b7 c_b8 c_b9 f_b0 f_b1 f_b10 f_b11 f_b12 f_b13 f_b14 f_b2 f_b3 f_b4 f_b5 f_b6 f_b7 f_b8 f_b9);(try clear c_c0 c_c1 c_c10 c_c11 c_c12 c_c13 c_c14 c_c2 c_c3 c_c4 c_c5 c_c6 c_c7 c_c8 c_c9 f_c0 f_c1 f_c10 f_c11 f_c12 f_c13 f_c14 f_c2 f_c3 f_c4 f_c5 f_c6 f_c7 f_c8 f_c9);(try clear c_d0 c_d1 c_d10 c_d11 c_d12 c_d13 c_d14 c_d2 c_d3 c_d4 c_d5 c_d6 c_d7 c_d8 c_d9 f_d0 f_d1 f_d10 f_d11 f_d12 f_d13 f_d14 f_d2 f_d3 f_d4 f_d5 f_d6 f_d7 f_d8 f_d9);(try clear c_e0 c_e1 c_e10 c_e11 c_e12 c_e13 c_e14 c_e2 c_e3 c_e4 c_e5 c_e6 c_e7 c_e8 c_e9 f_e0 f_e1 f_e10 f_e11 f_e12 f_e13 f_e14 f_e2 f_e3 f_e4 f_e5 f_e6 f_e7 f_e8 f_e9);(try clear c_f0 c_f1 c_f10 c_f11 c_f12 c_f13 c_f14 c_f2 c_f3 c_f4 c_f5 c_f6 c_f7 c_f8 c_f9 f_f0 f_f1 f_f10 f_f11 f_f12 f_f13 f_f14 f_f2 f_f3 f_f4 f_f5 f_f6 f_f7 f_f8 f_f9);(try clear c_a0 c_a1 c_a10 c_a11 c_a12 c_a13 c_a14 c_a2 c_a3 c_a4 c_a5 c_a6 c_a7 c_a8 c_a9 f_a0 f_a1 f_a10 f_a11 f_a12 f_a13 f_a14 f_a2 f_a3 f_a4 f_a5 f_a6 f_a7 f_a8 f_a9);(try clear hx320_0);(try clear hx333_0);(try clear hx333_1);(try clear hx337_0);(try clear hx337_1);(try clear hx344_0);(try clear hx344_1);(try clear hx344_2);(try clear hx344_3);(try clear hx348_0);(try clear hx348_1);(try clear hx348_2);(try clear hx348_3);(try clear p320);(try clear p333);(try clear p337);(try clear p344);(try clear p348);(try clear q320);(try clear q333);(try clear q337);(try clear q344);(try clear q348);obtain ⟨x3_4,x8_4,rfl,HA,HK4,HO_3,B_a,HB⟩:=hrel
           cases gk with
           | zero=>exact absurd HA.out (by simp [za3.l3])
           | succ k4=>
            have H:=HA.out;clear HA;simp only [za3.l3] at H
            by_cases c52:x8_4<(l0_14.length:Int)
            ·rw [if_pos c52] at H
             have c52b0:decide (x8_4<(l0_14.length:Int))=true:=decide_eq_true c52;clear c52
             by_cases c53:0≤x8_4
             ·rw [if_pos c53] at H
              have c53b0:decide (0≤x8_4)=true:=decide_eq_true c53;clear c53;replace H:=Option.bind_eq_some_iff.mp H;obtain ⟨t357,A540,H⟩:=H;replace H:((zae.f k4 t357 ((rd_T55 l0_14 x8_4).f0.f1.f0)).bind fun t360=>((zae.f k4 t360 ((rd_T55 l0_14 x8_4).f0.f1.f1)).bind fun t363=>((zae.f k4 t363 ((rd_T55 l0_14 x8_4).f1)).bind fun t366=>(za3.l3 k4 t366 (wrap64 (x8_4+1)) a0_0 a0_1 a0_2 a0_3 a0_4 a0_5 a0_6 a0_7 a0_8 a0_9 a0_10 a0_11 l0_12 l0_13 l0_14))))=some r:=H;have A54:=za1.mk A540;clear A540;replace H:=Option.bind_eq_some_iff.mp H;obtain ⟨t360,A550,H⟩:=H;replace H:((zae.f k4 t360 ((rd_T55 l0_14 x8_4).f0.f1.f1)).bind fun t363=>((zae.f k4 t363 ((rd_T55 l0_14 x8_4).f1)).bind fun t366=>(za3.l3 k4 t366 (wrap64 (x8_4+1)) a0_0 a0_1 a0_2 a0_3 a0_4 a0_5 a0_6 a0_7 a0_8 a0_9 a0_10 a0_11 l0_12 l0_13 l0_14)))=some r:=H;have A55:=za1.mk A550;clear A550;replace H:=Option.bind_eq_some_iff.mp H;obtain ⟨t363,A560,H⟩:=H;replace H:((zae.f k4 t363 ((rd_T55 l0_14 x8_4).f1)).bind fun t366=>(za3.l3 k4 t366 (wrap64 (x8_4+1)) a0_0 a0_1 a0_2 a0_3 a0_4 a0_5 a0_6 a0_7 a0_8 a0_9 a0_10 a0_11 l0_12 l0_13 l0_14))=some r:=H;have A56:=za1.mk A560;clear A560;replace H:=Option.bind_eq_some_iff.mp H;obtain ⟨t366,A570,H⟩:=H;replace H:(za3.l3 k4 t366 (wrap64 (x8_4+1)) a0_0 a0_1 a0_2 a0_3 a0_4 a0_5 a0_6 a0_7 a0_8 a0_9 a0_10 a0_11 l0_12 l0_13 l0_14)=some r:=H;have A57:=za1.mk A570;clear A570;have H':=za1.mk H;clear H;obtain ⟨c_g0,c_g1,c_g2,c_g3,c_g4,c_g5,c_g6,c_g7,c_g8,c_g9,c_g10,c_g11,c_g12,c_g13,c_g14⟩:=cs15 B_a.out;obtain ⟨f_g0,f_g1,f_g2,f_g3,f_g4,f_g5,f_g6,f_g7,f_g8,f_g9,f_g10,f_g11,f_g12,f_g13,f_g14⟩:=fs15 B_a.out;have p355:0≤(x8_4:Int):=of_decide_eq_true q0;have q355:x8_4<(l0_14.length:Int):=of_decide_eq_true q0;obtain ⟨ad355,e355,hx355_0,hx355_1,hx355_2,hx355_3⟩:=at_T55 HR0_14.out x8_4 p355 q355;cases e355;replace hx355_0:=(HB.out.cell (World.block_lt_of_cell? w _ hx355_0)).trans hx355_0;replace hx355_1:=(HB.out.cell (World.block_lt_of_cell? w _ hx355_1)).trans hx355_1;replace hx355_2:=(HB.out.cell (World.block_lt_of_cell? w _ hx355_2)).trans hx355_2;replace hx355_3:=(HB.out.cell (World.block_lt_of_cell? w _ hx355_3)).trans hx355_3;replace p355:=eq_true p355;replace q355:=eq_true q355
              try go_wp2_with (first|((with_reducible refine zbr (N:=9) rfl ?_);refine zbq ?hg (N:=9) ?hd (cs:=#[.int .i64 0,.int .i64 0,.int .i64 0,.int .i64 0]) (t:=55) ?hr ?_;(case hd=>rfl);(case hg=>rfl);(case hr=>first|(go_simp;done)|(go_simp;rfl));intro g_b hg w59 hbox hb;have B_b:=am (hbox);have W_b:=am ((q49:w.heap.size≤g_b));have E_b:=am ((q49:w.heap.size≤g_b));have N_a_b:=am ((q50:g_a≠g_b));have N_b_a:=am ((q51:g_b≠g_a));replace HO_3:=am (Kd.zbx q22 hb);replace B_a:=am (zaf q1 hb);replace HB:=am (zab q3 hb);clear hb hbox hg;have hnb60:=N_b_a.out;have hnc60:=N_a_b.out;obtain ⟨c_h0,c_h1,c_h2,c_h3⟩:=cs4 B_b.out;obtain ⟨f_h0,f_h1,f_h2,f_h3⟩:=fs4 B_b.out))
              have n0_:za1 (Kd.R (Kd.int .u8) 5 ((((w59.setCell ⟨g_b,0,none⟩ (.int .i64 ((rd_T55 l0_14 x8_4).f0.f0))).setCell ⟨g_b,1,none⟩ (.int .i64 ((rd_T55 l0_14 x8_4).f0.f1.f0))).setCell ⟨g_b,2,none⟩ (.int .i64 ((rd_T55 l0_14 x8_4).f0.f1.f1))).setCell ⟨g_b,3,none⟩ (.int .i64 ((rd_T55 l0_14 x8_4).f1))) w.heap.size (fun _=>True) u3 x3_4):=⟨by (with_reducible repeat (first|apply Kd.zb1|apply Kd.zb2|apply Kd.zb9));exact Kd.zbm (Kd.zav (p:=⟨g_b,3,none⟩) (Kd.zav (p:=⟨g_b,2,none⟩) (Kd.zav (p:=⟨g_b,1,none⟩) (Kd.zav (p:=⟨g_b,0,none⟩) (Kd.zcf HO_3.out B_b.out (by decide)) (fun _ hk=>hk.2) (.int .i64 ((rd_T55 l0_14 x8_4).f0.f0))) (fun _ hk=>hk.2) (.int .i64 ((rd_T55 l0_14 x8_4).f0.f1.f0))) (fun _ hk=>hk.2) (.int .i64 ((rd_T55 l0_14 x8_4).f0.f1.f1))) (fun _ hk=>hk.2) (.int .i64 ((rd_T55 l0_14 x8_4).f1))) (fun _ hk=>trivial)⟩
              have n1_:za1 (((((w59.setCell ⟨g_b,0,none⟩ (.int .i64 ((rd_T55 l0_14 x8_4).f0.f0))).setCell ⟨g_b,1,none⟩ (.int .i64 ((rd_T55 l0_14 x8_4).f0.f1.f0))).setCell ⟨g_b,2,none⟩ (.int .i64 ((rd_T55 l0_14 x8_4).f0.f1.f1))).setCell ⟨g_b,3,none⟩ (.int .i64 ((rd_T55 l0_14 x8_4).f1))).heap[g_a]?=some (.cells #[.int .i64 a0_0,.int .i64 a0_1,.int .i64 a0_2,.int .i64 a0_3,.int .i64 a0_4,.int .i64 a0_5,.bool a0_6,.string a0_7,.string a0_8,.bool a0_9,.string a0_10,.string a0_11,.slice A0_12 l0_12.length c0_12,.slice A0_13 l0_13.length c0_13,.slice (some ad355) l0_14.length c0_14] 37 (0,0))):=⟨by (with_reducible repeat (first|refine za4 ?_ _|refine za6 ?_|refine za0 ?_ _));refine zay ?_ N_a_b.out _;(with_reducible repeat (first|refine za4 ?_ _|refine za6 ?_|refine za0 ?_ _));refine zay ?_ N_a_b.out _;(with_reducible repeat (first|refine za4 ?_ _|refine za6 ?_|refine za0 ?_ _));refine zay ?_ N_a_b.out _;(with_reducible repeat (first|refine za4 ?_ _|refine za6 ?_|refine za0 ?_ _));refine zay ?_ N_a_b.out _;(with_reducible repeat (first|refine za4 ?_ _|refine za6 ?_|refine za0 ?_ _));exact B_a.out⟩
              have n2_:za1 (((((w59.setCell ⟨g_b,0,none⟩ (.int .i64 ((rd_T55 l0_14 x8_4).f0.f0))).setCell ⟨g_b,1,none⟩ (.int .i64 ((rd_T55 l0_14 x8_4).f0.f1.f0))).setCell ⟨g_b,2,none⟩ (.int .i64 ((rd_T55 l0_14 x8_4).f0.f1.f1))).setCell ⟨g_b,3,none⟩ (.int .i64 ((rd_T55 l0_14 x8_4).f1))).heap[g_b]?=some (.cells #[.int .i64 ((rd_T55 l0_14 x8_4).f0.f0),.int .i64 ((rd_T55 l0_14 x8_4).f0.f1.f0),.int .i64 ((rd_T55 l0_14 x8_4).f0.f1.f1),.int .i64 ((rd_T55 l0_14 x8_4).f1)] 55 (0,0))):=⟨by (with_reducible repeat (first|refine za4 ?_ _|refine za6 ?_|refine za0 ?_ _));refine za9 (cs:=#[.int .i64 ((rd_T55 l0_14 x8_4).f0.f0),.int .i64 ((rd_T55 l0_14 x8_4).f0.f1.f0),.int .i64 ((rd_T55 l0_14 x8_4).f0.f1.f1),.int .i64 0]) ?_ 3 _ rfl;(with_reducible repeat (first|refine za4 ?_ _|refine za6 ?_|refine za0 ?_ _));refine za9 (cs:=#[.int .i64 ((rd_T55 l0_14 x8_4).f0.f0),.int .i64 ((rd_T55 l0_14 x8_4).f0.f1.f0),.int .i64 0,.int .i64 0]) ?_ 2 _ rfl;(with_reducible repeat (first|refine za4 ?_ _|refine za6 ?_|refine za0 ?_ _));refine za9 (cs:=#[.int .i64 ((rd_T55 l0_14 x8_4).f0.f0),.int .i64 0,.int .i64 0,.int .i64 0]) ?_ 1 _ rfl;(with_reducible repeat (first|refine za4 ?_ _|refine za6 ?_|refine za0 ?_ _));refine za9 (cs:=#[.int .i64 0,.int .i64 0,.int .i64 0,.int .i64 0]) ?_ 0 _ rfl;(with_reducible repeat (first|refine za4 ?_ _|refine za6 ?_|refine za0 ?_ _));exact B_b.out⟩
              have n3_:za1 (Below w.heap.size w ((((w59.setCell ⟨g_b,0,none⟩ (.int .i64 ((rd_T55 l0_14 x8_4).f0.f0))).setCell ⟨g_b,1,none⟩ (.int .i64 ((rd_T55 l0_14 x8_4).f0.f1.f0))).setCell ⟨g_b,2,none⟩ (.int .i64 ((rd_T55 l0_14 x8_4).f0.f1.f1))).setCell ⟨g_b,3,none⟩ (.int .i64 ((rd_T55 l0_14 x8_4).f1)))):=⟨q6⟩
              (try clear HO_3);(try clear B_a);(try clear B_b);(try clear HB)
              generalize ((((w59.setCell ⟨g_b,0,none⟩ (.int .i64 ((rd_T55 l0_14 x8_4).f0.f0))).setCell ⟨g_b,1,none⟩ (.int .i64 ((rd_T55 l0_14 x8_4).f0.f1.f0))).setCell ⟨g_b,2,none⟩ (.int .i64 ((rd_T55 l0_14 x8_4).f0.f1.f1))).setCell ⟨g_b,3,none⟩ (.int .i64 ((rd_T55 l0_14 x8_4).f1)))=w62 at n0_ n1_ n2_ n3_ ⊢
              have HO_3:=n0_;have B_a:=n1_;have B_b:=n2_;have HB:=n3_;clear n0_ n1_ n2_ n3_;replace HO_3:=am (Kd.zb9 HO_3.out);replace B_a:=am (za6 B_a.out);replace B_b:=am (za6 B_b.out);replace HB:=am (zar HB.out);obtain ⟨Ao64,co64,eo64⟩:=Kd.zbn HO_3.out
              (first|subst eo64|(injection eo64 with f1_ f2_ f3_;have f4_:=f1_.symm;have f5_:=f3_.symm;clear f1_ f2_ f3_;subst f4_;subst f5_))
              refine start_ (n:=19) (S:=fun w'=>w'.cell? ⟨g_b,0,none⟩=some (.int .i64 ((rd_T55 l0_14 x8_4).f0.f0))∧w'.cell? ⟨g_b,1,none⟩=some (.int .i64 ((rd_T55 l0_14 x8_4).f0.f1.f0))∧w'.cell? ⟨g_b,2,none⟩=some (.int .i64 ((rd_T55 l0_14 x8_4).f0.f1.f1))∧w'.cell? ⟨g_b,3,none⟩=some (.int .i64 ((rd_T55 l0_14 x8_4).f1))) (ds:=[]) #[false,false,false,false,false,false,false,false,false,false,false,false,false,false,false,false,false,false,false] (by kernel_rfl) rfl rfl ⟨bc B_b 0,bc B_b 1,bc B_b 2,bc B_b 3⟩ (fun hHeld=>?_);refine with_tabW za3.tab23 za3.bits23 (fun HT_ HW_=>?_)
              generalize w62.drew=w63 at HO_3 B_a B_b HB hHeld ⊢
              refine pp 0 113 rfl rfl ?_;refine pp 1 114 rfl rfl ?_;refine pp 2 115 rfl rfl ?_;refine pp 5 118 rfl rfl ?_;refine pp 6 119 rfl rfl ?_;refine pp 7 120 rfl rfl ?_;refine pp 10 123 rfl rfl ?_;refine pp 11 124 rfl rfl ?_;refine pp 12 125 rfl rfl ?_;refine pp 15 128 rfl rfl ?_;refine tk4 3 116 rfl rfl ?_;refine tk4 8 121 rfl rfl ?_;refine tk4 13 126 rfl rfl ?_;refine tk4 16 129 rfl rfl ?_;refine one_ (i:=4) (N:=some 117) #[true,true,true,true,true,true,true,true,true,false,true,true,true,true,false,true,true,false,false] rfl rfl (one_of HT_.out (by kernel_rfl)) (by decide) (fun K hK=>?_);refine goes_ Tryd.func43 (by kernel_rfl) rfl #[.slice Ao64 x3_4.length co64,.int .i64 ((rd_T55 l0_14 x8_4).f0.f0)] (by rfl) rfl rfl q4 ?_
              with_reducible refine (zae.calls k4 (fun k_=>some k_=(.slice Ao64 x3_4.length co64:Value).ownBlock) (.slice Ao64 x3_4.length co64) x3_4 ((rd_T55 l0_14 x8_4).f0.f0) t357 w _ ?side1 ?side2 A54.out).mono ?_
              (case side1=>repeat (first|(with_reducible first|exact HB.out|apply zaw|apply zah|apply zar|refine zak ?_ E_a.out|refine zak ?_ E_b.out)|exact HB.out))
              (case side2=>exact Kd.zci rfl HO_3.out)
              rintro e w65 ⟨v358,rfl,ho0,hb,hkp⟩;refine ⟨_,rfl,?_⟩;have n0_:=am (zcm q1 hkp (fun hs_=>(fun e_=>(Kd.zd5 HO_3.out B_a.out (by decide)) e_) hs_));have n1_:=am (zcm q7 hkp (fun hs_=>(fun e_=>(Kd.zd5 HO_3.out B_b.out (by decide)) e_) hs_));have n2_:=am (Kd.zbm (ok':=fun k_=>True) ho0 (fun k_ hk_=>trivial));have n3_:=am (hb);clear B_a;clear B_b;clear HB;clear HO_3;have B_a:=n0_;have B_b:=n1_;have HO359:=n2_;have HB:=n3_;clear n0_ n1_ n2_ n3_;(try clear hb);(try clear hkp);(try clear ho0);obtain ⟨Ao66,co66,eo66⟩:=Kd.zbn HO359.out
              (first|subst eo66|(injection eo66 with f1_ f2_ f3_;have f4_:=f1_.symm;have f5_:=f3_.symm;clear f1_ f2_ f3_;subst f4_;subst f5_))
              refine hK.out _ _ ⟨bc B_b 0,bc B_b 1,bc B_b 2,bc B_b 3⟩ (fun hHeld=>?_);clear hK K;refine norm_ (a':=?_) ?_ ?_;rotate_left
              ·show Act.put _ (some 117) _=_
               simp only [Act.put,List.setIfInBounds_toArray,List.set_cons_zero,List.set_cons_succ,i64_w,i32_w]
               rfl
              refine one_ (i:=9) (N:=some 122) #[true,true,true,true,true,true,true,true,true,true,true,true,true,true,false,true,true,false,false] rfl rfl (one_of HT_.out (by kernel_rfl)) (by decide) (fun K hK=>?_);refine goes_ Tryd.func43 (by kernel_rfl) rfl #[.slice Ao66 t357.length co66,.int .i64 ((rd_T55 l0_14 x8_4).f0.f1.f0)] (by rfl) rfl rfl q4 ?_
              with_reducible refine (zae.calls k4 (fun k_=>some k_=(.slice Ao66 t357.length co66:Value).ownBlock) (.slice Ao66 t357.length co66) t357 ((rd_T55 l0_14 x8_4).f0.f1.f0) t360 w _ ?side1 ?side2 A55.out).mono ?_
              (case side1=>repeat (first|(with_reducible first|exact HB.out|apply zaw|apply zah|apply zar|refine zak ?_ E_a.out|refine zak ?_ E_b.out)|exact HB.out))
              (case side2=>exact Kd.zci rfl HO359.out)
              rintro e w67 ⟨v361,rfl,ho0,hb,hkp⟩;refine ⟨_,rfl,?_⟩;have n0_:=am (zcm q1 hkp (fun hs_=>(fun e_=>(Kd.zd5 HO359.out B_a.out (by decide)) e_) hs_));have n1_:=am (zcm q7 hkp (fun hs_=>(fun e_=>(Kd.zd5 HO359.out B_b.out (by decide)) e_) hs_));have n2_:=am (Kd.zbm (ok':=fun k_=>True) ho0 (fun k_ hk_=>trivial));have n3_:=am (hb);clear B_a;clear B_b;clear HB;clear HO359;have B_a:=n0_;have B_b:=n1_;have HO362:=n2_;have HB:=n3_;clear n0_ n1_ n2_ n3_;(try clear hb);(try clear hkp);(try clear ho0);obtain ⟨Ao68,co68,eo68⟩:=Kd.zbn HO362.out
              (first|subst eo68|(injection eo68 with f1_ f2_ f3_;have f4_:=f1_.symm;have f5_:=f3_.symm;clear f1_ f2_ f3_;subst f4_;subst f5_))
              refine hK.out _ _ ⟨bc B_b 0,bc B_b 1,bc B_b 2,bc B_b 3⟩ (fun hHeld=>?_);clear hK K;refine norm_ (a':=?_) ?_ ?_;rotate_left
              ·show Act.put _ (some 122) _=_
               simp only [Act.put,List.setIfInBounds_toArray,List.set_cons_zero,List.set_cons_succ,i64_w,i32_w]
               rfl
              refine one_ (i:=14) (N:=some 127) #[true,true,true,true,true,true,true,true,true,true,true,true,true,true,true,true,true,false,false] rfl rfl (one_of HT_.out (by kernel_rfl)) (by decide) (fun K hK=>?_);refine goes_ Tryd.func43 (by kernel_rfl) rfl #[.slice Ao68 t360.length co68,.int .i64 ((rd_T55 l0_14 x8_4).f0.f1.f1)] (by rfl) rfl rfl q4 ?_
              with_reducible refine (zae.calls k4 (fun k_=>some k_=(.slice Ao68 t360.length co68:Value).ownBlock) (.slice Ao68 t360.length co68) t360 ((rd_T55 l0_14 x8_4).f0.f1.f1) t363 w _ ?side1 ?side2 A56.out).mono ?_
              (case side1=>repeat (first|(with_reducible first|exact HB.out|apply zaw|apply zah|apply zar|refine zak ?_ E_a.out|refine zak ?_ E_b.out)|exact HB.out))
              (case side2=>exact Kd.zci rfl HO362.out)
              rintro e w69 ⟨v364,rfl,ho0,hb,hkp⟩;refine ⟨_,rfl,?_⟩;have n0_:=am (zcm q1 hkp (fun hs_=>(fun e_=>(Kd.zd5 HO362.out B_a.out (by decide)) e_) hs_));have n1_:=am (zcm q7 hkp (fun hs_=>(fun e_=>(Kd.zd5 HO362.out B_b.out (by decide)) e_) hs_));have n2_:=am (Kd.zbm (ok':=fun k_=>True) ho0 (fun k_ hk_=>trivial));have n3_:=am (hb);clear B_a;clear B_b;clear HB;clear HO362;have B_a:=n0_;have B_b:=n1_;have HO365:=n2_;have HB:=n3_;clear n0_ n1_ n2_ n3_;(try clear hb);(try clear hkp);(try clear ho0);obtain ⟨Ao70,co70,eo70⟩:=Kd.zbn HO365.out
              (first|subst eo70|(injection eo70 with f1_ f2_ f3_;have f4_:=f1_.symm;have f5_:=f3_.symm;clear f1_ f2_ f3_;subst f4_;subst f5_))
              refine hK.out _ _ ⟨bc B_b 0,bc B_b 1,bc B_b 2,bc B_b 3⟩ (fun hHeld=>?_);clear hK K;refine norm_ (a':=?_) ?_ ?_;rotate_left
              ·show Act.put _ (some 127) _=_
               simp only [Act.put,List.setIfInBounds_toArray,List.set_cons_zero,List.set_cons_succ,i64_w,i32_w]
               rfl
              refine one_ (i:=17) (N:=some 130) #[true,true,true,true,true,true,true,true,true,true,true,true,true,true,true,true,true,true,false] rfl rfl (one_of HT_.out (by kernel_rfl)) (by decide) (fun K hK=>?_);refine goes_ Tryd.func43 (by kernel_rfl) rfl #[.slice Ao70 t363.length co70,.int .i64 ((rd_T55 l0_14 x8_4).f1)] (by rfl) rfl rfl q4 ?_
              with_reducible refine (zae.calls k4 (fun k_=>some k_=(.slice Ao70 t363.length co70:Value).ownBlock) (.slice Ao70 t363.length co70) t363 ((rd_T55 l0_14 x8_4).f1) t366 w _ ?side1 ?side2 A57.out).mono ?_
              (case side1=>repeat (first|(with_reducible first|exact HB.out|apply zaw|apply zah|apply zar|refine zak ?_ E_a.out|refine zak ?_ E_b.out)|exact HB.out))
              (case side2=>exact Kd.zci rfl HO365.out)
              rintro e w71 ⟨v367,rfl,ho0,hb,hkp⟩;refine ⟨_,rfl,?_⟩;have n0_:=am (zcm q1 hkp (fun hs_=>(fun e_=>(Kd.zd5 HO365.out B_a.out (by decide)) e_) hs_));have n1_:=am (zcm q7 hkp (fun hs_=>(fun e_=>(Kd.zd5 HO365.out B_b.out (by decide)) e_) hs_));have n2_:=am (Kd.zbm (ok':=fun k_=>True) ho0 (fun k_ hk_=>trivial));have n3_:=am (hb);clear B_a;clear B_b;clear HB;clear HO365;have B_a:=n0_;have B_b:=n1_;have HO368:=n2_;have HB:=n3_;clear n0_ n1_ n2_ n3_;(try clear hb);(try clear hkp);(try clear ho0);refine hK.out _ _ ⟨bc B_b 0,bc B_b 1,bc B_b 2,bc B_b 3⟩ (fun hHeld=>?_);clear hK K;refine norm_ (a':=?_) ?_ ?_;rotate_left
              ·show Act.put _ (some 130) _=_
               simp only [Act.put,List.setIfInBounds_toArray,List.set_cons_zero,List.set_cons_succ,i64_w,i32_w]
               rfl
              refine pp 18 3 rfl rfl ?_;refine done_ (done_of HT_.out (by kernel_rfl)) ?_
              try go_wp2
              go_roundg k4
              case measure=>have:=HK1.out;have:=HK2.out;have:=HK3.out;have:=HK4.out;omega
              case rel=>exact ⟨(t366),(wrap64 (x8_4+1)),q5,H',⟨by have:=HK1.out;have:=HK2.out;have:=HK3.out;have:=HK4.out;omega⟩,⟨by (with_reducible repeat (first|apply Kd.zb1|apply Kd.zb2|apply Kd.zb9));exact HO368.out⟩,⟨q1⟩,⟨q6⟩⟩
             ·rw [if_neg c53] at H
              exact absurd H (by simp)
            ·rw [if_neg c52] at H
             have c52b0:decide (x8_4<(l0_14.length:Int))=false:=decide_eq_false c52;clear c52;obtain rfl:=Option.some.inj H;obtain ⟨c_i0,c_i1,c_i2,c_i3,c_i4,c_i5,c_i6,c_i7,c_i8,c_i9,c_i10,c_i11,c_i12,c_i13,c_i14⟩:=cs15 B_a.out;obtain ⟨f_i0,f_i1,f_i2,f_i3,f_i4,f_i5,f_i6,f_i7,f_i8,f_i9,f_i10,f_i11,f_i12,f_i13,f_i14⟩:=fs15 B_a.out
             go_wp2
             go_ret;exact ⟨_,q8,q22,q3⟩
def zaj.f (a0:Int):Option (Bool):=if a0≥(-1125899906842624) then (some (decide (a0≤1125899906842624))) else (some false)
set_option maxHeartbeats 8000000 in
set_option maxRecDepth 100000 in
theorem zaj.calls (a0:Int) (r:Bool) (w:World) (h:zaj.f a0=some r) :
 Calls Tryd.prog 35 #[.int .i64 a0] w fun e w'=>e = .returned (.bool r)∧Drawn0 w w':=by
 have H:(if a0≥(-1125899906842624) then (some (decide (a0≤1125899906842624))) else (some false))=some r:=h;clear h
 by_cases c2:a0≥(-1125899906842624)
 ·rw [if_pos c2] at H
  have c2b0:decide ((-1125899906842624)≤a0)=true:=decide_eq_true c2;clear c2;obtain rfl:=Option.some.inj H;go_enter Tryd.func35,Tryd.ntmps35
  go_wp2
  go_ret;exact ⟨q5,q11⟩
 ·rw [if_neg c2] at H
  have c2b0:decide ((-1125899906842624)≤a0)=false:=decide_eq_false c2;clear c2;obtain rfl:=Option.some.inj H;go_enter Tryd.func35,Tryd.ntmps35
  go_wp2
  go_ret;exact ⟨q5,q11⟩
mutual
def za7.l0:Nat→List Int→Int→Int→Int→Int→Int→Int→Int→Bool→ByteArray→ByteArray→Bool→ByteArray→ByteArray→List (S49)→List (S51)→List (S55)→Option (Bool)
 | 0,_,_,_,_,_,_,_,_,_,_,_,_,_,_,_,_,_=>none
 | k+1,x3,x4,x499000,x499001,x499002,x499003,x499004,x499005,x499006,x499007,x499008,x499009,x499010,x499011,x499012,x499013,x499014=>if x4<(x3.length:Int) then (if 0≤x4 then ((zaj.f (rd x3 x4)).bind fun t503=>(if t503=true then (za7.l0 k x3 (wrap64 (x4+1)) x499000 x499001 x499002 x499003 x499004 x499005 x499006 x499007 x499008 x499009 x499010 x499011 x499012 x499013 x499014) else (some false))) else (none)) else ((zac.f k x499006 x499007 x499008).bind fun t504=>(if t504=true then ((zac.f k x499009 x499010 x499011).bind fun t505=>(if t505=true then (if (x499012.length:Int)>8 then (za7.j1 k true x499000 x499001 x499002 x499003 x499004 x499005 x499006 x499007 x499008 x499009 x499010 x499011 x499012 x499013 x499014) else (if (x499013.length:Int)>4 then (za7.j1 k true x499000 x499001 x499002 x499003 x499004 x499005 x499006 x499007 x499008 x499009 x499010 x499011 x499012 x499013 x499014) else (za7.j1 k (decide ((x499014.length:Int)>256)) x499000 x499001 x499002 x499003 x499004 x499005 x499006 x499007 x499008 x499009 x499010 x499011 x499012 x499013 x499014))) else (za7.j1 k true x499000 x499001 x499002 x499003 x499004 x499005 x499006 x499007 x499008 x499009 x499010 x499011 x499012 x499013 x499014))) else (za7.j1 k true x499000 x499001 x499002 x499003 x499004 x499005 x499006 x499007 x499008 x499009 x499010 x499011 x499012 x499013 x499014)))
def za7.j1:Nat→Bool→Int→Int→Int→Int→Int→Int→Bool→ByteArray→ByteArray→Bool→ByteArray→ByteArray→List (S49)→List (S51)→List (S55)→Option (Bool)
 | 0,_,_,_,_,_,_,_,_,_,_,_,_,_,_,_,_=>none
 | k+1,x55,x499000,x499001,x499002,x499003,x499004,x499005,x499006,x499007,x499008,x499009,x499010,x499011,x499012,x499013,x499014=>if x55=true then (some false) else (za7.l1 k 0 x499000 x499001 x499002 x499003 x499004 x499005 x499006 x499007 x499008 x499009 x499010 x499011 x499012 x499013 x499014)
def za7.l1:Nat→Int→Int→Int→Int→Int→Int→Int→Bool→ByteArray→ByteArray→Bool→ByteArray→ByteArray→List (S49)→List (S51)→List (S55)→Option (Bool)
 | 0,_,_,_,_,_,_,_,_,_,_,_,_,_,_,_,_=>none
 | k+1,x5,x499000,x499001,x499002,x499003,x499004,x499005,x499006,x499007,x499008,x499009,x499010,x499011,x499012,x499013,x499014=>if x5<(x499012.length:Int) then (if 0≤x5 then ((zaj.f ((rd_T49 x499012 x5).f0)).bind fun t507=>(if t507=true then ((zaj.f ((rd_T49 x499012 x5).f1)).bind fun t509=>(if t509=true then (za7.l1 k (wrap64 (x5+1)) x499000 x499001 x499002 x499003 x499004 x499005 x499006 x499007 x499008 x499009 x499010 x499011 x499012 x499013 x499014) else (some false))) else (some false))) else (none)) else (za7.l2 k 0 x499000 x499001 x499002 x499003 x499004 x499005 x499006 x499007 x499008 x499009 x499010 x499011 x499012 x499013 x499014)
def za7.l2:Nat→Int→Int→Int→Int→Int→Int→Int→Bool→ByteArray→ByteArray→Bool→ByteArray→ByteArray→List (S49)→List (S51)→List (S55)→Option (Bool)
 | 0,_,_,_,_,_,_,_,_,_,_,_,_,_,_,_,_=>none
 | k+1,x6,x499000,x499001,x499002,x499003,x499004,x499005,x499006,x499007,x499008,x499009,x499010,x499011,x499012,x499013,x499014=>if x6<(x499013.length:Int) then (if 0≤x6 then ((zac.f k ((rd_T51 x499013 x6).f0.f0) ((rd_T51 x499013 x6).f0.f1) ((rd_T51 x499013 x6).f0.f2)).bind fun t511=>(if t511=true then ((zaj.f ((rd_T51 x499013 x6).f1)).bind fun t513=>(if t513=true then (za7.l2 k (wrap64 (x6+1)) x499000 x499001 x499002 x499003 x499004 x499005 x499006 x499007 x499008 x499009 x499010 x499011 x499012 x499013 x499014) else (some false))) else (some false))) else (none)) else (za7.l3 k 0 x499000 x499001 x499002 x499003 x499004 x499005 x499006 x499007 x499008 x499009 x499010 x499011 x499012 x499013 x499014)
def za7.l3:Nat→Int→Int→Int→Int→Int→Int→Int→Bool→ByteArray→ByteArray→Bool→ByteArray→ByteArray→List (S49)→List (S51)→List (S55)→Option (Bool)
 | 0,_,_,_,_,_,_,_,_,_,_,_,_,_,_,_,_=>none
 | k+1,x7,x499000,x499001,x499002,x499003,x499004,x499005,x499006,x499007,x499008,x499009,x499010,x499011,x499012,x499013,x499014=>if x7<(x499014.length:Int) then (if 0≤x7 then ((zaj.f ((rd_T55 x499014 x7).f0.f0)).bind fun t519=>(if t519=true then ((zaj.f ((rd_T55 x499014 x7).f0.f1.f0)).bind fun t520=>(if t520=true then ((zaj.f ((rd_T55 x499014 x7).f0.f1.f1)).bind fun t521=>(if t521=true then ((zaj.f ((rd_T55 x499014 x7).f1)).bind fun t522=>(if t522=true then (za7.l3 k (wrap64 (x7+1)) x499000 x499001 x499002 x499003 x499004 x499005 x499006 x499007 x499008 x499009 x499010 x499011 x499012 x499013 x499014) else (some false))) else (some false))) else (some false))) else (some false))) else (none)) else ((za3.f k x499000 x499001 x499002 x499003 x499004 x499005 x499006 x499007 x499008 x499009 x499010 x499011 x499012 x499013 x499014).bind fun t514=>(some (decide ((t514.length:Int)≤4096))))
end
def za7.f (k:Nat) (a0_0:Int) (a0_1:Int) (a0_2:Int) (a0_3:Int) (a0_4:Int) (a0_5:Int) (a0_6:Bool) (a0_7:ByteArray) (a0_8:ByteArray) (a0_9:Bool) (a0_10:ByteArray) (a0_11:ByteArray) (l0_12:List (S49)) (l0_13:List (S51)) (l0_14:List (S55)):Option (Bool):=(zbo.f a0_0 a0_1 a0_2 a0_3 a0_4 a0_5 a0_6 a0_7 a0_8 a0_9 a0_10 a0_11 l0_12 l0_13).bind fun t499=>(za7.l0 k t499 0 a0_0 a0_1 a0_2 a0_3 a0_4 a0_5 a0_6 a0_7 a0_8 a0_9 a0_10 a0_11 l0_12 l0_13 l0_14)
theorem za7.mono_l:∀ k,(∀ y0 y1 y2 y3 y4 y5 y6 y7 y8 y9 y10 y11 y12 y13 y14 y15 y16,LeO (za7.l0 k y0 y1 y2 y3 y4 y5 y6 y7 y8 y9 y10 y11 y12 y13 y14 y15 y16) (za7.l0 (k+1) y0 y1 y2 y3 y4 y5 y6 y7 y8 y9 y10 y11 y12 y13 y14 y15 y16))∧(∀ y0 y1 y2 y3 y4 y5 y6 y7 y8 y9 y10 y11 y12 y13 y14 y15,LeO (za7.j1 k y0 y1 y2 y3 y4 y5 y6 y7 y8 y9 y10 y11 y12 y13 y14 y15) (za7.j1 (k+1) y0 y1 y2 y3 y4 y5 y6 y7 y8 y9 y10 y11 y12 y13 y14 y15))∧(∀ y0 y1 y2 y3 y4 y5 y6 y7 y8 y9 y10 y11 y12 y13 y14 y15,LeO (za7.l1 k y0 y1 y2 y3 y4 y5 y6 y7 y8 y9 y10 y11 y12 y13 y14 y15) (za7.l1 (k+1) y0 y1 y2 y3 y4 y5 y6 y7 y8 y9 y10 y11 y12 y13 y14 y15))∧(∀ y0 y1 y2 y3 y4 y5 y6 y7 y8 y9 y10 y11 y12 y13 y14 y15,LeO (za7.l2 k y0 y1 y2 y3 y4 y5 y6 y7 y8 y9 y10 y11 y12 y13 y14 y15) (za7.l2 (k+1) y0 y1 y2 y3 y4 y5 y6 y7 y8 y9 y10 y11 y12 y13 y14 y15))∧(∀ y0 y1 y2 y3 y4 y5 y6 y7 y8 y9 y10 y11 y12 y13 y14 y15,LeO (za7.l3 k y0 y1 y2 y3 y4 y5 y6 y7 y8 y9 y10 y11 y12 y13 y14 y15) (za7.l3 (k+1) y0 y1 y2 y3 y4 y5 y6 y7 y8 y9 y10 y11 y12 y13 y14 y15))
 | 0=>⟨fun _ _ _ _ _ _ _ _ _ _ _ _ _ _ _ _ _ r h=>by simp [za7.l0] at h,fun _ _ _ _ _ _ _ _ _ _ _ _ _ _ _ _ r h=>by simp [za7.j1] at h,fun _ _ _ _ _ _ _ _ _ _ _ _ _ _ _ _ r h=>by simp [za7.l1] at h,fun _ _ _ _ _ _ _ _ _ _ _ _ _ _ _ _ r h=>by simp [za7.l2] at h,fun _ _ _ _ _ _ _ _ _ _ _ _ _ _ _ _ r h=>by simp [za7.l3] at h⟩
 | k+1=>by
  obtain ⟨ih0,ih1,ih2,ih3,ih4⟩:=za7.mono_l k;refine ⟨?_,?_,?_,?_,?_⟩
  ·intro y0 y1 y2 y3 y4 y5 y6 y7 y8 y9 y10 y11 y12 y13 y14 y15 y16
   unfold za7.l0
   repeat' first
   | (with_reducible exact ih0 _ _ _ _ _ _ _ _ _ _ _ _ _ _ _ _ _)
   | (with_reducible exact ih1 _ _ _ _ _ _ _ _ _ _ _ _ _ _ _ _)
   | (with_reducible exact ih2 _ _ _ _ _ _ _ _ _ _ _ _ _ _ _ _)
   | (with_reducible exact ih3 _ _ _ _ _ _ _ _ _ _ _ _ _ _ _ _)
   | (with_reducible exact ih4 _ _ _ _ _ _ _ _ _ _ _ _ _ _ _ _)
   | (with_reducible exact zac.mono _ _ _ _)
   | (with_reducible exact za3.mono _ _ _ _ _ _ _ _ _ _ _ _ _ _ _ _)
   | (with_reducible exact LeO.refl _)
   | (with_reducible exact LeO.none _)
   | (with_reducible refine LeO.ite ?_ ?_)
   | (with_reducible refine LeO.bind ?_ (fun _=>?_))
   | exact ih0 _ _ _ _ _ _ _ _ _ _ _ _ _ _ _ _ _
   | exact ih1 _ _ _ _ _ _ _ _ _ _ _ _ _ _ _ _
   | exact ih2 _ _ _ _ _ _ _ _ _ _ _ _ _ _ _ _
   | exact ih3 _ _ _ _ _ _ _ _ _ _ _ _ _ _ _ _
   | exact ih4 _ _ _ _ _ _ _ _ _ _ _ _ _ _ _ _
   | exact zac.mono _ _ _ _
   | exact za3.mono _ _ _ _ _ _ _ _ _ _ _ _ _ _ _ _
   | exact LeO.none _
   | refine LeO.ite ?_ ?_
   | refine LeO.bind ?_ (fun _=>?_)
  ·intro y0 y1 y2 y3 y4 y5 y6 y7 y8 y9 y10 y11 y12 y13 y14 y15
   unfold za7.j1
   repeat' first
   | (with_reducible exact ih0 _ _ _ _ _ _ _ _ _ _ _ _ _ _ _ _ _)
   | (with_reducible exact ih1 _ _ _ _ _ _ _ _ _ _ _ _ _ _ _ _)
   | (with_reducible exact ih2 _ _ _ _ _ _ _ _ _ _ _ _ _ _ _ _)
   | (with_reducible exact ih3 _ _ _ _ _ _ _ _ _ _ _ _ _ _ _ _)
   | (with_reducible exact ih4 _ _ _ _ _ _ _ _ _ _ _ _ _ _ _ _)
   | (with_reducible exact zac.mono _ _ _ _)
   | (with_reducible exact za3.mono _ _ _ _ _ _ _ _ _ _ _ _ _ _ _ _)
   | (with_reducible exact LeO.refl _)
   | (with_reducible exact LeO.none _)
   | (with_reducible refine LeO.ite ?_ ?_)
   | (with_reducible refine LeO.bind ?_ (fun _=>?_))
   | exact ih0 _ _ _ _ _ _ _ _ _ _ _ _ _ _ _ _ _
   | exact ih1 _ _ _ _ _ _ _ _ _ _ _ _ _ _ _ _
   | exact ih2 _ _ _ _ _ _ _ _ _ _ _ _ _ _ _ _
   | exact ih3 _ _ _ _ _ _ _ _ _ _ _ _ _ _ _ _
   | exact ih4 _ _ _ _ _ _ _ _ _ _ _ _ _ _ _ _
   | exact zac.mono _ _ _ _
   | exact za3.mono _ _ _ _ _ _ _ _ _ _ _ _ _ _ _ _
   | exact LeO.none _
   | refine LeO.ite ?_ ?_
   | refine LeO.bind ?_ (fun _=>?_)
  ·intro y0 y1 y2 y3 y4 y5 y6 y7 y8 y9 y10 y11 y12 y13 y14 y15
   unfold za7.l1
   repeat' first
   | (with_reducible exact ih0 _ _ _ _ _ _ _ _ _ _ _ _ _ _ _ _ _)
   | (with_reducible exact ih1 _ _ _ _ _ _ _ _ _ _ _ _ _ _ _ _)
   | (with_reducible exact ih2 _ _ _ _ _ _ _ _ _ _ _ _ _ _ _ _)
   | (with_reducible exact ih3 _ _ _ _ _ _ _ _ _ _ _ _ _ _ _ _)
   | (with_reducible exact ih4 _ _ _ _ _ _ _ _ _ _ _ _ _ _ _ _)
   | (with_reducible exact zac.mono _ _ _ _)
   | (with_reducible exact za3.mono _ _ _ _ _ _ _ _ _ _ _ _ _ _ _ _)
   | (with_reducible exact LeO.refl _)
   | (with_reducible exact LeO.none _)
   | (with_reducible refine LeO.ite ?_ ?_)
   | (with_reducible refine LeO.bind ?_ (fun _=>?_))
   | exact ih0 _ _ _ _ _ _ _ _ _ _ _ _ _ _ _ _ _
   | exact ih1 _ _ _ _ _ _ _ _ _ _ _ _ _ _ _ _
   | exact ih2 _ _ _ _ _ _ _ _ _ _ _ _ _ _ _ _
   | exact ih3 _ _ _ _ _ _ _ _ _ _ _ _ _ _ _ _
   | exact ih4 _ _ _ _ _ _ _ _ _ _ _ _ _ _ _ _
   | exact zac.mono _ _ _ _
   | exact za3.mono _ _ _ _ _ _ _ _ _ _ _ _ _ _ _ _
   | exact LeO.none _
   | refine LeO.ite ?_ ?_
   | refine LeO.bind ?_ (fun _=>?_)
  ·intro y0 y1 y2 y3 y4 y5 y6 y7 y8 y9 y10 y11 y12 y13 y14 y15
   unfold za7.l2
   repeat' first
   | (with_reducible exact ih0 _ _ _ _ _ _ _ _ _ _ _ _ _ _ _ _ _)
   | (with_reducible exact ih1 _ _ _ _ _ _ _ _ _ _ _ _ _ _ _ _)
   | (with_reducible exact ih2 _ _ _ _ _ _ _ _ _ _ _ _ _ _ _ _)
   | (with_reducible exact ih3 _ _ _ _ _ _ _ _ _ _ _ _ _ _ _ _)
   | (with_reducible exact ih4 _ _ _ _ _ _ _ _ _ _ _ _ _ _ _ _)
   | (with_reducible exact zac.mono _ _ _ _)
   | (with_reducible exact za3.mono _ _ _ _ _ _ _ _ _ _ _ _ _ _ _ _)
   | (with_reducible exact LeO.refl _)
   | (with_reducible exact LeO.none _)
   | (with_reducible refine LeO.ite ?_ ?_)
   | (with_reducible refine LeO.bind ?_ (fun _=>?_))
   | exact ih0 _ _ _ _ _ _ _ _ _ _ _ _ _ _ _ _ _
   | exact ih1 _ _ _ _ _ _ _ _ _ _ _ _ _ _ _ _
   | exact ih2 _ _ _ _ _ _ _ _ _ _ _ _ _ _ _ _
   | exact ih3 _ _ _ _ _ _ _ _ _ _ _ _ _ _ _ _
   | exact ih4 _ _ _ _ _ _ _ _ _ _ _ _ _ _ _ _
   | exact zac.mono _ _ _ _
   | exact za3.mono _ _ _ _ _ _ _ _ _ _ _ _ _ _ _ _
   | exact LeO.none _
   | refine LeO.ite ?_ ?_
   | refine LeO.bind ?_ (fun _=>?_)
  ·intro y0 y1 y2 y3 y4 y5 y6 y7 y8 y9 y10 y11 y12 y13 y14 y15
   unfold za7.l3
   repeat' first
   | (with_reducible exact ih0 _ _ _ _ _ _ _ _ _ _ _ _ _ _ _ _ _)
   | (with_reducible exact ih1 _ _ _ _ _ _ _ _ _ _ _ _ _ _ _ _)
   | (with_reducible exact ih2 _ _ _ _ _ _ _ _ _ _ _ _ _ _ _ _)
   | (with_reducible exact ih3 _ _ _ _ _ _ _ _ _ _ _ _ _ _ _ _)
   | (with_reducible exact ih4 _ _ _ _ _ _ _ _ _ _ _ _ _ _ _ _)
   | (with_reducible exact zac.mono _ _ _ _)
   | (with_reducible exact za3.mono _ _ _ _ _ _ _ _ _ _ _ _ _ _ _ _)
   | (with_reducible exact LeO.refl _)
   | (with_reducible exact LeO.none _)
   | (with_reducible refine LeO.ite ?_ ?_)
   | (with_reducible refine LeO.bind ?_ (fun _=>?_))
   | exact ih0 _ _ _ _ _ _ _ _ _ _ _ _ _ _ _ _ _
   | exact ih1 _ _ _ _ _ _ _ _ _ _ _ _ _ _ _ _
   | exact ih2 _ _ _ _ _ _ _ _ _ _ _ _ _ _ _ _
   | exact ih3 _ _ _ _ _ _ _ _ _ _ _ _ _ _ _ _
   | exact ih4 _ _ _ _ _ _ _ _ _ _ _ _ _ _ _ _
   | exact zac.mono _ _ _ _
   | exact za3.mono _ _ _ _ _ _ _ _ _ _ _ _ _ _ _ _
   | exact LeO.none _
   | refine LeO.ite ?_ ?_
   | refine LeO.bind ?_ (fun _=>?_)
theorem za7.mono:∀ a0 a1 a2 a3 a4 a5 a6 a7 a8 a9 a10 a11 a12 a13 a14 k,LeO (za7.f k a0 a1 a2 a3 a4 a5 a6 a7 a8 a9 a10 a11 a12 a13 a14) (za7.f (k+1) a0 a1 a2 a3 a4 a5 a6 a7 a8 a9 a10 a11 a12 a13 a14):=by
 intro a0 a1 a2 a3 a4 a5 a6 a7 a8 a9 a10 a11 a12 a13 a14 k;obtain ⟨ih0,ih1,ih2,ih3,ih4⟩:=za7.mono_l k;unfold za7.f
 repeat' first
  | (with_reducible exact ih0 _ _ _ _ _ _ _ _ _ _ _ _ _ _ _ _ _)
  | (with_reducible exact ih1 _ _ _ _ _ _ _ _ _ _ _ _ _ _ _ _)
  | (with_reducible exact ih2 _ _ _ _ _ _ _ _ _ _ _ _ _ _ _ _)
  | (with_reducible exact ih3 _ _ _ _ _ _ _ _ _ _ _ _ _ _ _ _)
  | (with_reducible exact ih4 _ _ _ _ _ _ _ _ _ _ _ _ _ _ _ _)
  | (with_reducible exact zac.mono _ _ _ _)
  | (with_reducible exact za3.mono _ _ _ _ _ _ _ _ _ _ _ _ _ _ _ _)
  | (with_reducible exact LeO.refl _)
  | (with_reducible exact LeO.none _)
  | (with_reducible refine LeO.ite ?_ ?_)
  | (with_reducible refine LeO.bind ?_ (fun _=>?_))
  | exact ih0 _ _ _ _ _ _ _ _ _ _ _ _ _ _ _ _ _
  | exact ih1 _ _ _ _ _ _ _ _ _ _ _ _ _ _ _ _
  | exact ih2 _ _ _ _ _ _ _ _ _ _ _ _ _ _ _ _
  | exact ih3 _ _ _ _ _ _ _ _ _ _ _ _ _ _ _ _
  | exact ih4 _ _ _ _ _ _ _ _ _ _ _ _ _ _ _ _
  | exact zac.mono _ _ _ _
  | exact za3.mono _ _ _ _ _ _ _ _ _ _ _ _ _ _ _ _
  | exact LeO.none _
  | refine LeO.ite ?_ ?_
  | refine LeO.bind ?_ (fun _=>?_)
set_option maxHeartbeats 8000000 in
set_option maxRecDepth 100000 in
theorem za7.calls (k:Nat) (a0_0:Int) (a0_1:Int) (a0_2:Int) (a0_3:Int) (a0_4:Int) (a0_5:Int) (a0_6:Bool) (a0_7:ByteArray) (a0_8:ByteArray) (a0_9:Bool) (a0_10:ByteArray) (a0_11:ByteArray) (A0_12:Option Addr) (c0_12:Nat) (l0_12:List (S49)) (A0_13:Option Addr) (c0_13:Nat) (l0_13:List (S51)) (A0_14:Option Addr) (c0_14:Nat) (l0_14:List (S55)) (r:Bool) (w:World) (hr0_12:Kd.C k49 w A0_12 l0_12.length l0_12) (hc0_12:l0_12.length≤c0_12) (hr0_13:Kd.C k51 w A0_13 l0_13.length l0_13) (hc0_13:l0_13.length≤c0_13) (hr0_14:Kd.C k55 w A0_14 l0_14.length l0_14) (hc0_14:l0_14.length≤c0_14) (h:za7.f k a0_0 a0_1 a0_2 a0_3 a0_4 a0_5 a0_6 a0_7 a0_8 a0_9 a0_10 a0_11 l0_12 l0_13 l0_14=some r) :
 Calls Tryd.prog 23 #[.agg #[.int .i64 a0_0,.int .i64 a0_1,.int .i64 a0_2,.int .i64 a0_3,.int .i64 a0_4,.int .i64 a0_5,.bool a0_6,.string a0_7,.string a0_8,.bool a0_9,.string a0_10,.string a0_11,.slice A0_12 l0_12.length c0_12,.slice A0_13 l0_13.length c0_13,.slice A0_14 l0_14.length c0_14]] w fun e w'=>e = .returned (.bool r)∧Below w.heap.size w w':=by
 have hu37:=Tryd.underlying37;have hu34:=Tryd.underlying34;have hu30:=Tryd.underlying30;have hu55:=Tryd.underlying55;have HR0_12:=za1.mk hr0_12;have HC0_12:=za1.mk hc0_12;clear hr0_12 hc0_12;have HR0_13:=za1.mk hr0_13;have HC0_13:=za1.mk hc0_13;clear hr0_13 hc0_13;have HR0_14:=za1.mk hr0_14;have HC0_14:=za1.mk hc0_14;clear hr0_14 hc0_14;have HB:=am (Below.refl w.heap.size w);have H:((zbo.f a0_0 a0_1 a0_2 a0_3 a0_4 a0_5 a0_6 a0_7 a0_8 a0_9 a0_10 a0_11 l0_12 l0_13).bind fun t499=>(za7.l0 k t499 0 a0_0 a0_1 a0_2 a0_3 a0_4 a0_5 a0_6 a0_7 a0_8 a0_9 a0_10 a0_11 l0_12 l0_13 l0_14))=some r:=h;clear h;replace H:=Option.bind_eq_some_iff.mp H;obtain ⟨t499,A20,H⟩:=H;replace H:(za7.l0 k t499 0 a0_0 a0_1 a0_2 a0_3 a0_4 a0_5 a0_6 a0_7 a0_8 a0_9 a0_10 a0_11 l0_12 l0_13 l0_14)=some r:=H;have A2:=za1.mk A20;clear A20;have H':=za1.mk H;clear H;go_enter Tryd.func23,Tryd.ntmps23
 go_wp2_with (first|((with_reducible refine zbr (N:=1) rfl ?_);(try (refine zcz (by rfl) ?_;dsimp only));refine zbq ?hg (N:=1) ?hd (cs:=#[.int .i64 a0_0,.int .i64 a0_1,.int .i64 a0_2,.int .i64 a0_3,.int .i64 a0_4,.int .i64 a0_5,.bool a0_6,.string a0_7,.string a0_8,.bool a0_9,.string a0_10,.string a0_11,.slice A0_12 l0_12.length c0_12,.slice A0_13 l0_13.length c0_13,.slice A0_14 l0_14.length c0_14]) (t:=37) ?hr ?_;(case hd=>rfl);(case hg=>rfl);(case hr=>first|(go_simp;done)|(go_simp;rfl));intro g_a hg w3 hbox hb;have B_a:=am (hbox);have W_a:=am ((q48:w.heap.size≤g_a));have E_a:=am ((q48:w.heap.size≤g_a));replace HB:=am (zab q2 hb);clear hb hbox hg;obtain ⟨c_a0,c_a1,c_a2,c_a3,c_a4,c_a5,c_a6,c_a7,c_a8,c_a9,c_a10,c_a11,c_a12,c_a13,c_a14⟩:=cs15 B_a.out;obtain ⟨f_a0,f_a1,f_a2,f_a3,f_a4,f_a5,f_a6,f_a7,f_a8,f_a9,f_a10,f_a11,f_a12,f_a13,f_a14⟩:=fs15 B_a.out)|((with_reducible refine zan (f:=34) rfl ?_);refine goesL_ (some 11) rfl rfl Tryd.func34 (by kernel_rfl) rfl #[.agg #[.int .i64 a0_0,.int .i64 a0_1,.int .i64 a0_2,.int .i64 a0_3,.int .i64 a0_4,.int .i64 a0_5,.bool a0_6,.string a0_7,.string a0_8,.bool a0_9,.string a0_10,.string a0_11,.slice A0_12 l0_12.length c0_12,.slice A0_13 l0_13.length c0_13]] rfl q4 ?_;(with_reducible refine (zbo.calls a0_0 a0_1 a0_2 a0_3 a0_4 a0_5 a0_6 a0_7 a0_8 a0_9 a0_10 a0_11 _ _ l0_12 _ _ l0_13 t499 _ ?side1 ?side2 ?side3 ?side4 A2.out).mono ?_);(case side1=>repeat (first|exact (Kd.zc6 HR0_12.out HB.out)|(with_reducible refine Kd.zbv ?_ _)|(with_reducible refine Kd.zbw ?_ _)|(with_reducible refine Kd.zc8 ?_)));(case side2=>exact HC0_12.out);(case side3=>repeat (first|exact (Kd.zc6 HR0_13.out HB.out)|(with_reducible refine Kd.zbv ?_ _)|(with_reducible refine Kd.zbw ?_ _)|(with_reducible refine Kd.zc8 ?_)));(case side4=>exact HC0_13.out);rintro e w5 ⟨v500,rfl,ho0,hb⟩;refine ⟨_,rfl,?_⟩;have HO501:=am (Kd.zc9 ho0 (zbb q3));replace B_a:=am (zaf q1 hb);replace HB:=am (zab q3 hb);(try clear hb);(try clear hb2);(try clear hk);(try clear hi);(try clear ho0)))
 go_loopg [4] k (fun kq v4 w'=>∃ (x4_1:Int),v4 = .int .i64 x4_1∧za1 (za7.l0 kq t499 x4_1 a0_0 a0_1 a0_2 a0_3 a0_4 a0_5 a0_6 a0_7 a0_8 a0_9 a0_10 a0_11 l0_12 l0_13 l0_14=some r)∧za1 (kq≤k)∧za1 (Kd.R (Kd.int .i64) 3 w' w.heap.size (fun _=>True) v500 t499)∧za1 (w'.heap[g_a]?=some (.cells #[.int .i64 a0_0,.int .i64 a0_1,.int .i64 a0_2,.int .i64 a0_3,.int .i64 a0_4,.int .i64 a0_5,.bool a0_6,.string a0_7,.string a0_8,.bool a0_9,.string a0_10,.string a0_11,(.slice A0_12 l0_12.length c0_12),(.slice A0_13 l0_13.length c0_13),(.slice A0_14 l0_14.length c0_14)] 37 (0,0)))∧za1 (Below w.heap.size w w'))
 case atStart=>exact ⟨(0),q5,H',⟨Nat.le_refl _⟩,⟨by (with_reducible repeat (first|apply Kd.zb1|apply Kd.zb2|apply Kd.zb9));exact HO501.out⟩,⟨q1⟩,⟨q3⟩⟩
 case round=>
  clear H';(try clear c2);(try clear p2);(try clear c3);(try clear c_a0 c_a1 c_a10 c_a11 c_a12 c_a13 c_a14 c_a2 c_a3 c_a4 c_a5 c_a6 c_a7 c_a8 c_a9 f_a0 f_a1 f_a10 f_a11 f_a12 f_a13 f_a14 f_a2 f_a3 f_a4 f_a5 f_a6 f_a7 f_a8 f_a9);obtain ⟨x4_1,rfl,HA,HK1,HO_3,B_a,HB⟩:=hrel
  cases gk with
  | zero=>exact absurd HA.out (by simp [za7.l0])
  | succ k1=>
   have H:=HA.out;clear HA;simp only [za7.l0] at H
   by_cases c6:x4_1<(t499.length:Int)
   ·rw [if_pos c6] at H
    have c6b0:decide (x4_1<(t499.length:Int))=true:=decide_eq_true c6;clear c6
    by_cases c7:0≤x4_1
    ·rw [if_pos c7] at H
     have c7b0:decide (0≤x4_1)=true:=decide_eq_true c7;clear c7;replace H:=Option.bind_eq_some_iff.mp H;obtain ⟨t503,A80,H⟩:=H;replace H:(if t503=true then (za7.l0 k1 t499 (wrap64 (x4_1+1)) a0_0 a0_1 a0_2 a0_3 a0_4 a0_5 a0_6 a0_7 a0_8 a0_9 a0_10 a0_11 l0_12 l0_13 l0_14) else (some false))=some r:=H;have A8:=za1.mk A80;clear A80
     by_cases c9:t503=true
     ·subst c9
      have H1:(za7.l0 k1 t499 (wrap64 (x4_1+1)) a0_0 a0_1 a0_2 a0_3 a0_4 a0_5 a0_6 a0_7 a0_8 a0_9 a0_10 a0_11 l0_12 l0_13 l0_14)=some r:=by rw [if_pos rfl] at H;exact H
      clear H;have H:=H1;clear H1;have H':=za1.mk H;clear H;obtain ⟨Ao10,co10,eo10⟩:=Kd.zbn HO_3.out;subst eo10;have p502:0≤(x4_1:Int):=of_decide_eq_true q0;have q502:x4_1<(t499.length:Int):=of_decide_eq_true q0;obtain ⟨ad502,e502,hx502_0⟩:=Kd.at_int (Kd.R_reads' HO_3.out).2.2 x4_1 p502 q502;cases e502;replace p502:=eq_true p502;replace q502:=eq_true q502
      go_wp2_with (first|((with_reducible refine zan (f:=35) rfl ?_);refine goesL_ (some 22) rfl rfl Tryd.func35 (by kernel_rfl) rfl #[.int .i64 (rd t499 x4_1)] rfl q4 ?_;(with_reducible refine (zaj.calls (rd t499 x4_1) true _ A8.out).mono ?_);rintro e w' ⟨rfl,⟨nd,rfl⟩⟩;refine ⟨_,rfl,?_⟩))
      go_roundg k1
      case measure=>have:=HK1.out;omega
      case rel=>exact ⟨(wrap64 (x4_1+1)),q5,H',⟨q13⟩,⟨q22⟩,⟨q1⟩,⟨q3⟩⟩
     ·replace c9:=Bool.eq_false_iff.mpr c9
      subst c9
      have H1:(some false)=some r:=by rw [if_neg (show ¬ (false=true) by decide)] at H;exact H
      clear H;have H:=H1;clear H1;obtain rfl:=Option.some.inj H;obtain ⟨Ao11,co11,eo11⟩:=Kd.zbn HO_3.out;subst eo11;have p502:0≤(x4_1:Int):=of_decide_eq_true q0;have q502:x4_1<(t499.length:Int):=of_decide_eq_true q0;obtain ⟨ad502,e502,hx502_0⟩:=Kd.at_int (Kd.R_reads' HO_3.out).2.2 x4_1 p502 q502;cases e502;replace p502:=eq_true p502;replace q502:=eq_true q502
      go_wp2_with (first|((with_reducible refine zan (f:=35) rfl ?_);refine goesL_ (some 22) rfl rfl Tryd.func35 (by kernel_rfl) rfl #[.int .i64 (rd t499 x4_1)] rfl q4 ?_;(with_reducible refine (zaj.calls (rd t499 x4_1) false _ A8.out).mono ?_);rintro e w' ⟨rfl,⟨nd,rfl⟩⟩;refine ⟨_,rfl,?_⟩))
      go_ret;exact ⟨q8,q3⟩
    ·rw [if_neg c7] at H
     exact absurd H (by simp)
   ·rw [if_neg c6] at H
    have c6b0:decide (x4_1<(t499.length:Int))=false:=decide_eq_false c6;clear c6;have HC12:=za1.mk H;clear H;obtain ⟨Ao13,co13,eo13⟩:=Kd.zbn HO_3.out;subst eo13
    go_upto_region 7 with (fail)
    go_cut [55] (fun v55 wc=>∃ (kq:Nat) (x55_11:Bool),v55 = .bool x55_11∧za1 (za7.j1 kq x55_11 a0_0 a0_1 a0_2 a0_3 a0_4 a0_5 a0_6 a0_7 a0_8 a0_9 a0_10 a0_11 l0_12 l0_13 l0_14=some r)∧za1 (kq≤k1)∧za1 (wc.heap[g_a]?=some (.cells #[.int .i64 a0_0,.int .i64 a0_1,.int .i64 a0_2,.int .i64 a0_3,.int .i64 a0_4,.int .i64 a0_5,.bool a0_6,.string a0_7,.string a0_8,.bool a0_9,.string a0_10,.string a0_11,(.slice A0_12 l0_12.length c0_12),(.slice A0_13 l0_13.length c0_13),(.slice A0_14 l0_14.length c0_14)] 37 (0,0)))∧za1 (Below w.heap.size w wc))
    case first=>
     have H:=HC12.out;clear HC12;replace H:=Option.bind_eq_some_iff.mp H;obtain ⟨t504,A140,H⟩:=H;replace H:(if t504=true then ((zac.f k1 a0_9 a0_10 a0_11).bind fun t505=>(if t505=true then (if (l0_12.length:Int)>8 then (za7.j1 k1 true a0_0 a0_1 a0_2 a0_3 a0_4 a0_5 a0_6 a0_7 a0_8 a0_9 a0_10 a0_11 l0_12 l0_13 l0_14) else (if (l0_13.length:Int)>4 then (za7.j1 k1 true a0_0 a0_1 a0_2 a0_3 a0_4 a0_5 a0_6 a0_7 a0_8 a0_9 a0_10 a0_11 l0_12 l0_13 l0_14) else (za7.j1 k1 (decide ((l0_14.length:Int)>256)) a0_0 a0_1 a0_2 a0_3 a0_4 a0_5 a0_6 a0_7 a0_8 a0_9 a0_10 a0_11 l0_12 l0_13 l0_14))) else (za7.j1 k1 true a0_0 a0_1 a0_2 a0_3 a0_4 a0_5 a0_6 a0_7 a0_8 a0_9 a0_10 a0_11 l0_12 l0_13 l0_14))) else (za7.j1 k1 true a0_0 a0_1 a0_2 a0_3 a0_4 a0_5 a0_6 a0_7 a0_8 a0_9 a0_10 a0_11 l0_12 l0_13 l0_14))=some r:=H;have A14:=za1.mk A140;clear A140
     by_cases c15:t504=true
     ·subst c15
      have H1:((zac.f k1 a0_9 a0_10 a0_11).bind fun t505=>(if t505=true then (if (l0_12.length:Int)>8 then (za7.j1 k1 true a0_0 a0_1 a0_2 a0_3 a0_4 a0_5 a0_6 a0_7 a0_8 a0_9 a0_10 a0_11 l0_12 l0_13 l0_14) else (if (l0_13.length:Int)>4 then (za7.j1 k1 true a0_0 a0_1 a0_2 a0_3 a0_4 a0_5 a0_6 a0_7 a0_8 a0_9 a0_10 a0_11 l0_12 l0_13 l0_14) else (za7.j1 k1 (decide ((l0_14.length:Int)>256)) a0_0 a0_1 a0_2 a0_3 a0_4 a0_5 a0_6 a0_7 a0_8 a0_9 a0_10 a0_11 l0_12 l0_13 l0_14))) else (za7.j1 k1 true a0_0 a0_1 a0_2 a0_3 a0_4 a0_5 a0_6 a0_7 a0_8 a0_9 a0_10 a0_11 l0_12 l0_13 l0_14)))=some r:=by rw [if_pos rfl] at H;exact H
      clear H;have H:=H1;clear H1;replace H:=Option.bind_eq_some_iff.mp H;obtain ⟨t505,A160,H⟩:=H;replace H:(if t505=true then (if (l0_12.length:Int)>8 then (za7.j1 k1 true a0_0 a0_1 a0_2 a0_3 a0_4 a0_5 a0_6 a0_7 a0_8 a0_9 a0_10 a0_11 l0_12 l0_13 l0_14) else (if (l0_13.length:Int)>4 then (za7.j1 k1 true a0_0 a0_1 a0_2 a0_3 a0_4 a0_5 a0_6 a0_7 a0_8 a0_9 a0_10 a0_11 l0_12 l0_13 l0_14) else (za7.j1 k1 (decide ((l0_14.length:Int)>256)) a0_0 a0_1 a0_2 a0_3 a0_4 a0_5 a0_6 a0_7 a0_8 a0_9 a0_10 a0_11 l0_12 l0_13 l0_14))) else (za7.j1 k1 true a0_0 a0_1 a0_2 a0_3 a0_4 a0_5 a0_6 a0_7 a0_8 a0_9 a0_10 a0_11 l0_12 l0_13 l0_14))=some r:=H;have A16:=za1.mk A160;clear A160
      by_cases c17:t505=true
      ·subst c17
       have H1:(if (l0_12.length:Int)>8 then (za7.j1 k1 true a0_0 a0_1 a0_2 a0_3 a0_4 a0_5 a0_6 a0_7 a0_8 a0_9 a0_10 a0_11 l0_12 l0_13 l0_14) else (if (l0_13.length:Int)>4 then (za7.j1 k1 true a0_0 a0_1 a0_2 a0_3 a0_4 a0_5 a0_6 a0_7 a0_8 a0_9 a0_10 a0_11 l0_12 l0_13 l0_14) else (za7.j1 k1 (decide ((l0_14.length:Int)>256)) a0_0 a0_1 a0_2 a0_3 a0_4 a0_5 a0_6 a0_7 a0_8 a0_9 a0_10 a0_11 l0_12 l0_13 l0_14)))=some r:=by rw [if_pos rfl] at H;exact H
       clear H;have H:=H1;clear H1
       by_cases c18:(l0_12.length:Int)>8
       ·rw [if_pos c18] at H
        have c18b0:decide (8<(l0_12.length:Int))=true:=decide_eq_true c18;have c18b1:decide (8<l0_12.length)=true:=decide_eq_true (by omega);clear c18
        (first|rw [c18b0]|(simp only [i64_w,i32_w];rw [c18b0])|skip)
        have H':=za1.mk H;clear H;obtain ⟨c_b0,c_b1,c_b2,c_b3,c_b4,c_b5,c_b6,c_b7,c_b8,c_b9,c_b10,c_b11,c_b12,c_b13,c_b14⟩:=cs15 B_a.out;obtain ⟨f_b0,f_b1,f_b2,f_b3,f_b4,f_b5,f_b6,f_b7,f_b8,f_b9,f_b10,f_b11,f_b12,f_b13,f_b14⟩:=fs15 B_a.out
        go_wp2_with (first|((with_reducible refine zan (f:=36) rfl ?_);refine goesL_ (some 27) rfl rfl Tryd.func36 (by kernel_rfl) rfl #[.agg #[.bool a0_6,.string a0_7,.string a0_8]] rfl q4 ?_;(with_reducible refine (zac.calls k1 a0_6 a0_7 a0_8 true _ A14.out).mono ?_);rintro e w20 ⟨rfl,hb⟩;refine ⟨_,rfl,?_⟩;replace HO_3:=am (Kd.zbx q22 hb);replace B_a:=am (zaf q1 hb);replace HB:=am (zab q3 hb);(try clear hb);(try clear hb2);(try clear hk);(try clear hi);obtain ⟨c_c0,c_c1,c_c2,c_c3,c_c4,c_c5,c_c6,c_c7,c_c8,c_c9,c_c10,c_c11,c_c12,c_c13,c_c14⟩:=cs15 B_a.out;obtain ⟨f_c0,f_c1,f_c2,f_c3,f_c4,f_c5,f_c6,f_c7,f_c8,f_c9,f_c10,f_c11,f_c12,f_c13,f_c14⟩:=fs15 B_a.out)|(go_at_call 36;(with_reducible refine (zac.calls k1 a0_9 a0_10 a0_11 true _ A16.out).mono ?_);rintro e w22 ⟨rfl,hb⟩;replace HO_3:=am (Kd.zbx q22 hb);replace B_a:=am (zaf q1 hb);replace HB:=am (zab q3 hb);(try clear hb);(try clear hb2);(try clear hk);(try clear hi);obtain ⟨c_d0,c_d1,c_d2,c_d3,c_d4,c_d5,c_d6,c_d7,c_d8,c_d9,c_d10,c_d11,c_d12,c_d13,c_d14⟩:=cs15 B_a.out;obtain ⟨f_d0,f_d1,f_d2,f_d3,f_d4,f_d5,f_d6,f_d7,f_d8,f_d9,f_d10,f_d11,f_d12,f_d13,f_d14⟩:=fs15 B_a.out))
        go_meet
        case rel=>exact ⟨_,(true),q5,H',⟨by have:=HK1.out;first|omega|exact Nat.le_refl _⟩,⟨q1⟩,⟨q3⟩⟩
       ·rw [if_neg c18] at H
        have c18b0:decide (8<(l0_12.length:Int))=false:=decide_eq_false c18;have c18b1:decide (8<l0_12.length)=false:=decide_eq_false (by omega);clear c18
        (first|rw [c18b0]|(simp only [i64_w,i32_w];rw [c18b0])|skip)
        by_cases c24:(l0_13.length:Int)>4
        ·rw [if_pos c24] at H
         have c24b0:decide (4<(l0_13.length:Int))=true:=decide_eq_true c24;have c24b1:decide (4<l0_13.length)=true:=decide_eq_true (by omega);clear c24;have H':=za1.mk H;clear H;obtain ⟨c_e0,c_e1,c_e2,c_e3,c_e4,c_e5,c_e6,c_e7,c_e8,c_e9,c_e10,c_e11,c_e12,c_e13,c_e14⟩:=cs15 B_a.out;obtain ⟨f_e0,f_e1,f_e2,f_e3,f_e4,f_e5,f_e6,f_e7,f_e8,f_e9,f_e10,f_e11,f_e12,f_e13,f_e14⟩:=fs15 B_a.out
         go_wp2_with (first|((with_reducible refine zan (f:=36) rfl ?_);refine goesL_ (some 27) rfl rfl Tryd.func36 (by kernel_rfl) rfl #[.agg #[.bool a0_6,.string a0_7,.string a0_8]] rfl q4 ?_;(with_reducible refine (zac.calls k1 a0_6 a0_7 a0_8 true _ A14.out).mono ?_);rintro e w26 ⟨rfl,hb⟩;refine ⟨_,rfl,?_⟩;replace HO_3:=am (Kd.zbx q22 hb);replace B_a:=am (zaf q1 hb);replace HB:=am (zab q3 hb);(try clear hb);(try clear hb2);(try clear hk);(try clear hi);obtain ⟨c_f0,c_f1,c_f2,c_f3,c_f4,c_f5,c_f6,c_f7,c_f8,c_f9,c_f10,c_f11,c_f12,c_f13,c_f14⟩:=cs15 B_a.out;obtain ⟨f_f0,f_f1,f_f2,f_f3,f_f4,f_f5,f_f6,f_f7,f_f8,f_f9,f_f10,f_f11,f_f12,f_f13,f_f14⟩:=fs15 B_a.out)|(go_at_call 36;(with_reducible refine (zac.calls k1 a0_9 a0_10 a0_11 true _ A16.out).mono ?_);rintro e w28 ⟨rfl,hb⟩;replace HO_3:=am (Kd.zbx q22 hb);replace B_a:=am (zaf q1 hb);replace HB:=am (zab q3 hb);(try clear hb);(try clear hb2);(try clear hk);(try clear hi);obtain ⟨c_g0,c_g1,c_g2,c_g3,c_g4,c_g5,c_g6,c_g7,c_g8,c_g9,c_g10,c_g11,c_g12,c_g13,c_g14⟩:=cs15 B_a.out;obtain ⟨f_g0,f_g1,f_g2,f_g3,f_g4,f_g5,f_g6,f_g7,f_g8,f_g9,f_g10,f_g11,f_g12,f_g13,f_g14⟩:=fs15 B_a.out))
         go_meet
         case rel=>exact ⟨_,(true),q5,H',⟨by have:=HK1.out;first|omega|exact Nat.le_refl _⟩,⟨q1⟩,⟨q3⟩⟩
        ·rw [if_neg c24] at H
         have c24b0:decide (4<(l0_13.length:Int))=false:=decide_eq_false c24;have c24b1:decide (4<l0_13.length)=false:=decide_eq_false (by omega);clear c24;have H':=za1.mk H;clear H;obtain ⟨c_h0,c_h1,c_h2,c_h3,c_h4,c_h5,c_h6,c_h7,c_h8,c_h9,c_h10,c_h11,c_h12,c_h13,c_h14⟩:=cs15 B_a.out;obtain ⟨f_h0,f_h1,f_h2,f_h3,f_h4,f_h5,f_h6,f_h7,f_h8,f_h9,f_h10,f_h11,f_h12,f_h13,f_h14⟩:=fs15 B_a.out
         go_wp2_with (first|((with_reducible refine zan (f:=36) rfl ?_);refine goesL_ (some 27) rfl rfl Tryd.func36 (by kernel_rfl) rfl #[.agg #[.bool a0_6,.string a0_7,.string a0_8]] rfl q4 ?_;(with_reducible refine (zac.calls k1 a0_6 a0_7 a0_8 true _ A14.out).mono ?_);rintro e w31 ⟨rfl,hb⟩;refine ⟨_,rfl,?_⟩;replace HO_3:=am (Kd.zbx q22 hb);replace B_a:=am (zaf q1 hb);replace HB:=am (zab q3 hb);(try clear hb);(try clear hb2);(try clear hk);(try clear hi);obtain ⟨c_i0,c_i1,c_i2,c_i3,c_i4,c_i5,c_i6,c_i7,c_i8,c_i9,c_i10,c_i11,c_i12,c_i13,c_i14⟩:=cs15 B_a.out;obtain ⟨f_i0,f_i1,f_i2,f_i3,f_i4,f_i5,f_i6,f_i7,f_i8,f_i9,f_i10,f_i11,f_i12,f_i13,f_i14⟩:=fs15 B_a.out)|(go_at_call 36;(with_reducible refine (zac.calls k1 a0_9 a0_10 a0_11 true _ A16.out).mono ?_);rintro e w33 ⟨rfl,hb⟩;replace HO_3:=am (Kd.zbx q22 hb);replace B_a:=am (zaf q1 hb);replace HB:=am (zab q3 hb);(try clear hb);(try clear hb2);(try clear hk);(try clear hi);obtain ⟨c_j0,c_j1,c_j2,c_j3,c_j4,c_j5,c_j6,c_j7,c_j8,c_j9,c_j10,c_j11,c_j12,c_j13,c_j14⟩:=cs15 B_a.out;obtain ⟨f_j0,f_j1,f_j2,f_j3,f_j4,f_j5,f_j6,f_j7,f_j8,f_j9,f_j10,f_j11,f_j12,f_j13,f_j14⟩:=fs15 B_a.out))
         go_meet
         case rel=>exact ⟨_,(decide ((l0_14.length:Int)>256)),q5,H',⟨by have:=HK1.out;first|omega|exact Nat.le_refl _⟩,⟨q1⟩,⟨q3⟩⟩
      ·replace c17:=Bool.eq_false_iff.mpr c17
       subst c17
       have H1:(za7.j1 k1 true a0_0 a0_1 a0_2 a0_3 a0_4 a0_5 a0_6 a0_7 a0_8 a0_9 a0_10 a0_11 l0_12 l0_13 l0_14)=some r:=by rw [if_neg (show ¬ (false=true) by decide)] at H;exact H
       clear H;have H:=H1;clear H1;have H':=za1.mk H;clear H;obtain ⟨c_k0,c_k1,c_k2,c_k3,c_k4,c_k5,c_k6,c_k7,c_k8,c_k9,c_k10,c_k11,c_k12,c_k13,c_k14⟩:=cs15 B_a.out;obtain ⟨f_k0,f_k1,f_k2,f_k3,f_k4,f_k5,f_k6,f_k7,f_k8,f_k9,f_k10,f_k11,f_k12,f_k13,f_k14⟩:=fs15 B_a.out
       go_wp2_with (first|((with_reducible refine zan (f:=36) rfl ?_);refine goesL_ (some 27) rfl rfl Tryd.func36 (by kernel_rfl) rfl #[.agg #[.bool a0_6,.string a0_7,.string a0_8]] rfl q4 ?_;(with_reducible refine (zac.calls k1 a0_6 a0_7 a0_8 true _ A14.out).mono ?_);rintro e w36 ⟨rfl,hb⟩;refine ⟨_,rfl,?_⟩;replace HO_3:=am (Kd.zbx q22 hb);replace B_a:=am (zaf q1 hb);replace HB:=am (zab q3 hb);(try clear hb);(try clear hb2);(try clear hk);(try clear hi);obtain ⟨c_l0,c_l1,c_l2,c_l3,c_l4,c_l5,c_l6,c_l7,c_l8,c_l9,c_l10,c_l11,c_l12,c_l13,c_l14⟩:=cs15 B_a.out;obtain ⟨f_l0,f_l1,f_l2,f_l3,f_l4,f_l5,f_l6,f_l7,f_l8,f_l9,f_l10,f_l11,f_l12,f_l13,f_l14⟩:=fs15 B_a.out)|(go_at_call 36;(with_reducible refine (zac.calls k1 a0_9 a0_10 a0_11 false _ A16.out).mono ?_);rintro e w38 ⟨rfl,hb⟩;replace HO_3:=am (Kd.zbx q22 hb);replace B_a:=am (zaf q1 hb);replace HB:=am (zab q3 hb);(try clear hb);(try clear hb2);(try clear hk);(try clear hi)))
       go_meet
       case rel=>exact ⟨_,(true),q5,H',⟨by have:=HK1.out;first|omega|exact Nat.le_refl _⟩,⟨q1⟩,⟨q3⟩⟩
     ·replace c15:=Bool.eq_false_iff.mpr c15
      subst c15
      have H1:(za7.j1 k1 true a0_0 a0_1 a0_2 a0_3 a0_4 a0_5 a0_6 a0_7 a0_8 a0_9 a0_10 a0_11 l0_12 l0_13 l0_14)=some r:=by rw [if_neg (show ¬ (false=true) by decide)] at H;exact H
      clear H;have H:=H1;clear H1;have H':=za1.mk H;clear H;obtain ⟨c_m0,c_m1,c_m2,c_m3,c_m4,c_m5,c_m6,c_m7,c_m8,c_m9,c_m10,c_m11,c_m12,c_m13,c_m14⟩:=cs15 B_a.out;obtain ⟨f_m0,f_m1,f_m2,f_m3,f_m4,f_m5,f_m6,f_m7,f_m8,f_m9,f_m10,f_m11,f_m12,f_m13,f_m14⟩:=fs15 B_a.out
      go_wp2_with (first|((with_reducible refine zan (f:=36) rfl ?_);refine goesL_ (some 27) rfl rfl Tryd.func36 (by kernel_rfl) rfl #[.agg #[.bool a0_6,.string a0_7,.string a0_8]] rfl q4 ?_;(with_reducible refine (zac.calls k1 a0_6 a0_7 a0_8 false _ A14.out).mono ?_);rintro e w40 ⟨rfl,hb⟩;refine ⟨_,rfl,?_⟩;replace HO_3:=am (Kd.zbx q22 hb);replace B_a:=am (zaf q1 hb);replace HB:=am (zab q3 hb);(try clear hb);(try clear hb2);(try clear hk);(try clear hi)))
      go_meet
      case rel=>exact ⟨_,(true),q5,H',⟨by have:=HK1.out;first|omega|exact Nat.le_refl _⟩,⟨q1⟩,⟨q3⟩⟩
    case rest=>
     clear HC12;(try clear c1);(try clear c2);(try clear p2 p2);(try clear c3);(try clear p5);(try clear q5);(try clear hx5);(try clear c6);(try clear c6b0);(try clear p6);(try clear c7);(try clear c7b0);(try clear c9);(try clear c15);(try clear c17);(try clear c18);(try clear c18b0);(try clear c18b1);(try clear c23);(try clear c24);(try clear c24b0);(try clear c24b1);(try clear c34);(try clear c35);(try clear c36);(try clear c_b0 c_b1 c_b10 c_b11 c_b12 c_b13 c_b14 c_b2 c_b3 c_b4 c_b5 c_b6 c_b7 c_b8 c_b9 f_b0 f_b1 f_b10 f_b11 f_b12 f_b13 f_b14 f_b2 f_b3 f_b4 f_b5 f_b6 f_b7 f_b8 f_b9);(try clear c_c0 c_c1 c_c10 c_c11 c_c12 c_c13 c_c14 c_c2 c_c3 c_c4 c_c5 c_c6 c_c7 c_c8 c_c9 f_c0 f_c1 f_c10 f_c11 f_c12 f_c13 f_c14 f_c2 f_c3 f_c4 f_c5 f_c6 f_c7 f_c8 f_c9);(try clear c_d0 c_d1 c_d10 c_d11 c_d12 c_d13 c_d14 c_d2 c_d3 c_d4 c_d5 c_d6 c_d7 c_d8 c_d9 f_d0 f_d1 f_d10 f_d11 f_d12 f_d13 f_d14 f_d2 f_d3 f_d4 f_d5 f_d6 f_d7 f_d8 f_d9);(try clear c_e0 c_e1 c_e10 c_e11 c_e12 c_e13 c_e14 c_e2 c_e3 c_e4 c_e5 c_e6 c_e7 c_e8 c_e9 f_e0 f_e1 f_e10 f_e11 f_e12 f_e13 f_e14 f_e2 f_e3 f_e4 f_e5 f_e6 f_e7 f_e8 f_e9);(try clear c_f0 c_f1 c_f10 c_f11 c_f12 c_f13 c_f14 c_f2 c_f3 c_f4 c_f5 c_f6 c_f7 c_f8 c_f9 f_f0 f_f1 f_f10 f_f11 f_f12 f_f13 f_f14 f_f2 f_f3 f_f4 f_f5 f_f6 f_f7 f_f8 f_f9);(try clear c_g0 c_g1 c_g10 c_g11 c_g12 c_g13 c_g14 c_g2 c_g3 c_g4 c_g5 c_g6 c_g7 c_g8 c_g9 f_g0 f_g1 f_g10 f_g11 f_g12 f_g13 f_g14 f_g2 f_g3 f_g4 f_g5 f_g6 f_g7 f_g8 f_g9);(try clear c_h0 c_h1 c_h10 c_h11 c_h12 c_h13 c_h14 c_h2 c_h3 c_h4 c_h5 c_h6 c_h7 c_h8 c_h9 f_h0 f_h1 f_h10 f_h11 f_h12 f_h13 f_h14 f_h2 f_h3 f_h4 f_h5 f_h6 f_h7 f_h8 f_h9);(try clear c_i0 c_i1 c_i10 c_i11 c_i12 c_i13 c_i14 c_i2 c_i3 c_i4 c_i5 c_i6 c_i7 c_i8 c_i9 f_i0 f_i1 f_i10 f_i11 f_i12 f_i13 f_i14 f_i2 f_i3 f_i4 f_i5 f_i6 f_i7 f_i8 f_i9);(try clear c_j0 c_j1 c_j10 c_j11 c_j12 c_j13 c_j14 c_j2 c_j3 c_j4 c_j5 c_j6 c_j7 c_j8 c_j9 f_j0 f_j1 f_j10 f_j11 f_j12 f_j13 f_j14 f_j2 f_j3 f_j4 f_j5 f_j6 f_j7 f_j8 f_j9);(try clear c_k0 c_k1 c_k10 c_k11 c_k12 c_k13 c_k14 c_k2 c_k3 c_k4 c_k5 c_k6 c_k7 c_k8 c_k9 f_k0 f_k1 f_k10 f_k11 f_k12 f_k13 f_k14 f_k2 f_k3 f_k4 f_k5 f_k6 f_k7 f_k8 f_k9);(try clear c_l0 c_l1 c_l10 c_l11 c_l12 c_l13 c_l14 c_l2 c_l3 c_l4 c_l5 c_l6 c_l7 c_l8 c_l9 f_l0 f_l1 f_l10 f_l11 f_l12 f_l13 f_l14 f_l2 f_l3 f_l4 f_l5 f_l6 f_l7 f_l8 f_l9);(try clear c_m0 c_m1 c_m10 c_m11 c_m12 c_m13 c_m14 c_m2 c_m3 c_m4 c_m5 c_m6 c_m7 c_m8 c_m9 f_m0 f_m1 f_m10 f_m11 f_m12 f_m13 f_m14 f_m2 f_m3 f_m4 f_m5 f_m6 f_m7 f_m8 f_m9);(try clear c_a0 c_a1 c_a10 c_a11 c_a12 c_a13 c_a14 c_a2 c_a3 c_a4 c_a5 c_a6 c_a7 c_a8 c_a9 f_a0 f_a1 f_a10 f_a11 f_a12 f_a13 f_a14 f_a2 f_a3 f_a4 f_a5 f_a6 f_a7 f_a8 f_a9);(try clear hx502_0);(try clear p502);(try clear q502);obtain ⟨kq,x55_11,rfl,HA,HJ11,B_a,HB⟩:=hcut
     cases kq with
     | zero=>exact absurd HA.out (by simp [za7.j1])
     | succ kj11=>
      have H:=HA.out;clear HA;simp only [za7.j1] at H
      by_cases c41:x55_11=true
      ·subst c41
       have H1:(some false)=some r:=by rw [if_pos rfl] at H;exact H
       clear H;have H:=H1;clear H1;obtain rfl:=Option.some.inj H
       go_wp2
       go_ret;exact ⟨q8,q3⟩
      ·replace c41:=Bool.eq_false_iff.mpr c41
       subst c41
       have H1:(za7.l1 kj11 0 a0_0 a0_1 a0_2 a0_3 a0_4 a0_5 a0_6 a0_7 a0_8 a0_9 a0_10 a0_11 l0_12 l0_13 l0_14)=some r:=by rw [if_neg (show ¬ (false=true) by decide)] at H;exact H
       clear H;have H:=H1;clear H1;have H':=za1.mk H;clear H
       go_wp2
       go_loopg [5] kj11 (fun kq v5 w'=>∃ (x5_3:Int),v5 = .int .i64 x5_3∧za1 (za7.l1 kq x5_3 a0_0 a0_1 a0_2 a0_3 a0_4 a0_5 a0_6 a0_7 a0_8 a0_9 a0_10 a0_11 l0_12 l0_13 l0_14=some r)∧za1 (kq≤kj11)∧za1 (w'.heap[g_a]?=some (.cells #[.int .i64 a0_0,.int .i64 a0_1,.int .i64 a0_2,.int .i64 a0_3,.int .i64 a0_4,.int .i64 a0_5,.bool a0_6,.string a0_7,.string a0_8,.bool a0_9,.string a0_10,.string a0_11,(.slice A0_12 l0_12.length c0_12),(.slice A0_13 l0_13.length c0_13),(.slice A0_14 l0_14.length c0_14)] 37 (0,0)))∧za1 (Below w.heap.size w w'))
       case atStart=>exact ⟨(0),q5,H',⟨Nat.le_refl _⟩,⟨q1⟩,⟨q3⟩⟩
       case round=>
        clear H';(try clear c1);(try clear c2);(try clear p2 p2);(try clear c3);(try clear c4);(try clear p5 p5);(try clear q5 q5);(try clear hx5);(try clear c6);(try clear c6b0);(try clear p6 p6);(try clear c7);(try clear c7b0);(try clear c9);(try clear c15);(try clear c17);(try clear c18);(try clear c18b0);(try clear c18b1);(try clear c23);(try clear c24);(try clear c24b0);(try clear c24b1);(try clear c34);(try clear c35);(try clear c36);(try clear c41);(try clear c_b0 c_b1 c_b10 c_b11 c_b12 c_b13 c_b14 c_b2 c_b3 c_b4 c_b5 c_b6 c_b7 c_b8 c_b9 f_b0 f_b1 f_b10 f_b11 f_b12 f_b13 f_b14 f_b2 f_b3 f_b4 f_b5 f_b6 f_b7 f_b8 f_b9);(try clear c_c0 c_c1 c_c10 c_c11 c_c12 c_c13 c_c14 c_c2 c_c3 c_c4 c_c5 c_c6 c_c7 c_c8 c_c9 f_c0 f_c1 f_c10 f_c11 f_c12 f_c13 f_c14 f_c2 f_c3 f_c4 f_c5 f_c6 f_c7 f_c8 f_c9);(try clear c_d0 c_d1 c_d10 c_d11 c_d12 c_d13 c_d14 c_d2 c_d3 c_d4 c_d5 c_d6 c_d7 c_d8 c_d9 f_d0 f_d1 f_d10 f_d11 f_d12 f_d13 f_d14 f_d2 f_d3 f_d4 f_d5 f_d6 f_d7 f_d8 f_d9);(try clear c_e0 c_e1 c_e10 c_e11 c_e12 c_e13 c_e14 c_e2 c_e3 c_e4 c_e5 c_e6 c_e7 c_e8 c_e9 f_e0 f_e1 f_e10 f_e11 f_e12 f_e13 f_e14 f_e2 f_e3 f_e4 f_e5 f_e6 f_e7 f_e8 f_e9);(try clear c_f0 c_f1 c_f10 c_f11 c_f12 c_f13 c_f14 c_f2 c_f3 c_f4 c_f5 c_f6 c_f7 c_f8 c_f9 f_f0 f_f1 f_f10 f_f11 f_f12 f_f13 f_f14 f_f2 f_f3 f_f4 f_f5 f_f6 f_f7 f_f8 f_f9);(try clear c_g0 c_g1 c_g10 c_g11 c_g12 c_g13 c_g14 c_g2 c_g3 c_g4 c_g5 c_g6 c_g7 c_g8 c_g9 f_g0 f_g1 f_g10 f_g11 f_g12 f_g13 f_g14 f_g2 f_g3 f_g4 f_g5 f_g6 f_g7 f_g8 f_g9);(try clear c_h0 c_h1 c_h10 c_h11 c_h12 c_h13 c_h14 c_h2 c_h3 c_h4 c_h5 c_h6 c_h7 c_h8 c_h9 f_h0 f_h1 f_h10 f_h11 f_h12 f_h13 f_h14 f_h2 f_h3 f_h4 f_h5 f_h6 f_h7 f_h8 f_h9);(try clear c_i0 c_i1 c_i10 c_i11 c_i12 c_i13 c_i14 c_i2 c_i3 c_i4 c_i5 c_i6 c_i7 c_i8 c_i9 f_i0 f_i1 f_i10 f_i11 f_i12 f_i13 f_i14 f_i2 f_i3 f_i4 f_i5 f_i6 f_i7 f_i8 f_i9);(try clear c_j0 c_j1 c_j10 c_j11 c_j12 c_j13 c_j14 c_j2 c_j3 c_j4 c_j5 c_j6 c_j7 c_j8 c_j9 f_j0 f_j1 f_j10 f_j11 f_j12 f_j13 f_j14 f_j2 f_j3 f_j4 f_j5 f_j6 f_j7 f_j8 f_j9);(try clear c_k0 c_k1 c_k10 c_k11 c_k12 c_k13 c_k14 c_k2 c_k3 c_k4 c_k5 c_k6 c_k7 c_k8 c_k9 f_k0 f_k1 f_k10 f_k11 f_k12 f_k13 f_k14 f_k2 f_k3 f_k4 f_k5 f_k6 f_k7 f_k8 f_k9);(try clear c_l0 c_l1 c_l10 c_l11 c_l12 c_l13 c_l14 c_l2 c_l3 c_l4 c_l5 c_l6 c_l7 c_l8 c_l9 f_l0 f_l1 f_l10 f_l11 f_l12 f_l13 f_l14 f_l2 f_l3 f_l4 f_l5 f_l6 f_l7 f_l8 f_l9);(try clear c_m0 c_m1 c_m10 c_m11 c_m12 c_m13 c_m14 c_m2 c_m3 c_m4 c_m5 c_m6 c_m7 c_m8 c_m9 f_m0 f_m1 f_m10 f_m11 f_m12 f_m13 f_m14 f_m2 f_m3 f_m4 f_m5 f_m6 f_m7 f_m8 f_m9);(try clear c_a0 c_a1 c_a10 c_a11 c_a12 c_a13 c_a14 c_a2 c_a3 c_a4 c_a5 c_a6 c_a7 c_a8 c_a9 f_a0 f_a1 f_a10 f_a11 f_a12 f_a13 f_a14 f_a2 f_a3 f_a4 f_a5 f_a6 f_a7 f_a8 f_a9);(try clear hx502_0);(try clear p502);(try clear q502);obtain ⟨x5_3,rfl,HA,HK3,B_a,HB⟩:=hrel
        cases gk with
        | zero=>exact absurd HA.out (by simp [za7.l1])
        | succ k3=>
         have H:=HA.out;clear HA;simp only [za7.l1] at H
         by_cases c42:x5_3<(l0_12.length:Int)
         ·rw [if_pos c42] at H
          have c42b0:decide (x5_3<(l0_12.length:Int))=true:=decide_eq_true c42;clear c42
          by_cases c43:0≤x5_3
          ·rw [if_pos c43] at H
           have c43b0:decide (0≤x5_3)=true:=decide_eq_true c43;clear c43;replace H:=Option.bind_eq_some_iff.mp H;obtain ⟨t507,A440,H⟩:=H;replace H:(if t507=true then ((zaj.f ((rd_T49 l0_12 x5_3).f1)).bind fun t509=>(if t509=true then (za7.l1 k3 (wrap64 (x5_3+1)) a0_0 a0_1 a0_2 a0_3 a0_4 a0_5 a0_6 a0_7 a0_8 a0_9 a0_10 a0_11 l0_12 l0_13 l0_14) else (some false))) else (some false))=some r:=H;have A44:=za1.mk A440;clear A440
           by_cases c45:t507=true
           ·subst c45
            have H1:((zaj.f ((rd_T49 l0_12 x5_3).f1)).bind fun t509=>(if t509=true then (za7.l1 k3 (wrap64 (x5_3+1)) a0_0 a0_1 a0_2 a0_3 a0_4 a0_5 a0_6 a0_7 a0_8 a0_9 a0_10 a0_11 l0_12 l0_13 l0_14) else (some false)))=some r:=by rw [if_pos rfl] at H;exact H
            clear H;have H:=H1;clear H1;replace H:=Option.bind_eq_some_iff.mp H;obtain ⟨t509,A460,H⟩:=H;replace H:(if t509=true then (za7.l1 k3 (wrap64 (x5_3+1)) a0_0 a0_1 a0_2 a0_3 a0_4 a0_5 a0_6 a0_7 a0_8 a0_9 a0_10 a0_11 l0_12 l0_13 l0_14) else (some false))=some r:=H;have A46:=za1.mk A460;clear A460
            by_cases c47:t509=true
            ·subst c47
             have H1:(za7.l1 k3 (wrap64 (x5_3+1)) a0_0 a0_1 a0_2 a0_3 a0_4 a0_5 a0_6 a0_7 a0_8 a0_9 a0_10 a0_11 l0_12 l0_13 l0_14)=some r:=by rw [if_pos rfl] at H;exact H
             clear H;have H:=H1;clear H1;have H':=za1.mk H;clear H;obtain ⟨c_n0,c_n1,c_n2,c_n3,c_n4,c_n5,c_n6,c_n7,c_n8,c_n9,c_n10,c_n11,c_n12,c_n13,c_n14⟩:=cs15 B_a.out;obtain ⟨f_n0,f_n1,f_n2,f_n3,f_n4,f_n5,f_n6,f_n7,f_n8,f_n9,f_n10,f_n11,f_n12,f_n13,f_n14⟩:=fs15 B_a.out;have p506:0≤(x5_3:Int):=of_decide_eq_true q0;have q506:x5_3<(l0_12.length:Int):=of_decide_eq_true q0;obtain ⟨ad506,e506,hx506_0,hx506_1⟩:=at_T49 HR0_12.out x5_3 p506 q506;cases e506;replace hx506_0:=(HB.out.cell (World.block_lt_of_cell? w _ hx506_0)).trans hx506_0;replace hx506_1:=(HB.out.cell (World.block_lt_of_cell? w _ hx506_1)).trans hx506_1;replace p506:=eq_true p506;replace q506:=eq_true q506
             go_wp2_with (first|((with_reducible refine zan (f:=35) rfl ?_);refine goesL_ (some 71) rfl rfl Tryd.func35 (by kernel_rfl) rfl #[.int .i64 ((rd_T49 l0_12 x5_3).f0)] rfl q4 ?_;(with_reducible refine (zaj.calls ((rd_T49 l0_12 x5_3).f0) true _ A44.out).mono ?_);rintro e w' ⟨rfl,⟨nd,rfl⟩⟩;refine ⟨_,rfl,?_⟩;have p508:0≤(x5_3:Int):=of_decide_eq_true q0;have q508:x5_3<(l0_12.length:Int):=of_decide_eq_true q0;obtain ⟨ad508,e508,hx508_0,hx508_1⟩:=at_T49 HR0_12.out x5_3 p508 q508;obtain rfl:ad506=ad508:=(by injection e508);replace hx508_0:=(HB.out.cell (World.block_lt_of_cell? w _ hx508_0)).trans hx508_0;replace hx508_1:=(HB.out.cell (World.block_lt_of_cell? w _ hx508_1)).trans hx508_1;replace p508:=eq_true p508;replace q508:=eq_true q508)|(go_at_call 35;(with_reducible refine (zaj.calls ((rd_T49 l0_12 x5_3).f1) true _ A46.out).mono ?_);rintro e w' ⟨rfl,⟨nd,rfl⟩⟩))
             go_roundg k3
             case measure=>have:=HK1.out;have:=HJ11.out;have:=HK3.out;omega
             case rel=>exact ⟨(wrap64 (x5_3+1)),q5,H',⟨by have:=HK1.out;have:=HJ11.out;have:=HK3.out;omega⟩,⟨q1⟩,⟨q3⟩⟩
            ·replace c47:=Bool.eq_false_iff.mpr c47
             subst c47
             have H1:(some false)=some r:=by rw [if_neg (show ¬ (false=true) by decide)] at H;exact H
             clear H;have H:=H1;clear H1;obtain rfl:=Option.some.inj H;obtain ⟨c_o0,c_o1,c_o2,c_o3,c_o4,c_o5,c_o6,c_o7,c_o8,c_o9,c_o10,c_o11,c_o12,c_o13,c_o14⟩:=cs15 B_a.out;obtain ⟨f_o0,f_o1,f_o2,f_o3,f_o4,f_o5,f_o6,f_o7,f_o8,f_o9,f_o10,f_o11,f_o12,f_o13,f_o14⟩:=fs15 B_a.out;have p506:0≤(x5_3:Int):=of_decide_eq_true q0;have q506:x5_3<(l0_12.length:Int):=of_decide_eq_true q0;obtain ⟨ad506,e506,hx506_0,hx506_1⟩:=at_T49 HR0_12.out x5_3 p506 q506;cases e506;replace hx506_0:=(HB.out.cell (World.block_lt_of_cell? w _ hx506_0)).trans hx506_0;replace hx506_1:=(HB.out.cell (World.block_lt_of_cell? w _ hx506_1)).trans hx506_1;replace p506:=eq_true p506;replace q506:=eq_true q506
             go_wp2_with (first|((with_reducible refine zan (f:=35) rfl ?_);refine goesL_ (some 71) rfl rfl Tryd.func35 (by kernel_rfl) rfl #[.int .i64 ((rd_T49 l0_12 x5_3).f0)] rfl q4 ?_;(with_reducible refine (zaj.calls ((rd_T49 l0_12 x5_3).f0) true _ A44.out).mono ?_);rintro e w' ⟨rfl,⟨nd,rfl⟩⟩;refine ⟨_,rfl,?_⟩;have p508:0≤(x5_3:Int):=of_decide_eq_true q0;have q508:x5_3<(l0_12.length:Int):=of_decide_eq_true q0;obtain ⟨ad508,e508,hx508_0,hx508_1⟩:=at_T49 HR0_12.out x5_3 p508 q508;obtain rfl:ad506=ad508:=(by injection e508);replace hx508_0:=(HB.out.cell (World.block_lt_of_cell? w _ hx508_0)).trans hx508_0;replace hx508_1:=(HB.out.cell (World.block_lt_of_cell? w _ hx508_1)).trans hx508_1;replace p508:=eq_true p508;replace q508:=eq_true q508)|(go_at_call 35;(with_reducible refine (zaj.calls ((rd_T49 l0_12 x5_3).f1) false _ A46.out).mono ?_);rintro e w' ⟨rfl,⟨nd,rfl⟩⟩))
             go_ret;exact ⟨q8,q3⟩
           ·replace c45:=Bool.eq_false_iff.mpr c45
            subst c45
            have H1:(some false)=some r:=by rw [if_neg (show ¬ (false=true) by decide)] at H;exact H
            clear H;have H:=H1;clear H1;obtain rfl:=Option.some.inj H;obtain ⟨c_p0,c_p1,c_p2,c_p3,c_p4,c_p5,c_p6,c_p7,c_p8,c_p9,c_p10,c_p11,c_p12,c_p13,c_p14⟩:=cs15 B_a.out;obtain ⟨f_p0,f_p1,f_p2,f_p3,f_p4,f_p5,f_p6,f_p7,f_p8,f_p9,f_p10,f_p11,f_p12,f_p13,f_p14⟩:=fs15 B_a.out;have p506:0≤(x5_3:Int):=of_decide_eq_true q0;have q506:x5_3<(l0_12.length:Int):=of_decide_eq_true q0;obtain ⟨ad506,e506,hx506_0,hx506_1⟩:=at_T49 HR0_12.out x5_3 p506 q506;cases e506;replace hx506_0:=(HB.out.cell (World.block_lt_of_cell? w _ hx506_0)).trans hx506_0;replace hx506_1:=(HB.out.cell (World.block_lt_of_cell? w _ hx506_1)).trans hx506_1;replace p506:=eq_true p506;replace q506:=eq_true q506
            go_wp2_with (first|((with_reducible refine zan (f:=35) rfl ?_);refine goesL_ (some 71) rfl rfl Tryd.func35 (by kernel_rfl) rfl #[.int .i64 ((rd_T49 l0_12 x5_3).f0)] rfl q4 ?_;(with_reducible refine (zaj.calls ((rd_T49 l0_12 x5_3).f0) false _ A44.out).mono ?_);rintro e w' ⟨rfl,⟨nd,rfl⟩⟩;refine ⟨_,rfl,?_⟩))
            go_ret;exact ⟨q8,q3⟩
          ·rw [if_neg c43] at H
           exact absurd H (by simp)
         ·rw [if_neg c42] at H
          have c42b0:decide (x5_3<(l0_12.length:Int))=false:=decide_eq_false c42;clear c42;have H':=za1.mk H;clear H;obtain ⟨c_q0,c_q1,c_q2,c_q3,c_q4,c_q5,c_q6,c_q7,c_q8,c_q9,c_q10,c_q11,c_q12,c_q13,c_q14⟩:=cs15 B_a.out;obtain ⟨f_q0,f_q1,f_q2,f_q3,f_q4,f_q5,f_q6,f_q7,f_q8,f_q9,f_q10,f_q11,f_q12,f_q13,f_q14⟩:=fs15 B_a.out
          go_wp2
          go_loopg [6] k3 (fun kq v6 w'=>∃ (x6_4:Int),v6 = .int .i64 x6_4∧za1 (za7.l2 kq x6_4 a0_0 a0_1 a0_2 a0_3 a0_4 a0_5 a0_6 a0_7 a0_8 a0_9 a0_10 a0_11 l0_12 l0_13 l0_14=some r)∧za1 (kq≤k3)∧za1 (w'.heap[g_a]?=some (.cells #[.int .i64 a0_0,.int .i64 a0_1,.int .i64 a0_2,.int .i64 a0_3,.int .i64 a0_4,.int .i64 a0_5,.bool a0_6,.string a0_7,.string a0_8,.bool a0_9,.string a0_10,.string a0_11,(.slice A0_12 l0_12.length c0_12),(.slice A0_13 l0_13.length c0_13),(.slice A0_14 l0_14.length c0_14)] 37 (0,0)))∧za1 (Below w.heap.size w w'))
          case atStart=>exact ⟨(0),q5,H',⟨Nat.le_refl _⟩,⟨q1⟩,⟨q3⟩⟩
          case round=>
           clear H';(try clear p2 p2);(try clear c3);(try clear c4);(try clear p5 p5);(try clear q5 q5);(try clear hx5);(try clear p6 p6);(try clear c35);(try clear c42);(try clear c42b0);(try clear c43);(try clear c43b0);(try clear c45);(try clear c47);(try clear p50);(try clear q50);(try clear hx50);(try clear c_c1 c_c10 c_c11 c_c12 c_c13 c_c14 c_c2 c_c3 c_c4 c_c5 c_c6 c_c7 c_c8 c_c9 f_c0 f_c1 f_c10 f_c11 f_c12 f_c13 f_c14 f_c2 f_c3 f_c4 f_c5 f_c6 f_c7 f_c8 f_c9);(try clear c_d0 c_d1 c_d10 c_d11 c_d12 c_d13 c_d14 c_d2 c_d3 c_d4 c_d5 c_d6 c_d7 c_d8 c_d9 f_d0 f_d1 f_d10 f_d11 f_d12 f_d13 f_d14 f_d2 f_d3 f_d4 f_d5 f_d6 f_d7 f_d8 f_d9);(try clear c_e0 c_e1 c_e10 c_e11 c_e12 c_e13 c_e14 c_e2 c_e3 c_e4 c_e5 c_e6 c_e7 c_e8 c_e9 f_e0 f_e1 f_e10 f_e11 f_e12 f_e13 f_e14 f_e2 f_e3 f_e4 f_e5 f_e6 f_e7 f_e8 f_e9);(try clear c_f0 c_f1 c_f10 c_f11 c_f12 c_f13 c_f14 c_f2 c_f3 c_f4 c_f5 c_f6 c_f7 c_f8 c_f9 f_f0 f_f1 f_f10 f_f11 f_f12 f_f13 f_f14 f_f2 f_f3 f_f4 f_f5 f_f6 f_f7 f_f8 f_f9);(try clear c_g0 c_g1 c_g10 c_g11 c_g12 c_g13 c_g14 c_g2 c_g3 c_g4 c_g5 c_g6 c_g7 c_g8 c_g9 f_g0 f_g1 f_g10 f_g11 f_g12 f_g13 f_g14 f_g2 f_g3 f_g4 f_g5 f_g6 f_g7 f_g8 f_g9);(try clear c_h0 c_h1 c_h10 c_h11 c_h12 c_h13 c_h14 c_h2 c_h3 c_h4 c_h5 c_h6 c_h7 c_h8 c_h9 f_h0 f_h1 f_h10 f_h11 f_h12 f_h13 f_h14 f_h2 f_h3 f_h4 f_h5 f_h6 f_h7 f_h8 f_h9);(try clear c_i0 c_i1 c_i10 c_i11 c_i12 c_i13 c_i14 c_i2 c_i3 c_i4 c_i5 c_i6 c_i7 c_i8 c_i9 f_i0 f_i1 f_i10 f_i11 f_i12 f_i13 f_i14 f_i2 f_i3 f_i4 f_i5 f_i6 f_i7 f_i8 f_i9);(try clear c_j0 c_j1 c_j10 c_j11 c_j12 c_j13 c_j14 c_j2 c_j3 c_j4 c_j5 c_j6 c_j7 c_j8 c_j9 f_j0 f_j1 f_j10 f_j11 f_j12 f_j13 f_j14 f_j2 f_j3 f_j4 f_j5 f_j6 f_j7 f_j8 f_j9);(try clear c_k0 c_k1 c_k10 c_k11 c_k12 c_k13 c_k14 c_k2 c_k3 c_k4 c_k5 c_k6 c_k7 c_k8 c_k9 f_k0 f_k1 f_k10 f_k11 f_k12 f_k13 f_k14 f_k2 f_k3 f_k4 f_k5 f_k6 f_k7 f_k8 f_k9);(try clear c_l0 c_l1 c_l10 c_l11 c_l12 c_l13 c_l14 c_l2 c_l3 c_l4 c_l5 c_l6 c_l7 c_l8 c_l9 f_l0 f_l1 f_l10 f_l11 f_l12 f_l13 f_l14 f_l2 f_l3 f_l4 f_l5 f_l6 f_l7 f_l8 f_l9);(try clear c_m0 c_m1 c_m10 c_m11 c_m12 c_m13 c_m14 c_m2 c_m3 c_m4 c_m5 c_m6 c_m7 c_m8 c_m9 f_m0 f_m1 f_m10 f_m11 f_m12 f_m13 f_m14 f_m2 f_m3 f_m4 f_m5 f_m6 f_m7 f_m8 f_m9);(try clear c_n0 c_n1 c_n10 c_n11 c_n12 c_n13 c_n14 c_n2 c_n3 c_n4 c_n5 c_n6 c_n7 c_n8 c_n9 f_n0 f_n1 f_n10 f_n11 f_n12 f_n13 f_n14 f_n2 f_n3 f_n4 f_n5 f_n6 f_n7 f_n8 f_n9);(try clear c_o0 c_o1 c_o10 c_o11 c_o12 c_o13 c_o14 c_o2 c_o3 c_o4 c_o5 c_o6 c_o7 c_o8 c_o9 f_o0 f_o1 f_o10 f_o11 f_o12 f_o13 f_o14 f_o2 f_o3 f_o4 f_o5 f_o6 f_o7 f_o8 f_o9);(try clear c_a0 c_a1 c_a10 c_a11 c_a12 c_a13 c_a14 c_a2 c_a3 c_a4 c_a5 c_a6 c_a7 c_a8 c_a9 f_a0 f_a1 f_a10 f_a11 f_a12 f_a13 f_a14 f_a2 f_a3 f_a4 f_a5 f_a6 f_a7 f_a8 f_a9);(try clear c_p0 c_p1 c_p10 c_p11 c_p12 c_p13 c_p14 c_p2 c_p3 c_p4 c_p5 c_p6 c_p7 c_p8 c_p9 f_p0 f_p1 f_p10 f_p11 f_p12 f_p13 f_p14 f_p2 f_p3 f_p4 f_p5 f_p6 f_p7 f_p8 f_p9);(try clear c_q0 c_q1 c_q10 c_q11 c_q12 c_q13 c_q14 c_q2 c_q3 c_q4 c_q5 c_q6 c_q7 c_q8 c_q9 f_q0 f_q1 f_q10 f_q11 f_q12 f_q13 f_q14 f_q2 f_q3 f_q4 f_q5 f_q6 f_q7 f_q8 f_q9);(try clear f_b0 f_b1 f_b10 f_b11 f_b12 f_b13 f_b14 f_b2 f_b3 f_b4 f_b5 f_b6 f_b7 f_b8 f_b9);(try clear hx502_0);(try clear hx506_0);(try clear hx506_1);(try clear hx508_0);(try clear hx508_1);(try clear p502);(try clear p506);(try clear p508);(try clear q502);(try clear q506);(try clear q508);obtain ⟨x6_4,rfl,HA,HK4,B_a,HB⟩:=hrel
           cases gk with
           | zero=>exact absurd HA.out (by simp [za7.l2])
           | succ k4=>
            have H:=HA.out;clear HA;simp only [za7.l2] at H
            by_cases c52:x6_4<(l0_13.length:Int)
            ·rw [if_pos c52] at H
             have c52b0:decide (x6_4<(l0_13.length:Int))=true:=decide_eq_true c52;clear c52
             by_cases c53:0≤x6_4
             ·rw [if_pos c53] at H
              have c53b0:decide (0≤x6_4)=true:=decide_eq_true c53;clear c53;replace H:=Option.bind_eq_some_iff.mp H;obtain ⟨t511,A540,H⟩:=H;replace H:(if t511=true then ((zaj.f ((rd_T51 l0_13 x6_4).f1)).bind fun t513=>(if t513=true then (za7.l2 k4 (wrap64 (x6_4+1)) a0_0 a0_1 a0_2 a0_3 a0_4 a0_5 a0_6 a0_7 a0_8 a0_9 a0_10 a0_11 l0_12 l0_13 l0_14) else (some false))) else (some false))=some r:=H;have A54:=za1.mk A540;clear A540
              by_cases c55:t511=true
              ·subst c55
               have H1:((zaj.f ((rd_T51 l0_13 x6_4).f1)).bind fun t513=>(if t513=true then (za7.l2 k4 (wrap64 (x6_4+1)) a0_0 a0_1 a0_2 a0_3 a0_4 a0_5 a0_6 a0_7 a0_8 a0_9 a0_10 a0_11 l0_12 l0_13 l0_14) else (some false)))=some r:=by rw [if_pos rfl] at H;exact H
               clear H;have H:=H1;clear H1;replace H:=Option.bind_eq_some_iff.mp H;obtain ⟨t513,A560,H⟩:=H;replace H:(if t513=true then (za7.l2 k4 (wrap64 (x6_4+1)) a0_0 a0_1 a0_2 a0_3 a0_4 a0_5 a0_6 a0_7 a0_8 a0_9 a0_10 a0_11 l0_12 l0_13 l0_14) else (some false))=some r:=H;have A56:=za1.mk A560;clear A560
               by_cases c57:t513=true
               ·subst c57
                have H1:(za7.l2 k4 (wrap64 (x6_4+1)) a0_0 a0_1 a0_2 a0_3 a0_4 a0_5 a0_6 a0_7 a0_8 a0_9 a0_10 a0_11 l0_12 l0_13 l0_14)=some r:=by rw [if_pos rfl] at H;exact H
                clear H;have H:=H1;clear H1;have H':=za1.mk H;clear H;obtain ⟨c_r0,c_r1,c_r2,c_r3,c_r4,c_r5,c_r6,c_r7,c_r8,c_r9,c_r10,c_r11,c_r12,c_r13,c_r14⟩:=cs15 B_a.out;obtain ⟨f_r0,f_r1,f_r2,f_r3,f_r4,f_r5,f_r6,f_r7,f_r8,f_r9,f_r10,f_r11,f_r12,f_r13,f_r14⟩:=fs15 B_a.out;have p510:0≤(x6_4:Int):=of_decide_eq_true q0;have q510:x6_4<(l0_13.length:Int):=of_decide_eq_true q0;obtain ⟨ad510,e510,hx510_0,hx510_1,hx510_2,hx510_3⟩:=at_T51 HR0_13.out x6_4 p510 q510;cases e510;replace hx510_0:=(HB.out.cell (World.block_lt_of_cell? w _ hx510_0)).trans hx510_0;replace hx510_1:=(HB.out.cell (World.block_lt_of_cell? w _ hx510_1)).trans hx510_1;replace hx510_2:=(HB.out.cell (World.block_lt_of_cell? w _ hx510_2)).trans hx510_2;replace hx510_3:=(HB.out.cell (World.block_lt_of_cell? w _ hx510_3)).trans hx510_3;replace p510:=eq_true p510;replace q510:=eq_true q510
                go_wp2_with (first|((with_reducible refine zan (f:=36) rfl ?_);refine goesL_ (some 99) rfl rfl Tryd.func36 (by kernel_rfl) rfl #[.agg #[.bool ((rd_T51 l0_13 x6_4).f0.f0),.string ((rd_T51 l0_13 x6_4).f0.f1),.string ((rd_T51 l0_13 x6_4).f0.f2)]] rfl q4 ?_;(with_reducible refine (zac.calls k4 ((rd_T51 l0_13 x6_4).f0.f0) ((rd_T51 l0_13 x6_4).f0.f1) ((rd_T51 l0_13 x6_4).f0.f2) true _ A54.out).mono ?_);rintro e w59 ⟨rfl,hb⟩;refine ⟨_,rfl,?_⟩;replace B_a:=am (zaf q1 hb);replace HB:=am (zab q3 hb);(try clear hb);(try clear hb2);(try clear hk);(try clear hi);obtain ⟨c_s0,c_s1,c_s2,c_s3,c_s4,c_s5,c_s6,c_s7,c_s8,c_s9,c_s10,c_s11,c_s12,c_s13,c_s14⟩:=cs15 B_a.out;obtain ⟨f_s0,f_s1,f_s2,f_s3,f_s4,f_s5,f_s6,f_s7,f_s8,f_s9,f_s10,f_s11,f_s12,f_s13,f_s14⟩:=fs15 B_a.out;have p512:0≤(x6_4:Int):=of_decide_eq_true q0;have q512:x6_4<(l0_13.length:Int):=of_decide_eq_true q0;obtain ⟨ad512,e512,hx512_0,hx512_1,hx512_2,hx512_3⟩:=at_T51 HR0_13.out x6_4 p512 q512;obtain rfl:ad510=ad512:=(by injection e512);replace hx512_0:=(HB.out.cell (World.block_lt_of_cell? w _ hx512_0)).trans hx512_0;replace hx512_1:=(HB.out.cell (World.block_lt_of_cell? w _ hx512_1)).trans hx512_1;replace hx512_2:=(HB.out.cell (World.block_lt_of_cell? w _ hx512_2)).trans hx512_2;replace hx512_3:=(HB.out.cell (World.block_lt_of_cell? w _ hx512_3)).trans hx512_3;replace p512:=eq_true p512;replace q512:=eq_true q512)|(go_at_call 35;(with_reducible refine (zaj.calls ((rd_T51 l0_13 x6_4).f1) true _ A56.out).mono ?_);rintro e w' ⟨rfl,⟨nd,rfl⟩⟩))
                go_roundg k4
                case measure=>have:=HK1.out;have:=HJ11.out;have:=HK3.out;have:=HK4.out;omega
                case rel=>exact ⟨(wrap64 (x6_4+1)),q5,H',⟨by have:=HK1.out;have:=HJ11.out;have:=HK3.out;have:=HK4.out;omega⟩,⟨q1⟩,⟨q3⟩⟩
               ·replace c57:=Bool.eq_false_iff.mpr c57
                subst c57
                have H1:(some false)=some r:=by rw [if_neg (show ¬ (false=true) by decide)] at H;exact H
                clear H;have H:=H1;clear H1;obtain rfl:=Option.some.inj H;obtain ⟨c_t0,c_t1,c_t2,c_t3,c_t4,c_t5,c_t6,c_t7,c_t8,c_t9,c_t10,c_t11,c_t12,c_t13,c_t14⟩:=cs15 B_a.out;obtain ⟨f_t0,f_t1,f_t2,f_t3,f_t4,f_t5,f_t6,f_t7,f_t8,f_t9,f_t10,f_t11,f_t12,f_t13,f_t14⟩:=fs15 B_a.out;have p510:0≤(x6_4:Int):=of_decide_eq_true q0;have q510:x6_4<(l0_13.length:Int):=of_decide_eq_true q0;obtain ⟨ad510,e510,hx510_0,hx510_1,hx510_2,hx510_3⟩:=at_T51 HR0_13.out x6_4 p510 q510;cases e510;replace hx510_0:=(HB.out.cell (World.block_lt_of_cell? w _ hx510_0)).trans hx510_0;replace hx510_1:=(HB.out.cell (World.block_lt_of_cell? w _ hx510_1)).trans hx510_1;replace hx510_2:=(HB.out.cell (World.block_lt_of_cell? w _ hx510_2)).trans hx510_2;replace hx510_3:=(HB.out.cell (World.block_lt_of_cell? w _ hx510_3)).trans hx510_3;replace p510:=eq_true p510;replace q510:=eq_true q510
                go_wp2_with (first|((with_reducible refine zan (f:=36) rfl ?_);refine goesL_ (some 99) rfl rfl Tryd.func36 (by kernel_rfl) rfl #[.agg #[.bool ((rd_T51 l0_13 x6_4).f0.f0),.string ((rd_T51 l0_13 x6_4).f0.f1),.string ((rd_T51 l0_13 x6_4).f0.f2)]] rfl q4 ?_;(with_reducible refine (zac.calls k4 ((rd_T51 l0_13 x6_4).f0.f0) ((rd_T51 l0_13 x6_4).f0.f1) ((rd_T51 l0_13 x6_4).f0.f2) true _ A54.out).mono ?_);rintro e w62 ⟨rfl,hb⟩;refine ⟨_,rfl,?_⟩;replace B_a:=am (zaf q1 hb);replace HB:=am (zab q3 hb);(try clear hb);(try clear hb2);(try clear hk);(try clear hi);obtain ⟨c_u0,c_u1,c_u2,c_u3,c_u4,c_u5,c_u6,c_u7,c_u8,c_u9,c_u10,c_u11,c_u12,c_u13,c_u14⟩:=cs15 B_a.out;obtain ⟨f_u0,f_u1,f_u2,f_u3,f_u4,f_u5,f_u6,f_u7,f_u8,f_u9,f_u10,f_u11,f_u12,f_u13,f_u14⟩:=fs15 B_a.out;have p512:0≤(x6_4:Int):=of_decide_eq_true q0;have q512:x6_4<(l0_13.length:Int):=of_decide_eq_true q0;obtain ⟨ad512,e512,hx512_0,hx512_1,hx512_2,hx512_3⟩:=at_T51 HR0_13.out x6_4 p512 q512;obtain rfl:ad510=ad512:=(by injection e512);replace hx512_0:=(HB.out.cell (World.block_lt_of_cell? w _ hx512_0)).trans hx512_0;replace hx512_1:=(HB.out.cell (World.block_lt_of_cell? w _ hx512_1)).trans hx512_1;replace hx512_2:=(HB.out.cell (World.block_lt_of_cell? w _ hx512_2)).trans hx512_2;replace hx512_3:=(HB.out.cell (World.block_lt_of_cell? w _ hx512_3)).trans hx512_3;replace p512:=eq_true p512;replace q512:=eq_true q512)|(go_at_call 35;(with_reducible refine (zaj.calls ((rd_T51 l0_13 x6_4).f1) false _ A56.out).mono ?_);rintro e w' ⟨rfl,⟨nd,rfl⟩⟩))
                go_ret;exact ⟨q8,q3⟩
              ·replace c55:=Bool.eq_false_iff.mpr c55
               subst c55
               have H1:(some false)=some r:=by rw [if_neg (show ¬ (false=true) by decide)] at H;exact H
               clear H;have H:=H1;clear H1;obtain rfl:=Option.some.inj H;obtain ⟨c_v0,c_v1,c_v2,c_v3,c_v4,c_v5,c_v6,c_v7,c_v8,c_v9,c_v10,c_v11,c_v12,c_v13,c_v14⟩:=cs15 B_a.out;obtain ⟨f_v0,f_v1,f_v2,f_v3,f_v4,f_v5,f_v6,f_v7,f_v8,f_v9,f_v10,f_v11,f_v12,f_v13,f_v14⟩:=fs15 B_a.out;have p510:0≤(x6_4:Int):=of_decide_eq_true q0;have q510:x6_4<(l0_13.length:Int):=of_decide_eq_true q0;obtain ⟨ad510,e510,hx510_0,hx510_1,hx510_2,hx510_3⟩:=at_T51 HR0_13.out x6_4 p510 q510;cases e510;replace hx510_0:=(HB.out.cell (World.block_lt_of_cell? w _ hx510_0)).trans hx510_0;replace hx510_1:=(HB.out.cell (World.block_lt_of_cell? w _ hx510_1)).trans hx510_1;replace hx510_2:=(HB.out.cell (World.block_lt_of_cell? w _ hx510_2)).trans hx510_2;replace hx510_3:=(HB.out.cell (World.block_lt_of_cell? w _ hx510_3)).trans hx510_3;replace p510:=eq_true p510;replace q510:=eq_true q510
               go_wp2_with (first|((with_reducible refine zan (f:=36) rfl ?_);refine goesL_ (some 99) rfl rfl Tryd.func36 (by kernel_rfl) rfl #[.agg #[.bool ((rd_T51 l0_13 x6_4).f0.f0),.string ((rd_T51 l0_13 x6_4).f0.f1),.string ((rd_T51 l0_13 x6_4).f0.f2)]] rfl q4 ?_;(with_reducible refine (zac.calls k4 ((rd_T51 l0_13 x6_4).f0.f0) ((rd_T51 l0_13 x6_4).f0.f1) ((rd_T51 l0_13 x6_4).f0.f2) false _ A54.out).mono ?_);rintro e w65 ⟨rfl,hb⟩;refine ⟨_,rfl,?_⟩;replace B_a:=am (zaf q1 hb);replace HB:=am (zab q3 hb);(try clear hb);(try clear hb2);(try clear hk);(try clear hi)))
               go_ret;exact ⟨q8,q3⟩
             ·rw [if_neg c53] at H
              exact absurd H (by simp)
            ·rw [if_neg c52] at H
             have c52b0:decide (x6_4<(l0_13.length:Int))=false:=decide_eq_false c52;clear c52;have H':=za1.mk H;clear H;obtain ⟨c_w0,c_w1,c_w2,c_w3,c_w4,c_w5,c_w6,c_w7,c_w8,c_w9,c_w10,c_w11,c_w12,c_w13,c_w14⟩:=cs15 B_a.out;obtain ⟨f_w0,f_w1,f_w2,f_w3,f_w4,f_w5,f_w6,f_w7,f_w8,f_w9,f_w10,f_w11,f_w12,f_w13,f_w14⟩:=fs15 B_a.out
             go_wp2
             go_loopg [7] k4 (fun kq v7 w'=>∃ (x7_5:Int),v7 = .int .i64 x7_5∧za1 (za7.l3 kq x7_5 a0_0 a0_1 a0_2 a0_3 a0_4 a0_5 a0_6 a0_7 a0_8 a0_9 a0_10 a0_11 l0_12 l0_13 l0_14=some r)∧za1 (kq≤k4)∧za1 (w'.heap[g_a]?=some (.cells #[.int .i64 a0_0,.int .i64 a0_1,.int .i64 a0_2,.int .i64 a0_3,.int .i64 a0_4,.int .i64 a0_5,.bool a0_6,.string a0_7,.string a0_8,.bool a0_9,.string a0_10,.string a0_11,(.slice A0_12 l0_12.length c0_12),(.slice A0_13 l0_13.length c0_13),(.slice A0_14 l0_14.length c0_14)] 37 (0,0)))∧za1 (Below w.heap.size w w'))
             case atStart=>exact ⟨(0),q5,H',⟨Nat.le_refl _⟩,⟨q1⟩,⟨q3⟩⟩
             case round=>
              clear H';(try clear p2 p2);(try clear c3);(try clear c5);(try clear p5 p5);(try clear q5 q5);(try clear hx5);(try clear p6 p6);(try clear c36);(try clear p50);(try clear q50);(try clear hx50);(try clear p51);(try clear q51);(try clear hx51);(try clear c52);(try clear c52b0);(try clear c53);(try clear c53b0);(try clear c55);(try clear c57);(try clear p64);(try clear c_l0 c_l1 c_l10 c_l11 c_l12 c_l13 c_l14 c_l2 c_l3 c_l4 c_l5 c_l6 c_l7 c_l8 c_l9 f_l0 f_l1 f_l10 f_l11 f_l12 f_l13 f_l14 f_l2 f_l3 f_l4 f_l5 f_l6 f_l7 f_l8 f_l9);(try clear c_m0 c_m1 c_m10 c_m11 c_m12 c_m13 c_m14 c_m2 c_m3 c_m4 c_m5 c_m6 c_m7 c_m8 c_m9 f_m0 f_m1 f_m10 f_m11 f_m12 f_m13 f_m14 f_m2 f_m3 f_m4 f_m5 f_m6 f_m7 f_m8 f_m9);(try clear c_n0 c_n1 c_n10 c_n11 c_n12 c_n13 c_n14 c_n2 c_n3 c_n4 c_n5 c_n6 c_n7 c_n8 c_n9 f_n0 f_n1 f_n10 f_n11 f_n12 f_n13 f_n14 f_n2 f_n3 f_n4 f_n5 f_n6 f_n7 f_n8 f_n9);(try clear c_o0 c_o1 c_o10 c_o11 c_o12 c_o13 c_o14 c_o2 c_o3 c_o4 c_o5 c_o6 c_o7 c_o8 c_o9 f_o0 f_o1 f_o10 f_o11 f_o12 f_o13 f_o14 f_o2 f_o3 f_o4 f_o5 f_o6 f_o7 f_o8 f_o9);(try clear c_a0 c_a1 c_a10 c_a11 c_a12 c_a13 c_a14 c_a2 c_a3 c_a4 c_a5 c_a6 c_a7 c_a8 c_a9 f_a0 f_a1 f_a10 f_a11 f_a12 f_a13 f_a14 f_a2 f_a3 f_a4 f_a5 f_a6 f_a7 f_a8 f_a9);(try clear c_p0 c_p1 c_p10 c_p11 c_p12 c_p13 c_p14 c_p2 c_p3 c_p4 c_p5 c_p6 c_p7 c_p8 c_p9 f_p0 f_p1 f_p10 f_p11 f_p12 f_p13 f_p14 f_p2 f_p3 f_p4 f_p5 f_p6 f_p7 f_p8 f_p9);(try clear c_q0 c_q1 c_q10 c_q11 c_q12 c_q13 c_q14 c_q2 c_q3 c_q4 c_q5 c_q6 c_q7 c_q8 c_q9 f_q0 f_q1 f_q10 f_q11 f_q12 f_q13 f_q14 f_q2 f_q3 f_q4 f_q5 f_q6 f_q7 f_q8 f_q9);(try clear c_r0 c_r1 c_r10 c_r11 c_r12 c_r13 c_r14 c_r2 c_r3 c_r4 c_r5 c_r6 c_r7 c_r8 c_r9 f_r0 f_r1 f_r10 f_r11 f_r12 f_r13 f_r14 f_r2 f_r3 f_r4 f_r5 f_r6 f_r7 f_r8 f_r9);(try clear c_s0 c_s1 c_s10 c_s11 c_s12 c_s13 c_s14 c_s2 c_s3 c_s4 c_s5 c_s6 c_s7 c_s8 c_s9 f_s0 f_s1 f_s10 f_s11 f_s12 f_s13 f_s14 f_s2 f_s3 f_s4 f_s5 f_s6 f_s7 f_s8 f_s9);(try clear c_t0 c_t1 c_t10 c_t11 c_t12 c_t13 c_t14 c_t2 c_t3 c_t4 c_t5 c_t6 c_t7 c_t8 c_t9 f_t0 f_t1 f_t10 f_t11 f_t12 f_t13 f_t14 f_t2 f_t3 f_t4 f_t5 f_t6 f_t7 f_t8 f_t9);(try clear c_u0 c_u1 c_u10 c_u11 c_u12 c_u13 c_u14 c_u2 c_u3 c_u4 c_u5 c_u6 c_u7 c_u8 c_u9 f_u0 f_u1 f_u10 f_u11 f_u12 f_u13 f_u14 f_u2 f_u3 f_u4 f_u5 f_u6 f_u7 f_u8 f_u9);(try clear c_v0 c_v1 c_v10 c_v11 c_v12 c_v13 c_v14 c_v2 c_v3 c_v4 c_v5 c_v6 c_v7 c_v8 c_v9 f_v0 f_v1 f_v10 f_v11 f_v12 f_v13 f_v14 f_v2 f_v3 f_v4 f_v5 f_v6 f_v7 f_v8 f_v9);(try clear c_w0 c_w1 c_w10 c_w11 c_w12 c_w13 c_w14 c_w2 c_w3 c_w4 c_w5 c_w6 c_w7 c_w8 c_w9 f_w0 f_w1 f_w10 f_w11 f_w12 f_w13 f_w14 f_w2 f_w3 f_w4 f_w5 f_w6 f_w7 f_w8 f_w9);(try clear f_b0 f_b1 f_b10 f_b11 f_b12 f_b13 f_b14 f_b2 f_b3 f_b4 f_b5 f_b6 f_b7 f_b8 f_b9);(try clear f_c0 f_c1 f_c10 f_c11 f_c12 f_c13 f_c14 f_c2 f_c3 f_c4 f_c5 f_c6 f_c7 f_c8 f_c9);(try clear f_d0 f_d1 f_d10 f_d11 f_d12 f_d13 f_d14 f_d2 f_d3 f_d4 f_d5 f_d6 f_d7 f_d8 f_d9);(try clear f_e0 f_e1 f_e10 f_e11 f_e12 f_e13 f_e14 f_e2 f_e3 f_e4 f_e5 f_e6 f_e7 f_e8 f_e9);(try clear f_f0 f_f1 f_f10 f_f11 f_f12 f_f13 f_f14 f_f2 f_f3 f_f4 f_f5 f_f6 f_f7 f_f8 f_f9);(try clear f_g0 f_g1 f_g10 f_g11 f_g12 f_g13 f_g14 f_g2 f_g3 f_g4 f_g5 f_g6 f_g7 f_g8 f_g9);(try clear f_h0 f_h1 f_h10 f_h11 f_h12 f_h13 f_h14 f_h2 f_h3 f_h4 f_h5 f_h6 f_h7 f_h8 f_h9);(try clear f_i0 f_i1 f_i10 f_i11 f_i12 f_i13 f_i14 f_i2 f_i3 f_i4 f_i5 f_i6 f_i7 f_i8 f_i9);(try clear f_j0 f_j1 f_j10 f_j11 f_j12 f_j13 f_j14 f_j2 f_j3 f_j4 f_j5 f_j6 f_j7 f_j8 f_j9);(try clear f_k0 f_k1 f_k10 f_k11 f_k12 f_k13 f_k14 f_k2 f_k3 f_k4 f_k5 f_k6 f_k7 f_k8 f_k9);(try clear hx502_0);(try clear hx506_0);(try clear hx506_1);(try clear hx508_0);(try clear hx508_1);(try clear hx510_0);(try clear hx510_1);(try clear hx510_2);(try clear hx510_3);(try clear hx512_0);(try clear hx512_1);(try clear hx512_2);(try clear hx512_3);(try clear p502);(try clear p506);(try clear p508);(try clear p510);(try clear p512);(try clear q502);(try clear q506);(try clear q508);(try clear q510);(try clear q512);obtain ⟨x7_5,rfl,HA,HK5,B_a,HB⟩:=hrel
              cases gk with
              | zero=>exact absurd HA.out (by simp [za7.l3])
              | succ k5=>
               have H:=HA.out;clear HA;simp only [za7.l3] at H
               by_cases c67:x7_5<(l0_14.length:Int)
               ·rw [if_pos c67] at H
                have c67b0:decide (x7_5<(l0_14.length:Int))=true:=decide_eq_true c67;clear c67
                by_cases c68:0≤x7_5
                ·rw [if_pos c68] at H
                 have c68b0:decide (0≤x7_5)=true:=decide_eq_true c68;clear c68;replace H:=Option.bind_eq_some_iff.mp H;obtain ⟨t519,A690,H⟩:=H;replace H:(if t519=true then ((zaj.f ((rd_T55 l0_14 x7_5).f0.f1.f0)).bind fun t520=>(if t520=true then ((zaj.f ((rd_T55 l0_14 x7_5).f0.f1.f1)).bind fun t521=>(if t521=true then ((zaj.f ((rd_T55 l0_14 x7_5).f1)).bind fun t522=>(if t522=true then (za7.l3 k5 (wrap64 (x7_5+1)) a0_0 a0_1 a0_2 a0_3 a0_4 a0_5 a0_6 a0_7 a0_8 a0_9 a0_10 a0_11 l0_12 l0_13 l0_14) else (some false))) else (some false))) else (some false))) else (some false))=some r:=H;have A69:=za1.mk A690;clear A690
                 by_cases c70:t519=true
                 ·subst c70
                  have H1:((zaj.f ((rd_T55 l0_14 x7_5).f0.f1.f0)).bind fun t520=>(if t520=true then ((zaj.f ((rd_T55 l0_14 x7_5).f0.f1.f1)).bind fun t521=>(if t521=true then ((zaj.f ((rd_T55 l0_14 x7_5).f1)).bind fun t522=>(if t522=true then (za7.l3 k5 (wrap64 (x7_5+1)) a0_0 a0_1 a0_2 a0_3 a0_4 a0_5 a0_6 a0_7 a0_8 a0_9 a0_10 a0_11 l0_12 l0_13 l0_14) else (some false))) else (some false))) else (some false)))=some r:=by rw [if_pos rfl] at H;exact H
                  clear H;have H:=H1;clear H1;replace H:=Option.bind_eq_some_iff.mp H;obtain ⟨t520,A710,H⟩:=H;replace H:(if t520=true then ((zaj.f ((rd_T55 l0_14 x7_5).f0.f1.f1)).bind fun t521=>(if t521=true then ((zaj.f ((rd_T55 l0_14 x7_5).f1)).bind fun t522=>(if t522=true then (za7.l3 k5 (wrap64 (x7_5+1)) a0_0 a0_1 a0_2 a0_3 a0_4 a0_5 a0_6 a0_7 a0_8 a0_9 a0_10 a0_11 l0_12 l0_13 l0_14) else (some false))) else (some false))) else (some false))=some r:=H;have A71:=za1.mk A710;clear A710
                  by_cases c72:t520=true
                  ·subst c72
                   have H1:((zaj.f ((rd_T55 l0_14 x7_5).f0.f1.f1)).bind fun t521=>(if t521=true then ((zaj.f ((rd_T55 l0_14 x7_5).f1)).bind fun t522=>(if t522=true then (za7.l3 k5 (wrap64 (x7_5+1)) a0_0 a0_1 a0_2 a0_3 a0_4 a0_5 a0_6 a0_7 a0_8 a0_9 a0_10 a0_11 l0_12 l0_13 l0_14) else (some false))) else (some false)))=some r:=by rw [if_pos rfl] at H;exact H
                   clear H;have H:=H1;clear H1;replace H:=Option.bind_eq_some_iff.mp H;obtain ⟨t521,A730,H⟩:=H;replace H:(if t521=true then ((zaj.f ((rd_T55 l0_14 x7_5).f1)).bind fun t522=>(if t522=true then (za7.l3 k5 (wrap64 (x7_5+1)) a0_0 a0_1 a0_2 a0_3 a0_4 a0_5 a0_6 a0_7 a0_8 a0_9 a0_10 a0_11 l0_12 l0_13 l0_14) else (some false))) else (some false))=some r:=H;have A73:=za1.mk A730;clear A730
                   by_cases c74:t521=true
                   ·subst c74
                    have H1:((zaj.f ((rd_T55 l0_14 x7_5).f1)).bind fun t522=>(if t522=true then (za7.l3 k5 (wrap64 (x7_5+1)) a0_0 a0_1 a0_2 a0_3 a0_4 a0_5 a0_6 a0_7 a0_8 a0_9 a0_10 a0_11 l0_12 l0_13 l0_14) else (some false)))=some r:=by rw [if_pos rfl] at H;exact H
                    clear H;have H:=H1;clear H1;replace H:=Option.bind_eq_some_iff.mp H;obtain ⟨t522,A750,H⟩:=H;replace H:(if t522=true then (za7.l3 k5 (wrap64 (x7_5+1)) a0_0 a0_1 a0_2 a0_3 a0_4 a0_5 a0_6 a0_7 a0_8 a0_9 a0_10 a0_11 l0_12 l0_13 l0_14) else (some false))=some r:=H;have A75:=za1.mk A750;clear A750
                    by_cases c76:t522=true
                    ·subst c76
                     have H1:(za7.l3 k5 (wrap64 (x7_5+1)) a0_0 a0_1 a0_2 a0_3 a0_4 a0_5 a0_6 a0_7 a0_8 a0_9 a0_10 a0_11 l0_12 l0_13 l0_14)=some r:=by rw [if_pos rfl] at H;exact H
                     clear H;have H:=H1;clear H1;have H':=za1.mk H;clear H;obtain ⟨c_x0,c_x1,c_x2,c_x3,c_x4,c_x5,c_x6,c_x7,c_x8,c_x9,c_x10,c_x11,c_x12,c_x13,c_x14⟩:=cs15 B_a.out;obtain ⟨f_x0,f_x1,f_x2,f_x3,f_x4,f_x5,f_x6,f_x7,f_x8,f_x9,f_x10,f_x11,f_x12,f_x13,f_x14⟩:=fs15 B_a.out;have p517:0≤(x7_5:Int):=of_decide_eq_true q0;have q517:x7_5<(l0_14.length:Int):=of_decide_eq_true q0;obtain ⟨ad517,e517,hx517_0,hx517_1,hx517_2,hx517_3⟩:=at_T55 HR0_14.out x7_5 p517 q517;cases e517;replace hx517_0:=(HB.out.cell (World.block_lt_of_cell? w _ hx517_0)).trans hx517_0;replace hx517_1:=(HB.out.cell (World.block_lt_of_cell? w _ hx517_1)).trans hx517_1;replace hx517_2:=(HB.out.cell (World.block_lt_of_cell? w _ hx517_2)).trans hx517_2;replace hx517_3:=(HB.out.cell (World.block_lt_of_cell? w _ hx517_3)).trans hx517_3;replace p517:=eq_true p517;replace q517:=eq_true q517
                     go_wp2_with (first|((with_reducible refine zbr (N:=8) rfl ?_);(try (refine zcz (by rfl) ?_;dsimp only));refine zbq ?hg (N:=8) ?hd (cs:=#[.int .i64 0,.int .i64 0,.int .i64 0,.int .i64 0]) (t:=55) ?hr ?_;(case hd=>rfl);(case hg=>rfl);(case hr=>first|(go_simp;done)|(go_simp;rfl));intro g_b hg w78 hbox hb;have B_b:=am (hbox);have W_b:=am ((q49:w.heap.size≤g_b));have E_b:=am ((q49:w.heap.size≤g_b));have N_a_b:=am ((q50:g_a≠g_b));have N_b_a:=am ((q51:g_b≠g_a));replace B_a:=am (zaf q1 hb);replace HB:=am (zab q3 hb);clear hb hbox hg;have hnb79:=N_b_a.out;have hnc79:=N_a_b.out;obtain ⟨c_y0,c_y1,c_y2,c_y3⟩:=cs4 B_b.out;obtain ⟨f_y0,f_y1,f_y2,f_y3⟩:=fs4 B_b.out)|((with_reducible refine zan (f:=35) rfl ?_);refine goesL_ (some 127) rfl rfl Tryd.func35 (by kernel_rfl) rfl #[.int .i64 ((rd_T55 l0_14 x7_5).f0.f0)] rfl q4 ?_;(with_reducible refine (zaj.calls ((rd_T55 l0_14 x7_5).f0.f0) true _ A69.out).mono ?_);rintro e w' ⟨rfl,⟨nd,rfl⟩⟩;refine ⟨_,rfl,?_⟩)|(go_at_call 35;(with_reducible refine (zaj.calls ((rd_T55 l0_14 x7_5).f0.f1.f0) true _ A71.out).mono ?_);rintro e w' ⟨rfl,⟨nd,rfl⟩⟩)|(go_at_call 35;(with_reducible refine (zaj.calls ((rd_T55 l0_14 x7_5).f0.f1.f1) true _ A73.out).mono ?_);rintro e w' ⟨rfl,⟨nd,rfl⟩⟩)|(go_at_call 35;(with_reducible refine (zaj.calls ((rd_T55 l0_14 x7_5).f1) true _ A75.out).mono ?_);rintro e w' ⟨rfl,⟨nd,rfl⟩⟩))
                     go_roundg k5
                     case measure=>have:=HK1.out;have:=HJ11.out;have:=HK3.out;have:=HK4.out;have:=HK5.out;omega
                     case rel=>exact ⟨(wrap64 (x7_5+1)),q5,H',⟨by have:=HK1.out;have:=HJ11.out;have:=HK3.out;have:=HK4.out;have:=HK5.out;omega⟩,⟨by (with_reducible repeat (first|refine za4 ?_ _|refine za6 ?_|refine za0 ?_ _));refine zay ?_ N_a_b.out _;(with_reducible repeat (first|refine za4 ?_ _|refine za6 ?_|refine za0 ?_ _));refine zay ?_ N_a_b.out _;(with_reducible repeat (first|refine za4 ?_ _|refine za6 ?_|refine za0 ?_ _));refine zay ?_ N_a_b.out _;(with_reducible repeat (first|refine za4 ?_ _|refine za6 ?_|refine za0 ?_ _));refine zay ?_ N_a_b.out _;(with_reducible repeat (first|refine za4 ?_ _|refine za6 ?_|refine za0 ?_ _));exact B_a.out⟩,⟨q6⟩⟩
                    ·replace c76:=Bool.eq_false_iff.mpr c76
                     subst c76
                     have H1:(some false)=some r:=by rw [if_neg (show ¬ (false=true) by decide)] at H;exact H
                     clear H;have H:=H1;clear H1;obtain rfl:=Option.some.inj H;obtain ⟨c_z0,c_z1,c_z2,c_z3,c_z4,c_z5,c_z6,c_z7,c_z8,c_z9,c_z10,c_z11,c_z12,c_z13,c_z14⟩:=cs15 B_a.out;obtain ⟨f_z0,f_z1,f_z2,f_z3,f_z4,f_z5,f_z6,f_z7,f_z8,f_z9,f_z10,f_z11,f_z12,f_z13,f_z14⟩:=fs15 B_a.out;have p517:0≤(x7_5:Int):=of_decide_eq_true q0;have q517:x7_5<(l0_14.length:Int):=of_decide_eq_true q0;obtain ⟨ad517,e517,hx517_0,hx517_1,hx517_2,hx517_3⟩:=at_T55 HR0_14.out x7_5 p517 q517;cases e517;replace hx517_0:=(HB.out.cell (World.block_lt_of_cell? w _ hx517_0)).trans hx517_0;replace hx517_1:=(HB.out.cell (World.block_lt_of_cell? w _ hx517_1)).trans hx517_1;replace hx517_2:=(HB.out.cell (World.block_lt_of_cell? w _ hx517_2)).trans hx517_2;replace hx517_3:=(HB.out.cell (World.block_lt_of_cell? w _ hx517_3)).trans hx517_3;replace p517:=eq_true p517;replace q517:=eq_true q517
                     go_wp2_with (first|((with_reducible refine zbr (N:=8) rfl ?_);(try (refine zcz (by rfl) ?_;dsimp only));refine zbq ?hg (N:=8) ?hd (cs:=#[.int .i64 0,.int .i64 0,.int .i64 0,.int .i64 0]) (t:=55) ?hr ?_;(case hd=>rfl);(case hg=>rfl);(case hr=>first|(go_simp;done)|(go_simp;rfl));intro g_b hg w82 hbox hb;have B_b:=am (hbox);have W_b:=am ((q49:w.heap.size≤g_b));have E_b:=am ((q49:w.heap.size≤g_b));have N_a_b:=am ((q50:g_a≠g_b));have N_b_a:=am ((q51:g_b≠g_a));replace B_a:=am (zaf q1 hb);replace HB:=am (zab q3 hb);clear hb hbox hg;have hnb83:=N_b_a.out;have hnc83:=N_a_b.out;obtain ⟨c_aa0,c_aa1,c_aa2,c_aa3⟩:=cs4 B_b.out;obtain ⟨f_aa0,f_aa1,f_aa2,f_aa3⟩:=fs4 B_b.out)|((with_reducible refine zan (f:=35) rfl ?_);refine goesL_ (some 127) rfl rfl Tryd.func35 (by kernel_rfl) rfl #[.int .i64 ((rd_T55 l0_14 x7_5).f0.f0)] rfl q4 ?_;(with_reducible refine (zaj.calls ((rd_T55 l0_14 x7_5).f0.f0) true _ A69.out).mono ?_);rintro e w' ⟨rfl,⟨nd,rfl⟩⟩;refine ⟨_,rfl,?_⟩)|(go_at_call 35;(with_reducible refine (zaj.calls ((rd_T55 l0_14 x7_5).f0.f1.f0) true _ A71.out).mono ?_);rintro e w' ⟨rfl,⟨nd,rfl⟩⟩)|(go_at_call 35;(with_reducible refine (zaj.calls ((rd_T55 l0_14 x7_5).f0.f1.f1) true _ A73.out).mono ?_);rintro e w' ⟨rfl,⟨nd,rfl⟩⟩)|(go_at_call 35;(with_reducible refine (zaj.calls ((rd_T55 l0_14 x7_5).f1) false _ A75.out).mono ?_);rintro e w' ⟨rfl,⟨nd,rfl⟩⟩))
                     go_ret;exact ⟨q8,q6⟩
                   ·replace c74:=Bool.eq_false_iff.mpr c74
                    subst c74
                    have H1:(some false)=some r:=by rw [if_neg (show ¬ (false=true) by decide)] at H;exact H
                    clear H;have H:=H1;clear H1;obtain rfl:=Option.some.inj H;obtain ⟨c_ab0,c_ab1,c_ab2,c_ab3,c_ab4,c_ab5,c_ab6,c_ab7,c_ab8,c_ab9,c_ab10,c_ab11,c_ab12,c_ab13,c_ab14⟩:=cs15 B_a.out;obtain ⟨f_ab0,f_ab1,f_ab2,f_ab3,f_ab4,f_ab5,f_ab6,f_ab7,f_ab8,f_ab9,f_ab10,f_ab11,f_ab12,f_ab13,f_ab14⟩:=fs15 B_a.out;have p517:0≤(x7_5:Int):=of_decide_eq_true q0;have q517:x7_5<(l0_14.length:Int):=of_decide_eq_true q0;obtain ⟨ad517,e517,hx517_0,hx517_1,hx517_2,hx517_3⟩:=at_T55 HR0_14.out x7_5 p517 q517;cases e517;replace hx517_0:=(HB.out.cell (World.block_lt_of_cell? w _ hx517_0)).trans hx517_0;replace hx517_1:=(HB.out.cell (World.block_lt_of_cell? w _ hx517_1)).trans hx517_1;replace hx517_2:=(HB.out.cell (World.block_lt_of_cell? w _ hx517_2)).trans hx517_2;replace hx517_3:=(HB.out.cell (World.block_lt_of_cell? w _ hx517_3)).trans hx517_3;replace p517:=eq_true p517;replace q517:=eq_true q517
                    go_wp2_with (first|((with_reducible refine zbr (N:=8) rfl ?_);(try (refine zcz (by rfl) ?_;dsimp only));refine zbq ?hg (N:=8) ?hd (cs:=#[.int .i64 0,.int .i64 0,.int .i64 0,.int .i64 0]) (t:=55) ?hr ?_;(case hd=>rfl);(case hg=>rfl);(case hr=>first|(go_simp;done)|(go_simp;rfl));intro g_b hg w86 hbox hb;have B_b:=am (hbox);have W_b:=am ((q49:w.heap.size≤g_b));have E_b:=am ((q49:w.heap.size≤g_b));have N_a_b:=am ((q50:g_a≠g_b));have N_b_a:=am ((q51:g_b≠g_a));replace B_a:=am (zaf q1 hb);replace HB:=am (zab q3 hb);clear hb hbox hg;have hnb87:=N_b_a.out;have hnc87:=N_a_b.out;obtain ⟨c_ac0,c_ac1,c_ac2,c_ac3⟩:=cs4 B_b.out;obtain ⟨f_ac0,f_ac1,f_ac2,f_ac3⟩:=fs4 B_b.out)|((with_reducible refine zan (f:=35) rfl ?_);refine goesL_ (some 127) rfl rfl Tryd.func35 (by kernel_rfl) rfl #[.int .i64 ((rd_T55 l0_14 x7_5).f0.f0)] rfl q4 ?_;(with_reducible refine (zaj.calls ((rd_T55 l0_14 x7_5).f0.f0) true _ A69.out).mono ?_);rintro e w' ⟨rfl,⟨nd,rfl⟩⟩;refine ⟨_,rfl,?_⟩)|(go_at_call 35;(with_reducible refine (zaj.calls ((rd_T55 l0_14 x7_5).f0.f1.f0) true _ A71.out).mono ?_);rintro e w' ⟨rfl,⟨nd,rfl⟩⟩)|(go_at_call 35;(with_reducible refine (zaj.calls ((rd_T55 l0_14 x7_5).f0.f1.f1) false _ A73.out).mono ?_);rintro e w' ⟨rfl,⟨nd,rfl⟩⟩))
                    go_ret;exact ⟨q8,q6⟩
                  ·replace c72:=Bool.eq_false_iff.mpr c72
                   subst c72
                   have H1:(some false)=some r:=by rw [if_neg (show ¬ (false=true) by decide)] at H;exact H
                   clear H;have H:=H1;clear H1;obtain rfl:=Option.some.inj H;obtain ⟨c_ad0,c_ad1,c_ad2,c_ad3,c_ad4,c_ad5,c_ad6,c_ad7,c_ad8,c_ad9,c_ad10,c_ad11,c_ad12,c_ad13,c_ad14⟩:=cs15 B_a.out;obtain ⟨f_ad0,f_ad1,f_ad2,f_ad3,f_ad4,f_ad5,f_ad6,f_ad7,f_ad8,f_ad9,f_ad10,f_ad11,f_ad12,f_ad13,f_ad14⟩:=fs15 B_a.out;have p517:0≤(x7_5:Int):=of_decide_eq_true q0;have q517:x7_5<(l0_14.length:Int):=of_decide_eq_true q0;obtain ⟨ad517,e517,hx517_0,hx517_1,hx517_2,hx517_3⟩:=at_T55 HR0_14.out x7_5 p517 q517;cases e517;replace hx517_0:=(HB.out.cell (World.block_lt_of_cell? w _ hx517_0)).trans hx517_0;replace hx517_1:=(HB.out.cell (World.block_lt_of_cell? w _ hx517_1)).trans hx517_1;replace hx517_2:=(HB.out.cell (World.block_lt_of_cell? w _ hx517_2)).trans hx517_2;replace hx517_3:=(HB.out.cell (World.block_lt_of_cell? w _ hx517_3)).trans hx517_3;replace p517:=eq_true p517;replace q517:=eq_true q517
                   go_wp2_with (first|((with_reducible refine zbr (N:=8) rfl ?_);(try (refine zcz (by rfl) ?_;dsimp only));refine zbq ?hg (N:=8) ?hd (cs:=#[.int .i64 0,.int .i64 0,.int .i64 0,.int .i64 0]) (t:=55) ?hr ?_;(case hd=>rfl);(case hg=>rfl);(case hr=>first|(go_simp;done)|(go_simp;rfl));intro g_b hg w90 hbox hb;have B_b:=am (hbox);have W_b:=am ((q49:w.heap.size≤g_b));have E_b:=am ((q49:w.heap.size≤g_b));have N_a_b:=am ((q50:g_a≠g_b));have N_b_a:=am ((q51:g_b≠g_a));replace B_a:=am (zaf q1 hb);replace HB:=am (zab q3 hb);clear hb hbox hg;have hnb91:=N_b_a.out;have hnc91:=N_a_b.out;obtain ⟨c_ae0,c_ae1,c_ae2,c_ae3⟩:=cs4 B_b.out;obtain ⟨f_ae0,f_ae1,f_ae2,f_ae3⟩:=fs4 B_b.out)|((with_reducible refine zan (f:=35) rfl ?_);refine goesL_ (some 127) rfl rfl Tryd.func35 (by kernel_rfl) rfl #[.int .i64 ((rd_T55 l0_14 x7_5).f0.f0)] rfl q4 ?_;(with_reducible refine (zaj.calls ((rd_T55 l0_14 x7_5).f0.f0) true _ A69.out).mono ?_);rintro e w' ⟨rfl,⟨nd,rfl⟩⟩;refine ⟨_,rfl,?_⟩)|(go_at_call 35;(with_reducible refine (zaj.calls ((rd_T55 l0_14 x7_5).f0.f1.f0) false _ A71.out).mono ?_);rintro e w' ⟨rfl,⟨nd,rfl⟩⟩))
                   go_ret;exact ⟨q8,q6⟩
                 ·replace c70:=Bool.eq_false_iff.mpr c70
                  subst c70
                  have H1:(some false)=some r:=by rw [if_neg (show ¬ (false=true) by decide)] at H;exact H
                  clear H;have H:=H1;clear H1;obtain rfl:=Option.some.inj H;obtain ⟨c_af0,c_af1,c_af2,c_af3,c_af4,c_af5,c_af6,c_af7,c_af8,c_af9,c_af10,c_af11,c_af12,c_af13,c_af14⟩:=cs15 B_a.out;obtain ⟨f_af0,f_af1,f_af2,f_af3,f_af4,f_af5,f_af6,f_af7,f_af8,f_af9,f_af10,f_af11,f_af12,f_af13,f_af14⟩:=fs15 B_a.out;have p517:0≤(x7_5:Int):=of_decide_eq_true q0;have q517:x7_5<(l0_14.length:Int):=of_decide_eq_true q0;obtain ⟨ad517,e517,hx517_0,hx517_1,hx517_2,hx517_3⟩:=at_T55 HR0_14.out x7_5 p517 q517;cases e517;replace hx517_0:=(HB.out.cell (World.block_lt_of_cell? w _ hx517_0)).trans hx517_0;replace hx517_1:=(HB.out.cell (World.block_lt_of_cell? w _ hx517_1)).trans hx517_1;replace hx517_2:=(HB.out.cell (World.block_lt_of_cell? w _ hx517_2)).trans hx517_2;replace hx517_3:=(HB.out.cell (World.block_lt_of_cell? w _ hx517_3)).trans hx517_3;replace p517:=eq_true p517;replace q517:=eq_true q517
                  go_wp2_with (first|((with_reducible refine zbr (N:=8) rfl ?_);(try (refine zcz (by rfl) ?_;dsimp only));refine zbq ?hg (N:=8) ?hd (cs:=#[.int .i64 0,.int .i64 0,.int .i64 0,.int .i64 0]) (t:=55) ?hr ?_;(case hd=>rfl);(case hg=>rfl);(case hr=>first|(go_simp;done)|(go_simp;rfl));intro g_b hg w94 hbox hb;have B_b:=am (hbox);have W_b:=am ((q49:w.heap.size≤g_b));have E_b:=am ((q49:w.heap.size≤g_b));have N_a_b:=am ((q50:g_a≠g_b));have N_b_a:=am ((q51:g_b≠g_a));replace B_a:=am (zaf q1 hb);replace HB:=am (zab q3 hb);clear hb hbox hg;have hnb95:=N_b_a.out;have hnc95:=N_a_b.out;obtain ⟨c_ag0,c_ag1,c_ag2,c_ag3⟩:=cs4 B_b.out;obtain ⟨f_ag0,f_ag1,f_ag2,f_ag3⟩:=fs4 B_b.out)|((with_reducible refine zan (f:=35) rfl ?_);refine goesL_ (some 127) rfl rfl Tryd.func35 (by kernel_rfl) rfl #[.int .i64 ((rd_T55 l0_14 x7_5).f0.f0)] rfl q4 ?_;(with_reducible refine (zaj.calls ((rd_T55 l0_14 x7_5).f0.f0) false _ A69.out).mono ?_);rintro e w' ⟨rfl,⟨nd,rfl⟩⟩;refine ⟨_,rfl,?_⟩))
                  go_ret;exact ⟨q8,q6⟩
                ·rw [if_neg c68] at H
                 exact absurd H (by simp)
               ·rw [if_neg c67] at H
                have c67b0:decide (x7_5<(l0_14.length:Int))=false:=decide_eq_false c67;clear c67;replace H:=Option.bind_eq_some_iff.mp H;obtain ⟨t514,A970,H⟩:=H;replace H:(some (decide ((t514.length:Int)≤4096)))=some r:=H;have A97:=za1.mk A970;clear A970;obtain rfl:=Option.some.inj H;obtain ⟨c_ah0,c_ah1,c_ah2,c_ah3,c_ah4,c_ah5,c_ah6,c_ah7,c_ah8,c_ah9,c_ah10,c_ah11,c_ah12,c_ah13,c_ah14⟩:=cs15 B_a.out;obtain ⟨f_ah0,f_ah1,f_ah2,f_ah3,f_ah4,f_ah5,f_ah6,f_ah7,f_ah8,f_ah9,f_ah10,f_ah11,f_ah12,f_ah13,f_ah14⟩:=fs15 B_a.out
                go_wp2_with (first|((with_reducible refine zan (f:=30) rfl ?_);refine goesL_ (some 152) rfl rfl Tryd.func30 (by kernel_rfl) rfl #[.agg #[.int .i64 a0_0,.int .i64 a0_1,.int .i64 a0_2,.int .i64 a0_3,.int .i64 a0_4,.int .i64 a0_5,.bool a0_6,.string a0_7,.string a0_8,.bool a0_9,.string a0_10,.string a0_11,.slice A0_12 l0_12.length c0_12,.slice A0_13 l0_13.length c0_13,.slice A0_14 l0_14.length c0_14]] rfl q4 ?_;(with_reducible refine (za3.calls k5 a0_0 a0_1 a0_2 a0_3 a0_4 a0_5 a0_6 a0_7 a0_8 a0_9 a0_10 a0_11 _ _ l0_12 _ _ l0_13 _ _ l0_14 t514 _ ?side1 ?side2 ?side3 ?side4 ?side5 ?side6 A97.out).mono ?_);(case side1=>repeat (first|exact (Kd.zc6 HR0_12.out HB.out)|(with_reducible refine Kd.zbv ?_ _)|(with_reducible refine Kd.zbw ?_ _)|(with_reducible refine Kd.zc8 ?_)));(case side2=>exact HC0_12.out);(case side3=>repeat (first|exact (Kd.zc6 HR0_13.out HB.out)|(with_reducible refine Kd.zbv ?_ _)|(with_reducible refine Kd.zbw ?_ _)|(with_reducible refine Kd.zc8 ?_)));(case side4=>exact HC0_13.out);(case side5=>repeat (first|exact (Kd.zc6 HR0_14.out HB.out)|(with_reducible refine Kd.zbv ?_ _)|(with_reducible refine Kd.zbw ?_ _)|(with_reducible refine Kd.zc8 ?_)));(case side6=>exact HC0_14.out);rintro e w99 ⟨v515,rfl,ho0,hb⟩;refine ⟨_,rfl,?_⟩;have HO516:=am (Kd.zc9 ho0 (zbb q3));replace B_a:=am (zaf q1 hb);replace HB:=am (zab q3 hb);(try clear hb);(try clear hb2);(try clear hk);(try clear hi);(try clear ho0);obtain ⟨Ao100,co100,eo100⟩:=Kd.zbn HO516.out;subst eo100))
                go_ret;exact ⟨q8,q3⟩


end Go.Proofs.YtcipcpodgkeobaaDoor.F
end
section
namespace Go.Proofs.YtcipcpodgkeobaaDoor.Num
open Go.RowKit Go.Proofs.YtcipcpodgkeobaaDoorW.PrintWords Go.Proofs.YtcipcpodgkeobaaDoorW.PrintLast Go.Proofs.YtcipcpodgkeobaaDoorW.PrintMore Go.Proofs.YtcipcpodgkeobaaDoor.F
set_option linter.unusedVariables false
def fbytes (s:ByteArray):List Int:=vbytes (s.size:Int) ++ bytesOf s
def frat (neg:Bool) (num den:ByteArray):List Int:=vbytes (nb neg) ++ (fbytes num ++ fbytes den)
theorem fbytes_len (s:ByteArray):(fbytes s).length≤s.size+11∧s.size≤(fbytes s).length:=by
 have:=vbytes_len (s.size:Int);unfold fbytes;rw [List.length_append,bytesOf_length];omega
structure Rc where
 a0:Int
 a1:Int
 a2:Int
 a3:Int
 a4:Int
 a5:Int
 n6:Bool
 s7:ByteArray
 s8:ByteArray
 n9:Bool
 s10:ByteArray
 s11:ByteArray
 legs:List S49
 opts:List S51
 pays:List S55
def legb (x:S49):List Int:=nbytes [x.f0,x.f1]
def optb (x:S51):List Int:=frat x.f0.f0 x.f0.f1 x.f0.f2 ++ nbytes [x.f1]
def payb (x:S55):List Int:=nbytes [x.f0.f0,x.f0.f1.f0,x.f0.f1.f1] ++ nbytes [x.f1]
def Rc.bytes (r:Rc):List Int:=nbytes [r.a0,r.a1,r.a2,r.a3,r.a4,r.a5] ++ (frat r.n6 r.s7 r.s8 ++ (frat r.n9 r.s10 r.s11 ++ (nbytes [(r.legs.length:Int)] ++ (r.legs.flatMap legb ++ (nbytes [(r.opts.length:Int)] ++ (r.opts.flatMap optb ++ (nbytes [(r.pays.length:Int)] ++ r.pays.flatMap payb)))))))
structure Sh (r:Rc):Prop where
 h7:r.s7.size≤1000000
 h8:r.s8.size≤1000000
 h10:r.s10.size≤1000000
 h11:r.s11.size≤1000000
 hl:r.legs.length≤1000
 ho:r.opts.length≤1000
 hp:r.pays.length≤1000
 hs:∀ x ∈ r.opts,x.f0.f1.size≤1000000∧x.f0.f2.size≤1000000
def Rv (neg:Bool) (num den:ByteArray) (b:Bool):Prop:=Ev (fun k=>zbs.f k neg num den) b∧Ev (fun k=>zac.f k neg num den) b
theorem nbytes_one (n:Int):nbytes [n]=vbytes n:=by simp [nbytes]
theorem nbytes_two (a b:Int):nbytes [a,b]=vbytes a ++ vbytes b:=by simp [nbytes]
theorem nbytes_three (a b c:Int):nbytes [a,b,c]=vbytes a ++ (vbytes b ++ vbytes c):=by simp [nbytes]
section
variable (r:Rc)
def legv (x:S49):Bool:=small x.f0 && small x.f1
def optv (V:Bool→ByteArray→ByteArray→Bool) (x:S51):Bool:=V x.f0.f0 x.f0.f1 x.f0.f2 && small x.f1
def payv (x:S55):Bool:=small x.f0.f0 && (small x.f0.f1.f0 && (small x.f0.f1.f1 && small x.f1))
def Rc.v3 (r:Rc):Bool:=r.pays.all payv && decide ((r.bytes.length:Int)≤4096)
def Rc.v2 (r:Rc) (V:Bool→ByteArray→ByteArray→Bool):Bool:=r.opts.all (optv V) && r.v3
def Rc.v1 (r:Rc) (V:Bool→ByteArray→ByteArray→Bool):Bool:=r.legs.all legv && r.v2 V
def Rc.long (r:Rc):Prop:=r.legs.length>8∨r.opts.length>4∨r.pays.length>256
instance (r:Rc):Decidable r.long:=inferInstanceAs (Decidable (_∨_))
def Rc.vld (r:Rc) (V:Bool→ByteArray→ByteArray→Bool):Bool:=[r.a0,r.a1,r.a2,r.a3,r.a4,r.a5].all small && (V r.n6 r.s7 r.s8 && (V r.n9 r.s10 r.s11 && (if r.long then false else r.v1 V)))
structure Told (r:Rc) (V:Bool→ByteArray→ByteArray→Bool):Prop where
 v6:Rv r.n6 r.s7 r.s8 (V r.n6 r.s7 r.s8)
 v9:Rv r.n9 r.s10 r.s11 (V r.n9 r.s10 r.s11)
 vo:∀ x ∈ r.opts,Rv x.f0.f0 x.f0.f1 x.f0.f2 (V x.f0.f0 x.f0.f1 x.f0.f2)
def Rc.enc (r:Rc) (V:Bool→ByteArray→ByteArray→Bool):List Int×Int:=if r.vld V=true then (r.bytes,0) else ([],1)
def rt (V:Bool→ByteArray→ByteArray→Bool) (neg:Bool) (num den:ByteArray):Bool:=toks4 num && toks4 den && V neg num den
theorem ratok_ev (V:Bool→ByteArray→ByteArray→Bool) {neg:Bool} {num den:ByteArray} (hv:Rv neg num den (V neg num den)) (ok:Bool):Ev (fun k=>ratok k ok neg num den) (ok && rt V neg num den):=by
 unfold ratok rt toks4
 cases ok with
 | false=>exact Ev.ite_not (by decide) (Ev.now _)
 | true=>
  refine Ev.ite rfl ?_;rw [Bool.true_and]
  by_cases c1:num.size≤4096
  ·refine Ev.ite c1 ?_
   rw [decide_eq_true c1,Bool.true_and]
   by_cases c2:den.size≤4096
   ·refine Ev.ite c2 ?_
    rw [decide_eq_true c2,Bool.true_and];exact hv.1
   ·refine Ev.ite_not c2 ?_
    rw [decide_eq_false c2,Bool.false_and];exact Ev.now _
  ·refine Ev.ite_not c1 ?_
   rw [decide_eq_false c1,Bool.false_and,Bool.false_and];exact Ev.now _
theorem wrat_ev (V:Bool→ByteArray→ByteArray→Bool) {neg:Bool} {num den:ByteArray} (hv:Rv neg num den (V neg num den)) (st:Bool×List Int):Ev (fun k=>wrat k st neg num den) (st.1 && rt V neg num den,st.2 ++ rbytes neg num den):=by
 unfold wrat;refine Ev.bind (ratok_ev V hv st.1) ?_
 have e:(st.1 && rt V neg num den && toks4 num && toks4 den)=(st.1 && rt V neg num den):=by
  unfold rt
  cases st.1 <;> cases toks4 num <;> cases toks4 den <;> cases V neg num den <;> rfl
 show Ev (fun _=>some ((st.1 && rt V neg num den && toks4 num && toks4 den),st.2 ++ rbytes neg num den)) _
 rw [e];exact Ev.now _
def woptb (x:S51):List Int:=rbytes x.f0.f0 x.f0.f1 x.f0.f2 ++ nbytes [x.f1]
def woptv (V:Bool→ByteArray→ByteArray→Bool) (x:S51):Bool:=rt V x.f0.f0 x.f0.f1 x.f0.f2 && small x.f1
theorem wopts_ev (V:Bool→ByteArray→ByteArray→Bool) (l:List S51):∀ (st:Bool×List Int),(∀ x ∈ l,Rv x.f0.f0 x.f0.f1 x.f0.f2 (V x.f0.f0 x.f0.f1 x.f0.f2))→Ev (fun k=>wopts k st l) (st.1 && l.all (woptv V),st.2 ++ l.flatMap woptb):=by
 induction l with
 | nil=>
  intro st _;rw [List.all_nil,Bool.and_true,List.flatMap_nil,List.append_nil];exact Ev.now _
 | cons x l ih=>
  intro st hv;have g:=ih (wnums (st.1 && rt V x.f0.f0 x.f0.f1 x.f0.f2,st.2 ++ rbytes x.f0.f0 x.f0.f1 x.f0.f2) [x.f1]) (fun y hy=>hv y (List.mem_cons_of_mem _ hy))
  have e:((wnums (st.1 && rt V x.f0.f0 x.f0.f1 x.f0.f2,st.2 ++ rbytes x.f0.f0 x.f0.f1 x.f0.f2) [x.f1]).1 && l.all (woptv V),(wnums (st.1 && rt V x.f0.f0 x.f0.f1 x.f0.f2,st.2 ++ rbytes x.f0.f0 x.f0.f1 x.f0.f2) [x.f1]).2 ++ l.flatMap woptb)=(st.1 && (x :: l).all (woptv V),st.2 ++ (x :: l).flatMap woptb):=by
   unfold wnums;rw [List.all_cons,List.flatMap_cons];unfold woptv woptb;simp only [List.all_cons,List.all_nil,Bool.and_true,Bool.and_assoc,List.append_assoc]
  rw [e] at g;exact Ev.bind (Ev.bind (wrat_ev V (hv x List.mem_cons_self) st) (Ev.now _)) g
theorem wlegs_eq (l:List S49):∀ st:Bool×List Int,wlegs st l=(st.1 && l.all legv,st.2 ++ l.flatMap legb):=by
 induction l with
 | nil=>
  intro st;rw [List.all_nil,Bool.and_true,List.flatMap_nil,List.append_nil]
  rfl
 | cons x l ih=>
  intro st;have e:wlegs st (x :: l)=wlegs (wleg st x) l:=rfl;rw [e,ih];unfold wleg wnums;rw [List.all_cons,List.flatMap_cons];unfold legv legb;simp only [List.all_cons,List.all_nil,Bool.and_true,Bool.and_assoc,List.append_assoc]
theorem wpays_eq (l:List S55):∀ st:Bool×List Int,wpays st l=(st.1 && l.all payv,st.2 ++ l.flatMap payb):=by
 induction l with
 | nil=>
  intro st;rw [List.all_nil,Bool.and_true,List.flatMap_nil,List.append_nil]
  rfl
 | cons x l ih=>
  intro st;have e:wpays st (x :: l)=wpays (wpay st x) l:=rfl;rw [e,ih];unfold wpay wnums;rw [List.all_cons,List.flatMap_cons];unfold payv payb;simp only [List.all_cons,List.all_nil,Bool.and_true,Bool.and_assoc,List.append_assoc]
def Rc.wb (r:Rc):List Int:=nbytes [r.a0,r.a1,r.a2,r.a3,r.a4,r.a5] ++ (rbytes r.n6 r.s7 r.s8 ++ (rbytes r.n9 r.s10 r.s11 ++ (nbytes [(r.legs.length:Int)] ++ (r.legs.flatMap legb ++ (nbytes [(r.opts.length:Int)] ++ (r.opts.flatMap woptb ++ (nbytes [(r.pays.length:Int)] ++ r.pays.flatMap payb)))))))
def Rc.wv (r:Rc) (V:Bool→ByteArray→ByteArray→Bool):Bool:=[r.a0,r.a1,r.a2,r.a3,r.a4,r.a5].all small && (rt V r.n6 r.s7 r.s8 && (rt V r.n9 r.s10 r.s11 && (r.legs.all legv && (r.opts.all (woptv V) && (r.pays.all payv && decide ((r.wb.length:Int)≤4096))))))
theorem encode_ev (V:Bool→ByteArray→ByteArray→Bool) (hV:Told r V):Ev (fun k=>zce.f k r.a0 r.a1 r.a2 r.a3 r.a4 r.a5 r.n6 r.s7 r.s8 r.n9 r.s10 r.s11 r.legs r.opts r.pays) (if r.long then ([],false) else (r.wb,r.wv V)):=by
 unfold zce.f
 by_cases c:r.long
 ·rw [if_pos c]
  exact Ev.ite c (Ev.now _)
 ·rw [if_neg c]
  refine Ev.ite_not c ?_
  have c1:r.legs.length≤8:=Nat.le_of_not_gt fun q=>c (Or.inl q)
  have c2:r.opts.length≤4:=Nat.le_of_not_gt fun q=>c (Or.inr (Or.inl q))
  have c3:r.pays.length≤256:=Nat.le_of_not_gt fun q=>c (Or.inr (Or.inr q))
  have s1:small (r.legs.length:Int)=true:=small_size (by omega);have s2:small (r.opts.length:Int)=true:=small_size (by omega);have s3:small (r.pays.length:Int)=true:=small_size (by omega);refine Ev.bind (wrat_ev V hV.v6 _) (Ev.bind (wrat_ev V hV.v9 _) (Ev.bind (wopts_ev V r.opts _ hV.vo) ?_));rw [wpays_eq,wlegs_eq]
  have e:∀ a b:List Int×Bool,a=b→Ev (fun _=>some a) b:=fun a b q=>by rw [q];exact Ev.now _
  refine e _ _ ?_;unfold wnums;simp only [List.all_cons,List.all_nil,s1,s2,s3,Bool.and_true,Bool.true_and,List.nil_append];unfold Rc.wv;simp only [List.all_cons,List.all_nil,Bool.and_true];unfold Rc.wb;simp only [Bool.and_assoc,List.append_assoc]
theorem tbytes_eq {s:ByteArray} (h:toks4 s=true):tbytes s=fbytes s:=if_pos (of_decide_eq_true h)
theorem rbytes_eq {neg:Bool} {num den:ByteArray} (h1:toks4 num=true) (h2:toks4 den=true):rbytes neg num den=frat neg num den:=by
 unfold rbytes frat;rw [tbytes_eq h1,tbytes_eq h2]
def Rc.toks (r:Rc):Prop:=(toks4 r.s7=true∧toks4 r.s8=true)∧(toks4 r.s10=true∧toks4 r.s11=true) ∧ ∀ x ∈ r.opts,toks4 x.f0.f1=true∧toks4 x.f0.f2=true
theorem opts_eq (V:Bool→ByteArray→ByteArray→Bool) (l:List S51) (h:∀ x ∈ l,toks4 x.f0.f1=true∧toks4 x.f0.f2=true):l.flatMap woptb=l.flatMap optb∧l.all (woptv V)=l.all (optv V):=by
 induction l with
 | nil=>
  rw [List.flatMap_nil,List.flatMap_nil,List.all_nil,List.all_nil];exact ⟨rfl,rfl⟩
 | cons x l ih=>
  obtain ⟨e1,e2⟩:=ih (fun y hy=>h y (List.mem_cons_of_mem _ hy));obtain ⟨t1,t2⟩:=h x List.mem_cons_self
  have a:woptb x=optb x:=by
   unfold woptb optb;rw [rbytes_eq t1 t2]
  have b:woptv V x=optv V x:=by
   unfold woptv optv rt;rw [t1,t2];simp only [Bool.true_and]
  rw [List.flatMap_cons,List.flatMap_cons,List.all_cons,List.all_cons,e1,e2,a,b];exact ⟨rfl,rfl⟩
theorem toks_eq (V:Bool→ByteArray→ByteArray→Bool) (h:r.toks) (c:¬ r.long):r.wb=r.bytes∧r.wv V=r.vld V:=by
 obtain ⟨⟨t1,t2⟩,⟨t3,t4⟩,t5⟩:=h;obtain ⟨o1,o2⟩:=opts_eq V r.opts t5
 have e:r.wb=r.bytes:=by
  unfold Rc.wb Rc.bytes;rw [rbytes_eq t1 t2,rbytes_eq t3 t4,o1]
 refine ⟨e,?_⟩;unfold Rc.wv Rc.vld Rc.v1 Rc.v2 Rc.v3 rt;rw [e,if_neg c,t1,t2,t3,t4,o2];simp only [Bool.true_and]
theorem not_tok {s:ByteArray} (h:toks4 s=false):4096<s.size:=Nat.lt_of_not_ge (of_decide_eq_false h)
theorem frat_long {neg:Bool} {num den:ByteArray} (h:¬ (toks4 num=true∧toks4 den=true)):4096<(frat neg num den).length:=by
 have d2:=(fbytes_len num).2;have d3:=(fbytes_len den).2;unfold frat;rw [List.length_append,List.length_append]
 cases h1:toks4 num with
 | false=>
  have:=not_tok h1
  omega
 | true=>
  cases h2:toks4 den with
  | false=>
   have:=not_tok h2
   omega
  | true=>exact absurd ⟨h1,h2⟩ h
theorem flat_long (l:List S51) (x:S51) (hx:x ∈ l):(optb x).length≤(l.flatMap optb).length:=by
 induction l with
 | nil=>cases hx
 | cons y l ih=>
  rw [List.flatMap_cons,List.length_append]
  rcases List.mem_cons.1 hx with q|q
  ·subst q;omega
  ·have:=ih q;omega
theorem rt_false (V:Bool→ByteArray→ByteArray→Bool) {neg:Bool} {num den:ByteArray} (h:¬ (toks4 num=true∧toks4 den=true)):rt V neg num den=false:=by
 unfold rt
 cases h1:toks4 num with
 | false=>rfl
 | true=>
  cases h2:toks4 den with
  | false=>rfl
  | true=>exact absurd ⟨h1,h2⟩ h
theorem no_toks (V:Bool→ByteArray→ByteArray→Bool) (h:¬ r.toks) (c:¬ r.long):r.wv V=false∧r.vld V=false:=by
 have hb:4096<r.bytes.length∧r.wv V=false:=by
  have hlen:∀ n:Nat,n≤(frat r.n6 r.s7 r.s8).length∨n≤(frat r.n9 r.s10 r.s11).length∨n≤(r.opts.flatMap optb).length→n≤r.bytes.length:=by
   intro n q;unfold Rc.bytes;simp only [List.length_append]
   omega
  by_cases h1:toks4 r.s7=true∧toks4 r.s8=true
  ·by_cases h2:toks4 r.s10=true∧toks4 r.s11=true
   ·have h3:∃ x ∈ r.opts,¬ (toks4 x.f0.f1=true∧toks4 x.f0.f2=true):=by
     refine Classical.byContradiction fun q=>h ⟨h1,h2,fun x hx=>Classical.byContradiction fun q2=>q ⟨x,hx,q2⟩⟩
    obtain ⟨x,hx,hq⟩:=h3;have l1:=flat_long r.opts x hx;have l2:=frat_long (neg:=x.f0.f0) hq
    have l3:(frat x.f0.f0 x.f0.f1 x.f0.f2).length≤(optb x).length:=by
     unfold optb;rw [List.length_append];omega
    refine ⟨hlen 4097 (Or.inr (Or.inr (by omega))),?_⟩
    have f1:r.opts.all (woptv V)=false:=by
     refine Bool.eq_false_iff.2 fun q=>?_
     have:=List.all_eq_true.1 q x hx;unfold woptv at this;rw [rt_false V hq] at this;cases this
    unfold Rc.wv;rw [f1];simp only [Bool.false_and,Bool.and_false]
   ·refine ⟨hlen 4097 (Or.inr (Or.inl (frat_long h2))),?_⟩
    unfold Rc.wv;rw [rt_false V h2];simp only [Bool.false_and,Bool.and_false]
  ·refine ⟨hlen 4097 (Or.inl (frat_long h1)),?_⟩
   unfold Rc.wv;rw [rt_false V h1];simp only [Bool.false_and,Bool.and_false]
 refine ⟨hb.2,?_⟩;unfold Rc.vld Rc.v1 Rc.v2 Rc.v3;rw [if_neg c,decide_eq_false (show ¬ (r.bytes.length:Int)≤4096 by have:=hb.1;omega)];simp only [Bool.and_false]
theorem long_vld (V:Bool→ByteArray→ByteArray→Bool) (c:r.long):r.vld V=false:=by
 unfold Rc.vld;rw [if_pos c];simp only [Bool.and_false]
theorem enc_of (b:Bool) (o q:List Int) (h:b=true→o=q):Ev (fun _=>if (o,b).2=true then some ((o,b).1,(0:Int)) else some ([],1)) (if b=true then (q,0) else ([],1)):=by
 cases b with
 | true=>
  rw [← h rfl];exact Ev.now _
 | false=>exact Ev.now _
theorem Encode_ev (V:Bool→ByteArray→ByteArray→Bool) (hV:Told r V):Ev (fun k=>zcb.f k r.a0 r.a1 r.a2 r.a3 r.a4 r.a5 r.n6 r.s7 r.s8 r.n9 r.s10 r.s11 r.legs r.opts r.pays) (r.enc V):=by
 unfold zcb.f Rc.enc;refine Ev.bind (encode_ev r V hV) ?_
 by_cases c:r.long
 ·rw [if_pos c,long_vld r V c]
  exact enc_of false [] r.bytes (fun q=>by cases q)
 ·rw [if_neg c]
  by_cases t:r.toks
  ·obtain ⟨e1,e2⟩:=toks_eq r V t c
   rw [e1,e2];exact enc_of (r.vld V) r.bytes r.bytes (fun _=>rfl)
  ·obtain ⟨e1,e2⟩:=no_toks r V t c
   rw [e1,e2];exact enc_of false r.wb r.bytes (fun q=>by cases q)
end
end Go.Proofs.YtcipcpodgkeobaaDoor.Num
end
section
namespace Go.Proofs.YtcipcpodgkeobaaDoor.Num
open Go.RowKit Go.Proofs.YtcipcpodgkeobaaDoorW.PrintWords Go.Proofs.YtcipcpodgkeobaaDoorW.PrintLast Go.Proofs.YtcipcpodgkeobaaDoorW.PrintMore Go.Proofs.YtcipcpodgkeobaaDoor.F
set_option linter.unusedVariables false
structure Ok (r:Rc):Prop where
 g0:small r.a0=true
 g1:small r.a1=true
 g2:small r.a2=true
 g3:small r.a3=true
 g4:small r.a4=true
 g5:small r.a5=true
 h7:r.s7.size≤4096
 h8:r.s8.size≤4096
 h10:r.s10.size≤4096
 h11:r.s11.size≤4096
 hl:r.legs.length≤8
 ho:r.opts.length≤4
 hp:r.pays.length≤256
 vl:∀ x ∈ r.legs,legv x=true
 vo:∀ x ∈ r.opts,(x.f0.f1.size≤4096∧x.f0.f2.size≤4096)∧small x.f1=true
 vp:∀ x ∈ r.pays,payv x=true
theorem nbytes_bys (l:List Int):Bys (nbytes l):=fun x hx=>by
 obtain ⟨n,_,h⟩:=List.mem_flatMap.1 hx;exact vbytes_bys n x h
theorem flat_bys {α : Type} {f : α → List Int} (hf:∀ x,Bys (f x)) (l:List α):Bys (l.flatMap f):=fun x hx=>by
 obtain ⟨y,_,h⟩:=List.mem_flatMap.1 hx;exact hf y x h
theorem frat_bys (neg:Bool) (num den:ByteArray):Bys (frat neg num den):=qbytes_bys neg num den
theorem legb_bys (x:S49):Bys (legb x):=nbytes_bys _
theorem optb_bys (x:S51):Bys (optb x):=(frat_bys _ _ _).app (nbytes_bys _)
theorem payb_bys (x:S55):Bys (payb x):=(nbytes_bys _).app (nbytes_bys _)
theorem legs_loop (N:Nat) (hN:N≤8) {T:List Int} (hT:Bys T) (c0 c1 c2 c3 c4 c5:Int) (c6:Bool) (c7 c8:ByteArray) (c9:Bool) (c10 c11:ByteArray) (R) (rest:List S49):∀ (o:List S49) (z:Int),z=(o.length:Int)→o.length+rest.length=N→(∀ x ∈ rest,legv x=true) →
 Ev (fun k=>(zax.f k (strOfNums T) false 4).bind fun bt=>zad.l1 k bt.1 0 bt.2.1 bt.2.2 c0 c1 c2 c3 c4 c5 c6 c7 c8 c9 c10 c11 (o ++ rest) ([]:List S51)) R →
 Ev (fun k=>zad.l0 k (N:Int) z (strOfNums (rest.flatMap legb ++ T)) false c0 c1 c2 c3 c4 c5 c6 c7 c8 c9 c10 c11 o) R:=by
 induction rest with
 | nil=>
  intro o z hz ho _ h;subst hz;rw [List.append_nil] at h;refine Ev.step (fun k=>?_) h;simp only [zad.l0];rw [if_neg (by simp at ho;omega)]
  rfl
 | cons x rest ih=>
  intro o z hz ho hv h;subst hz;have hx:=hv x List.mem_cons_self;unfold legv at hx;rw [Bool.and_eq_true] at hx;have g:=ih (o ++ [x]) _ rfl (by rw [List.length_append,List.length_singleton];simp at ho;omega) (fun y hy=>hv y (List.mem_cons_of_mem _ hy)) (by rw [List.append_assoc,List.singleton_append];exact h);have hb:=(flat_bys legb_bys rest).app hT
  have e:(x :: rest).flatMap legb ++ T=vbytes x.f0 ++ (vbytes x.f1 ++ (rest.flatMap legb ++ T)):=by
   rw [List.flatMap_cons];unfold legb;rw [nbytes_two,List.append_assoc,List.append_assoc]
  rw [e];refine Ev.step (fun k=>?_) g;simp only [zad.l0];rw [if_pos (by simp at ho;omega),int_r k hx.1 ((vbytes_bys _).app hb),Option.bind_some];dsimp only;rw [int_r k hx.2 hb,Option.bind_some];dsimp only;rw [if_pos (by simp at ho;omega),List.length_append,List.length_singleton,winc' (by simp at ho;omega)]
theorem opts_loop (N:Nat) (hN:N≤4) {T:List Int} (hT:Bys T) (c0 c1 c2 c3 c4 c5:Int) (c6:Bool) (c7 c8:ByteArray) (c9:Bool) (c10 c11:ByteArray) (legs:List S49) (rest:List S51):∀ (o:List S51) (z:Int),z=(o.length:Int)→o.length+rest.length=N→(∀ x ∈ rest,(x.f0.f1.size≤4096∧x.f0.f2.size≤4096)∧small x.f1=true) →
 Ev (fun k=>zad.l1 k (N:Int) z (strOfNums (rest.flatMap optb ++ T)) false c0 c1 c2 c3 c4 c5 c6 c7 c8 c9 c10 c11 legs o) (c0,c1,c2,c3,c4,c5,c6,c7,c8,c9,c10,c11,legs,o ++ rest,strOfNums T,false):=by
 induction rest with
 | nil=>
  intro o z hz ho _;subst hz;refine Ev.step (f:=fun _=>some (c0,c1,c2,c3,c4,c5,c6,c7,c8,c9,c10,c11,legs,o ++ [],strOfNums T,false)) (fun k=>?_) (Ev.now _);simp only [zad.l1];rw [if_neg (by simp at ho;omega),List.append_nil]
  rfl
 | cons x rest ih=>
  intro o z hz ho hv;subst hz;obtain ⟨⟨hx1,hx2⟩,hx3⟩:=hv x List.mem_cons_self;have g:=ih (o ++ [x]) _ rfl (by rw [List.length_append,List.length_singleton];simp at ho;omega) (fun y hy=>hv y (List.mem_cons_of_mem _ hy));rw [List.append_assoc,List.singleton_append] at g;have hb:=(flat_bys optb_bys rest).app hT
  have e:(x :: rest).flatMap optb ++ T=qbytes x.f0.f0 x.f0.f1 x.f0.f2 ++ (vbytes x.f1 ++ (rest.flatMap optb ++ T)):=by
   rw [List.flatMap_cons];unfold optb;rw [nbytes_one,List.append_assoc,List.append_assoc]
   rfl
  rw [e];refine Ev.step (fun k=>?_) g;simp only [zad.l1];rw [if_pos (by simp at ho;omega),rat_r k hx1 hx2 ((vbytes_bys _).app hb),Option.bind_some];dsimp only;rw [int_r k hx3 hb,Option.bind_some];dsimp only;rw [if_pos (by simp at ho;omega),List.length_append,List.length_singleton,winc' (by simp at ho;omega)]
theorem pays_r (k:Nat) {T:List Int} (hT:Bys T) (rest:List S55):∀ (o:List S55),(∀ x ∈ rest,payv x=true)→zb8.pays k rest.length o (strOfNums (rest.flatMap payb ++ T)) false=some (o ++ rest,strOfNums T,false):=by
 induction rest with
 | nil=>intro o _;rw [List.append_nil];rfl
 | cons x rest ih=>
  intro o hv;have hx:=hv x List.mem_cons_self;unfold payv at hx;simp only [Bool.and_eq_true] at hx;obtain ⟨h0,h1,h2,h3⟩:=hx;have hb:=(flat_bys payb_bys rest).app hT
  have e:(x :: rest).flatMap payb ++ T=vbytes x.f0.f0 ++ (vbytes x.f0.f1.f0 ++ (vbytes x.f0.f1.f1 ++ (vbytes x.f1 ++ (rest.flatMap payb ++ T)))):=by
   rw [List.flatMap_cons];unfold payb;rw [nbytes_three,nbytes_one];simp only [List.append_assoc]
  rw [e,List.length_cons];simp only [zb8.pays];have b3:=(vbytes_bys x.f1).app hb;have b2:=(vbytes_bys x.f0.f1.f1).app b3;have b1:=(vbytes_bys x.f0.f1.f0).app b2;rw [int_r k h0 b1,Option.bind_some];dsimp only;rw [int_r k h1 b2,Option.bind_some];dsimp only;rw [int_r k h2 b3,Option.bind_some];dsimp only;rw [num_r k h3 hb,Option.bind_some];dsimp only;have g:=ih (o ++ [x]) (fun y hy=>hv y (List.mem_cons_of_mem _ hy));rw [List.append_assoc,List.singleton_append] at g;exact g
def Rc.ahead (r:Rc) (T:List Int):List Int:=vbytes r.a0 ++ (vbytes r.a1 ++ (vbytes r.a2 ++ (vbytes r.a3 ++ (vbytes r.a4 ++ (vbytes r.a5 ++ (qbytes r.n6 r.s7 r.s8 ++ (qbytes r.n9 r.s10 r.s11 ++ (vbytes (r.legs.length:Int) ++ (r.legs.flatMap legb ++ (vbytes (r.opts.length:Int) ++ (r.opts.flatMap optb ++ T)))))))))))
theorem bytes_ahead (r:Rc) (T:List Int):r.bytes ++ T=r.ahead (vbytes (r.pays.length:Int) ++ (r.pays.flatMap payb ++ T)):=by
 unfold Rc.bytes Rc.ahead;simp only [nbytes,List.flatMap_cons,List.flatMap_nil,List.append_nil,List.append_assoc]
 rfl
theorem Ev.all {α : Type} {g:Nat→Option α} {r : α} (h:∀ k,g k=some r):Ev g r:=⟨0,fun k _=>h k⟩
theorem small_nat {n m:Nat} (h:n≤m) (hm:m≤4096):small (n:Int)=true:=small_size (Nat.le_trans h hm)
theorem act_r {r:Rc} (h:Ok r) {T:List Int} (hT:Bys T):Ev (fun k=>zad.f k (strOfNums (r.ahead T)) false) (r.a0,r.a1,r.a2,r.a3,r.a4,r.a5,r.n6,r.s7,r.s8,r.n9,r.s10,r.s11,r.legs,r.opts,strOfNums T,false):=by
 have b1:=(flat_bys optb_bys r.opts).app hT;have b2:=(vbytes_bys (r.opts.length:Int)).app b1;have b3:=(flat_bys legb_bys r.legs).app b2;have b4:=(vbytes_bys (r.legs.length:Int)).app b3;have b5:=(qbytes_bys r.n9 r.s10 r.s11).app b4;have b6:=(qbytes_bys r.n6 r.s7 r.s8).app b5;have b7:=(vbytes_bys r.a5).app b6;have b8:=(vbytes_bys r.a4).app b7;have b9:=(vbytes_bys r.a3).app b8;have b10:=(vbytes_bys r.a2).app b9;have b11:=(vbytes_bys r.a1).app b10;have g2:=opts_loop r.opts.length h.ho hT r.a0 r.a1 r.a2 r.a3 r.a4 r.a5 r.n6 r.s7 r.s8 r.n9 r.s10 r.s11 r.legs r.opts [] 0 rfl (by simp) h.vo;rw [List.nil_append] at g2
 have g1:=legs_loop r.legs.length h.hl b2 r.a0 r.a1 r.a2 r.a3 r.a4 r.a5 r.n6 r.s7 r.s8 r.n9 r.s10 r.s11 _ r.legs [] 0 rfl (by simp) h.vl (by
  rw [List.nil_append]
  have e:∀ k,zax.f k (strOfNums (vbytes (r.opts.length:Int) ++ (r.opts.flatMap optb ++ T))) false 4=some ((r.opts.length:Int),strOfNums (r.opts.flatMap optb ++ T),false):=fun k=>count_r k (small_nat h.ho (by decide)) (by omega) (by have:=h.ho;omega) b1
  simp only [e,Option.bind_some]
  exact g2)
 unfold zad.f Rc.ahead;refine Ev.bind (Ev.all fun k=>int_r k h.g0 b11 false) ?_;refine Ev.bind (Ev.all fun k=>int_r k h.g1 b10 false) ?_;refine Ev.bind (Ev.all fun k=>int_r k h.g2 b9 false) ?_;refine Ev.bind (Ev.all fun k=>int_r k h.g3 b8 false) ?_;refine Ev.bind (Ev.all fun k=>int_r k h.g4 b7 false) ?_;refine Ev.bind (Ev.all fun k=>int_r k h.g5 b6 false) ?_;refine Ev.bind (Ev.all fun k=>rat_r k h.h7 h.h8 b5) ?_;refine Ev.bind (Ev.all fun k=>rat_r k h.h10 h.h11 b4) ?_;refine Ev.bind (Ev.all fun k=>count_r k (small_nat h.hl (by decide)) (Int.natCast_nonneg _) (Int.ofNat_le.mpr h.hl) b3) ?_;exact g1
theorem read_r {r:Rc} (h:Ok r) {T:List Int} (hT:Bys T) (hlen:(r.bytes ++ T).length≤4096) (hb:Bys r.bytes) {R} (hf:Ev (fun k=>zb8.fin k (strOfNums (r.bytes ++ T)) r.a0 r.a1 r.a2 r.a3 r.a4 r.a5 r.n6 r.s7 r.s8 r.n9 r.s10 r.s11 r.legs r.opts (r.pays,strOfNums T,false)) R):Ev (fun k=>zb8.f k (r.bytes ++ T)) R:=by
 have hbT:=hb.app hT
 have hall:(r.bytes ++ T).all (fun x=>decide (0≤x∧x≤255))=true:=List.all_eq_true.2 fun x hx=>decide_eq_true (hbT x hx)
 have b1:=(flat_bys payb_bys r.pays).app hT;have b2:=(vbytes_bys (r.pays.length:Int)).app b1;have g:=act_r h b2;rw [← bytes_ahead] at g;unfold zb8.f zb8.g;refine Ev.ite hall (Ev.ite_not (by rw [bs_size hbT];omega) (Ev.bind g ?_));dsimp only
 have e1:∀ k,zax.f k (strOfNums (vbytes (r.pays.length:Int) ++ (r.pays.flatMap payb ++ T))) false 256=some ((r.pays.length:Int),strOfNums (r.pays.flatMap payb ++ T),false):=fun k=>count_r k (small_nat h.hp (by decide)) (by omega) (by have:=h.hp;omega) b1
 have e2:∀ k,zb8.pays k r.pays.length [] (strOfNums (r.pays.flatMap payb ++ T)) false=some (r.pays,strOfNums T,false):=fun k=>pays_r k hT r.pays [] h.vp
 simp only [e1,Option.bind_some,Int.toNat_natCast,e2];exact hf
def Rc.out (r:Rc):Int×Int×Int×Int×Int×Int×Bool×ByteArray×ByteArray×Bool×ByteArray×ByteArray×(List (S49))×(List (S51))×(List (S55))×Int:=(r.a0,r.a1,r.a2,r.a3,r.a4,r.a5,r.n6,r.s7,r.s8,r.n9,r.s10,r.s11,r.legs,r.opts,r.pays,0)
theorem decode_r {r:Rc} (h:Ok r) (hb:Bys r.bytes) (hlen:r.bytes.length≤4096) (he:Ev (fun k=>zce.f k r.a0 r.a1 r.a2 r.a3 r.a4 r.a5 r.n6 r.s7 r.s8 r.n9 r.s10 r.s11 r.legs r.opts r.pays) (r.bytes,true)):Ev (fun k=>zb8.f k r.bytes) r.out:=by
 have g:=read_r h (T:=[]) (R:=r.out) (fun x hx=>by cases hx) (by rw [List.append_nil];exact hlen) hb (by
  unfold zb8.fin;refine Ev.ite_not (show ¬ false=true from Bool.false_ne_true) (Ev.ite_not (show ¬ ((strOfNums []).size:Int)>0 by decide) (Ev.bind he (Ev.ite rfl ?_)));dsimp only;refine Ev.ite ?_ (Ev.now _)
  rw [List.append_nil,bs_bytes hb])
 rw [List.append_nil] at g;exact g
theorem sameInts_loop (l:List Int) (hl:l.length≤1000) (d:Nat):∀ i:Nat,i+d=l.length→Ev (fun k=>zam.l0 k l l (i:Int)) true:=by
 induction d with
 | zero=>
  intro i hi;refine Ev.step (f:=fun _=>some true) (fun k=>?_) (Ev.now _);simp only [zam.l0];rw [if_neg (by omega)]
 | succ d ih=>
  intro i hi;refine Ev.step (fun k=>?_) (ih (i+1) (by omega));simp only [zam.l0];rw [if_pos (by omega),if_pos (by omega),if_pos (by omega),if_pos trivial,winc' (by omega)]
theorem samePays_loop (l:List S55) (hl:l.length≤1000) (d:Nat):∀ i:Nat,i+d=l.length→Ev (fun k=>zaq.l0 k l l (i:Int)) true:=by
 induction d with
 | zero=>
  intro i hi;refine Ev.step (f:=fun _=>some true) (fun k=>?_) (Ev.now _);simp only [zaq.l0];rw [if_neg (by omega)]
 | succ d ih=>
  intro i hi;refine Ev.step (fun k=>?_) (ih (i+1) (by omega));simp only [zaq.l0];rw [if_pos (by omega),if_pos (by omega),if_pos (by omega),if_neg (by simp),winc' (by omega)]
section
variable (r:Rc)
theorem sameOpts_loop (hl:r.opts.length≤1000) (d:Nat):∀ i:Nat,i+d=r.opts.length→Ev (fun k=>za2.l1 k (i:Int) r.a0 r.a1 r.a2 r.a3 r.a4 r.a5 r.n6 r.s7 r.s8 r.n9 r.s10 r.s11 r.legs r.opts r.a0 r.a1 r.a2 r.a3 r.a4 r.a5 r.n6 r.s7 r.s8 r.n9 r.s10 r.s11 r.legs r.opts) true:=by
 induction d with
 | zero=>
  intro i hi;refine Ev.step (f:=fun _=>some true) (fun k=>?_) (Ev.now _);simp only [za2.l1];rw [if_neg (by omega)]
 | succ d ih=>
  intro i hi;refine Ev.step (fun k=>?_) (ih (i+1) (by omega));simp only [za2.l1];rw [if_pos (by omega),if_pos (by omega),if_pos (by omega),if_neg (by simp),winc' (by omega)]
theorem sameLegs_loop (ho:r.opts.length≤1000) (hl:r.legs.length≤1000) (d:Nat):∀ i:Nat,i+d=r.legs.length→Ev (fun k=>za2.l0 k (i:Int) r.a0 r.a1 r.a2 r.a3 r.a4 r.a5 r.n6 r.s7 r.s8 r.n9 r.s10 r.s11 r.legs r.opts r.a0 r.a1 r.a2 r.a3 r.a4 r.a5 r.n6 r.s7 r.s8 r.n9 r.s10 r.s11 r.legs r.opts) true:=by
 induction d with
 | zero=>
  intro i hi;refine Ev.step (fun k=>?_) (sameOpts_loop r ho r.opts.length 0 (by omega));simp only [za2.l0];rw [if_neg (by omega)]
  rfl
 | succ d ih=>
  intro i hi;refine Ev.step (fun k=>?_) (ih (i+1) (by omega));simp only [za2.l0];rw [if_pos (by omega),if_pos (by omega),if_pos (by omega),if_neg (by simp),winc' (by omega)]
theorem same_self (h:Ok r):Ev (fun k=>zbl.f k r.a0 r.a1 r.a2 r.a3 r.a4 r.a5 r.n6 r.s7 r.s8 r.n9 r.s10 r.s11 r.legs r.opts r.pays r.a0 r.a1 r.a2 r.a3 r.a4 r.a5 r.n6 r.s7 r.s8 r.n9 r.s10 r.s11 r.legs r.opts r.pays) true:=by
 have hl:=h.hl;have ho:=h.ho;have hp:=h.hp;unfold zbl.f za2.f;refine Ev.bind (r:=true) ?_ (Ev.ite rfl (Ev.bind (r:=true) ?_ (Ev.now _)))
 ·refine Ev.bind (Ev.now _) (Ev.bind (Ev.now _) (Ev.bind (r:=true) ?_ (Ev.ite rfl (Ev.ite_not (by simp) (Ev.ite_not (by simp) (Ev.ite rfl ?_))))))
  ·unfold zam.f
   exact Ev.ite rfl (sameInts_loop _ (by simp) 6 0 rfl)
  ·rw [show ((r.opts.length:Int) != (r.opts.length:Int))=false from bne_self_eq_false _]
   refine Ev.step (fun k=>?_) (sameLegs_loop r (by omega) (by omega) r.legs.length 0 (by omega));simp only [za2.j0];rw [if_neg (by decide)]
   rfl
 ·unfold zaq.f
  exact Ev.ite rfl (samePays_loop _ (by omega) r.pays.length 0 (by omega))
end
end Go.Proofs.YtcipcpodgkeobaaDoor.Num
end
section
namespace Go.Proofs.YtcipcpodgkeobaaDoor.F
open Go.RowKit Go.ChangeShapes Go.WideShapes Go.ChangeAt Go.Proofs.YtcipcpodgkeobaaDoorW.PrintWords Go.Proofs.YtcipcpodgkeobaaDoorW.PrintLast Go.Proofs.YtcipcpodgkeobaaDoorW.PrintMore
set_option linter.unusedVariables false
set_option linter.unusedSimpArgs false
section
variable {H:Type} {enc:TypeId×Value→H} {P:Program} {w:World} {base:Nat} {spare:Nat→Bool} {held:Bool}
theorem mapM_each {α β : Type} {f : α → Option β} : ∀ (l:List α) (ys:List β),l.mapM f=some ys → ∀ x ∈ l,∃ y,f x=some y
 | [],_,_,x,hx=>by cases hx
 | a :: l,ys,h,x,hx=>by
  rw [List.mapM_cons] at h;simp only [bind,Option.bind_eq_some_iff,pure,Option.some.injEq] at h;obtain ⟨y,hy,zs,hz,rfl⟩:=h
  rcases List.mem_cons.1 hx with rfl|hx
  ·exact ⟨y,hy⟩
  ·exact mapM_each l zs hz x hx
def intOf:Value→Int
 | .int _ n=>n
 | _=>0
theorem trod_arr {t e n:Nat} {k:IntKind} {fuel:Nat} {cs:List Value} {y:DataW H×List MemPlace} (ht:P.underlying t=some (.array n e)) (he:P.underlying e=some (.int k)) (h1:P.cellsOf e=1) (hn:P.cellsOf t=n) (h:DataW.trod enc P w base spare held fuel t cs=some y) :
 ∃ xs:List Int,xs.length=n∧cs=xs.map (Value.int k) ∧ ∀ x ∈ xs,(Lit.int k x).wf=true:=by
 cases fuel with
 | zero=>simp [DataW.trod] at h
 | succ m=>
  rw [DataW.trod_step] at h;unfold DataW.trodStep at h;simp only [ht] at h
  by_cases hl:cs.length=P.cellsOf t
  ·rw [if_pos hl] at h
   simp only [Option.map_eq_some_iff] at h;obtain ⟨ys,hy,_⟩:=h
   have each:∀ i,(hi:i<cs.length)→cs[i] = .int k (intOf cs[i])∧(Lit.int k (intOf cs[i])).wf=true:=by
    intro i hi;obtain ⟨z,hz⟩:=mapM_each _ _ hy i (List.mem_range.2 (by omega));rw [h1,Nat.mul_one] at hz;obtain ⟨x,hx,_,hw⟩:=DataW.trod_int he hz;rw [List.drop_eq_getElem_cons hi,List.take_succ_cons,List.take_zero] at hx
    have hx:cs[i] = .int k x:=by simpa using hx
    rw [hx];exact ⟨rfl,hw⟩
   refine ⟨cs.map intOf,by rw [List.length_map];omega,?_,?_⟩
   ·rw [List.map_map]
    refine List.ext_getElem (by simp) (fun i h2 h3=>?_);rw [List.getElem_map];exact (each i h2).1
   ·intro x hx
    obtain ⟨v,hv,rfl⟩:=List.mem_map.1 hx;obtain ⟨i,hi,rfl⟩:=List.getElem_of_mem hv;exact (each i hi).2
  ·rw [if_neg hl] at h
   cases h
theorem open_array {r:Reach} {b0:Nat} {t e n:Nat} {k:IntKind} {v:Value} {d:DataW H} {ps:List MemPlace} (ht:P.underlying t=some (.array n e)) (he:P.underlying e=some (.int k)) (h1:P.cellsOf e=1) (hn:P.cellsOf t=n) (hval:Value.okWide P w r b0 t v) (hd:DataW.Trod enc P w base spare held t v d ps) :
 ∃ xs:List Int,xs.length=n∧v = .agg (xs.map (Value.int k)).toArray ∧ ∀ x ∈ xs,(Lit.int k x).wf=true:=by
 simp only [Value.okWide,ht] at hval;obtain ⟨cs,rfl,_,_⟩:=hval;obtain ⟨fuel,hf⟩:=hd;obtain ⟨xs,h2,h3,h4⟩:=trod_arr ht he h1 hn hf;refine ⟨xs,h2,?_,h4⟩;have h5:cs.toList=xs.map (Value.int k):=h3;rw [← h5,Array.toArray_toList]
theorem open_arrays {t a e n:Nat} {k:IntKind} {A:Option Addr} {len cap:Nat} {d:DataW H} {ps:List MemPlace} (ht:P.underlying t=some (.slice a)) (ha:P.underlying a=some (.array n e)) (he:P.underlying e=some (.int k)) (h1:P.cellsOf e=1) (hn:P.cellsOf a=n) (hd:DataW.Trod enc P w base spare held t (.slice A len cap) d ps) :
 len≤cap∧len≤maxLen ∧ ∃ f:Nat→List Int,(∀ i,i<len→(f i).length=n∧(∀ x ∈ f i,(Lit.int k x).wf=true))∧(0<len → ∃ ad,A=some ad ∧ ∀ i,i<len → ∀ j x,(f i)[j]?=some x→w.cell? (ad.add (i*n+j))=some (.int k x)):=by
 obtain ⟨fuel,hf⟩:=hd
 rcases DataW.trod_slice ht hf with ⟨h0,_⟩|⟨ad,l,c,elems,rest,m,_,hcs,_,hb,hl,hm,hlen,hel,_,_⟩
 ·simp [Value.cells] at h0
  obtain ⟨rfl,rfl,rfl⟩:=h0;exact ⟨Nat.le_refl _,Nat.zero_le _,fun _=>[],fun i hi=>absurd hi (Nat.not_lt_zero _),fun h=>absurd h (Nat.lt_irrefl _)⟩
 ·simp [Value.cells] at hcs
  obtain ⟨rfl,rfl,rfl⟩:=hcs
  have each:∀ i,i<len → ∃ xs:List Int,xs.length=n∧(∀ x ∈ xs,(Lit.int k x).wf=true) ∧ ∀ j x,xs[j]?=some x→w.cell? (ad.add (i*n+j))=some (.int k x):=by
   intro i hi;have h2:=hel i hi;rw [List.getElem?_eq_getElem (by omega),Option.bind_eq_some_iff] at h2;obtain ⟨cs,hcs,hy⟩:=h2;obtain ⟨xs,h3,rfl,h4⟩:=trod_arr ha he h1 hn hy;refine ⟨xs,h3,h4,fun j x hx=>?_⟩;have hj:j<xs.length:=(List.getElem?_eq_some_iff.1 hx).1;have h5:=(World.cells?_some hcs).2.2 j (by rw [hn];omega);rw [hn] at h5;rw [add_add] at h5;rw [h5,List.getElem?_map,hx]
   rfl
  refine ⟨hl,Nat.le_trans hl hm,fun i=>if h:i<len then (each i h).choose else [],fun i hi=>?_,fun _=>⟨ad,rfl,fun i hi j x hx=>?_⟩⟩
  ·dsimp only
   rw [dif_pos hi];exact ⟨(each i hi).choose_spec.1,(each i hi).choose_spec.2.1⟩
  ·dsimp only at hx
   rw [dif_pos hi] at hx;exact (each i hi).choose_spec.2.2 j x hx
end
def i8ok (x:Int):Prop:=-128≤x∧x≤127
def i16ok (x:Int):Prop:=-32768≤x∧x≤32767
def u16ok (x:Int):Prop:=0≤x∧x≤65535
theorem wf_i8 {x:Int} (h:(Lit.int .i8 x).wf=true):i8ok x:=by
 simp only [Lit.wf,Bool.and_eq_true,decide_eq_true_eq] at h;exact h
theorem wf_i16 {x:Int} (h:(Lit.int .i16 x).wf=true):i16ok x:=by
 simp only [Lit.wf,Bool.and_eq_true,decide_eq_true_eq] at h;exact h
theorem wf_u16 {x:Int} (h:(Lit.int .u16 x).wf=true):u16ok x:=by
 simp only [Lit.wf,Bool.and_eq_true,decide_eq_true_eq] at h;exact h
theorem row_of {α : Type} {d:Kd α} {w:World} {A:Option Addr} {len n:Nat} {k:IntKind} (f:Nat→List Int) (g:List Int → α) (Q : α → Prop) (hsz:d.sz=n) (hm:len≤maxLen)
 (hg:∀ i,i<len→d.K w (g (f i)) ((f i).map (Value.int k))∧Q (g (f i))) (hn:∀ i,i<len→(f i).length=n) (hc:0<len → ∃ ad,A=some ad ∧ ∀ i,i<len → ∀ j x,(f i)[j]?=some x→w.cell? (ad.add (i*n+j))=some (.int k x)) :
 ∃ l:List α,len=l.length∧d.C w A l.length l ∧ ∀ x ∈ l,Q x:=by
 refine ⟨(List.range len).map fun i=>g (f i),by simp,⟨rfl,by simp only [List.length_map,List.length_range];unfold maxLen at hm;omega,fun h0=>?_⟩,fun x hx=>?_⟩
 ·obtain ⟨ad,e,hcell⟩:=hc (by simpa using h0)
  refine ⟨ad,e,fun j p hp=>?_⟩
  have hj:j<len:=by simpa using (List.getElem?_eq_some_iff.1 hp).1
  have e2:g (f j)=p:=by
   rw [List.getElem?_map,List.getElem?_range hj] at hp;exact Option.some.inj hp
  rw [← e2];refine ⟨(f j).map (Value.int k),?_,(hg j hj).1,fun i u hu=>?_⟩
  ·rw [List.length_map,hn j hj,hsz]
  ·rw [List.getElem?_map,Option.map_eq_some_iff] at hu
   obtain ⟨x,hx,rfl⟩:=hu;rw [hsz];exact hcell j hj i x hx
 ·obtain ⟨i,hi,rfl⟩:=List.mem_map.1 hx
  exact (hg i (List.mem_range.1 hi)).2
set_option maxRecDepth 100000
theorem list2 {l:List Int} (h:l.length=2):∃ a b,l=[a,b]:=by
 match l,h with
 | [a,b],_=>exact ⟨a,b,rfl⟩
theorem list4 {l:List Int} (h:l.length=4):∃ a b c d,l=[a,b,c,d]:=by
 match l,h with
 | [a,b,c,d],_=>exact ⟨a,b,c,d,rfl⟩
theorem list6 {l:List Int} (h:l.length=6):∃ a b c d e f,l=[a,b,c,d,e,f]:=by
 match l,h with
 | [a,b,c,d,e,f],_=>exact ⟨a,b,c,d,e,f,rfl⟩
section
variable {H:Type} {enc:TypeId×Value→H} {w:World} {base:Nat} {spare:Nat→Bool} {held:Bool}
theorem open_V39 {r:Reach} {b0:Nat} {v:Value} {d:DataW H} {ps:List MemPlace} (hval:Value.okWide Tryd.prog w r b0 39 v) (hd:DataW.Trod enc Tryd.prog w base spare held 39 v d ps) :
 ∃ a b c d e f,v = .agg #[.int .i16 a,.int .i16 b,.int .i16 c,.int .i16 d,.int .i16 e,.int .i16 f]∧i16ok a∧i16ok b∧i16ok c∧i16ok d∧i16ok e∧i16ok f:=by
 obtain ⟨xs,hl,rfl,hw⟩:=open_array Tryd.underlying39 Tryd.underlying38 (by kernel_rfl) (by kernel_rfl) hval hd;obtain ⟨a,b,c,d,e,f,rfl⟩:=list6 hl;exact ⟨a,b,c,d,e,f,rfl,wf_i16 (hw _ (by simp)),wf_i16 (hw _ (by simp)),wf_i16 (hw _ (by simp)),wf_i16 (hw _ (by simp)),wf_i16 (hw _ (by simp)),wf_i16 (hw _ (by simp))⟩
theorem open_V40 {r:Reach} {b0:Nat} {v:Value} {d:DataW H} {ps:List MemPlace} (hval:Value.okWide Tryd.prog w r b0 40 v) (hd:DataW.Trod enc Tryd.prog w base spare held 40 v d ps) :
 ∃ a b,v = .agg #[.int .u16 a,.int .u16 b]∧u16ok a∧u16ok b:=by
 obtain ⟨xs,hl,rfl,hw⟩:=open_array Tryd.underlying40 Tryd.underlying23 (by kernel_rfl) (by kernel_rfl) hval hd;obtain ⟨a,b,rfl⟩:=list2 hl;exact ⟨a,b,rfl,wf_u16 (hw _ (by simp)),wf_u16 (hw _ (by simp))⟩
theorem open_L72 {A:Option Addr} {len cap:Nat} {d:DataW H} {ps:List MemPlace} (hd:DataW.Trod enc Tryd.prog w base spare held 41 (.slice A len cap) d ps) :
 len≤cap ∧ ∃ l:List S72,len=l.length∧k72.C w A l.length l ∧ ∀ x ∈ l,i8ok x.f0∧i8ok x.f1:=by
 obtain ⟨hc,hm,f,hf,hp⟩:=open_arrays Tryd.underlying41 Tryd.underlying72 Tryd.underlying47 (by kernel_rfl) (by kernel_rfl) hd;refine ⟨hc,row_of (d:=k72) f (fun l=>(⟨l.getD 0 0,l.getD 1 0⟩:S72)) (fun x:S72=>i8ok x.f0∧i8ok x.f1) rfl hm (fun i hi=>?_) (fun i hi=>(hf i hi).1) hp⟩;obtain ⟨h1,h2⟩:=hf i hi;obtain ⟨a,b,e⟩:=list2 h1;rw [e] at h2 ⊢;exact ⟨k72_mk w _,wf_i8 (h2 _ (by simp)),wf_i8 (h2 _ (by simp))⟩
theorem open_L40 {A:Option Addr} {len cap:Nat} {d:DataW H} {ps:List MemPlace} (hd:DataW.Trod enc Tryd.prog w base spare held 42 (.slice A len cap) d ps) :
 len≤cap ∧ ∃ l:List S40,len=l.length∧k40.C w A l.length l ∧ ∀ x ∈ l,u16ok x.f0∧u16ok x.f1:=by
 obtain ⟨hc,hm,f,hf,hp⟩:=open_arrays Tryd.underlying42 Tryd.underlying40 Tryd.underlying23 (by kernel_rfl) (by kernel_rfl) hd;refine ⟨hc,row_of (d:=k40) f (fun l=>(⟨l.getD 0 0,l.getD 1 0⟩:S40)) (fun x:S40=>u16ok x.f0∧u16ok x.f1) rfl hm (fun i hi=>?_) (fun i hi=>(hf i hi).1) hp⟩;obtain ⟨h1,h2⟩:=hf i hi;obtain ⟨a,b,e⟩:=list2 h1;rw [e] at h2 ⊢;exact ⟨k40_mk w _,wf_u16 (h2 _ (by simp)),wf_u16 (h2 _ (by simp))⟩
theorem open_L73 {A:Option Addr} {len cap:Nat} {d:DataW H} {ps:List MemPlace} (hd:DataW.Trod enc Tryd.prog w base spare held 43 (.slice A len cap) d ps) :
 len≤cap ∧ ∃ l:List S73,len=l.length∧k73.C w A l.length l ∧ ∀ x ∈ l,(i16ok x.f0∧i16ok x.f1)∧i16ok x.f2∧i16ok x.f3:=by
 obtain ⟨hc,hm,f,hf,hp⟩:=open_arrays Tryd.underlying43 Tryd.underlying73 Tryd.underlying38 (by kernel_rfl) (by kernel_rfl) hd;refine ⟨hc,row_of (d:=k73) f (fun l=>(⟨l.getD 0 0,l.getD 1 0,l.getD 2 0,l.getD 3 0⟩:S73)) (fun x:S73=>(i16ok x.f0∧i16ok x.f1)∧i16ok x.f2∧i16ok x.f3) rfl hm (fun i hi=>?_) (fun i hi=>(hf i hi).1) hp⟩;obtain ⟨h1,h2⟩:=hf i hi;obtain ⟨a,b,c,d,e⟩:=list4 h1;rw [e] at h2 ⊢;exact ⟨k73_mk w _,⟨wf_i16 (h2 _ (by simp)),wf_i16 (h2 _ (by simp))⟩,wf_i16 (h2 _ (by simp)),wf_i16 (h2 _ (by simp))⟩
end
end Go.Proofs.YtcipcpodgkeobaaDoor.F
end
section
namespace Go.Proofs.YtcipcpodgkeobaaDoor.Num
open Go.RowKit Go.Proofs.YtcipcpodgkeobaaDoorW.PrintWords Go.Proofs.YtcipcpodgkeobaaDoorW.PrintLast Go.Proofs.YtcipcpodgkeobaaDoorW.PrintMore Go.Proofs.YtcipcpodgkeobaaDoor.F
set_option linter.unusedVariables false
def chk1 (neg:Bool) (num den:ByteArray):Bool:=decide (num.size≤8) && decide (den.size≤8) && (zbs.f 60 neg num den == some true) && (zac.f 60 neg num den == some true)
def chk (o:Option (Bool×ByteArray×ByteArray)):Bool:=
 match o with
 | some (neg,num,den)=>chk1 neg num den && (match zcd.f neg num den with
  | some (neg2,num2,den2)=>chk1 neg2 num2 den2
  | none=>false)
 | none=>false
theorem ratio_chk:(List.range 23).all (fun a=>(List.range 6).all fun b=>chk (zc2.f 60 (a:Int) ((b+1:Nat):Int)))=true:=by kernel_rfl
theorem whole_chk:(List.range 40).all (fun a=>chk (zbu.f 60 (a:Int)))=true:=by kernel_rfl
def Rg (neg:Bool) (num den:ByteArray):Prop:=num.size≤8∧den.size≤8∧Rv neg num den true
theorem chk1_rg {neg:Bool} {num den:ByteArray} (h:chk1 neg num den=true):Rg neg num den:=by
 unfold chk1 at h;simp only [Bool.and_eq_true,decide_eq_true_eq,beq_iff_eq] at h;obtain ⟨⟨⟨h1,h2⟩,h3⟩,h4⟩:=h;exact ⟨h1,h2,Ev.of (fun k=>zbs.mono _ _ _ k) h3,Ev.of (fun k=>zac.mono _ _ _ k) h4⟩
structure Two (neg:Bool) (num den:ByteArray):Prop where
 me:Rg neg num den
 op:∃ neg2 num2 den2,zcd.f neg num den=some (neg2,num2,den2)∧Rg neg2 num2 den2
theorem chk_two {o:Option (Bool×ByteArray×ByteArray)} (h:chk o=true):∃ neg num den,o=some (neg,num,den)∧Two neg num den:=by
 unfold chk at h
 match o,h with
 | some (neg,num,den),h=>
  dsimp only at h;rw [Bool.and_eq_true] at h;obtain ⟨h1,h2⟩:=h;refine ⟨neg,num,den,rfl,chk1_rg h1,?_⟩
  cases e:zcd.f neg num den with
  | none=>rw [e] at h2;cases h2
  | some p=>
   obtain ⟨a,b,c⟩:=p;rw [e] at h2;exact ⟨a,b,c,rfl,chk1_rg h2⟩
theorem ratio_two {a b:Int} (h0:0≤a) (h1:a<23) (h2:1≤b) (h3:b≤6):∃ neg num den,Ev (fun k=>zc2.f k a b) (neg,num,den)∧Two neg num den:=by
 obtain ⟨m,rfl⟩:=Int.eq_ofNat_of_zero_le h0;obtain ⟨n,rfl⟩:=Int.eq_ofNat_of_zero_le (show 0≤b by omega)
 obtain ⟨n,rfl⟩:∃ q,n=q+1:=⟨n-1,by omega⟩
 have h4:=List.all_eq_true.1 ratio_chk m (List.mem_range.2 (by omega));have h5:=List.all_eq_true.1 h4 n (List.mem_range.2 (by omega));obtain ⟨neg,num,den,e,h6⟩:=chk_two h5;exact ⟨neg,num,den,Ev.of (fun k=>zc2.mono _ _ k) e,h6⟩
theorem whole_two {a:Int} (h0:0≤a) (h1:a<40):∃ neg num den,Ev (fun k=>zbu.f k a) (neg,num,den)∧Two neg num den:=by
 obtain ⟨m,rfl⟩:=Int.eq_ofNat_of_zero_le h0;obtain ⟨neg,num,den,e,h6⟩:=chk_two (List.all_eq_true.1 whole_chk m (List.mem_range.2 (by omega)));exact ⟨neg,num,den,Ev.of (fun k=>zbu.mono _ k) e,h6⟩
theorem w16 {n:Int} (h0:0≤n) (h1:n≤65535):IntKind.u16.wrap n=n:=by rw [IntKind.wrap_u16];omega
theorem amount_two {x:Int} (h:u16ok x):∃ neg num den,Ev (fun k=>zby.f k x) (neg,num,den)∧Two neg num den:=by
 obtain ⟨h0,h1⟩:=h
 have e5:IntKind.u16.wrap (Int.tdiv x 5)=x/5:=by rw [Int.tdiv_eq_ediv_of_nonneg h0,w16 (by omega) (by omega)]
 have e115:IntKind.u16.wrap (Int.tdiv x 115)=x/115:=by rw [Int.tdiv_eq_ediv_of_nonneg h0,w16 (by omega) (by omega)]
 have t5:Int.tmod x 5=x%5:=Int.tmod_eq_emod_of_nonneg h0
 have q0:0≤x/5:=by omega
 have q1:0≤x/115:=by omega
 unfold zby.f;rw [e5,e115,t5];simp only [Int.tmod_eq_emod_of_nonneg q0,Int.tmod_eq_emod_of_nonneg q1];rw [w64 (n:=x/5%23) (by omega) (by omega),w64 (n:=x/115%6) (by omega) (by omega),w64 (n:=1+x/115%6) (by omega) (by omega),w64 (n:=x/5%4) (by omega) (by omega),w64 (n:=10*(x/5%4)) (by omega) (by omega),w64 (n:=x/5%13) (by omega) (by omega)]
 by_cases c0:x%5=0
 ·obtain ⟨neg,num,den,e,h6⟩:=ratio_two (a:=x/5%23) (b:=1+x/115%6) (by omega) (by omega) (by omega) (by omega)
  exact ⟨neg,num,den,Ev.ite c0 (Ev.bind e (Ev.now _)),h6⟩
 ·by_cases c1:x%5=1
  ·obtain ⟨neg,num,den,e,h6⟩:=whole_two (a:=10*(x/5%4)) (by omega) (by omega)
   exact ⟨neg,num,den,Ev.ite_not c0 (Ev.ite c1 (Ev.bind e (Ev.now _))),h6⟩
  ·obtain ⟨neg,num,den,e,h6⟩:=whole_two (a:=x/5%13) (by omega) (by omega)
   exact ⟨neg,num,den,Ev.ite_not c0 (Ev.ite_not c1 (Ev.bind e (Ev.now _))),h6⟩
theorem signed_ev {x:Int} (h:u16ok x):∃ neg num den,Ev (fun k=>zb3.f k x) (neg,num,den)∧Rg neg num den:=by
 obtain ⟨h0,h1⟩:=h
 have e2:IntKind.u16.wrap (Int.tdiv x 2)=x/2:=by rw [Int.tdiv_eq_ediv_of_nonneg h0,w16 (by omega) (by omega)]
 obtain ⟨neg,num,den,e,h6⟩:=amount_two (x:=x/2) ⟨by omega,by omega⟩;obtain ⟨neg2,num2,den2,eo,h7⟩:=h6.op;unfold zb3.f;rw [e2]
 by_cases c:Int.tmod x 2=1
 ·exact ⟨neg2,num2,den2,Ev.bind e (Ev.ite c (Ev.bind (r:=(neg2,num2,den2)) (by dsimp only;rw [eo];exact Ev.now _) (Ev.now _))),h7⟩
 ·exact ⟨neg,num,den,Ev.bind e (Ev.ite_not c (Ev.now _)),h6.me⟩
theorem s8 {x:Int} (h:i8ok x):wrap64 x=x∧small x=true:=by obtain ⟨h0,h1⟩:=h;exact ⟨w64 (by omega) (by omega),by rw [small_iff];exact ⟨by omega,by omega⟩⟩
theorem s16 {x:Int} (h:i16ok x):wrap64 x=x∧small x=true:=by obtain ⟨h0,h1⟩:=h;exact ⟨w64 (by omega) (by omega),by rw [small_iff];exact ⟨by omega,by omega⟩⟩
theorem su16 {x:Int} (h:u16ok x):wrap64 x=x∧small x=true:=by obtain ⟨h0,h1⟩:=h;exact ⟨w64 (by omega) (by omega),by rw [small_iff];exact ⟨by omega,by omega⟩⟩
theorem mem_rd {α : Type} {l:List α} (d : α) {i:Nat} (h:i<l.length):l.getD ((i:Int)).toNat d ∈ l:=by
 rw [Int.toNat_natCast,List.getD_eq_getElem?_getD,List.getElem?_eq_getElem h];exact List.getElem_mem h
def optg (x:S51):Prop:=Rg x.f0.f0 x.f0.f1 x.f0.f2∧small x.f1=true
section
variable (l2:List S72) (l3:List S40) (l4:List S73) (c0 c1 c2 c3 c4 c5:Int) (c6:Bool) (c7 c8:ByteArray) (c9:Bool) (c10 c11:ByteArray)
def Fin3 (g:Nat→Option (Int×Int×Int×Int×Int×Int×Bool×ByteArray×ByteArray×Bool×ByteArray×ByteArray×(List (S49))×(List (S51))×(List (S55)))) (P:List S49→List S51→List S55→Prop):Prop:=∃ legs opts pays,Ev g (c0,c1,c2,c3,c4,c5,c6,c7,c8,c9,c10,c11,legs,opts,pays)∧P legs opts pays
theorem rec_pays (h4:∀ x ∈ l4,(i16ok x.f0∧i16ok x.f1)∧i16ok x.f2∧i16ok x.f3) (legs:List S49) (opts:List S51) (d:Nat):∀ (i:Nat) (o:List S55),i+d=6→o.length=i→(∀ x ∈ o,payv x=true) →
 Fin3 c0 c1 c2 c3 c4 c5 c6 c7 c8 c9 c10 c11 (fun k=>za5.l2 k l4 (i:Int) c0 c1 c2 c3 c4 c5 c6 c7 c8 c9 c10 c11 legs opts o) (fun a b c=>a=legs∧b=opts∧c.length≤6 ∧ ∀ x ∈ c,payv x=true):=by
 have fin:∀ (i:Nat) (o:List S55),i≤6→o.length=i→(∀ x ∈ o,payv x=true) → ¬ ((i:Int)<(l4.length:Int)∧(i:Int)<6)→Fin3 c0 c1 c2 c3 c4 c5 c6 c7 c8 c9 c10 c11 (fun k=>za5.l2 k l4 (i:Int) c0 c1 c2 c3 c4 c5 c6 c7 c8 c9 c10 c11 legs opts o) (fun a b c=>a=legs∧b=opts∧c.length≤6 ∧ ∀ x ∈ c,payv x=true):=by
  intro i o hi ho hv hn;refine ⟨legs,opts,o,Ev.step (f:=fun _=>some (c0,c1,c2,c3,c4,c5,c6,c7,c8,c9,c10,c11,legs,opts,o)) (fun k=>?_) (Ev.now _),rfl,rfl,by omega,hv⟩;simp only [za5.l2]
  by_cases c:(i:Int)<(l4.length:Int)
  ·rw [if_pos c,if_neg (fun h=>hn ⟨c,h⟩)]
  ·rw [if_neg c]
 induction d with
 | zero=>intro i o hi ho hv;exact fin i o (by omega) ho hv (by omega)
 | succ d ih=>
  intro i o hi ho hv
  by_cases c:(i:Int)<(l4.length:Int)
  ·have hm:=h4 _ (mem_rd z73 (i:=i) (by omega))
   obtain ⟨⟨q0,q1⟩,q2,q3⟩:=hm;obtain ⟨w0,v0⟩:=s16 q0;obtain ⟨w1,v1⟩:=s16 q1;obtain ⟨w2,v2⟩:=s16 q2;obtain ⟨w3,v3⟩:=s16 q3
   obtain ⟨legs',opts',pays',e,hp⟩:=ih (i+1) (o ++ [⟨⟨(rd_T73 l4 (i:Int)).f0,⟨(rd_T73 l4 (i:Int)).f1,(rd_T73 l4 (i:Int)).f2⟩⟩,(rd_T73 l4 (i:Int)).f3⟩]) (by omega) (by rw [List.length_append,List.length_singleton];omega) (fun x hx=>by
    rcases List.mem_append.1 hx with h|h
    ·exact hv x h
    ·rw [List.mem_singleton.1 h]
     unfold payv
     show (small (rd_T73 l4 (i:Int)).f0 && (small (rd_T73 l4 (i:Int)).f1 && (small (rd_T73 l4 (i:Int)).f2 && small (rd_T73 l4 (i:Int)).f3)))=true
     unfold rd_T73;rw [v0,v1,v2,v3]
     rfl)
   refine ⟨legs',opts',pays',Ev.step (fun k=>?_) e,hp⟩;simp only [za5.l2];have e0:wrap64 (rd_T73 l4 (i:Int)).f0=(rd_T73 l4 (i:Int)).f0:=w0;have e1:wrap64 (rd_T73 l4 (i:Int)).f1=(rd_T73 l4 (i:Int)).f1:=w1;have e2:wrap64 (rd_T73 l4 (i:Int)).f2=(rd_T73 l4 (i:Int)).f2:=w2;have e3:wrap64 (rd_T73 l4 (i:Int)).f3=(rd_T73 l4 (i:Int)).f3:=w3;rw [if_pos c,if_pos (by omega),if_pos (by omega),if_pos (by omega),e0,e1,e2,e3,winc' (by omega)]
  ·exact fin i o (by omega) ho hv (fun h=>c h.1)
theorem rec_opts (h3:∀ x ∈ l3,u16ok x.f0∧u16ok x.f1) (h4:∀ x ∈ l4,(i16ok x.f0∧i16ok x.f1)∧i16ok x.f2∧i16ok x.f3) (legs:List S49) (d:Nat):∀ (i:Nat) (o:List S51),i+d=4→o.length=i→(∀ x ∈ o,optg x) →
 Fin3 c0 c1 c2 c3 c4 c5 c6 c7 c8 c9 c10 c11 (fun k=>za5.l1 k l3 l4 (i:Int) c0 c1 c2 c3 c4 c5 c6 c7 c8 c9 c10 c11 legs o) (fun a b c=>a=legs∧(b.length≤4 ∧ ∀ x ∈ b,optg x)∧c.length≤6 ∧ ∀ x ∈ c,payv x=true):=by
 have fin:∀ (i:Nat) (o:List S51),i≤4→o.length=i→(∀ x ∈ o,optg x) → ¬ ((i:Int)<(l3.length:Int)∧(i:Int)<4)→Fin3 c0 c1 c2 c3 c4 c5 c6 c7 c8 c9 c10 c11 (fun k=>za5.l1 k l3 l4 (i:Int) c0 c1 c2 c3 c4 c5 c6 c7 c8 c9 c10 c11 legs o) (fun a b c=>a=legs∧(b.length≤4 ∧ ∀ x ∈ b,optg x)∧c.length≤6 ∧ ∀ x ∈ c,payv x=true):=by
  intro i o hi ho hv hn;obtain ⟨legs',opts',pays',e,e1,e2,hp⟩:=rec_pays l4 c0 c1 c2 c3 c4 c5 c6 c7 c8 c9 c10 c11 h4 legs o 6 0 [] (by omega) rfl (fun x hx=>by cases hx);subst e1 e2;refine ⟨_,_,pays',Ev.step (f:=fun k=>za5.j3 k l4 c0 c1 c2 c3 c4 c5 c6 c7 c8 c9 c10 c11 legs' opts') (fun k=>?_) (Ev.step (fun k=>by simp only [za5.j3];rfl) e),rfl,⟨by omega,hv⟩,hp⟩;simp only [za5.l1]
  by_cases c:(i:Int)<(l3.length:Int)
  ·rw [if_pos c,if_neg (fun h=>hn ⟨c,h⟩)]
  ·rw [if_neg c]
 induction d with
 | zero=>intro i o hi ho hv;exact fin i o (by omega) ho hv (by omega)
 | succ d ih=>
  intro i o hi ho hv
  by_cases c:(i:Int)<(l3.length:Int)
  ·have hm:=h3 _ (mem_rd z40 (i:=i) (by omega))
   obtain ⟨neg,num,den,es,hg⟩:=signed_ev hm.1;obtain ⟨w1,v1⟩:=su16 hm.2
   obtain ⟨legs',opts',pays',e,hp⟩:=ih (i+1) (o ++ [⟨⟨neg,num,den⟩,(rd_T40 l3 (i:Int)).f1⟩]) (by omega) (by rw [List.length_append,List.length_singleton];omega) (fun x hx=>by
    rcases List.mem_append.1 hx with h|h
    ·exact hv x h
    ·rw [List.mem_singleton.1 h]
     exact ⟨hg,v1⟩)
   have e1:wrap64 (rd_T40 l3 (i:Int)).f1=(rd_T40 l3 (i:Int)).f1:=w1;refine ⟨legs',opts',pays',Ev.step (f:=fun k=>(zb3.f k (rd_T40 l3 (i:Int)).f0).bind fun bt=>za5.l1 k l3 l4 ((i+1:Nat):Int) c0 c1 c2 c3 c4 c5 c6 c7 c8 c9 c10 c11 legs (o ++ [⟨⟨bt.1,bt.2.1,bt.2.2⟩,(rd_T40 l3 (i:Int)).f1⟩])) (fun k=>?_) (Ev.bind es e),hp⟩;simp only [za5.l1]
   have hlt:o.length<2932031007402:=by omega
   rw [if_pos c,if_pos (by omega),if_pos (by omega),e1,winc' (by omega)];simp only [if_pos hlt]
  ·exact fin i o (by omega) ho hv (fun h=>c h.1)
theorem rec_legs (h2:∀ x ∈ l2,i8ok x.f0∧i8ok x.f1) (h3:∀ x ∈ l3,u16ok x.f0∧u16ok x.f1) (h4:∀ x ∈ l4,(i16ok x.f0∧i16ok x.f1)∧i16ok x.f2∧i16ok x.f3) (d:Nat):∀ (i:Nat) (o:List S49),i+d=4→o.length=i→(∀ x ∈ o,legv x=true) →
 Fin3 c0 c1 c2 c3 c4 c5 c6 c7 c8 c9 c10 c11 (fun k=>za5.l0 k l2 l3 l4 (i:Int) c0 c1 c2 c3 c4 c5 c6 c7 c8 c9 c10 c11 o) (fun a b c=>(a.length≤4 ∧ ∀ x ∈ a,legv x=true)∧(b.length≤4 ∧ ∀ x ∈ b,optg x)∧c.length≤6 ∧ ∀ x ∈ c,payv x=true):=by
 have fin:∀ (i:Nat) (o:List S49),i≤4→o.length=i→(∀ x ∈ o,legv x=true) → ¬ ((i:Int)<(l2.length:Int)∧(i:Int)<4)→Fin3 c0 c1 c2 c3 c4 c5 c6 c7 c8 c9 c10 c11 (fun k=>za5.l0 k l2 l3 l4 (i:Int) c0 c1 c2 c3 c4 c5 c6 c7 c8 c9 c10 c11 o) (fun a b c=>(a.length≤4 ∧ ∀ x ∈ a,legv x=true)∧(b.length≤4 ∧ ∀ x ∈ b,optg x)∧c.length≤6 ∧ ∀ x ∈ c,payv x=true):=by
  intro i o hi ho hv hn;obtain ⟨legs',opts',pays',e,e1,hp⟩:=rec_opts l3 l4 c0 c1 c2 c3 c4 c5 c6 c7 c8 c9 c10 c11 h3 h4 o 4 0 [] (by omega) rfl (fun x hx=>by cases hx);subst e1;refine ⟨_,opts',pays',Ev.step (f:=fun k=>za5.j1 k l3 l4 c0 c1 c2 c3 c4 c5 c6 c7 c8 c9 c10 c11 legs') (fun k=>?_) (Ev.step (fun k=>by simp only [za5.j1];rfl) e),⟨by omega,hv⟩,hp⟩;simp only [za5.l0]
  by_cases c:(i:Int)<(l2.length:Int)
  ·rw [if_pos c,if_neg (fun h=>hn ⟨c,h⟩)]
  ·rw [if_neg c]
 induction d with
 | zero=>intro i o hi ho hv;exact fin i o (by omega) ho hv (by omega)
 | succ d ih=>
  intro i o hi ho hv
  by_cases c:(i:Int)<(l2.length:Int)
  ·have hm:=h2 _ (mem_rd z72 (i:=i) (by omega))
   obtain ⟨w0,v0⟩:=s8 hm.1;obtain ⟨w1,v1⟩:=s8 hm.2;have e0:wrap64 (rd_T72 l2 (i:Int)).f0=(rd_T72 l2 (i:Int)).f0:=w0;have e1:wrap64 (rd_T72 l2 (i:Int)).f1=(rd_T72 l2 (i:Int)).f1:=w1
   obtain ⟨legs',opts',pays',e,hp⟩:=ih (i+1) (o ++ [⟨(rd_T72 l2 (i:Int)).f0,(rd_T72 l2 (i:Int)).f1⟩]) (by omega) (by rw [List.length_append,List.length_singleton];omega) (fun x hx=>by
    rcases List.mem_append.1 hx with h|h
    ·exact hv x h
    ·rw [List.mem_singleton.1 h]
     unfold legv
     show (small (rd_T72 l2 (i:Int)).f0 && small (rd_T72 l2 (i:Int)).f1)=true
     unfold rd_T72;rw [v0,v1]
     rfl)
   refine ⟨legs',opts',pays',Ev.step (fun k=>?_) e,hp⟩;simp only [za5.l0];rw [if_pos c,if_pos (by omega),if_pos (by omega),if_pos (by omega),e0,e1,winc' (by omega)]
  ·exact fin i o (by omega) ho hv (fun h=>c h.1)
end
structure Gd (r:Rc):Prop where
 ok:Ok r
 told:Told r (fun _ _ _=>true)
 b7:r.s7.size≤8
 b8:r.s8.size≤8
 b10:r.s10.size≤8
 b11:r.s11.size≤8
 bl:r.legs.length≤4
 bp:r.pays.length≤6
 bo:∀ x ∈ r.opts,x.f0.f1.size≤8∧x.f0.f2.size≤8
def Rc.tup (r:Rc):Int×Int×Int×Int×Int×Int×Bool×ByteArray×ByteArray×Bool×ByteArray×ByteArray×(List (S49))×(List (S51))×(List (S55)):=(r.a0,r.a1,r.a2,r.a3,r.a4,r.a5,r.n6,r.s7,r.s8,r.n9,r.s10,r.s11,r.legs,r.opts,r.pays)
theorem record_ev {x0 x1 x2 x3 x4 x5 y0 y1:Int} {l2:List S72} {l3:List S40} {l4:List S73} (h0:i16ok x0) (h1:i16ok x1) (h2:i16ok x2) (h3:i16ok x3) (h4:i16ok x4) (h5:i16ok x5) (g0:u16ok y0) (g1:u16ok y1)
 (k2:∀ x ∈ l2,i8ok x.f0∧i8ok x.f1) (k3:∀ x ∈ l3,u16ok x.f0∧u16ok x.f1) (k4:∀ x ∈ l4,(i16ok x.f0∧i16ok x.f1)∧i16ok x.f2∧i16ok x.f3) :
 ∃ r:Rc,Gd r∧Ev (fun k=>za5.f k x0 x1 x2 x3 x4 x5 y0 y1 l2 l3 l4) r.tup:=by
 obtain ⟨n6,s7,s8,e6,q0,q1,q2⟩:=signed_ev g0;obtain ⟨n9,s10,s11,e9,p0,p1,p2⟩:=signed_ev g1;obtain ⟨w0,v0⟩:=s16 h0;obtain ⟨w1,v1⟩:=s16 h1;obtain ⟨w2,v2⟩:=s16 h2;obtain ⟨w3,v3⟩:=s16 h3;obtain ⟨w4,v4⟩:=s16 h4;obtain ⟨w5,v5⟩:=s16 h5;obtain ⟨legs,opts,pays,e,⟨a1,a2⟩,⟨b1,b2⟩,d1,d2⟩:=rec_legs l2 l3 l4 x0 x1 x2 x3 x4 x5 n6 s7 s8 n9 s10 s11 k2 k3 k4 4 0 [] (by omega) rfl (fun x hx=>by cases hx)
 have up:∀ {n:Nat},n≤8→n≤4096:=fun h=>Nat.le_trans h (by decide)
 refine ⟨⟨x0,x1,x2,x3,x4,x5,n6,s7,s8,n9,s10,s11,legs,opts,pays⟩,⟨⟨v0,v1,v2,v3,v4,v5,up q0,up q1,up p0,up p1,Nat.le_trans a1 (by decide),b1,Nat.le_trans d1 (by decide),a2,fun x hx=>⟨⟨up (b2 x hx).1.1,up (b2 x hx).1.2.1⟩,(b2 x hx).2⟩,d2⟩,⟨q2,p2,fun x hx=>(b2 x hx).1.2.2⟩,q0,q1,p0,p1,a1,d1,fun x hx=>⟨(b2 x hx).1.1,(b2 x hx).1.2.1⟩⟩,?_⟩;unfold za5.f;rw [w0,w1,w2,w3,w4,w5];exact Ev.bind e6 (Ev.bind e9 e)
theorem nbytes_le (l:List Int):(nbytes l).length≤11*l.length:=by
 induction l with
 | nil=>exact Nat.le_refl _
 | cons a t ih=>
  have:=vbytes_len a
  show (vbytes a ++ nbytes t).length≤_
  rw [List.length_append,List.length_cons];omega
theorem frat_le {neg:Bool} {num den:ByteArray} (h1:num.size≤8) (h2:den.size≤8):(frat neg num den).length≤49:=by
 have d1:=vbytes_len (nb neg);have d2:=(fbytes_len num).1;have d3:=(fbytes_len den).1;unfold frat;simp only [List.length_append];omega
theorem flat_le {α : Type} {f : α → List Int} (c:Nat) (l:List α) (h:∀ x ∈ l,(f x).length≤c):(l.flatMap f).length≤c*l.length:=by
 induction l with
 | nil=>exact Nat.zero_le _
 | cons a t ih=>
  have h1:=h a (List.mem_cons_self ..)
  have h2:=ih fun x hx=>h x (List.mem_cons_of_mem _ hx)
  rw [List.flatMap_cons,List.length_append,List.length_cons,Nat.mul_succ];omega
theorem bytes_bys (r:Rc):Bys r.bytes:=(nbytes_bys _).app ((frat_bys _ _ _).app ((frat_bys _ _ _).app ((nbytes_bys _).app ((flat_bys legb_bys _).app ((nbytes_bys _).app ((flat_bys optb_bys _).app ((nbytes_bys _).app (flat_bys payb_bys _))))))))
theorem Gd.len {r:Rc} (g:Gd r):r.bytes.length≤1000:=by
 have l0:=nbytes_le [r.a0,r.a1,r.a2,r.a3,r.a4,r.a5];have l1:=nbytes_le [(r.legs.length:Int)];have l2:=nbytes_le [(r.opts.length:Int)];have l3:=nbytes_le [(r.pays.length:Int)];have f1:=frat_le (neg:=r.n6) g.b7 g.b8;have f2:=frat_le (neg:=r.n9) g.b10 g.b11
 have m1:=flat_le (f:=legb) 22 r.legs fun x _=>nbytes_le _
 have m2:=flat_le (f:=optb) 60 r.opts fun x hx=>by
  have a:=frat_le (neg:=x.f0.f0) (g.bo x hx).1 (g.bo x hx).2;have b:=nbytes_le [x.f1];unfold optb;rw [List.length_append];rw [List.length_singleton] at b;omega
 have m3:=flat_le (f:=payb) 44 r.pays fun x _=>by
  have a:=nbytes_le [x.f0.f0,x.f0.f1.f0,x.f0.f1.f1];have b:=nbytes_le [x.f1];unfold payb;rw [List.length_append];simp only [List.length_cons,List.length_nil] at a b;omega
 have k1:=g.bl;have k2:=g.ok.ho;have k3:=g.bp;unfold Rc.bytes;simp only [List.length_append];simp only [List.length_cons,List.length_nil] at l0 l1 l2 l3
 omega
theorem Gd.short {r:Rc} (g:Gd r):¬ r.long:=by
 have k1:=g.bl;have k2:=g.ok.ho;have k3:=g.bp;unfold Rc.long;omega
theorem Gd.vld {r:Rc} (g:Gd r):r.vld (fun _ _ _=>true)=true:=by
 have hl:=g.len
 have e1:[r.a0,r.a1,r.a2,r.a3,r.a4,r.a5].all small=true:=by
  simp only [List.all_cons,List.all_nil,g.ok.g0,g.ok.g1,g.ok.g2,g.ok.g3,g.ok.g4,g.ok.g5,Bool.and_self]
 have e2:r.legs.all legv=true:=List.all_eq_true.2 g.ok.vl
 have e3:r.opts.all (optv fun _ _ _=>true)=true:=List.all_eq_true.2 fun x hx=>by unfold optv;rw [(g.ok.vo x hx).2];rfl
 have e4:r.pays.all payv=true:=List.all_eq_true.2 g.ok.vp;have e5:decide ((r.bytes.length:Int)≤4096)=true:=decide_eq_true (by omega);unfold Rc.vld Rc.v1 Rc.v2 Rc.v3;rw [if_neg g.short,e1,e2,e3,e4,e5]
 rfl
theorem Gd.toks {r:Rc} (g:Gd r):r.toks:=by
 have up:∀ {n:Nat},n≤8→n≤4096:=fun h=>Nat.le_trans h (by decide)
 exact ⟨⟨decide_eq_true (up g.b7),decide_eq_true (up g.b8)⟩,⟨decide_eq_true (up g.b10),decide_eq_true (up g.b11)⟩,fun x hx=>⟨decide_eq_true (up (g.bo x hx).1),decide_eq_true (up (g.bo x hx).2)⟩⟩
theorem Gd.Encode {r:Rc} (g:Gd r):Ev (fun k=>zcb.f k r.a0 r.a1 r.a2 r.a3 r.a4 r.a5 r.n6 r.s7 r.s8 r.n9 r.s10 r.s11 r.legs r.opts r.pays) (r.bytes,0):=by
 have h:=Encode_ev r _ g.told;rw [Rc.enc,if_pos g.vld] at h;exact h
theorem Gd.encode {r:Rc} (g:Gd r):Ev (fun k=>zce.f k r.a0 r.a1 r.a2 r.a3 r.a4 r.a5 r.n6 r.s7 r.s8 r.n9 r.s10 r.s11 r.legs r.opts r.pays) (r.bytes,true):=by
 have h:=encode_ev r _ g.told;obtain ⟨e1,e2⟩:=toks_eq r (fun _ _ _=>true) g.toks g.short;rw [if_neg g.short,e1,e2,g.vld] at h;exact h
theorem Gd.Decode {r:Rc} (g:Gd r):Ev (fun k=>zb8.f k r.bytes) r.out:=decode_r g.ok (bytes_bys r) (Nat.le_trans g.len (by decide)) g.encode
end Go.Proofs.YtcipcpodgkeobaaDoor.Num
end
section
namespace Go.Proofs.YtcipcpodgkeobaaDoor.Pure
open Go.Proofs.YtcipcpodgkeobaaDoor.Num Go.RowKit Go.Proofs.YtcipcpodgkeobaaDoor.F Go.Proofs.YtcipcpodgkeobaaDoorW.PrintWords Go.Proofs.YtcipcpodgkeobaaDoorW.PrintLast
theorem CodecRound (x0 x1 x2 x3 x4 x5 y0 y1:Int) (l2:List S72) (l3:List S40) (l4:List S73) (h0:i16ok x0) (h1:i16ok x1) (h2:i16ok x2) (h3:i16ok x3) (h4:i16ok x4) (h5:i16ok x5) (g0:u16ok y0) (g1:u16ok y1)
 (k2:∀ x ∈ l2,i8ok x.f0∧i8ok x.f1) (k3:∀ x ∈ l3,u16ok x.f0∧u16ok x.f1) (k4:∀ x ∈ l4,(i16ok x.f0∧i16ok x.f1)∧i16ok x.f2∧i16ok x.f3) :
 ∃ k,zcc.f k x0 x1 x2 x3 x4 x5 y0 y1 l2 l3 l4=some true:=by
 obtain ⟨r,g,e⟩:=record_ev h0 h1 h2 h3 h4 h5 g0 g1 k2 k3 k4;refine some_of ?_;unfold zcc.f;refine Ev.bind e (Ev.bind g.Encode (Ev.bind g.Decode (Ev.bind awake_ev (Ev.ite rfl (Ev.ite rfl (Ev.ite rfl (Ev.bind (same_self r g.ok) (Ev.now _))))))))
end Go.Proofs.YtcipcpodgkeobaaDoor.Pure
end
