/- Part 9 of the proof of CodecEdges: the functions' walks and what they compute, in the order of the calls; each holds for all arguments that its row allows. -/
import Derived.Test.YtcipcpodgkeobaaDoorMCodecEdges6
import Derived.Test.YtcipcpodgkeobaaDoorMCodecEdges7
import Derived.Test.YtcipcpodgkeobaaDoorMCodecEdges8
section
namespace Go.Proofs.YtcipcpodgkeobaaDoor.F
open Go.RowKit Go.Proofs.YtcipcpodgkeobaaDoorW.PrintWords Go.Proofs.YtcipcpodgkeobaaDoorW.PrintLast Go.Proofs.YtcipcpodgkeobaaDoorW.PrintMore
attribute [local go_sem] max2_int min2_int max_two min_two max_three min_three max_four min_four   
set_option linter.unusedVariables false
set_option linter.unusedSimpArgs false
mutual
def insolvencyref33_Valid.l0:Nat→List Int→Int→Int→Int→Int→Int→Int→Int→Bool→ByteArray→ByteArray→Bool→ByteArray→ByteArray→List (S49)→List (S51)→List (S55)→Option (Bool)
 | 0,_,_,_,_,_,_,_,_,_,_,_,_,_,_,_,_,_=>none
 | k+1,x3,x4,x254000,x254001,x254002,x254003,x254004,x254005,x254006,x254007,x254008,x254009,x254010,x254011,x254012,x254013,x254014=>if x4<(x3.length:Int) then (if 0≤x4 then ((insolvencyref33_small.f (rd x3 x4)).bind fun t258=>(if t258=true then (insolvencyref33_Valid.l0 k x3 (wrap64 (x4+1)) x254000 x254001 x254002 x254003 x254004 x254005 x254006 x254007 x254008 x254009 x254010 x254011 x254012 x254013 x254014) else (some false))) else (none)) else ((insolvencyref1_Valid.f k x254006 x254007 x254008).bind fun t259=>(if t259=true then ((insolvencyref1_Valid.f k x254009 x254010 x254011).bind fun t260=>(if t260=true then (if (x254012.length:Int)>8 then (insolvencyref33_Valid.j1 k true x254000 x254001 x254002 x254003 x254004 x254005 x254006 x254007 x254008 x254009 x254010 x254011 x254012 x254013 x254014) else (if (x254013.length:Int)>4 then (insolvencyref33_Valid.j1 k true x254000 x254001 x254002 x254003 x254004 x254005 x254006 x254007 x254008 x254009 x254010 x254011 x254012 x254013 x254014) else (insolvencyref33_Valid.j1 k (decide ((x254014.length:Int)>256)) x254000 x254001 x254002 x254003 x254004 x254005 x254006 x254007 x254008 x254009 x254010 x254011 x254012 x254013 x254014))) else (insolvencyref33_Valid.j1 k true x254000 x254001 x254002 x254003 x254004 x254005 x254006 x254007 x254008 x254009 x254010 x254011 x254012 x254013 x254014))) else (insolvencyref33_Valid.j1 k true x254000 x254001 x254002 x254003 x254004 x254005 x254006 x254007 x254008 x254009 x254010 x254011 x254012 x254013 x254014)))
def insolvencyref33_Valid.j1:Nat→Bool→Int→Int→Int→Int→Int→Int→Bool→ByteArray→ByteArray→Bool→ByteArray→ByteArray→List (S49)→List (S51)→List (S55)→Option (Bool)
 | 0,_,_,_,_,_,_,_,_,_,_,_,_,_,_,_,_=>none
 | k+1,x55,x254000,x254001,x254002,x254003,x254004,x254005,x254006,x254007,x254008,x254009,x254010,x254011,x254012,x254013,x254014=>if x55=true then (some false) else (insolvencyref33_Valid.l1 k 0 x254000 x254001 x254002 x254003 x254004 x254005 x254006 x254007 x254008 x254009 x254010 x254011 x254012 x254013 x254014)
def insolvencyref33_Valid.l1:Nat→Int→Int→Int→Int→Int→Int→Int→Bool→ByteArray→ByteArray→Bool→ByteArray→ByteArray→List (S49)→List (S51)→List (S55)→Option (Bool)
 | 0,_,_,_,_,_,_,_,_,_,_,_,_,_,_,_,_=>none
 | k+1,x5,x254000,x254001,x254002,x254003,x254004,x254005,x254006,x254007,x254008,x254009,x254010,x254011,x254012,x254013,x254014=>if x5<(x254012.length:Int) then (if 0≤x5 then ((insolvencyref33_small.f ((rd_T49 x254012 x5).f0)).bind fun t262=>(if t262=true then ((insolvencyref33_small.f ((rd_T49 x254012 x5).f1)).bind fun t264=>(if t264=true then (insolvencyref33_Valid.l1 k (wrap64 (x5+1)) x254000 x254001 x254002 x254003 x254004 x254005 x254006 x254007 x254008 x254009 x254010 x254011 x254012 x254013 x254014) else (some false))) else (some false))) else (none)) else (insolvencyref33_Valid.l2 k 0 x254000 x254001 x254002 x254003 x254004 x254005 x254006 x254007 x254008 x254009 x254010 x254011 x254012 x254013 x254014)
def insolvencyref33_Valid.l2:Nat→Int→Int→Int→Int→Int→Int→Int→Bool→ByteArray→ByteArray→Bool→ByteArray→ByteArray→List (S49)→List (S51)→List (S55)→Option (Bool)
 | 0,_,_,_,_,_,_,_,_,_,_,_,_,_,_,_,_=>none
 | k+1,x6,x254000,x254001,x254002,x254003,x254004,x254005,x254006,x254007,x254008,x254009,x254010,x254011,x254012,x254013,x254014=>if x6<(x254013.length:Int) then (if 0≤x6 then ((insolvencyref1_Valid.f k ((rd_T51 x254013 x6).f0.f0) ((rd_T51 x254013 x6).f0.f1) ((rd_T51 x254013 x6).f0.f2)).bind fun t266=>(if t266=true then ((insolvencyref33_small.f ((rd_T51 x254013 x6).f1)).bind fun t268=>(if t268=true then (insolvencyref33_Valid.l2 k (wrap64 (x6+1)) x254000 x254001 x254002 x254003 x254004 x254005 x254006 x254007 x254008 x254009 x254010 x254011 x254012 x254013 x254014) else (some false))) else (some false))) else (none)) else (insolvencyref33_Valid.l3 k 0 x254000 x254001 x254002 x254003 x254004 x254005 x254006 x254007 x254008 x254009 x254010 x254011 x254012 x254013 x254014)
def insolvencyref33_Valid.l3:Nat→Int→Int→Int→Int→Int→Int→Int→Bool→ByteArray→ByteArray→Bool→ByteArray→ByteArray→List (S49)→List (S51)→List (S55)→Option (Bool)
 | 0,_,_,_,_,_,_,_,_,_,_,_,_,_,_,_,_=>none
 | k+1,x7,x254000,x254001,x254002,x254003,x254004,x254005,x254006,x254007,x254008,x254009,x254010,x254011,x254012,x254013,x254014=>if x7<(x254014.length:Int) then (if 0≤x7 then ((insolvencyref33_small.f ((rd_T55 x254014 x7).f0.f0)).bind fun t274=>(if t274=true then ((insolvencyref33_small.f ((rd_T55 x254014 x7).f0.f1.f0)).bind fun t275=>(if t275=true then ((insolvencyref33_small.f ((rd_T55 x254014 x7).f0.f1.f1)).bind fun t276=>(if t276=true then ((insolvencyref33_small.f ((rd_T55 x254014 x7).f1)).bind fun t277=>(if t277=true then (insolvencyref33_Valid.l3 k (wrap64 (x7+1)) x254000 x254001 x254002 x254003 x254004 x254005 x254006 x254007 x254008 x254009 x254010 x254011 x254012 x254013 x254014) else (some false))) else (some false))) else (some false))) else (some false))) else (none)) else ((insolvencyref33_bytesOf.f k x254000 x254001 x254002 x254003 x254004 x254005 x254006 x254007 x254008 x254009 x254010 x254011 x254012 x254013 x254014).bind fun t269=>(some (decide ((t269.length:Int)≤4096))))
end
def insolvencyref33_Valid.f (k:Nat) (a0_0:Int) (a0_1:Int) (a0_2:Int) (a0_3:Int) (a0_4:Int) (a0_5:Int) (a0_6:Bool) (a0_7:ByteArray) (a0_8:ByteArray) (a0_9:Bool) (a0_10:ByteArray) (a0_11:ByteArray) (l0_12:List (S49)) (l0_13:List (S51)) (l0_14:List (S55)):Option (Bool):=(insolvencyref33_ints.f a0_0 a0_1 a0_2 a0_3 a0_4 a0_5 a0_6 a0_7 a0_8 a0_9 a0_10 a0_11 l0_12 l0_13).bind fun t254=>(insolvencyref33_Valid.l0 k t254 0 a0_0 a0_1 a0_2 a0_3 a0_4 a0_5 a0_6 a0_7 a0_8 a0_9 a0_10 a0_11 l0_12 l0_13 l0_14)
theorem insolvencyref33_Valid.mono_l:∀ k,(∀ y0 y1 y2 y3 y4 y5 y6 y7 y8 y9 y10 y11 y12 y13 y14 y15 y16,LeO (insolvencyref33_Valid.l0 k y0 y1 y2 y3 y4 y5 y6 y7 y8 y9 y10 y11 y12 y13 y14 y15 y16) (insolvencyref33_Valid.l0 (k+1) y0 y1 y2 y3 y4 y5 y6 y7 y8 y9 y10 y11 y12 y13 y14 y15 y16))∧(∀ y0 y1 y2 y3 y4 y5 y6 y7 y8 y9 y10 y11 y12 y13 y14 y15,LeO (insolvencyref33_Valid.j1 k y0 y1 y2 y3 y4 y5 y6 y7 y8 y9 y10 y11 y12 y13 y14 y15) (insolvencyref33_Valid.j1 (k+1) y0 y1 y2 y3 y4 y5 y6 y7 y8 y9 y10 y11 y12 y13 y14 y15))∧(∀ y0 y1 y2 y3 y4 y5 y6 y7 y8 y9 y10 y11 y12 y13 y14 y15,LeO (insolvencyref33_Valid.l1 k y0 y1 y2 y3 y4 y5 y6 y7 y8 y9 y10 y11 y12 y13 y14 y15) (insolvencyref33_Valid.l1 (k+1) y0 y1 y2 y3 y4 y5 y6 y7 y8 y9 y10 y11 y12 y13 y14 y15))∧(∀ y0 y1 y2 y3 y4 y5 y6 y7 y8 y9 y10 y11 y12 y13 y14 y15,LeO (insolvencyref33_Valid.l2 k y0 y1 y2 y3 y4 y5 y6 y7 y8 y9 y10 y11 y12 y13 y14 y15) (insolvencyref33_Valid.l2 (k+1) y0 y1 y2 y3 y4 y5 y6 y7 y8 y9 y10 y11 y12 y13 y14 y15))∧(∀ y0 y1 y2 y3 y4 y5 y6 y7 y8 y9 y10 y11 y12 y13 y14 y15,LeO (insolvencyref33_Valid.l3 k y0 y1 y2 y3 y4 y5 y6 y7 y8 y9 y10 y11 y12 y13 y14 y15) (insolvencyref33_Valid.l3 (k+1) y0 y1 y2 y3 y4 y5 y6 y7 y8 y9 y10 y11 y12 y13 y14 y15))
 | 0=>⟨fun _ _ _ _ _ _ _ _ _ _ _ _ _ _ _ _ _ r h=>by simp [insolvencyref33_Valid.l0] at h,fun _ _ _ _ _ _ _ _ _ _ _ _ _ _ _ _ r h=>by simp [insolvencyref33_Valid.j1] at h,fun _ _ _ _ _ _ _ _ _ _ _ _ _ _ _ _ r h=>by simp [insolvencyref33_Valid.l1] at h,fun _ _ _ _ _ _ _ _ _ _ _ _ _ _ _ _ r h=>by simp [insolvencyref33_Valid.l2] at h,fun _ _ _ _ _ _ _ _ _ _ _ _ _ _ _ _ r h=>by simp [insolvencyref33_Valid.l3] at h⟩
 | k+1=>by
  obtain ⟨ih0,ih1,ih2,ih3,ih4⟩:=insolvencyref33_Valid.mono_l k
  refine ⟨?_,?_,?_,?_,?_⟩
  ·intro y0 y1 y2 y3 y4 y5 y6 y7 y8 y9 y10 y11 y12 y13 y14 y15 y16
   unfold insolvencyref33_Valid.l0
   repeat' first
   | (with_reducible exact ih0 _ _ _ _ _ _ _ _ _ _ _ _ _ _ _ _ _)
   | (with_reducible exact ih1 _ _ _ _ _ _ _ _ _ _ _ _ _ _ _ _)
   | (with_reducible exact ih2 _ _ _ _ _ _ _ _ _ _ _ _ _ _ _ _)
   | (with_reducible exact ih3 _ _ _ _ _ _ _ _ _ _ _ _ _ _ _ _)
   | (with_reducible exact ih4 _ _ _ _ _ _ _ _ _ _ _ _ _ _ _ _)
   | (with_reducible exact insolvencyref1_Valid.mono _ _ _ _)
   | (with_reducible exact insolvencyref33_bytesOf.mono _ _ _ _ _ _ _ _ _ _ _ _ _ _ _ _)
   | (with_reducible exact LeO.refl _)
   | (with_reducible exact LeO.none _)
   | (with_reducible refine LeO.ite ?_ ?_)
   | (with_reducible refine LeO.bind ?_ (fun _=>?_))
   | exact ih0 _ _ _ _ _ _ _ _ _ _ _ _ _ _ _ _ _
   | exact ih1 _ _ _ _ _ _ _ _ _ _ _ _ _ _ _ _
   | exact ih2 _ _ _ _ _ _ _ _ _ _ _ _ _ _ _ _
   | exact ih3 _ _ _ _ _ _ _ _ _ _ _ _ _ _ _ _
   | exact ih4 _ _ _ _ _ _ _ _ _ _ _ _ _ _ _ _
   | exact insolvencyref1_Valid.mono _ _ _ _
   | exact insolvencyref33_bytesOf.mono _ _ _ _ _ _ _ _ _ _ _ _ _ _ _ _
   | exact LeO.none _
   | refine LeO.ite ?_ ?_
   | refine LeO.bind ?_ (fun _=>?_)
  ·intro y0 y1 y2 y3 y4 y5 y6 y7 y8 y9 y10 y11 y12 y13 y14 y15
   unfold insolvencyref33_Valid.j1
   repeat' first
   | (with_reducible exact ih0 _ _ _ _ _ _ _ _ _ _ _ _ _ _ _ _ _)
   | (with_reducible exact ih1 _ _ _ _ _ _ _ _ _ _ _ _ _ _ _ _)
   | (with_reducible exact ih2 _ _ _ _ _ _ _ _ _ _ _ _ _ _ _ _)
   | (with_reducible exact ih3 _ _ _ _ _ _ _ _ _ _ _ _ _ _ _ _)
   | (with_reducible exact ih4 _ _ _ _ _ _ _ _ _ _ _ _ _ _ _ _)
   | (with_reducible exact insolvencyref1_Valid.mono _ _ _ _)
   | (with_reducible exact insolvencyref33_bytesOf.mono _ _ _ _ _ _ _ _ _ _ _ _ _ _ _ _)
   | (with_reducible exact LeO.refl _)
   | (with_reducible exact LeO.none _)
   | (with_reducible refine LeO.ite ?_ ?_)
   | (with_reducible refine LeO.bind ?_ (fun _=>?_))
   | exact ih0 _ _ _ _ _ _ _ _ _ _ _ _ _ _ _ _ _
   | exact ih1 _ _ _ _ _ _ _ _ _ _ _ _ _ _ _ _
   | exact ih2 _ _ _ _ _ _ _ _ _ _ _ _ _ _ _ _
   | exact ih3 _ _ _ _ _ _ _ _ _ _ _ _ _ _ _ _
   | exact ih4 _ _ _ _ _ _ _ _ _ _ _ _ _ _ _ _
   | exact insolvencyref1_Valid.mono _ _ _ _
   | exact insolvencyref33_bytesOf.mono _ _ _ _ _ _ _ _ _ _ _ _ _ _ _ _
   | exact LeO.none _
   | refine LeO.ite ?_ ?_
   | refine LeO.bind ?_ (fun _=>?_)
  ·intro y0 y1 y2 y3 y4 y5 y6 y7 y8 y9 y10 y11 y12 y13 y14 y15
   unfold insolvencyref33_Valid.l1
   repeat' first
   | (with_reducible exact ih0 _ _ _ _ _ _ _ _ _ _ _ _ _ _ _ _ _)
   | (with_reducible exact ih1 _ _ _ _ _ _ _ _ _ _ _ _ _ _ _ _)
   | (with_reducible exact ih2 _ _ _ _ _ _ _ _ _ _ _ _ _ _ _ _)
   | (with_reducible exact ih3 _ _ _ _ _ _ _ _ _ _ _ _ _ _ _ _)
   | (with_reducible exact ih4 _ _ _ _ _ _ _ _ _ _ _ _ _ _ _ _)
   | (with_reducible exact insolvencyref1_Valid.mono _ _ _ _)
   | (with_reducible exact insolvencyref33_bytesOf.mono _ _ _ _ _ _ _ _ _ _ _ _ _ _ _ _)
   | (with_reducible exact LeO.refl _)
   | (with_reducible exact LeO.none _)
   | (with_reducible refine LeO.ite ?_ ?_)
   | (with_reducible refine LeO.bind ?_ (fun _=>?_))
   | exact ih0 _ _ _ _ _ _ _ _ _ _ _ _ _ _ _ _ _
   | exact ih1 _ _ _ _ _ _ _ _ _ _ _ _ _ _ _ _
   | exact ih2 _ _ _ _ _ _ _ _ _ _ _ _ _ _ _ _
   | exact ih3 _ _ _ _ _ _ _ _ _ _ _ _ _ _ _ _
   | exact ih4 _ _ _ _ _ _ _ _ _ _ _ _ _ _ _ _
   | exact insolvencyref1_Valid.mono _ _ _ _
   | exact insolvencyref33_bytesOf.mono _ _ _ _ _ _ _ _ _ _ _ _ _ _ _ _
   | exact LeO.none _
   | refine LeO.ite ?_ ?_
   | refine LeO.bind ?_ (fun _=>?_)
  ·intro y0 y1 y2 y3 y4 y5 y6 y7 y8 y9 y10 y11 y12 y13 y14 y15
   unfold insolvencyref33_Valid.l2
   repeat' first
   | (with_reducible exact ih0 _ _ _ _ _ _ _ _ _ _ _ _ _ _ _ _ _)
   | (with_reducible exact ih1 _ _ _ _ _ _ _ _ _ _ _ _ _ _ _ _)
   | (with_reducible exact ih2 _ _ _ _ _ _ _ _ _ _ _ _ _ _ _ _)
   | (with_reducible exact ih3 _ _ _ _ _ _ _ _ _ _ _ _ _ _ _ _)
   | (with_reducible exact ih4 _ _ _ _ _ _ _ _ _ _ _ _ _ _ _ _)
   | (with_reducible exact insolvencyref1_Valid.mono _ _ _ _)
   | (with_reducible exact insolvencyref33_bytesOf.mono _ _ _ _ _ _ _ _ _ _ _ _ _ _ _ _)
   | (with_reducible exact LeO.refl _)
   | (with_reducible exact LeO.none _)
   | (with_reducible refine LeO.ite ?_ ?_)
   | (with_reducible refine LeO.bind ?_ (fun _=>?_))
   | exact ih0 _ _ _ _ _ _ _ _ _ _ _ _ _ _ _ _ _
   | exact ih1 _ _ _ _ _ _ _ _ _ _ _ _ _ _ _ _
   | exact ih2 _ _ _ _ _ _ _ _ _ _ _ _ _ _ _ _
   | exact ih3 _ _ _ _ _ _ _ _ _ _ _ _ _ _ _ _
   | exact ih4 _ _ _ _ _ _ _ _ _ _ _ _ _ _ _ _
   | exact insolvencyref1_Valid.mono _ _ _ _
   | exact insolvencyref33_bytesOf.mono _ _ _ _ _ _ _ _ _ _ _ _ _ _ _ _
   | exact LeO.none _
   | refine LeO.ite ?_ ?_
   | refine LeO.bind ?_ (fun _=>?_)
  ·intro y0 y1 y2 y3 y4 y5 y6 y7 y8 y9 y10 y11 y12 y13 y14 y15
   unfold insolvencyref33_Valid.l3
   repeat' first
   | (with_reducible exact ih0 _ _ _ _ _ _ _ _ _ _ _ _ _ _ _ _ _)
   | (with_reducible exact ih1 _ _ _ _ _ _ _ _ _ _ _ _ _ _ _ _)
   | (with_reducible exact ih2 _ _ _ _ _ _ _ _ _ _ _ _ _ _ _ _)
   | (with_reducible exact ih3 _ _ _ _ _ _ _ _ _ _ _ _ _ _ _ _)
   | (with_reducible exact ih4 _ _ _ _ _ _ _ _ _ _ _ _ _ _ _ _)
   | (with_reducible exact insolvencyref1_Valid.mono _ _ _ _)
   | (with_reducible exact insolvencyref33_bytesOf.mono _ _ _ _ _ _ _ _ _ _ _ _ _ _ _ _)
   | (with_reducible exact LeO.refl _)
   | (with_reducible exact LeO.none _)
   | (with_reducible refine LeO.ite ?_ ?_)
   | (with_reducible refine LeO.bind ?_ (fun _=>?_))
   | exact ih0 _ _ _ _ _ _ _ _ _ _ _ _ _ _ _ _ _
   | exact ih1 _ _ _ _ _ _ _ _ _ _ _ _ _ _ _ _
   | exact ih2 _ _ _ _ _ _ _ _ _ _ _ _ _ _ _ _
   | exact ih3 _ _ _ _ _ _ _ _ _ _ _ _ _ _ _ _
   | exact ih4 _ _ _ _ _ _ _ _ _ _ _ _ _ _ _ _
   | exact insolvencyref1_Valid.mono _ _ _ _
   | exact insolvencyref33_bytesOf.mono _ _ _ _ _ _ _ _ _ _ _ _ _ _ _ _
   | exact LeO.none _
   | refine LeO.ite ?_ ?_
   | refine LeO.bind ?_ (fun _=>?_)
theorem insolvencyref33_Valid.mono:∀ a0 a1 a2 a3 a4 a5 a6 a7 a8 a9 a10 a11 a12 a13 a14 k,LeO (insolvencyref33_Valid.f k a0 a1 a2 a3 a4 a5 a6 a7 a8 a9 a10 a11 a12 a13 a14) (insolvencyref33_Valid.f (k+1) a0 a1 a2 a3 a4 a5 a6 a7 a8 a9 a10 a11 a12 a13 a14):=by
 intro a0 a1 a2 a3 a4 a5 a6 a7 a8 a9 a10 a11 a12 a13 a14 k
 obtain ⟨ih0,ih1,ih2,ih3,ih4⟩:=insolvencyref33_Valid.mono_l k
 unfold insolvencyref33_Valid.f
 repeat' first
  | (with_reducible exact ih0 _ _ _ _ _ _ _ _ _ _ _ _ _ _ _ _ _)
  | (with_reducible exact ih1 _ _ _ _ _ _ _ _ _ _ _ _ _ _ _ _)
  | (with_reducible exact ih2 _ _ _ _ _ _ _ _ _ _ _ _ _ _ _ _)
  | (with_reducible exact ih3 _ _ _ _ _ _ _ _ _ _ _ _ _ _ _ _)
  | (with_reducible exact ih4 _ _ _ _ _ _ _ _ _ _ _ _ _ _ _ _)
  | (with_reducible exact insolvencyref1_Valid.mono _ _ _ _)
  | (with_reducible exact insolvencyref33_bytesOf.mono _ _ _ _ _ _ _ _ _ _ _ _ _ _ _ _)
  | (with_reducible exact LeO.refl _)
  | (with_reducible exact LeO.none _)
  | (with_reducible refine LeO.ite ?_ ?_)
  | (with_reducible refine LeO.bind ?_ (fun _=>?_))
  | exact ih0 _ _ _ _ _ _ _ _ _ _ _ _ _ _ _ _ _
  | exact ih1 _ _ _ _ _ _ _ _ _ _ _ _ _ _ _ _
  | exact ih2 _ _ _ _ _ _ _ _ _ _ _ _ _ _ _ _
  | exact ih3 _ _ _ _ _ _ _ _ _ _ _ _ _ _ _ _
  | exact ih4 _ _ _ _ _ _ _ _ _ _ _ _ _ _ _ _
  | exact insolvencyref1_Valid.mono _ _ _ _
  | exact insolvencyref33_bytesOf.mono _ _ _ _ _ _ _ _ _ _ _ _ _ _ _ _
  | exact LeO.none _
  | refine LeO.ite ?_ ?_
  | refine LeO.bind ?_ (fun _=>?_)
set_option maxHeartbeats 8000000 in
set_option maxRecDepth 100000 in
theorem insolvencyref33_Valid.calls (k:Nat) (a0_0:Int) (a0_1:Int) (a0_2:Int) (a0_3:Int) (a0_4:Int) (a0_5:Int) (a0_6:Bool) (a0_7:ByteArray) (a0_8:ByteArray) (a0_9:Bool) (a0_10:ByteArray) (a0_11:ByteArray) (A0_12:Option Addr) (c0_12:Nat) (l0_12:List (S49)) (A0_13:Option Addr) (c0_13:Nat) (l0_13:List (S51)) (A0_14:Option Addr) (c0_14:Nat) (l0_14:List (S55)) (r:Bool) (w:World) (hr0_12:Kd.C k49 w A0_12 l0_12.length l0_12) (hc0_12:l0_12.length≤c0_12) (hr0_13:Kd.C k51 w A0_13 l0_13.length l0_13) (hc0_13:l0_13.length≤c0_13) (hr0_14:Kd.C k55 w A0_14 l0_14.length l0_14) (hc0_14:l0_14.length≤c0_14) (h:insolvencyref33_Valid.f k a0_0 a0_1 a0_2 a0_3 a0_4 a0_5 a0_6 a0_7 a0_8 a0_9 a0_10 a0_11 l0_12 l0_13 l0_14=some r) :
 Calls Tryd.prog 23 #[.agg #[.int .i64 a0_0,.int .i64 a0_1,.int .i64 a0_2,.int .i64 a0_3,.int .i64 a0_4,.int .i64 a0_5,.bool a0_6,.string a0_7,.string a0_8,.bool a0_9,.string a0_10,.string a0_11,.slice A0_12 l0_12.length c0_12,.slice A0_13 l0_13.length c0_13,.slice A0_14 l0_14.length c0_14]] w fun e w'=>e = .returned (.bool r)∧Below w.heap.size w w':=by
 have hu37:=Tryd.underlying37
 have hu34:=Tryd.underlying34
 have hu30:=Tryd.underlying30
 have hu55:=Tryd.underlying55
 have HR0_12:=Aside0.mk hr0_12
 have HC0_12:=Aside0.mk hc0_12
 clear hr0_12 hc0_12
 have HR0_13:=Aside0.mk hr0_13
 have HC0_13:=Aside0.mk hc0_13
 clear hr0_13 hc0_13
 have HR0_14:=Aside0.mk hr0_14
 have HC0_14:=Aside0.mk hc0_14
 clear hr0_14 hc0_14
 have HB:=Aside0.mk (Below.refl w.heap.size w)
 have H:((insolvencyref33_ints.f a0_0 a0_1 a0_2 a0_3 a0_4 a0_5 a0_6 a0_7 a0_8 a0_9 a0_10 a0_11 l0_12 l0_13).bind fun t254=>(insolvencyref33_Valid.l0 k t254 0 a0_0 a0_1 a0_2 a0_3 a0_4 a0_5 a0_6 a0_7 a0_8 a0_9 a0_10 a0_11 l0_12 l0_13 l0_14))=some r:=h
 clear h
 replace H:=Option.bind_eq_some_iff.mp H
 obtain ⟨t254,A20,H⟩:=H
 replace H:(insolvencyref33_Valid.l0 k t254 0 a0_0 a0_1 a0_2 a0_3 a0_4 a0_5 a0_6 a0_7 a0_8 a0_9 a0_10 a0_11 l0_12 l0_13 l0_14)=some r:=H
 have A2:=Aside0.mk A20
 clear A20
 have H':=Aside0.mk H
 clear H
 go_enter Tryd.func23,Tryd.ntmps23
 go_wp2_with (first|((with_reducible refine gate_dst (N:=1) rfl ?_);(try (refine gate_guard (by rfl) ?_;dsimp only));refine box_event ?hg (N:=1) ?hd (cs:=#[.int .i64 a0_0,.int .i64 a0_1,.int .i64 a0_2,.int .i64 a0_3,.int .i64 a0_4,.int .i64 a0_5,.bool a0_6,.string a0_7,.string a0_8,.bool a0_9,.string a0_10,.string a0_11,.slice A0_12 l0_12.length c0_12,.slice A0_13 l0_13.length c0_13,.slice A0_14 l0_14.length c0_14]) (t:=37) ?hr ?_;(case hd=>rfl);(case hg=>rfl);(case hr=>first|(go_simp;done)|(go_simp;rfl));intro gb253 hg w3 hbox hb;have n0_:=Aside0.mk (below_step (by repeat (first|(with_reducible first|exact HB.out|apply below_alloc|apply pw_below_drewN|apply below_drew1)|exact HB.out)) hb);have n1_:=Aside0.mk (hbox);have n2_:=Aside0.mk ((by rw [hg];exact (below_size (by repeat (first|(with_reducible first|exact HB.out|apply below_alloc|apply pw_below_drewN|apply below_drew1)|exact HB.out))):w.heap.size≤gb253));have n3_:=Aside0.mk ((by rw [hg];exact (below_size (by repeat (first|(with_reducible first|exact HB.out|apply below_alloc|apply pw_below_drewN|apply below_drew1)|exact HB.out))):w.heap.size≤gb253));clear HB;have HB:=n0_;have BK253:=n1_;have GW253:=n2_;have GE253:=n3_;clear n0_ n1_ n2_ n3_;clear hb hbox hg;have hcz4_0:w3.cell? ⟨gb253,0,none⟩=some (.int .i64 a0_0):=(blk_cell BK253.out 0).trans rfl;have hcz4_1:w3.cell? ⟨gb253,1,none⟩=some (.int .i64 a0_1):=(blk_cell BK253.out 1).trans rfl;have hcz4_2:w3.cell? ⟨gb253,2,none⟩=some (.int .i64 a0_2):=(blk_cell BK253.out 2).trans rfl;have hcz4_3:w3.cell? ⟨gb253,3,none⟩=some (.int .i64 a0_3):=(blk_cell BK253.out 3).trans rfl;have hcz4_4:w3.cell? ⟨gb253,4,none⟩=some (.int .i64 a0_4):=(blk_cell BK253.out 4).trans rfl;have hcz4_5:w3.cell? ⟨gb253,5,none⟩=some (.int .i64 a0_5):=(blk_cell BK253.out 5).trans rfl;have hcz4_6:w3.cell? ⟨gb253,6,none⟩=some (.bool a0_6):=(blk_cell BK253.out 6).trans rfl;have hcz4_7:w3.cell? ⟨gb253,7,none⟩=some (.string a0_7):=(blk_cell BK253.out 7).trans rfl;have hcz4_8:w3.cell? ⟨gb253,8,none⟩=some (.string a0_8):=(blk_cell BK253.out 8).trans rfl;have hcz4_9:w3.cell? ⟨gb253,9,none⟩=some (.bool a0_9):=(blk_cell BK253.out 9).trans rfl;have hcz4_10:w3.cell? ⟨gb253,10,none⟩=some (.string a0_10):=(blk_cell BK253.out 10).trans rfl;have hcz4_11:w3.cell? ⟨gb253,11,none⟩=some (.string a0_11):=(blk_cell BK253.out 11).trans rfl;have hcz4_12:w3.cell? ⟨gb253,12,none⟩=some (.slice A0_12 l0_12.length c0_12):=(blk_cell BK253.out 12).trans rfl;have hcz4_13:w3.cell? ⟨gb253,13,none⟩=some (.slice A0_13 l0_13.length c0_13):=(blk_cell BK253.out 13).trans rfl;have hcz4_14:w3.cell? ⟨gb253,14,none⟩=some (.slice A0_14 l0_14.length c0_14):=(blk_cell BK253.out 14).trans rfl;have hfz4_0:=blk_frozen BK253.out 0;have hfz4_1:=blk_frozen BK253.out 1;have hfz4_2:=blk_frozen BK253.out 2;have hfz4_3:=blk_frozen BK253.out 3;have hfz4_4:=blk_frozen BK253.out 4;have hfz4_5:=blk_frozen BK253.out 5;have hfz4_6:=blk_frozen BK253.out 6;have hfz4_7:=blk_frozen BK253.out 7;have hfz4_8:=blk_frozen BK253.out 8;have hfz4_9:=blk_frozen BK253.out 9;have hfz4_10:=blk_frozen BK253.out 10;have hfz4_11:=blk_frozen BK253.out 11;have hfz4_12:=blk_frozen BK253.out 12;have hfz4_13:=blk_frozen BK253.out 13;have hfz4_14:=blk_frozen BK253.out 14)|((with_reducible refine gate_callee (f:=34) rfl ?_);refine goesL_ (some 11) rfl rfl Tryd.func34 (by kernel_rfl) rfl #[.agg #[.int .i64 a0_0,.int .i64 a0_1,.int .i64 a0_2,.int .i64 a0_3,.int .i64 a0_4,.int .i64 a0_5,.bool a0_6,.string a0_7,.string a0_8,.bool a0_9,.string a0_10,.string a0_11,.slice A0_12 l0_12.length c0_12,.slice A0_13 l0_13.length c0_13]] rfl (by (try simp only [List.map_toArray,List.map_cons,List.map_nil]);first|done|rfl|(simp only [List.length_drop,List.length_take];rfl)) ?_;(with_reducible refine (insolvencyref33_ints.calls a0_0 a0_1 a0_2 a0_3 a0_4 a0_5 a0_6 a0_7 a0_8 a0_9 a0_10 a0_11 _ _ l0_12 _ _ l0_13 t254 _ ?side1 ?side2 ?side3 ?side4 A2.out).mono ?_);(case side1=>repeat (first|exact (Kd.C_below HR0_12.out HB.out)|(with_reducible refine Kd.C_alloc ?_ _)|(with_reducible refine Kd.C_drewN ?_ _)|(with_reducible refine Kd.C_drew ?_)));(case side2=>exact HC0_12.out);(case side3=>repeat (first|exact (Kd.C_below HR0_13.out HB.out)|(with_reducible refine Kd.C_alloc ?_ _)|(with_reducible refine Kd.C_drewN ?_ _)|(with_reducible refine Kd.C_drew ?_)));(case side4=>exact HC0_13.out);rintro e w5 ⟨v255,rfl,ho0,hb⟩;refine ⟨_,rfl,?_⟩;have n0_:=Aside0.mk (Kd.R_lower ho0 (below_size (by repeat (first|(with_reducible first|exact HB.out|apply below_alloc|apply pw_below_drewN|apply below_drew1|refine below_set ?_ GE253.out)|exact HB.out))));have n1_:=Aside0.mk (blk_below (g:=gb253) (o:=.cells #[.int .i64 a0_0,.int .i64 a0_1,.int .i64 a0_2,.int .i64 a0_3,.int .i64 a0_4,.int .i64 a0_5,.bool a0_6,.string a0_7,.string a0_8,.bool a0_9,.string a0_10,.string a0_11,.slice A0_12 l0_12.length c0_12,.slice A0_13 l0_13.length c0_13,.slice A0_14 l0_14.length c0_14] 37 (0,0)) (by (with_reducible repeat (first|refine blk_drewN ?_ _|refine blk_drew ?_|refine blk_alloc ?_ _));exact BK253.out) hb);have n2_:=Aside0.mk (below_step (by repeat (first|(with_reducible first|exact HB.out|apply below_alloc|apply pw_below_drewN|apply below_drew1|refine below_set ?_ GE253.out)|exact HB.out)) hb);clear BK253;clear HB;have HO256:=n0_;have BK253:=n1_;have HB:=n2_;clear n0_ n1_ n2_;(try clear hb);(try clear hb2);(try clear hk);(try clear hi);(try clear ho0)))
 go_loopg [4] k (fun kq v4 w'=>∃ (x4_1:Int),v4 = .int .i64 x4_1∧Aside0 (insolvencyref33_Valid.l0 kq t254 x4_1 a0_0 a0_1 a0_2 a0_3 a0_4 a0_5 a0_6 a0_7 a0_8 a0_9 a0_10 a0_11 l0_12 l0_13 l0_14=some r)∧Aside0 (kq≤k)∧Aside0 (Kd.R (Kd.int .i64) 3 w' w.heap.size (fun _=>True) v255 t254)∧Aside0 (w'.heap[gb253]?=some (.cells #[.int .i64 a0_0,.int .i64 a0_1,.int .i64 a0_2,.int .i64 a0_3,.int .i64 a0_4,.int .i64 a0_5,.bool a0_6,.string a0_7,.string a0_8,.bool a0_9,.string a0_10,.string a0_11,(.slice A0_12 l0_12.length c0_12),(.slice A0_13 l0_13.length c0_13),(.slice A0_14 l0_14.length c0_14)] 37 (0,0)))∧Aside0 (Below w.heap.size w w'))
 case atStart=>exact ⟨(0),(by first|rfl|(simp;done)|(simp [*];done)),H',⟨Nat.le_refl _⟩,⟨by (with_reducible repeat (first|apply Kd.R_alloc|apply Kd.R_drewN|apply Kd.R_drew));exact HO256.out⟩,⟨by (with_reducible repeat (first|refine blk_drewN ?_ _|refine blk_drew ?_|refine blk_alloc ?_ _));exact BK253.out⟩,⟨by repeat (first|(with_reducible first|exact HB.out|apply below_alloc|apply pw_below_drewN|apply below_drew1|refine below_set ?_ GE253.out)|exact HB.out)⟩⟩
 case round=>
  clear H'
  try clear c2
  try clear p2
  try clear c3
  try clear hcz4_0
  try clear hcz4_1
  try clear hcz4_10
  try clear hcz4_11
  try clear hcz4_12
  try clear hcz4_13
  try clear hcz4_14
  try clear hcz4_2
  try clear hcz4_3
  try clear hcz4_4
  try clear hcz4_5
  try clear hcz4_6
  try clear hcz4_7
  try clear hcz4_8
  try clear hcz4_9
  try clear hfz4_0
  try clear hfz4_1
  try clear hfz4_10
  try clear hfz4_11
  try clear hfz4_12
  try clear hfz4_13
  try clear hfz4_14
  try clear hfz4_2
  try clear hfz4_3
  try clear hfz4_4
  try clear hfz4_5
  try clear hfz4_6
  try clear hfz4_7
  try clear hfz4_8
  try clear hfz4_9
  obtain ⟨x4_1,rfl,HA,HK1,HO_3,BK253,HB⟩:=hrel
  cases gk with
  | zero=>exact absurd HA.out (by simp [insolvencyref33_Valid.l0])
  | succ k1=>
   have H:=HA.out
   clear HA
   simp only [insolvencyref33_Valid.l0] at H
   by_cases c6:x4_1<(t254.length:Int)
   ·rw [if_pos c6] at H
    have c6b0:decide (x4_1<(t254.length:Int))=true:=decide_eq_true c6
    clear c6
    by_cases c7:0≤x4_1
    ·rw [if_pos c7] at H
     have c7b0:decide (0≤x4_1)=true:=decide_eq_true c7
     clear c7
     replace H:=Option.bind_eq_some_iff.mp H
     obtain ⟨t258,A80,H⟩:=H
     replace H:(if t258=true then (insolvencyref33_Valid.l0 k1 t254 (wrap64 (x4_1+1)) a0_0 a0_1 a0_2 a0_3 a0_4 a0_5 a0_6 a0_7 a0_8 a0_9 a0_10 a0_11 l0_12 l0_13 l0_14) else (some false))=some r:=H
     have A8:=Aside0.mk A80
     clear A80
     by_cases c9:t258=true
     ·subst c9
      have H1:(insolvencyref33_Valid.l0 k1 t254 (wrap64 (x4_1+1)) a0_0 a0_1 a0_2 a0_3 a0_4 a0_5 a0_6 a0_7 a0_8 a0_9 a0_10 a0_11 l0_12 l0_13 l0_14)=some r:=by rw [if_pos rfl] at H;exact H
      clear H
      have H:=H1
      clear H1
      have H':=Aside0.mk H
      clear H
      obtain ⟨Ao10,co10,eo10⟩:=Kd.R_slice HO_3.out
      subst eo10
      have p257:0≤(x4_1:Int):=of_decide_eq_true (by first|(with_reducible assumption)|assumption)
      have q257:x4_1<(t254.length:Int):=of_decide_eq_true (by first|(with_reducible assumption)|assumption)
      obtain ⟨ad257,e257,hx257_0⟩:=Kd.at_int (Kd.R_reads' HO_3.out).2.2 x4_1 p257 q257
      cases e257
      replace p257:=eq_true p257
      replace q257:=eq_true q257
      go_wp2_with (first|((with_reducible refine gate_callee (f:=35) rfl ?_);refine goesL_ (some 22) rfl rfl Tryd.func35 (by kernel_rfl) rfl #[.int .i64 (rd t254 x4_1)] rfl (by (try simp only [List.map_toArray,List.map_cons,List.map_nil]);first|done|rfl|(simp only [List.length_drop,List.length_take];rfl)) ?_;(with_reducible refine (insolvencyref33_small.calls (rd t254 x4_1) true _ A8.out).mono ?_);rintro e w' ⟨rfl,⟨nd,rfl⟩⟩;refine ⟨_,rfl,?_⟩))
      go_roundg k1
      case measure=>have:=HK1.out;omega
      case rel=>exact ⟨(wrap64 (x4_1+1)),(by first|rfl|(simp;done)|(simp [*];done)),H',⟨by have:=HK1.out;omega⟩,⟨by (with_reducible repeat (first|apply Kd.R_alloc|apply Kd.R_drewN|apply Kd.R_drew));exact HO_3.out⟩,⟨by (with_reducible repeat (first|refine blk_drewN ?_ _|refine blk_drew ?_|refine blk_alloc ?_ _));exact BK253.out⟩,⟨by repeat (first|(with_reducible first|exact HB.out|apply below_alloc|apply pw_below_drewN|apply below_drew1|refine below_set ?_ GE253.out)|exact HB.out)⟩⟩
     ·replace c9:=Bool.eq_false_iff.mpr c9
      subst c9
      have H1:(some false)=some r:=by rw [if_neg (show ¬ (false=true) by decide)] at H;exact H
      clear H
      have H:=H1
      clear H1
      obtain rfl:=Option.some.inj H
      obtain ⟨Ao11,co11,eo11⟩:=Kd.R_slice HO_3.out
      subst eo11
      have p257:0≤(x4_1:Int):=of_decide_eq_true (by first|(with_reducible assumption)|assumption)
      have q257:x4_1<(t254.length:Int):=of_decide_eq_true (by first|(with_reducible assumption)|assumption)
      obtain ⟨ad257,e257,hx257_0⟩:=Kd.at_int (Kd.R_reads' HO_3.out).2.2 x4_1 p257 q257
      cases e257
      replace p257:=eq_true p257
      replace q257:=eq_true q257
      go_wp2_with (first|((with_reducible refine gate_callee (f:=35) rfl ?_);refine goesL_ (some 22) rfl rfl Tryd.func35 (by kernel_rfl) rfl #[.int .i64 (rd t254 x4_1)] rfl (by (try simp only [List.map_toArray,List.map_cons,List.map_nil]);first|done|rfl|(simp only [List.length_drop,List.length_take];rfl)) ?_;(with_reducible refine (insolvencyref33_small.calls (rd t254 x4_1) false _ A8.out).mono ?_);rintro e w' ⟨rfl,⟨nd,rfl⟩⟩;refine ⟨_,rfl,?_⟩))
      go_ret
      exact ⟨by first|rfl|(simp [errW_none,errW_some] <;> rfl)|(simp [*,errW_none,errW_some] <;> rfl),by repeat (first|(with_reducible first|exact HB.out|apply below_alloc|apply pw_below_drewN|apply below_drew1|refine below_set ?_ GE253.out)|exact HB.out)⟩
    ·rw [if_neg c7] at H
     exact absurd H (by simp)
   ·rw [if_neg c6] at H
    have c6b0:decide (x4_1<(t254.length:Int))=false:=decide_eq_false c6
    clear c6
    have HC12:=Aside0.mk H
    clear H
    obtain ⟨Ao13,co13,eo13⟩:=Kd.R_slice HO_3.out
    subst eo13
    go_upto_region 7 with (fail)
    go_cut [55] (fun v55 wc=>∃ (kq:Nat) (x55_11:Bool),v55 = .bool x55_11∧Aside0 (insolvencyref33_Valid.j1 kq x55_11 a0_0 a0_1 a0_2 a0_3 a0_4 a0_5 a0_6 a0_7 a0_8 a0_9 a0_10 a0_11 l0_12 l0_13 l0_14=some r)∧Aside0 (kq≤k1)∧Aside0 (wc.heap[gb253]?=some (.cells #[.int .i64 a0_0,.int .i64 a0_1,.int .i64 a0_2,.int .i64 a0_3,.int .i64 a0_4,.int .i64 a0_5,.bool a0_6,.string a0_7,.string a0_8,.bool a0_9,.string a0_10,.string a0_11,(.slice A0_12 l0_12.length c0_12),(.slice A0_13 l0_13.length c0_13),(.slice A0_14 l0_14.length c0_14)] 37 (0,0)))∧Aside0 (Below w.heap.size w wc))
    case first=>
     have H:=HC12.out
     clear HC12
     replace H:=Option.bind_eq_some_iff.mp H
     obtain ⟨t259,A140,H⟩:=H
     replace H:(if t259=true then ((insolvencyref1_Valid.f k1 a0_9 a0_10 a0_11).bind fun t260=>(if t260=true then (if (l0_12.length:Int)>8 then (insolvencyref33_Valid.j1 k1 true a0_0 a0_1 a0_2 a0_3 a0_4 a0_5 a0_6 a0_7 a0_8 a0_9 a0_10 a0_11 l0_12 l0_13 l0_14) else (if (l0_13.length:Int)>4 then (insolvencyref33_Valid.j1 k1 true a0_0 a0_1 a0_2 a0_3 a0_4 a0_5 a0_6 a0_7 a0_8 a0_9 a0_10 a0_11 l0_12 l0_13 l0_14) else (insolvencyref33_Valid.j1 k1 (decide ((l0_14.length:Int)>256)) a0_0 a0_1 a0_2 a0_3 a0_4 a0_5 a0_6 a0_7 a0_8 a0_9 a0_10 a0_11 l0_12 l0_13 l0_14))) else (insolvencyref33_Valid.j1 k1 true a0_0 a0_1 a0_2 a0_3 a0_4 a0_5 a0_6 a0_7 a0_8 a0_9 a0_10 a0_11 l0_12 l0_13 l0_14))) else (insolvencyref33_Valid.j1 k1 true a0_0 a0_1 a0_2 a0_3 a0_4 a0_5 a0_6 a0_7 a0_8 a0_9 a0_10 a0_11 l0_12 l0_13 l0_14))=some r:=H
     have A14:=Aside0.mk A140
     clear A140
     by_cases c15:t259=true
     ·subst c15
      have H1:((insolvencyref1_Valid.f k1 a0_9 a0_10 a0_11).bind fun t260=>(if t260=true then (if (l0_12.length:Int)>8 then (insolvencyref33_Valid.j1 k1 true a0_0 a0_1 a0_2 a0_3 a0_4 a0_5 a0_6 a0_7 a0_8 a0_9 a0_10 a0_11 l0_12 l0_13 l0_14) else (if (l0_13.length:Int)>4 then (insolvencyref33_Valid.j1 k1 true a0_0 a0_1 a0_2 a0_3 a0_4 a0_5 a0_6 a0_7 a0_8 a0_9 a0_10 a0_11 l0_12 l0_13 l0_14) else (insolvencyref33_Valid.j1 k1 (decide ((l0_14.length:Int)>256)) a0_0 a0_1 a0_2 a0_3 a0_4 a0_5 a0_6 a0_7 a0_8 a0_9 a0_10 a0_11 l0_12 l0_13 l0_14))) else (insolvencyref33_Valid.j1 k1 true a0_0 a0_1 a0_2 a0_3 a0_4 a0_5 a0_6 a0_7 a0_8 a0_9 a0_10 a0_11 l0_12 l0_13 l0_14)))=some r:=by rw [if_pos rfl] at H;exact H
      clear H
      have H:=H1
      clear H1
      replace H:=Option.bind_eq_some_iff.mp H
      obtain ⟨t260,A160,H⟩:=H
      replace H:(if t260=true then (if (l0_12.length:Int)>8 then (insolvencyref33_Valid.j1 k1 true a0_0 a0_1 a0_2 a0_3 a0_4 a0_5 a0_6 a0_7 a0_8 a0_9 a0_10 a0_11 l0_12 l0_13 l0_14) else (if (l0_13.length:Int)>4 then (insolvencyref33_Valid.j1 k1 true a0_0 a0_1 a0_2 a0_3 a0_4 a0_5 a0_6 a0_7 a0_8 a0_9 a0_10 a0_11 l0_12 l0_13 l0_14) else (insolvencyref33_Valid.j1 k1 (decide ((l0_14.length:Int)>256)) a0_0 a0_1 a0_2 a0_3 a0_4 a0_5 a0_6 a0_7 a0_8 a0_9 a0_10 a0_11 l0_12 l0_13 l0_14))) else (insolvencyref33_Valid.j1 k1 true a0_0 a0_1 a0_2 a0_3 a0_4 a0_5 a0_6 a0_7 a0_8 a0_9 a0_10 a0_11 l0_12 l0_13 l0_14))=some r:=H
      have A16:=Aside0.mk A160
      clear A160
      by_cases c17:t260=true
      ·subst c17
       have H1:(if (l0_12.length:Int)>8 then (insolvencyref33_Valid.j1 k1 true a0_0 a0_1 a0_2 a0_3 a0_4 a0_5 a0_6 a0_7 a0_8 a0_9 a0_10 a0_11 l0_12 l0_13 l0_14) else (if (l0_13.length:Int)>4 then (insolvencyref33_Valid.j1 k1 true a0_0 a0_1 a0_2 a0_3 a0_4 a0_5 a0_6 a0_7 a0_8 a0_9 a0_10 a0_11 l0_12 l0_13 l0_14) else (insolvencyref33_Valid.j1 k1 (decide ((l0_14.length:Int)>256)) a0_0 a0_1 a0_2 a0_3 a0_4 a0_5 a0_6 a0_7 a0_8 a0_9 a0_10 a0_11 l0_12 l0_13 l0_14)))=some r:=by rw [if_pos rfl] at H;exact H
       clear H
       have H:=H1
       clear H1
       by_cases c18:(l0_12.length:Int)>8
       ·rw [if_pos c18] at H
        have c18b0:decide (8<(l0_12.length:Int))=true:=decide_eq_true c18
        have c18b1:decide (8<l0_12.length)=true:=decide_eq_true (by omega)
        clear c18
        (first|rw [c18b0]|(simp only [i64_w,i32_w];rw [c18b0])|skip)
        have H':=Aside0.mk H
        clear H
        have hcz19_0:wr.cell? ⟨gb253,0,none⟩=some (.int .i64 a0_0):=(blk_cell BK253.out 0).trans rfl
        have hcz19_1:wr.cell? ⟨gb253,1,none⟩=some (.int .i64 a0_1):=(blk_cell BK253.out 1).trans rfl
        have hcz19_2:wr.cell? ⟨gb253,2,none⟩=some (.int .i64 a0_2):=(blk_cell BK253.out 2).trans rfl
        have hcz19_3:wr.cell? ⟨gb253,3,none⟩=some (.int .i64 a0_3):=(blk_cell BK253.out 3).trans rfl
        have hcz19_4:wr.cell? ⟨gb253,4,none⟩=some (.int .i64 a0_4):=(blk_cell BK253.out 4).trans rfl
        have hcz19_5:wr.cell? ⟨gb253,5,none⟩=some (.int .i64 a0_5):=(blk_cell BK253.out 5).trans rfl
        have hcz19_6:wr.cell? ⟨gb253,6,none⟩=some (.bool a0_6):=(blk_cell BK253.out 6).trans rfl
        have hcz19_7:wr.cell? ⟨gb253,7,none⟩=some (.string a0_7):=(blk_cell BK253.out 7).trans rfl
        have hcz19_8:wr.cell? ⟨gb253,8,none⟩=some (.string a0_8):=(blk_cell BK253.out 8).trans rfl
        have hcz19_9:wr.cell? ⟨gb253,9,none⟩=some (.bool a0_9):=(blk_cell BK253.out 9).trans rfl
        have hcz19_10:wr.cell? ⟨gb253,10,none⟩=some (.string a0_10):=(blk_cell BK253.out 10).trans rfl
        have hcz19_11:wr.cell? ⟨gb253,11,none⟩=some (.string a0_11):=(blk_cell BK253.out 11).trans rfl
        have hcz19_12:wr.cell? ⟨gb253,12,none⟩=some (.slice A0_12 l0_12.length c0_12):=(blk_cell BK253.out 12).trans rfl
        have hcz19_13:wr.cell? ⟨gb253,13,none⟩=some (.slice A0_13 l0_13.length c0_13):=(blk_cell BK253.out 13).trans rfl
        have hcz19_14:wr.cell? ⟨gb253,14,none⟩=some (.slice A0_14 l0_14.length c0_14):=(blk_cell BK253.out 14).trans rfl
        have hfz19_0:=blk_frozen BK253.out 0
        have hfz19_1:=blk_frozen BK253.out 1
        have hfz19_2:=blk_frozen BK253.out 2
        have hfz19_3:=blk_frozen BK253.out 3
        have hfz19_4:=blk_frozen BK253.out 4
        have hfz19_5:=blk_frozen BK253.out 5
        have hfz19_6:=blk_frozen BK253.out 6
        have hfz19_7:=blk_frozen BK253.out 7
        have hfz19_8:=blk_frozen BK253.out 8
        have hfz19_9:=blk_frozen BK253.out 9
        have hfz19_10:=blk_frozen BK253.out 10
        have hfz19_11:=blk_frozen BK253.out 11
        have hfz19_12:=blk_frozen BK253.out 12
        have hfz19_13:=blk_frozen BK253.out 13
        have hfz19_14:=blk_frozen BK253.out 14
        go_wp2_with (first|((with_reducible refine gate_callee (f:=36) rfl ?_);refine goesL_ (some 27) rfl rfl Tryd.func36 (by kernel_rfl) rfl #[.agg #[.bool a0_6,.string a0_7,.string a0_8]] rfl (by (try simp only [List.map_toArray,List.map_cons,List.map_nil]);first|done|rfl|(simp only [List.length_drop,List.length_take];rfl)) ?_;(with_reducible refine (insolvencyref1_Valid.calls k1 a0_6 a0_7 a0_8 true _ A14.out).mono ?_);rintro e w20 ⟨rfl,hb⟩;refine ⟨_,rfl,?_⟩;have n0_:=Aside0.mk (Kd.R_below (by (with_reducible repeat (first|apply Kd.R_alloc|apply Kd.R_drewN|apply Kd.R_drew));exact HO_3.out) hb);have n1_:=Aside0.mk (blk_below (g:=gb253) (o:=.cells #[.int .i64 a0_0,.int .i64 a0_1,.int .i64 a0_2,.int .i64 a0_3,.int .i64 a0_4,.int .i64 a0_5,.bool a0_6,.string a0_7,.string a0_8,.bool a0_9,.string a0_10,.string a0_11,.slice A0_12 l0_12.length c0_12,.slice A0_13 l0_13.length c0_13,.slice A0_14 l0_14.length c0_14] 37 (0,0)) (by (with_reducible repeat (first|refine blk_drewN ?_ _|refine blk_drew ?_|refine blk_alloc ?_ _));exact BK253.out) hb);have n2_:=Aside0.mk (below_step (by repeat (first|(with_reducible first|exact HB.out|apply below_alloc|apply pw_below_drewN|apply below_drew1|refine below_set ?_ GE253.out)|exact HB.out)) hb);clear HO_3;clear BK253;clear HB;have HO_3:=n0_;have BK253:=n1_;have HB:=n2_;clear n0_ n1_ n2_;(try clear hb);(try clear hb2);(try clear hk);(try clear hi);have hcz21_0:w20.cell? ⟨gb253,0,none⟩=some (.int .i64 a0_0):=(blk_cell BK253.out 0).trans rfl;have hcz21_1:w20.cell? ⟨gb253,1,none⟩=some (.int .i64 a0_1):=(blk_cell BK253.out 1).trans rfl;have hcz21_2:w20.cell? ⟨gb253,2,none⟩=some (.int .i64 a0_2):=(blk_cell BK253.out 2).trans rfl;have hcz21_3:w20.cell? ⟨gb253,3,none⟩=some (.int .i64 a0_3):=(blk_cell BK253.out 3).trans rfl;have hcz21_4:w20.cell? ⟨gb253,4,none⟩=some (.int .i64 a0_4):=(blk_cell BK253.out 4).trans rfl;have hcz21_5:w20.cell? ⟨gb253,5,none⟩=some (.int .i64 a0_5):=(blk_cell BK253.out 5).trans rfl;have hcz21_6:w20.cell? ⟨gb253,6,none⟩=some (.bool a0_6):=(blk_cell BK253.out 6).trans rfl;have hcz21_7:w20.cell? ⟨gb253,7,none⟩=some (.string a0_7):=(blk_cell BK253.out 7).trans rfl;have hcz21_8:w20.cell? ⟨gb253,8,none⟩=some (.string a0_8):=(blk_cell BK253.out 8).trans rfl;have hcz21_9:w20.cell? ⟨gb253,9,none⟩=some (.bool a0_9):=(blk_cell BK253.out 9).trans rfl;have hcz21_10:w20.cell? ⟨gb253,10,none⟩=some (.string a0_10):=(blk_cell BK253.out 10).trans rfl;have hcz21_11:w20.cell? ⟨gb253,11,none⟩=some (.string a0_11):=(blk_cell BK253.out 11).trans rfl;have hcz21_12:w20.cell? ⟨gb253,12,none⟩=some (.slice A0_12 l0_12.length c0_12):=(blk_cell BK253.out 12).trans rfl;have hcz21_13:w20.cell? ⟨gb253,13,none⟩=some (.slice A0_13 l0_13.length c0_13):=(blk_cell BK253.out 13).trans rfl;have hcz21_14:w20.cell? ⟨gb253,14,none⟩=some (.slice A0_14 l0_14.length c0_14):=(blk_cell BK253.out 14).trans rfl;have hfz21_0:=blk_frozen BK253.out 0;have hfz21_1:=blk_frozen BK253.out 1;have hfz21_2:=blk_frozen BK253.out 2;have hfz21_3:=blk_frozen BK253.out 3;have hfz21_4:=blk_frozen BK253.out 4;have hfz21_5:=blk_frozen BK253.out 5;have hfz21_6:=blk_frozen BK253.out 6;have hfz21_7:=blk_frozen BK253.out 7;have hfz21_8:=blk_frozen BK253.out 8;have hfz21_9:=blk_frozen BK253.out 9;have hfz21_10:=blk_frozen BK253.out 10;have hfz21_11:=blk_frozen BK253.out 11;have hfz21_12:=blk_frozen BK253.out 12;have hfz21_13:=blk_frozen BK253.out 13;have hfz21_14:=blk_frozen BK253.out 14)|(go_at_call 36;(with_reducible refine (insolvencyref1_Valid.calls k1 a0_9 a0_10 a0_11 true _ A16.out).mono ?_);rintro e w22 ⟨rfl,hb⟩;have n0_:=Aside0.mk (Kd.R_below (by (with_reducible repeat (first|apply Kd.R_alloc|apply Kd.R_drewN|apply Kd.R_drew));exact HO_3.out) hb);have n1_:=Aside0.mk (blk_below (g:=gb253) (o:=.cells #[.int .i64 a0_0,.int .i64 a0_1,.int .i64 a0_2,.int .i64 a0_3,.int .i64 a0_4,.int .i64 a0_5,.bool a0_6,.string a0_7,.string a0_8,.bool a0_9,.string a0_10,.string a0_11,.slice A0_12 l0_12.length c0_12,.slice A0_13 l0_13.length c0_13,.slice A0_14 l0_14.length c0_14] 37 (0,0)) (by (with_reducible repeat (first|refine blk_drewN ?_ _|refine blk_drew ?_|refine blk_alloc ?_ _));exact BK253.out) hb);have n2_:=Aside0.mk (below_step (by repeat (first|(with_reducible first|exact HB.out|apply below_alloc|apply pw_below_drewN|apply below_drew1|refine below_set ?_ GE253.out)|exact HB.out)) hb);clear HO_3;clear BK253;clear HB;have HO_3:=n0_;have BK253:=n1_;have HB:=n2_;clear n0_ n1_ n2_;(try clear hb);(try clear hb2);(try clear hk);(try clear hi);have hcz23_0:w22.cell? ⟨gb253,0,none⟩=some (.int .i64 a0_0):=(blk_cell BK253.out 0).trans rfl;have hcz23_1:w22.cell? ⟨gb253,1,none⟩=some (.int .i64 a0_1):=(blk_cell BK253.out 1).trans rfl;have hcz23_2:w22.cell? ⟨gb253,2,none⟩=some (.int .i64 a0_2):=(blk_cell BK253.out 2).trans rfl;have hcz23_3:w22.cell? ⟨gb253,3,none⟩=some (.int .i64 a0_3):=(blk_cell BK253.out 3).trans rfl;have hcz23_4:w22.cell? ⟨gb253,4,none⟩=some (.int .i64 a0_4):=(blk_cell BK253.out 4).trans rfl;have hcz23_5:w22.cell? ⟨gb253,5,none⟩=some (.int .i64 a0_5):=(blk_cell BK253.out 5).trans rfl;have hcz23_6:w22.cell? ⟨gb253,6,none⟩=some (.bool a0_6):=(blk_cell BK253.out 6).trans rfl;have hcz23_7:w22.cell? ⟨gb253,7,none⟩=some (.string a0_7):=(blk_cell BK253.out 7).trans rfl;have hcz23_8:w22.cell? ⟨gb253,8,none⟩=some (.string a0_8):=(blk_cell BK253.out 8).trans rfl;have hcz23_9:w22.cell? ⟨gb253,9,none⟩=some (.bool a0_9):=(blk_cell BK253.out 9).trans rfl;have hcz23_10:w22.cell? ⟨gb253,10,none⟩=some (.string a0_10):=(blk_cell BK253.out 10).trans rfl;have hcz23_11:w22.cell? ⟨gb253,11,none⟩=some (.string a0_11):=(blk_cell BK253.out 11).trans rfl;have hcz23_12:w22.cell? ⟨gb253,12,none⟩=some (.slice A0_12 l0_12.length c0_12):=(blk_cell BK253.out 12).trans rfl;have hcz23_13:w22.cell? ⟨gb253,13,none⟩=some (.slice A0_13 l0_13.length c0_13):=(blk_cell BK253.out 13).trans rfl;have hcz23_14:w22.cell? ⟨gb253,14,none⟩=some (.slice A0_14 l0_14.length c0_14):=(blk_cell BK253.out 14).trans rfl;have hfz23_0:=blk_frozen BK253.out 0;have hfz23_1:=blk_frozen BK253.out 1;have hfz23_2:=blk_frozen BK253.out 2;have hfz23_3:=blk_frozen BK253.out 3;have hfz23_4:=blk_frozen BK253.out 4;have hfz23_5:=blk_frozen BK253.out 5;have hfz23_6:=blk_frozen BK253.out 6;have hfz23_7:=blk_frozen BK253.out 7;have hfz23_8:=blk_frozen BK253.out 8;have hfz23_9:=blk_frozen BK253.out 9;have hfz23_10:=blk_frozen BK253.out 10;have hfz23_11:=blk_frozen BK253.out 11;have hfz23_12:=blk_frozen BK253.out 12;have hfz23_13:=blk_frozen BK253.out 13;have hfz23_14:=blk_frozen BK253.out 14))
        go_meet
        case rel=>exact ⟨_,(true),(by first|rfl|(simp;done)|(simp [*];done)),H',⟨by have:=HK1.out;first|omega|exact Nat.le_refl _⟩,⟨by (with_reducible repeat (first|refine blk_drewN ?_ _|refine blk_drew ?_|refine blk_alloc ?_ _));exact BK253.out⟩,⟨by repeat (first|(with_reducible first|exact HB.out|apply below_alloc|apply pw_below_drewN|apply below_drew1|refine below_set ?_ GE253.out)|exact HB.out)⟩⟩
       ·rw [if_neg c18] at H
        have c18b0:decide (8<(l0_12.length:Int))=false:=decide_eq_false c18
        have c18b1:decide (8<l0_12.length)=false:=decide_eq_false (by omega)
        clear c18
        (first|rw [c18b0]|(simp only [i64_w,i32_w];rw [c18b0])|skip)
        by_cases c24:(l0_13.length:Int)>4
        ·rw [if_pos c24] at H
         have c24b0:decide (4<(l0_13.length:Int))=true:=decide_eq_true c24
         have c24b1:decide (4<l0_13.length)=true:=decide_eq_true (by omega)
         clear c24
         have H':=Aside0.mk H
         clear H
         have hcz25_0:wr.cell? ⟨gb253,0,none⟩=some (.int .i64 a0_0):=(blk_cell BK253.out 0).trans rfl
         have hcz25_1:wr.cell? ⟨gb253,1,none⟩=some (.int .i64 a0_1):=(blk_cell BK253.out 1).trans rfl
         have hcz25_2:wr.cell? ⟨gb253,2,none⟩=some (.int .i64 a0_2):=(blk_cell BK253.out 2).trans rfl
         have hcz25_3:wr.cell? ⟨gb253,3,none⟩=some (.int .i64 a0_3):=(blk_cell BK253.out 3).trans rfl
         have hcz25_4:wr.cell? ⟨gb253,4,none⟩=some (.int .i64 a0_4):=(blk_cell BK253.out 4).trans rfl
         have hcz25_5:wr.cell? ⟨gb253,5,none⟩=some (.int .i64 a0_5):=(blk_cell BK253.out 5).trans rfl
         have hcz25_6:wr.cell? ⟨gb253,6,none⟩=some (.bool a0_6):=(blk_cell BK253.out 6).trans rfl
         have hcz25_7:wr.cell? ⟨gb253,7,none⟩=some (.string a0_7):=(blk_cell BK253.out 7).trans rfl
         have hcz25_8:wr.cell? ⟨gb253,8,none⟩=some (.string a0_8):=(blk_cell BK253.out 8).trans rfl
         have hcz25_9:wr.cell? ⟨gb253,9,none⟩=some (.bool a0_9):=(blk_cell BK253.out 9).trans rfl
         have hcz25_10:wr.cell? ⟨gb253,10,none⟩=some (.string a0_10):=(blk_cell BK253.out 10).trans rfl
         have hcz25_11:wr.cell? ⟨gb253,11,none⟩=some (.string a0_11):=(blk_cell BK253.out 11).trans rfl
         have hcz25_12:wr.cell? ⟨gb253,12,none⟩=some (.slice A0_12 l0_12.length c0_12):=(blk_cell BK253.out 12).trans rfl
         have hcz25_13:wr.cell? ⟨gb253,13,none⟩=some (.slice A0_13 l0_13.length c0_13):=(blk_cell BK253.out 13).trans rfl
         have hcz25_14:wr.cell? ⟨gb253,14,none⟩=some (.slice A0_14 l0_14.length c0_14):=(blk_cell BK253.out 14).trans rfl
         have hfz25_0:=blk_frozen BK253.out 0
         have hfz25_1:=blk_frozen BK253.out 1
         have hfz25_2:=blk_frozen BK253.out 2
         have hfz25_3:=blk_frozen BK253.out 3
         have hfz25_4:=blk_frozen BK253.out 4
         have hfz25_5:=blk_frozen BK253.out 5
         have hfz25_6:=blk_frozen BK253.out 6
         have hfz25_7:=blk_frozen BK253.out 7
         have hfz25_8:=blk_frozen BK253.out 8
         have hfz25_9:=blk_frozen BK253.out 9
         have hfz25_10:=blk_frozen BK253.out 10
         have hfz25_11:=blk_frozen BK253.out 11
         have hfz25_12:=blk_frozen BK253.out 12
         have hfz25_13:=blk_frozen BK253.out 13
         have hfz25_14:=blk_frozen BK253.out 14
         go_wp2_with (first|((with_reducible refine gate_callee (f:=36) rfl ?_);refine goesL_ (some 27) rfl rfl Tryd.func36 (by kernel_rfl) rfl #[.agg #[.bool a0_6,.string a0_7,.string a0_8]] rfl (by (try simp only [List.map_toArray,List.map_cons,List.map_nil]);first|done|rfl|(simp only [List.length_drop,List.length_take];rfl)) ?_;(with_reducible refine (insolvencyref1_Valid.calls k1 a0_6 a0_7 a0_8 true _ A14.out).mono ?_);rintro e w26 ⟨rfl,hb⟩;refine ⟨_,rfl,?_⟩;have n0_:=Aside0.mk (Kd.R_below (by (with_reducible repeat (first|apply Kd.R_alloc|apply Kd.R_drewN|apply Kd.R_drew));exact HO_3.out) hb);have n1_:=Aside0.mk (blk_below (g:=gb253) (o:=.cells #[.int .i64 a0_0,.int .i64 a0_1,.int .i64 a0_2,.int .i64 a0_3,.int .i64 a0_4,.int .i64 a0_5,.bool a0_6,.string a0_7,.string a0_8,.bool a0_9,.string a0_10,.string a0_11,.slice A0_12 l0_12.length c0_12,.slice A0_13 l0_13.length c0_13,.slice A0_14 l0_14.length c0_14] 37 (0,0)) (by (with_reducible repeat (first|refine blk_drewN ?_ _|refine blk_drew ?_|refine blk_alloc ?_ _));exact BK253.out) hb);have n2_:=Aside0.mk (below_step (by repeat (first|(with_reducible first|exact HB.out|apply below_alloc|apply pw_below_drewN|apply below_drew1|refine below_set ?_ GE253.out)|exact HB.out)) hb);clear HO_3;clear BK253;clear HB;have HO_3:=n0_;have BK253:=n1_;have HB:=n2_;clear n0_ n1_ n2_;(try clear hb);(try clear hb2);(try clear hk);(try clear hi);have hcz27_0:w26.cell? ⟨gb253,0,none⟩=some (.int .i64 a0_0):=(blk_cell BK253.out 0).trans rfl;have hcz27_1:w26.cell? ⟨gb253,1,none⟩=some (.int .i64 a0_1):=(blk_cell BK253.out 1).trans rfl;have hcz27_2:w26.cell? ⟨gb253,2,none⟩=some (.int .i64 a0_2):=(blk_cell BK253.out 2).trans rfl;have hcz27_3:w26.cell? ⟨gb253,3,none⟩=some (.int .i64 a0_3):=(blk_cell BK253.out 3).trans rfl;have hcz27_4:w26.cell? ⟨gb253,4,none⟩=some (.int .i64 a0_4):=(blk_cell BK253.out 4).trans rfl;have hcz27_5:w26.cell? ⟨gb253,5,none⟩=some (.int .i64 a0_5):=(blk_cell BK253.out 5).trans rfl;have hcz27_6:w26.cell? ⟨gb253,6,none⟩=some (.bool a0_6):=(blk_cell BK253.out 6).trans rfl;have hcz27_7:w26.cell? ⟨gb253,7,none⟩=some (.string a0_7):=(blk_cell BK253.out 7).trans rfl;have hcz27_8:w26.cell? ⟨gb253,8,none⟩=some (.string a0_8):=(blk_cell BK253.out 8).trans rfl;have hcz27_9:w26.cell? ⟨gb253,9,none⟩=some (.bool a0_9):=(blk_cell BK253.out 9).trans rfl;have hcz27_10:w26.cell? ⟨gb253,10,none⟩=some (.string a0_10):=(blk_cell BK253.out 10).trans rfl;have hcz27_11:w26.cell? ⟨gb253,11,none⟩=some (.string a0_11):=(blk_cell BK253.out 11).trans rfl;have hcz27_12:w26.cell? ⟨gb253,12,none⟩=some (.slice A0_12 l0_12.length c0_12):=(blk_cell BK253.out 12).trans rfl;have hcz27_13:w26.cell? ⟨gb253,13,none⟩=some (.slice A0_13 l0_13.length c0_13):=(blk_cell BK253.out 13).trans rfl;have hcz27_14:w26.cell? ⟨gb253,14,none⟩=some (.slice A0_14 l0_14.length c0_14):=(blk_cell BK253.out 14).trans rfl;have hfz27_0:=blk_frozen BK253.out 0;have hfz27_1:=blk_frozen BK253.out 1;have hfz27_2:=blk_frozen BK253.out 2;have hfz27_3:=blk_frozen BK253.out 3;have hfz27_4:=blk_frozen BK253.out 4;have hfz27_5:=blk_frozen BK253.out 5;have hfz27_6:=blk_frozen BK253.out 6;have hfz27_7:=blk_frozen BK253.out 7;have hfz27_8:=blk_frozen BK253.out 8;have hfz27_9:=blk_frozen BK253.out 9;have hfz27_10:=blk_frozen BK253.out 10;have hfz27_11:=blk_frozen BK253.out 11;have hfz27_12:=blk_frozen BK253.out 12;have hfz27_13:=blk_frozen BK253.out 13;have hfz27_14:=blk_frozen BK253.out 14)|(go_at_call 36;(with_reducible refine (insolvencyref1_Valid.calls k1 a0_9 a0_10 a0_11 true _ A16.out).mono ?_);rintro e w28 ⟨rfl,hb⟩;have n0_:=Aside0.mk (Kd.R_below (by (with_reducible repeat (first|apply Kd.R_alloc|apply Kd.R_drewN|apply Kd.R_drew));exact HO_3.out) hb);have n1_:=Aside0.mk (blk_below (g:=gb253) (o:=.cells #[.int .i64 a0_0,.int .i64 a0_1,.int .i64 a0_2,.int .i64 a0_3,.int .i64 a0_4,.int .i64 a0_5,.bool a0_6,.string a0_7,.string a0_8,.bool a0_9,.string a0_10,.string a0_11,.slice A0_12 l0_12.length c0_12,.slice A0_13 l0_13.length c0_13,.slice A0_14 l0_14.length c0_14] 37 (0,0)) (by (with_reducible repeat (first|refine blk_drewN ?_ _|refine blk_drew ?_|refine blk_alloc ?_ _));exact BK253.out) hb);have n2_:=Aside0.mk (below_step (by repeat (first|(with_reducible first|exact HB.out|apply below_alloc|apply pw_below_drewN|apply below_drew1|refine below_set ?_ GE253.out)|exact HB.out)) hb);clear HO_3;clear BK253;clear HB;have HO_3:=n0_;have BK253:=n1_;have HB:=n2_;clear n0_ n1_ n2_;(try clear hb);(try clear hb2);(try clear hk);(try clear hi);have hcz29_0:w28.cell? ⟨gb253,0,none⟩=some (.int .i64 a0_0):=(blk_cell BK253.out 0).trans rfl;have hcz29_1:w28.cell? ⟨gb253,1,none⟩=some (.int .i64 a0_1):=(blk_cell BK253.out 1).trans rfl;have hcz29_2:w28.cell? ⟨gb253,2,none⟩=some (.int .i64 a0_2):=(blk_cell BK253.out 2).trans rfl;have hcz29_3:w28.cell? ⟨gb253,3,none⟩=some (.int .i64 a0_3):=(blk_cell BK253.out 3).trans rfl;have hcz29_4:w28.cell? ⟨gb253,4,none⟩=some (.int .i64 a0_4):=(blk_cell BK253.out 4).trans rfl;have hcz29_5:w28.cell? ⟨gb253,5,none⟩=some (.int .i64 a0_5):=(blk_cell BK253.out 5).trans rfl;have hcz29_6:w28.cell? ⟨gb253,6,none⟩=some (.bool a0_6):=(blk_cell BK253.out 6).trans rfl;have hcz29_7:w28.cell? ⟨gb253,7,none⟩=some (.string a0_7):=(blk_cell BK253.out 7).trans rfl;have hcz29_8:w28.cell? ⟨gb253,8,none⟩=some (.string a0_8):=(blk_cell BK253.out 8).trans rfl;have hcz29_9:w28.cell? ⟨gb253,9,none⟩=some (.bool a0_9):=(blk_cell BK253.out 9).trans rfl;have hcz29_10:w28.cell? ⟨gb253,10,none⟩=some (.string a0_10):=(blk_cell BK253.out 10).trans rfl;have hcz29_11:w28.cell? ⟨gb253,11,none⟩=some (.string a0_11):=(blk_cell BK253.out 11).trans rfl;have hcz29_12:w28.cell? ⟨gb253,12,none⟩=some (.slice A0_12 l0_12.length c0_12):=(blk_cell BK253.out 12).trans rfl;have hcz29_13:w28.cell? ⟨gb253,13,none⟩=some (.slice A0_13 l0_13.length c0_13):=(blk_cell BK253.out 13).trans rfl;have hcz29_14:w28.cell? ⟨gb253,14,none⟩=some (.slice A0_14 l0_14.length c0_14):=(blk_cell BK253.out 14).trans rfl;have hfz29_0:=blk_frozen BK253.out 0;have hfz29_1:=blk_frozen BK253.out 1;have hfz29_2:=blk_frozen BK253.out 2;have hfz29_3:=blk_frozen BK253.out 3;have hfz29_4:=blk_frozen BK253.out 4;have hfz29_5:=blk_frozen BK253.out 5;have hfz29_6:=blk_frozen BK253.out 6;have hfz29_7:=blk_frozen BK253.out 7;have hfz29_8:=blk_frozen BK253.out 8;have hfz29_9:=blk_frozen BK253.out 9;have hfz29_10:=blk_frozen BK253.out 10;have hfz29_11:=blk_frozen BK253.out 11;have hfz29_12:=blk_frozen BK253.out 12;have hfz29_13:=blk_frozen BK253.out 13;have hfz29_14:=blk_frozen BK253.out 14))
         go_meet
         case rel=>exact ⟨_,(true),(by first|rfl|(simp;done)|(simp [*];done)),H',⟨by have:=HK1.out;first|omega|exact Nat.le_refl _⟩,⟨by (with_reducible repeat (first|refine blk_drewN ?_ _|refine blk_drew ?_|refine blk_alloc ?_ _));exact BK253.out⟩,⟨by repeat (first|(with_reducible first|exact HB.out|apply below_alloc|apply pw_below_drewN|apply below_drew1|refine below_set ?_ GE253.out)|exact HB.out)⟩⟩
        ·rw [if_neg c24] at H
         have c24b0:decide (4<(l0_13.length:Int))=false:=decide_eq_false c24
         have c24b1:decide (4<l0_13.length)=false:=decide_eq_false (by omega)
         clear c24
         have H':=Aside0.mk H
         clear H
         have hcz30_0:wr.cell? ⟨gb253,0,none⟩=some (.int .i64 a0_0):=(blk_cell BK253.out 0).trans rfl
         have hcz30_1:wr.cell? ⟨gb253,1,none⟩=some (.int .i64 a0_1):=(blk_cell BK253.out 1).trans rfl
         have hcz30_2:wr.cell? ⟨gb253,2,none⟩=some (.int .i64 a0_2):=(blk_cell BK253.out 2).trans rfl
         have hcz30_3:wr.cell? ⟨gb253,3,none⟩=some (.int .i64 a0_3):=(blk_cell BK253.out 3).trans rfl
         have hcz30_4:wr.cell? ⟨gb253,4,none⟩=some (.int .i64 a0_4):=(blk_cell BK253.out 4).trans rfl
         have hcz30_5:wr.cell? ⟨gb253,5,none⟩=some (.int .i64 a0_5):=(blk_cell BK253.out 5).trans rfl
         have hcz30_6:wr.cell? ⟨gb253,6,none⟩=some (.bool a0_6):=(blk_cell BK253.out 6).trans rfl
         have hcz30_7:wr.cell? ⟨gb253,7,none⟩=some (.string a0_7):=(blk_cell BK253.out 7).trans rfl
         have hcz30_8:wr.cell? ⟨gb253,8,none⟩=some (.string a0_8):=(blk_cell BK253.out 8).trans rfl
         have hcz30_9:wr.cell? ⟨gb253,9,none⟩=some (.bool a0_9):=(blk_cell BK253.out 9).trans rfl
         have hcz30_10:wr.cell? ⟨gb253,10,none⟩=some (.string a0_10):=(blk_cell BK253.out 10).trans rfl
         have hcz30_11:wr.cell? ⟨gb253,11,none⟩=some (.string a0_11):=(blk_cell BK253.out 11).trans rfl
         have hcz30_12:wr.cell? ⟨gb253,12,none⟩=some (.slice A0_12 l0_12.length c0_12):=(blk_cell BK253.out 12).trans rfl
         have hcz30_13:wr.cell? ⟨gb253,13,none⟩=some (.slice A0_13 l0_13.length c0_13):=(blk_cell BK253.out 13).trans rfl
         have hcz30_14:wr.cell? ⟨gb253,14,none⟩=some (.slice A0_14 l0_14.length c0_14):=(blk_cell BK253.out 14).trans rfl
         have hfz30_0:=blk_frozen BK253.out 0
         have hfz30_1:=blk_frozen BK253.out 1
         have hfz30_2:=blk_frozen BK253.out 2
         have hfz30_3:=blk_frozen BK253.out 3
         have hfz30_4:=blk_frozen BK253.out 4
         have hfz30_5:=blk_frozen BK253.out 5
         have hfz30_6:=blk_frozen BK253.out 6
         have hfz30_7:=blk_frozen BK253.out 7
         have hfz30_8:=blk_frozen BK253.out 8
         have hfz30_9:=blk_frozen BK253.out 9
         have hfz30_10:=blk_frozen BK253.out 10
         have hfz30_11:=blk_frozen BK253.out 11
         have hfz30_12:=blk_frozen BK253.out 12
         have hfz30_13:=blk_frozen BK253.out 13
         have hfz30_14:=blk_frozen BK253.out 14
         go_wp2_with (first|((with_reducible refine gate_callee (f:=36) rfl ?_);refine goesL_ (some 27) rfl rfl Tryd.func36 (by kernel_rfl) rfl #[.agg #[.bool a0_6,.string a0_7,.string a0_8]] rfl (by (try simp only [List.map_toArray,List.map_cons,List.map_nil]);first|done|rfl|(simp only [List.length_drop,List.length_take];rfl)) ?_;(with_reducible refine (insolvencyref1_Valid.calls k1 a0_6 a0_7 a0_8 true _ A14.out).mono ?_);rintro e w31 ⟨rfl,hb⟩;refine ⟨_,rfl,?_⟩;have n0_:=Aside0.mk (Kd.R_below (by (with_reducible repeat (first|apply Kd.R_alloc|apply Kd.R_drewN|apply Kd.R_drew));exact HO_3.out) hb);have n1_:=Aside0.mk (blk_below (g:=gb253) (o:=.cells #[.int .i64 a0_0,.int .i64 a0_1,.int .i64 a0_2,.int .i64 a0_3,.int .i64 a0_4,.int .i64 a0_5,.bool a0_6,.string a0_7,.string a0_8,.bool a0_9,.string a0_10,.string a0_11,.slice A0_12 l0_12.length c0_12,.slice A0_13 l0_13.length c0_13,.slice A0_14 l0_14.length c0_14] 37 (0,0)) (by (with_reducible repeat (first|refine blk_drewN ?_ _|refine blk_drew ?_|refine blk_alloc ?_ _));exact BK253.out) hb);have n2_:=Aside0.mk (below_step (by repeat (first|(with_reducible first|exact HB.out|apply below_alloc|apply pw_below_drewN|apply below_drew1|refine below_set ?_ GE253.out)|exact HB.out)) hb);clear HO_3;clear BK253;clear HB;have HO_3:=n0_;have BK253:=n1_;have HB:=n2_;clear n0_ n1_ n2_;(try clear hb);(try clear hb2);(try clear hk);(try clear hi);have hcz32_0:w31.cell? ⟨gb253,0,none⟩=some (.int .i64 a0_0):=(blk_cell BK253.out 0).trans rfl;have hcz32_1:w31.cell? ⟨gb253,1,none⟩=some (.int .i64 a0_1):=(blk_cell BK253.out 1).trans rfl;have hcz32_2:w31.cell? ⟨gb253,2,none⟩=some (.int .i64 a0_2):=(blk_cell BK253.out 2).trans rfl;have hcz32_3:w31.cell? ⟨gb253,3,none⟩=some (.int .i64 a0_3):=(blk_cell BK253.out 3).trans rfl;have hcz32_4:w31.cell? ⟨gb253,4,none⟩=some (.int .i64 a0_4):=(blk_cell BK253.out 4).trans rfl;have hcz32_5:w31.cell? ⟨gb253,5,none⟩=some (.int .i64 a0_5):=(blk_cell BK253.out 5).trans rfl;have hcz32_6:w31.cell? ⟨gb253,6,none⟩=some (.bool a0_6):=(blk_cell BK253.out 6).trans rfl;have hcz32_7:w31.cell? ⟨gb253,7,none⟩=some (.string a0_7):=(blk_cell BK253.out 7).trans rfl;have hcz32_8:w31.cell? ⟨gb253,8,none⟩=some (.string a0_8):=(blk_cell BK253.out 8).trans rfl;have hcz32_9:w31.cell? ⟨gb253,9,none⟩=some (.bool a0_9):=(blk_cell BK253.out 9).trans rfl;have hcz32_10:w31.cell? ⟨gb253,10,none⟩=some (.string a0_10):=(blk_cell BK253.out 10).trans rfl;have hcz32_11:w31.cell? ⟨gb253,11,none⟩=some (.string a0_11):=(blk_cell BK253.out 11).trans rfl;have hcz32_12:w31.cell? ⟨gb253,12,none⟩=some (.slice A0_12 l0_12.length c0_12):=(blk_cell BK253.out 12).trans rfl;have hcz32_13:w31.cell? ⟨gb253,13,none⟩=some (.slice A0_13 l0_13.length c0_13):=(blk_cell BK253.out 13).trans rfl;have hcz32_14:w31.cell? ⟨gb253,14,none⟩=some (.slice A0_14 l0_14.length c0_14):=(blk_cell BK253.out 14).trans rfl;have hfz32_0:=blk_frozen BK253.out 0;have hfz32_1:=blk_frozen BK253.out 1;have hfz32_2:=blk_frozen BK253.out 2;have hfz32_3:=blk_frozen BK253.out 3;have hfz32_4:=blk_frozen BK253.out 4;have hfz32_5:=blk_frozen BK253.out 5;have hfz32_6:=blk_frozen BK253.out 6;have hfz32_7:=blk_frozen BK253.out 7;have hfz32_8:=blk_frozen BK253.out 8;have hfz32_9:=blk_frozen BK253.out 9;have hfz32_10:=blk_frozen BK253.out 10;have hfz32_11:=blk_frozen BK253.out 11;have hfz32_12:=blk_frozen BK253.out 12;have hfz32_13:=blk_frozen BK253.out 13;have hfz32_14:=blk_frozen BK253.out 14)|(go_at_call 36;(with_reducible refine (insolvencyref1_Valid.calls k1 a0_9 a0_10 a0_11 true _ A16.out).mono ?_);rintro e w33 ⟨rfl,hb⟩;have n0_:=Aside0.mk (Kd.R_below (by (with_reducible repeat (first|apply Kd.R_alloc|apply Kd.R_drewN|apply Kd.R_drew));exact HO_3.out) hb);have n1_:=Aside0.mk (blk_below (g:=gb253) (o:=.cells #[.int .i64 a0_0,.int .i64 a0_1,.int .i64 a0_2,.int .i64 a0_3,.int .i64 a0_4,.int .i64 a0_5,.bool a0_6,.string a0_7,.string a0_8,.bool a0_9,.string a0_10,.string a0_11,.slice A0_12 l0_12.length c0_12,.slice A0_13 l0_13.length c0_13,.slice A0_14 l0_14.length c0_14] 37 (0,0)) (by (with_reducible repeat (first|refine blk_drewN ?_ _|refine blk_drew ?_|refine blk_alloc ?_ _));exact BK253.out) hb);have n2_:=Aside0.mk (below_step (by repeat (first|(with_reducible first|exact HB.out|apply below_alloc|apply pw_below_drewN|apply below_drew1|refine below_set ?_ GE253.out)|exact HB.out)) hb);clear HO_3;clear BK253;clear HB;have HO_3:=n0_;have BK253:=n1_;have HB:=n2_;clear n0_ n1_ n2_;(try clear hb);(try clear hb2);(try clear hk);(try clear hi);have hcz34_0:w33.cell? ⟨gb253,0,none⟩=some (.int .i64 a0_0):=(blk_cell BK253.out 0).trans rfl;have hcz34_1:w33.cell? ⟨gb253,1,none⟩=some (.int .i64 a0_1):=(blk_cell BK253.out 1).trans rfl;have hcz34_2:w33.cell? ⟨gb253,2,none⟩=some (.int .i64 a0_2):=(blk_cell BK253.out 2).trans rfl;have hcz34_3:w33.cell? ⟨gb253,3,none⟩=some (.int .i64 a0_3):=(blk_cell BK253.out 3).trans rfl;have hcz34_4:w33.cell? ⟨gb253,4,none⟩=some (.int .i64 a0_4):=(blk_cell BK253.out 4).trans rfl;have hcz34_5:w33.cell? ⟨gb253,5,none⟩=some (.int .i64 a0_5):=(blk_cell BK253.out 5).trans rfl;have hcz34_6:w33.cell? ⟨gb253,6,none⟩=some (.bool a0_6):=(blk_cell BK253.out 6).trans rfl;have hcz34_7:w33.cell? ⟨gb253,7,none⟩=some (.string a0_7):=(blk_cell BK253.out 7).trans rfl;have hcz34_8:w33.cell? ⟨gb253,8,none⟩=some (.string a0_8):=(blk_cell BK253.out 8).trans rfl;have hcz34_9:w33.cell? ⟨gb253,9,none⟩=some (.bool a0_9):=(blk_cell BK253.out 9).trans rfl;have hcz34_10:w33.cell? ⟨gb253,10,none⟩=some (.string a0_10):=(blk_cell BK253.out 10).trans rfl;have hcz34_11:w33.cell? ⟨gb253,11,none⟩=some (.string a0_11):=(blk_cell BK253.out 11).trans rfl;have hcz34_12:w33.cell? ⟨gb253,12,none⟩=some (.slice A0_12 l0_12.length c0_12):=(blk_cell BK253.out 12).trans rfl;have hcz34_13:w33.cell? ⟨gb253,13,none⟩=some (.slice A0_13 l0_13.length c0_13):=(blk_cell BK253.out 13).trans rfl;have hcz34_14:w33.cell? ⟨gb253,14,none⟩=some (.slice A0_14 l0_14.length c0_14):=(blk_cell BK253.out 14).trans rfl;have hfz34_0:=blk_frozen BK253.out 0;have hfz34_1:=blk_frozen BK253.out 1;have hfz34_2:=blk_frozen BK253.out 2;have hfz34_3:=blk_frozen BK253.out 3;have hfz34_4:=blk_frozen BK253.out 4;have hfz34_5:=blk_frozen BK253.out 5;have hfz34_6:=blk_frozen BK253.out 6;have hfz34_7:=blk_frozen BK253.out 7;have hfz34_8:=blk_frozen BK253.out 8;have hfz34_9:=blk_frozen BK253.out 9;have hfz34_10:=blk_frozen BK253.out 10;have hfz34_11:=blk_frozen BK253.out 11;have hfz34_12:=blk_frozen BK253.out 12;have hfz34_13:=blk_frozen BK253.out 13;have hfz34_14:=blk_frozen BK253.out 14))
         go_meet
         case rel=>exact ⟨_,(decide ((l0_14.length:Int)>256)),(by first|rfl|(simp;done)|(simp [*];done)),H',⟨by have:=HK1.out;first|omega|exact Nat.le_refl _⟩,⟨by (with_reducible repeat (first|refine blk_drewN ?_ _|refine blk_drew ?_|refine blk_alloc ?_ _));exact BK253.out⟩,⟨by repeat (first|(with_reducible first|exact HB.out|apply below_alloc|apply pw_below_drewN|apply below_drew1|refine below_set ?_ GE253.out)|exact HB.out)⟩⟩
      ·replace c17:=Bool.eq_false_iff.mpr c17
       subst c17
       have H1:(insolvencyref33_Valid.j1 k1 true a0_0 a0_1 a0_2 a0_3 a0_4 a0_5 a0_6 a0_7 a0_8 a0_9 a0_10 a0_11 l0_12 l0_13 l0_14)=some r:=by rw [if_neg (show ¬ (false=true) by decide)] at H;exact H
       clear H
       have H:=H1
       clear H1
       have H':=Aside0.mk H
       clear H
       have hcz35_0:wr.cell? ⟨gb253,0,none⟩=some (.int .i64 a0_0):=(blk_cell BK253.out 0).trans rfl
       have hcz35_1:wr.cell? ⟨gb253,1,none⟩=some (.int .i64 a0_1):=(blk_cell BK253.out 1).trans rfl
       have hcz35_2:wr.cell? ⟨gb253,2,none⟩=some (.int .i64 a0_2):=(blk_cell BK253.out 2).trans rfl
       have hcz35_3:wr.cell? ⟨gb253,3,none⟩=some (.int .i64 a0_3):=(blk_cell BK253.out 3).trans rfl
       have hcz35_4:wr.cell? ⟨gb253,4,none⟩=some (.int .i64 a0_4):=(blk_cell BK253.out 4).trans rfl
       have hcz35_5:wr.cell? ⟨gb253,5,none⟩=some (.int .i64 a0_5):=(blk_cell BK253.out 5).trans rfl
       have hcz35_6:wr.cell? ⟨gb253,6,none⟩=some (.bool a0_6):=(blk_cell BK253.out 6).trans rfl
       have hcz35_7:wr.cell? ⟨gb253,7,none⟩=some (.string a0_7):=(blk_cell BK253.out 7).trans rfl
       have hcz35_8:wr.cell? ⟨gb253,8,none⟩=some (.string a0_8):=(blk_cell BK253.out 8).trans rfl
       have hcz35_9:wr.cell? ⟨gb253,9,none⟩=some (.bool a0_9):=(blk_cell BK253.out 9).trans rfl
       have hcz35_10:wr.cell? ⟨gb253,10,none⟩=some (.string a0_10):=(blk_cell BK253.out 10).trans rfl
       have hcz35_11:wr.cell? ⟨gb253,11,none⟩=some (.string a0_11):=(blk_cell BK253.out 11).trans rfl
       have hcz35_12:wr.cell? ⟨gb253,12,none⟩=some (.slice A0_12 l0_12.length c0_12):=(blk_cell BK253.out 12).trans rfl
       have hcz35_13:wr.cell? ⟨gb253,13,none⟩=some (.slice A0_13 l0_13.length c0_13):=(blk_cell BK253.out 13).trans rfl
       have hcz35_14:wr.cell? ⟨gb253,14,none⟩=some (.slice A0_14 l0_14.length c0_14):=(blk_cell BK253.out 14).trans rfl
       have hfz35_0:=blk_frozen BK253.out 0
       have hfz35_1:=blk_frozen BK253.out 1
       have hfz35_2:=blk_frozen BK253.out 2
       have hfz35_3:=blk_frozen BK253.out 3
       have hfz35_4:=blk_frozen BK253.out 4
       have hfz35_5:=blk_frozen BK253.out 5
       have hfz35_6:=blk_frozen BK253.out 6
       have hfz35_7:=blk_frozen BK253.out 7
       have hfz35_8:=blk_frozen BK253.out 8
       have hfz35_9:=blk_frozen BK253.out 9
       have hfz35_10:=blk_frozen BK253.out 10
       have hfz35_11:=blk_frozen BK253.out 11
       have hfz35_12:=blk_frozen BK253.out 12
       have hfz35_13:=blk_frozen BK253.out 13
       have hfz35_14:=blk_frozen BK253.out 14
       go_wp2_with (first|((with_reducible refine gate_callee (f:=36) rfl ?_);refine goesL_ (some 27) rfl rfl Tryd.func36 (by kernel_rfl) rfl #[.agg #[.bool a0_6,.string a0_7,.string a0_8]] rfl (by (try simp only [List.map_toArray,List.map_cons,List.map_nil]);first|done|rfl|(simp only [List.length_drop,List.length_take];rfl)) ?_;(with_reducible refine (insolvencyref1_Valid.calls k1 a0_6 a0_7 a0_8 true _ A14.out).mono ?_);rintro e w36 ⟨rfl,hb⟩;refine ⟨_,rfl,?_⟩;have n0_:=Aside0.mk (Kd.R_below (by (with_reducible repeat (first|apply Kd.R_alloc|apply Kd.R_drewN|apply Kd.R_drew));exact HO_3.out) hb);have n1_:=Aside0.mk (blk_below (g:=gb253) (o:=.cells #[.int .i64 a0_0,.int .i64 a0_1,.int .i64 a0_2,.int .i64 a0_3,.int .i64 a0_4,.int .i64 a0_5,.bool a0_6,.string a0_7,.string a0_8,.bool a0_9,.string a0_10,.string a0_11,.slice A0_12 l0_12.length c0_12,.slice A0_13 l0_13.length c0_13,.slice A0_14 l0_14.length c0_14] 37 (0,0)) (by (with_reducible repeat (first|refine blk_drewN ?_ _|refine blk_drew ?_|refine blk_alloc ?_ _));exact BK253.out) hb);have n2_:=Aside0.mk (below_step (by repeat (first|(with_reducible first|exact HB.out|apply below_alloc|apply pw_below_drewN|apply below_drew1|refine below_set ?_ GE253.out)|exact HB.out)) hb);clear HO_3;clear BK253;clear HB;have HO_3:=n0_;have BK253:=n1_;have HB:=n2_;clear n0_ n1_ n2_;(try clear hb);(try clear hb2);(try clear hk);(try clear hi);have hcz37_0:w36.cell? ⟨gb253,0,none⟩=some (.int .i64 a0_0):=(blk_cell BK253.out 0).trans rfl;have hcz37_1:w36.cell? ⟨gb253,1,none⟩=some (.int .i64 a0_1):=(blk_cell BK253.out 1).trans rfl;have hcz37_2:w36.cell? ⟨gb253,2,none⟩=some (.int .i64 a0_2):=(blk_cell BK253.out 2).trans rfl;have hcz37_3:w36.cell? ⟨gb253,3,none⟩=some (.int .i64 a0_3):=(blk_cell BK253.out 3).trans rfl;have hcz37_4:w36.cell? ⟨gb253,4,none⟩=some (.int .i64 a0_4):=(blk_cell BK253.out 4).trans rfl;have hcz37_5:w36.cell? ⟨gb253,5,none⟩=some (.int .i64 a0_5):=(blk_cell BK253.out 5).trans rfl;have hcz37_6:w36.cell? ⟨gb253,6,none⟩=some (.bool a0_6):=(blk_cell BK253.out 6).trans rfl;have hcz37_7:w36.cell? ⟨gb253,7,none⟩=some (.string a0_7):=(blk_cell BK253.out 7).trans rfl;have hcz37_8:w36.cell? ⟨gb253,8,none⟩=some (.string a0_8):=(blk_cell BK253.out 8).trans rfl;have hcz37_9:w36.cell? ⟨gb253,9,none⟩=some (.bool a0_9):=(blk_cell BK253.out 9).trans rfl;have hcz37_10:w36.cell? ⟨gb253,10,none⟩=some (.string a0_10):=(blk_cell BK253.out 10).trans rfl;have hcz37_11:w36.cell? ⟨gb253,11,none⟩=some (.string a0_11):=(blk_cell BK253.out 11).trans rfl;have hcz37_12:w36.cell? ⟨gb253,12,none⟩=some (.slice A0_12 l0_12.length c0_12):=(blk_cell BK253.out 12).trans rfl;have hcz37_13:w36.cell? ⟨gb253,13,none⟩=some (.slice A0_13 l0_13.length c0_13):=(blk_cell BK253.out 13).trans rfl;have hcz37_14:w36.cell? ⟨gb253,14,none⟩=some (.slice A0_14 l0_14.length c0_14):=(blk_cell BK253.out 14).trans rfl;have hfz37_0:=blk_frozen BK253.out 0;have hfz37_1:=blk_frozen BK253.out 1;have hfz37_2:=blk_frozen BK253.out 2;have hfz37_3:=blk_frozen BK253.out 3;have hfz37_4:=blk_frozen BK253.out 4;have hfz37_5:=blk_frozen BK253.out 5;have hfz37_6:=blk_frozen BK253.out 6;have hfz37_7:=blk_frozen BK253.out 7;have hfz37_8:=blk_frozen BK253.out 8;have hfz37_9:=blk_frozen BK253.out 9;have hfz37_10:=blk_frozen BK253.out 10;have hfz37_11:=blk_frozen BK253.out 11;have hfz37_12:=blk_frozen BK253.out 12;have hfz37_13:=blk_frozen BK253.out 13;have hfz37_14:=blk_frozen BK253.out 14)|(go_at_call 36;(with_reducible refine (insolvencyref1_Valid.calls k1 a0_9 a0_10 a0_11 false _ A16.out).mono ?_);rintro e w38 ⟨rfl,hb⟩;have n0_:=Aside0.mk (Kd.R_below (by (with_reducible repeat (first|apply Kd.R_alloc|apply Kd.R_drewN|apply Kd.R_drew));exact HO_3.out) hb);have n1_:=Aside0.mk (blk_below (g:=gb253) (o:=.cells #[.int .i64 a0_0,.int .i64 a0_1,.int .i64 a0_2,.int .i64 a0_3,.int .i64 a0_4,.int .i64 a0_5,.bool a0_6,.string a0_7,.string a0_8,.bool a0_9,.string a0_10,.string a0_11,.slice A0_12 l0_12.length c0_12,.slice A0_13 l0_13.length c0_13,.slice A0_14 l0_14.length c0_14] 37 (0,0)) (by (with_reducible repeat (first|refine blk_drewN ?_ _|refine blk_drew ?_|refine blk_alloc ?_ _));exact BK253.out) hb);have n2_:=Aside0.mk (below_step (by repeat (first|(with_reducible first|exact HB.out|apply below_alloc|apply pw_below_drewN|apply below_drew1|refine below_set ?_ GE253.out)|exact HB.out)) hb);clear HO_3;clear BK253;clear HB;have HO_3:=n0_;have BK253:=n1_;have HB:=n2_;clear n0_ n1_ n2_;(try clear hb);(try clear hb2);(try clear hk);(try clear hi)))
       go_meet
       case rel=>exact ⟨_,(true),(by first|rfl|(simp;done)|(simp [*];done)),H',⟨by have:=HK1.out;first|omega|exact Nat.le_refl _⟩,⟨by (with_reducible repeat (first|refine blk_drewN ?_ _|refine blk_drew ?_|refine blk_alloc ?_ _));exact BK253.out⟩,⟨by repeat (first|(with_reducible first|exact HB.out|apply below_alloc|apply pw_below_drewN|apply below_drew1|refine below_set ?_ GE253.out)|exact HB.out)⟩⟩
     ·replace c15:=Bool.eq_false_iff.mpr c15
      subst c15
      have H1:(insolvencyref33_Valid.j1 k1 true a0_0 a0_1 a0_2 a0_3 a0_4 a0_5 a0_6 a0_7 a0_8 a0_9 a0_10 a0_11 l0_12 l0_13 l0_14)=some r:=by rw [if_neg (show ¬ (false=true) by decide)] at H;exact H
      clear H
      have H:=H1
      clear H1
      have H':=Aside0.mk H
      clear H
      have hcz39_0:wr.cell? ⟨gb253,0,none⟩=some (.int .i64 a0_0):=(blk_cell BK253.out 0).trans rfl
      have hcz39_1:wr.cell? ⟨gb253,1,none⟩=some (.int .i64 a0_1):=(blk_cell BK253.out 1).trans rfl
      have hcz39_2:wr.cell? ⟨gb253,2,none⟩=some (.int .i64 a0_2):=(blk_cell BK253.out 2).trans rfl
      have hcz39_3:wr.cell? ⟨gb253,3,none⟩=some (.int .i64 a0_3):=(blk_cell BK253.out 3).trans rfl
      have hcz39_4:wr.cell? ⟨gb253,4,none⟩=some (.int .i64 a0_4):=(blk_cell BK253.out 4).trans rfl
      have hcz39_5:wr.cell? ⟨gb253,5,none⟩=some (.int .i64 a0_5):=(blk_cell BK253.out 5).trans rfl
      have hcz39_6:wr.cell? ⟨gb253,6,none⟩=some (.bool a0_6):=(blk_cell BK253.out 6).trans rfl
      have hcz39_7:wr.cell? ⟨gb253,7,none⟩=some (.string a0_7):=(blk_cell BK253.out 7).trans rfl
      have hcz39_8:wr.cell? ⟨gb253,8,none⟩=some (.string a0_8):=(blk_cell BK253.out 8).trans rfl
      have hcz39_9:wr.cell? ⟨gb253,9,none⟩=some (.bool a0_9):=(blk_cell BK253.out 9).trans rfl
      have hcz39_10:wr.cell? ⟨gb253,10,none⟩=some (.string a0_10):=(blk_cell BK253.out 10).trans rfl
      have hcz39_11:wr.cell? ⟨gb253,11,none⟩=some (.string a0_11):=(blk_cell BK253.out 11).trans rfl
      have hcz39_12:wr.cell? ⟨gb253,12,none⟩=some (.slice A0_12 l0_12.length c0_12):=(blk_cell BK253.out 12).trans rfl
      have hcz39_13:wr.cell? ⟨gb253,13,none⟩=some (.slice A0_13 l0_13.length c0_13):=(blk_cell BK253.out 13).trans rfl
      have hcz39_14:wr.cell? ⟨gb253,14,none⟩=some (.slice A0_14 l0_14.length c0_14):=(blk_cell BK253.out 14).trans rfl
      have hfz39_0:=blk_frozen BK253.out 0
      have hfz39_1:=blk_frozen BK253.out 1
      have hfz39_2:=blk_frozen BK253.out 2
      have hfz39_3:=blk_frozen BK253.out 3
      have hfz39_4:=blk_frozen BK253.out 4
      have hfz39_5:=blk_frozen BK253.out 5
      have hfz39_6:=blk_frozen BK253.out 6
      have hfz39_7:=blk_frozen BK253.out 7
      have hfz39_8:=blk_frozen BK253.out 8
      have hfz39_9:=blk_frozen BK253.out 9
      have hfz39_10:=blk_frozen BK253.out 10
      have hfz39_11:=blk_frozen BK253.out 11
      have hfz39_12:=blk_frozen BK253.out 12
      have hfz39_13:=blk_frozen BK253.out 13
      have hfz39_14:=blk_frozen BK253.out 14
      go_wp2_with (first|((with_reducible refine gate_callee (f:=36) rfl ?_);refine goesL_ (some 27) rfl rfl Tryd.func36 (by kernel_rfl) rfl #[.agg #[.bool a0_6,.string a0_7,.string a0_8]] rfl (by (try simp only [List.map_toArray,List.map_cons,List.map_nil]);first|done|rfl|(simp only [List.length_drop,List.length_take];rfl)) ?_;(with_reducible refine (insolvencyref1_Valid.calls k1 a0_6 a0_7 a0_8 false _ A14.out).mono ?_);rintro e w40 ⟨rfl,hb⟩;refine ⟨_,rfl,?_⟩;have n0_:=Aside0.mk (Kd.R_below (by (with_reducible repeat (first|apply Kd.R_alloc|apply Kd.R_drewN|apply Kd.R_drew));exact HO_3.out) hb);have n1_:=Aside0.mk (blk_below (g:=gb253) (o:=.cells #[.int .i64 a0_0,.int .i64 a0_1,.int .i64 a0_2,.int .i64 a0_3,.int .i64 a0_4,.int .i64 a0_5,.bool a0_6,.string a0_7,.string a0_8,.bool a0_9,.string a0_10,.string a0_11,.slice A0_12 l0_12.length c0_12,.slice A0_13 l0_13.length c0_13,.slice A0_14 l0_14.length c0_14] 37 (0,0)) (by (with_reducible repeat (first|refine blk_drewN ?_ _|refine blk_drew ?_|refine blk_alloc ?_ _));exact BK253.out) hb);have n2_:=Aside0.mk (below_step (by repeat (first|(with_reducible first|exact HB.out|apply below_alloc|apply pw_below_drewN|apply below_drew1|refine below_set ?_ GE253.out)|exact HB.out)) hb);clear HO_3;clear BK253;clear HB;have HO_3:=n0_;have BK253:=n1_;have HB:=n2_;clear n0_ n1_ n2_;(try clear hb);(try clear hb2);(try clear hk);(try clear hi)))
      go_meet
      case rel=>exact ⟨_,(true),(by first|rfl|(simp;done)|(simp [*];done)),H',⟨by have:=HK1.out;first|omega|exact Nat.le_refl _⟩,⟨by (with_reducible repeat (first|refine blk_drewN ?_ _|refine blk_drew ?_|refine blk_alloc ?_ _));exact BK253.out⟩,⟨by repeat (first|(with_reducible first|exact HB.out|apply below_alloc|apply pw_below_drewN|apply below_drew1|refine below_set ?_ GE253.out)|exact HB.out)⟩⟩
    case rest=>
     clear HC12
     try clear c1
     try clear c2
     try clear p2
     try clear q2
     try clear hx2
     try clear c3
     try clear c6
     try clear c6b0
     try clear p6
     try clear c7
     try clear c7b0
     try clear c9
     try clear c15
     try clear c17
     try clear c18
     try clear c18b0
     try clear c18b1
     try clear c23
     try clear c24
     try clear c24b0
     try clear c24b1
     try clear p25
     try clear q25
     try clear hx25
     try clear c34
     try clear c35
     try clear c36
     try clear hcz19_0
     try clear hcz19_1
     try clear hcz19_10
     try clear hcz19_11
     try clear hcz19_12
     try clear hcz19_13
     try clear hcz19_14
     try clear hcz19_2
     try clear hcz19_3
     try clear hcz19_4
     try clear hcz19_5
     try clear hcz19_6
     try clear hcz19_7
     try clear hcz19_8
     try clear hcz19_9
     try clear hcz21_0
     try clear hcz21_1
     try clear hcz21_10
     try clear hcz21_11
     try clear hcz21_12
     try clear hcz21_13
     try clear hcz21_14
     try clear hcz21_2
     try clear hcz21_3
     try clear hcz21_4
     try clear hcz21_5
     try clear hcz21_6
     try clear hcz21_7
     try clear hcz21_8
     try clear hcz21_9
     try clear hcz23_0
     try clear hcz23_1
     try clear hcz23_10
     try clear hcz23_11
     try clear hcz23_12
     try clear hcz23_13
     try clear hcz23_14
     try clear hcz23_2
     try clear hcz23_3
     try clear hcz23_4
     try clear hcz23_5
     try clear hcz23_6
     try clear hcz23_7
     try clear hcz23_8
     try clear hcz23_9
     try clear hcz25_0
     try clear hcz25_1
     try clear hcz25_10
     try clear hcz25_11
     try clear hcz25_12
     try clear hcz25_13
     try clear hcz25_14
     try clear hcz25_2
     try clear hcz25_3
     try clear hcz25_4
     try clear hcz25_5
     try clear hcz25_6
     try clear hcz25_7
     try clear hcz25_8
     try clear hcz25_9
     try clear hcz27_0
     try clear hcz27_1
     try clear hcz27_10
     try clear hcz27_11
     try clear hcz27_12
     try clear hcz27_13
     try clear hcz27_14
     try clear hcz27_2
     try clear hcz27_3
     try clear hcz27_4
     try clear hcz27_5
     try clear hcz27_6
     try clear hcz27_7
     try clear hcz27_8
     try clear hcz27_9
     try clear hcz29_0
     try clear hcz29_1
     try clear hcz29_10
     try clear hcz29_11
     try clear hcz29_12
     try clear hcz29_13
     try clear hcz29_14
     try clear hcz29_2
     try clear hcz29_3
     try clear hcz29_4
     try clear hcz29_5
     try clear hcz29_6
     try clear hcz29_7
     try clear hcz29_8
     try clear hcz29_9
     try clear hcz30_0
     try clear hcz30_1
     try clear hcz30_10
     try clear hcz30_11
     try clear hcz30_12
     try clear hcz30_13
     try clear hcz30_14
     try clear hcz30_2
     try clear hcz30_3
     try clear hcz30_4
     try clear hcz30_5
     try clear hcz30_6
     try clear hcz30_7
     try clear hcz30_8
     try clear hcz30_9
     try clear hcz32_0
     try clear hcz32_1
     try clear hcz32_10
     try clear hcz32_11
     try clear hcz32_12
     try clear hcz32_13
     try clear hcz32_14
     try clear hcz32_2
     try clear hcz32_3
     try clear hcz32_4
     try clear hcz32_5
     try clear hcz32_6
     try clear hcz32_7
     try clear hcz32_8
     try clear hcz32_9
     try clear hcz34_0
     try clear hcz34_1
     try clear hcz34_10
     try clear hcz34_11
     try clear hcz34_12
     try clear hcz34_13
     try clear hcz34_14
     try clear hcz34_2
     try clear hcz34_3
     try clear hcz34_4
     try clear hcz34_5
     try clear hcz34_6
     try clear hcz34_7
     try clear hcz34_8
     try clear hcz34_9
     try clear hcz35_0
     try clear hcz35_1
     try clear hcz35_10
     try clear hcz35_11
     try clear hcz35_12
     try clear hcz35_13
     try clear hcz35_14
     try clear hcz35_2
     try clear hcz35_3
     try clear hcz35_4
     try clear hcz35_5
     try clear hcz35_6
     try clear hcz35_7
     try clear hcz35_8
     try clear hcz35_9
     try clear hcz37_0
     try clear hcz37_1
     try clear hcz37_10
     try clear hcz37_11
     try clear hcz37_12
     try clear hcz37_13
     try clear hcz37_14
     try clear hcz37_2
     try clear hcz37_3
     try clear hcz37_4
     try clear hcz37_5
     try clear hcz37_6
     try clear hcz37_7
     try clear hcz37_8
     try clear hcz37_9
     try clear hcz39_0
     try clear hcz39_1
     try clear hcz39_10
     try clear hcz39_11
     try clear hcz39_12
     try clear hcz39_13
     try clear hcz39_14
     try clear hcz39_2
     try clear hcz39_3
     try clear hcz39_4
     try clear hcz39_5
     try clear hcz39_6
     try clear hcz39_7
     try clear hcz39_8
     try clear hcz39_9
     try clear hcz4_0
     try clear hcz4_1
     try clear hcz4_10
     try clear hcz4_11
     try clear hcz4_12
     try clear hcz4_13
     try clear hcz4_14
     try clear hcz4_2
     try clear hcz4_3
     try clear hcz4_4
     try clear hcz4_5
     try clear hcz4_6
     try clear hcz4_7
     try clear hcz4_8
     try clear hcz4_9
     try clear hfz19_0
     try clear hfz19_1
     try clear hfz19_10
     try clear hfz19_11
     try clear hfz19_12
     try clear hfz19_13
     try clear hfz19_14
     try clear hfz19_2
     try clear hfz19_3
     try clear hfz19_4
     try clear hfz19_5
     try clear hfz19_6
     try clear hfz19_7
     try clear hfz19_8
     try clear hfz19_9
     try clear hfz21_0
     try clear hfz21_1
     try clear hfz21_10
     try clear hfz21_11
     try clear hfz21_12
     try clear hfz21_13
     try clear hfz21_14
     try clear hfz21_2
     try clear hfz21_3
     try clear hfz21_4
     try clear hfz21_5
     try clear hfz21_6
     try clear hfz21_7
     try clear hfz21_8
     try clear hfz21_9
     try clear hfz23_0
     try clear hfz23_1
     try clear hfz23_10
     try clear hfz23_11
     try clear hfz23_12
     try clear hfz23_13
     try clear hfz23_14
     try clear hfz23_2
     try clear hfz23_3
     try clear hfz23_4
     try clear hfz23_5
     try clear hfz23_6
     try clear hfz23_7
     try clear hfz23_8
     try clear hfz23_9
     try clear hfz25_0
     try clear hfz25_1
     try clear hfz25_10
     try clear hfz25_11
     try clear hfz25_12
     try clear hfz25_13
     try clear hfz25_14
     try clear hfz25_2
     try clear hfz25_3
     try clear hfz25_4
     try clear hfz25_5
     try clear hfz25_6
     try clear hfz25_7
     try clear hfz25_8
     try clear hfz25_9
     try clear hfz27_0
     try clear hfz27_1
     try clear hfz27_10
     try clear hfz27_11
     try clear hfz27_12
     try clear hfz27_13
     try clear hfz27_14
     try clear hfz27_2
     try clear hfz27_3
     try clear hfz27_4
     try clear hfz27_5
     try clear hfz27_6
     try clear hfz27_7
     try clear hfz27_8
     try clear hfz27_9
     try clear hfz29_0
     try clear hfz29_1
     try clear hfz29_10
     try clear hfz29_11
     try clear hfz29_12
     try clear hfz29_13
     try clear hfz29_14
     try clear hfz29_2
     try clear hfz29_3
     try clear hfz29_4
     try clear hfz29_5
     try clear hfz29_6
     try clear hfz29_7
     try clear hfz29_8
     try clear hfz29_9
     try clear hfz30_0
     try clear hfz30_1
     try clear hfz30_10
     try clear hfz30_11
     try clear hfz30_12
     try clear hfz30_13
     try clear hfz30_14
     try clear hfz30_2
     try clear hfz30_3
     try clear hfz30_4
     try clear hfz30_5
     try clear hfz30_6
     try clear hfz30_7
     try clear hfz30_8
     try clear hfz30_9
     try clear hfz32_0
     try clear hfz32_1
     try clear hfz32_10
     try clear hfz32_11
     try clear hfz32_12
     try clear hfz32_13
     try clear hfz32_14
     try clear hfz32_2
     try clear hfz32_3
     try clear hfz32_4
     try clear hfz32_5
     try clear hfz32_6
     try clear hfz32_7
     try clear hfz32_8
     try clear hfz32_9
     try clear hfz34_0
     try clear hfz34_1
     try clear hfz34_10
     try clear hfz34_11
     try clear hfz34_12
     try clear hfz34_13
     try clear hfz34_14
     try clear hfz34_2
     try clear hfz34_3
     try clear hfz34_4
     try clear hfz34_5
     try clear hfz34_6
     try clear hfz34_7
     try clear hfz34_8
     try clear hfz34_9
     try clear hfz35_0
     try clear hfz35_1
     try clear hfz35_10
     try clear hfz35_11
     try clear hfz35_12
     try clear hfz35_13
     try clear hfz35_14
     try clear hfz35_2
     try clear hfz35_3
     try clear hfz35_4
     try clear hfz35_5
     try clear hfz35_6
     try clear hfz35_7
     try clear hfz35_8
     try clear hfz35_9
     try clear hfz37_0
     try clear hfz37_1
     try clear hfz37_10
     try clear hfz37_11
     try clear hfz37_12
     try clear hfz37_13
     try clear hfz37_14
     try clear hfz37_2
     try clear hfz37_3
     try clear hfz37_4
     try clear hfz37_5
     try clear hfz37_6
     try clear hfz37_7
     try clear hfz37_8
     try clear hfz37_9
     try clear hfz39_0
     try clear hfz39_1
     try clear hfz39_10
     try clear hfz39_11
     try clear hfz39_12
     try clear hfz39_13
     try clear hfz39_14
     try clear hfz39_2
     try clear hfz39_3
     try clear hfz39_4
     try clear hfz39_5
     try clear hfz39_6
     try clear hfz39_7
     try clear hfz39_8
     try clear hfz39_9
     try clear hfz4_0
     try clear hfz4_1
     try clear hfz4_10
     try clear hfz4_11
     try clear hfz4_12
     try clear hfz4_13
     try clear hfz4_14
     try clear hfz4_2
     try clear hfz4_3
     try clear hfz4_4
     try clear hfz4_5
     try clear hfz4_6
     try clear hfz4_7
     try clear hfz4_8
     try clear hfz4_9
     try clear hx257_0
     try clear p2
     try clear p257
     try clear q257
     obtain ⟨kq,x55_11,rfl,HA,HJ11,BK253,HB⟩:=hcut
     cases kq with
     | zero=>exact absurd HA.out (by simp [insolvencyref33_Valid.j1])
     | succ kj11=>
      have H:=HA.out
      clear HA
      simp only [insolvencyref33_Valid.j1] at H
      by_cases c41:x55_11=true
      ·subst c41
       have H1:(some false)=some r:=by rw [if_pos rfl] at H;exact H
       clear H
       have H:=H1
       clear H1
       obtain rfl:=Option.some.inj H
       go_wp2
       go_ret
       exact ⟨by first|rfl|(simp [errW_none,errW_some] <;> rfl)|(simp [*,errW_none,errW_some] <;> rfl),by repeat (first|(with_reducible first|exact HB.out|apply below_alloc|apply pw_below_drewN|apply below_drew1|refine below_set ?_ GE253.out)|exact HB.out)⟩
      ·replace c41:=Bool.eq_false_iff.mpr c41
       subst c41
       have H1:(insolvencyref33_Valid.l1 kj11 0 a0_0 a0_1 a0_2 a0_3 a0_4 a0_5 a0_6 a0_7 a0_8 a0_9 a0_10 a0_11 l0_12 l0_13 l0_14)=some r:=by rw [if_neg (show ¬ (false=true) by decide)] at H;exact H
       clear H
       have H:=H1
       clear H1
       have H':=Aside0.mk H
       clear H
       go_wp2
       go_loopg [5] kj11 (fun kq v5 w'=>∃ (x5_3:Int),v5 = .int .i64 x5_3∧Aside0 (insolvencyref33_Valid.l1 kq x5_3 a0_0 a0_1 a0_2 a0_3 a0_4 a0_5 a0_6 a0_7 a0_8 a0_9 a0_10 a0_11 l0_12 l0_13 l0_14=some r)∧Aside0 (kq≤kj11)∧Aside0 (w'.heap[gb253]?=some (.cells #[.int .i64 a0_0,.int .i64 a0_1,.int .i64 a0_2,.int .i64 a0_3,.int .i64 a0_4,.int .i64 a0_5,.bool a0_6,.string a0_7,.string a0_8,.bool a0_9,.string a0_10,.string a0_11,(.slice A0_12 l0_12.length c0_12),(.slice A0_13 l0_13.length c0_13),(.slice A0_14 l0_14.length c0_14)] 37 (0,0)))∧Aside0 (Below w.heap.size w w'))
       case atStart=>exact ⟨(0),(by first|rfl|(simp;done)|(simp [*];done)),H',⟨Nat.le_refl _⟩,⟨by (with_reducible repeat (first|refine blk_drewN ?_ _|refine blk_drew ?_|refine blk_alloc ?_ _));exact BK253.out⟩,⟨by repeat (first|(with_reducible first|exact HB.out|apply below_alloc|apply pw_below_drewN|apply below_drew1|refine below_set ?_ GE253.out)|exact HB.out)⟩⟩
       case round=>
        clear H'
        try clear c1
        try clear c2
        try clear p2
        try clear q2
        try clear hx2
        try clear c3
        try clear c4
        try clear c6
        try clear c6b0
        try clear p6
        try clear c7
        try clear c7b0
        try clear c9
        try clear c15
        try clear c17
        try clear c18
        try clear c18b0
        try clear c18b1
        try clear c23
        try clear c24
        try clear c24b0
        try clear c24b1
        try clear p25
        try clear q25
        try clear hx25
        try clear c34
        try clear c35
        try clear c36
        try clear c41
        try clear hcz19_0
        try clear hcz19_1
        try clear hcz19_10
        try clear hcz19_11
        try clear hcz19_12
        try clear hcz19_13
        try clear hcz19_14
        try clear hcz19_2
        try clear hcz19_3
        try clear hcz19_4
        try clear hcz19_5
        try clear hcz19_6
        try clear hcz19_7
        try clear hcz19_8
        try clear hcz19_9
        try clear hcz21_0
        try clear hcz21_1
        try clear hcz21_10
        try clear hcz21_11
        try clear hcz21_12
        try clear hcz21_13
        try clear hcz21_14
        try clear hcz21_2
        try clear hcz21_3
        try clear hcz21_4
        try clear hcz21_5
        try clear hcz21_6
        try clear hcz21_7
        try clear hcz21_8
        try clear hcz21_9
        try clear hcz23_0
        try clear hcz23_1
        try clear hcz23_10
        try clear hcz23_11
        try clear hcz23_12
        try clear hcz23_13
        try clear hcz23_14
        try clear hcz23_2
        try clear hcz23_3
        try clear hcz23_4
        try clear hcz23_5
        try clear hcz23_6
        try clear hcz23_7
        try clear hcz23_8
        try clear hcz23_9
        try clear hcz25_0
        try clear hcz25_1
        try clear hcz25_10
        try clear hcz25_11
        try clear hcz25_12
        try clear hcz25_13
        try clear hcz25_14
        try clear hcz25_2
        try clear hcz25_3
        try clear hcz25_4
        try clear hcz25_5
        try clear hcz25_6
        try clear hcz25_7
        try clear hcz25_8
        try clear hcz25_9
        try clear hcz27_0
        try clear hcz27_1
        try clear hcz27_10
        try clear hcz27_11
        try clear hcz27_12
        try clear hcz27_13
        try clear hcz27_14
        try clear hcz27_2
        try clear hcz27_3
        try clear hcz27_4
        try clear hcz27_5
        try clear hcz27_6
        try clear hcz27_7
        try clear hcz27_8
        try clear hcz27_9
        try clear hcz29_0
        try clear hcz29_1
        try clear hcz29_10
        try clear hcz29_11
        try clear hcz29_12
        try clear hcz29_13
        try clear hcz29_14
        try clear hcz29_2
        try clear hcz29_3
        try clear hcz29_4
        try clear hcz29_5
        try clear hcz29_6
        try clear hcz29_7
        try clear hcz29_8
        try clear hcz29_9
        try clear hcz30_0
        try clear hcz30_1
        try clear hcz30_10
        try clear hcz30_11
        try clear hcz30_12
        try clear hcz30_13
        try clear hcz30_14
        try clear hcz30_2
        try clear hcz30_3
        try clear hcz30_4
        try clear hcz30_5
        try clear hcz30_6
        try clear hcz30_7
        try clear hcz30_8
        try clear hcz30_9
        try clear hcz32_0
        try clear hcz32_1
        try clear hcz32_10
        try clear hcz32_11
        try clear hcz32_12
        try clear hcz32_13
        try clear hcz32_14
        try clear hcz32_2
        try clear hcz32_3
        try clear hcz32_4
        try clear hcz32_5
        try clear hcz32_6
        try clear hcz32_7
        try clear hcz32_8
        try clear hcz32_9
        try clear hcz34_0
        try clear hcz34_1
        try clear hcz34_10
        try clear hcz34_11
        try clear hcz34_12
        try clear hcz34_13
        try clear hcz34_14
        try clear hcz34_2
        try clear hcz34_3
        try clear hcz34_4
        try clear hcz34_5
        try clear hcz34_6
        try clear hcz34_7
        try clear hcz34_8
        try clear hcz34_9
        try clear hcz35_0
        try clear hcz35_1
        try clear hcz35_10
        try clear hcz35_11
        try clear hcz35_12
        try clear hcz35_13
        try clear hcz35_14
        try clear hcz35_2
        try clear hcz35_3
        try clear hcz35_4
        try clear hcz35_5
        try clear hcz35_6
        try clear hcz35_7
        try clear hcz35_8
        try clear hcz35_9
        try clear hcz37_0
        try clear hcz37_1
        try clear hcz37_10
        try clear hcz37_11
        try clear hcz37_12
        try clear hcz37_13
        try clear hcz37_14
        try clear hcz37_2
        try clear hcz37_3
        try clear hcz37_4
        try clear hcz37_5
        try clear hcz37_6
        try clear hcz37_7
        try clear hcz37_8
        try clear hcz37_9
        try clear hcz39_0
        try clear hcz39_1
        try clear hcz39_10
        try clear hcz39_11
        try clear hcz39_12
        try clear hcz39_13
        try clear hcz39_14
        try clear hcz39_2
        try clear hcz39_3
        try clear hcz39_4
        try clear hcz39_5
        try clear hcz39_6
        try clear hcz39_7
        try clear hcz39_8
        try clear hcz39_9
        try clear hcz4_0
        try clear hcz4_1
        try clear hcz4_10
        try clear hcz4_11
        try clear hcz4_12
        try clear hcz4_13
        try clear hcz4_14
        try clear hcz4_2
        try clear hcz4_3
        try clear hcz4_4
        try clear hcz4_5
        try clear hcz4_6
        try clear hcz4_7
        try clear hcz4_8
        try clear hcz4_9
        try clear hfz19_0
        try clear hfz19_1
        try clear hfz19_10
        try clear hfz19_11
        try clear hfz19_12
        try clear hfz19_13
        try clear hfz19_14
        try clear hfz19_2
        try clear hfz19_3
        try clear hfz19_4
        try clear hfz19_5
        try clear hfz19_6
        try clear hfz19_7
        try clear hfz19_8
        try clear hfz19_9
        try clear hfz21_0
        try clear hfz21_1
        try clear hfz21_10
        try clear hfz21_11
        try clear hfz21_12
        try clear hfz21_13
        try clear hfz21_14
        try clear hfz21_2
        try clear hfz21_3
        try clear hfz21_4
        try clear hfz21_5
        try clear hfz21_6
        try clear hfz21_7
        try clear hfz21_8
        try clear hfz21_9
        try clear hfz23_0
        try clear hfz23_1
        try clear hfz23_10
        try clear hfz23_11
        try clear hfz23_12
        try clear hfz23_13
        try clear hfz23_14
        try clear hfz23_2
        try clear hfz23_3
        try clear hfz23_4
        try clear hfz23_5
        try clear hfz23_6
        try clear hfz23_7
        try clear hfz23_8
        try clear hfz23_9
        try clear hfz25_0
        try clear hfz25_1
        try clear hfz25_10
        try clear hfz25_11
        try clear hfz25_12
        try clear hfz25_13
        try clear hfz25_14
        try clear hfz25_2
        try clear hfz25_3
        try clear hfz25_4
        try clear hfz25_5
        try clear hfz25_6
        try clear hfz25_7
        try clear hfz25_8
        try clear hfz25_9
        try clear hfz27_0
        try clear hfz27_1
        try clear hfz27_10
        try clear hfz27_11
        try clear hfz27_12
        try clear hfz27_13
        try clear hfz27_14
        try clear hfz27_2
        try clear hfz27_3
        try clear hfz27_4
        try clear hfz27_5
        try clear hfz27_6
        try clear hfz27_7
        try clear hfz27_8
        try clear hfz27_9
        try clear hfz29_0
        try clear hfz29_1
        try clear hfz29_10
        try clear hfz29_11
        try clear hfz29_12
        try clear hfz29_13
        try clear hfz29_14
        try clear hfz29_2
        try clear hfz29_3
        try clear hfz29_4
        try clear hfz29_5
        try clear hfz29_6
        try clear hfz29_7
        try clear hfz29_8
        try clear hfz29_9
        try clear hfz30_0
        try clear hfz30_1
        try clear hfz30_10
        try clear hfz30_11
        try clear hfz30_12
        try clear hfz30_13
        try clear hfz30_14
        try clear hfz30_2
        try clear hfz30_3
        try clear hfz30_4
        try clear hfz30_5
        try clear hfz30_6
        try clear hfz30_7
        try clear hfz30_8
        try clear hfz30_9
        try clear hfz32_0
        try clear hfz32_1
        try clear hfz32_10
        try clear hfz32_11
        try clear hfz32_12
        try clear hfz32_13
        try clear hfz32_14
        try clear hfz32_2
        try clear hfz32_3
        try clear hfz32_4
        try clear hfz32_5
        try clear hfz32_6
        try clear hfz32_7
        try clear hfz32_8
        try clear hfz32_9
        try clear hfz34_0
        try clear hfz34_1
        try clear hfz34_10
        try clear hfz34_11
        try clear hfz34_12
        try clear hfz34_13
        try clear hfz34_14
        try clear hfz34_2
        try clear hfz34_3
        try clear hfz34_4
        try clear hfz34_5
        try clear hfz34_6
        try clear hfz34_7
        try clear hfz34_8
        try clear hfz34_9
        try clear hfz35_0
        try clear hfz35_1
        try clear hfz35_10
        try clear hfz35_11
        try clear hfz35_12
        try clear hfz35_13
        try clear hfz35_14
        try clear hfz35_2
        try clear hfz35_3
        try clear hfz35_4
        try clear hfz35_5
        try clear hfz35_6
        try clear hfz35_7
        try clear hfz35_8
        try clear hfz35_9
        try clear hfz37_0
        try clear hfz37_1
        try clear hfz37_10
        try clear hfz37_11
        try clear hfz37_12
        try clear hfz37_13
        try clear hfz37_14
        try clear hfz37_2
        try clear hfz37_3
        try clear hfz37_4
        try clear hfz37_5
        try clear hfz37_6
        try clear hfz37_7
        try clear hfz37_8
        try clear hfz37_9
        try clear hfz39_0
        try clear hfz39_1
        try clear hfz39_10
        try clear hfz39_11
        try clear hfz39_12
        try clear hfz39_13
        try clear hfz39_14
        try clear hfz39_2
        try clear hfz39_3
        try clear hfz39_4
        try clear hfz39_5
        try clear hfz39_6
        try clear hfz39_7
        try clear hfz39_8
        try clear hfz39_9
        try clear hfz4_0
        try clear hfz4_1
        try clear hfz4_10
        try clear hfz4_11
        try clear hfz4_12
        try clear hfz4_13
        try clear hfz4_14
        try clear hfz4_2
        try clear hfz4_3
        try clear hfz4_4
        try clear hfz4_5
        try clear hfz4_6
        try clear hfz4_7
        try clear hfz4_8
        try clear hfz4_9
        try clear hx257_0
        try clear p2
        try clear p25
        try clear p257
        try clear p6
        try clear q2
        try clear q25
        try clear q257
        obtain ⟨x5_3,rfl,HA,HK3,BK253,HB⟩:=hrel
        cases gk with
        | zero=>exact absurd HA.out (by simp [insolvencyref33_Valid.l1])
        | succ k3=>
         have H:=HA.out
         clear HA
         simp only [insolvencyref33_Valid.l1] at H
         by_cases c42:x5_3<(l0_12.length:Int)
         ·rw [if_pos c42] at H
          have c42b0:decide (x5_3<(l0_12.length:Int))=true:=decide_eq_true c42
          clear c42
          by_cases c43:0≤x5_3
          ·rw [if_pos c43] at H
           have c43b0:decide (0≤x5_3)=true:=decide_eq_true c43
           clear c43
           replace H:=Option.bind_eq_some_iff.mp H
           obtain ⟨t262,A440,H⟩:=H
           replace H:(if t262=true then ((insolvencyref33_small.f ((rd_T49 l0_12 x5_3).f1)).bind fun t264=>(if t264=true then (insolvencyref33_Valid.l1 k3 (wrap64 (x5_3+1)) a0_0 a0_1 a0_2 a0_3 a0_4 a0_5 a0_6 a0_7 a0_8 a0_9 a0_10 a0_11 l0_12 l0_13 l0_14) else (some false))) else (some false))=some r:=H
           have A44:=Aside0.mk A440
           clear A440
           by_cases c45:t262=true
           ·subst c45
            have H1:((insolvencyref33_small.f ((rd_T49 l0_12 x5_3).f1)).bind fun t264=>(if t264=true then (insolvencyref33_Valid.l1 k3 (wrap64 (x5_3+1)) a0_0 a0_1 a0_2 a0_3 a0_4 a0_5 a0_6 a0_7 a0_8 a0_9 a0_10 a0_11 l0_12 l0_13 l0_14) else (some false)))=some r:=by rw [if_pos rfl] at H;exact H
            clear H
            have H:=H1
            clear H1
            replace H:=Option.bind_eq_some_iff.mp H
            obtain ⟨t264,A460,H⟩:=H
            replace H:(if t264=true then (insolvencyref33_Valid.l1 k3 (wrap64 (x5_3+1)) a0_0 a0_1 a0_2 a0_3 a0_4 a0_5 a0_6 a0_7 a0_8 a0_9 a0_10 a0_11 l0_12 l0_13 l0_14) else (some false))=some r:=H
            have A46:=Aside0.mk A460
            clear A460
            by_cases c47:t264=true
            ·subst c47
             have H1:(insolvencyref33_Valid.l1 k3 (wrap64 (x5_3+1)) a0_0 a0_1 a0_2 a0_3 a0_4 a0_5 a0_6 a0_7 a0_8 a0_9 a0_10 a0_11 l0_12 l0_13 l0_14)=some r:=by rw [if_pos rfl] at H;exact H
             clear H
             have H:=H1
             clear H1
             have H':=Aside0.mk H
             clear H
             have hcz48_0:wr.cell? ⟨gb253,0,none⟩=some (.int .i64 a0_0):=(blk_cell BK253.out 0).trans rfl
             have hcz48_1:wr.cell? ⟨gb253,1,none⟩=some (.int .i64 a0_1):=(blk_cell BK253.out 1).trans rfl
             have hcz48_2:wr.cell? ⟨gb253,2,none⟩=some (.int .i64 a0_2):=(blk_cell BK253.out 2).trans rfl
             have hcz48_3:wr.cell? ⟨gb253,3,none⟩=some (.int .i64 a0_3):=(blk_cell BK253.out 3).trans rfl
             have hcz48_4:wr.cell? ⟨gb253,4,none⟩=some (.int .i64 a0_4):=(blk_cell BK253.out 4).trans rfl
             have hcz48_5:wr.cell? ⟨gb253,5,none⟩=some (.int .i64 a0_5):=(blk_cell BK253.out 5).trans rfl
             have hcz48_6:wr.cell? ⟨gb253,6,none⟩=some (.bool a0_6):=(blk_cell BK253.out 6).trans rfl
             have hcz48_7:wr.cell? ⟨gb253,7,none⟩=some (.string a0_7):=(blk_cell BK253.out 7).trans rfl
             have hcz48_8:wr.cell? ⟨gb253,8,none⟩=some (.string a0_8):=(blk_cell BK253.out 8).trans rfl
             have hcz48_9:wr.cell? ⟨gb253,9,none⟩=some (.bool a0_9):=(blk_cell BK253.out 9).trans rfl
             have hcz48_10:wr.cell? ⟨gb253,10,none⟩=some (.string a0_10):=(blk_cell BK253.out 10).trans rfl
             have hcz48_11:wr.cell? ⟨gb253,11,none⟩=some (.string a0_11):=(blk_cell BK253.out 11).trans rfl
             have hcz48_12:wr.cell? ⟨gb253,12,none⟩=some (.slice A0_12 l0_12.length c0_12):=(blk_cell BK253.out 12).trans rfl
             have hcz48_13:wr.cell? ⟨gb253,13,none⟩=some (.slice A0_13 l0_13.length c0_13):=(blk_cell BK253.out 13).trans rfl
             have hcz48_14:wr.cell? ⟨gb253,14,none⟩=some (.slice A0_14 l0_14.length c0_14):=(blk_cell BK253.out 14).trans rfl
             have hfz48_0:=blk_frozen BK253.out 0
             have hfz48_1:=blk_frozen BK253.out 1
             have hfz48_2:=blk_frozen BK253.out 2
             have hfz48_3:=blk_frozen BK253.out 3
             have hfz48_4:=blk_frozen BK253.out 4
             have hfz48_5:=blk_frozen BK253.out 5
             have hfz48_6:=blk_frozen BK253.out 6
             have hfz48_7:=blk_frozen BK253.out 7
             have hfz48_8:=blk_frozen BK253.out 8
             have hfz48_9:=blk_frozen BK253.out 9
             have hfz48_10:=blk_frozen BK253.out 10
             have hfz48_11:=blk_frozen BK253.out 11
             have hfz48_12:=blk_frozen BK253.out 12
             have hfz48_13:=blk_frozen BK253.out 13
             have hfz48_14:=blk_frozen BK253.out 14
             have p261:0≤(x5_3:Int):=of_decide_eq_true (by first|(with_reducible assumption)|assumption)
             have q261:x5_3<(l0_12.length:Int):=of_decide_eq_true (by first|(with_reducible assumption)|assumption)
             obtain ⟨ad261,e261,hx261_0,hx261_1⟩:=at_T49 HR0_12.out x5_3 p261 q261
             cases e261
             replace hx261_0:=(HB.out.cell (World.block_lt_of_cell? w _ hx261_0)).trans hx261_0
             replace hx261_1:=(HB.out.cell (World.block_lt_of_cell? w _ hx261_1)).trans hx261_1
             replace p261:=eq_true p261
             replace q261:=eq_true q261
             go_wp2_with (first|((with_reducible refine gate_callee (f:=35) rfl ?_);refine goesL_ (some 71) rfl rfl Tryd.func35 (by kernel_rfl) rfl #[.int .i64 ((rd_T49 l0_12 x5_3).f0)] rfl (by (try simp only [List.map_toArray,List.map_cons,List.map_nil]);first|done|rfl|(simp only [List.length_drop,List.length_take];rfl)) ?_;(with_reducible refine (insolvencyref33_small.calls ((rd_T49 l0_12 x5_3).f0) true _ A44.out).mono ?_);rintro e w' ⟨rfl,⟨nd,rfl⟩⟩;refine ⟨_,rfl,?_⟩;have p263:0≤(x5_3:Int):=of_decide_eq_true (by first|(with_reducible assumption)|assumption);have q263:x5_3<(l0_12.length:Int):=of_decide_eq_true (by first|(with_reducible assumption)|assumption);obtain ⟨ad263,e263,hx263_0,hx263_1⟩:=at_T49 HR0_12.out x5_3 p263 q263;obtain rfl:ad261=ad263:=(by injection e263);replace hx263_0:=(HB.out.cell (World.block_lt_of_cell? w _ hx263_0)).trans hx263_0;replace hx263_1:=(HB.out.cell (World.block_lt_of_cell? w _ hx263_1)).trans hx263_1;replace p263:=eq_true p263;replace q263:=eq_true q263)|(go_at_call 35;(with_reducible refine (insolvencyref33_small.calls ((rd_T49 l0_12 x5_3).f1) true _ A46.out).mono ?_);rintro e w' ⟨rfl,⟨nd,rfl⟩⟩))
             go_roundg k3
             case measure=>have:=HK1.out;have:=HJ11.out;have:=HK3.out;omega
             case rel=>exact ⟨(wrap64 (x5_3+1)),(by first|rfl|(simp;done)|(simp [*];done)),H',⟨by have:=HK1.out;have:=HJ11.out;have:=HK3.out;omega⟩,⟨by (with_reducible repeat (first|refine blk_drewN ?_ _|refine blk_drew ?_|refine blk_alloc ?_ _));exact BK253.out⟩,⟨by repeat (first|(with_reducible first|exact HB.out|apply below_alloc|apply pw_below_drewN|apply below_drew1|refine below_set ?_ GE253.out)|exact HB.out)⟩⟩
            ·replace c47:=Bool.eq_false_iff.mpr c47
             subst c47
             have H1:(some false)=some r:=by rw [if_neg (show ¬ (false=true) by decide)] at H;exact H
             clear H
             have H:=H1
             clear H1
             obtain rfl:=Option.some.inj H
             have hcz49_0:wr.cell? ⟨gb253,0,none⟩=some (.int .i64 a0_0):=(blk_cell BK253.out 0).trans rfl
             have hcz49_1:wr.cell? ⟨gb253,1,none⟩=some (.int .i64 a0_1):=(blk_cell BK253.out 1).trans rfl
             have hcz49_2:wr.cell? ⟨gb253,2,none⟩=some (.int .i64 a0_2):=(blk_cell BK253.out 2).trans rfl
             have hcz49_3:wr.cell? ⟨gb253,3,none⟩=some (.int .i64 a0_3):=(blk_cell BK253.out 3).trans rfl
             have hcz49_4:wr.cell? ⟨gb253,4,none⟩=some (.int .i64 a0_4):=(blk_cell BK253.out 4).trans rfl
             have hcz49_5:wr.cell? ⟨gb253,5,none⟩=some (.int .i64 a0_5):=(blk_cell BK253.out 5).trans rfl
             have hcz49_6:wr.cell? ⟨gb253,6,none⟩=some (.bool a0_6):=(blk_cell BK253.out 6).trans rfl
             have hcz49_7:wr.cell? ⟨gb253,7,none⟩=some (.string a0_7):=(blk_cell BK253.out 7).trans rfl
             have hcz49_8:wr.cell? ⟨gb253,8,none⟩=some (.string a0_8):=(blk_cell BK253.out 8).trans rfl
             have hcz49_9:wr.cell? ⟨gb253,9,none⟩=some (.bool a0_9):=(blk_cell BK253.out 9).trans rfl
             have hcz49_10:wr.cell? ⟨gb253,10,none⟩=some (.string a0_10):=(blk_cell BK253.out 10).trans rfl
             have hcz49_11:wr.cell? ⟨gb253,11,none⟩=some (.string a0_11):=(blk_cell BK253.out 11).trans rfl
             have hcz49_12:wr.cell? ⟨gb253,12,none⟩=some (.slice A0_12 l0_12.length c0_12):=(blk_cell BK253.out 12).trans rfl
             have hcz49_13:wr.cell? ⟨gb253,13,none⟩=some (.slice A0_13 l0_13.length c0_13):=(blk_cell BK253.out 13).trans rfl
             have hcz49_14:wr.cell? ⟨gb253,14,none⟩=some (.slice A0_14 l0_14.length c0_14):=(blk_cell BK253.out 14).trans rfl
             have hfz49_0:=blk_frozen BK253.out 0
             have hfz49_1:=blk_frozen BK253.out 1
             have hfz49_2:=blk_frozen BK253.out 2
             have hfz49_3:=blk_frozen BK253.out 3
             have hfz49_4:=blk_frozen BK253.out 4
             have hfz49_5:=blk_frozen BK253.out 5
             have hfz49_6:=blk_frozen BK253.out 6
             have hfz49_7:=blk_frozen BK253.out 7
             have hfz49_8:=blk_frozen BK253.out 8
             have hfz49_9:=blk_frozen BK253.out 9
             have hfz49_10:=blk_frozen BK253.out 10
             have hfz49_11:=blk_frozen BK253.out 11
             have hfz49_12:=blk_frozen BK253.out 12
             have hfz49_13:=blk_frozen BK253.out 13
             have hfz49_14:=blk_frozen BK253.out 14
             have p261:0≤(x5_3:Int):=of_decide_eq_true (by first|(with_reducible assumption)|assumption)
             have q261:x5_3<(l0_12.length:Int):=of_decide_eq_true (by first|(with_reducible assumption)|assumption)
             obtain ⟨ad261,e261,hx261_0,hx261_1⟩:=at_T49 HR0_12.out x5_3 p261 q261
             cases e261
             replace hx261_0:=(HB.out.cell (World.block_lt_of_cell? w _ hx261_0)).trans hx261_0
             replace hx261_1:=(HB.out.cell (World.block_lt_of_cell? w _ hx261_1)).trans hx261_1
             replace p261:=eq_true p261
             replace q261:=eq_true q261
             go_wp2_with (first|((with_reducible refine gate_callee (f:=35) rfl ?_);refine goesL_ (some 71) rfl rfl Tryd.func35 (by kernel_rfl) rfl #[.int .i64 ((rd_T49 l0_12 x5_3).f0)] rfl (by (try simp only [List.map_toArray,List.map_cons,List.map_nil]);first|done|rfl|(simp only [List.length_drop,List.length_take];rfl)) ?_;(with_reducible refine (insolvencyref33_small.calls ((rd_T49 l0_12 x5_3).f0) true _ A44.out).mono ?_);rintro e w' ⟨rfl,⟨nd,rfl⟩⟩;refine ⟨_,rfl,?_⟩;have p263:0≤(x5_3:Int):=of_decide_eq_true (by first|(with_reducible assumption)|assumption);have q263:x5_3<(l0_12.length:Int):=of_decide_eq_true (by first|(with_reducible assumption)|assumption);obtain ⟨ad263,e263,hx263_0,hx263_1⟩:=at_T49 HR0_12.out x5_3 p263 q263;obtain rfl:ad261=ad263:=(by injection e263);replace hx263_0:=(HB.out.cell (World.block_lt_of_cell? w _ hx263_0)).trans hx263_0;replace hx263_1:=(HB.out.cell (World.block_lt_of_cell? w _ hx263_1)).trans hx263_1;replace p263:=eq_true p263;replace q263:=eq_true q263)|(go_at_call 35;(with_reducible refine (insolvencyref33_small.calls ((rd_T49 l0_12 x5_3).f1) false _ A46.out).mono ?_);rintro e w' ⟨rfl,⟨nd,rfl⟩⟩))
             go_ret
             exact ⟨by first|rfl|(simp [errW_none,errW_some] <;> rfl)|(simp [*,errW_none,errW_some] <;> rfl),by repeat (first|(with_reducible first|exact HB.out|apply below_alloc|apply pw_below_drewN|apply below_drew1|refine below_set ?_ GE253.out)|exact HB.out)⟩
           ·replace c45:=Bool.eq_false_iff.mpr c45
            subst c45
            have H1:(some false)=some r:=by rw [if_neg (show ¬ (false=true) by decide)] at H;exact H
            clear H
            have H:=H1
            clear H1
            obtain rfl:=Option.some.inj H
            have hcz50_0:wr.cell? ⟨gb253,0,none⟩=some (.int .i64 a0_0):=(blk_cell BK253.out 0).trans rfl
            have hcz50_1:wr.cell? ⟨gb253,1,none⟩=some (.int .i64 a0_1):=(blk_cell BK253.out 1).trans rfl
            have hcz50_2:wr.cell? ⟨gb253,2,none⟩=some (.int .i64 a0_2):=(blk_cell BK253.out 2).trans rfl
            have hcz50_3:wr.cell? ⟨gb253,3,none⟩=some (.int .i64 a0_3):=(blk_cell BK253.out 3).trans rfl
            have hcz50_4:wr.cell? ⟨gb253,4,none⟩=some (.int .i64 a0_4):=(blk_cell BK253.out 4).trans rfl
            have hcz50_5:wr.cell? ⟨gb253,5,none⟩=some (.int .i64 a0_5):=(blk_cell BK253.out 5).trans rfl
            have hcz50_6:wr.cell? ⟨gb253,6,none⟩=some (.bool a0_6):=(blk_cell BK253.out 6).trans rfl
            have hcz50_7:wr.cell? ⟨gb253,7,none⟩=some (.string a0_7):=(blk_cell BK253.out 7).trans rfl
            have hcz50_8:wr.cell? ⟨gb253,8,none⟩=some (.string a0_8):=(blk_cell BK253.out 8).trans rfl
            have hcz50_9:wr.cell? ⟨gb253,9,none⟩=some (.bool a0_9):=(blk_cell BK253.out 9).trans rfl
            have hcz50_10:wr.cell? ⟨gb253,10,none⟩=some (.string a0_10):=(blk_cell BK253.out 10).trans rfl
            have hcz50_11:wr.cell? ⟨gb253,11,none⟩=some (.string a0_11):=(blk_cell BK253.out 11).trans rfl
            have hcz50_12:wr.cell? ⟨gb253,12,none⟩=some (.slice A0_12 l0_12.length c0_12):=(blk_cell BK253.out 12).trans rfl
            have hcz50_13:wr.cell? ⟨gb253,13,none⟩=some (.slice A0_13 l0_13.length c0_13):=(blk_cell BK253.out 13).trans rfl
            have hcz50_14:wr.cell? ⟨gb253,14,none⟩=some (.slice A0_14 l0_14.length c0_14):=(blk_cell BK253.out 14).trans rfl
            have hfz50_0:=blk_frozen BK253.out 0
            have hfz50_1:=blk_frozen BK253.out 1
            have hfz50_2:=blk_frozen BK253.out 2
            have hfz50_3:=blk_frozen BK253.out 3
            have hfz50_4:=blk_frozen BK253.out 4
            have hfz50_5:=blk_frozen BK253.out 5
            have hfz50_6:=blk_frozen BK253.out 6
            have hfz50_7:=blk_frozen BK253.out 7
            have hfz50_8:=blk_frozen BK253.out 8
            have hfz50_9:=blk_frozen BK253.out 9
            have hfz50_10:=blk_frozen BK253.out 10
            have hfz50_11:=blk_frozen BK253.out 11
            have hfz50_12:=blk_frozen BK253.out 12
            have hfz50_13:=blk_frozen BK253.out 13
            have hfz50_14:=blk_frozen BK253.out 14
            have p261:0≤(x5_3:Int):=of_decide_eq_true (by first|(with_reducible assumption)|assumption)
            have q261:x5_3<(l0_12.length:Int):=of_decide_eq_true (by first|(with_reducible assumption)|assumption)
            obtain ⟨ad261,e261,hx261_0,hx261_1⟩:=at_T49 HR0_12.out x5_3 p261 q261
            cases e261
            replace hx261_0:=(HB.out.cell (World.block_lt_of_cell? w _ hx261_0)).trans hx261_0
            replace hx261_1:=(HB.out.cell (World.block_lt_of_cell? w _ hx261_1)).trans hx261_1
            replace p261:=eq_true p261
            replace q261:=eq_true q261
            go_wp2_with (first|((with_reducible refine gate_callee (f:=35) rfl ?_);refine goesL_ (some 71) rfl rfl Tryd.func35 (by kernel_rfl) rfl #[.int .i64 ((rd_T49 l0_12 x5_3).f0)] rfl (by (try simp only [List.map_toArray,List.map_cons,List.map_nil]);first|done|rfl|(simp only [List.length_drop,List.length_take];rfl)) ?_;(with_reducible refine (insolvencyref33_small.calls ((rd_T49 l0_12 x5_3).f0) false _ A44.out).mono ?_);rintro e w' ⟨rfl,⟨nd,rfl⟩⟩;refine ⟨_,rfl,?_⟩))
            go_ret
            exact ⟨by first|rfl|(simp [errW_none,errW_some] <;> rfl)|(simp [*,errW_none,errW_some] <;> rfl),by repeat (first|(with_reducible first|exact HB.out|apply below_alloc|apply pw_below_drewN|apply below_drew1|refine below_set ?_ GE253.out)|exact HB.out)⟩
          ·rw [if_neg c43] at H
           exact absurd H (by simp)
         ·rw [if_neg c42] at H
          have c42b0:decide (x5_3<(l0_12.length:Int))=false:=decide_eq_false c42
          clear c42
          have H':=Aside0.mk H
          clear H
          have hcz51_0:wr.cell? ⟨gb253,0,none⟩=some (.int .i64 a0_0):=(blk_cell BK253.out 0).trans rfl
          have hcz51_1:wr.cell? ⟨gb253,1,none⟩=some (.int .i64 a0_1):=(blk_cell BK253.out 1).trans rfl
          have hcz51_2:wr.cell? ⟨gb253,2,none⟩=some (.int .i64 a0_2):=(blk_cell BK253.out 2).trans rfl
          have hcz51_3:wr.cell? ⟨gb253,3,none⟩=some (.int .i64 a0_3):=(blk_cell BK253.out 3).trans rfl
          have hcz51_4:wr.cell? ⟨gb253,4,none⟩=some (.int .i64 a0_4):=(blk_cell BK253.out 4).trans rfl
          have hcz51_5:wr.cell? ⟨gb253,5,none⟩=some (.int .i64 a0_5):=(blk_cell BK253.out 5).trans rfl
          have hcz51_6:wr.cell? ⟨gb253,6,none⟩=some (.bool a0_6):=(blk_cell BK253.out 6).trans rfl
          have hcz51_7:wr.cell? ⟨gb253,7,none⟩=some (.string a0_7):=(blk_cell BK253.out 7).trans rfl
          have hcz51_8:wr.cell? ⟨gb253,8,none⟩=some (.string a0_8):=(blk_cell BK253.out 8).trans rfl
          have hcz51_9:wr.cell? ⟨gb253,9,none⟩=some (.bool a0_9):=(blk_cell BK253.out 9).trans rfl
          have hcz51_10:wr.cell? ⟨gb253,10,none⟩=some (.string a0_10):=(blk_cell BK253.out 10).trans rfl
          have hcz51_11:wr.cell? ⟨gb253,11,none⟩=some (.string a0_11):=(blk_cell BK253.out 11).trans rfl
          have hcz51_12:wr.cell? ⟨gb253,12,none⟩=some (.slice A0_12 l0_12.length c0_12):=(blk_cell BK253.out 12).trans rfl
          have hcz51_13:wr.cell? ⟨gb253,13,none⟩=some (.slice A0_13 l0_13.length c0_13):=(blk_cell BK253.out 13).trans rfl
          have hcz51_14:wr.cell? ⟨gb253,14,none⟩=some (.slice A0_14 l0_14.length c0_14):=(blk_cell BK253.out 14).trans rfl
          have hfz51_0:=blk_frozen BK253.out 0
          have hfz51_1:=blk_frozen BK253.out 1
          have hfz51_2:=blk_frozen BK253.out 2
          have hfz51_3:=blk_frozen BK253.out 3
          have hfz51_4:=blk_frozen BK253.out 4
          have hfz51_5:=blk_frozen BK253.out 5
          have hfz51_6:=blk_frozen BK253.out 6
          have hfz51_7:=blk_frozen BK253.out 7
          have hfz51_8:=blk_frozen BK253.out 8
          have hfz51_9:=blk_frozen BK253.out 9
          have hfz51_10:=blk_frozen BK253.out 10
          have hfz51_11:=blk_frozen BK253.out 11
          have hfz51_12:=blk_frozen BK253.out 12
          have hfz51_13:=blk_frozen BK253.out 13
          have hfz51_14:=blk_frozen BK253.out 14
          go_wp2
          go_loopg [6] k3 (fun kq v6 w'=>∃ (x6_4:Int),v6 = .int .i64 x6_4∧Aside0 (insolvencyref33_Valid.l2 kq x6_4 a0_0 a0_1 a0_2 a0_3 a0_4 a0_5 a0_6 a0_7 a0_8 a0_9 a0_10 a0_11 l0_12 l0_13 l0_14=some r)∧Aside0 (kq≤k3)∧Aside0 (w'.heap[gb253]?=some (.cells #[.int .i64 a0_0,.int .i64 a0_1,.int .i64 a0_2,.int .i64 a0_3,.int .i64 a0_4,.int .i64 a0_5,.bool a0_6,.string a0_7,.string a0_8,.bool a0_9,.string a0_10,.string a0_11,(.slice A0_12 l0_12.length c0_12),(.slice A0_13 l0_13.length c0_13),(.slice A0_14 l0_14.length c0_14)] 37 (0,0)))∧Aside0 (Below w.heap.size w w'))
          case atStart=>exact ⟨(0),(by first|rfl|(simp;done)|(simp [*];done)),H',⟨Nat.le_refl _⟩,⟨by (with_reducible repeat (first|refine blk_drewN ?_ _|refine blk_drew ?_|refine blk_alloc ?_ _));exact BK253.out⟩,⟨by repeat (first|(with_reducible first|exact HB.out|apply below_alloc|apply pw_below_drewN|apply below_drew1|refine below_set ?_ GE253.out)|exact HB.out)⟩⟩
          case round=>
           clear H'
           try clear p2
           try clear q2
           try clear hx2
           try clear c3
           try clear c4
           try clear p6
           try clear p25
           try clear q25
           try clear hx25
           try clear p26
           try clear q26
           try clear hx26
           try clear c35
           try clear c42
           try clear c42b0
           try clear c43
           try clear c43b0
           try clear c45
           try clear c47
           try clear hcz21_10
           try clear hcz21_11
           try clear hcz21_12
           try clear hcz21_13
           try clear hcz21_14
           try clear hcz21_2
           try clear hcz21_3
           try clear hcz21_4
           try clear hcz21_5
           try clear hcz21_6
           try clear hcz21_7
           try clear hcz21_8
           try clear hcz21_9
           try clear hcz23_0
           try clear hcz23_1
           try clear hcz23_10
           try clear hcz23_11
           try clear hcz23_12
           try clear hcz23_13
           try clear hcz23_14
           try clear hcz23_2
           try clear hcz23_3
           try clear hcz23_4
           try clear hcz23_5
           try clear hcz23_6
           try clear hcz23_7
           try clear hcz23_8
           try clear hcz23_9
           try clear hcz25_0
           try clear hcz25_1
           try clear hcz25_10
           try clear hcz25_11
           try clear hcz25_12
           try clear hcz25_13
           try clear hcz25_14
           try clear hcz25_2
           try clear hcz25_3
           try clear hcz25_4
           try clear hcz25_5
           try clear hcz25_6
           try clear hcz25_7
           try clear hcz25_8
           try clear hcz25_9
           try clear hcz27_0
           try clear hcz27_1
           try clear hcz27_10
           try clear hcz27_11
           try clear hcz27_12
           try clear hcz27_13
           try clear hcz27_14
           try clear hcz27_2
           try clear hcz27_3
           try clear hcz27_4
           try clear hcz27_5
           try clear hcz27_6
           try clear hcz27_7
           try clear hcz27_8
           try clear hcz27_9
           try clear hcz29_0
           try clear hcz29_1
           try clear hcz29_10
           try clear hcz29_11
           try clear hcz29_12
           try clear hcz29_13
           try clear hcz29_14
           try clear hcz29_2
           try clear hcz29_3
           try clear hcz29_4
           try clear hcz29_5
           try clear hcz29_6
           try clear hcz29_7
           try clear hcz29_8
           try clear hcz29_9
           try clear hcz30_0
           try clear hcz30_1
           try clear hcz30_10
           try clear hcz30_11
           try clear hcz30_12
           try clear hcz30_13
           try clear hcz30_14
           try clear hcz30_2
           try clear hcz30_3
           try clear hcz30_4
           try clear hcz30_5
           try clear hcz30_6
           try clear hcz30_7
           try clear hcz30_8
           try clear hcz30_9
           try clear hcz32_0
           try clear hcz32_1
           try clear hcz32_10
           try clear hcz32_11
           try clear hcz32_12
           try clear hcz32_13
           try clear hcz32_14
           try clear hcz32_2
           try clear hcz32_3
           try clear hcz32_4
           try clear hcz32_5
           try clear hcz32_6
           try clear hcz32_7
           try clear hcz32_8
           try clear hcz32_9
           try clear hcz34_0
           try clear hcz34_1
           try clear hcz34_10
           try clear hcz34_11
           try clear hcz34_12
           try clear hcz34_13
           try clear hcz34_14
           try clear hcz34_2
           try clear hcz34_3
           try clear hcz34_4
           try clear hcz34_5
           try clear hcz34_6
           try clear hcz34_7
           try clear hcz34_8
           try clear hcz34_9
           try clear hcz35_0
           try clear hcz35_1
           try clear hcz35_10
           try clear hcz35_11
           try clear hcz35_12
           try clear hcz35_13
           try clear hcz35_14
           try clear hcz35_2
           try clear hcz35_3
           try clear hcz35_4
           try clear hcz35_5
           try clear hcz35_6
           try clear hcz35_7
           try clear hcz35_8
           try clear hcz35_9
           try clear hcz37_0
           try clear hcz37_1
           try clear hcz37_10
           try clear hcz37_11
           try clear hcz37_12
           try clear hcz37_13
           try clear hcz37_14
           try clear hcz37_2
           try clear hcz37_3
           try clear hcz37_4
           try clear hcz37_5
           try clear hcz37_6
           try clear hcz37_7
           try clear hcz37_8
           try clear hcz37_9
           try clear hcz39_0
           try clear hcz39_1
           try clear hcz39_10
           try clear hcz39_11
           try clear hcz39_12
           try clear hcz39_13
           try clear hcz39_14
           try clear hcz39_2
           try clear hcz39_3
           try clear hcz39_4
           try clear hcz39_5
           try clear hcz39_6
           try clear hcz39_7
           try clear hcz39_8
           try clear hcz39_9
           try clear hcz48_0
           try clear hcz48_1
           try clear hcz48_10
           try clear hcz48_11
           try clear hcz48_12
           try clear hcz48_13
           try clear hcz48_14
           try clear hcz48_2
           try clear hcz48_3
           try clear hcz48_4
           try clear hcz48_5
           try clear hcz48_6
           try clear hcz48_7
           try clear hcz48_8
           try clear hcz48_9
           try clear hcz49_0
           try clear hcz49_1
           try clear hcz49_10
           try clear hcz49_11
           try clear hcz49_12
           try clear hcz49_13
           try clear hcz49_14
           try clear hcz49_2
           try clear hcz49_3
           try clear hcz49_4
           try clear hcz49_5
           try clear hcz49_6
           try clear hcz49_7
           try clear hcz49_8
           try clear hcz49_9
           try clear hcz4_0
           try clear hcz4_1
           try clear hcz4_10
           try clear hcz4_11
           try clear hcz4_12
           try clear hcz4_13
           try clear hcz4_14
           try clear hcz4_2
           try clear hcz4_3
           try clear hcz4_4
           try clear hcz4_5
           try clear hcz4_6
           try clear hcz4_7
           try clear hcz4_8
           try clear hcz4_9
           try clear hcz50_0
           try clear hcz50_1
           try clear hcz50_10
           try clear hcz50_11
           try clear hcz50_12
           try clear hcz50_13
           try clear hcz50_14
           try clear hcz50_2
           try clear hcz50_3
           try clear hcz50_4
           try clear hcz50_5
           try clear hcz50_6
           try clear hcz50_7
           try clear hcz50_8
           try clear hcz50_9
           try clear hcz51_0
           try clear hcz51_1
           try clear hcz51_10
           try clear hcz51_11
           try clear hcz51_12
           try clear hcz51_13
           try clear hcz51_14
           try clear hcz51_2
           try clear hcz51_3
           try clear hcz51_4
           try clear hcz51_5
           try clear hcz51_6
           try clear hcz51_7
           try clear hcz51_8
           try clear hcz51_9
           try clear hfz19_0
           try clear hfz19_1
           try clear hfz19_10
           try clear hfz19_11
           try clear hfz19_12
           try clear hfz19_13
           try clear hfz19_14
           try clear hfz19_2
           try clear hfz19_3
           try clear hfz19_4
           try clear hfz19_5
           try clear hfz19_6
           try clear hfz19_7
           try clear hfz19_8
           try clear hfz19_9
           try clear hfz21_0
           try clear hfz21_1
           try clear hfz21_10
           try clear hfz21_11
           try clear hfz21_12
           try clear hfz21_13
           try clear hfz21_14
           try clear hfz21_2
           try clear hfz21_3
           try clear hfz21_4
           try clear hfz21_5
           try clear hfz21_6
           try clear hfz21_7
           try clear hfz21_8
           try clear hfz21_9
           try clear hfz23_0
           try clear hfz23_1
           try clear hfz23_10
           try clear hfz23_11
           try clear hfz23_12
           try clear hfz23_13
           try clear hfz23_14
           try clear hfz23_2
           try clear hfz23_3
           try clear hfz23_4
           try clear hfz23_5
           try clear hfz23_6
           try clear hfz23_7
           try clear hfz23_8
           try clear hfz23_9
           try clear hfz25_0
           try clear hfz25_1
           try clear hfz25_10
           try clear hfz25_11
           try clear hfz25_12
           try clear hfz25_13
           try clear hfz25_14
           try clear hfz25_2
           try clear hfz25_3
           try clear hfz25_4
           try clear hfz25_5
           try clear hfz25_6
           try clear hfz25_7
           try clear hfz25_8
           try clear hfz25_9
           try clear hfz27_0
           try clear hfz27_1
           try clear hfz27_10
           try clear hfz27_11
           try clear hfz27_12
           try clear hfz27_13
           try clear hfz27_14
           try clear hfz27_2
           try clear hfz27_3
           try clear hfz27_4
           try clear hfz27_5
           try clear hfz27_6
           try clear hfz27_7
           try clear hfz27_8
           try clear hfz27_9
           try clear hfz29_0
           try clear hfz29_1
           try clear hfz29_10
           try clear hfz29_11
           try clear hfz29_12
           try clear hfz29_13
           try clear hfz29_14
           try clear hfz29_2
           try clear hfz29_3
           try clear hfz29_4
           try clear hfz29_5
           try clear hfz29_6
           try clear hfz29_7
           try clear hfz29_8
           try clear hfz29_9
           try clear hfz30_0
           try clear hfz30_1
           try clear hfz30_10
           try clear hfz30_11
           try clear hfz30_12
           try clear hfz30_13
           try clear hfz30_14
           try clear hfz30_2
           try clear hfz30_3
           try clear hfz30_4
           try clear hfz30_5
           try clear hfz30_6
           try clear hfz30_7
           try clear hfz30_8
           try clear hfz30_9
           try clear hfz32_0
           try clear hfz32_1
           try clear hfz32_10
           try clear hfz32_11
           try clear hfz32_12
           try clear hfz32_13
           try clear hfz32_14
           try clear hfz32_2
           try clear hfz32_3
           try clear hfz32_4
           try clear hfz32_5
           try clear hfz32_6
           try clear hfz32_7
           try clear hfz32_8
           try clear hfz32_9
           try clear hfz34_0
           try clear hfz34_1
           try clear hfz34_10
           try clear hfz34_11
           try clear hfz34_12
           try clear hfz34_13
           try clear hfz34_14
           try clear hfz34_2
           try clear hfz34_3
           try clear hfz34_4
           try clear hfz34_5
           try clear hfz34_6
           try clear hfz34_7
           try clear hfz34_8
           try clear hfz34_9
           try clear hfz35_0
           try clear hfz35_1
           try clear hfz35_10
           try clear hfz35_11
           try clear hfz35_12
           try clear hfz35_13
           try clear hfz35_14
           try clear hfz35_2
           try clear hfz35_3
           try clear hfz35_4
           try clear hfz35_5
           try clear hfz35_6
           try clear hfz35_7
           try clear hfz35_8
           try clear hfz35_9
           try clear hfz37_0
           try clear hfz37_1
           try clear hfz37_10
           try clear hfz37_11
           try clear hfz37_12
           try clear hfz37_13
           try clear hfz37_14
           try clear hfz37_2
           try clear hfz37_3
           try clear hfz37_4
           try clear hfz37_5
           try clear hfz37_6
           try clear hfz37_7
           try clear hfz37_8
           try clear hfz37_9
           try clear hfz39_0
           try clear hfz39_1
           try clear hfz39_10
           try clear hfz39_11
           try clear hfz39_12
           try clear hfz39_13
           try clear hfz39_14
           try clear hfz39_2
           try clear hfz39_3
           try clear hfz39_4
           try clear hfz39_5
           try clear hfz39_6
           try clear hfz39_7
           try clear hfz39_8
           try clear hfz39_9
           try clear hfz48_0
           try clear hfz48_1
           try clear hfz48_10
           try clear hfz48_11
           try clear hfz48_12
           try clear hfz48_13
           try clear hfz48_14
           try clear hfz48_2
           try clear hfz48_3
           try clear hfz48_4
           try clear hfz48_5
           try clear hfz48_6
           try clear hfz48_7
           try clear hfz48_8
           try clear hfz48_9
           try clear hfz49_0
           try clear hfz49_1
           try clear hfz49_10
           try clear hfz49_11
           try clear hfz49_12
           try clear hfz49_13
           try clear hfz49_14
           try clear hfz49_2
           try clear hfz49_3
           try clear hfz49_4
           try clear hfz49_5
           try clear hfz49_6
           try clear hfz49_7
           try clear hfz49_8
           try clear hfz49_9
           try clear hfz4_0
           try clear hfz4_1
           try clear hfz4_10
           try clear hfz4_11
           try clear hfz4_12
           try clear hfz4_13
           try clear hfz4_14
           try clear hfz4_2
           try clear hfz4_3
           try clear hfz4_4
           try clear hfz4_5
           try clear hfz4_6
           try clear hfz4_7
           try clear hfz4_8
           try clear hfz4_9
           try clear hfz50_0
           try clear hfz50_1
           try clear hfz50_10
           try clear hfz50_11
           try clear hfz50_12
           try clear hfz50_13
           try clear hfz50_14
           try clear hfz50_2
           try clear hfz50_3
           try clear hfz50_4
           try clear hfz50_5
           try clear hfz50_6
           try clear hfz50_7
           try clear hfz50_8
           try clear hfz50_9
           try clear hfz51_0
           try clear hfz51_1
           try clear hfz51_10
           try clear hfz51_11
           try clear hfz51_12
           try clear hfz51_13
           try clear hfz51_14
           try clear hfz51_2
           try clear hfz51_3
           try clear hfz51_4
           try clear hfz51_5
           try clear hfz51_6
           try clear hfz51_7
           try clear hfz51_8
           try clear hfz51_9
           try clear hx257_0
           try clear hx261_0
           try clear hx261_1
           try clear hx263_0
           try clear hx263_1
           try clear p2
           try clear p25
           try clear p257
           try clear p261
           try clear p263
           try clear p6
           try clear q2
           try clear q25
           try clear q257
           try clear q261
           try clear q263
           obtain ⟨x6_4,rfl,HA,HK4,BK253,HB⟩:=hrel
           cases gk with
           | zero=>exact absurd HA.out (by simp [insolvencyref33_Valid.l2])
           | succ k4=>
            have H:=HA.out
            clear HA
            simp only [insolvencyref33_Valid.l2] at H
            by_cases c52:x6_4<(l0_13.length:Int)
            ·rw [if_pos c52] at H
             have c52b0:decide (x6_4<(l0_13.length:Int))=true:=decide_eq_true c52
             clear c52
             by_cases c53:0≤x6_4
             ·rw [if_pos c53] at H
              have c53b0:decide (0≤x6_4)=true:=decide_eq_true c53
              clear c53
              replace H:=Option.bind_eq_some_iff.mp H
              obtain ⟨t266,A540,H⟩:=H
              replace H:(if t266=true then ((insolvencyref33_small.f ((rd_T51 l0_13 x6_4).f1)).bind fun t268=>(if t268=true then (insolvencyref33_Valid.l2 k4 (wrap64 (x6_4+1)) a0_0 a0_1 a0_2 a0_3 a0_4 a0_5 a0_6 a0_7 a0_8 a0_9 a0_10 a0_11 l0_12 l0_13 l0_14) else (some false))) else (some false))=some r:=H
              have A54:=Aside0.mk A540
              clear A540
              by_cases c55:t266=true
              ·subst c55
               have H1:((insolvencyref33_small.f ((rd_T51 l0_13 x6_4).f1)).bind fun t268=>(if t268=true then (insolvencyref33_Valid.l2 k4 (wrap64 (x6_4+1)) a0_0 a0_1 a0_2 a0_3 a0_4 a0_5 a0_6 a0_7 a0_8 a0_9 a0_10 a0_11 l0_12 l0_13 l0_14) else (some false)))=some r:=by rw [if_pos rfl] at H;exact H
               clear H
               have H:=H1
               clear H1
               replace H:=Option.bind_eq_some_iff.mp H
               obtain ⟨t268,A560,H⟩:=H
               replace H:(if t268=true then (insolvencyref33_Valid.l2 k4 (wrap64 (x6_4+1)) a0_0 a0_1 a0_2 a0_3 a0_4 a0_5 a0_6 a0_7 a0_8 a0_9 a0_10 a0_11 l0_12 l0_13 l0_14) else (some false))=some r:=H
               have A56:=Aside0.mk A560
               clear A560
               by_cases c57:t268=true
               ·subst c57
                have H1:(insolvencyref33_Valid.l2 k4 (wrap64 (x6_4+1)) a0_0 a0_1 a0_2 a0_3 a0_4 a0_5 a0_6 a0_7 a0_8 a0_9 a0_10 a0_11 l0_12 l0_13 l0_14)=some r:=by rw [if_pos rfl] at H;exact H
                clear H
                have H:=H1
                clear H1
                have H':=Aside0.mk H
                clear H
                have hcz58_0:wr.cell? ⟨gb253,0,none⟩=some (.int .i64 a0_0):=(blk_cell BK253.out 0).trans rfl
                have hcz58_1:wr.cell? ⟨gb253,1,none⟩=some (.int .i64 a0_1):=(blk_cell BK253.out 1).trans rfl
                have hcz58_2:wr.cell? ⟨gb253,2,none⟩=some (.int .i64 a0_2):=(blk_cell BK253.out 2).trans rfl
                have hcz58_3:wr.cell? ⟨gb253,3,none⟩=some (.int .i64 a0_3):=(blk_cell BK253.out 3).trans rfl
                have hcz58_4:wr.cell? ⟨gb253,4,none⟩=some (.int .i64 a0_4):=(blk_cell BK253.out 4).trans rfl
                have hcz58_5:wr.cell? ⟨gb253,5,none⟩=some (.int .i64 a0_5):=(blk_cell BK253.out 5).trans rfl
                have hcz58_6:wr.cell? ⟨gb253,6,none⟩=some (.bool a0_6):=(blk_cell BK253.out 6).trans rfl
                have hcz58_7:wr.cell? ⟨gb253,7,none⟩=some (.string a0_7):=(blk_cell BK253.out 7).trans rfl
                have hcz58_8:wr.cell? ⟨gb253,8,none⟩=some (.string a0_8):=(blk_cell BK253.out 8).trans rfl
                have hcz58_9:wr.cell? ⟨gb253,9,none⟩=some (.bool a0_9):=(blk_cell BK253.out 9).trans rfl
                have hcz58_10:wr.cell? ⟨gb253,10,none⟩=some (.string a0_10):=(blk_cell BK253.out 10).trans rfl
                have hcz58_11:wr.cell? ⟨gb253,11,none⟩=some (.string a0_11):=(blk_cell BK253.out 11).trans rfl
                have hcz58_12:wr.cell? ⟨gb253,12,none⟩=some (.slice A0_12 l0_12.length c0_12):=(blk_cell BK253.out 12).trans rfl
                have hcz58_13:wr.cell? ⟨gb253,13,none⟩=some (.slice A0_13 l0_13.length c0_13):=(blk_cell BK253.out 13).trans rfl
                have hcz58_14:wr.cell? ⟨gb253,14,none⟩=some (.slice A0_14 l0_14.length c0_14):=(blk_cell BK253.out 14).trans rfl
                have hfz58_0:=blk_frozen BK253.out 0
                have hfz58_1:=blk_frozen BK253.out 1
                have hfz58_2:=blk_frozen BK253.out 2
                have hfz58_3:=blk_frozen BK253.out 3
                have hfz58_4:=blk_frozen BK253.out 4
                have hfz58_5:=blk_frozen BK253.out 5
                have hfz58_6:=blk_frozen BK253.out 6
                have hfz58_7:=blk_frozen BK253.out 7
                have hfz58_8:=blk_frozen BK253.out 8
                have hfz58_9:=blk_frozen BK253.out 9
                have hfz58_10:=blk_frozen BK253.out 10
                have hfz58_11:=blk_frozen BK253.out 11
                have hfz58_12:=blk_frozen BK253.out 12
                have hfz58_13:=blk_frozen BK253.out 13
                have hfz58_14:=blk_frozen BK253.out 14
                have p265:0≤(x6_4:Int):=of_decide_eq_true (by first|(with_reducible assumption)|assumption)
                have q265:x6_4<(l0_13.length:Int):=of_decide_eq_true (by first|(with_reducible assumption)|assumption)
                obtain ⟨ad265,e265,hx265_0,hx265_1,hx265_2,hx265_3⟩:=at_T51 HR0_13.out x6_4 p265 q265
                cases e265
                replace hx265_0:=(HB.out.cell (World.block_lt_of_cell? w _ hx265_0)).trans hx265_0
                replace hx265_1:=(HB.out.cell (World.block_lt_of_cell? w _ hx265_1)).trans hx265_1
                replace hx265_2:=(HB.out.cell (World.block_lt_of_cell? w _ hx265_2)).trans hx265_2
                replace hx265_3:=(HB.out.cell (World.block_lt_of_cell? w _ hx265_3)).trans hx265_3
                replace p265:=eq_true p265
                replace q265:=eq_true q265
                go_wp2_with (first|((with_reducible refine gate_callee (f:=36) rfl ?_);refine goesL_ (some 99) rfl rfl Tryd.func36 (by kernel_rfl) rfl #[.agg #[.bool ((rd_T51 l0_13 x6_4).f0.f0),.string ((rd_T51 l0_13 x6_4).f0.f1),.string ((rd_T51 l0_13 x6_4).f0.f2)]] rfl (by (try simp only [List.map_toArray,List.map_cons,List.map_nil]);first|done|rfl|(simp only [List.length_drop,List.length_take];rfl)) ?_;(with_reducible refine (insolvencyref1_Valid.calls k4 ((rd_T51 l0_13 x6_4).f0.f0) ((rd_T51 l0_13 x6_4).f0.f1) ((rd_T51 l0_13 x6_4).f0.f2) true _ A54.out).mono ?_);rintro e w59 ⟨rfl,hb⟩;refine ⟨_,rfl,?_⟩;have n0_:=Aside0.mk (blk_below (g:=gb253) (o:=.cells #[.int .i64 a0_0,.int .i64 a0_1,.int .i64 a0_2,.int .i64 a0_3,.int .i64 a0_4,.int .i64 a0_5,.bool a0_6,.string a0_7,.string a0_8,.bool a0_9,.string a0_10,.string a0_11,.slice A0_12 l0_12.length c0_12,.slice (some ad265) l0_13.length c0_13,.slice A0_14 l0_14.length c0_14] 37 (0,0)) (by (with_reducible repeat (first|refine blk_drewN ?_ _|refine blk_drew ?_|refine blk_alloc ?_ _));exact BK253.out) hb);have n1_:=Aside0.mk (below_step (by repeat (first|(with_reducible first|exact HB.out|apply below_alloc|apply pw_below_drewN|apply below_drew1|refine below_set ?_ GE253.out)|exact HB.out)) hb);clear BK253;clear HB;have BK253:=n0_;have HB:=n1_;clear n0_ n1_;(try clear hb);(try clear hb2);(try clear hk);(try clear hi);have hcz60_0:w59.cell? ⟨gb253,0,none⟩=some (.int .i64 a0_0):=(blk_cell BK253.out 0).trans rfl;have hcz60_1:w59.cell? ⟨gb253,1,none⟩=some (.int .i64 a0_1):=(blk_cell BK253.out 1).trans rfl;have hcz60_2:w59.cell? ⟨gb253,2,none⟩=some (.int .i64 a0_2):=(blk_cell BK253.out 2).trans rfl;have hcz60_3:w59.cell? ⟨gb253,3,none⟩=some (.int .i64 a0_3):=(blk_cell BK253.out 3).trans rfl;have hcz60_4:w59.cell? ⟨gb253,4,none⟩=some (.int .i64 a0_4):=(blk_cell BK253.out 4).trans rfl;have hcz60_5:w59.cell? ⟨gb253,5,none⟩=some (.int .i64 a0_5):=(blk_cell BK253.out 5).trans rfl;have hcz60_6:w59.cell? ⟨gb253,6,none⟩=some (.bool a0_6):=(blk_cell BK253.out 6).trans rfl;have hcz60_7:w59.cell? ⟨gb253,7,none⟩=some (.string a0_7):=(blk_cell BK253.out 7).trans rfl;have hcz60_8:w59.cell? ⟨gb253,8,none⟩=some (.string a0_8):=(blk_cell BK253.out 8).trans rfl;have hcz60_9:w59.cell? ⟨gb253,9,none⟩=some (.bool a0_9):=(blk_cell BK253.out 9).trans rfl;have hcz60_10:w59.cell? ⟨gb253,10,none⟩=some (.string a0_10):=(blk_cell BK253.out 10).trans rfl;have hcz60_11:w59.cell? ⟨gb253,11,none⟩=some (.string a0_11):=(blk_cell BK253.out 11).trans rfl;have hcz60_12:w59.cell? ⟨gb253,12,none⟩=some (.slice A0_12 l0_12.length c0_12):=(blk_cell BK253.out 12).trans rfl;have hcz60_13:w59.cell? ⟨gb253,13,none⟩=some (.slice (some ad265) l0_13.length c0_13):=(blk_cell BK253.out 13).trans rfl;have hcz60_14:w59.cell? ⟨gb253,14,none⟩=some (.slice A0_14 l0_14.length c0_14):=(blk_cell BK253.out 14).trans rfl;have hfz60_0:=blk_frozen BK253.out 0;have hfz60_1:=blk_frozen BK253.out 1;have hfz60_2:=blk_frozen BK253.out 2;have hfz60_3:=blk_frozen BK253.out 3;have hfz60_4:=blk_frozen BK253.out 4;have hfz60_5:=blk_frozen BK253.out 5;have hfz60_6:=blk_frozen BK253.out 6;have hfz60_7:=blk_frozen BK253.out 7;have hfz60_8:=blk_frozen BK253.out 8;have hfz60_9:=blk_frozen BK253.out 9;have hfz60_10:=blk_frozen BK253.out 10;have hfz60_11:=blk_frozen BK253.out 11;have hfz60_12:=blk_frozen BK253.out 12;have hfz60_13:=blk_frozen BK253.out 13;have hfz60_14:=blk_frozen BK253.out 14;have p267:0≤(x6_4:Int):=of_decide_eq_true (by first|(with_reducible assumption)|assumption);have q267:x6_4<(l0_13.length:Int):=of_decide_eq_true (by first|(with_reducible assumption)|assumption);obtain ⟨ad267,e267,hx267_0,hx267_1,hx267_2,hx267_3⟩:=at_T51 HR0_13.out x6_4 p267 q267;obtain rfl:ad265=ad267:=(by injection e267);replace hx267_0:=(HB.out.cell (World.block_lt_of_cell? w _ hx267_0)).trans hx267_0;replace hx267_1:=(HB.out.cell (World.block_lt_of_cell? w _ hx267_1)).trans hx267_1;replace hx267_2:=(HB.out.cell (World.block_lt_of_cell? w _ hx267_2)).trans hx267_2;replace hx267_3:=(HB.out.cell (World.block_lt_of_cell? w _ hx267_3)).trans hx267_3;replace p267:=eq_true p267;replace q267:=eq_true q267)|(go_at_call 35;(with_reducible refine (insolvencyref33_small.calls ((rd_T51 l0_13 x6_4).f1) true _ A56.out).mono ?_);rintro e w' ⟨rfl,⟨nd,rfl⟩⟩))
                go_roundg k4
                case measure=>have:=HK1.out;have:=HJ11.out;have:=HK3.out;have:=HK4.out;omega
                case rel=>exact ⟨(wrap64 (x6_4+1)),(by first|rfl|(simp;done)|(simp [*];done)),H',⟨by have:=HK1.out;have:=HJ11.out;have:=HK3.out;have:=HK4.out;omega⟩,⟨by (with_reducible repeat (first|refine blk_drewN ?_ _|refine blk_drew ?_|refine blk_alloc ?_ _));exact BK253.out⟩,⟨by repeat (first|(with_reducible first|exact HB.out|apply below_alloc|apply pw_below_drewN|apply below_drew1|refine below_set ?_ GE253.out)|exact HB.out)⟩⟩
               ·replace c57:=Bool.eq_false_iff.mpr c57
                subst c57
                have H1:(some false)=some r:=by rw [if_neg (show ¬ (false=true) by decide)] at H;exact H
                clear H
                have H:=H1
                clear H1
                obtain rfl:=Option.some.inj H
                have hcz61_0:wr.cell? ⟨gb253,0,none⟩=some (.int .i64 a0_0):=(blk_cell BK253.out 0).trans rfl
                have hcz61_1:wr.cell? ⟨gb253,1,none⟩=some (.int .i64 a0_1):=(blk_cell BK253.out 1).trans rfl
                have hcz61_2:wr.cell? ⟨gb253,2,none⟩=some (.int .i64 a0_2):=(blk_cell BK253.out 2).trans rfl
                have hcz61_3:wr.cell? ⟨gb253,3,none⟩=some (.int .i64 a0_3):=(blk_cell BK253.out 3).trans rfl
                have hcz61_4:wr.cell? ⟨gb253,4,none⟩=some (.int .i64 a0_4):=(blk_cell BK253.out 4).trans rfl
                have hcz61_5:wr.cell? ⟨gb253,5,none⟩=some (.int .i64 a0_5):=(blk_cell BK253.out 5).trans rfl
                have hcz61_6:wr.cell? ⟨gb253,6,none⟩=some (.bool a0_6):=(blk_cell BK253.out 6).trans rfl
                have hcz61_7:wr.cell? ⟨gb253,7,none⟩=some (.string a0_7):=(blk_cell BK253.out 7).trans rfl
                have hcz61_8:wr.cell? ⟨gb253,8,none⟩=some (.string a0_8):=(blk_cell BK253.out 8).trans rfl
                have hcz61_9:wr.cell? ⟨gb253,9,none⟩=some (.bool a0_9):=(blk_cell BK253.out 9).trans rfl
                have hcz61_10:wr.cell? ⟨gb253,10,none⟩=some (.string a0_10):=(blk_cell BK253.out 10).trans rfl
                have hcz61_11:wr.cell? ⟨gb253,11,none⟩=some (.string a0_11):=(blk_cell BK253.out 11).trans rfl
                have hcz61_12:wr.cell? ⟨gb253,12,none⟩=some (.slice A0_12 l0_12.length c0_12):=(blk_cell BK253.out 12).trans rfl
                have hcz61_13:wr.cell? ⟨gb253,13,none⟩=some (.slice A0_13 l0_13.length c0_13):=(blk_cell BK253.out 13).trans rfl
                have hcz61_14:wr.cell? ⟨gb253,14,none⟩=some (.slice A0_14 l0_14.length c0_14):=(blk_cell BK253.out 14).trans rfl
                have hfz61_0:=blk_frozen BK253.out 0
                have hfz61_1:=blk_frozen BK253.out 1
                have hfz61_2:=blk_frozen BK253.out 2
                have hfz61_3:=blk_frozen BK253.out 3
                have hfz61_4:=blk_frozen BK253.out 4
                have hfz61_5:=blk_frozen BK253.out 5
                have hfz61_6:=blk_frozen BK253.out 6
                have hfz61_7:=blk_frozen BK253.out 7
                have hfz61_8:=blk_frozen BK253.out 8
                have hfz61_9:=blk_frozen BK253.out 9
                have hfz61_10:=blk_frozen BK253.out 10
                have hfz61_11:=blk_frozen BK253.out 11
                have hfz61_12:=blk_frozen BK253.out 12
                have hfz61_13:=blk_frozen BK253.out 13
                have hfz61_14:=blk_frozen BK253.out 14
                have p265:0≤(x6_4:Int):=of_decide_eq_true (by first|(with_reducible assumption)|assumption)
                have q265:x6_4<(l0_13.length:Int):=of_decide_eq_true (by first|(with_reducible assumption)|assumption)
                obtain ⟨ad265,e265,hx265_0,hx265_1,hx265_2,hx265_3⟩:=at_T51 HR0_13.out x6_4 p265 q265
                cases e265
                replace hx265_0:=(HB.out.cell (World.block_lt_of_cell? w _ hx265_0)).trans hx265_0
                replace hx265_1:=(HB.out.cell (World.block_lt_of_cell? w _ hx265_1)).trans hx265_1
                replace hx265_2:=(HB.out.cell (World.block_lt_of_cell? w _ hx265_2)).trans hx265_2
                replace hx265_3:=(HB.out.cell (World.block_lt_of_cell? w _ hx265_3)).trans hx265_3
                replace p265:=eq_true p265
                replace q265:=eq_true q265
                go_wp2_with (first|((with_reducible refine gate_callee (f:=36) rfl ?_);refine goesL_ (some 99) rfl rfl Tryd.func36 (by kernel_rfl) rfl #[.agg #[.bool ((rd_T51 l0_13 x6_4).f0.f0),.string ((rd_T51 l0_13 x6_4).f0.f1),.string ((rd_T51 l0_13 x6_4).f0.f2)]] rfl (by (try simp only [List.map_toArray,List.map_cons,List.map_nil]);first|done|rfl|(simp only [List.length_drop,List.length_take];rfl)) ?_;(with_reducible refine (insolvencyref1_Valid.calls k4 ((rd_T51 l0_13 x6_4).f0.f0) ((rd_T51 l0_13 x6_4).f0.f1) ((rd_T51 l0_13 x6_4).f0.f2) true _ A54.out).mono ?_);rintro e w62 ⟨rfl,hb⟩;refine ⟨_,rfl,?_⟩;have n0_:=Aside0.mk (blk_below (g:=gb253) (o:=.cells #[.int .i64 a0_0,.int .i64 a0_1,.int .i64 a0_2,.int .i64 a0_3,.int .i64 a0_4,.int .i64 a0_5,.bool a0_6,.string a0_7,.string a0_8,.bool a0_9,.string a0_10,.string a0_11,.slice A0_12 l0_12.length c0_12,.slice (some ad265) l0_13.length c0_13,.slice A0_14 l0_14.length c0_14] 37 (0,0)) (by (with_reducible repeat (first|refine blk_drewN ?_ _|refine blk_drew ?_|refine blk_alloc ?_ _));exact BK253.out) hb);have n1_:=Aside0.mk (below_step (by repeat (first|(with_reducible first|exact HB.out|apply below_alloc|apply pw_below_drewN|apply below_drew1|refine below_set ?_ GE253.out)|exact HB.out)) hb);clear BK253;clear HB;have BK253:=n0_;have HB:=n1_;clear n0_ n1_;(try clear hb);(try clear hb2);(try clear hk);(try clear hi);have hcz63_0:w62.cell? ⟨gb253,0,none⟩=some (.int .i64 a0_0):=(blk_cell BK253.out 0).trans rfl;have hcz63_1:w62.cell? ⟨gb253,1,none⟩=some (.int .i64 a0_1):=(blk_cell BK253.out 1).trans rfl;have hcz63_2:w62.cell? ⟨gb253,2,none⟩=some (.int .i64 a0_2):=(blk_cell BK253.out 2).trans rfl;have hcz63_3:w62.cell? ⟨gb253,3,none⟩=some (.int .i64 a0_3):=(blk_cell BK253.out 3).trans rfl;have hcz63_4:w62.cell? ⟨gb253,4,none⟩=some (.int .i64 a0_4):=(blk_cell BK253.out 4).trans rfl;have hcz63_5:w62.cell? ⟨gb253,5,none⟩=some (.int .i64 a0_5):=(blk_cell BK253.out 5).trans rfl;have hcz63_6:w62.cell? ⟨gb253,6,none⟩=some (.bool a0_6):=(blk_cell BK253.out 6).trans rfl;have hcz63_7:w62.cell? ⟨gb253,7,none⟩=some (.string a0_7):=(blk_cell BK253.out 7).trans rfl;have hcz63_8:w62.cell? ⟨gb253,8,none⟩=some (.string a0_8):=(blk_cell BK253.out 8).trans rfl;have hcz63_9:w62.cell? ⟨gb253,9,none⟩=some (.bool a0_9):=(blk_cell BK253.out 9).trans rfl;have hcz63_10:w62.cell? ⟨gb253,10,none⟩=some (.string a0_10):=(blk_cell BK253.out 10).trans rfl;have hcz63_11:w62.cell? ⟨gb253,11,none⟩=some (.string a0_11):=(blk_cell BK253.out 11).trans rfl;have hcz63_12:w62.cell? ⟨gb253,12,none⟩=some (.slice A0_12 l0_12.length c0_12):=(blk_cell BK253.out 12).trans rfl;have hcz63_13:w62.cell? ⟨gb253,13,none⟩=some (.slice (some ad265) l0_13.length c0_13):=(blk_cell BK253.out 13).trans rfl;have hcz63_14:w62.cell? ⟨gb253,14,none⟩=some (.slice A0_14 l0_14.length c0_14):=(blk_cell BK253.out 14).trans rfl;have hfz63_0:=blk_frozen BK253.out 0;have hfz63_1:=blk_frozen BK253.out 1;have hfz63_2:=blk_frozen BK253.out 2;have hfz63_3:=blk_frozen BK253.out 3;have hfz63_4:=blk_frozen BK253.out 4;have hfz63_5:=blk_frozen BK253.out 5;have hfz63_6:=blk_frozen BK253.out 6;have hfz63_7:=blk_frozen BK253.out 7;have hfz63_8:=blk_frozen BK253.out 8;have hfz63_9:=blk_frozen BK253.out 9;have hfz63_10:=blk_frozen BK253.out 10;have hfz63_11:=blk_frozen BK253.out 11;have hfz63_12:=blk_frozen BK253.out 12;have hfz63_13:=blk_frozen BK253.out 13;have hfz63_14:=blk_frozen BK253.out 14;have p267:0≤(x6_4:Int):=of_decide_eq_true (by first|(with_reducible assumption)|assumption);have q267:x6_4<(l0_13.length:Int):=of_decide_eq_true (by first|(with_reducible assumption)|assumption);obtain ⟨ad267,e267,hx267_0,hx267_1,hx267_2,hx267_3⟩:=at_T51 HR0_13.out x6_4 p267 q267;obtain rfl:ad265=ad267:=(by injection e267);replace hx267_0:=(HB.out.cell (World.block_lt_of_cell? w _ hx267_0)).trans hx267_0;replace hx267_1:=(HB.out.cell (World.block_lt_of_cell? w _ hx267_1)).trans hx267_1;replace hx267_2:=(HB.out.cell (World.block_lt_of_cell? w _ hx267_2)).trans hx267_2;replace hx267_3:=(HB.out.cell (World.block_lt_of_cell? w _ hx267_3)).trans hx267_3;replace p267:=eq_true p267;replace q267:=eq_true q267)|(go_at_call 35;(with_reducible refine (insolvencyref33_small.calls ((rd_T51 l0_13 x6_4).f1) false _ A56.out).mono ?_);rintro e w' ⟨rfl,⟨nd,rfl⟩⟩))
                go_ret
                exact ⟨by first|rfl|(simp [errW_none,errW_some] <;> rfl)|(simp [*,errW_none,errW_some] <;> rfl),by repeat (first|(with_reducible first|exact HB.out|apply below_alloc|apply pw_below_drewN|apply below_drew1|refine below_set ?_ GE253.out)|exact HB.out)⟩
              ·replace c55:=Bool.eq_false_iff.mpr c55
               subst c55
               have H1:(some false)=some r:=by rw [if_neg (show ¬ (false=true) by decide)] at H;exact H
               clear H
               have H:=H1
               clear H1
               obtain rfl:=Option.some.inj H
               have hcz64_0:wr.cell? ⟨gb253,0,none⟩=some (.int .i64 a0_0):=(blk_cell BK253.out 0).trans rfl
               have hcz64_1:wr.cell? ⟨gb253,1,none⟩=some (.int .i64 a0_1):=(blk_cell BK253.out 1).trans rfl
               have hcz64_2:wr.cell? ⟨gb253,2,none⟩=some (.int .i64 a0_2):=(blk_cell BK253.out 2).trans rfl
               have hcz64_3:wr.cell? ⟨gb253,3,none⟩=some (.int .i64 a0_3):=(blk_cell BK253.out 3).trans rfl
               have hcz64_4:wr.cell? ⟨gb253,4,none⟩=some (.int .i64 a0_4):=(blk_cell BK253.out 4).trans rfl
               have hcz64_5:wr.cell? ⟨gb253,5,none⟩=some (.int .i64 a0_5):=(blk_cell BK253.out 5).trans rfl
               have hcz64_6:wr.cell? ⟨gb253,6,none⟩=some (.bool a0_6):=(blk_cell BK253.out 6).trans rfl
               have hcz64_7:wr.cell? ⟨gb253,7,none⟩=some (.string a0_7):=(blk_cell BK253.out 7).trans rfl
               have hcz64_8:wr.cell? ⟨gb253,8,none⟩=some (.string a0_8):=(blk_cell BK253.out 8).trans rfl
               have hcz64_9:wr.cell? ⟨gb253,9,none⟩=some (.bool a0_9):=(blk_cell BK253.out 9).trans rfl
               have hcz64_10:wr.cell? ⟨gb253,10,none⟩=some (.string a0_10):=(blk_cell BK253.out 10).trans rfl
               have hcz64_11:wr.cell? ⟨gb253,11,none⟩=some (.string a0_11):=(blk_cell BK253.out 11).trans rfl
               have hcz64_12:wr.cell? ⟨gb253,12,none⟩=some (.slice A0_12 l0_12.length c0_12):=(blk_cell BK253.out 12).trans rfl
               have hcz64_13:wr.cell? ⟨gb253,13,none⟩=some (.slice A0_13 l0_13.length c0_13):=(blk_cell BK253.out 13).trans rfl
               have hcz64_14:wr.cell? ⟨gb253,14,none⟩=some (.slice A0_14 l0_14.length c0_14):=(blk_cell BK253.out 14).trans rfl
               have hfz64_0:=blk_frozen BK253.out 0
               have hfz64_1:=blk_frozen BK253.out 1
               have hfz64_2:=blk_frozen BK253.out 2
               have hfz64_3:=blk_frozen BK253.out 3
               have hfz64_4:=blk_frozen BK253.out 4
               have hfz64_5:=blk_frozen BK253.out 5
               have hfz64_6:=blk_frozen BK253.out 6
               have hfz64_7:=blk_frozen BK253.out 7
               have hfz64_8:=blk_frozen BK253.out 8
               have hfz64_9:=blk_frozen BK253.out 9
               have hfz64_10:=blk_frozen BK253.out 10
               have hfz64_11:=blk_frozen BK253.out 11
               have hfz64_12:=blk_frozen BK253.out 12
               have hfz64_13:=blk_frozen BK253.out 13
               have hfz64_14:=blk_frozen BK253.out 14
               have p265:0≤(x6_4:Int):=of_decide_eq_true (by first|(with_reducible assumption)|assumption)
               have q265:x6_4<(l0_13.length:Int):=of_decide_eq_true (by first|(with_reducible assumption)|assumption)
               obtain ⟨ad265,e265,hx265_0,hx265_1,hx265_2,hx265_3⟩:=at_T51 HR0_13.out x6_4 p265 q265
               cases e265
               replace hx265_0:=(HB.out.cell (World.block_lt_of_cell? w _ hx265_0)).trans hx265_0
               replace hx265_1:=(HB.out.cell (World.block_lt_of_cell? w _ hx265_1)).trans hx265_1
               replace hx265_2:=(HB.out.cell (World.block_lt_of_cell? w _ hx265_2)).trans hx265_2
               replace hx265_3:=(HB.out.cell (World.block_lt_of_cell? w _ hx265_3)).trans hx265_3
               replace p265:=eq_true p265
               replace q265:=eq_true q265
               go_wp2_with (first|((with_reducible refine gate_callee (f:=36) rfl ?_);refine goesL_ (some 99) rfl rfl Tryd.func36 (by kernel_rfl) rfl #[.agg #[.bool ((rd_T51 l0_13 x6_4).f0.f0),.string ((rd_T51 l0_13 x6_4).f0.f1),.string ((rd_T51 l0_13 x6_4).f0.f2)]] rfl (by (try simp only [List.map_toArray,List.map_cons,List.map_nil]);first|done|rfl|(simp only [List.length_drop,List.length_take];rfl)) ?_;(with_reducible refine (insolvencyref1_Valid.calls k4 ((rd_T51 l0_13 x6_4).f0.f0) ((rd_T51 l0_13 x6_4).f0.f1) ((rd_T51 l0_13 x6_4).f0.f2) false _ A54.out).mono ?_);rintro e w65 ⟨rfl,hb⟩;refine ⟨_,rfl,?_⟩;have n0_:=Aside0.mk (blk_below (g:=gb253) (o:=.cells #[.int .i64 a0_0,.int .i64 a0_1,.int .i64 a0_2,.int .i64 a0_3,.int .i64 a0_4,.int .i64 a0_5,.bool a0_6,.string a0_7,.string a0_8,.bool a0_9,.string a0_10,.string a0_11,.slice A0_12 l0_12.length c0_12,.slice (some ad265) l0_13.length c0_13,.slice A0_14 l0_14.length c0_14] 37 (0,0)) (by (with_reducible repeat (first|refine blk_drewN ?_ _|refine blk_drew ?_|refine blk_alloc ?_ _));exact BK253.out) hb);have n1_:=Aside0.mk (below_step (by repeat (first|(with_reducible first|exact HB.out|apply below_alloc|apply pw_below_drewN|apply below_drew1|refine below_set ?_ GE253.out)|exact HB.out)) hb);clear BK253;clear HB;have BK253:=n0_;have HB:=n1_;clear n0_ n1_;(try clear hb);(try clear hb2);(try clear hk);(try clear hi)))
               go_ret
               exact ⟨by first|rfl|(simp [errW_none,errW_some] <;> rfl)|(simp [*,errW_none,errW_some] <;> rfl),by repeat (first|(with_reducible first|exact HB.out|apply below_alloc|apply pw_below_drewN|apply below_drew1|refine below_set ?_ GE253.out)|exact HB.out)⟩
             ·rw [if_neg c53] at H
              exact absurd H (by simp)
            ·rw [if_neg c52] at H
             have c52b0:decide (x6_4<(l0_13.length:Int))=false:=decide_eq_false c52
             clear c52
             have H':=Aside0.mk H
             clear H
             have hcz66_0:wr.cell? ⟨gb253,0,none⟩=some (.int .i64 a0_0):=(blk_cell BK253.out 0).trans rfl
             have hcz66_1:wr.cell? ⟨gb253,1,none⟩=some (.int .i64 a0_1):=(blk_cell BK253.out 1).trans rfl
             have hcz66_2:wr.cell? ⟨gb253,2,none⟩=some (.int .i64 a0_2):=(blk_cell BK253.out 2).trans rfl
             have hcz66_3:wr.cell? ⟨gb253,3,none⟩=some (.int .i64 a0_3):=(blk_cell BK253.out 3).trans rfl
             have hcz66_4:wr.cell? ⟨gb253,4,none⟩=some (.int .i64 a0_4):=(blk_cell BK253.out 4).trans rfl
             have hcz66_5:wr.cell? ⟨gb253,5,none⟩=some (.int .i64 a0_5):=(blk_cell BK253.out 5).trans rfl
             have hcz66_6:wr.cell? ⟨gb253,6,none⟩=some (.bool a0_6):=(blk_cell BK253.out 6).trans rfl
             have hcz66_7:wr.cell? ⟨gb253,7,none⟩=some (.string a0_7):=(blk_cell BK253.out 7).trans rfl
             have hcz66_8:wr.cell? ⟨gb253,8,none⟩=some (.string a0_8):=(blk_cell BK253.out 8).trans rfl
             have hcz66_9:wr.cell? ⟨gb253,9,none⟩=some (.bool a0_9):=(blk_cell BK253.out 9).trans rfl
             have hcz66_10:wr.cell? ⟨gb253,10,none⟩=some (.string a0_10):=(blk_cell BK253.out 10).trans rfl
             have hcz66_11:wr.cell? ⟨gb253,11,none⟩=some (.string a0_11):=(blk_cell BK253.out 11).trans rfl
             have hcz66_12:wr.cell? ⟨gb253,12,none⟩=some (.slice A0_12 l0_12.length c0_12):=(blk_cell BK253.out 12).trans rfl
             have hcz66_13:wr.cell? ⟨gb253,13,none⟩=some (.slice A0_13 l0_13.length c0_13):=(blk_cell BK253.out 13).trans rfl
             have hcz66_14:wr.cell? ⟨gb253,14,none⟩=some (.slice A0_14 l0_14.length c0_14):=(blk_cell BK253.out 14).trans rfl
             have hfz66_0:=blk_frozen BK253.out 0
             have hfz66_1:=blk_frozen BK253.out 1
             have hfz66_2:=blk_frozen BK253.out 2
             have hfz66_3:=blk_frozen BK253.out 3
             have hfz66_4:=blk_frozen BK253.out 4
             have hfz66_5:=blk_frozen BK253.out 5
             have hfz66_6:=blk_frozen BK253.out 6
             have hfz66_7:=blk_frozen BK253.out 7
             have hfz66_8:=blk_frozen BK253.out 8
             have hfz66_9:=blk_frozen BK253.out 9
             have hfz66_10:=blk_frozen BK253.out 10
             have hfz66_11:=blk_frozen BK253.out 11
             have hfz66_12:=blk_frozen BK253.out 12
             have hfz66_13:=blk_frozen BK253.out 13
             have hfz66_14:=blk_frozen BK253.out 14
             go_wp2
             go_loopg [7] k4 (fun kq v7 w'=>∃ (x7_5:Int),v7 = .int .i64 x7_5∧Aside0 (insolvencyref33_Valid.l3 kq x7_5 a0_0 a0_1 a0_2 a0_3 a0_4 a0_5 a0_6 a0_7 a0_8 a0_9 a0_10 a0_11 l0_12 l0_13 l0_14=some r)∧Aside0 (kq≤k4)∧Aside0 (w'.heap[gb253]?=some (.cells #[.int .i64 a0_0,.int .i64 a0_1,.int .i64 a0_2,.int .i64 a0_3,.int .i64 a0_4,.int .i64 a0_5,.bool a0_6,.string a0_7,.string a0_8,.bool a0_9,.string a0_10,.string a0_11,(.slice A0_12 l0_12.length c0_12),(.slice A0_13 l0_13.length c0_13),(.slice A0_14 l0_14.length c0_14)] 37 (0,0)))∧Aside0 (Below w.heap.size w w'))
             case atStart=>exact ⟨(0),(by first|rfl|(simp;done)|(simp [*];done)),H',⟨Nat.le_refl _⟩,⟨by (with_reducible repeat (first|refine blk_drewN ?_ _|refine blk_drew ?_|refine blk_alloc ?_ _));exact BK253.out⟩,⟨by repeat (first|(with_reducible first|exact HB.out|apply below_alloc|apply pw_below_drewN|apply below_drew1|refine below_set ?_ GE253.out)|exact HB.out)⟩⟩
             case round=>
              clear H'
              try clear p2
              try clear q2
              try clear hx2
              try clear c3
              try clear c5
              try clear p6
              try clear p25
              try clear q25
              try clear hx25
              try clear p26
              try clear q26
              try clear hx26
              try clear c36
              try clear c52
              try clear c52b0
              try clear c53
              try clear c53b0
              try clear c55
              try clear c57
              try clear p64
              try clear hcz37_1
              try clear hcz37_10
              try clear hcz37_11
              try clear hcz37_12
              try clear hcz37_13
              try clear hcz37_14
              try clear hcz37_2
              try clear hcz37_3
              try clear hcz37_4
              try clear hcz37_5
              try clear hcz37_6
              try clear hcz37_7
              try clear hcz37_8
              try clear hcz37_9
              try clear hcz39_0
              try clear hcz39_1
              try clear hcz39_10
              try clear hcz39_11
              try clear hcz39_12
              try clear hcz39_13
              try clear hcz39_14
              try clear hcz39_2
              try clear hcz39_3
              try clear hcz39_4
              try clear hcz39_5
              try clear hcz39_6
              try clear hcz39_7
              try clear hcz39_8
              try clear hcz39_9
              try clear hcz48_0
              try clear hcz48_1
              try clear hcz48_10
              try clear hcz48_11
              try clear hcz48_12
              try clear hcz48_13
              try clear hcz48_14
              try clear hcz48_2
              try clear hcz48_3
              try clear hcz48_4
              try clear hcz48_5
              try clear hcz48_6
              try clear hcz48_7
              try clear hcz48_8
              try clear hcz48_9
              try clear hcz49_0
              try clear hcz49_1
              try clear hcz49_10
              try clear hcz49_11
              try clear hcz49_12
              try clear hcz49_13
              try clear hcz49_14
              try clear hcz49_2
              try clear hcz49_3
              try clear hcz49_4
              try clear hcz49_5
              try clear hcz49_6
              try clear hcz49_7
              try clear hcz49_8
              try clear hcz49_9
              try clear hcz4_0
              try clear hcz4_1
              try clear hcz4_10
              try clear hcz4_11
              try clear hcz4_12
              try clear hcz4_13
              try clear hcz4_14
              try clear hcz4_2
              try clear hcz4_3
              try clear hcz4_4
              try clear hcz4_5
              try clear hcz4_6
              try clear hcz4_7
              try clear hcz4_8
              try clear hcz4_9
              try clear hcz50_0
              try clear hcz50_1
              try clear hcz50_10
              try clear hcz50_11
              try clear hcz50_12
              try clear hcz50_13
              try clear hcz50_14
              try clear hcz50_2
              try clear hcz50_3
              try clear hcz50_4
              try clear hcz50_5
              try clear hcz50_6
              try clear hcz50_7
              try clear hcz50_8
              try clear hcz50_9
              try clear hcz51_0
              try clear hcz51_1
              try clear hcz51_10
              try clear hcz51_11
              try clear hcz51_12
              try clear hcz51_13
              try clear hcz51_14
              try clear hcz51_2
              try clear hcz51_3
              try clear hcz51_4
              try clear hcz51_5
              try clear hcz51_6
              try clear hcz51_7
              try clear hcz51_8
              try clear hcz51_9
              try clear hcz58_0
              try clear hcz58_1
              try clear hcz58_10
              try clear hcz58_11
              try clear hcz58_12
              try clear hcz58_13
              try clear hcz58_14
              try clear hcz58_2
              try clear hcz58_3
              try clear hcz58_4
              try clear hcz58_5
              try clear hcz58_6
              try clear hcz58_7
              try clear hcz58_8
              try clear hcz58_9
              try clear hcz60_0
              try clear hcz60_1
              try clear hcz60_10
              try clear hcz60_11
              try clear hcz60_12
              try clear hcz60_13
              try clear hcz60_14
              try clear hcz60_2
              try clear hcz60_3
              try clear hcz60_4
              try clear hcz60_5
              try clear hcz60_6
              try clear hcz60_7
              try clear hcz60_8
              try clear hcz60_9
              try clear hcz61_0
              try clear hcz61_1
              try clear hcz61_10
              try clear hcz61_11
              try clear hcz61_12
              try clear hcz61_13
              try clear hcz61_14
              try clear hcz61_2
              try clear hcz61_3
              try clear hcz61_4
              try clear hcz61_5
              try clear hcz61_6
              try clear hcz61_7
              try clear hcz61_8
              try clear hcz61_9
              try clear hcz63_0
              try clear hcz63_1
              try clear hcz63_10
              try clear hcz63_11
              try clear hcz63_12
              try clear hcz63_13
              try clear hcz63_14
              try clear hcz63_2
              try clear hcz63_3
              try clear hcz63_4
              try clear hcz63_5
              try clear hcz63_6
              try clear hcz63_7
              try clear hcz63_8
              try clear hcz63_9
              try clear hcz64_0
              try clear hcz64_1
              try clear hcz64_10
              try clear hcz64_11
              try clear hcz64_12
              try clear hcz64_13
              try clear hcz64_14
              try clear hcz64_2
              try clear hcz64_3
              try clear hcz64_4
              try clear hcz64_5
              try clear hcz64_6
              try clear hcz64_7
              try clear hcz64_8
              try clear hcz64_9
              try clear hcz66_0
              try clear hcz66_1
              try clear hcz66_10
              try clear hcz66_11
              try clear hcz66_12
              try clear hcz66_13
              try clear hcz66_14
              try clear hcz66_2
              try clear hcz66_3
              try clear hcz66_4
              try clear hcz66_5
              try clear hcz66_6
              try clear hcz66_7
              try clear hcz66_8
              try clear hcz66_9
              try clear hfz19_0
              try clear hfz19_1
              try clear hfz19_10
              try clear hfz19_11
              try clear hfz19_12
              try clear hfz19_13
              try clear hfz19_14
              try clear hfz19_2
              try clear hfz19_3
              try clear hfz19_4
              try clear hfz19_5
              try clear hfz19_6
              try clear hfz19_7
              try clear hfz19_8
              try clear hfz19_9
              try clear hfz21_0
              try clear hfz21_1
              try clear hfz21_10
              try clear hfz21_11
              try clear hfz21_12
              try clear hfz21_13
              try clear hfz21_14
              try clear hfz21_2
              try clear hfz21_3
              try clear hfz21_4
              try clear hfz21_5
              try clear hfz21_6
              try clear hfz21_7
              try clear hfz21_8
              try clear hfz21_9
              try clear hfz23_0
              try clear hfz23_1
              try clear hfz23_10
              try clear hfz23_11
              try clear hfz23_12
              try clear hfz23_13
              try clear hfz23_14
              try clear hfz23_2
              try clear hfz23_3
              try clear hfz23_4
              try clear hfz23_5
              try clear hfz23_6
              try clear hfz23_7
              try clear hfz23_8
              try clear hfz23_9
              try clear hfz25_0
              try clear hfz25_1
              try clear hfz25_10
              try clear hfz25_11
              try clear hfz25_12
              try clear hfz25_13
              try clear hfz25_14
              try clear hfz25_2
              try clear hfz25_3
              try clear hfz25_4
              try clear hfz25_5
              try clear hfz25_6
              try clear hfz25_7
              try clear hfz25_8
              try clear hfz25_9
              try clear hfz27_0
              try clear hfz27_1
              try clear hfz27_10
              try clear hfz27_11
              try clear hfz27_12
              try clear hfz27_13
              try clear hfz27_14
              try clear hfz27_2
              try clear hfz27_3
              try clear hfz27_4
              try clear hfz27_5
              try clear hfz27_6
              try clear hfz27_7
              try clear hfz27_8
              try clear hfz27_9
              try clear hfz29_0
              try clear hfz29_1
              try clear hfz29_10
              try clear hfz29_11
              try clear hfz29_12
              try clear hfz29_13
              try clear hfz29_14
              try clear hfz29_2
              try clear hfz29_3
              try clear hfz29_4
              try clear hfz29_5
              try clear hfz29_6
              try clear hfz29_7
              try clear hfz29_8
              try clear hfz29_9
              try clear hfz30_0
              try clear hfz30_1
              try clear hfz30_10
              try clear hfz30_11
              try clear hfz30_12
              try clear hfz30_13
              try clear hfz30_14
              try clear hfz30_2
              try clear hfz30_3
              try clear hfz30_4
              try clear hfz30_5
              try clear hfz30_6
              try clear hfz30_7
              try clear hfz30_8
              try clear hfz30_9
              try clear hfz32_0
              try clear hfz32_1
              try clear hfz32_10
              try clear hfz32_11
              try clear hfz32_12
              try clear hfz32_13
              try clear hfz32_14
              try clear hfz32_2
              try clear hfz32_3
              try clear hfz32_4
              try clear hfz32_5
              try clear hfz32_6
              try clear hfz32_7
              try clear hfz32_8
              try clear hfz32_9
              try clear hfz34_0
              try clear hfz34_1
              try clear hfz34_10
              try clear hfz34_11
              try clear hfz34_12
              try clear hfz34_13
              try clear hfz34_14
              try clear hfz34_2
              try clear hfz34_3
              try clear hfz34_4
              try clear hfz34_5
              try clear hfz34_6
              try clear hfz34_7
              try clear hfz34_8
              try clear hfz34_9
              try clear hfz35_0
              try clear hfz35_1
              try clear hfz35_10
              try clear hfz35_11
              try clear hfz35_12
              try clear hfz35_13
              try clear hfz35_14
              try clear hfz35_2
              try clear hfz35_3
              try clear hfz35_4
              try clear hfz35_5
              try clear hfz35_6
              try clear hfz35_7
              try clear hfz35_8
              try clear hfz35_9
              try clear hfz37_0
              try clear hfz37_1
              try clear hfz37_10
              try clear hfz37_11
              try clear hfz37_12
              try clear hfz37_13
              try clear hfz37_14
              try clear hfz37_2
              try clear hfz37_3
              try clear hfz37_4
              try clear hfz37_5
              try clear hfz37_6
              try clear hfz37_7
              try clear hfz37_8
              try clear hfz37_9
              try clear hfz39_0
              try clear hfz39_1
              try clear hfz39_10
              try clear hfz39_11
              try clear hfz39_12
              try clear hfz39_13
              try clear hfz39_14
              try clear hfz39_2
              try clear hfz39_3
              try clear hfz39_4
              try clear hfz39_5
              try clear hfz39_6
              try clear hfz39_7
              try clear hfz39_8
              try clear hfz39_9
              try clear hfz48_0
              try clear hfz48_1
              try clear hfz48_10
              try clear hfz48_11
              try clear hfz48_12
              try clear hfz48_13
              try clear hfz48_14
              try clear hfz48_2
              try clear hfz48_3
              try clear hfz48_4
              try clear hfz48_5
              try clear hfz48_6
              try clear hfz48_7
              try clear hfz48_8
              try clear hfz48_9
              try clear hfz49_0
              try clear hfz49_1
              try clear hfz49_10
              try clear hfz49_11
              try clear hfz49_12
              try clear hfz49_13
              try clear hfz49_14
              try clear hfz49_2
              try clear hfz49_3
              try clear hfz49_4
              try clear hfz49_5
              try clear hfz49_6
              try clear hfz49_7
              try clear hfz49_8
              try clear hfz49_9
              try clear hfz4_0
              try clear hfz4_1
              try clear hfz4_10
              try clear hfz4_11
              try clear hfz4_12
              try clear hfz4_13
              try clear hfz4_14
              try clear hfz4_2
              try clear hfz4_3
              try clear hfz4_4
              try clear hfz4_5
              try clear hfz4_6
              try clear hfz4_7
              try clear hfz4_8
              try clear hfz4_9
              try clear hfz50_0
              try clear hfz50_1
              try clear hfz50_10
              try clear hfz50_11
              try clear hfz50_12
              try clear hfz50_13
              try clear hfz50_14
              try clear hfz50_2
              try clear hfz50_3
              try clear hfz50_4
              try clear hfz50_5
              try clear hfz50_6
              try clear hfz50_7
              try clear hfz50_8
              try clear hfz50_9
              try clear hfz51_0
              try clear hfz51_1
              try clear hfz51_10
              try clear hfz51_11
              try clear hfz51_12
              try clear hfz51_13
              try clear hfz51_14
              try clear hfz51_2
              try clear hfz51_3
              try clear hfz51_4
              try clear hfz51_5
              try clear hfz51_6
              try clear hfz51_7
              try clear hfz51_8
              try clear hfz51_9
              try clear hfz58_0
              try clear hfz58_1
              try clear hfz58_10
              try clear hfz58_11
              try clear hfz58_12
              try clear hfz58_13
              try clear hfz58_14
              try clear hfz58_2
              try clear hfz58_3
              try clear hfz58_4
              try clear hfz58_5
              try clear hfz58_6
              try clear hfz58_7
              try clear hfz58_8
              try clear hfz58_9
              try clear hfz60_0
              try clear hfz60_1
              try clear hfz60_10
              try clear hfz60_11
              try clear hfz60_12
              try clear hfz60_13
              try clear hfz60_14
              try clear hfz60_2
              try clear hfz60_3
              try clear hfz60_4
              try clear hfz60_5
              try clear hfz60_6
              try clear hfz60_7
              try clear hfz60_8
              try clear hfz60_9
              try clear hfz61_0
              try clear hfz61_1
              try clear hfz61_10
              try clear hfz61_11
              try clear hfz61_12
              try clear hfz61_13
              try clear hfz61_14
              try clear hfz61_2
              try clear hfz61_3
              try clear hfz61_4
              try clear hfz61_5
              try clear hfz61_6
              try clear hfz61_7
              try clear hfz61_8
              try clear hfz61_9
              try clear hfz63_0
              try clear hfz63_1
              try clear hfz63_10
              try clear hfz63_11
              try clear hfz63_12
              try clear hfz63_13
              try clear hfz63_14
              try clear hfz63_2
              try clear hfz63_3
              try clear hfz63_4
              try clear hfz63_5
              try clear hfz63_6
              try clear hfz63_7
              try clear hfz63_8
              try clear hfz63_9
              try clear hfz64_0
              try clear hfz64_1
              try clear hfz64_10
              try clear hfz64_11
              try clear hfz64_12
              try clear hfz64_13
              try clear hfz64_14
              try clear hfz64_2
              try clear hfz64_3
              try clear hfz64_4
              try clear hfz64_5
              try clear hfz64_6
              try clear hfz64_7
              try clear hfz64_8
              try clear hfz64_9
              try clear hfz66_0
              try clear hfz66_1
              try clear hfz66_10
              try clear hfz66_11
              try clear hfz66_12
              try clear hfz66_13
              try clear hfz66_14
              try clear hfz66_2
              try clear hfz66_3
              try clear hfz66_4
              try clear hfz66_5
              try clear hfz66_6
              try clear hfz66_7
              try clear hfz66_8
              try clear hfz66_9
              try clear hx257_0
              try clear hx261_0
              try clear hx261_1
              try clear hx263_0
              try clear hx263_1
              try clear hx265_0
              try clear hx265_1
              try clear hx265_2
              try clear hx265_3
              try clear hx267_0
              try clear hx267_1
              try clear hx267_2
              try clear hx267_3
              try clear p2
              try clear p25
              try clear p257
              try clear p261
              try clear p263
              try clear p265
              try clear p267
              try clear p6
              try clear q2
              try clear q25
              try clear q257
              try clear q261
              try clear q263
              try clear q265
              try clear q267
              obtain ⟨x7_5,rfl,HA,HK5,BK253,HB⟩:=hrel
              cases gk with
              | zero=>exact absurd HA.out (by simp [insolvencyref33_Valid.l3])
              | succ k5=>
               have H:=HA.out
               clear HA
               simp only [insolvencyref33_Valid.l3] at H
               by_cases c67:x7_5<(l0_14.length:Int)
               ·rw [if_pos c67] at H
                have c67b0:decide (x7_5<(l0_14.length:Int))=true:=decide_eq_true c67
                clear c67
                by_cases c68:0≤x7_5
                ·rw [if_pos c68] at H
                 have c68b0:decide (0≤x7_5)=true:=decide_eq_true c68
                 clear c68
                 replace H:=Option.bind_eq_some_iff.mp H
                 obtain ⟨t274,A690,H⟩:=H
                 replace H:(if t274=true then ((insolvencyref33_small.f ((rd_T55 l0_14 x7_5).f0.f1.f0)).bind fun t275=>(if t275=true then ((insolvencyref33_small.f ((rd_T55 l0_14 x7_5).f0.f1.f1)).bind fun t276=>(if t276=true then ((insolvencyref33_small.f ((rd_T55 l0_14 x7_5).f1)).bind fun t277=>(if t277=true then (insolvencyref33_Valid.l3 k5 (wrap64 (x7_5+1)) a0_0 a0_1 a0_2 a0_3 a0_4 a0_5 a0_6 a0_7 a0_8 a0_9 a0_10 a0_11 l0_12 l0_13 l0_14) else (some false))) else (some false))) else (some false))) else (some false))=some r:=H
                 have A69:=Aside0.mk A690
                 clear A690
                 by_cases c70:t274=true
                 ·subst c70
                  have H1:((insolvencyref33_small.f ((rd_T55 l0_14 x7_5).f0.f1.f0)).bind fun t275=>(if t275=true then ((insolvencyref33_small.f ((rd_T55 l0_14 x7_5).f0.f1.f1)).bind fun t276=>(if t276=true then ((insolvencyref33_small.f ((rd_T55 l0_14 x7_5).f1)).bind fun t277=>(if t277=true then (insolvencyref33_Valid.l3 k5 (wrap64 (x7_5+1)) a0_0 a0_1 a0_2 a0_3 a0_4 a0_5 a0_6 a0_7 a0_8 a0_9 a0_10 a0_11 l0_12 l0_13 l0_14) else (some false))) else (some false))) else (some false)))=some r:=by rw [if_pos rfl] at H;exact H
                  clear H
                  have H:=H1
                  clear H1
                  replace H:=Option.bind_eq_some_iff.mp H
                  obtain ⟨t275,A710,H⟩:=H
                  replace H:(if t275=true then ((insolvencyref33_small.f ((rd_T55 l0_14 x7_5).f0.f1.f1)).bind fun t276=>(if t276=true then ((insolvencyref33_small.f ((rd_T55 l0_14 x7_5).f1)).bind fun t277=>(if t277=true then (insolvencyref33_Valid.l3 k5 (wrap64 (x7_5+1)) a0_0 a0_1 a0_2 a0_3 a0_4 a0_5 a0_6 a0_7 a0_8 a0_9 a0_10 a0_11 l0_12 l0_13 l0_14) else (some false))) else (some false))) else (some false))=some r:=H
                  have A71:=Aside0.mk A710
                  clear A710
                  by_cases c72:t275=true
                  ·subst c72
                   have H1:((insolvencyref33_small.f ((rd_T55 l0_14 x7_5).f0.f1.f1)).bind fun t276=>(if t276=true then ((insolvencyref33_small.f ((rd_T55 l0_14 x7_5).f1)).bind fun t277=>(if t277=true then (insolvencyref33_Valid.l3 k5 (wrap64 (x7_5+1)) a0_0 a0_1 a0_2 a0_3 a0_4 a0_5 a0_6 a0_7 a0_8 a0_9 a0_10 a0_11 l0_12 l0_13 l0_14) else (some false))) else (some false)))=some r:=by rw [if_pos rfl] at H;exact H
                   clear H
                   have H:=H1
                   clear H1
                   replace H:=Option.bind_eq_some_iff.mp H
                   obtain ⟨t276,A730,H⟩:=H
                   replace H:(if t276=true then ((insolvencyref33_small.f ((rd_T55 l0_14 x7_5).f1)).bind fun t277=>(if t277=true then (insolvencyref33_Valid.l3 k5 (wrap64 (x7_5+1)) a0_0 a0_1 a0_2 a0_3 a0_4 a0_5 a0_6 a0_7 a0_8 a0_9 a0_10 a0_11 l0_12 l0_13 l0_14) else (some false))) else (some false))=some r:=H
                   have A73:=Aside0.mk A730
                   clear A730
                   by_cases c74:t276=true
                   ·subst c74
                    have H1:((insolvencyref33_small.f ((rd_T55 l0_14 x7_5).f1)).bind fun t277=>(if t277=true then (insolvencyref33_Valid.l3 k5 (wrap64 (x7_5+1)) a0_0 a0_1 a0_2 a0_3 a0_4 a0_5 a0_6 a0_7 a0_8 a0_9 a0_10 a0_11 l0_12 l0_13 l0_14) else (some false)))=some r:=by rw [if_pos rfl] at H;exact H
                    clear H
                    have H:=H1
                    clear H1
                    replace H:=Option.bind_eq_some_iff.mp H
                    obtain ⟨t277,A750,H⟩:=H
                    replace H:(if t277=true then (insolvencyref33_Valid.l3 k5 (wrap64 (x7_5+1)) a0_0 a0_1 a0_2 a0_3 a0_4 a0_5 a0_6 a0_7 a0_8 a0_9 a0_10 a0_11 l0_12 l0_13 l0_14) else (some false))=some r:=H
                    have A75:=Aside0.mk A750
                    clear A750
                    by_cases c76:t277=true
                    ·subst c76
                     have H1:(insolvencyref33_Valid.l3 k5 (wrap64 (x7_5+1)) a0_0 a0_1 a0_2 a0_3 a0_4 a0_5 a0_6 a0_7 a0_8 a0_9 a0_10 a0_11 l0_12 l0_13 l0_14)=some r:=by rw [if_pos rfl] at H;exact H
                     clear H
                     have H:=H1
                     clear H1
                     have H':=Aside0.mk H
                     clear H
                     have hcz77_0:wr.cell? ⟨gb253,0,none⟩=some (.int .i64 a0_0):=(blk_cell BK253.out 0).trans rfl
                     have hcz77_1:wr.cell? ⟨gb253,1,none⟩=some (.int .i64 a0_1):=(blk_cell BK253.out 1).trans rfl
                     have hcz77_2:wr.cell? ⟨gb253,2,none⟩=some (.int .i64 a0_2):=(blk_cell BK253.out 2).trans rfl
                     have hcz77_3:wr.cell? ⟨gb253,3,none⟩=some (.int .i64 a0_3):=(blk_cell BK253.out 3).trans rfl
                     have hcz77_4:wr.cell? ⟨gb253,4,none⟩=some (.int .i64 a0_4):=(blk_cell BK253.out 4).trans rfl
                     have hcz77_5:wr.cell? ⟨gb253,5,none⟩=some (.int .i64 a0_5):=(blk_cell BK253.out 5).trans rfl
                     have hcz77_6:wr.cell? ⟨gb253,6,none⟩=some (.bool a0_6):=(blk_cell BK253.out 6).trans rfl
                     have hcz77_7:wr.cell? ⟨gb253,7,none⟩=some (.string a0_7):=(blk_cell BK253.out 7).trans rfl
                     have hcz77_8:wr.cell? ⟨gb253,8,none⟩=some (.string a0_8):=(blk_cell BK253.out 8).trans rfl
                     have hcz77_9:wr.cell? ⟨gb253,9,none⟩=some (.bool a0_9):=(blk_cell BK253.out 9).trans rfl
                     have hcz77_10:wr.cell? ⟨gb253,10,none⟩=some (.string a0_10):=(blk_cell BK253.out 10).trans rfl
                     have hcz77_11:wr.cell? ⟨gb253,11,none⟩=some (.string a0_11):=(blk_cell BK253.out 11).trans rfl
                     have hcz77_12:wr.cell? ⟨gb253,12,none⟩=some (.slice A0_12 l0_12.length c0_12):=(blk_cell BK253.out 12).trans rfl
                     have hcz77_13:wr.cell? ⟨gb253,13,none⟩=some (.slice A0_13 l0_13.length c0_13):=(blk_cell BK253.out 13).trans rfl
                     have hcz77_14:wr.cell? ⟨gb253,14,none⟩=some (.slice A0_14 l0_14.length c0_14):=(blk_cell BK253.out 14).trans rfl
                     have hfz77_0:=blk_frozen BK253.out 0
                     have hfz77_1:=blk_frozen BK253.out 1
                     have hfz77_2:=blk_frozen BK253.out 2
                     have hfz77_3:=blk_frozen BK253.out 3
                     have hfz77_4:=blk_frozen BK253.out 4
                     have hfz77_5:=blk_frozen BK253.out 5
                     have hfz77_6:=blk_frozen BK253.out 6
                     have hfz77_7:=blk_frozen BK253.out 7
                     have hfz77_8:=blk_frozen BK253.out 8
                     have hfz77_9:=blk_frozen BK253.out 9
                     have hfz77_10:=blk_frozen BK253.out 10
                     have hfz77_11:=blk_frozen BK253.out 11
                     have hfz77_12:=blk_frozen BK253.out 12
                     have hfz77_13:=blk_frozen BK253.out 13
                     have hfz77_14:=blk_frozen BK253.out 14
                     have p272:0≤(x7_5:Int):=of_decide_eq_true (by first|(with_reducible assumption)|assumption)
                     have q272:x7_5<(l0_14.length:Int):=of_decide_eq_true (by first|(with_reducible assumption)|assumption)
                     obtain ⟨ad272,e272,hx272_0,hx272_1,hx272_2,hx272_3⟩:=at_T55 HR0_14.out x7_5 p272 q272
                     cases e272
                     replace hx272_0:=(HB.out.cell (World.block_lt_of_cell? w _ hx272_0)).trans hx272_0
                     replace hx272_1:=(HB.out.cell (World.block_lt_of_cell? w _ hx272_1)).trans hx272_1
                     replace hx272_2:=(HB.out.cell (World.block_lt_of_cell? w _ hx272_2)).trans hx272_2
                     replace hx272_3:=(HB.out.cell (World.block_lt_of_cell? w _ hx272_3)).trans hx272_3
                     replace p272:=eq_true p272
                     replace q272:=eq_true q272
                     go_wp2_with (first|((with_reducible refine gate_dst (N:=8) rfl ?_);(try (refine gate_guard (by rfl) ?_;dsimp only));refine box_event ?hg (N:=8) ?hd (cs:=#[.int .i64 0,.int .i64 0,.int .i64 0,.int .i64 0]) (t:=55) ?hr ?_;(case hd=>rfl);(case hg=>rfl);(case hr=>first|(go_simp;done)|(go_simp;rfl));intro gb273 hg w78 hbox hb;have n0_:=Aside0.mk (blk_below (g:=gb253) (o:=.cells #[.int .i64 a0_0,.int .i64 a0_1,.int .i64 a0_2,.int .i64 a0_3,.int .i64 a0_4,.int .i64 a0_5,.bool a0_6,.string a0_7,.string a0_8,.bool a0_9,.string a0_10,.string a0_11,.slice A0_12 l0_12.length c0_12,.slice A0_13 l0_13.length c0_13,.slice (some ad272) l0_14.length c0_14] 37 (0,0)) (by (with_reducible repeat (first|refine blk_drewN ?_ _|refine blk_drew ?_|refine blk_alloc ?_ _));exact BK253.out) hb);have n1_:=Aside0.mk (below_step (by repeat (first|(with_reducible first|exact HB.out|apply below_alloc|apply pw_below_drewN|apply below_drew1|refine below_set ?_ GE253.out)|exact HB.out)) hb);have n2_:=Aside0.mk (hbox);have n3_:=Aside0.mk ((by rw [hg];exact (below_size (by repeat (first|(with_reducible first|exact HB.out|apply below_alloc|apply pw_below_drewN|apply below_drew1|refine below_set ?_ GE253.out)|exact HB.out))):w.heap.size≤gb273));have n4_:=Aside0.mk ((by rw [hg];exact (below_size (by repeat (first|(with_reducible first|exact HB.out|apply below_alloc|apply pw_below_drewN|apply below_drew1|refine below_set ?_ GE253.out)|exact HB.out))):w.heap.size≤gb273));have n5_:=Aside0.mk ((by rw [hg];exact Nat.ne_of_lt (blk_lt (g:=gb253) (o:=.cells #[.int .i64 a0_0,.int .i64 a0_1,.int .i64 a0_2,.int .i64 a0_3,.int .i64 a0_4,.int .i64 a0_5,.bool a0_6,.string a0_7,.string a0_8,.bool a0_9,.string a0_10,.string a0_11,.slice A0_12 l0_12.length c0_12,.slice A0_13 l0_13.length c0_13,.slice (some ad272) l0_14.length c0_14] 37 (0,0)) (by (with_reducible repeat (first|refine blk_drewN ?_ _|refine blk_drew ?_|refine blk_alloc ?_ _));exact BK253.out)):gb253≠gb273));have n6_:=Aside0.mk ((by rw [hg];exact Nat.ne_of_gt (blk_lt (g:=gb253) (o:=.cells #[.int .i64 a0_0,.int .i64 a0_1,.int .i64 a0_2,.int .i64 a0_3,.int .i64 a0_4,.int .i64 a0_5,.bool a0_6,.string a0_7,.string a0_8,.bool a0_9,.string a0_10,.string a0_11,.slice A0_12 l0_12.length c0_12,.slice A0_13 l0_13.length c0_13,.slice (some ad272) l0_14.length c0_14] 37 (0,0)) (by (with_reducible repeat (first|refine blk_drewN ?_ _|refine blk_drew ?_|refine blk_alloc ?_ _));exact BK253.out)):gb273≠gb253));clear BK253;clear HB;have BK253:=n0_;have HB:=n1_;have BK273:=n2_;have GW273:=n3_;have GE273:=n4_;have NB253_273:=n5_;have NB273_253:=n6_;clear n0_ n1_ n2_ n3_ n4_ n5_ n6_;clear hb hbox hg;have hnb79:=NB273_253.out;have hnc79:=NB253_273.out;have hcz80_0:w78.cell? ⟨gb273,0,none⟩=some (.int .i64 0):=(blk_cell BK273.out 0).trans rfl;have hcz80_1:w78.cell? ⟨gb273,1,none⟩=some (.int .i64 0):=(blk_cell BK273.out 1).trans rfl;have hcz80_2:w78.cell? ⟨gb273,2,none⟩=some (.int .i64 0):=(blk_cell BK273.out 2).trans rfl;have hcz80_3:w78.cell? ⟨gb273,3,none⟩=some (.int .i64 0):=(blk_cell BK273.out 3).trans rfl;have hfz80_0:=blk_frozen BK273.out 0;have hfz80_1:=blk_frozen BK273.out 1;have hfz80_2:=blk_frozen BK273.out 2;have hfz80_3:=blk_frozen BK273.out 3)|((with_reducible refine gate_callee (f:=35) rfl ?_);refine goesL_ (some 127) rfl rfl Tryd.func35 (by kernel_rfl) rfl #[.int .i64 ((rd_T55 l0_14 x7_5).f0.f0)] rfl (by (try simp only [List.map_toArray,List.map_cons,List.map_nil]);first|done|rfl|(simp only [List.length_drop,List.length_take];rfl)) ?_;(with_reducible refine (insolvencyref33_small.calls ((rd_T55 l0_14 x7_5).f0.f0) true _ A69.out).mono ?_);rintro e w' ⟨rfl,⟨nd,rfl⟩⟩;refine ⟨_,rfl,?_⟩)|(go_at_call 35;(with_reducible refine (insolvencyref33_small.calls ((rd_T55 l0_14 x7_5).f0.f1.f0) true _ A71.out).mono ?_);rintro e w' ⟨rfl,⟨nd,rfl⟩⟩)|(go_at_call 35;(with_reducible refine (insolvencyref33_small.calls ((rd_T55 l0_14 x7_5).f0.f1.f1) true _ A73.out).mono ?_);rintro e w' ⟨rfl,⟨nd,rfl⟩⟩)|(go_at_call 35;(with_reducible refine (insolvencyref33_small.calls ((rd_T55 l0_14 x7_5).f1) true _ A75.out).mono ?_);rintro e w' ⟨rfl,⟨nd,rfl⟩⟩))
                     go_roundg k5
                     case measure=>have:=HK1.out;have:=HJ11.out;have:=HK3.out;have:=HK4.out;have:=HK5.out;omega
                     case rel=>exact ⟨(wrap64 (x7_5+1)),(by first|rfl|(simp;done)|(simp [*];done)),H',⟨by have:=HK1.out;have:=HJ11.out;have:=HK3.out;have:=HK4.out;have:=HK5.out;omega⟩,⟨by (with_reducible repeat (first|refine blk_drewN ?_ _|refine blk_drew ?_|refine blk_alloc ?_ _));refine blk_far ?_ NB253_273.out _;(with_reducible repeat (first|refine blk_drewN ?_ _|refine blk_drew ?_|refine blk_alloc ?_ _));refine blk_far ?_ NB253_273.out _;(with_reducible repeat (first|refine blk_drewN ?_ _|refine blk_drew ?_|refine blk_alloc ?_ _));refine blk_far ?_ NB253_273.out _;(with_reducible repeat (first|refine blk_drewN ?_ _|refine blk_drew ?_|refine blk_alloc ?_ _));refine blk_far ?_ NB253_273.out _;(with_reducible repeat (first|refine blk_drewN ?_ _|refine blk_drew ?_|refine blk_alloc ?_ _));exact BK253.out⟩,⟨by repeat (first|(with_reducible first|exact HB.out|apply below_alloc|apply pw_below_drewN|apply below_drew1|refine below_set ?_ GE253.out|refine below_set ?_ GE273.out)|exact HB.out)⟩⟩
                    ·replace c76:=Bool.eq_false_iff.mpr c76
                     subst c76
                     have H1:(some false)=some r:=by rw [if_neg (show ¬ (false=true) by decide)] at H;exact H
                     clear H
                     have H:=H1
                     clear H1
                     obtain rfl:=Option.some.inj H
                     have hcz81_0:wr.cell? ⟨gb253,0,none⟩=some (.int .i64 a0_0):=(blk_cell BK253.out 0).trans rfl
                     have hcz81_1:wr.cell? ⟨gb253,1,none⟩=some (.int .i64 a0_1):=(blk_cell BK253.out 1).trans rfl
                     have hcz81_2:wr.cell? ⟨gb253,2,none⟩=some (.int .i64 a0_2):=(blk_cell BK253.out 2).trans rfl
                     have hcz81_3:wr.cell? ⟨gb253,3,none⟩=some (.int .i64 a0_3):=(blk_cell BK253.out 3).trans rfl
                     have hcz81_4:wr.cell? ⟨gb253,4,none⟩=some (.int .i64 a0_4):=(blk_cell BK253.out 4).trans rfl
                     have hcz81_5:wr.cell? ⟨gb253,5,none⟩=some (.int .i64 a0_5):=(blk_cell BK253.out 5).trans rfl
                     have hcz81_6:wr.cell? ⟨gb253,6,none⟩=some (.bool a0_6):=(blk_cell BK253.out 6).trans rfl
                     have hcz81_7:wr.cell? ⟨gb253,7,none⟩=some (.string a0_7):=(blk_cell BK253.out 7).trans rfl
                     have hcz81_8:wr.cell? ⟨gb253,8,none⟩=some (.string a0_8):=(blk_cell BK253.out 8).trans rfl
                     have hcz81_9:wr.cell? ⟨gb253,9,none⟩=some (.bool a0_9):=(blk_cell BK253.out 9).trans rfl
                     have hcz81_10:wr.cell? ⟨gb253,10,none⟩=some (.string a0_10):=(blk_cell BK253.out 10).trans rfl
                     have hcz81_11:wr.cell? ⟨gb253,11,none⟩=some (.string a0_11):=(blk_cell BK253.out 11).trans rfl
                     have hcz81_12:wr.cell? ⟨gb253,12,none⟩=some (.slice A0_12 l0_12.length c0_12):=(blk_cell BK253.out 12).trans rfl
                     have hcz81_13:wr.cell? ⟨gb253,13,none⟩=some (.slice A0_13 l0_13.length c0_13):=(blk_cell BK253.out 13).trans rfl
                     have hcz81_14:wr.cell? ⟨gb253,14,none⟩=some (.slice A0_14 l0_14.length c0_14):=(blk_cell BK253.out 14).trans rfl
                     have hfz81_0:=blk_frozen BK253.out 0
                     have hfz81_1:=blk_frozen BK253.out 1
                     have hfz81_2:=blk_frozen BK253.out 2
                     have hfz81_3:=blk_frozen BK253.out 3
                     have hfz81_4:=blk_frozen BK253.out 4
                     have hfz81_5:=blk_frozen BK253.out 5
                     have hfz81_6:=blk_frozen BK253.out 6
                     have hfz81_7:=blk_frozen BK253.out 7
                     have hfz81_8:=blk_frozen BK253.out 8
                     have hfz81_9:=blk_frozen BK253.out 9
                     have hfz81_10:=blk_frozen BK253.out 10
                     have hfz81_11:=blk_frozen BK253.out 11
                     have hfz81_12:=blk_frozen BK253.out 12
                     have hfz81_13:=blk_frozen BK253.out 13
                     have hfz81_14:=blk_frozen BK253.out 14
                     have p272:0≤(x7_5:Int):=of_decide_eq_true (by first|(with_reducible assumption)|assumption)
                     have q272:x7_5<(l0_14.length:Int):=of_decide_eq_true (by first|(with_reducible assumption)|assumption)
                     obtain ⟨ad272,e272,hx272_0,hx272_1,hx272_2,hx272_3⟩:=at_T55 HR0_14.out x7_5 p272 q272
                     cases e272
                     replace hx272_0:=(HB.out.cell (World.block_lt_of_cell? w _ hx272_0)).trans hx272_0
                     replace hx272_1:=(HB.out.cell (World.block_lt_of_cell? w _ hx272_1)).trans hx272_1
                     replace hx272_2:=(HB.out.cell (World.block_lt_of_cell? w _ hx272_2)).trans hx272_2
                     replace hx272_3:=(HB.out.cell (World.block_lt_of_cell? w _ hx272_3)).trans hx272_3
                     replace p272:=eq_true p272
                     replace q272:=eq_true q272
                     go_wp2_with (first|((with_reducible refine gate_dst (N:=8) rfl ?_);(try (refine gate_guard (by rfl) ?_;dsimp only));refine box_event ?hg (N:=8) ?hd (cs:=#[.int .i64 0,.int .i64 0,.int .i64 0,.int .i64 0]) (t:=55) ?hr ?_;(case hd=>rfl);(case hg=>rfl);(case hr=>first|(go_simp;done)|(go_simp;rfl));intro gb273 hg w82 hbox hb;have n0_:=Aside0.mk (blk_below (g:=gb253) (o:=.cells #[.int .i64 a0_0,.int .i64 a0_1,.int .i64 a0_2,.int .i64 a0_3,.int .i64 a0_4,.int .i64 a0_5,.bool a0_6,.string a0_7,.string a0_8,.bool a0_9,.string a0_10,.string a0_11,.slice A0_12 l0_12.length c0_12,.slice A0_13 l0_13.length c0_13,.slice (some ad272) l0_14.length c0_14] 37 (0,0)) (by (with_reducible repeat (first|refine blk_drewN ?_ _|refine blk_drew ?_|refine blk_alloc ?_ _));exact BK253.out) hb);have n1_:=Aside0.mk (below_step (by repeat (first|(with_reducible first|exact HB.out|apply below_alloc|apply pw_below_drewN|apply below_drew1|refine below_set ?_ GE253.out)|exact HB.out)) hb);have n2_:=Aside0.mk (hbox);have n3_:=Aside0.mk ((by rw [hg];exact (below_size (by repeat (first|(with_reducible first|exact HB.out|apply below_alloc|apply pw_below_drewN|apply below_drew1|refine below_set ?_ GE253.out)|exact HB.out))):w.heap.size≤gb273));have n4_:=Aside0.mk ((by rw [hg];exact (below_size (by repeat (first|(with_reducible first|exact HB.out|apply below_alloc|apply pw_below_drewN|apply below_drew1|refine below_set ?_ GE253.out)|exact HB.out))):w.heap.size≤gb273));have n5_:=Aside0.mk ((by rw [hg];exact Nat.ne_of_lt (blk_lt (g:=gb253) (o:=.cells #[.int .i64 a0_0,.int .i64 a0_1,.int .i64 a0_2,.int .i64 a0_3,.int .i64 a0_4,.int .i64 a0_5,.bool a0_6,.string a0_7,.string a0_8,.bool a0_9,.string a0_10,.string a0_11,.slice A0_12 l0_12.length c0_12,.slice A0_13 l0_13.length c0_13,.slice (some ad272) l0_14.length c0_14] 37 (0,0)) (by (with_reducible repeat (first|refine blk_drewN ?_ _|refine blk_drew ?_|refine blk_alloc ?_ _));exact BK253.out)):gb253≠gb273));have n6_:=Aside0.mk ((by rw [hg];exact Nat.ne_of_gt (blk_lt (g:=gb253) (o:=.cells #[.int .i64 a0_0,.int .i64 a0_1,.int .i64 a0_2,.int .i64 a0_3,.int .i64 a0_4,.int .i64 a0_5,.bool a0_6,.string a0_7,.string a0_8,.bool a0_9,.string a0_10,.string a0_11,.slice A0_12 l0_12.length c0_12,.slice A0_13 l0_13.length c0_13,.slice (some ad272) l0_14.length c0_14] 37 (0,0)) (by (with_reducible repeat (first|refine blk_drewN ?_ _|refine blk_drew ?_|refine blk_alloc ?_ _));exact BK253.out)):gb273≠gb253));clear BK253;clear HB;have BK253:=n0_;have HB:=n1_;have BK273:=n2_;have GW273:=n3_;have GE273:=n4_;have NB253_273:=n5_;have NB273_253:=n6_;clear n0_ n1_ n2_ n3_ n4_ n5_ n6_;clear hb hbox hg;have hnb83:=NB273_253.out;have hnc83:=NB253_273.out;have hcz84_0:w82.cell? ⟨gb273,0,none⟩=some (.int .i64 0):=(blk_cell BK273.out 0).trans rfl;have hcz84_1:w82.cell? ⟨gb273,1,none⟩=some (.int .i64 0):=(blk_cell BK273.out 1).trans rfl;have hcz84_2:w82.cell? ⟨gb273,2,none⟩=some (.int .i64 0):=(blk_cell BK273.out 2).trans rfl;have hcz84_3:w82.cell? ⟨gb273,3,none⟩=some (.int .i64 0):=(blk_cell BK273.out 3).trans rfl;have hfz84_0:=blk_frozen BK273.out 0;have hfz84_1:=blk_frozen BK273.out 1;have hfz84_2:=blk_frozen BK273.out 2;have hfz84_3:=blk_frozen BK273.out 3)|((with_reducible refine gate_callee (f:=35) rfl ?_);refine goesL_ (some 127) rfl rfl Tryd.func35 (by kernel_rfl) rfl #[.int .i64 ((rd_T55 l0_14 x7_5).f0.f0)] rfl (by (try simp only [List.map_toArray,List.map_cons,List.map_nil]);first|done|rfl|(simp only [List.length_drop,List.length_take];rfl)) ?_;(with_reducible refine (insolvencyref33_small.calls ((rd_T55 l0_14 x7_5).f0.f0) true _ A69.out).mono ?_);rintro e w' ⟨rfl,⟨nd,rfl⟩⟩;refine ⟨_,rfl,?_⟩)|(go_at_call 35;(with_reducible refine (insolvencyref33_small.calls ((rd_T55 l0_14 x7_5).f0.f1.f0) true _ A71.out).mono ?_);rintro e w' ⟨rfl,⟨nd,rfl⟩⟩)|(go_at_call 35;(with_reducible refine (insolvencyref33_small.calls ((rd_T55 l0_14 x7_5).f0.f1.f1) true _ A73.out).mono ?_);rintro e w' ⟨rfl,⟨nd,rfl⟩⟩)|(go_at_call 35;(with_reducible refine (insolvencyref33_small.calls ((rd_T55 l0_14 x7_5).f1) false _ A75.out).mono ?_);rintro e w' ⟨rfl,⟨nd,rfl⟩⟩))
                     go_ret
                     exact ⟨by first|rfl|(simp [errW_none,errW_some] <;> rfl)|(simp [*,errW_none,errW_some] <;> rfl),by repeat (first|(with_reducible first|exact HB.out|apply below_alloc|apply pw_below_drewN|apply below_drew1|refine below_set ?_ GE253.out|refine below_set ?_ GE273.out)|exact HB.out)⟩
                   ·replace c74:=Bool.eq_false_iff.mpr c74
                    subst c74
                    have H1:(some false)=some r:=by rw [if_neg (show ¬ (false=true) by decide)] at H;exact H
                    clear H
                    have H:=H1
                    clear H1
                    obtain rfl:=Option.some.inj H
                    have hcz85_0:wr.cell? ⟨gb253,0,none⟩=some (.int .i64 a0_0):=(blk_cell BK253.out 0).trans rfl
                    have hcz85_1:wr.cell? ⟨gb253,1,none⟩=some (.int .i64 a0_1):=(blk_cell BK253.out 1).trans rfl
                    have hcz85_2:wr.cell? ⟨gb253,2,none⟩=some (.int .i64 a0_2):=(blk_cell BK253.out 2).trans rfl
                    have hcz85_3:wr.cell? ⟨gb253,3,none⟩=some (.int .i64 a0_3):=(blk_cell BK253.out 3).trans rfl
                    have hcz85_4:wr.cell? ⟨gb253,4,none⟩=some (.int .i64 a0_4):=(blk_cell BK253.out 4).trans rfl
                    have hcz85_5:wr.cell? ⟨gb253,5,none⟩=some (.int .i64 a0_5):=(blk_cell BK253.out 5).trans rfl
                    have hcz85_6:wr.cell? ⟨gb253,6,none⟩=some (.bool a0_6):=(blk_cell BK253.out 6).trans rfl
                    have hcz85_7:wr.cell? ⟨gb253,7,none⟩=some (.string a0_7):=(blk_cell BK253.out 7).trans rfl
                    have hcz85_8:wr.cell? ⟨gb253,8,none⟩=some (.string a0_8):=(blk_cell BK253.out 8).trans rfl
                    have hcz85_9:wr.cell? ⟨gb253,9,none⟩=some (.bool a0_9):=(blk_cell BK253.out 9).trans rfl
                    have hcz85_10:wr.cell? ⟨gb253,10,none⟩=some (.string a0_10):=(blk_cell BK253.out 10).trans rfl
                    have hcz85_11:wr.cell? ⟨gb253,11,none⟩=some (.string a0_11):=(blk_cell BK253.out 11).trans rfl
                    have hcz85_12:wr.cell? ⟨gb253,12,none⟩=some (.slice A0_12 l0_12.length c0_12):=(blk_cell BK253.out 12).trans rfl
                    have hcz85_13:wr.cell? ⟨gb253,13,none⟩=some (.slice A0_13 l0_13.length c0_13):=(blk_cell BK253.out 13).trans rfl
                    have hcz85_14:wr.cell? ⟨gb253,14,none⟩=some (.slice A0_14 l0_14.length c0_14):=(blk_cell BK253.out 14).trans rfl
                    have hfz85_0:=blk_frozen BK253.out 0
                    have hfz85_1:=blk_frozen BK253.out 1
                    have hfz85_2:=blk_frozen BK253.out 2
                    have hfz85_3:=blk_frozen BK253.out 3
                    have hfz85_4:=blk_frozen BK253.out 4
                    have hfz85_5:=blk_frozen BK253.out 5
                    have hfz85_6:=blk_frozen BK253.out 6
                    have hfz85_7:=blk_frozen BK253.out 7
                    have hfz85_8:=blk_frozen BK253.out 8
                    have hfz85_9:=blk_frozen BK253.out 9
                    have hfz85_10:=blk_frozen BK253.out 10
                    have hfz85_11:=blk_frozen BK253.out 11
                    have hfz85_12:=blk_frozen BK253.out 12
                    have hfz85_13:=blk_frozen BK253.out 13
                    have hfz85_14:=blk_frozen BK253.out 14
                    have p272:0≤(x7_5:Int):=of_decide_eq_true (by first|(with_reducible assumption)|assumption)
                    have q272:x7_5<(l0_14.length:Int):=of_decide_eq_true (by first|(with_reducible assumption)|assumption)
                    obtain ⟨ad272,e272,hx272_0,hx272_1,hx272_2,hx272_3⟩:=at_T55 HR0_14.out x7_5 p272 q272
                    cases e272
                    replace hx272_0:=(HB.out.cell (World.block_lt_of_cell? w _ hx272_0)).trans hx272_0
                    replace hx272_1:=(HB.out.cell (World.block_lt_of_cell? w _ hx272_1)).trans hx272_1
                    replace hx272_2:=(HB.out.cell (World.block_lt_of_cell? w _ hx272_2)).trans hx272_2
                    replace hx272_3:=(HB.out.cell (World.block_lt_of_cell? w _ hx272_3)).trans hx272_3
                    replace p272:=eq_true p272
                    replace q272:=eq_true q272
                    go_wp2_with (first|((with_reducible refine gate_dst (N:=8) rfl ?_);(try (refine gate_guard (by rfl) ?_;dsimp only));refine box_event ?hg (N:=8) ?hd (cs:=#[.int .i64 0,.int .i64 0,.int .i64 0,.int .i64 0]) (t:=55) ?hr ?_;(case hd=>rfl);(case hg=>rfl);(case hr=>first|(go_simp;done)|(go_simp;rfl));intro gb273 hg w86 hbox hb;have n0_:=Aside0.mk (blk_below (g:=gb253) (o:=.cells #[.int .i64 a0_0,.int .i64 a0_1,.int .i64 a0_2,.int .i64 a0_3,.int .i64 a0_4,.int .i64 a0_5,.bool a0_6,.string a0_7,.string a0_8,.bool a0_9,.string a0_10,.string a0_11,.slice A0_12 l0_12.length c0_12,.slice A0_13 l0_13.length c0_13,.slice (some ad272) l0_14.length c0_14] 37 (0,0)) (by (with_reducible repeat (first|refine blk_drewN ?_ _|refine blk_drew ?_|refine blk_alloc ?_ _));exact BK253.out) hb);have n1_:=Aside0.mk (below_step (by repeat (first|(with_reducible first|exact HB.out|apply below_alloc|apply pw_below_drewN|apply below_drew1|refine below_set ?_ GE253.out)|exact HB.out)) hb);have n2_:=Aside0.mk (hbox);have n3_:=Aside0.mk ((by rw [hg];exact (below_size (by repeat (first|(with_reducible first|exact HB.out|apply below_alloc|apply pw_below_drewN|apply below_drew1|refine below_set ?_ GE253.out)|exact HB.out))):w.heap.size≤gb273));have n4_:=Aside0.mk ((by rw [hg];exact (below_size (by repeat (first|(with_reducible first|exact HB.out|apply below_alloc|apply pw_below_drewN|apply below_drew1|refine below_set ?_ GE253.out)|exact HB.out))):w.heap.size≤gb273));have n5_:=Aside0.mk ((by rw [hg];exact Nat.ne_of_lt (blk_lt (g:=gb253) (o:=.cells #[.int .i64 a0_0,.int .i64 a0_1,.int .i64 a0_2,.int .i64 a0_3,.int .i64 a0_4,.int .i64 a0_5,.bool a0_6,.string a0_7,.string a0_8,.bool a0_9,.string a0_10,.string a0_11,.slice A0_12 l0_12.length c0_12,.slice A0_13 l0_13.length c0_13,.slice (some ad272) l0_14.length c0_14] 37 (0,0)) (by (with_reducible repeat (first|refine blk_drewN ?_ _|refine blk_drew ?_|refine blk_alloc ?_ _));exact BK253.out)):gb253≠gb273));have n6_:=Aside0.mk ((by rw [hg];exact Nat.ne_of_gt (blk_lt (g:=gb253) (o:=.cells #[.int .i64 a0_0,.int .i64 a0_1,.int .i64 a0_2,.int .i64 a0_3,.int .i64 a0_4,.int .i64 a0_5,.bool a0_6,.string a0_7,.string a0_8,.bool a0_9,.string a0_10,.string a0_11,.slice A0_12 l0_12.length c0_12,.slice A0_13 l0_13.length c0_13,.slice (some ad272) l0_14.length c0_14] 37 (0,0)) (by (with_reducible repeat (first|refine blk_drewN ?_ _|refine blk_drew ?_|refine blk_alloc ?_ _));exact BK253.out)):gb273≠gb253));clear BK253;clear HB;have BK253:=n0_;have HB:=n1_;have BK273:=n2_;have GW273:=n3_;have GE273:=n4_;have NB253_273:=n5_;have NB273_253:=n6_;clear n0_ n1_ n2_ n3_ n4_ n5_ n6_;clear hb hbox hg;have hnb87:=NB273_253.out;have hnc87:=NB253_273.out;have hcz88_0:w86.cell? ⟨gb273,0,none⟩=some (.int .i64 0):=(blk_cell BK273.out 0).trans rfl;have hcz88_1:w86.cell? ⟨gb273,1,none⟩=some (.int .i64 0):=(blk_cell BK273.out 1).trans rfl;have hcz88_2:w86.cell? ⟨gb273,2,none⟩=some (.int .i64 0):=(blk_cell BK273.out 2).trans rfl;have hcz88_3:w86.cell? ⟨gb273,3,none⟩=some (.int .i64 0):=(blk_cell BK273.out 3).trans rfl;have hfz88_0:=blk_frozen BK273.out 0;have hfz88_1:=blk_frozen BK273.out 1;have hfz88_2:=blk_frozen BK273.out 2;have hfz88_3:=blk_frozen BK273.out 3)|((with_reducible refine gate_callee (f:=35) rfl ?_);refine goesL_ (some 127) rfl rfl Tryd.func35 (by kernel_rfl) rfl #[.int .i64 ((rd_T55 l0_14 x7_5).f0.f0)] rfl (by (try simp only [List.map_toArray,List.map_cons,List.map_nil]);first|done|rfl|(simp only [List.length_drop,List.length_take];rfl)) ?_;(with_reducible refine (insolvencyref33_small.calls ((rd_T55 l0_14 x7_5).f0.f0) true _ A69.out).mono ?_);rintro e w' ⟨rfl,⟨nd,rfl⟩⟩;refine ⟨_,rfl,?_⟩)|(go_at_call 35;(with_reducible refine (insolvencyref33_small.calls ((rd_T55 l0_14 x7_5).f0.f1.f0) true _ A71.out).mono ?_);rintro e w' ⟨rfl,⟨nd,rfl⟩⟩)|(go_at_call 35;(with_reducible refine (insolvencyref33_small.calls ((rd_T55 l0_14 x7_5).f0.f1.f1) false _ A73.out).mono ?_);rintro e w' ⟨rfl,⟨nd,rfl⟩⟩))
                    go_ret
                    exact ⟨by first|rfl|(simp [errW_none,errW_some] <;> rfl)|(simp [*,errW_none,errW_some] <;> rfl),by repeat (first|(with_reducible first|exact HB.out|apply below_alloc|apply pw_below_drewN|apply below_drew1|refine below_set ?_ GE253.out|refine below_set ?_ GE273.out)|exact HB.out)⟩
                  ·replace c72:=Bool.eq_false_iff.mpr c72
                   subst c72
                   have H1:(some false)=some r:=by rw [if_neg (show ¬ (false=true) by decide)] at H;exact H
                   clear H
                   have H:=H1
                   clear H1
                   obtain rfl:=Option.some.inj H
                   have hcz89_0:wr.cell? ⟨gb253,0,none⟩=some (.int .i64 a0_0):=(blk_cell BK253.out 0).trans rfl
                   have hcz89_1:wr.cell? ⟨gb253,1,none⟩=some (.int .i64 a0_1):=(blk_cell BK253.out 1).trans rfl
                   have hcz89_2:wr.cell? ⟨gb253,2,none⟩=some (.int .i64 a0_2):=(blk_cell BK253.out 2).trans rfl
                   have hcz89_3:wr.cell? ⟨gb253,3,none⟩=some (.int .i64 a0_3):=(blk_cell BK253.out 3).trans rfl
                   have hcz89_4:wr.cell? ⟨gb253,4,none⟩=some (.int .i64 a0_4):=(blk_cell BK253.out 4).trans rfl
                   have hcz89_5:wr.cell? ⟨gb253,5,none⟩=some (.int .i64 a0_5):=(blk_cell BK253.out 5).trans rfl
                   have hcz89_6:wr.cell? ⟨gb253,6,none⟩=some (.bool a0_6):=(blk_cell BK253.out 6).trans rfl
                   have hcz89_7:wr.cell? ⟨gb253,7,none⟩=some (.string a0_7):=(blk_cell BK253.out 7).trans rfl
                   have hcz89_8:wr.cell? ⟨gb253,8,none⟩=some (.string a0_8):=(blk_cell BK253.out 8).trans rfl
                   have hcz89_9:wr.cell? ⟨gb253,9,none⟩=some (.bool a0_9):=(blk_cell BK253.out 9).trans rfl
                   have hcz89_10:wr.cell? ⟨gb253,10,none⟩=some (.string a0_10):=(blk_cell BK253.out 10).trans rfl
                   have hcz89_11:wr.cell? ⟨gb253,11,none⟩=some (.string a0_11):=(blk_cell BK253.out 11).trans rfl
                   have hcz89_12:wr.cell? ⟨gb253,12,none⟩=some (.slice A0_12 l0_12.length c0_12):=(blk_cell BK253.out 12).trans rfl
                   have hcz89_13:wr.cell? ⟨gb253,13,none⟩=some (.slice A0_13 l0_13.length c0_13):=(blk_cell BK253.out 13).trans rfl
                   have hcz89_14:wr.cell? ⟨gb253,14,none⟩=some (.slice A0_14 l0_14.length c0_14):=(blk_cell BK253.out 14).trans rfl
                   have hfz89_0:=blk_frozen BK253.out 0
                   have hfz89_1:=blk_frozen BK253.out 1
                   have hfz89_2:=blk_frozen BK253.out 2
                   have hfz89_3:=blk_frozen BK253.out 3
                   have hfz89_4:=blk_frozen BK253.out 4
                   have hfz89_5:=blk_frozen BK253.out 5
                   have hfz89_6:=blk_frozen BK253.out 6
                   have hfz89_7:=blk_frozen BK253.out 7
                   have hfz89_8:=blk_frozen BK253.out 8
                   have hfz89_9:=blk_frozen BK253.out 9
                   have hfz89_10:=blk_frozen BK253.out 10
                   have hfz89_11:=blk_frozen BK253.out 11
                   have hfz89_12:=blk_frozen BK253.out 12
                   have hfz89_13:=blk_frozen BK253.out 13
                   have hfz89_14:=blk_frozen BK253.out 14
                   have p272:0≤(x7_5:Int):=of_decide_eq_true (by first|(with_reducible assumption)|assumption)
                   have q272:x7_5<(l0_14.length:Int):=of_decide_eq_true (by first|(with_reducible assumption)|assumption)
                   obtain ⟨ad272,e272,hx272_0,hx272_1,hx272_2,hx272_3⟩:=at_T55 HR0_14.out x7_5 p272 q272
                   cases e272
                   replace hx272_0:=(HB.out.cell (World.block_lt_of_cell? w _ hx272_0)).trans hx272_0
                   replace hx272_1:=(HB.out.cell (World.block_lt_of_cell? w _ hx272_1)).trans hx272_1
                   replace hx272_2:=(HB.out.cell (World.block_lt_of_cell? w _ hx272_2)).trans hx272_2
                   replace hx272_3:=(HB.out.cell (World.block_lt_of_cell? w _ hx272_3)).trans hx272_3
                   replace p272:=eq_true p272
                   replace q272:=eq_true q272
                   go_wp2_with (first|((with_reducible refine gate_dst (N:=8) rfl ?_);(try (refine gate_guard (by rfl) ?_;dsimp only));refine box_event ?hg (N:=8) ?hd (cs:=#[.int .i64 0,.int .i64 0,.int .i64 0,.int .i64 0]) (t:=55) ?hr ?_;(case hd=>rfl);(case hg=>rfl);(case hr=>first|(go_simp;done)|(go_simp;rfl));intro gb273 hg w90 hbox hb;have n0_:=Aside0.mk (blk_below (g:=gb253) (o:=.cells #[.int .i64 a0_0,.int .i64 a0_1,.int .i64 a0_2,.int .i64 a0_3,.int .i64 a0_4,.int .i64 a0_5,.bool a0_6,.string a0_7,.string a0_8,.bool a0_9,.string a0_10,.string a0_11,.slice A0_12 l0_12.length c0_12,.slice A0_13 l0_13.length c0_13,.slice (some ad272) l0_14.length c0_14] 37 (0,0)) (by (with_reducible repeat (first|refine blk_drewN ?_ _|refine blk_drew ?_|refine blk_alloc ?_ _));exact BK253.out) hb);have n1_:=Aside0.mk (below_step (by repeat (first|(with_reducible first|exact HB.out|apply below_alloc|apply pw_below_drewN|apply below_drew1|refine below_set ?_ GE253.out)|exact HB.out)) hb);have n2_:=Aside0.mk (hbox);have n3_:=Aside0.mk ((by rw [hg];exact (below_size (by repeat (first|(with_reducible first|exact HB.out|apply below_alloc|apply pw_below_drewN|apply below_drew1|refine below_set ?_ GE253.out)|exact HB.out))):w.heap.size≤gb273));have n4_:=Aside0.mk ((by rw [hg];exact (below_size (by repeat (first|(with_reducible first|exact HB.out|apply below_alloc|apply pw_below_drewN|apply below_drew1|refine below_set ?_ GE253.out)|exact HB.out))):w.heap.size≤gb273));have n5_:=Aside0.mk ((by rw [hg];exact Nat.ne_of_lt (blk_lt (g:=gb253) (o:=.cells #[.int .i64 a0_0,.int .i64 a0_1,.int .i64 a0_2,.int .i64 a0_3,.int .i64 a0_4,.int .i64 a0_5,.bool a0_6,.string a0_7,.string a0_8,.bool a0_9,.string a0_10,.string a0_11,.slice A0_12 l0_12.length c0_12,.slice A0_13 l0_13.length c0_13,.slice (some ad272) l0_14.length c0_14] 37 (0,0)) (by (with_reducible repeat (first|refine blk_drewN ?_ _|refine blk_drew ?_|refine blk_alloc ?_ _));exact BK253.out)):gb253≠gb273));have n6_:=Aside0.mk ((by rw [hg];exact Nat.ne_of_gt (blk_lt (g:=gb253) (o:=.cells #[.int .i64 a0_0,.int .i64 a0_1,.int .i64 a0_2,.int .i64 a0_3,.int .i64 a0_4,.int .i64 a0_5,.bool a0_6,.string a0_7,.string a0_8,.bool a0_9,.string a0_10,.string a0_11,.slice A0_12 l0_12.length c0_12,.slice A0_13 l0_13.length c0_13,.slice (some ad272) l0_14.length c0_14] 37 (0,0)) (by (with_reducible repeat (first|refine blk_drewN ?_ _|refine blk_drew ?_|refine blk_alloc ?_ _));exact BK253.out)):gb273≠gb253));clear BK253;clear HB;have BK253:=n0_;have HB:=n1_;have BK273:=n2_;have GW273:=n3_;have GE273:=n4_;have NB253_273:=n5_;have NB273_253:=n6_;clear n0_ n1_ n2_ n3_ n4_ n5_ n6_;clear hb hbox hg;have hnb91:=NB273_253.out;have hnc91:=NB253_273.out;have hcz92_0:w90.cell? ⟨gb273,0,none⟩=some (.int .i64 0):=(blk_cell BK273.out 0).trans rfl;have hcz92_1:w90.cell? ⟨gb273,1,none⟩=some (.int .i64 0):=(blk_cell BK273.out 1).trans rfl;have hcz92_2:w90.cell? ⟨gb273,2,none⟩=some (.int .i64 0):=(blk_cell BK273.out 2).trans rfl;have hcz92_3:w90.cell? ⟨gb273,3,none⟩=some (.int .i64 0):=(blk_cell BK273.out 3).trans rfl;have hfz92_0:=blk_frozen BK273.out 0;have hfz92_1:=blk_frozen BK273.out 1;have hfz92_2:=blk_frozen BK273.out 2;have hfz92_3:=blk_frozen BK273.out 3)|((with_reducible refine gate_callee (f:=35) rfl ?_);refine goesL_ (some 127) rfl rfl Tryd.func35 (by kernel_rfl) rfl #[.int .i64 ((rd_T55 l0_14 x7_5).f0.f0)] rfl (by (try simp only [List.map_toArray,List.map_cons,List.map_nil]);first|done|rfl|(simp only [List.length_drop,List.length_take];rfl)) ?_;(with_reducible refine (insolvencyref33_small.calls ((rd_T55 l0_14 x7_5).f0.f0) true _ A69.out).mono ?_);rintro e w' ⟨rfl,⟨nd,rfl⟩⟩;refine ⟨_,rfl,?_⟩)|(go_at_call 35;(with_reducible refine (insolvencyref33_small.calls ((rd_T55 l0_14 x7_5).f0.f1.f0) false _ A71.out).mono ?_);rintro e w' ⟨rfl,⟨nd,rfl⟩⟩))
                   go_ret
                   exact ⟨by first|rfl|(simp [errW_none,errW_some] <;> rfl)|(simp [*,errW_none,errW_some] <;> rfl),by repeat (first|(with_reducible first|exact HB.out|apply below_alloc|apply pw_below_drewN|apply below_drew1|refine below_set ?_ GE253.out|refine below_set ?_ GE273.out)|exact HB.out)⟩
                 ·replace c70:=Bool.eq_false_iff.mpr c70
                  subst c70
                  have H1:(some false)=some r:=by rw [if_neg (show ¬ (false=true) by decide)] at H;exact H
                  clear H
                  have H:=H1
                  clear H1
                  obtain rfl:=Option.some.inj H
                  have hcz93_0:wr.cell? ⟨gb253,0,none⟩=some (.int .i64 a0_0):=(blk_cell BK253.out 0).trans rfl
                  have hcz93_1:wr.cell? ⟨gb253,1,none⟩=some (.int .i64 a0_1):=(blk_cell BK253.out 1).trans rfl
                  have hcz93_2:wr.cell? ⟨gb253,2,none⟩=some (.int .i64 a0_2):=(blk_cell BK253.out 2).trans rfl
                  have hcz93_3:wr.cell? ⟨gb253,3,none⟩=some (.int .i64 a0_3):=(blk_cell BK253.out 3).trans rfl
                  have hcz93_4:wr.cell? ⟨gb253,4,none⟩=some (.int .i64 a0_4):=(blk_cell BK253.out 4).trans rfl
                  have hcz93_5:wr.cell? ⟨gb253,5,none⟩=some (.int .i64 a0_5):=(blk_cell BK253.out 5).trans rfl
                  have hcz93_6:wr.cell? ⟨gb253,6,none⟩=some (.bool a0_6):=(blk_cell BK253.out 6).trans rfl
                  have hcz93_7:wr.cell? ⟨gb253,7,none⟩=some (.string a0_7):=(blk_cell BK253.out 7).trans rfl
                  have hcz93_8:wr.cell? ⟨gb253,8,none⟩=some (.string a0_8):=(blk_cell BK253.out 8).trans rfl
                  have hcz93_9:wr.cell? ⟨gb253,9,none⟩=some (.bool a0_9):=(blk_cell BK253.out 9).trans rfl
                  have hcz93_10:wr.cell? ⟨gb253,10,none⟩=some (.string a0_10):=(blk_cell BK253.out 10).trans rfl
                  have hcz93_11:wr.cell? ⟨gb253,11,none⟩=some (.string a0_11):=(blk_cell BK253.out 11).trans rfl
                  have hcz93_12:wr.cell? ⟨gb253,12,none⟩=some (.slice A0_12 l0_12.length c0_12):=(blk_cell BK253.out 12).trans rfl
                  have hcz93_13:wr.cell? ⟨gb253,13,none⟩=some (.slice A0_13 l0_13.length c0_13):=(blk_cell BK253.out 13).trans rfl
                  have hcz93_14:wr.cell? ⟨gb253,14,none⟩=some (.slice A0_14 l0_14.length c0_14):=(blk_cell BK253.out 14).trans rfl
                  have hfz93_0:=blk_frozen BK253.out 0
                  have hfz93_1:=blk_frozen BK253.out 1
                  have hfz93_2:=blk_frozen BK253.out 2
                  have hfz93_3:=blk_frozen BK253.out 3
                  have hfz93_4:=blk_frozen BK253.out 4
                  have hfz93_5:=blk_frozen BK253.out 5
                  have hfz93_6:=blk_frozen BK253.out 6
                  have hfz93_7:=blk_frozen BK253.out 7
                  have hfz93_8:=blk_frozen BK253.out 8
                  have hfz93_9:=blk_frozen BK253.out 9
                  have hfz93_10:=blk_frozen BK253.out 10
                  have hfz93_11:=blk_frozen BK253.out 11
                  have hfz93_12:=blk_frozen BK253.out 12
                  have hfz93_13:=blk_frozen BK253.out 13
                  have hfz93_14:=blk_frozen BK253.out 14
                  have p272:0≤(x7_5:Int):=of_decide_eq_true (by first|(with_reducible assumption)|assumption)
                  have q272:x7_5<(l0_14.length:Int):=of_decide_eq_true (by first|(with_reducible assumption)|assumption)
                  obtain ⟨ad272,e272,hx272_0,hx272_1,hx272_2,hx272_3⟩:=at_T55 HR0_14.out x7_5 p272 q272
                  cases e272
                  replace hx272_0:=(HB.out.cell (World.block_lt_of_cell? w _ hx272_0)).trans hx272_0
                  replace hx272_1:=(HB.out.cell (World.block_lt_of_cell? w _ hx272_1)).trans hx272_1
                  replace hx272_2:=(HB.out.cell (World.block_lt_of_cell? w _ hx272_2)).trans hx272_2
                  replace hx272_3:=(HB.out.cell (World.block_lt_of_cell? w _ hx272_3)).trans hx272_3
                  replace p272:=eq_true p272
                  replace q272:=eq_true q272
                  go_wp2_with (first|((with_reducible refine gate_dst (N:=8) rfl ?_);(try (refine gate_guard (by rfl) ?_;dsimp only));refine box_event ?hg (N:=8) ?hd (cs:=#[.int .i64 0,.int .i64 0,.int .i64 0,.int .i64 0]) (t:=55) ?hr ?_;(case hd=>rfl);(case hg=>rfl);(case hr=>first|(go_simp;done)|(go_simp;rfl));intro gb273 hg w94 hbox hb;have n0_:=Aside0.mk (blk_below (g:=gb253) (o:=.cells #[.int .i64 a0_0,.int .i64 a0_1,.int .i64 a0_2,.int .i64 a0_3,.int .i64 a0_4,.int .i64 a0_5,.bool a0_6,.string a0_7,.string a0_8,.bool a0_9,.string a0_10,.string a0_11,.slice A0_12 l0_12.length c0_12,.slice A0_13 l0_13.length c0_13,.slice (some ad272) l0_14.length c0_14] 37 (0,0)) (by (with_reducible repeat (first|refine blk_drewN ?_ _|refine blk_drew ?_|refine blk_alloc ?_ _));exact BK253.out) hb);have n1_:=Aside0.mk (below_step (by repeat (first|(with_reducible first|exact HB.out|apply below_alloc|apply pw_below_drewN|apply below_drew1|refine below_set ?_ GE253.out)|exact HB.out)) hb);have n2_:=Aside0.mk (hbox);have n3_:=Aside0.mk ((by rw [hg];exact (below_size (by repeat (first|(with_reducible first|exact HB.out|apply below_alloc|apply pw_below_drewN|apply below_drew1|refine below_set ?_ GE253.out)|exact HB.out))):w.heap.size≤gb273));have n4_:=Aside0.mk ((by rw [hg];exact (below_size (by repeat (first|(with_reducible first|exact HB.out|apply below_alloc|apply pw_below_drewN|apply below_drew1|refine below_set ?_ GE253.out)|exact HB.out))):w.heap.size≤gb273));have n5_:=Aside0.mk ((by rw [hg];exact Nat.ne_of_lt (blk_lt (g:=gb253) (o:=.cells #[.int .i64 a0_0,.int .i64 a0_1,.int .i64 a0_2,.int .i64 a0_3,.int .i64 a0_4,.int .i64 a0_5,.bool a0_6,.string a0_7,.string a0_8,.bool a0_9,.string a0_10,.string a0_11,.slice A0_12 l0_12.length c0_12,.slice A0_13 l0_13.length c0_13,.slice (some ad272) l0_14.length c0_14] 37 (0,0)) (by (with_reducible repeat (first|refine blk_drewN ?_ _|refine blk_drew ?_|refine blk_alloc ?_ _));exact BK253.out)):gb253≠gb273));have n6_:=Aside0.mk ((by rw [hg];exact Nat.ne_of_gt (blk_lt (g:=gb253) (o:=.cells #[.int .i64 a0_0,.int .i64 a0_1,.int .i64 a0_2,.int .i64 a0_3,.int .i64 a0_4,.int .i64 a0_5,.bool a0_6,.string a0_7,.string a0_8,.bool a0_9,.string a0_10,.string a0_11,.slice A0_12 l0_12.length c0_12,.slice A0_13 l0_13.length c0_13,.slice (some ad272) l0_14.length c0_14] 37 (0,0)) (by (with_reducible repeat (first|refine blk_drewN ?_ _|refine blk_drew ?_|refine blk_alloc ?_ _));exact BK253.out)):gb273≠gb253));clear BK253;clear HB;have BK253:=n0_;have HB:=n1_;have BK273:=n2_;have GW273:=n3_;have GE273:=n4_;have NB253_273:=n5_;have NB273_253:=n6_;clear n0_ n1_ n2_ n3_ n4_ n5_ n6_;clear hb hbox hg;have hnb95:=NB273_253.out;have hnc95:=NB253_273.out;have hcz96_0:w94.cell? ⟨gb273,0,none⟩=some (.int .i64 0):=(blk_cell BK273.out 0).trans rfl;have hcz96_1:w94.cell? ⟨gb273,1,none⟩=some (.int .i64 0):=(blk_cell BK273.out 1).trans rfl;have hcz96_2:w94.cell? ⟨gb273,2,none⟩=some (.int .i64 0):=(blk_cell BK273.out 2).trans rfl;have hcz96_3:w94.cell? ⟨gb273,3,none⟩=some (.int .i64 0):=(blk_cell BK273.out 3).trans rfl;have hfz96_0:=blk_frozen BK273.out 0;have hfz96_1:=blk_frozen BK273.out 1;have hfz96_2:=blk_frozen BK273.out 2;have hfz96_3:=blk_frozen BK273.out 3)|((with_reducible refine gate_callee (f:=35) rfl ?_);refine goesL_ (some 127) rfl rfl Tryd.func35 (by kernel_rfl) rfl #[.int .i64 ((rd_T55 l0_14 x7_5).f0.f0)] rfl (by (try simp only [List.map_toArray,List.map_cons,List.map_nil]);first|done|rfl|(simp only [List.length_drop,List.length_take];rfl)) ?_;(with_reducible refine (insolvencyref33_small.calls ((rd_T55 l0_14 x7_5).f0.f0) false _ A69.out).mono ?_);rintro e w' ⟨rfl,⟨nd,rfl⟩⟩;refine ⟨_,rfl,?_⟩))
                  go_ret
                  exact ⟨by first|rfl|(simp [errW_none,errW_some] <;> rfl)|(simp [*,errW_none,errW_some] <;> rfl),by repeat (first|(with_reducible first|exact HB.out|apply below_alloc|apply pw_below_drewN|apply below_drew1|refine below_set ?_ GE253.out|refine below_set ?_ GE273.out)|exact HB.out)⟩
                ·rw [if_neg c68] at H
                 exact absurd H (by simp)
               ·rw [if_neg c67] at H
                have c67b0:decide (x7_5<(l0_14.length:Int))=false:=decide_eq_false c67
                clear c67
                replace H:=Option.bind_eq_some_iff.mp H
                obtain ⟨t269,A970,H⟩:=H
                replace H:(some (decide ((t269.length:Int)≤4096)))=some r:=H
                have A97:=Aside0.mk A970
                clear A970
                obtain rfl:=Option.some.inj H
                have hcz98_0:wr.cell? ⟨gb253,0,none⟩=some (.int .i64 a0_0):=(blk_cell BK253.out 0).trans rfl
                have hcz98_1:wr.cell? ⟨gb253,1,none⟩=some (.int .i64 a0_1):=(blk_cell BK253.out 1).trans rfl
                have hcz98_2:wr.cell? ⟨gb253,2,none⟩=some (.int .i64 a0_2):=(blk_cell BK253.out 2).trans rfl
                have hcz98_3:wr.cell? ⟨gb253,3,none⟩=some (.int .i64 a0_3):=(blk_cell BK253.out 3).trans rfl
                have hcz98_4:wr.cell? ⟨gb253,4,none⟩=some (.int .i64 a0_4):=(blk_cell BK253.out 4).trans rfl
                have hcz98_5:wr.cell? ⟨gb253,5,none⟩=some (.int .i64 a0_5):=(blk_cell BK253.out 5).trans rfl
                have hcz98_6:wr.cell? ⟨gb253,6,none⟩=some (.bool a0_6):=(blk_cell BK253.out 6).trans rfl
                have hcz98_7:wr.cell? ⟨gb253,7,none⟩=some (.string a0_7):=(blk_cell BK253.out 7).trans rfl
                have hcz98_8:wr.cell? ⟨gb253,8,none⟩=some (.string a0_8):=(blk_cell BK253.out 8).trans rfl
                have hcz98_9:wr.cell? ⟨gb253,9,none⟩=some (.bool a0_9):=(blk_cell BK253.out 9).trans rfl
                have hcz98_10:wr.cell? ⟨gb253,10,none⟩=some (.string a0_10):=(blk_cell BK253.out 10).trans rfl
                have hcz98_11:wr.cell? ⟨gb253,11,none⟩=some (.string a0_11):=(blk_cell BK253.out 11).trans rfl
                have hcz98_12:wr.cell? ⟨gb253,12,none⟩=some (.slice A0_12 l0_12.length c0_12):=(blk_cell BK253.out 12).trans rfl
                have hcz98_13:wr.cell? ⟨gb253,13,none⟩=some (.slice A0_13 l0_13.length c0_13):=(blk_cell BK253.out 13).trans rfl
                have hcz98_14:wr.cell? ⟨gb253,14,none⟩=some (.slice A0_14 l0_14.length c0_14):=(blk_cell BK253.out 14).trans rfl
                have hfz98_0:=blk_frozen BK253.out 0
                have hfz98_1:=blk_frozen BK253.out 1
                have hfz98_2:=blk_frozen BK253.out 2
                have hfz98_3:=blk_frozen BK253.out 3
                have hfz98_4:=blk_frozen BK253.out 4
                have hfz98_5:=blk_frozen BK253.out 5
                have hfz98_6:=blk_frozen BK253.out 6
                have hfz98_7:=blk_frozen BK253.out 7
                have hfz98_8:=blk_frozen BK253.out 8
                have hfz98_9:=blk_frozen BK253.out 9
                have hfz98_10:=blk_frozen BK253.out 10
                have hfz98_11:=blk_frozen BK253.out 11
                have hfz98_12:=blk_frozen BK253.out 12
                have hfz98_13:=blk_frozen BK253.out 13
                have hfz98_14:=blk_frozen BK253.out 14
                go_wp2_with (first|((with_reducible refine gate_callee (f:=30) rfl ?_);refine goesL_ (some 152) rfl rfl Tryd.func30 (by kernel_rfl) rfl #[.agg #[.int .i64 a0_0,.int .i64 a0_1,.int .i64 a0_2,.int .i64 a0_3,.int .i64 a0_4,.int .i64 a0_5,.bool a0_6,.string a0_7,.string a0_8,.bool a0_9,.string a0_10,.string a0_11,.slice A0_12 l0_12.length c0_12,.slice A0_13 l0_13.length c0_13,.slice A0_14 l0_14.length c0_14]] rfl (by (try simp only [List.map_toArray,List.map_cons,List.map_nil]);first|done|rfl|(simp only [List.length_drop,List.length_take];rfl)) ?_;(with_reducible refine (insolvencyref33_bytesOf.calls k5 a0_0 a0_1 a0_2 a0_3 a0_4 a0_5 a0_6 a0_7 a0_8 a0_9 a0_10 a0_11 _ _ l0_12 _ _ l0_13 _ _ l0_14 t269 _ ?side1 ?side2 ?side3 ?side4 ?side5 ?side6 A97.out).mono ?_);(case side1=>repeat (first|exact (Kd.C_below HR0_12.out HB.out)|(with_reducible refine Kd.C_alloc ?_ _)|(with_reducible refine Kd.C_drewN ?_ _)|(with_reducible refine Kd.C_drew ?_)));(case side2=>exact HC0_12.out);(case side3=>repeat (first|exact (Kd.C_below HR0_13.out HB.out)|(with_reducible refine Kd.C_alloc ?_ _)|(with_reducible refine Kd.C_drewN ?_ _)|(with_reducible refine Kd.C_drew ?_)));(case side4=>exact HC0_13.out);(case side5=>repeat (first|exact (Kd.C_below HR0_14.out HB.out)|(with_reducible refine Kd.C_alloc ?_ _)|(with_reducible refine Kd.C_drewN ?_ _)|(with_reducible refine Kd.C_drew ?_)));(case side6=>exact HC0_14.out);rintro e w99 ⟨v270,rfl,ho0,hb⟩;refine ⟨_,rfl,?_⟩;have n0_:=Aside0.mk (Kd.R_lower ho0 (below_size (by repeat (first|(with_reducible first|exact HB.out|apply below_alloc|apply pw_below_drewN|apply below_drew1|refine below_set ?_ GE253.out)|exact HB.out))));have n1_:=Aside0.mk (blk_below (g:=gb253) (o:=.cells #[.int .i64 a0_0,.int .i64 a0_1,.int .i64 a0_2,.int .i64 a0_3,.int .i64 a0_4,.int .i64 a0_5,.bool a0_6,.string a0_7,.string a0_8,.bool a0_9,.string a0_10,.string a0_11,.slice A0_12 l0_12.length c0_12,.slice A0_13 l0_13.length c0_13,.slice A0_14 l0_14.length c0_14] 37 (0,0)) (by (with_reducible repeat (first|refine blk_drewN ?_ _|refine blk_drew ?_|refine blk_alloc ?_ _));exact BK253.out) hb);have n2_:=Aside0.mk (below_step (by repeat (first|(with_reducible first|exact HB.out|apply below_alloc|apply pw_below_drewN|apply below_drew1|refine below_set ?_ GE253.out)|exact HB.out)) hb);clear BK253;clear HB;have HO271:=n0_;have BK253:=n1_;have HB:=n2_;clear n0_ n1_ n2_;(try clear hb);(try clear hb2);(try clear hk);(try clear hi);(try clear ho0);obtain ⟨Ao100,co100,eo100⟩:=Kd.R_slice HO271.out;subst eo100))
                go_ret
                exact ⟨by first|rfl|(simp [errW_none,errW_some] <;> rfl)|(simp [*,errW_none,errW_some] <;> rfl),by repeat (first|(with_reducible first|exact HB.out|apply below_alloc|apply pw_below_drewN|apply below_drew1|refine below_set ?_ GE253.out)|exact HB.out)⟩
end Go.Proofs.YtcipcpodgkeobaaDoor.F
end
section
namespace Go.Proofs.YtcipcpodgkeobaaDoor.F
open Go.RowKit Go.Proofs.YtcipcpodgkeobaaDoorW.PrintWords Go.Proofs.YtcipcpodgkeobaaDoorW.PrintLast Go.Proofs.YtcipcpodgkeobaaDoorW.PrintMore
attribute [local go_sem] max2_int min2_int max_two min_two max_three min_three max_four min_four   
set_option linter.unusedVariables false
set_option linter.unusedSimpArgs false
def insolvencyref33_Encode.f (k:Nat) (a0_0:Int) (a0_1:Int) (a0_2:Int) (a0_3:Int) (a0_4:Int) (a0_5:Int) (a0_6:Bool) (a0_7:ByteArray) (a0_8:ByteArray) (a0_9:Bool) (a0_10:ByteArray) (a0_11:ByteArray) (l0_12:List (S49)) (l0_13:List (S51)) (l0_14:List (S55)):Option (List Int×Int):=(insolvencyref33_Valid.f k a0_0 a0_1 a0_2 a0_3 a0_4 a0_5 a0_6 a0_7 a0_8 a0_9 a0_10 a0_11 l0_12 l0_13 l0_14).bind fun t279=>(if t279=true then ((insolvencyref33_bytesOf.f k a0_0 a0_1 a0_2 a0_3 a0_4 a0_5 a0_6 a0_7 a0_8 a0_9 a0_10 a0_11 l0_12 l0_13 l0_14).bind fun t280=>(some (t280,0))) else (some (([]:List Int),1)))
theorem insolvencyref33_Encode.mono:∀ a0 a1 a2 a3 a4 a5 a6 a7 a8 a9 a10 a11 a12 a13 a14 k,LeO (insolvencyref33_Encode.f k a0 a1 a2 a3 a4 a5 a6 a7 a8 a9 a10 a11 a12 a13 a14) (insolvencyref33_Encode.f (k+1) a0 a1 a2 a3 a4 a5 a6 a7 a8 a9 a10 a11 a12 a13 a14):=by
 intro a0 a1 a2 a3 a4 a5 a6 a7 a8 a9 a10 a11 a12 a13 a14 k
 unfold insolvencyref33_Encode.f
 repeat' first
  | (with_reducible exact insolvencyref33_Valid.mono _ _ _ _ _ _ _ _ _ _ _ _ _ _ _ _)
  | (with_reducible exact insolvencyref33_bytesOf.mono _ _ _ _ _ _ _ _ _ _ _ _ _ _ _ _)
  | (with_reducible exact LeO.refl _)
  | (with_reducible exact LeO.none _)
  | (with_reducible refine LeO.ite ?_ ?_)
  | (with_reducible refine LeO.bind ?_ (fun _=>?_))
  | exact insolvencyref33_Valid.mono _ _ _ _ _ _ _ _ _ _ _ _ _ _ _ _
  | exact insolvencyref33_bytesOf.mono _ _ _ _ _ _ _ _ _ _ _ _ _ _ _ _
  | exact LeO.none _
  | refine LeO.ite ?_ ?_
  | refine LeO.bind ?_ (fun _=>?_)
set_option maxHeartbeats 8000000 in
set_option maxRecDepth 100000 in
theorem insolvencyref33_Encode.calls (k:Nat) (a0_0:Int) (a0_1:Int) (a0_2:Int) (a0_3:Int) (a0_4:Int) (a0_5:Int) (a0_6:Bool) (a0_7:ByteArray) (a0_8:ByteArray) (a0_9:Bool) (a0_10:ByteArray) (a0_11:ByteArray) (A0_12:Option Addr) (c0_12:Nat) (l0_12:List (S49)) (A0_13:Option Addr) (c0_13:Nat) (l0_13:List (S51)) (A0_14:Option Addr) (c0_14:Nat) (l0_14:List (S55)) (r1:List Int) (r2:Int) (w:World) (hr0_12:Kd.C k49 w A0_12 l0_12.length l0_12) (hc0_12:l0_12.length≤c0_12) (hr0_13:Kd.C k51 w A0_13 l0_13.length l0_13) (hc0_13:l0_13.length≤c0_13) (hr0_14:Kd.C k55 w A0_14 l0_14.length l0_14) (hc0_14:l0_14.length≤c0_14) (h:insolvencyref33_Encode.f k a0_0 a0_1 a0_2 a0_3 a0_4 a0_5 a0_6 a0_7 a0_8 a0_9 a0_10 a0_11 l0_12 l0_13 l0_14=some (r1,r2)) :
 Calls Tryd.prog 18 #[.agg #[.int .i64 a0_0,.int .i64 a0_1,.int .i64 a0_2,.int .i64 a0_3,.int .i64 a0_4,.int .i64 a0_5,.bool a0_6,.string a0_7,.string a0_8,.bool a0_9,.string a0_10,.string a0_11,.slice A0_12 l0_12.length c0_12,.slice A0_13 l0_13.length c0_13,.slice A0_14 l0_14.length c0_14]] w fun e w'=>∃ v0_:Value,e = .returned (.tuple #[v0_,.int .i64 r2])∧Kd.R (Kd.int .u8) 5 w' w.heap.size (fun _=>True) v0_ r1∧Below w.heap.size w w':=by
 have hu37:=Tryd.underlying37
 have HR0_12:=Aside0.mk hr0_12
 have HC0_12:=Aside0.mk hc0_12
 clear hr0_12 hc0_12
 have HR0_13:=Aside0.mk hr0_13
 have HC0_13:=Aside0.mk hc0_13
 clear hr0_13 hc0_13
 have HR0_14:=Aside0.mk hr0_14
 have HC0_14:=Aside0.mk hc0_14
 clear hr0_14 hc0_14
 have HB:=Aside0.mk (Below.refl w.heap.size w)
 have H:((insolvencyref33_Valid.f k a0_0 a0_1 a0_2 a0_3 a0_4 a0_5 a0_6 a0_7 a0_8 a0_9 a0_10 a0_11 l0_12 l0_13 l0_14).bind fun t279=>(if t279=true then ((insolvencyref33_bytesOf.f k a0_0 a0_1 a0_2 a0_3 a0_4 a0_5 a0_6 a0_7 a0_8 a0_9 a0_10 a0_11 l0_12 l0_13 l0_14).bind fun t280=>(some (t280,0))) else (some (([]:List Int),1))))=some (r1,r2):=h
 clear h
 replace H:=Option.bind_eq_some_iff.mp H
 obtain ⟨t279,A20,H⟩:=H
 replace H:(if t279=true then ((insolvencyref33_bytesOf.f k a0_0 a0_1 a0_2 a0_3 a0_4 a0_5 a0_6 a0_7 a0_8 a0_9 a0_10 a0_11 l0_12 l0_13 l0_14).bind fun t280=>(some (t280,0))) else (some (([]:List Int),1)))=some (r1,r2):=H
 have A2:=Aside0.mk A20
 clear A20
 by_cases c3:t279=true
 ·subst c3
  have H1:((insolvencyref33_bytesOf.f k a0_0 a0_1 a0_2 a0_3 a0_4 a0_5 a0_6 a0_7 a0_8 a0_9 a0_10 a0_11 l0_12 l0_13 l0_14).bind fun t280=>(some (t280,0)))=some (r1,r2):=by rw [if_pos rfl] at H;exact H
  clear H
  have H:=H1
  clear H1
  replace H:=Option.bind_eq_some_iff.mp H
  obtain ⟨t280,A40,H⟩:=H
  replace H:(some (t280,0))=some (r1,r2):=H
  have A4:=Aside0.mk A40
  clear A40
  simp only [Option.some.injEq,Prod.mk.injEq] at H
  obtain ⟨rfl,rfl⟩:=H
  go_enter Tryd.func18,Tryd.ntmps18
  go_wp2_with (first|((with_reducible refine gate_dst (N:=1) rfl ?_);refine box_event ?hg (N:=1) ?hd (cs:=#[.int .i64 a0_0,.int .i64 a0_1,.int .i64 a0_2,.int .i64 a0_3,.int .i64 a0_4,.int .i64 a0_5,.bool a0_6,.string a0_7,.string a0_8,.bool a0_9,.string a0_10,.string a0_11,.slice A0_12 l0_12.length c0_12,.slice A0_13 l0_13.length c0_13,.slice A0_14 l0_14.length c0_14]) (t:=37) ?hr ?_;(case hd=>rfl);(case hg=>rfl);(case hr=>first|(go_simp;done)|(go_simp;rfl));intro gb278 hg w5 hbox hb;have n0_:=Aside0.mk (below_step (by repeat (first|(with_reducible first|exact HB.out|apply below_alloc|apply pw_below_drewN|apply below_drew1)|exact HB.out)) hb);have n1_:=Aside0.mk (hbox);have n2_:=Aside0.mk ((by rw [hg];exact (below_size (by repeat (first|(with_reducible first|exact HB.out|apply below_alloc|apply pw_below_drewN|apply below_drew1)|exact HB.out))):w.heap.size≤gb278));have n3_:=Aside0.mk ((by rw [hg];exact (below_size (by repeat (first|(with_reducible first|exact HB.out|apply below_alloc|apply pw_below_drewN|apply below_drew1)|exact HB.out))):w.heap.size≤gb278));clear HB;have HB:=n0_;have BK278:=n1_;have GW278:=n2_;have GE278:=n3_;clear n0_ n1_ n2_ n3_;clear hb hbox hg;have hcz6_0:w5.cell? ⟨gb278,0,none⟩=some (.int .i64 a0_0):=(blk_cell BK278.out 0).trans rfl;have hcz6_1:w5.cell? ⟨gb278,1,none⟩=some (.int .i64 a0_1):=(blk_cell BK278.out 1).trans rfl;have hcz6_2:w5.cell? ⟨gb278,2,none⟩=some (.int .i64 a0_2):=(blk_cell BK278.out 2).trans rfl;have hcz6_3:w5.cell? ⟨gb278,3,none⟩=some (.int .i64 a0_3):=(blk_cell BK278.out 3).trans rfl;have hcz6_4:w5.cell? ⟨gb278,4,none⟩=some (.int .i64 a0_4):=(blk_cell BK278.out 4).trans rfl;have hcz6_5:w5.cell? ⟨gb278,5,none⟩=some (.int .i64 a0_5):=(blk_cell BK278.out 5).trans rfl;have hcz6_6:w5.cell? ⟨gb278,6,none⟩=some (.bool a0_6):=(blk_cell BK278.out 6).trans rfl;have hcz6_7:w5.cell? ⟨gb278,7,none⟩=some (.string a0_7):=(blk_cell BK278.out 7).trans rfl;have hcz6_8:w5.cell? ⟨gb278,8,none⟩=some (.string a0_8):=(blk_cell BK278.out 8).trans rfl;have hcz6_9:w5.cell? ⟨gb278,9,none⟩=some (.bool a0_9):=(blk_cell BK278.out 9).trans rfl;have hcz6_10:w5.cell? ⟨gb278,10,none⟩=some (.string a0_10):=(blk_cell BK278.out 10).trans rfl;have hcz6_11:w5.cell? ⟨gb278,11,none⟩=some (.string a0_11):=(blk_cell BK278.out 11).trans rfl;have hcz6_12:w5.cell? ⟨gb278,12,none⟩=some (.slice A0_12 l0_12.length c0_12):=(blk_cell BK278.out 12).trans rfl;have hcz6_13:w5.cell? ⟨gb278,13,none⟩=some (.slice A0_13 l0_13.length c0_13):=(blk_cell BK278.out 13).trans rfl;have hcz6_14:w5.cell? ⟨gb278,14,none⟩=some (.slice A0_14 l0_14.length c0_14):=(blk_cell BK278.out 14).trans rfl;have hfz6_0:=blk_frozen BK278.out 0;have hfz6_1:=blk_frozen BK278.out 1;have hfz6_2:=blk_frozen BK278.out 2;have hfz6_3:=blk_frozen BK278.out 3;have hfz6_4:=blk_frozen BK278.out 4;have hfz6_5:=blk_frozen BK278.out 5;have hfz6_6:=blk_frozen BK278.out 6;have hfz6_7:=blk_frozen BK278.out 7;have hfz6_8:=blk_frozen BK278.out 8;have hfz6_9:=blk_frozen BK278.out 9;have hfz6_10:=blk_frozen BK278.out 10;have hfz6_11:=blk_frozen BK278.out 11;have hfz6_12:=blk_frozen BK278.out 12;have hfz6_13:=blk_frozen BK278.out 13;have hfz6_14:=blk_frozen BK278.out 14)|((with_reducible refine gate_callee (f:=23) rfl ?_);refine goesL_ (some 5) rfl rfl Tryd.func23 (by kernel_rfl) rfl #[.agg #[.int .i64 a0_0,.int .i64 a0_1,.int .i64 a0_2,.int .i64 a0_3,.int .i64 a0_4,.int .i64 a0_5,.bool a0_6,.string a0_7,.string a0_8,.bool a0_9,.string a0_10,.string a0_11,.slice A0_12 l0_12.length c0_12,.slice A0_13 l0_13.length c0_13,.slice A0_14 l0_14.length c0_14]] rfl (by (try simp only [List.map_toArray,List.map_cons,List.map_nil]);first|done|rfl|(simp only [List.length_drop,List.length_take];rfl)) ?_;(with_reducible refine (insolvencyref33_Valid.calls k a0_0 a0_1 a0_2 a0_3 a0_4 a0_5 a0_6 a0_7 a0_8 a0_9 a0_10 a0_11 _ _ l0_12 _ _ l0_13 _ _ l0_14 true _ ?side1 ?side2 ?side3 ?side4 ?side5 ?side6 A2.out).mono ?_);(case side1=>repeat (first|exact (Kd.C_below HR0_12.out HB.out)|(with_reducible refine Kd.C_alloc ?_ _)|(with_reducible refine Kd.C_drewN ?_ _)|(with_reducible refine Kd.C_drew ?_)));(case side2=>exact HC0_12.out);(case side3=>repeat (first|exact (Kd.C_below HR0_13.out HB.out)|(with_reducible refine Kd.C_alloc ?_ _)|(with_reducible refine Kd.C_drewN ?_ _)|(with_reducible refine Kd.C_drew ?_)));(case side4=>exact HC0_13.out);(case side5=>repeat (first|exact (Kd.C_below HR0_14.out HB.out)|(with_reducible refine Kd.C_alloc ?_ _)|(with_reducible refine Kd.C_drewN ?_ _)|(with_reducible refine Kd.C_drew ?_)));(case side6=>exact HC0_14.out);rintro e w7 ⟨rfl,hb⟩;refine ⟨_,rfl,?_⟩;have n0_:=Aside0.mk (blk_below (g:=gb278) (o:=.cells #[.int .i64 a0_0,.int .i64 a0_1,.int .i64 a0_2,.int .i64 a0_3,.int .i64 a0_4,.int .i64 a0_5,.bool a0_6,.string a0_7,.string a0_8,.bool a0_9,.string a0_10,.string a0_11,.slice A0_12 l0_12.length c0_12,.slice A0_13 l0_13.length c0_13,.slice A0_14 l0_14.length c0_14] 37 (0,0)) (by (with_reducible repeat (first|refine blk_drewN ?_ _|refine blk_drew ?_|refine blk_alloc ?_ _));exact BK278.out) hb);have n1_:=Aside0.mk (below_step (by repeat (first|(with_reducible first|exact HB.out|apply below_alloc|apply pw_below_drewN|apply below_drew1|refine below_set ?_ GE278.out)|exact HB.out)) hb);clear BK278;clear HB;have BK278:=n0_;have HB:=n1_;clear n0_ n1_;(try clear hb);(try clear hb2);(try clear hk);(try clear hi);have hcz8_0:w7.cell? ⟨gb278,0,none⟩=some (.int .i64 a0_0):=(blk_cell BK278.out 0).trans rfl;have hcz8_1:w7.cell? ⟨gb278,1,none⟩=some (.int .i64 a0_1):=(blk_cell BK278.out 1).trans rfl;have hcz8_2:w7.cell? ⟨gb278,2,none⟩=some (.int .i64 a0_2):=(blk_cell BK278.out 2).trans rfl;have hcz8_3:w7.cell? ⟨gb278,3,none⟩=some (.int .i64 a0_3):=(blk_cell BK278.out 3).trans rfl;have hcz8_4:w7.cell? ⟨gb278,4,none⟩=some (.int .i64 a0_4):=(blk_cell BK278.out 4).trans rfl;have hcz8_5:w7.cell? ⟨gb278,5,none⟩=some (.int .i64 a0_5):=(blk_cell BK278.out 5).trans rfl;have hcz8_6:w7.cell? ⟨gb278,6,none⟩=some (.bool a0_6):=(blk_cell BK278.out 6).trans rfl;have hcz8_7:w7.cell? ⟨gb278,7,none⟩=some (.string a0_7):=(blk_cell BK278.out 7).trans rfl;have hcz8_8:w7.cell? ⟨gb278,8,none⟩=some (.string a0_8):=(blk_cell BK278.out 8).trans rfl;have hcz8_9:w7.cell? ⟨gb278,9,none⟩=some (.bool a0_9):=(blk_cell BK278.out 9).trans rfl;have hcz8_10:w7.cell? ⟨gb278,10,none⟩=some (.string a0_10):=(blk_cell BK278.out 10).trans rfl;have hcz8_11:w7.cell? ⟨gb278,11,none⟩=some (.string a0_11):=(blk_cell BK278.out 11).trans rfl;have hcz8_12:w7.cell? ⟨gb278,12,none⟩=some (.slice A0_12 l0_12.length c0_12):=(blk_cell BK278.out 12).trans rfl;have hcz8_13:w7.cell? ⟨gb278,13,none⟩=some (.slice A0_13 l0_13.length c0_13):=(blk_cell BK278.out 13).trans rfl;have hcz8_14:w7.cell? ⟨gb278,14,none⟩=some (.slice A0_14 l0_14.length c0_14):=(blk_cell BK278.out 14).trans rfl;have hfz8_0:=blk_frozen BK278.out 0;have hfz8_1:=blk_frozen BK278.out 1;have hfz8_2:=blk_frozen BK278.out 2;have hfz8_3:=blk_frozen BK278.out 3;have hfz8_4:=blk_frozen BK278.out 4;have hfz8_5:=blk_frozen BK278.out 5;have hfz8_6:=blk_frozen BK278.out 6;have hfz8_7:=blk_frozen BK278.out 7;have hfz8_8:=blk_frozen BK278.out 8;have hfz8_9:=blk_frozen BK278.out 9;have hfz8_10:=blk_frozen BK278.out 10;have hfz8_11:=blk_frozen BK278.out 11;have hfz8_12:=blk_frozen BK278.out 12;have hfz8_13:=blk_frozen BK278.out 13;have hfz8_14:=blk_frozen BK278.out 14)|((with_reducible refine gate_callee (f:=30) rfl ?_);refine goesL_ (some 8) rfl rfl Tryd.func30 (by kernel_rfl) rfl #[.agg #[.int .i64 a0_0,.int .i64 a0_1,.int .i64 a0_2,.int .i64 a0_3,.int .i64 a0_4,.int .i64 a0_5,.bool a0_6,.string a0_7,.string a0_8,.bool a0_9,.string a0_10,.string a0_11,.slice A0_12 l0_12.length c0_12,.slice A0_13 l0_13.length c0_13,.slice A0_14 l0_14.length c0_14]] rfl (by (try simp only [List.map_toArray,List.map_cons,List.map_nil]);first|done|rfl|(simp only [List.length_drop,List.length_take];rfl)) ?_;(with_reducible refine (insolvencyref33_bytesOf.calls k a0_0 a0_1 a0_2 a0_3 a0_4 a0_5 a0_6 a0_7 a0_8 a0_9 a0_10 a0_11 _ _ l0_12 _ _ l0_13 _ _ l0_14 t280 _ ?side1 ?side2 ?side3 ?side4 ?side5 ?side6 A4.out).mono ?_);(case side1=>repeat (first|exact (Kd.C_below HR0_12.out HB.out)|(with_reducible refine Kd.C_alloc ?_ _)|(with_reducible refine Kd.C_drewN ?_ _)|(with_reducible refine Kd.C_drew ?_)));(case side2=>exact HC0_12.out);(case side3=>repeat (first|exact (Kd.C_below HR0_13.out HB.out)|(with_reducible refine Kd.C_alloc ?_ _)|(with_reducible refine Kd.C_drewN ?_ _)|(with_reducible refine Kd.C_drew ?_)));(case side4=>exact HC0_13.out);(case side5=>repeat (first|exact (Kd.C_below HR0_14.out HB.out)|(with_reducible refine Kd.C_alloc ?_ _)|(with_reducible refine Kd.C_drewN ?_ _)|(with_reducible refine Kd.C_drew ?_)));(case side6=>exact HC0_14.out);rintro e w9 ⟨v281,rfl,ho0,hb⟩;refine ⟨_,rfl,?_⟩;have n0_:=Aside0.mk (Kd.R_lower ho0 (below_size (by repeat (first|(with_reducible first|exact HB.out|apply below_alloc|apply pw_below_drewN|apply below_drew1|refine below_set ?_ GE278.out)|exact HB.out))));have n1_:=Aside0.mk (blk_below (g:=gb278) (o:=.cells #[.int .i64 a0_0,.int .i64 a0_1,.int .i64 a0_2,.int .i64 a0_3,.int .i64 a0_4,.int .i64 a0_5,.bool a0_6,.string a0_7,.string a0_8,.bool a0_9,.string a0_10,.string a0_11,.slice A0_12 l0_12.length c0_12,.slice A0_13 l0_13.length c0_13,.slice A0_14 l0_14.length c0_14] 37 (0,0)) (by (with_reducible repeat (first|refine blk_drewN ?_ _|refine blk_drew ?_|refine blk_alloc ?_ _));exact BK278.out) hb);have n2_:=Aside0.mk (below_step (by repeat (first|(with_reducible first|exact HB.out|apply below_alloc|apply pw_below_drewN|apply below_drew1|refine below_set ?_ GE278.out)|exact HB.out)) hb);clear BK278;clear HB;have HO282:=n0_;have BK278:=n1_;have HB:=n2_;clear n0_ n1_ n2_;(try clear hb);(try clear hb2);(try clear hk);(try clear hi);(try clear ho0)))
  go_ret2
  exact ⟨_,by first|rfl|(simp [errW_none,errW_some] <;> rfl)|(simp [*,errW_none,errW_some] <;> rfl),by (with_reducible repeat (first|apply Kd.R_alloc|apply Kd.R_drewN|apply Kd.R_drew));exact HO282.out,by repeat (first|(with_reducible first|exact HB.out|apply below_alloc|apply pw_below_drewN|apply below_drew1|refine below_set ?_ GE278.out)|exact HB.out)⟩
 ·replace c3:=Bool.eq_false_iff.mpr c3
  subst c3
  have H1:(some (([]:List Int),1))=some (r1,r2):=by rw [if_neg (show ¬ (false=true) by decide)] at H;exact H
  clear H
  have H:=H1
  clear H1
  simp only [Option.some.injEq,Prod.mk.injEq] at H
  obtain ⟨rfl,rfl⟩:=H
  go_enter Tryd.func18,Tryd.ntmps18
  go_wp2_with (first|((with_reducible refine gate_dst (N:=1) rfl ?_);refine box_event ?hg (N:=1) ?hd (cs:=#[.int .i64 a0_0,.int .i64 a0_1,.int .i64 a0_2,.int .i64 a0_3,.int .i64 a0_4,.int .i64 a0_5,.bool a0_6,.string a0_7,.string a0_8,.bool a0_9,.string a0_10,.string a0_11,.slice A0_12 l0_12.length c0_12,.slice A0_13 l0_13.length c0_13,.slice A0_14 l0_14.length c0_14]) (t:=37) ?hr ?_;(case hd=>rfl);(case hg=>rfl);(case hr=>first|(go_simp;done)|(go_simp;rfl));intro gb278 hg w10 hbox hb;have n0_:=Aside0.mk (below_step (by repeat (first|(with_reducible first|exact HB.out|apply below_alloc|apply pw_below_drewN|apply below_drew1)|exact HB.out)) hb);have n1_:=Aside0.mk (hbox);have n2_:=Aside0.mk ((by rw [hg];exact (below_size (by repeat (first|(with_reducible first|exact HB.out|apply below_alloc|apply pw_below_drewN|apply below_drew1)|exact HB.out))):w.heap.size≤gb278));have n3_:=Aside0.mk ((by rw [hg];exact (below_size (by repeat (first|(with_reducible first|exact HB.out|apply below_alloc|apply pw_below_drewN|apply below_drew1)|exact HB.out))):w.heap.size≤gb278));clear HB;have HB:=n0_;have BK278:=n1_;have GW278:=n2_;have GE278:=n3_;clear n0_ n1_ n2_ n3_;clear hb hbox hg;have hcz11_0:w10.cell? ⟨gb278,0,none⟩=some (.int .i64 a0_0):=(blk_cell BK278.out 0).trans rfl;have hcz11_1:w10.cell? ⟨gb278,1,none⟩=some (.int .i64 a0_1):=(blk_cell BK278.out 1).trans rfl;have hcz11_2:w10.cell? ⟨gb278,2,none⟩=some (.int .i64 a0_2):=(blk_cell BK278.out 2).trans rfl;have hcz11_3:w10.cell? ⟨gb278,3,none⟩=some (.int .i64 a0_3):=(blk_cell BK278.out 3).trans rfl;have hcz11_4:w10.cell? ⟨gb278,4,none⟩=some (.int .i64 a0_4):=(blk_cell BK278.out 4).trans rfl;have hcz11_5:w10.cell? ⟨gb278,5,none⟩=some (.int .i64 a0_5):=(blk_cell BK278.out 5).trans rfl;have hcz11_6:w10.cell? ⟨gb278,6,none⟩=some (.bool a0_6):=(blk_cell BK278.out 6).trans rfl;have hcz11_7:w10.cell? ⟨gb278,7,none⟩=some (.string a0_7):=(blk_cell BK278.out 7).trans rfl;have hcz11_8:w10.cell? ⟨gb278,8,none⟩=some (.string a0_8):=(blk_cell BK278.out 8).trans rfl;have hcz11_9:w10.cell? ⟨gb278,9,none⟩=some (.bool a0_9):=(blk_cell BK278.out 9).trans rfl;have hcz11_10:w10.cell? ⟨gb278,10,none⟩=some (.string a0_10):=(blk_cell BK278.out 10).trans rfl;have hcz11_11:w10.cell? ⟨gb278,11,none⟩=some (.string a0_11):=(blk_cell BK278.out 11).trans rfl;have hcz11_12:w10.cell? ⟨gb278,12,none⟩=some (.slice A0_12 l0_12.length c0_12):=(blk_cell BK278.out 12).trans rfl;have hcz11_13:w10.cell? ⟨gb278,13,none⟩=some (.slice A0_13 l0_13.length c0_13):=(blk_cell BK278.out 13).trans rfl;have hcz11_14:w10.cell? ⟨gb278,14,none⟩=some (.slice A0_14 l0_14.length c0_14):=(blk_cell BK278.out 14).trans rfl;have hfz11_0:=blk_frozen BK278.out 0;have hfz11_1:=blk_frozen BK278.out 1;have hfz11_2:=blk_frozen BK278.out 2;have hfz11_3:=blk_frozen BK278.out 3;have hfz11_4:=blk_frozen BK278.out 4;have hfz11_5:=blk_frozen BK278.out 5;have hfz11_6:=blk_frozen BK278.out 6;have hfz11_7:=blk_frozen BK278.out 7;have hfz11_8:=blk_frozen BK278.out 8;have hfz11_9:=blk_frozen BK278.out 9;have hfz11_10:=blk_frozen BK278.out 10;have hfz11_11:=blk_frozen BK278.out 11;have hfz11_12:=blk_frozen BK278.out 12;have hfz11_13:=blk_frozen BK278.out 13;have hfz11_14:=blk_frozen BK278.out 14)|((with_reducible refine gate_callee (f:=23) rfl ?_);refine goesL_ (some 5) rfl rfl Tryd.func23 (by kernel_rfl) rfl #[.agg #[.int .i64 a0_0,.int .i64 a0_1,.int .i64 a0_2,.int .i64 a0_3,.int .i64 a0_4,.int .i64 a0_5,.bool a0_6,.string a0_7,.string a0_8,.bool a0_9,.string a0_10,.string a0_11,.slice A0_12 l0_12.length c0_12,.slice A0_13 l0_13.length c0_13,.slice A0_14 l0_14.length c0_14]] rfl (by (try simp only [List.map_toArray,List.map_cons,List.map_nil]);first|done|rfl|(simp only [List.length_drop,List.length_take];rfl)) ?_;(with_reducible refine (insolvencyref33_Valid.calls k a0_0 a0_1 a0_2 a0_3 a0_4 a0_5 a0_6 a0_7 a0_8 a0_9 a0_10 a0_11 _ _ l0_12 _ _ l0_13 _ _ l0_14 false _ ?side1 ?side2 ?side3 ?side4 ?side5 ?side6 A2.out).mono ?_);(case side1=>repeat (first|exact (Kd.C_below HR0_12.out HB.out)|(with_reducible refine Kd.C_alloc ?_ _)|(with_reducible refine Kd.C_drewN ?_ _)|(with_reducible refine Kd.C_drew ?_)));(case side2=>exact HC0_12.out);(case side3=>repeat (first|exact (Kd.C_below HR0_13.out HB.out)|(with_reducible refine Kd.C_alloc ?_ _)|(with_reducible refine Kd.C_drewN ?_ _)|(with_reducible refine Kd.C_drew ?_)));(case side4=>exact HC0_13.out);(case side5=>repeat (first|exact (Kd.C_below HR0_14.out HB.out)|(with_reducible refine Kd.C_alloc ?_ _)|(with_reducible refine Kd.C_drewN ?_ _)|(with_reducible refine Kd.C_drew ?_)));(case side6=>exact HC0_14.out);rintro e w12 ⟨rfl,hb⟩;refine ⟨_,rfl,?_⟩;have n0_:=Aside0.mk (blk_below (g:=gb278) (o:=.cells #[.int .i64 a0_0,.int .i64 a0_1,.int .i64 a0_2,.int .i64 a0_3,.int .i64 a0_4,.int .i64 a0_5,.bool a0_6,.string a0_7,.string a0_8,.bool a0_9,.string a0_10,.string a0_11,.slice A0_12 l0_12.length c0_12,.slice A0_13 l0_13.length c0_13,.slice A0_14 l0_14.length c0_14] 37 (0,0)) (by (with_reducible repeat (first|refine blk_drewN ?_ _|refine blk_drew ?_|refine blk_alloc ?_ _));exact BK278.out) hb);have n1_:=Aside0.mk (below_step (by repeat (first|(with_reducible first|exact HB.out|apply below_alloc|apply pw_below_drewN|apply below_drew1|refine below_set ?_ GE278.out)|exact HB.out)) hb);clear BK278;clear HB;have BK278:=n0_;have HB:=n1_;clear n0_ n1_;(try clear hb);(try clear hb2);(try clear hk);(try clear hi)))
  go_ret2
  exact ⟨_,by first|rfl|(simp [errW_none,errW_some] <;> rfl)|(simp [*,errW_none,errW_some] <;> rfl),by first|exact Kd.R_nil _ _ _ _ _|exact Kd.N_nil _ _ _ _ _|exact Kd.V_nil _ _ _ _ _|exact Kd.Q_nil _ _ _ _ _|exact Kd.S_nil _ _ _ _ _,by repeat (first|(with_reducible first|exact HB.out|apply below_alloc|apply pw_below_drewN|apply below_drew1|refine below_set ?_ GE278.out)|exact HB.out)⟩
end Go.Proofs.YtcipcpodgkeobaaDoor.F
end
