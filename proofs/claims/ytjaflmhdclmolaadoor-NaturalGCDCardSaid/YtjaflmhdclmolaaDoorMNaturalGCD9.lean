/- Part 9 of the proof of NaturalGCD: the functions' walks and what they compute, in the order of the calls; each holds for all arguments that its row allows. -/
import Derived.Test.YtjaflmhdclmolaaDoorMNaturalGCD6
import Derived.Test.YtjaflmhdclmolaaDoorMNaturalGCD8
section
namespace Go.Proofs.YtjaflmhdclmolaaDoor.F
open Go.RowKit Go.Proofs.YtjaflmhdclmolaaDoorW.PrintWords Go.Proofs.YtjaflmhdclmolaaDoorW.PrintLast Go.Proofs.YtjaflmhdclmolaaDoorW.PrintMore
attribute [local go_sem] max2_int min2_int max_two min_two max_three min_three max_four min_four   
set_option linter.unusedVariables false
set_option linter.unusedSimpArgs false
mutual
def insolvencyref1_long.l0:Nat→List Int→List Int→Int→Int→Option (List Int×List Int)
 | 0,_,_,_,_=>none
 | k+1,x0,x1,x6,x7=>if 0≤(wrap64 (x6-1)) then (if (wrap64 (x6-1))<(x1.length:Int) then (if 0≤x7 then (if (shl .u32 (rd x1 (wrap64 (x6-1))) x7)<2147483648 then (insolvencyref1_long.l0 k x0 x1 x6 (IntKind.u64.wrap (x7+1))) else ((insolvencyref1_shifted.f k x0 x7).bind fun t319=>((insolvencyref1_shifted.f k x1 x7).bind fun t322=>(if 0≤x6 then (if x6≤(t322.length:Int) then (if 0≤(wrap64 ((wrap64 ((x0.length:Int)-x6))+1)) then (if (wrap64 ((wrap64 ((x0.length:Int)-x6))+1):Int).toNat≤70368744177664 then (insolvencyref1_long.l1 k x6 x7 t319 (t322.take (x6:Int).toNat) (List.replicate (wrap64 ((wrap64 ((x0.length:Int)-x6))+1):Int).toNat 0) (wrap64 ((x0.length:Int)-x6))) else (none)) else (none)) else (none)) else (none))))) else (none)) else (none)) else (none)
def insolvencyref1_long.l1:Nat→Int→Int→List Int→List Int→List Int→Int→Option (List Int×List Int)
 | 0,_,_,_,_,_,_=>none
 | k+1,x6,x7,x8,x9,x10,x11=>if x11≥0 then (if 0≤(wrap64 (x11+x6)) then (if (wrap64 (x11+x6))<(x8.length:Int) then (if 0≤(wrap64 ((wrap64 (x11+x6))-1)) then (if (wrap64 ((wrap64 (x11+x6))-1))<(x8.length:Int) then (if 0≤(wrap64 (x6-1)) then (if (wrap64 (x6-1))<(x9.length:Int) then (if (IntKind.u64.wrap (rd x9 (wrap64 (x6-1))))=0 then (none) else (insolvencyref1_long.l2 k x6 x7 x8 x9 x10 x11 (IntKind.u64.wrap (Int.tdiv (Go.bits .or .u64 (IntKind.u64.wrap ((IntKind.u64.wrap (rd x8 (wrap64 (x11+x6))))*4294967296)) (IntKind.u64.wrap (rd x8 (wrap64 ((wrap64 (x11+x6))-1))))) (IntKind.u64.wrap (rd x9 (wrap64 (x6-1)))))) (Int.tmod (Go.bits .or .u64 (IntKind.u64.wrap ((IntKind.u64.wrap (rd x8 (wrap64 (x11+x6))))*4294967296)) (IntKind.u64.wrap (rd x8 (wrap64 ((wrap64 (x11+x6))-1))))) (IntKind.u64.wrap (rd x9 (wrap64 (x6-1))))))) else (none)) else (none)) else (none)) else (none)) else (none)) else (none)) else (if 0≤x6 then (if (x6:Int).toNat≤70368744177664 then (insolvencyref1_long.l5 k x6 x7 x8 x10 (List.replicate (x6:Int).toNat 0) 0) else (none)) else (none))
def insolvencyref1_long.j4:Nat→Int→Int→List Int→List Int→List Int→Int→Int→Option (List Int×List Int)
 | 0,_,_,_,_,_,_,_=>none
 | k+1,x6,x7,x8,x9,x10,x11,x13=>insolvencyref1_long.l3 k x6 x7 x8 x9 x10 x11 x13 0 0 0
def insolvencyref1_long.l3:Nat→Int→Int→List Int→List Int→List Int→Int→Int→Int→Int→Int→Option (List Int×List Int)
 | 0,_,_,_,_,_,_,_,_,_,_=>none
 | k+1,x6,x7,x8,x9,x10,x11,x13,x15,x16,x17=>if x17<x6 then (if 0≤x17 then (if x17<(x9.length:Int) then (if 0≤(wrap64 (x11+x17)) then (if (wrap64 (x11+x17))<(x8.length:Int) then (if (IntKind.u64.wrap (rd x8 (wrap64 (x11+x17))))<(IntKind.u64.wrap ((Go.bits .and .u64 (IntKind.u64.wrap (x15+(IntKind.u64.wrap (x13*(IntKind.u64.wrap (rd x9 x17)))))) 4294967295)+x16)) then (insolvencyref1_long.l3 k x6 x7 (x8.set ((wrap64 (x11+x17)):Int).toNat ((IntKind.u64.wrap ((IntKind.u64.wrap ((IntKind.u64.wrap (rd x8 (wrap64 (x11+x17))))+4294967296))-(IntKind.u64.wrap ((Go.bits .and .u64 (IntKind.u64.wrap (x15+(IntKind.u64.wrap (x13*(IntKind.u64.wrap (rd x9 x17)))))) 4294967295)+x16))))%4294967296)) x9 x10 x11 x13 ((IntKind.u64.wrap (x15+(IntKind.u64.wrap (x13*(IntKind.u64.wrap (rd x9 x17))))))/4294967296) 1 (wrap64 (x17+1))) else (insolvencyref1_long.l3 k x6 x7 (x8.set ((wrap64 (x11+x17)):Int).toNat ((IntKind.u64.wrap ((IntKind.u64.wrap (rd x8 (wrap64 (x11+x17))))-(IntKind.u64.wrap ((Go.bits .and .u64 (IntKind.u64.wrap (x15+(IntKind.u64.wrap (x13*(IntKind.u64.wrap (rd x9 x17)))))) 4294967295)+x16))))%4294967296)) x9 x10 x11 x13 ((IntKind.u64.wrap (x15+(IntKind.u64.wrap (x13*(IntKind.u64.wrap (rd x9 x17))))))/4294967296) 0 (wrap64 (x17+1)))) else (none)) else (none)) else (none)) else (none)) else (if 0≤(wrap64 (x11+x6)) then (if (wrap64 (x11+x6))<(x8.length:Int) then ((some (x8.set ((wrap64 (x11+x6)):Int).toNat ((IntKind.u64.wrap ((IntKind.u64.wrap (rd x8 (wrap64 (x11+x6))))-(IntKind.u64.wrap (x15+x16))))%4294967296):List Int)).bind fun y343=>(if (IntKind.u64.wrap (rd x8 (wrap64 (x11+x6))))<(IntKind.u64.wrap (x15+x16)) then (insolvencyref1_long.l4 k x6 x7 y343 x9 x10 x11 (IntKind.u64.wrap (x13-1)) 0 0) else (if 0≤x11 then (if x11<(x10.length:Int) then (insolvencyref1_long.l1 k x6 x7 y343 x9 (x10.set (x11:Int).toNat ((x13)%4294967296)) (wrap64 (x11-1))) else (none)) else (none)))) else (none)) else (none))
def insolvencyref1_long.l4:Nat→Int→Int→List Int→List Int→List Int→Int→Int→Int→Int→Option (List Int×List Int)
 | 0,_,_,_,_,_,_,_,_,_=>none
 | k+1,x6,x7,x8,x9,x10,x11,x13,x15,x23=>if x23<x6 then (if 0≤(wrap64 (x11+x23)) then (if (wrap64 (x11+x23))<(x8.length:Int) then (if 0≤x23 then (if x23<(x9.length:Int) then (insolvencyref1_long.l4 k x6 x7 (x8.set ((wrap64 (x11+x23)):Int).toNat ((IntKind.u64.wrap ((IntKind.u64.wrap (x15+(IntKind.u64.wrap (rd x8 (wrap64 (x11+x23))))))+(IntKind.u64.wrap (rd x9 x23))))%4294967296)) x9 x10 x11 x13 ((IntKind.u64.wrap ((IntKind.u64.wrap (x15+(IntKind.u64.wrap (rd x8 (wrap64 (x11+x23))))))+(IntKind.u64.wrap (rd x9 x23))))/4294967296) (wrap64 (x23+1))) else (none)) else (none)) else (none)) else (none)) else (if 0≤(wrap64 (x11+x6)) then (if (wrap64 (x11+x6))<(x8.length:Int) then (if 0≤x11 then (if x11<(x10.length:Int) then (insolvencyref1_long.l1 k x6 x7 (x8.set ((wrap64 (x11+x6)):Int).toNat (((rd x8 (wrap64 (x11+x6)))+((x15)%4294967296))%4294967296)) x9 (x10.set (x11:Int).toNat ((x13)%4294967296)) (wrap64 (x11-1))) else (none)) else (none)) else (none)) else (none))
def insolvencyref1_long.l2:Nat→Int→Int→List Int→List Int→List Int→Int→Int→Int→Option (List Int×List Int)
 | 0,_,_,_,_,_,_,_,_=>none
 | k+1,x6,x7,x8,x9,x10,x11,x13,x14=>if x13≥4294967296 then (insolvencyref1_long.j3 k x6 x7 x8 x9 x10 x11 x13 x14 true) else (if 0≤(wrap64 (x6-2)) then (if (wrap64 (x6-2))<(x9.length:Int) then (if 0≤(wrap64 ((wrap64 (x11+x6))-2)) then (if (wrap64 ((wrap64 (x11+x6))-2))<(x8.length:Int) then (insolvencyref1_long.j3 k x6 x7 x8 x9 x10 x11 x13 x14 (decide ((IntKind.u64.wrap (x13*(IntKind.u64.wrap (rd x9 (wrap64 (x6-2))))))>(Go.bits .or .u64 (IntKind.u64.wrap (x14*4294967296)) (IntKind.u64.wrap (rd x8 (wrap64 ((wrap64 (x11+x6))-2)))))))) else (none)) else (none)) else (none)) else (none))
def insolvencyref1_long.j3:Nat→Int→Int→List Int→List Int→List Int→Int→Int→Int→Bool→Option (List Int×List Int)
 | 0,_,_,_,_,_,_,_,_,_=>none
 | k+1,x6,x7,x8,x9,x10,x11,x13,x14,x116=>if x116=true then (if 0≤(wrap64 (x6-1)) then (if (wrap64 (x6-1))<(x9.length:Int) then (if (IntKind.u64.wrap (x14+(IntKind.u64.wrap (rd x9 (wrap64 (x6-1))))))≥4294967296 then (insolvencyref1_long.j4 k x6 x7 x8 x9 x10 x11 (IntKind.u64.wrap (x13-1))) else (insolvencyref1_long.l2 k x6 x7 x8 x9 x10 x11 (IntKind.u64.wrap (x13-1)) (IntKind.u64.wrap (x14+(IntKind.u64.wrap (rd x9 (wrap64 (x6-1)))))))) else (none)) else (none)) else (insolvencyref1_long.j4 k x6 x7 x8 x9 x10 x11 x13)
def insolvencyref1_long.l5:Nat→Int→Int→List Int→List Int→List Int→Int→Option (List Int×List Int)
 | 0,_,_,_,_,_,_=>none
 | k+1,x6,x7,x8,x10,x24,x25=>if x25<x6 then (if 0≤(wrap64 (x25+1)) then (if (wrap64 (x25+1))<(x8.length:Int) then (if 0≤x25 then (if x25<(x8.length:Int) then (if 0≤x7 then (if x25<(x24.length:Int) then (insolvencyref1_long.l5 k x6 x7 x8 x10 (x24.set (x25:Int).toNat ((shr .u64 (Go.bits .or .u64 (IntKind.u64.wrap ((IntKind.u64.wrap (rd x8 (wrap64 (x25+1))))*4294967296)) (IntKind.u64.wrap (rd x8 x25))) x7)%4294967296)) (wrap64 (x25+1))) else (none)) else (none)) else (none)) else (none)) else (none)) else (none)) else ((insolvencyref1_strip.f k x10).bind fun t357=>((insolvencyref1_strip.f k x24).bind fun t360=>(some (t357,t360))))
end
def insolvencyref1_long.f (k:Nat) (l0:List Int) (l1:List Int):Option (List Int×List Int):=insolvencyref1_long.l0 k l0 l1 (l1.length:Int) 0
theorem insolvencyref1_long.own_len {A:Option Addr} {n m c:Nat} : (Value.slice A n c).ownBlock=(Value.slice A m c).ownBlock:=by cases A <;> rfl
theorem insolvencyref1_long.mono_l:∀ k,(∀ y0 y1 y2 y3,LeO (insolvencyref1_long.l0 k y0 y1 y2 y3) (insolvencyref1_long.l0 (k+1) y0 y1 y2 y3))∧(∀ y0 y1 y2 y3 y4 y5,LeO (insolvencyref1_long.l1 k y0 y1 y2 y3 y4 y5) (insolvencyref1_long.l1 (k+1) y0 y1 y2 y3 y4 y5))∧(∀ y0 y1 y2 y3 y4 y5 y6,LeO (insolvencyref1_long.j4 k y0 y1 y2 y3 y4 y5 y6) (insolvencyref1_long.j4 (k+1) y0 y1 y2 y3 y4 y5 y6))∧(∀ y0 y1 y2 y3 y4 y5 y6 y7 y8 y9,LeO (insolvencyref1_long.l3 k y0 y1 y2 y3 y4 y5 y6 y7 y8 y9) (insolvencyref1_long.l3 (k+1) y0 y1 y2 y3 y4 y5 y6 y7 y8 y9))∧(∀ y0 y1 y2 y3 y4 y5 y6 y7 y8,LeO (insolvencyref1_long.l4 k y0 y1 y2 y3 y4 y5 y6 y7 y8) (insolvencyref1_long.l4 (k+1) y0 y1 y2 y3 y4 y5 y6 y7 y8))∧(∀ y0 y1 y2 y3 y4 y5 y6 y7,LeO (insolvencyref1_long.l2 k y0 y1 y2 y3 y4 y5 y6 y7) (insolvencyref1_long.l2 (k+1) y0 y1 y2 y3 y4 y5 y6 y7))∧(∀ y0 y1 y2 y3 y4 y5 y6 y7 y8,LeO (insolvencyref1_long.j3 k y0 y1 y2 y3 y4 y5 y6 y7 y8) (insolvencyref1_long.j3 (k+1) y0 y1 y2 y3 y4 y5 y6 y7 y8))∧(∀ y0 y1 y2 y3 y4 y5,LeO (insolvencyref1_long.l5 k y0 y1 y2 y3 y4 y5) (insolvencyref1_long.l5 (k+1) y0 y1 y2 y3 y4 y5))
 | 0=>⟨fun _ _ _ _ r h=>by simp [insolvencyref1_long.l0] at h,fun _ _ _ _ _ _ r h=>by simp [insolvencyref1_long.l1] at h,fun _ _ _ _ _ _ _ r h=>by simp [insolvencyref1_long.j4] at h,fun _ _ _ _ _ _ _ _ _ _ r h=>by simp [insolvencyref1_long.l3] at h,fun _ _ _ _ _ _ _ _ _ r h=>by simp [insolvencyref1_long.l4] at h,fun _ _ _ _ _ _ _ _ r h=>by simp [insolvencyref1_long.l2] at h,fun _ _ _ _ _ _ _ _ _ r h=>by simp [insolvencyref1_long.j3] at h,fun _ _ _ _ _ _ r h=>by simp [insolvencyref1_long.l5] at h⟩
 | k+1=>by
  obtain ⟨ih0,ih1,ih2,ih3,ih4,ih5,ih6,ih7⟩:=insolvencyref1_long.mono_l k
  refine ⟨?_,?_,?_,?_,?_,?_,?_,?_⟩
  ·intro y0 y1 y2 y3
   unfold insolvencyref1_long.l0
   repeat' first
   | (with_reducible exact ih0 _ _ _ _)
   | (with_reducible exact ih1 _ _ _ _ _ _)
   | (with_reducible exact ih2 _ _ _ _ _ _ _)
   | (with_reducible exact ih3 _ _ _ _ _ _ _ _ _ _)
   | (with_reducible exact ih4 _ _ _ _ _ _ _ _ _)
   | (with_reducible exact ih5 _ _ _ _ _ _ _ _)
   | (with_reducible exact ih6 _ _ _ _ _ _ _ _ _)
   | (with_reducible exact ih7 _ _ _ _ _ _)
   | (with_reducible exact insolvencyref1_shifted.mono _ _ _)
   | (with_reducible exact insolvencyref1_strip.mono _ _)
   | (with_reducible exact LeO.refl _)
   | (with_reducible exact LeO.none _)
   | (with_reducible refine LeO.ite ?_ ?_)
   | (with_reducible refine LeO.bind ?_ (fun _=>?_))
   | exact ih0 _ _ _ _
   | exact ih1 _ _ _ _ _ _
   | exact ih2 _ _ _ _ _ _ _
   | exact ih3 _ _ _ _ _ _ _ _ _ _
   | exact ih4 _ _ _ _ _ _ _ _ _
   | exact ih5 _ _ _ _ _ _ _ _
   | exact ih6 _ _ _ _ _ _ _ _ _
   | exact ih7 _ _ _ _ _ _
   | exact insolvencyref1_shifted.mono _ _ _
   | exact insolvencyref1_strip.mono _ _
   | exact LeO.none _
   | refine LeO.ite ?_ ?_
   | refine LeO.bind ?_ (fun _=>?_)
  ·intro y0 y1 y2 y3 y4 y5
   unfold insolvencyref1_long.l1
   repeat' first
   | (with_reducible exact ih0 _ _ _ _)
   | (with_reducible exact ih1 _ _ _ _ _ _)
   | (with_reducible exact ih2 _ _ _ _ _ _ _)
   | (with_reducible exact ih3 _ _ _ _ _ _ _ _ _ _)
   | (with_reducible exact ih4 _ _ _ _ _ _ _ _ _)
   | (with_reducible exact ih5 _ _ _ _ _ _ _ _)
   | (with_reducible exact ih6 _ _ _ _ _ _ _ _ _)
   | (with_reducible exact ih7 _ _ _ _ _ _)
   | (with_reducible exact insolvencyref1_shifted.mono _ _ _)
   | (with_reducible exact insolvencyref1_strip.mono _ _)
   | (with_reducible exact LeO.refl _)
   | (with_reducible exact LeO.none _)
   | (with_reducible refine LeO.ite ?_ ?_)
   | (with_reducible refine LeO.bind ?_ (fun _=>?_))
   | exact ih0 _ _ _ _
   | exact ih1 _ _ _ _ _ _
   | exact ih2 _ _ _ _ _ _ _
   | exact ih3 _ _ _ _ _ _ _ _ _ _
   | exact ih4 _ _ _ _ _ _ _ _ _
   | exact ih5 _ _ _ _ _ _ _ _
   | exact ih6 _ _ _ _ _ _ _ _ _
   | exact ih7 _ _ _ _ _ _
   | exact insolvencyref1_shifted.mono _ _ _
   | exact insolvencyref1_strip.mono _ _
   | exact LeO.none _
   | refine LeO.ite ?_ ?_
   | refine LeO.bind ?_ (fun _=>?_)
  ·intro y0 y1 y2 y3 y4 y5 y6
   unfold insolvencyref1_long.j4
   repeat' first
   | (with_reducible exact ih0 _ _ _ _)
   | (with_reducible exact ih1 _ _ _ _ _ _)
   | (with_reducible exact ih2 _ _ _ _ _ _ _)
   | (with_reducible exact ih3 _ _ _ _ _ _ _ _ _ _)
   | (with_reducible exact ih4 _ _ _ _ _ _ _ _ _)
   | (with_reducible exact ih5 _ _ _ _ _ _ _ _)
   | (with_reducible exact ih6 _ _ _ _ _ _ _ _ _)
   | (with_reducible exact ih7 _ _ _ _ _ _)
   | (with_reducible exact insolvencyref1_shifted.mono _ _ _)
   | (with_reducible exact insolvencyref1_strip.mono _ _)
   | (with_reducible exact LeO.refl _)
   | (with_reducible exact LeO.none _)
   | (with_reducible refine LeO.ite ?_ ?_)
   | (with_reducible refine LeO.bind ?_ (fun _=>?_))
   | exact ih0 _ _ _ _
   | exact ih1 _ _ _ _ _ _
   | exact ih2 _ _ _ _ _ _ _
   | exact ih3 _ _ _ _ _ _ _ _ _ _
   | exact ih4 _ _ _ _ _ _ _ _ _
   | exact ih5 _ _ _ _ _ _ _ _
   | exact ih6 _ _ _ _ _ _ _ _ _
   | exact ih7 _ _ _ _ _ _
   | exact insolvencyref1_shifted.mono _ _ _
   | exact insolvencyref1_strip.mono _ _
   | exact LeO.none _
   | refine LeO.ite ?_ ?_
   | refine LeO.bind ?_ (fun _=>?_)
  ·intro y0 y1 y2 y3 y4 y5 y6 y7 y8 y9
   unfold insolvencyref1_long.l3
   repeat' first
   | (with_reducible exact ih0 _ _ _ _)
   | (with_reducible exact ih1 _ _ _ _ _ _)
   | (with_reducible exact ih2 _ _ _ _ _ _ _)
   | (with_reducible exact ih3 _ _ _ _ _ _ _ _ _ _)
   | (with_reducible exact ih4 _ _ _ _ _ _ _ _ _)
   | (with_reducible exact ih5 _ _ _ _ _ _ _ _)
   | (with_reducible exact ih6 _ _ _ _ _ _ _ _ _)
   | (with_reducible exact ih7 _ _ _ _ _ _)
   | (with_reducible exact insolvencyref1_shifted.mono _ _ _)
   | (with_reducible exact insolvencyref1_strip.mono _ _)
   | (with_reducible exact LeO.refl _)
   | (with_reducible exact LeO.none _)
   | (with_reducible refine LeO.ite ?_ ?_)
   | (with_reducible refine LeO.bind ?_ (fun _=>?_))
   | exact ih0 _ _ _ _
   | exact ih1 _ _ _ _ _ _
   | exact ih2 _ _ _ _ _ _ _
   | exact ih3 _ _ _ _ _ _ _ _ _ _
   | exact ih4 _ _ _ _ _ _ _ _ _
   | exact ih5 _ _ _ _ _ _ _ _
   | exact ih6 _ _ _ _ _ _ _ _ _
   | exact ih7 _ _ _ _ _ _
   | exact insolvencyref1_shifted.mono _ _ _
   | exact insolvencyref1_strip.mono _ _
   | exact LeO.none _
   | refine LeO.ite ?_ ?_
   | refine LeO.bind ?_ (fun _=>?_)
  ·intro y0 y1 y2 y3 y4 y5 y6 y7 y8
   unfold insolvencyref1_long.l4
   repeat' first
   | (with_reducible exact ih0 _ _ _ _)
   | (with_reducible exact ih1 _ _ _ _ _ _)
   | (with_reducible exact ih2 _ _ _ _ _ _ _)
   | (with_reducible exact ih3 _ _ _ _ _ _ _ _ _ _)
   | (with_reducible exact ih4 _ _ _ _ _ _ _ _ _)
   | (with_reducible exact ih5 _ _ _ _ _ _ _ _)
   | (with_reducible exact ih6 _ _ _ _ _ _ _ _ _)
   | (with_reducible exact ih7 _ _ _ _ _ _)
   | (with_reducible exact insolvencyref1_shifted.mono _ _ _)
   | (with_reducible exact insolvencyref1_strip.mono _ _)
   | (with_reducible exact LeO.refl _)
   | (with_reducible exact LeO.none _)
   | (with_reducible refine LeO.ite ?_ ?_)
   | (with_reducible refine LeO.bind ?_ (fun _=>?_))
   | exact ih0 _ _ _ _
   | exact ih1 _ _ _ _ _ _
   | exact ih2 _ _ _ _ _ _ _
   | exact ih3 _ _ _ _ _ _ _ _ _ _
   | exact ih4 _ _ _ _ _ _ _ _ _
   | exact ih5 _ _ _ _ _ _ _ _
   | exact ih6 _ _ _ _ _ _ _ _ _
   | exact ih7 _ _ _ _ _ _
   | exact insolvencyref1_shifted.mono _ _ _
   | exact insolvencyref1_strip.mono _ _
   | exact LeO.none _
   | refine LeO.ite ?_ ?_
   | refine LeO.bind ?_ (fun _=>?_)
  ·intro y0 y1 y2 y3 y4 y5 y6 y7
   unfold insolvencyref1_long.l2
   repeat' first
   | (with_reducible exact ih0 _ _ _ _)
   | (with_reducible exact ih1 _ _ _ _ _ _)
   | (with_reducible exact ih2 _ _ _ _ _ _ _)
   | (with_reducible exact ih3 _ _ _ _ _ _ _ _ _ _)
   | (with_reducible exact ih4 _ _ _ _ _ _ _ _ _)
   | (with_reducible exact ih5 _ _ _ _ _ _ _ _)
   | (with_reducible exact ih6 _ _ _ _ _ _ _ _ _)
   | (with_reducible exact ih7 _ _ _ _ _ _)
   | (with_reducible exact insolvencyref1_shifted.mono _ _ _)
   | (with_reducible exact insolvencyref1_strip.mono _ _)
   | (with_reducible exact LeO.refl _)
   | (with_reducible exact LeO.none _)
   | (with_reducible refine LeO.ite ?_ ?_)
   | (with_reducible refine LeO.bind ?_ (fun _=>?_))
   | exact ih0 _ _ _ _
   | exact ih1 _ _ _ _ _ _
   | exact ih2 _ _ _ _ _ _ _
   | exact ih3 _ _ _ _ _ _ _ _ _ _
   | exact ih4 _ _ _ _ _ _ _ _ _
   | exact ih5 _ _ _ _ _ _ _ _
   | exact ih6 _ _ _ _ _ _ _ _ _
   | exact ih7 _ _ _ _ _ _
   | exact insolvencyref1_shifted.mono _ _ _
   | exact insolvencyref1_strip.mono _ _
   | exact LeO.none _
   | refine LeO.ite ?_ ?_
   | refine LeO.bind ?_ (fun _=>?_)
  ·intro y0 y1 y2 y3 y4 y5 y6 y7 y8
   unfold insolvencyref1_long.j3
   repeat' first
   | (with_reducible exact ih0 _ _ _ _)
   | (with_reducible exact ih1 _ _ _ _ _ _)
   | (with_reducible exact ih2 _ _ _ _ _ _ _)
   | (with_reducible exact ih3 _ _ _ _ _ _ _ _ _ _)
   | (with_reducible exact ih4 _ _ _ _ _ _ _ _ _)
   | (with_reducible exact ih5 _ _ _ _ _ _ _ _)
   | (with_reducible exact ih6 _ _ _ _ _ _ _ _ _)
   | (with_reducible exact ih7 _ _ _ _ _ _)
   | (with_reducible exact insolvencyref1_shifted.mono _ _ _)
   | (with_reducible exact insolvencyref1_strip.mono _ _)
   | (with_reducible exact LeO.refl _)
   | (with_reducible exact LeO.none _)
   | (with_reducible refine LeO.ite ?_ ?_)
   | (with_reducible refine LeO.bind ?_ (fun _=>?_))
   | exact ih0 _ _ _ _
   | exact ih1 _ _ _ _ _ _
   | exact ih2 _ _ _ _ _ _ _
   | exact ih3 _ _ _ _ _ _ _ _ _ _
   | exact ih4 _ _ _ _ _ _ _ _ _
   | exact ih5 _ _ _ _ _ _ _ _
   | exact ih6 _ _ _ _ _ _ _ _ _
   | exact ih7 _ _ _ _ _ _
   | exact insolvencyref1_shifted.mono _ _ _
   | exact insolvencyref1_strip.mono _ _
   | exact LeO.none _
   | refine LeO.ite ?_ ?_
   | refine LeO.bind ?_ (fun _=>?_)
  ·intro y0 y1 y2 y3 y4 y5
   unfold insolvencyref1_long.l5
   repeat' first
   | (with_reducible exact ih0 _ _ _ _)
   | (with_reducible exact ih1 _ _ _ _ _ _)
   | (with_reducible exact ih2 _ _ _ _ _ _ _)
   | (with_reducible exact ih3 _ _ _ _ _ _ _ _ _ _)
   | (with_reducible exact ih4 _ _ _ _ _ _ _ _ _)
   | (with_reducible exact ih5 _ _ _ _ _ _ _ _)
   | (with_reducible exact ih6 _ _ _ _ _ _ _ _ _)
   | (with_reducible exact ih7 _ _ _ _ _ _)
   | (with_reducible exact insolvencyref1_shifted.mono _ _ _)
   | (with_reducible exact insolvencyref1_strip.mono _ _)
   | (with_reducible exact LeO.refl _)
   | (with_reducible exact LeO.none _)
   | (with_reducible refine LeO.ite ?_ ?_)
   | (with_reducible refine LeO.bind ?_ (fun _=>?_))
   | exact ih0 _ _ _ _
   | exact ih1 _ _ _ _ _ _
   | exact ih2 _ _ _ _ _ _ _
   | exact ih3 _ _ _ _ _ _ _ _ _ _
   | exact ih4 _ _ _ _ _ _ _ _ _
   | exact ih5 _ _ _ _ _ _ _ _
   | exact ih6 _ _ _ _ _ _ _ _ _
   | exact ih7 _ _ _ _ _ _
   | exact insolvencyref1_shifted.mono _ _ _
   | exact insolvencyref1_strip.mono _ _
   | exact LeO.none _
   | refine LeO.ite ?_ ?_
   | refine LeO.bind ?_ (fun _=>?_)
theorem insolvencyref1_long.mono:∀ a0 a1 k,LeO (insolvencyref1_long.f k a0 a1) (insolvencyref1_long.f (k+1) a0 a1):=by
 intro a0 a1 k
 obtain ⟨ih0,ih1,ih2,ih3,ih4,ih5,ih6,ih7⟩:=insolvencyref1_long.mono_l k
 unfold insolvencyref1_long.f
 repeat' first
  | (with_reducible exact ih0 _ _ _ _)
  | (with_reducible exact ih1 _ _ _ _ _ _)
  | (with_reducible exact ih2 _ _ _ _ _ _ _)
  | (with_reducible exact ih3 _ _ _ _ _ _ _ _ _ _)
  | (with_reducible exact ih4 _ _ _ _ _ _ _ _ _)
  | (with_reducible exact ih5 _ _ _ _ _ _ _ _)
  | (with_reducible exact ih6 _ _ _ _ _ _ _ _ _)
  | (with_reducible exact ih7 _ _ _ _ _ _)
  | (with_reducible exact insolvencyref1_shifted.mono _ _ _)
  | (with_reducible exact insolvencyref1_strip.mono _ _)
  | (with_reducible exact LeO.refl _)
  | (with_reducible exact LeO.none _)
  | (with_reducible refine LeO.ite ?_ ?_)
  | (with_reducible refine LeO.bind ?_ (fun _=>?_))
  | exact ih0 _ _ _ _
  | exact ih1 _ _ _ _ _ _
  | exact ih2 _ _ _ _ _ _ _
  | exact ih3 _ _ _ _ _ _ _ _ _ _
  | exact ih4 _ _ _ _ _ _ _ _ _
  | exact ih5 _ _ _ _ _ _ _ _
  | exact ih6 _ _ _ _ _ _ _ _ _
  | exact ih7 _ _ _ _ _ _
  | exact insolvencyref1_shifted.mono _ _ _
  | exact insolvencyref1_strip.mono _ _
  | exact LeO.none _
  | refine LeO.ite ?_ ?_
  | refine LeO.bind ?_ (fun _=>?_)
def insolvencyref1_long.T11:Bool×List (List Nat×List Nat):=(true,[([],[]),([],[]),([],[]),([1,2],[1,2]),([0,3],[0,3]),([4],[4]),([5],[5]),([6],[6]),([],[]),([],[]),([],[]),([9,10],[9,10]),([11],[11]),([8,12],[8,12]),([13],[13]),([14],[14]),([7,15],[7,15]),([16,0,1,2,3,4,5,6,7,8,9,10,11,12,13,14,15,16],[16])])
def insolvencyref1_long.B11:List Nat:=[0,0,0,6,15,31,63,127,0,0,0,1536,3584,7936,16128,32512,65535,131071]
theorem insolvencyref1_long.tab11:rtab .any (opsOf Tryd.f76 11)=insolvencyref1_long.T11:=by kernel_rfl
theorem insolvencyref1_long.bits11:waitsOk insolvencyref1_long.T11.2 insolvencyref1_long.B11=true:=by kernel_rfl
def insolvencyref1_long.T14:Bool×List (List Nat×List Nat):=(true,[([],[]),([0],[0]),([1],[1]),([2],[2]),([2],[2]),([2],[2]),([5,2],[2,5]),([4,6,2],[2,4,6]),([7,2],[2,7]),([8,2],[2,8]),([3,9,2],[2,3,9]),([2],[2]),([11,2],[2,11]),([2],[2]),([2],[2]),([2],[2]),([14,15,2],[2,14,15]),([16,2],[2,16]),([13,17,2],[2,13,17]),([18,2],[2,18]),([19,2],[2,19]),([12,20,2],[2,12,20]),([10,21,2],[2,10,21]),([2,22],[2,22])])
def insolvencyref1_long.B14:List Nat:=[0,1,3,7,7,7,39,119,247,503,1023,7,2055,7,7,7,49159,114695,253959,516103,1040391,2095111,4194303,8388607]
theorem insolvencyref1_long.tab14:rtab .any (opsOf Tryd.f76 14)=insolvencyref1_long.T14:=by kernel_rfl
theorem insolvencyref1_long.bits14:waitsOk insolvencyref1_long.T14.2 insolvencyref1_long.B14=true:=by kernel_rfl
def insolvencyref1_long.T42:Bool×List (List Nat×List Nat):=(true,[([],[]),([],[]),([],[]),([],[]),([2,3],[2,3]),([1,4],[1,4]),([5],[5]),([6],[6]),([0,7],[0,7]),([],[]),([],[]),([9,10],[9,10]),([11],[11]),([12],[12]),([8,13],[8,13]),([14,0,1,2,3,4,5,6,7,8,9,10,11,12,13,14],[0,14])])
def insolvencyref1_long.B42:List Nat:=[0,0,0,0,12,30,62,126,255,0,0,1536,3584,7680,16383,32767]
theorem insolvencyref1_long.tab42:rtab .any (opsOf Tryd.f76 42)=insolvencyref1_long.T42:=by kernel_rfl
theorem insolvencyref1_long.bits42:waitsOk insolvencyref1_long.T42.2 insolvencyref1_long.B42=true:=by kernel_rfl
def insolvencyref1_long.T51:Bool×List (List Nat×List Nat):=(true,[([],[]),([],[]),([],[]),([],[]),([3],[3]),([2,4],[2,4]),([5],[5]),([6],[6]),([7],[7]),([],[]),([],[]),([9,10],[9,10]),([11],[11]),([12],[12]),([8,13],[8,13]),([],[]),([14,15],[14,15]),([16],[16]),([0,1,0,1,2,3,4,5,6,7,8,9,10,11,12,13,14,15,16,17],[0,1]),([18,17,0,1,2,3,4,5,6,7,8,9,10,11,12,13,14,15,16,17],[17,18])])
def insolvencyref1_long.B51:List Nat:=[0,0,0,0,8,28,60,124,252,0,0,1536,3584,7680,16380,0,65532,131068,262143,524287]
theorem insolvencyref1_long.tab51:rtab .any (opsOf Tryd.f76 51)=insolvencyref1_long.T51:=by kernel_rfl
theorem insolvencyref1_long.bits51:waitsOk insolvencyref1_long.T51.2 insolvencyref1_long.B51=true:=by kernel_rfl
set_option maxHeartbeats 8000000 in
set_option maxRecDepth 100000 in
theorem insolvencyref1_long.calls (k:Nat) (A0:Option Addr) (c0:Nat) (l0:List Int) (A1:Option Addr) (c1:Nat) (l1:List Int) (r1:List Int) (r2:List Int) (w:World) (hr0:Kd.C (Kd.int .u32) w A0 l0.length l0) (hc0:l0.length≤c0) (hr1:Kd.C (Kd.int .u32) w A1 l1.length l1) (hc1:l1.length≤c1) (h:insolvencyref1_long.f k l0 l1=some (r1,r2)) :
 Calls Tryd.prog 76 #[.slice A0 l0.length c0,.slice A1 l1.length c1] w fun e w'=>∃ v0_ v1_:Value,e = .returned (.tuple #[v0_,v1_])∧Kd.R (Kd.int .u32) 60 w' w.heap.size (fun k_=>some k_≠(v1_:Value).ownBlock) v0_ r1∧Kd.R (Kd.int .u32) 60 w' w.heap.size (fun k_=>some k_≠(v0_:Value).ownBlock) v1_ r2∧Below w.heap.size w w':=by
 have HR0:=Aside0.mk hr0
 have HC0:=Aside0.mk hc0
 clear hr0 hc0
 have HR1:=Aside0.mk hr1
 have HC1:=Aside0.mk hc1
 clear hr1 hc1
 have HB:=Aside0.mk (Below.refl w.heap.size w)
 have H:(insolvencyref1_long.l0 k l0 l1 (l1.length:Int) 0)=some (r1,r2):=h
 clear h
 have H':=Aside0.mk H
 clear H
 go_enter Tryd.func76,Tryd.ntmps76
 go_wp2
 go_loopg [7] k (fun kq v7 w'=>∃ (x7_1:Int),v7 = .int .u64 x7_1∧Aside0 (insolvencyref1_long.l0 kq l0 l1 (l1.length:Int) x7_1=some (r1,r2))∧Aside0 (kq≤k)∧Aside0 (Below w.heap.size w w'))
 case atStart=>exact ⟨(0),(by first|rfl|(simp;done)|(simp [*];done)),H',⟨Nat.le_refl _⟩,⟨by repeat (first|(with_reducible first|exact HB.out|apply below_alloc|apply pw_below_drewN|apply below_drew1)|exact HB.out)⟩⟩
 case round=>
  clear H'
  try clear c1
  try clear p2
  obtain ⟨x7_1,rfl,HA,HK1,HB⟩:=hrel
  cases gk with
  | zero=>exact absurd HA.out (by simp [insolvencyref1_long.l0])
  | succ k1=>
   have H:=HA.out
   clear HA
   simp only [insolvencyref1_long.l0] at H
   obtain ⟨ji3,hji3⟩:∃ j_:Int,(wrap64 ((l1.length:Int)-1))=j_:=⟨_,rfl⟩
   replace H:(if 0≤(ji3) then (if (ji3)<(l1.length:Int) then (if 0≤x7_1 then (if (shl .u32 (rd l1 (ji3)) x7_1)<2147483648 then (insolvencyref1_long.l0 k1 l0 l1 (l1.length:Int) (IntKind.u64.wrap (x7_1+1))) else ((insolvencyref1_shifted.f k1 l0 x7_1).bind fun t319=>((insolvencyref1_shifted.f k1 l1 x7_1).bind fun t322=>(if 0≤(l1.length:Int) then (if (l1.length:Int)≤(t322.length:Int) then (if 0≤(wrap64 ((wrap64 ((l0.length:Int)-(l1.length:Int)))+1)) then (if (wrap64 ((wrap64 ((l0.length:Int)-(l1.length:Int)))+1):Int).toNat≤70368744177664 then (insolvencyref1_long.l1 k1 (l1.length:Int) x7_1 t319 (t322.take ((l1.length:Int):Int).toNat) (List.replicate (wrap64 ((wrap64 ((l0.length:Int)-(l1.length:Int)))+1):Int).toNat 0) (wrap64 ((l0.length:Int)-(l1.length:Int)))) else (none)) else (none)) else (none)) else (none))))) else (none)) else (none)) else (none))=some (r1,r2):=by first|(rw [hji3] at H;exact H)|(simp only [hji3] at H ⊢;exact H)
   have hji3w:(IntKind.i64.wrap ((l1.length:Int)-1))=ji3:=(i64_w _).trans hji3
   by_cases c4:0≤(ji3)
   ·rw [if_pos c4] at H
    have c4b0:decide (0≤(ji3))=true:=decide_eq_true c4
    clear c4
    by_cases c5:(ji3)<(l1.length:Int)
    ·rw [if_pos c5] at H
     have c5b0:decide ((ji3)<(l1.length:Int))=true:=decide_eq_true c5
     clear c5
     by_cases c6:0≤x7_1
     ·rw [if_pos c6] at H
      have c6b0:=eq_true c6
      have c6b1:decide (0≤x7_1)=true:=decide_eq_true c6
      clear c6
      obtain ⟨ji7,hji7⟩:∃ j_:Int,(shl .u32 (rd l1 (ji3)) x7_1)=j_:=⟨_,rfl⟩
      replace H:(if (ji7)<2147483648 then (insolvencyref1_long.l0 k1 l0 l1 (l1.length:Int) (IntKind.u64.wrap (x7_1+1))) else ((insolvencyref1_shifted.f k1 l0 x7_1).bind fun t319=>((insolvencyref1_shifted.f k1 l1 x7_1).bind fun t322=>(if 0≤(l1.length:Int) then (if (l1.length:Int)≤(t322.length:Int) then (if 0≤(wrap64 ((wrap64 ((l0.length:Int)-(l1.length:Int)))+1)) then (if (wrap64 ((wrap64 ((l0.length:Int)-(l1.length:Int)))+1):Int).toNat≤70368744177664 then (insolvencyref1_long.l1 k1 (l1.length:Int) x7_1 t319 (t322.take ((l1.length:Int):Int).toNat) (List.replicate (wrap64 ((wrap64 ((l0.length:Int)-(l1.length:Int)))+1):Int).toNat 0) (wrap64 ((l0.length:Int)-(l1.length:Int)))) else (none)) else (none)) else (none)) else (none)))))=some (r1,r2):=by first|(rw [hji7] at H;exact H)|(simp only [hji7] at H ⊢;exact H)
      have hji7_:(IntKind.u32.wrap ((rd l1 (ji3))*2 ^ min x7_1.toNat 32))=ji7:=hji7
      have hji7z:x7_1≤32→(IntKind.u32.wrap ((rd l1 (ji3))*2 ^ x7_1.toNat))=ji7:=shl_small hji7
      by_cases c8:(ji7)<2147483648
      ·rw [if_pos c8] at H
       have c8b0:decide ((ji7)<2147483648)=true:=decide_eq_true c8
       clear c8
       have H':=Aside0.mk H
       clear H
       have p318:0≤((ji3):Int):=of_decide_eq_true (by first|(with_reducible assumption)|assumption)
       have q318:(ji3)<(l1.length:Int):=of_decide_eq_true (by first|(with_reducible assumption)|assumption)
       obtain ⟨ad318,e318,hx318_0⟩:=Kd.at_int HR1.out (ji3) p318 q318
       cases e318
       replace hx318_0:=(HB.out.cell (World.block_lt_of_cell? w _ hx318_0)).trans hx318_0
       replace p318:=eq_true p318
       replace q318:=eq_true q318
       go_wp2
       go_roundg k1
       case measure=>have:=HK1.out;omega
       case rel=>exact ⟨(IntKind.u64.wrap (x7_1+1)),(by first|rfl|(simp;done)|(simp [*];done)),H',⟨by have:=HK1.out;omega⟩,⟨by repeat (first|(with_reducible first|exact HB.out|apply below_alloc|apply pw_below_drewN|apply below_drew1)|exact HB.out)⟩⟩
      ·rw [if_neg c8] at H
       have c8b0:decide ((ji7)<2147483648)=false:=decide_eq_false c8
       clear c8
       replace H:=Option.bind_eq_some_iff.mp H
       obtain ⟨t319,A90,H⟩:=H
       replace H:((insolvencyref1_shifted.f k1 l1 x7_1).bind fun t322=>(if 0≤(l1.length:Int) then (if (l1.length:Int)≤(t322.length:Int) then (if 0≤(wrap64 ((wrap64 ((l0.length:Int)-(l1.length:Int)))+1)) then (if (wrap64 ((wrap64 ((l0.length:Int)-(l1.length:Int)))+1):Int).toNat≤70368744177664 then (insolvencyref1_long.l1 k1 (l1.length:Int) x7_1 t319 (t322.take ((l1.length:Int):Int).toNat) (List.replicate (wrap64 ((wrap64 ((l0.length:Int)-(l1.length:Int)))+1):Int).toNat 0) (wrap64 ((l0.length:Int)-(l1.length:Int)))) else (none)) else (none)) else (none)) else (none)))=some (r1,r2):=H
       have A9:=Aside0.mk A90
       clear A90
       replace H:=Option.bind_eq_some_iff.mp H
       obtain ⟨t322,A100,H⟩:=H
       replace H:(if 0≤(l1.length:Int) then (if (l1.length:Int)≤(t322.length:Int) then (if 0≤(wrap64 ((wrap64 ((l0.length:Int)-(l1.length:Int)))+1)) then (if (wrap64 ((wrap64 ((l0.length:Int)-(l1.length:Int)))+1):Int).toNat≤70368744177664 then (insolvencyref1_long.l1 k1 (l1.length:Int) x7_1 t319 (t322.take ((l1.length:Int):Int).toNat) (List.replicate (wrap64 ((wrap64 ((l0.length:Int)-(l1.length:Int)))+1):Int).toNat 0) (wrap64 ((l0.length:Int)-(l1.length:Int)))) else (none)) else (none)) else (none)) else (none))=some (r1,r2):=H
       have A10:=Aside0.mk A100
       clear A100
       by_cases c11:0≤(l1.length:Int)
       ·rw [if_pos c11] at H
        have c11b0:=eq_true c11
        have c11b1:decide (0≤(l1.length:Int))=true:=decide_eq_true c11
        clear c11
        by_cases c12:(l1.length:Int)≤(t322.length:Int)
        ·rw [if_pos c12] at H
         have c12b0:=eq_true c12
         have c12b1:decide ((l1.length:Int)≤(t322.length:Int))=true:=decide_eq_true c12
         clear c12
         obtain ⟨y325,hy325⟩:∃ y_:List Int,y_=(t322.take ((l1.length:Int):Int).toNat):=⟨_,rfl⟩
         replace H:(if 0≤(wrap64 ((wrap64 ((l0.length:Int)-(l1.length:Int)))+1)) then (if (wrap64 ((wrap64 ((l0.length:Int)-(l1.length:Int)))+1):Int).toNat≤70368744177664 then (insolvencyref1_long.l1 k1 (l1.length:Int) x7_1 t319 y325 (List.replicate (wrap64 ((wrap64 ((l0.length:Int)-(l1.length:Int)))+1):Int).toNat 0) (wrap64 ((l0.length:Int)-(l1.length:Int)))) else (none)) else (none))=some (r1,r2):=by first|(rw [hy325];with_reducible exact H)|(have H2_:=(Option.bind_some _ _).symm.trans H;rw [hy325];with_reducible exact H2_)|(have H2_:=(Option.bind_some _ _).symm.trans H;with_reducible exact H2_)|with_reducible exact H|(rw [hy325];exact H)|exact H
         have Ny325:=Aside0.mk hy325
         clear hy325
         obtain ⟨ji13,hji13⟩:∃ j_:Int,(wrap64 ((wrap64 ((l0.length:Int)-(l1.length:Int)))+1))=j_:=⟨_,rfl⟩
         replace H:(if 0≤(ji13) then (if (ji13:Int).toNat≤70368744177664 then (insolvencyref1_long.l1 k1 (l1.length:Int) x7_1 t319 y325 (List.replicate (ji13:Int).toNat 0) (wrap64 ((l0.length:Int)-(l1.length:Int)))) else (none)) else (none))=some (r1,r2):=by first|(rw [hji13] at H;exact H)|(simp only [hji13] at H ⊢;exact H)
         (try rw [hji13] at A9)
         (try rw [hji13] at A10)
         have hji13w:(IntKind.i64.wrap ((wrap64 ((l0.length:Int)-(l1.length:Int)))+1))=ji13:=(i64_w _).trans hji13
         by_cases c14:0≤(ji13)
         ·rw [if_pos c14] at H
          have c14b0:=eq_true c14
          have c14b1:decide (0≤(ji13))=true:=decide_eq_true c14
          clear c14
          by_cases c15:(ji13:Int).toNat≤70368744177664
          ·rw [if_pos c15] at H
           have c15b0:=eq_true c15
           have c15b1:decide ((ji13:Int).toNat≤70368744177664)=true:=decide_eq_true c15
           clear c15
           obtain ⟨y328,hy328⟩:∃ y_:List Int,y_=(List.replicate (ji13:Int).toNat 0):=⟨_,rfl⟩
           replace H:(insolvencyref1_long.l1 k1 (l1.length:Int) x7_1 t319 y325 y328 (wrap64 ((l0.length:Int)-(l1.length:Int))))=some (r1,r2):=by first|(rw [hy328];with_reducible exact H)|(have H2_:=(Option.bind_some _ _).symm.trans H;rw [hy328];with_reducible exact H2_)|(have H2_:=(Option.bind_some _ _).symm.trans H;with_reducible exact H2_)|with_reducible exact H|(rw [hy328];exact H)|exact H
           have Ny328:=Aside0.mk hy328
           clear hy328
           have H':=Aside0.mk H
           clear H
           have p318:0≤((ji3):Int):=of_decide_eq_true (by first|(with_reducible assumption)|assumption)
           have q318:(ji3)<(l1.length:Int):=of_decide_eq_true (by first|(with_reducible assumption)|assumption)
           obtain ⟨ad318,e318,hx318_0⟩:=Kd.at_int HR1.out (ji3) p318 q318
           cases e318
           replace hx318_0:=(HB.out.cell (World.block_lt_of_cell? w _ hx318_0)).trans hx318_0
           replace p318:=eq_true p318
           replace q318:=eq_true q318
           go_wp2_with (first|((with_reducible refine gate_callee (f:=86) rfl ?_);refine goesL_ (some 40) rfl rfl Tryd.func86 (by kernel_rfl) rfl #[.slice A0 l0.length c0,.int .u64 x7_1] rfl (by (try simp only [List.map_toArray,List.map_cons,List.map_nil]);first|done|rfl|(simp only [List.length_drop,List.length_take];rfl)) ?_;(with_reducible refine (insolvencyref1_shifted.calls k1 _ _ l0 x7_1 t319 _ ?side1 ?side2 A9.out).mono ?_);(case side1=>repeat (first|exact (Kd.C_below HR0.out HB.out)|(with_reducible refine Kd.C_alloc ?_ _)|(with_reducible refine Kd.C_drewN ?_ _)|(with_reducible refine Kd.C_drew ?_)));(case side2=>exact HC0.out);rintro e w16 ⟨v320,rfl,ho0,hb⟩;refine ⟨_,rfl,?_⟩;have n0_:=Aside0.mk (Kd.R_lower ho0 (below_size (by repeat (first|(with_reducible first|exact HB.out|apply below_alloc|apply pw_below_drewN|apply below_drew1)|exact HB.out))));have n1_:=Aside0.mk (below_step (by repeat (first|(with_reducible first|exact HB.out|apply below_alloc|apply pw_below_drewN|apply below_drew1)|exact HB.out)) hb);clear HB;have HO321:=n0_;have HB:=n1_;clear n0_ n1_;(try clear hb);(try clear hb2);(try clear hk);(try clear hi);(try clear ho0))|((with_reducible refine gate_callee (f:=86) rfl ?_);refine goesL_ (some 43) rfl rfl Tryd.func86 (by kernel_rfl) rfl #[.slice (some ad318) l1.length c1,.int .u64 x7_1] rfl (by (try simp only [List.map_toArray,List.map_cons,List.map_nil]);first|done|rfl|(simp only [List.length_drop,List.length_take];rfl)) ?_;(with_reducible refine (insolvencyref1_shifted.calls k1 _ _ l1 x7_1 t322 _ ?side1 ?side2 A10.out).mono ?_);(case side1=>repeat (first|exact (Kd.C_below HR1.out HB.out)|(with_reducible refine Kd.C_alloc ?_ _)|(with_reducible refine Kd.C_drewN ?_ _)|(with_reducible refine Kd.C_drew ?_)));(case side2=>exact HC1.out);rintro e w17 ⟨v323,rfl,ho0,hb⟩;refine ⟨_,rfl,?_⟩;have n0_:=Aside0.mk (Kd.R_elder' (by (with_reducible repeat (first|apply Kd.R_alloc|apply Kd.R_drewN|apply Kd.R_drew));exact HO321.out) (Kd.R_base ho0) hb);have n1_:=Aside0.mk (Kd.R_lower (Kd.R_new' ho0 (Kd.R_lt (by (with_reducible repeat (first|apply Kd.R_alloc|apply Kd.R_drewN|apply Kd.R_drew));exact HO321.out))) (below_size (by repeat (first|(with_reducible first|exact HB.out|apply below_alloc|apply pw_below_drewN|apply below_drew1)|exact HB.out))));have n2_:=Aside0.mk (below_step (by repeat (first|(with_reducible first|exact HB.out|apply below_alloc|apply pw_below_drewN|apply below_drew1)|exact HB.out)) hb);clear HO321;clear HB;have HO321:=n0_;have HO324:=n1_;have HB:=n2_;clear n0_ n1_ n2_;(try clear hb);(try clear hb2);(try clear hk);(try clear hi);(try clear ho0);obtain ⟨Ao18,co18,eo18⟩:=Kd.R_slice HO324.out;subst eo18;have q19:((l1.length:Int):Int)≤((t322.length:Int):Int):=of_decide_eq_true (by first|(with_reducible assumption)|assumption);obtain ⟨i019,hi019,_,hsz19,_⟩:=info_parts info60;have hcut19:=cut_to (P:=Tryd.prog) 49 60 .i64 Tryd.underlying49 hi019 Ao18 t322.length co18 (l1.length:Int) (of_decide_eq_true (by first|(with_reducible assumption)|assumption)) q19 (Kd.R_reads' HO324.out).2.1;have hr19:=Kd.R_take (m:=((l1.length:Int):Int).toNat) HO324.out (by omega);have hy19:y325.length=((l1.length:Int):Int).toNat:=(by rw [Ny325.out,List.length_take];omega);rw [← Ny325.out] at hr19;rw [← hy19] at hr19 hcut19;clear hy19 hi019 hsz19 HO324;have HO327:=Aside0.mk hr19;clear hr19;replace q19:=eq_true q19)|((with_reducible refine gate_dst (N:=51) rfl ?_);refine Kd.R_make (Kd.int .u32) _ 60 rfl (N:=51) rfl 49 _ _ rfl ji13 rfl rfl Tryd.underlying49 (.int .u32 0) 4 info60 rfl (by decide) (by omega) 0 (ok:=fun _=>True) (okp:=fun _=>True) rfl (fun _ hk=>hk) trivial (of_decide_eq_true (by first|(with_reducible assumption)|assumption)) (Nat.le_trans (Nat.mul_le_mul_right _ (of_decide_eq_true (by first|(with_reducible assumption)|assumption):ji13.toNat≤70368744177664)) (by omega)) (Below.refl _ _) (Nat.le_refl _) ?_;intro v329 w20 ho21 hb hg_ hnew_;clear hg_ hnew_;(first|rw [← Ny328.out] at ho21|(simp only [Int.reduceToNat] at ho21;rw [← Ny328.out] at ho21));have n0_:=Aside0.mk (Kd.R_elder' (by (with_reducible repeat (first|apply Kd.R_alloc|apply Kd.R_drewN|apply Kd.R_drew));exact HO321.out) (Kd.R_base ho21) hb);have n1_:=Aside0.mk (Kd.R_elder' (by (with_reducible repeat (first|apply Kd.R_alloc|apply Kd.R_drewN|apply Kd.R_drew));exact HO327.out) (Kd.R_base ho21) hb);have n2_:=Aside0.mk (Kd.R_lower (Kd.R_new' (Kd.R_new' ho21 (Kd.R_lt (by (with_reducible repeat (first|apply Kd.R_alloc|apply Kd.R_drewN|apply Kd.R_drew));exact HO321.out))) (Kd.R_lt (by (with_reducible repeat (first|apply Kd.R_alloc|apply Kd.R_drewN|apply Kd.R_drew));exact HO327.out))) (below_size (by repeat (first|(with_reducible first|exact HB.out|apply below_alloc|apply pw_below_drewN|apply below_drew1)|exact HB.out))));have n3_:=Aside0.mk (below_step (by repeat (first|(with_reducible first|exact HB.out|apply below_alloc|apply pw_below_drewN|apply below_drew1)|exact HB.out)) hb);clear HO321;clear HO327;clear HB;have HO321:=n0_;have HO327:=n1_;have HO330:=n2_;have HB:=n3_;clear n0_ n1_ n2_ n3_;clear hb ho21))
           go_loopg [11] k1 (fun kq v11 w'=>∃ (x8_2:List Int) (x10_2:List Int) (x11_2:Int),v11 = .int .i64 x11_2∧Aside0 (insolvencyref1_long.l1 kq (l1.length:Int) x7_1 x8_2 y325 x10_2 x11_2=some (r1,r2))∧Aside0 (kq≤k1)∧Aside0 (Kd.R (Kd.int .u32) 60 w' w.heap.size (fun k_=>some k_≠((.slice Ao18 y325.length co18):Value).ownBlock∧some k_≠(v329:Value).ownBlock) v320 x8_2)∧Aside0 (Kd.R (Kd.int .u32) 60 w' w.heap.size (fun k_=>some k_≠(v320:Value).ownBlock∧some k_≠(v329:Value).ownBlock) (.slice Ao18 y325.length co18) y325)∧Aside0 (Kd.R (Kd.int .u32) 60 w' w.heap.size (fun k_=>some k_≠(v320:Value).ownBlock∧some k_≠((.slice Ao18 y325.length co18):Value).ownBlock) v329 x10_2)∧Aside0 (Below w.heap.size w w'))
           case atStart=>exact ⟨(t319),(y328),(wrap64 ((l0.length:Int)-(l1.length:Int))),(by first|rfl|(simp;done)|(simp [*];done)),H',⟨Nat.le_refl _⟩,⟨by (with_reducible repeat (first|apply Kd.R_alloc|apply Kd.R_drewN|apply Kd.R_drew));(first|exact Kd.R_mono HO321.out (fun _ hk=>⟨hk.1.2,hk.2⟩)|exact Kd.R_mono HO321.out (fun _ hk=>⟨fun e_=>hk.1.2 (e_.trans insolvencyref1_long.own_len),hk.2⟩)|exact Kd.R_mono HO321.out (fun _ hk=>⟨hk.1.2,fun e_=>hk.2 (e_.trans insolvencyref1_long.own_len)⟩))⟩,⟨by (with_reducible repeat (first|apply Kd.R_alloc|apply Kd.R_drewN|apply Kd.R_drew));(first|exact Kd.R_mono HO327.out (fun _ hk=>⟨hk.1.2,hk.2⟩)|exact Kd.R_mono HO327.out (fun _ hk=>⟨fun e_=>hk.1.2 (e_.trans insolvencyref1_long.own_len),hk.2⟩)|exact Kd.R_mono HO327.out (fun _ hk=>⟨hk.1.2,fun e_=>hk.2 (e_.trans insolvencyref1_long.own_len)⟩))⟩,⟨by (with_reducible repeat (first|apply Kd.R_alloc|apply Kd.R_drewN|apply Kd.R_drew));(first|exact Kd.R_mono HO330.out (fun _ hk=>⟨hk.1.2,hk.2⟩)|exact Kd.R_mono HO330.out (fun _ hk=>⟨fun e_=>hk.1.2 (e_.trans insolvencyref1_long.own_len),hk.2⟩)|exact Kd.R_mono HO330.out (fun _ hk=>⟨hk.1.2,fun e_=>hk.2 (e_.trans insolvencyref1_long.own_len)⟩))⟩,⟨by repeat (first|(with_reducible first|exact HB.out|apply below_alloc|apply pw_below_drewN|apply below_drew1)|exact HB.out)⟩⟩
           case round=>
            clear H'
            try clear c1
            try clear q1
            try clear p2
            try clear p3
            try clear q3
            try clear hx3
            try clear c4
            try clear c4b0
            try clear c5
            try clear c5b0
            try clear c6
            try clear c6b0
            try clear c6b1
            try clear p6
            try clear c7
            try clear c8
            try clear c8b0
            try clear c11
            try clear c11b0
            try clear c11b1
            try clear c12
            try clear c12b0
            try clear c12b1
            try clear c14
            try clear c14b0
            try clear c14b1
            try clear c15
            try clear c15b0
            try clear c15b1
            try clear q19
            try clear hx318_0
            try clear p2
            try clear p318
            try clear q19
            try clear q318
            obtain ⟨x8_2,x10_2,x11_2,rfl,HA,HK2,HO_8,HO_9,HO_10,HB⟩:=hrel
            cases gk with
            | zero=>exact absurd HA.out (by simp [insolvencyref1_long.l1])
            | succ k2=>
             have H:=HA.out
             clear HA
             simp only [insolvencyref1_long.l1] at H
             by_cases c22:x11_2≥0
             ·rw [if_pos c22] at H
              have c22b0:decide (0≤x11_2)=true:=decide_eq_true c22
              clear c22
              obtain ⟨ji23,hji23⟩:∃ j_:Int,(wrap64 (x11_2+(l1.length:Int)))=j_:=⟨_,rfl⟩
              replace H:(if 0≤(ji23) then (if (ji23)<(x8_2.length:Int) then (if 0≤(wrap64 ((ji23)-1)) then (if (wrap64 ((ji23)-1))<(x8_2.length:Int) then (if 0≤(wrap64 ((l1.length:Int)-1)) then (if (wrap64 ((l1.length:Int)-1))<(y325.length:Int) then (if (IntKind.u64.wrap (rd y325 (wrap64 ((l1.length:Int)-1))))=0 then (none) else (insolvencyref1_long.l2 k2 (l1.length:Int) x7_1 x8_2 y325 x10_2 x11_2 (IntKind.u64.wrap (Int.tdiv (Go.bits .or .u64 (IntKind.u64.wrap ((IntKind.u64.wrap (rd x8_2 (ji23)))*4294967296)) (IntKind.u64.wrap (rd x8_2 (wrap64 ((ji23)-1))))) (IntKind.u64.wrap (rd y325 (wrap64 ((l1.length:Int)-1)))))) (Int.tmod (Go.bits .or .u64 (IntKind.u64.wrap ((IntKind.u64.wrap (rd x8_2 (ji23)))*4294967296)) (IntKind.u64.wrap (rd x8_2 (wrap64 ((ji23)-1))))) (IntKind.u64.wrap (rd y325 (wrap64 ((l1.length:Int)-1))))))) else (none)) else (none)) else (none)) else (none)) else (none)) else (none))=some (r1,r2):=by first|(rw [hji23] at H;exact H)|(simp only [hji23] at H ⊢;exact H)
              have hji23w:(IntKind.i64.wrap (x11_2+(l1.length:Int)))=ji23:=(i64_w _).trans hji23
              by_cases c24:0≤(ji23)
              ·rw [if_pos c24] at H
               have c24b0:decide (0≤(ji23))=true:=decide_eq_true c24
               clear c24
               by_cases c25:(ji23)<(x8_2.length:Int)
               ·rw [if_pos c25] at H
                have c25b0:decide ((ji23)<(x8_2.length:Int))=true:=decide_eq_true c25
                clear c25
                obtain ⟨ji26,hji26⟩:∃ j_:Int,(wrap64 ((ji23)-1))=j_:=⟨_,rfl⟩
                replace H:(if 0≤(ji26) then (if (ji26)<(x8_2.length:Int) then (if 0≤(wrap64 ((l1.length:Int)-1)) then (if (wrap64 ((l1.length:Int)-1))<(y325.length:Int) then (if (IntKind.u64.wrap (rd y325 (wrap64 ((l1.length:Int)-1))))=0 then (none) else (insolvencyref1_long.l2 k2 (l1.length:Int) x7_1 x8_2 y325 x10_2 x11_2 (IntKind.u64.wrap (Int.tdiv (Go.bits .or .u64 (IntKind.u64.wrap ((IntKind.u64.wrap (rd x8_2 (ji23)))*4294967296)) (IntKind.u64.wrap (rd x8_2 (ji26)))) (IntKind.u64.wrap (rd y325 (wrap64 ((l1.length:Int)-1)))))) (Int.tmod (Go.bits .or .u64 (IntKind.u64.wrap ((IntKind.u64.wrap (rd x8_2 (ji23)))*4294967296)) (IntKind.u64.wrap (rd x8_2 (ji26)))) (IntKind.u64.wrap (rd y325 (wrap64 ((l1.length:Int)-1))))))) else (none)) else (none)) else (none)) else (none))=some (r1,r2):=by first|(rw [hji26] at H;exact H)|(simp only [hji26] at H ⊢;exact H)
                have hji26w:(IntKind.i64.wrap ((ji23)-1))=ji26:=(i64_w _).trans hji26
                by_cases c27:0≤(ji26)
                ·rw [if_pos c27] at H
                 have c27b0:decide (0≤(ji26))=true:=decide_eq_true c27
                 clear c27
                 by_cases c28:(ji26)<(x8_2.length:Int)
                 ·rw [if_pos c28] at H
                  have c28b0:decide ((ji26)<(x8_2.length:Int))=true:=decide_eq_true c28
                  clear c28
                  obtain ⟨ji29,hji29⟩:∃ j_:Int,(wrap64 ((l1.length:Int)-1))=j_:=⟨_,rfl⟩
                  replace H:(if 0≤(ji29) then (if (ji29)<(y325.length:Int) then (if (IntKind.u64.wrap (rd y325 (ji29)))=0 then (none) else (insolvencyref1_long.l2 k2 (l1.length:Int) x7_1 x8_2 y325 x10_2 x11_2 (IntKind.u64.wrap (Int.tdiv (Go.bits .or .u64 (IntKind.u64.wrap ((IntKind.u64.wrap (rd x8_2 (ji23)))*4294967296)) (IntKind.u64.wrap (rd x8_2 (ji26)))) (IntKind.u64.wrap (rd y325 (ji29))))) (Int.tmod (Go.bits .or .u64 (IntKind.u64.wrap ((IntKind.u64.wrap (rd x8_2 (ji23)))*4294967296)) (IntKind.u64.wrap (rd x8_2 (ji26)))) (IntKind.u64.wrap (rd y325 (ji29)))))) else (none)) else (none))=some (r1,r2):=by first|(rw [hji29] at H;exact H)|(simp only [hji29] at H ⊢;exact H)
                  have hji29w:(IntKind.i64.wrap ((l1.length:Int)-1))=ji29:=(i64_w _).trans hji29
                  (try clear hji3w);(try clear hji3)
                  by_cases c30:0≤(ji29)
                  ·rw [if_pos c30] at H
                   have c30b0:decide (0≤(ji29))=true:=decide_eq_true c30
                   clear c30
                   by_cases c31:(ji29)<(y325.length:Int)
                   ·rw [if_pos c31] at H
                    have c31b0:decide ((ji29)<(y325.length:Int))=true:=decide_eq_true c31
                    clear c31
                    by_cases c32:(IntKind.u64.wrap (rd y325 (ji29)))=0
                    ·rw [if_pos c32] at H
                     exact absurd H (by simp)
                    ·rw [if_neg c32] at H
                     have c32b0:((IntKind.u64.wrap (rd y325 (ji29))) == 0)=false:=beq_eq_false_iff_ne.mpr c32
                     have c32b1:((IntKind.u64.wrap (rd y325 (ji29))) != 0)=true:=bne_iff_ne.mpr c32
                     have HC33:=Aside0.mk H
                     clear H
                     try go_wp2
                     have n0_:=Aside0.mk (Kd.R_drew HO_8.out)
                     have n1_:=Aside0.mk (Kd.R_drew HO_9.out)
                     have n2_:=Aside0.mk (Kd.R_drew HO_10.out)
                     have n3_:=Aside0.mk (below_drew1 HB.out)
                     clear HO_8
                     clear HO_9
                     clear HO_10
                     clear HB
                     have HO_8:=n0_
                     have HO_9:=n1_
                     have HO_10:=n2_
                     have HB:=n3_
                     clear n0_ n1_ n2_ n3_
                     obtain ⟨Ao35,co35,eo35⟩:=Kd.R_slice HO_8.out
                     (first|subst eo35|(injection eo35 with f1_ f2_ f3_;have f4_:=f1_.symm;have f5_:=f3_.symm;clear f1_ f2_ f3_;subst f4_;subst f5_))
                     have p331:0≤((ji23):Int):=of_decide_eq_true (by first|(with_reducible assumption)|assumption)
                     have q331:(ji23)<(x8_2.length:Int):=of_decide_eq_true (by first|(with_reducible assumption)|assumption)
                     obtain ⟨ad331,e331,hx331_0⟩:=Kd.at_int (Kd.R_reads' HO_8.out).2.2 (ji23) p331 q331
                     cases e331
                     replace p331:=eq_true p331
                     replace q331:=eq_true q331
                     have p332:0≤((ji26):Int):=of_decide_eq_true (by first|(with_reducible assumption)|assumption)
                     have q332:(ji26)<(x8_2.length:Int):=of_decide_eq_true (by first|(with_reducible assumption)|assumption)
                     obtain ⟨ad332,e332,hx332_0⟩:=Kd.at_int (Kd.R_reads' HO_8.out).2.2 (ji26) p332 q332
                     obtain rfl:ad331=ad332:=(by injection e332)
                     replace p332:=eq_true p332
                     replace q332:=eq_true q332
                     refine start_ (n:=18) (S:=fun w'=>w'.cell? (ad331.add ((ji23)).toNat)=some (.int .u32 (rd x8_2 (ji23)))∧w'.cell? (ad331.add ((ji26)).toNat)=some (.int .u32 (rd x8_2 (ji26)))) (ds:=[]) #[false,false,false,false,false,false,false,false,false,false,false,false,false,false,false,false,false,false] (by kernel_rfl) rfl rfl ⟨hx331_0,hx332_0⟩ (fun hHeld=>?_);refine with_tabW insolvencyref1_long.tab11 insolvencyref1_long.bits11 (fun HT_ HW_=>?_)
                     generalize wr.drew=w34 at HO_8 HO_9 HO_10 HB hx331_0 hx332_0 hHeld ⊢
                     refine pure_ (i:=0) (N:=some 60) (v:=?_) (a':=?_) #[true,false,false,false,false,false,false,false,false,false,false,false,false,false,false,false,false,false] rfl rfl (any_of HT_.out (by kernel_rfl)) (fun _ _ _ h=>h) (Or.inl ⟨by rfl,?_⟩) ?_ ?_
                     rotate_left
                     ·intro w'
                      go_simp
                      with_reducible rfl
                     rotate_left
                     ·simp only [Act.put,List.setIfInBounds_toArray,List.set_cons_zero,List.set_cons_succ,i64_w,i32_w]
                      rfl
                     refine pure_ (i:=1) (N:=some 61) (v:=?_) (a':=?_) #[true,true,false,false,false,false,false,false,false,false,false,false,false,false,false,false,false,false] rfl rfl (any_of HT_.out (by kernel_rfl)) (fun _ _ _ h=>h) (Or.inl ⟨by rfl,?_⟩) ?_ ?_
                     rotate_left
                     ·intro w'
                      go_simp
                      with_reducible rfl
                     rotate_left
                     ·simp only [Act.put,List.setIfInBounds_toArray,List.set_cons_zero,List.set_cons_succ,i64_w,i32_w]
                      rfl
                     refine pure_ (i:=2) (N:=some 62) (v:=?_) (a':=?_) #[true,true,true,false,false,false,false,false,false,false,false,false,false,false,false,false,false,false] rfl rfl (any_of HT_.out (by kernel_rfl)) (fun _ _ _ h=>h) (Or.inl ⟨by rfl,?_⟩) ?_ ?_
                     rotate_left
                     ·intro w'
                      go_simp
                      with_reducible rfl
                     rotate_left
                     ·simp only [Act.put,List.setIfInBounds_toArray,List.set_cons_zero,List.set_cons_succ,i64_w,i32_w]
                      rfl
                     refine pure_ (i:=3) (N:=some 63) (v:=?_) (a':=?_) #[true,true,true,true,false,false,false,false,false,false,false,false,false,false,false,false,false,false] rfl rfl (any_of HT_.out (by kernel_rfl)) (fun _ _ _ h=>h) (Or.inl ⟨by rfl,?_⟩) ?_ ?_
                     rotate_left
                     ·intro w'
                      go_simp
                      with_reducible rfl
                     rotate_left
                     ·simp only [Act.put,List.setIfInBounds_toArray,List.set_cons_zero,List.set_cons_succ,i64_w,i32_w]
                      rfl
                     refine pure_ (i:=4) (N:=some 64) (v:=?_) (a':=?_) #[true,true,true,true,true,false,false,false,false,false,false,false,false,false,false,false,false,false] rfl rfl (any_of HT_.out (by kernel_rfl)) (fun _ _ _ h=>h) (Or.inl ⟨by rfl,?_⟩) ?_ ?_
                     rotate_left
                     ·intro w'
                      go_simp
                      with_reducible rfl
                     rotate_left
                     ·simp only [Act.put,List.setIfInBounds_toArray,List.set_cons_zero,List.set_cons_succ,i64_w,i32_w]
                      rfl
                     refine pure_ (i:=8) (N:=some 68) (v:=?_) (a':=?_) #[true,true,true,true,true,false,false,false,true,false,false,false,false,false,false,false,false,false] rfl rfl (any_of HT_.out (by kernel_rfl)) (fun _ _ _ h=>h) (Or.inl ⟨by rfl,?_⟩) ?_ ?_
                     rotate_left
                     ·intro w'
                      go_simp
                      with_reducible rfl
                     rotate_left
                     ·simp only [Act.put,List.setIfInBounds_toArray,List.set_cons_zero,List.set_cons_succ,i64_w,i32_w]
                      rfl
                     refine pure_ (i:=9) (N:=some 69) (v:=?_) (a':=?_) #[true,true,true,true,true,false,false,false,true,true,false,false,false,false,false,false,false,false] rfl rfl (any_of HT_.out (by kernel_rfl)) (fun _ _ _ h=>h) (Or.inl ⟨by rfl,?_⟩) ?_ ?_
                     rotate_left
                     ·intro w'
                      go_simp
                      with_reducible rfl
                     rotate_left
                     ·simp only [Act.put,List.setIfInBounds_toArray,List.set_cons_zero,List.set_cons_succ,i64_w,i32_w]
                      rfl
                     refine pure_ (i:=10) (N:=some 70) (v:=?_) (a':=?_) #[true,true,true,true,true,false,false,false,true,true,true,false,false,false,false,false,false,false] rfl rfl (any_of HT_.out (by kernel_rfl)) (fun _ _ _ h=>h) (Or.inl ⟨by rfl,?_⟩) ?_ ?_
                     rotate_left
                     ·intro w'
                      go_simp
                      with_reducible rfl
                     rotate_left
                     ·simp only [Act.put,List.setIfInBounds_toArray,List.set_cons_zero,List.set_cons_succ,i64_w,i32_w]
                      rfl
                     refine pure_ (i:=11) (N:=some 71) (v:=?_) (a':=?_) #[true,true,true,true,true,false,false,false,true,true,true,true,false,false,false,false,false,false] rfl rfl (any_of HT_.out (by kernel_rfl)) (fun _ _ _ h=>h) (Or.inl ⟨by rfl,?_⟩) ?_ ?_
                     rotate_left
                     ·intro w'
                      go_simp
                      with_reducible rfl
                     rotate_left
                     ·simp only [Act.put,List.setIfInBounds_toArray,List.set_cons_zero,List.set_cons_succ,i64_w,i32_w]
                      rfl
                     refine pure_ (i:=12) (N:=some 72) (v:=?_) (a':=?_) #[true,true,true,true,true,false,false,false,true,true,true,true,true,false,false,false,false,false] rfl rfl (any_of HT_.out (by kernel_rfl)) (fun _ _ _ h=>h) (Or.inl ⟨by rfl,?_⟩) ?_ ?_
                     rotate_left
                     ·intro w'
                      go_simp
                      with_reducible rfl
                     rotate_left
                     ·simp only [Act.put,List.setIfInBounds_toArray,List.set_cons_zero,List.set_cons_succ,i64_w,i32_w]
                      rfl
                     refine pure_ (i:=13) (N:=some 73) (v:=?_) (a':=?_) #[true,true,true,true,true,false,false,false,true,true,true,true,true,true,false,false,false,false] rfl rfl (any_of HT_.out (by kernel_rfl)) (fun _ _ _ h=>h) (Or.inl ⟨by rfl,?_⟩) ?_ ?_
                     rotate_left
                     ·intro w'
                      go_simp
                      with_reducible rfl
                     rotate_left
                     ·simp only [Act.put,List.setIfInBounds_toArray,List.set_cons_zero,List.set_cons_succ,i64_w,i32_w]
                      rfl
                     refine take_ (i:=5) (N:=some 65) (v:=?_) (a':=?_) #[true,true,true,true,true,true,false,false,true,true,true,true,true,true,false,false,false,false] rfl rfl (take_ofW HT_.out HW_.out (by kernel_rfl)) (fun _ _ _ h=>h) (Or.inl ⟨by rfl,?_⟩) hHeld ?_ ?_
                     rotate_left
                     ·rintro w' ⟨s0,s1⟩
                      go_simp
                      with_reducible rfl
                     rotate_left
                     ·simp only [Act.put,List.setIfInBounds_toArray,List.set_cons_zero,List.set_cons_succ,i64_w,i32_w]
                      rfl
                     refine pure_ (i:=6) (N:=some 66) (v:=?_) (a':=?_) #[true,true,true,true,true,true,true,false,true,true,true,true,true,true,false,false,false,false] rfl rfl (any_of HT_.out (by kernel_rfl)) (fun _ _ _ h=>h) (Or.inl ⟨by rfl,?_⟩) ?_ ?_
                     rotate_left
                     ·intro w'
                      go_simp
                      with_reducible rfl
                     rotate_left
                     ·simp only [Act.put,List.setIfInBounds_toArray,List.set_cons_zero,List.set_cons_succ,i64_w,i32_w]
                      rfl
                     refine pure_ (i:=7) (N:=some 67) (v:=?_) (a':=?_) #[true,true,true,true,true,true,true,true,true,true,true,true,true,true,false,false,false,false] rfl rfl (any_of HT_.out (by kernel_rfl)) (fun _ _ _ h=>h) (Or.inl ⟨by rfl,?_⟩) ?_ ?_
                     rotate_left
                     ·intro w'
                      go_simp
                      with_reducible rfl
                     rotate_left
                     ·simp only [Act.put,List.setIfInBounds_toArray,List.set_cons_zero,List.set_cons_succ,i64_w,i32_w]
                      rfl
                     refine take_ (i:=14) (N:=some 74) (v:=?_) (a':=?_) #[true,true,true,true,true,true,true,true,true,true,true,true,true,true,true,false,false,false] rfl rfl (take_ofW HT_.out HW_.out (by kernel_rfl)) (fun _ _ _ h=>h) (Or.inl ⟨by rfl,?_⟩) hHeld ?_ ?_
                     rotate_left
                     ·rintro w' ⟨s0,s1⟩
                      go_simp
                      with_reducible rfl
                     rotate_left
                     ·simp only [Act.put,List.setIfInBounds_toArray,List.set_cons_zero,List.set_cons_succ,i64_w,i32_w]
                      rfl
                     refine pure_ (i:=15) (N:=some 75) (v:=?_) (a':=?_) #[true,true,true,true,true,true,true,true,true,true,true,true,true,true,true,true,false,false] rfl rfl (any_of HT_.out (by kernel_rfl)) (fun _ _ _ h=>h) (Or.inl ⟨by rfl,?_⟩) ?_ ?_
                     rotate_left
                     ·intro w'
                      go_simp
                      with_reducible rfl
                     rotate_left
                     ·simp only [Act.put,List.setIfInBounds_toArray,List.set_cons_zero,List.set_cons_succ,i64_w,i32_w]
                      rfl
                     refine pure_ (i:=16) (N:=some 76) (v:=?_) (a':=?_) #[true,true,true,true,true,true,true,true,true,true,true,true,true,true,true,true,true,false] rfl rfl (any_of HT_.out (by kernel_rfl)) (fun _ _ _ h=>h) (Or.inl ⟨by rfl,?_⟩) ?_ ?_
                     rotate_left
                     ·intro w'
                      go_simp
                      with_reducible rfl
                     rotate_left
                     ·simp only [Act.put,List.setIfInBounds_toArray,List.set_cons_zero,List.set_cons_succ,i64_w,i32_w]
                      rfl
                     refine pure_ (i:=17) (N:=some 12) (v:=?_) (a':=?_) #[true,true,true,true,true,true,true,true,true,true,true,true,true,true,true,true,true,true] rfl rfl (any_of HT_.out (by kernel_rfl)) (fun _ _ _ h=>h) (Or.inl ⟨by rfl,?_⟩) ?_ ?_
                     rotate_left
                     ·intro w'
                      go_simp
                      with_reducible rfl
                     rotate_left
                     ·simp only [Act.put,List.setIfInBounds_toArray,List.set_cons_zero,List.set_cons_succ,i64_w,i32_w]
                      rfl
                     refine done_ (done_of HT_.out (by kernel_rfl)) ?_
                     have p333:0≤((ji29):Int):=of_decide_eq_true (by first|(with_reducible assumption)|assumption)
                     have q333:(ji29)<(y325.length:Int):=of_decide_eq_true (by first|(with_reducible assumption)|assumption)
                     obtain ⟨ad333,e333,hx333_0⟩:=Kd.at_int (Kd.R_reads' HO_9.out).2.2 (ji29) p333 q333
                     cases e333
                     replace p333:=eq_true p333
                     replace q333:=eq_true q333
                     have p334:0≤((ji29):Int):=of_decide_eq_true (by first|(with_reducible assumption)|assumption)
                     have q334:(ji29)<(y325.length:Int):=of_decide_eq_true (by first|(with_reducible assumption)|assumption)
                     obtain ⟨ad334,e334,hx334_0⟩:=Kd.at_int (Kd.R_reads' HO_9.out).2.2 (ji29) p334 q334
                     obtain rfl:ad333=ad334:=(by injection e334)
                     replace p334:=eq_true p334
                     replace q334:=eq_true q334
                     go_upto_block 4 with (fail)
                     go_cut [13] (fun v13 wc=>∃ (kq:Nat) (x13_32:Int),v13 = .int .u64 x13_32∧Aside0 (insolvencyref1_long.j4 kq (l1.length:Int) x7_1 x8_2 y325 x10_2 x11_2 x13_32=some (r1,r2))∧Aside0 (kq≤k2)∧Aside0 (Kd.R (Kd.int .u32) 60 wc w.heap.size (fun k_=>some k_≠((.slice (some ad333) y325.length co18):Value).ownBlock∧some k_≠(v329:Value).ownBlock) (.slice (some ad331) x8_2.length co35) x8_2)∧Aside0 (Kd.R (Kd.int .u32) 60 wc w.heap.size (fun k_=>some k_≠((.slice (some ad331) x8_2.length co35):Value).ownBlock∧some k_≠(v329:Value).ownBlock) (.slice (some ad333) y325.length co18) y325)∧Aside0 (Kd.R (Kd.int .u32) 60 wc w.heap.size (fun k_=>some k_≠((.slice (some ad331) x8_2.length co35):Value).ownBlock∧some k_≠((.slice (some ad333) y325.length co18):Value).ownBlock) v329 x10_2)∧Aside0 (Below w.heap.size w wc))
                     case first=>
                      have H:=HC33.out
                      clear HC33
                      have H':=Aside0.mk H
                      clear H
                      go_wp2
                      go_loopg [13,14] k2 (fun kq v13 v14 w'=>∃ (x13_3:Int) (x14_3:Int),v13 = .int .u64 x13_3∧v14 = .int .u64 x14_3∧Aside0 (insolvencyref1_long.l2 kq (l1.length:Int) x7_1 x8_2 y325 x10_2 x11_2 x13_3 x14_3=some (r1,r2))∧Aside0 (kq≤k2)∧Aside0 (Kd.R (Kd.int .u32) 60 w' w.heap.size (fun k_=>some k_≠((.slice (some ad333) y325.length co18):Value).ownBlock∧some k_≠(v329:Value).ownBlock) (.slice (some ad331) x8_2.length co35) x8_2)∧Aside0 (Kd.R (Kd.int .u32) 60 w' w.heap.size (fun k_=>some k_≠((.slice (some ad331) x8_2.length co35):Value).ownBlock∧some k_≠(v329:Value).ownBlock) (.slice (some ad333) y325.length co18) y325)∧Aside0 (Kd.R (Kd.int .u32) 60 w' w.heap.size (fun k_=>some k_≠((.slice (some ad331) x8_2.length co35):Value).ownBlock∧some k_≠((.slice (some ad333) y325.length co18):Value).ownBlock) v329 x10_2)∧Aside0 (Below w.heap.size w w'))
                      case atStart=>exact ⟨(IntKind.u64.wrap (Int.tdiv (Go.bits .or .u64 (IntKind.u64.wrap ((IntKind.u64.wrap (rd x8_2 (ji23)))*4294967296)) (IntKind.u64.wrap (rd x8_2 (ji26)))) (IntKind.u64.wrap (rd y325 (ji29))))),(Int.tmod (Go.bits .or .u64 (IntKind.u64.wrap ((IntKind.u64.wrap (rd x8_2 (ji23)))*4294967296)) (IntKind.u64.wrap (rd x8_2 (ji26)))) (IntKind.u64.wrap (rd y325 (ji29)))),(by first|rfl|(simp;done)|(simp only [← hji23,← hji26,← hji29] <;> (first|rfl|simp))|(simp [*];done)),(by first|rfl|(simp;done)|(simp only [← hji23,← hji26,← hji29] <;> (first|rfl|simp))|(simp [*];done)),H',⟨Nat.le_refl _⟩,⟨by (with_reducible repeat (first|apply Kd.R_alloc|apply Kd.R_drewN|apply Kd.R_drew));exact HO_8.out⟩,⟨by (with_reducible repeat (first|apply Kd.R_alloc|apply Kd.R_drewN|apply Kd.R_drew));exact HO_9.out⟩,⟨by (with_reducible repeat (first|apply Kd.R_alloc|apply Kd.R_drewN|apply Kd.R_drew));exact HO_10.out⟩,⟨by repeat (first|(with_reducible first|exact HB.out|apply below_alloc|apply pw_below_drewN|apply below_drew1)|exact HB.out)⟩⟩
                      case round=>
                       clear H'
                       try clear c1
                       try clear q1
                       try clear c2
                       try clear p2
                       try clear c3
                       try clear p3
                       try clear q3
                       try clear hx3
                       try clear c4
                       try clear c4b0
                       try clear c5
                       try clear c5b0
                       try clear c6
                       try clear c6b0
                       try clear c6b1
                       try clear p6
                       try clear c7
                       try clear c8
                       try clear c8b0
                       try clear c11
                       try clear c11b0
                       try clear c11b1
                       try clear c12
                       try clear c12b0
                       try clear c12b1
                       try clear c14
                       try clear c14b0
                       try clear c14b1
                       try clear c15
                       try clear c15b0
                       try clear c15b1
                       try clear q19
                       try clear c22
                       try clear c22b0
                       try clear c24
                       try clear c24b0
                       try clear c25
                       try clear c25b0
                       try clear c27
                       try clear c27b0
                       try clear c28
                       try clear c28b0
                       try clear c30
                       try clear c30b0
                       try clear c31
                       try clear c31b0
                       try clear p31
                       try clear q31
                       try clear hx31
                       try clear c32
                       try clear c32b0
                       try clear c32b1
                       try clear p33
                       try clear q33
                       try clear hx33
                       try clear hx318_0
                       try clear hx331_0
                       try clear hx332_0
                       try clear hx333_0
                       try clear hx334_0
                       try clear p2
                       try clear p3
                       try clear p318
                       try clear p331
                       try clear p332
                       try clear p333
                       try clear p334
                       try clear p6
                       try clear q1
                       try clear q19
                       try clear q3
                       try clear q318
                       try clear q331
                       try clear q332
                       try clear q333
                       try clear q334
                       obtain ⟨x13_3,x14_3,rfl,rfl,HA,HK3,HO_8,HO_9,HO_10,HB⟩:=hrel
                       cases gk with
                       | zero=>exact absurd HA.out (by simp [insolvencyref1_long.l2])
                       | succ k3=>
                        have H:=HA.out
                        clear HA
                        simp only [insolvencyref1_long.l2] at H
                        have HC36:=Aside0.mk H
                        clear H
                        go_upto_region 14 with (fail)
                        go_cut [116] (fun v116 wc=>∃ (kq:Nat) (x116_35:Bool),v116 = .bool x116_35∧Aside0 (insolvencyref1_long.j3 kq (l1.length:Int) x7_1 x8_2 y325 x10_2 x11_2 x13_3 x14_3 x116_35=some (r1,r2))∧Aside0 (kq≤k3)∧Aside0 (Kd.R (Kd.int .u32) 60 wc w.heap.size (fun k_=>some k_≠((.slice (some ad333) y325.length co18):Value).ownBlock∧some k_≠(v329:Value).ownBlock) (.slice (some ad331) x8_2.length co35) x8_2)∧Aside0 (Kd.R (Kd.int .u32) 60 wc w.heap.size (fun k_=>some k_≠((.slice (some ad331) x8_2.length co35):Value).ownBlock∧some k_≠(v329:Value).ownBlock) (.slice (some ad333) y325.length co18) y325)∧Aside0 (Kd.R (Kd.int .u32) 60 wc w.heap.size (fun k_=>some k_≠((.slice (some ad331) x8_2.length co35):Value).ownBlock∧some k_≠((.slice (some ad333) y325.length co18):Value).ownBlock) v329 x10_2)∧Aside0 (Below w.heap.size w wc))
                        case first=>
                         have H:=HC36.out
                         clear HC36
                         by_cases c37:x13_3≥4294967296
                         ·rw [if_pos c37] at H
                          have c37b0:decide (4294967296≤x13_3)=true:=decide_eq_true c37
                          clear c37
                          (first|rw [c37b0]|(simp only [i64_w,i32_w];rw [c37b0])|skip)
                          have H':=Aside0.mk H
                          clear H
                          try go_wp2
                          have n0_:=Aside0.mk (Kd.R_drew HO_8.out)
                          have n1_:=Aside0.mk (Kd.R_drew HO_9.out)
                          have n2_:=Aside0.mk (Kd.R_drew HO_10.out)
                          have n3_:=Aside0.mk (below_drew1 HB.out)
                          clear HO_8
                          clear HO_9
                          clear HO_10
                          clear HB
                          have HO_8:=n0_
                          have HO_9:=n1_
                          have HO_10:=n2_
                          have HB:=n3_
                          clear n0_ n1_ n2_ n3_
                          refine start_ (n:=24) (S:=fun w'=>True) (ds:=[]) #[false,false,false,false,false,false,false,false,false,false,false,false,false,false,false,false,false,false,false,false,false,false,false,false] (by kernel_rfl) rfl rfl trivial (fun hHeld=>?_);refine with_tabW insolvencyref1_long.tab14 insolvencyref1_long.bits14 (fun HT_ HW_=>?_)
                          generalize wr.drew=w38 at HO_8 HO_9 HO_10 HB hHeld ⊢
                          refine pure_ (i:=0) (N:=some 93) (v:=?_) (a':=?_) #[true,false,false,false,false,false,false,false,false,false,false,false,false,false,false,false,false,false,false,false,false,false,false,false] rfl rfl (any_of HT_.out (by kernel_rfl)) (fun _ _ _ h=>h) (Or.inl ⟨by rfl,?_⟩) ?_ ?_
                          rotate_left
                          ·intro w'
                           go_simp
                           with_reducible rfl
                          rotate_left
                          ·simp only [Act.put,List.setIfInBounds_toArray,List.set_cons_zero,List.set_cons_succ,i64_w,i32_w]
                           rfl
                          refine pure_ (i:=1) (N:=some 94) (v:=?_) (a':=?_) #[true,true,false,false,false,false,false,false,false,false,false,false,false,false,false,false,false,false,false,false,false,false,false,false] rfl rfl (any_of HT_.out (by kernel_rfl)) (fun _ _ _ h=>h) (Or.inl ⟨by rfl,?_⟩) ?_ ?_
                          rotate_left
                          ·intro w'
                           go_simp
                           with_reducible rfl
                          rotate_left
                          ·simp only [Act.put,List.setIfInBounds_toArray,List.set_cons_zero,List.set_cons_succ,i64_w,i32_w]
                           rfl
                          refine pure_ (i:=2) (N:=some 95) (v:=?_) (a':=?_) #[true,true,true,false,false,false,false,false,false,false,false,false,false,false,false,false,false,false,false,false,false,false,false,false] rfl rfl (any_of HT_.out (by kernel_rfl)) (fun _ _ _ h=>h) (Or.inl ⟨by rfl,?_⟩) ?_ ?_
                          rotate_left
                          ·intro w'
                           go_simp
                           with_reducible rfl
                          rotate_left
                          ·simp only [Act.put,List.setIfInBounds_toArray,List.set_cons_zero,List.set_cons_succ,i64_w,i32_w]
                           rfl
                          refine pure_ (i:=3) (N:=some 96) (v:=undef) (a':=?_) #[true,true,true,true,false,false,false,false,false,false,false,false,false,false,false,false,false,false,false,false,false,false,false,false] rfl rfl (any_of HT_.out (by kernel_rfl)) (fun _ _ _ h=>h) (Or.inr ⟨by rfl,rfl⟩) ?_ ?_
                          rotate_left
                          ·simp only [Act.put,List.setIfInBounds_toArray,List.set_cons_zero,List.set_cons_succ,i64_w,i32_w]
                           rfl
                          refine pure_ (i:=4) (N:=some 97) (v:=undef) (a':=?_) #[true,true,true,true,true,false,false,false,false,false,false,false,false,false,false,false,false,false,false,false,false,false,false,false] rfl rfl (any_of HT_.out (by kernel_rfl)) (fun _ _ _ h=>h) (Or.inr ⟨by rfl,rfl⟩) ?_ ?_
                          rotate_left
                          ·simp only [Act.put,List.setIfInBounds_toArray,List.set_cons_zero,List.set_cons_succ,i64_w,i32_w]
                           rfl
                          refine pure_ (i:=5) (N:=some 98) (v:=undef) (a':=?_) #[true,true,true,true,true,true,false,false,false,false,false,false,false,false,false,false,false,false,false,false,false,false,false,false] rfl rfl (any_of HT_.out (by kernel_rfl)) (fun _ _ _ h=>h) (Or.inr ⟨by rfl,rfl⟩) ?_ ?_
                          rotate_left
                          ·simp only [Act.put,List.setIfInBounds_toArray,List.set_cons_zero,List.set_cons_succ,i64_w,i32_w]
                           rfl
                          refine pure_ (i:=6) (N:=some 99) (v:=undef) (a':=?_) #[true,true,true,true,true,true,true,false,false,false,false,false,false,false,false,false,false,false,false,false,false,false,false,false] rfl rfl (any_of HT_.out (by kernel_rfl)) (fun _ _ _ h=>h) (Or.inr ⟨by rfl,rfl⟩) ?_ ?_
                          rotate_left
                          ·simp only [Act.put,List.setIfInBounds_toArray,List.set_cons_zero,List.set_cons_succ,i64_w,i32_w]
                           rfl
                          refine pure_ (i:=7) (N:=some 100) (v:=undef) (a':=?_) #[true,true,true,true,true,true,true,true,false,false,false,false,false,false,false,false,false,false,false,false,false,false,false,false] rfl rfl (any_of HT_.out (by kernel_rfl)) (fun _ _ _ h=>h) (Or.inr ⟨by rfl,rfl⟩) ?_ ?_
                          rotate_left
                          ·simp only [Act.put,List.setIfInBounds_toArray,List.set_cons_zero,List.set_cons_succ,i64_w,i32_w]
                           rfl
                          refine pure_ (i:=8) (N:=some 101) (v:=undef) (a':=?_) #[true,true,true,true,true,true,true,true,true,false,false,false,false,false,false,false,false,false,false,false,false,false,false,false] rfl rfl (any_of HT_.out (by kernel_rfl)) (fun _ _ _ h=>h) (Or.inr ⟨by rfl,rfl⟩) ?_ ?_
                          rotate_left
                          ·simp only [Act.put,List.setIfInBounds_toArray,List.set_cons_zero,List.set_cons_succ,i64_w,i32_w]
                           rfl
                          refine pure_ (i:=9) (N:=some 102) (v:=undef) (a':=?_) #[true,true,true,true,true,true,true,true,true,true,false,false,false,false,false,false,false,false,false,false,false,false,false,false] rfl rfl (any_of HT_.out (by kernel_rfl)) (fun _ _ _ h=>h) (Or.inr ⟨by rfl,rfl⟩) ?_ ?_
                          rotate_left
                          ·simp only [Act.put,List.setIfInBounds_toArray,List.set_cons_zero,List.set_cons_succ,i64_w,i32_w]
                           rfl
                          refine pure_ (i:=10) (N:=some 103) (v:=undef) (a':=?_) #[true,true,true,true,true,true,true,true,true,true,true,false,false,false,false,false,false,false,false,false,false,false,false,false] rfl rfl (any_of HT_.out (by kernel_rfl)) (fun _ _ _ h=>h) (Or.inr ⟨by rfl,rfl⟩) ?_ ?_
                          rotate_left
                          ·simp only [Act.put,List.setIfInBounds_toArray,List.set_cons_zero,List.set_cons_succ,i64_w,i32_w]
                           rfl
                          refine pure_ (i:=11) (N:=some 104) (v:=undef) (a':=?_) #[true,true,true,true,true,true,true,true,true,true,true,true,false,false,false,false,false,false,false,false,false,false,false,false] rfl rfl (any_of HT_.out (by kernel_rfl)) (fun _ _ _ h=>h) (Or.inr ⟨by rfl,rfl⟩) ?_ ?_
                          rotate_left
                          ·simp only [Act.put,List.setIfInBounds_toArray,List.set_cons_zero,List.set_cons_succ,i64_w,i32_w]
                           rfl
                          refine pure_ (i:=12) (N:=some 105) (v:=undef) (a':=?_) #[true,true,true,true,true,true,true,true,true,true,true,true,true,false,false,false,false,false,false,false,false,false,false,false] rfl rfl (any_of HT_.out (by kernel_rfl)) (fun _ _ _ h=>h) (Or.inr ⟨by rfl,rfl⟩) ?_ ?_
                          rotate_left
                          ·simp only [Act.put,List.setIfInBounds_toArray,List.set_cons_zero,List.set_cons_succ,i64_w,i32_w]
                           rfl
                          refine pure_ (i:=13) (N:=some 106) (v:=undef) (a':=?_) #[true,true,true,true,true,true,true,true,true,true,true,true,true,true,false,false,false,false,false,false,false,false,false,false] rfl rfl (any_of HT_.out (by kernel_rfl)) (fun _ _ _ h=>h) (Or.inr ⟨by rfl,rfl⟩) ?_ ?_
                          rotate_left
                          ·simp only [Act.put,List.setIfInBounds_toArray,List.set_cons_zero,List.set_cons_succ,i64_w,i32_w]
                           rfl
                          refine pure_ (i:=14) (N:=some 107) (v:=undef) (a':=?_) #[true,true,true,true,true,true,true,true,true,true,true,true,true,true,true,false,false,false,false,false,false,false,false,false] rfl rfl (any_of HT_.out (by kernel_rfl)) (fun _ _ _ h=>h) (Or.inr ⟨by rfl,rfl⟩) ?_ ?_
                          rotate_left
                          ·simp only [Act.put,List.setIfInBounds_toArray,List.set_cons_zero,List.set_cons_succ,i64_w,i32_w]
                           rfl
                          refine pure_ (i:=15) (N:=some 108) (v:=undef) (a':=?_) #[true,true,true,true,true,true,true,true,true,true,true,true,true,true,true,true,false,false,false,false,false,false,false,false] rfl rfl (any_of HT_.out (by kernel_rfl)) (fun _ _ _ h=>h) (Or.inr ⟨by rfl,rfl⟩) ?_ ?_
                          rotate_left
                          ·simp only [Act.put,List.setIfInBounds_toArray,List.set_cons_zero,List.set_cons_succ,i64_w,i32_w]
                           rfl
                          refine pure_ (i:=16) (N:=some 109) (v:=undef) (a':=?_) #[true,true,true,true,true,true,true,true,true,true,true,true,true,true,true,true,true,false,false,false,false,false,false,false] rfl rfl (any_of HT_.out (by kernel_rfl)) (fun _ _ _ h=>h) (Or.inr ⟨by rfl,rfl⟩) ?_ ?_
                          rotate_left
                          ·simp only [Act.put,List.setIfInBounds_toArray,List.set_cons_zero,List.set_cons_succ,i64_w,i32_w]
                           rfl
                          refine pure_ (i:=17) (N:=some 110) (v:=undef) (a':=?_) #[true,true,true,true,true,true,true,true,true,true,true,true,true,true,true,true,true,true,false,false,false,false,false,false] rfl rfl (any_of HT_.out (by kernel_rfl)) (fun _ _ _ h=>h) (Or.inr ⟨by rfl,rfl⟩) ?_ ?_
                          rotate_left
                          ·simp only [Act.put,List.setIfInBounds_toArray,List.set_cons_zero,List.set_cons_succ,i64_w,i32_w]
                           rfl
                          refine pure_ (i:=18) (N:=some 111) (v:=undef) (a':=?_) #[true,true,true,true,true,true,true,true,true,true,true,true,true,true,true,true,true,true,true,false,false,false,false,false] rfl rfl (any_of HT_.out (by kernel_rfl)) (fun _ _ _ h=>h) (Or.inr ⟨by rfl,rfl⟩) ?_ ?_
                          rotate_left
                          ·simp only [Act.put,List.setIfInBounds_toArray,List.set_cons_zero,List.set_cons_succ,i64_w,i32_w]
                           rfl
                          refine pure_ (i:=19) (N:=some 112) (v:=undef) (a':=?_) #[true,true,true,true,true,true,true,true,true,true,true,true,true,true,true,true,true,true,true,true,false,false,false,false] rfl rfl (any_of HT_.out (by kernel_rfl)) (fun _ _ _ h=>h) (Or.inr ⟨by rfl,rfl⟩) ?_ ?_
                          rotate_left
                          ·simp only [Act.put,List.setIfInBounds_toArray,List.set_cons_zero,List.set_cons_succ,i64_w,i32_w]
                           rfl
                          refine pure_ (i:=20) (N:=some 113) (v:=undef) (a':=?_) #[true,true,true,true,true,true,true,true,true,true,true,true,true,true,true,true,true,true,true,true,true,false,false,false] rfl rfl (any_of HT_.out (by kernel_rfl)) (fun _ _ _ h=>h) (Or.inr ⟨by rfl,rfl⟩) ?_ ?_
                          rotate_left
                          ·simp only [Act.put,List.setIfInBounds_toArray,List.set_cons_zero,List.set_cons_succ,i64_w,i32_w]
                           rfl
                          refine pure_ (i:=21) (N:=some 114) (v:=undef) (a':=?_) #[true,true,true,true,true,true,true,true,true,true,true,true,true,true,true,true,true,true,true,true,true,true,false,false] rfl rfl (any_of HT_.out (by kernel_rfl)) (fun _ _ _ h=>h) (Or.inr ⟨by rfl,rfl⟩) ?_ ?_
                          rotate_left
                          ·simp only [Act.put,List.setIfInBounds_toArray,List.set_cons_zero,List.set_cons_succ,i64_w,i32_w]
                           rfl
                          refine pure_ (i:=22) (N:=some 115) (v:=undef) (a':=?_) #[true,true,true,true,true,true,true,true,true,true,true,true,true,true,true,true,true,true,true,true,true,true,true,false] rfl rfl (any_of HT_.out (by kernel_rfl)) (fun _ _ _ h=>h) (Or.inr ⟨by rfl,rfl⟩) ?_ ?_
                          rotate_left
                          ·simp only [Act.put,List.setIfInBounds_toArray,List.set_cons_zero,List.set_cons_succ,i64_w,i32_w]
                           rfl
                          refine pure_ (i:=23) (N:=some 116) (v:=?_) (a':=?_) #[true,true,true,true,true,true,true,true,true,true,true,true,true,true,true,true,true,true,true,true,true,true,true,true] rfl rfl (any_of HT_.out (by kernel_rfl)) (fun _ _ _ h=>h) (Or.inl ⟨by rfl,?_⟩) ?_ ?_
                          rotate_left
                          ·intro w'
                           go_simp
                           with_reducible rfl
                          rotate_left
                          ·simp only [Act.put,List.setIfInBounds_toArray,List.set_cons_zero,List.set_cons_succ,i64_w,i32_w]
                           rfl
                          refine done_ (done_of HT_.out (by kernel_rfl)) ?_
                          try go_wp2
                          go_meet
                          case rel=>exact ⟨_,(true),(by first|rfl|(simp;done)|(simp [*];done)),H',⟨by have:=HK1.out;have:=HK2.out;have:=HK3.out;first|omega|exact Nat.le_refl _⟩,⟨by (with_reducible repeat (first|apply Kd.R_alloc|apply Kd.R_drewN|apply Kd.R_drew));exact HO_8.out⟩,⟨by (with_reducible repeat (first|apply Kd.R_alloc|apply Kd.R_drewN|apply Kd.R_drew));exact HO_9.out⟩,⟨by (with_reducible repeat (first|apply Kd.R_alloc|apply Kd.R_drewN|apply Kd.R_drew));exact HO_10.out⟩,⟨by repeat (first|(with_reducible first|exact HB.out|apply below_alloc|apply pw_below_drewN|apply below_drew1)|exact HB.out)⟩⟩
                         ·rw [if_neg c37] at H
                          have c37b0:decide (4294967296≤x13_3)=false:=decide_eq_false c37
                          clear c37
                          (first|rw [c37b0]|(simp only [i64_w,i32_w];rw [c37b0])|skip)
                          obtain ⟨ji39,hji39⟩:∃ j_:Int,(wrap64 ((l1.length:Int)-2))=j_:=⟨_,rfl⟩
                          replace H:(if 0≤(ji39) then (if (ji39)<(y325.length:Int) then (if 0≤(wrap64 ((wrap64 (x11_2+(l1.length:Int)))-2)) then (if (wrap64 ((wrap64 (x11_2+(l1.length:Int)))-2))<(x8_2.length:Int) then (insolvencyref1_long.j3 k3 (l1.length:Int) x7_1 x8_2 y325 x10_2 x11_2 x13_3 x14_3 (decide ((IntKind.u64.wrap (x13_3*(IntKind.u64.wrap (rd y325 (ji39)))))>(Go.bits .or .u64 (IntKind.u64.wrap (x14_3*4294967296)) (IntKind.u64.wrap (rd x8_2 (wrap64 ((wrap64 (x11_2+(l1.length:Int)))-2)))))))) else (none)) else (none)) else (none)) else (none))=some (r1,r2):=by first|(rw [hji39] at H;exact H)|(simp only [hji39] at H ⊢;exact H)
                          have hji39w:(IntKind.i64.wrap ((l1.length:Int)-2))=ji39:=(i64_w _).trans hji39
                          by_cases c40:0≤(ji39)
                          ·rw [if_pos c40] at H
                           have c40b0:decide (0≤(ji39))=true:=decide_eq_true c40
                           clear c40
                           by_cases c41:(ji39)<(y325.length:Int)
                           ·rw [if_pos c41] at H
                            have c41b0:decide ((ji39)<(y325.length:Int))=true:=decide_eq_true c41
                            clear c41
                            obtain ⟨ji42,hji42⟩:∃ j_:Int,(wrap64 ((wrap64 (x11_2+(l1.length:Int)))-2))=j_:=⟨_,rfl⟩
                            replace H:(if 0≤(ji42) then (if (ji42)<(x8_2.length:Int) then (insolvencyref1_long.j3 k3 (l1.length:Int) x7_1 x8_2 y325 x10_2 x11_2 x13_3 x14_3 (decide ((IntKind.u64.wrap (x13_3*(IntKind.u64.wrap (rd y325 (ji39)))))>(Go.bits .or .u64 (IntKind.u64.wrap (x14_3*4294967296)) (IntKind.u64.wrap (rd x8_2 (ji42))))))) else (none)) else (none))=some (r1,r2):=by first|(rw [hji42] at H;exact H)|(simp only [hji42] at H ⊢;exact H)
                            have hji42w:(IntKind.i64.wrap ((wrap64 (x11_2+(l1.length:Int)))-2))=ji42:=(i64_w _).trans hji42
                            have hji42v:=hji42;have hji42u:=hji42w;(try rw [hji23] at hji42v);(try rw [hji23] at hji42u)
                            by_cases c43:0≤(ji42)
                            ·rw [if_pos c43] at H
                             have c43b0:decide (0≤(ji42))=true:=decide_eq_true c43
                             clear c43
                             by_cases c44:(ji42)<(x8_2.length:Int)
                             ·rw [if_pos c44] at H
                              have c44b0:decide ((ji42)<(x8_2.length:Int))=true:=decide_eq_true c44
                              clear c44
                              have H':=Aside0.mk H
                              clear H
                              try go_wp2
                              have n0_:=Aside0.mk (Kd.R_drew HO_8.out)
                              have n1_:=Aside0.mk (Kd.R_drew HO_9.out)
                              have n2_:=Aside0.mk (Kd.R_drew HO_10.out)
                              have n3_:=Aside0.mk (below_drew1 HB.out)
                              clear HO_8
                              clear HO_9
                              clear HO_10
                              clear HB
                              have HO_8:=n0_
                              have HO_9:=n1_
                              have HO_10:=n2_
                              have HB:=n3_
                              clear n0_ n1_ n2_ n3_
                              have p335:0≤((ji39):Int):=of_decide_eq_true (by first|(with_reducible assumption)|assumption)
                              have q335:(ji39)<(y325.length:Int):=of_decide_eq_true (by first|(with_reducible assumption)|assumption)
                              obtain ⟨ad335,e335,hx335_0⟩:=Kd.at_int (Kd.R_reads' HO_9.out).2.2 (ji39) p335 q335
                              obtain rfl:ad333=ad335:=(by injection e335)
                              replace p335:=eq_true p335
                              replace q335:=eq_true q335
                              have p336:0≤((ji42):Int):=of_decide_eq_true (by first|(with_reducible assumption)|assumption)
                              have q336:(ji42)<(x8_2.length:Int):=of_decide_eq_true (by first|(with_reducible assumption)|assumption)
                              obtain ⟨ad336,e336,hx336_0⟩:=Kd.at_int (Kd.R_reads' HO_8.out).2.2 (ji42) p336 q336
                              obtain rfl:ad331=ad336:=(by injection e336)
                              replace p336:=eq_true p336
                              replace q336:=eq_true q336
                              refine start_ (n:=24) (S:=fun w'=>w'.cell? (ad333.add ((ji39)).toNat)=some (.int .u32 (rd y325 (ji39)))∧w'.cell? (ad331.add ((ji42)).toNat)=some (.int .u32 (rd x8_2 (ji42)))) (ds:=[]) #[false,false,false,false,false,false,false,false,false,false,false,false,false,false,false,false,false,false,false,false,false,false,false,false] (by kernel_rfl) rfl rfl ⟨hx335_0,hx336_0⟩ (fun hHeld=>?_);refine with_tabW insolvencyref1_long.tab14 insolvencyref1_long.bits14 (fun HT_ HW_=>?_)
                              generalize wr.drew=w45 at HO_8 HO_9 HO_10 HB hx335_0 hx336_0 hHeld ⊢
                              refine pure_ (i:=0) (N:=some 93) (v:=?_) (a':=?_) #[true,false,false,false,false,false,false,false,false,false,false,false,false,false,false,false,false,false,false,false,false,false,false,false] rfl rfl (any_of HT_.out (by kernel_rfl)) (fun _ _ _ h=>h) (Or.inl ⟨by rfl,?_⟩) ?_ ?_
                              rotate_left
                              ·intro w'
                               go_simp
                               with_reducible rfl
                              rotate_left
                              ·simp only [Act.put,List.setIfInBounds_toArray,List.set_cons_zero,List.set_cons_succ,i64_w,i32_w]
                               rfl
                              refine pure_ (i:=1) (N:=some 94) (v:=?_) (a':=?_) #[true,true,false,false,false,false,false,false,false,false,false,false,false,false,false,false,false,false,false,false,false,false,false,false] rfl rfl (any_of HT_.out (by kernel_rfl)) (fun _ _ _ h=>h) (Or.inl ⟨by rfl,?_⟩) ?_ ?_
                              rotate_left
                              ·intro w'
                               go_simp
                               with_reducible rfl
                              rotate_left
                              ·simp only [Act.put,List.setIfInBounds_toArray,List.set_cons_zero,List.set_cons_succ,i64_w,i32_w]
                               rfl
                              refine pure_ (i:=2) (N:=some 95) (v:=?_) (a':=?_) #[true,true,true,false,false,false,false,false,false,false,false,false,false,false,false,false,false,false,false,false,false,false,false,false] rfl rfl (any_of HT_.out (by kernel_rfl)) (fun _ _ _ h=>h) (Or.inl ⟨by rfl,?_⟩) ?_ ?_
                              rotate_left
                              ·intro w'
                               go_simp
                               with_reducible rfl
                              rotate_left
                              ·simp only [Act.put,List.setIfInBounds_toArray,List.set_cons_zero,List.set_cons_succ,i64_w,i32_w]
                               rfl
                              refine pure_ (i:=3) (N:=some 96) (v:=?_) (a':=?_) #[true,true,true,true,false,false,false,false,false,false,false,false,false,false,false,false,false,false,false,false,false,false,false,false] rfl rfl (any_of HT_.out (by kernel_rfl)) (fun _ _ _ h=>h) (Or.inl ⟨by rfl,?_⟩) ?_ ?_
                              rotate_left
                              ·intro w'
                               go_simp
                               with_reducible rfl
                              rotate_left
                              ·simp only [Act.put,List.setIfInBounds_toArray,List.set_cons_zero,List.set_cons_succ,i64_w,i32_w]
                               rfl
                              refine pure_ (i:=4) (N:=some 97) (v:=?_) (a':=?_) #[true,true,true,true,true,false,false,false,false,false,false,false,false,false,false,false,false,false,false,false,false,false,false,false] rfl rfl (any_of HT_.out (by kernel_rfl)) (fun _ _ _ h=>h) (Or.inl ⟨by rfl,?_⟩) ?_ ?_
                              rotate_left
                              ·intro w'
                               go_simp
                               with_reducible rfl
                              rotate_left
                              ·simp only [Act.put,List.setIfInBounds_toArray,List.set_cons_zero,List.set_cons_succ,i64_w,i32_w]
                               rfl
                              refine pure_ (i:=5) (N:=some 98) (v:=?_) (a':=?_) #[true,true,true,true,true,true,false,false,false,false,false,false,false,false,false,false,false,false,false,false,false,false,false,false] rfl rfl (any_of HT_.out (by kernel_rfl)) (fun _ _ _ h=>h) (Or.inl ⟨by rfl,?_⟩) ?_ ?_
                              rotate_left
                              ·intro w'
                               go_simp
                               with_reducible rfl
                              rotate_left
                              ·simp only [Act.put,List.setIfInBounds_toArray,List.set_cons_zero,List.set_cons_succ,i64_w,i32_w]
                               rfl
                              refine pure_ (i:=6) (N:=some 99) (v:=?_) (a':=?_) #[true,true,true,true,true,true,true,false,false,false,false,false,false,false,false,false,false,false,false,false,false,false,false,false] rfl rfl (any_of HT_.out (by kernel_rfl)) (fun _ _ _ h=>h) (Or.inl ⟨by rfl,?_⟩) ?_ ?_
                              rotate_left
                              ·intro w'
                               go_simp
                               with_reducible rfl
                              rotate_left
                              ·simp only [Act.put,List.setIfInBounds_toArray,List.set_cons_zero,List.set_cons_succ,i64_w,i32_w]
                               rfl
                              refine pure_ (i:=7) (N:=some 100) (v:=?_) (a':=?_) #[true,true,true,true,true,true,true,true,false,false,false,false,false,false,false,false,false,false,false,false,false,false,false,false] rfl rfl (any_of HT_.out (by kernel_rfl)) (fun _ _ _ h=>h) (Or.inl ⟨by rfl,?_⟩) ?_ ?_
                              rotate_left
                              ·intro w'
                               go_simp
                               with_reducible rfl
                              rotate_left
                              ·simp only [Act.put,List.setIfInBounds_toArray,List.set_cons_zero,List.set_cons_succ,i64_w,i32_w]
                               rfl
                              refine pure_ (i:=11) (N:=some 104) (v:=?_) (a':=?_) #[true,true,true,true,true,true,true,true,false,false,false,true,false,false,false,false,false,false,false,false,false,false,false,false] rfl rfl (any_of HT_.out (by kernel_rfl)) (fun _ _ _ h=>h) (Or.inl ⟨by rfl,?_⟩) ?_ ?_
                              rotate_left
                              ·intro w'
                               go_simp
                               with_reducible rfl
                              rotate_left
                              ·simp only [Act.put,List.setIfInBounds_toArray,List.set_cons_zero,List.set_cons_succ,i64_w,i32_w]
                               rfl
                              refine pure_ (i:=12) (N:=some 105) (v:=?_) (a':=?_) #[true,true,true,true,true,true,true,true,false,false,false,true,true,false,false,false,false,false,false,false,false,false,false,false] rfl rfl (any_of HT_.out (by kernel_rfl)) (fun _ _ _ h=>h) (Or.inl ⟨by rfl,?_⟩) ?_ ?_
                              rotate_left
                              ·intro w'
                               go_simp
                               with_reducible rfl
                              rotate_left
                              ·simp only [Act.put,List.setIfInBounds_toArray,List.set_cons_zero,List.set_cons_succ,i64_w,i32_w]
                               rfl
                              refine pure_ (i:=13) (N:=some 106) (v:=?_) (a':=?_) #[true,true,true,true,true,true,true,true,false,false,false,true,true,true,false,false,false,false,false,false,false,false,false,false] rfl rfl (any_of HT_.out (by kernel_rfl)) (fun _ _ _ h=>h) (Or.inl ⟨by rfl,?_⟩) ?_ ?_
                              rotate_left
                              ·intro w'
                               go_simp
                               with_reducible rfl
                              rotate_left
                              ·simp only [Act.put,List.setIfInBounds_toArray,List.set_cons_zero,List.set_cons_succ,i64_w,i32_w]
                               rfl
                              refine pure_ (i:=14) (N:=some 107) (v:=?_) (a':=?_) #[true,true,true,true,true,true,true,true,false,false,false,true,true,true,true,false,false,false,false,false,false,false,false,false] rfl rfl (any_of HT_.out (by kernel_rfl)) (fun _ _ _ h=>h) (Or.inl ⟨by rfl,?_⟩) ?_ ?_
                              rotate_left
                              ·intro w'
                               go_simp
                               with_reducible rfl
                              rotate_left
                              ·simp only [Act.put,List.setIfInBounds_toArray,List.set_cons_zero,List.set_cons_succ,i64_w,i32_w]
                               rfl
                              refine pure_ (i:=15) (N:=some 108) (v:=?_) (a':=?_) #[true,true,true,true,true,true,true,true,false,false,false,true,true,true,true,true,false,false,false,false,false,false,false,false] rfl rfl (any_of HT_.out (by kernel_rfl)) (fun _ _ _ h=>h) (Or.inl ⟨by rfl,?_⟩) ?_ ?_
                              rotate_left
                              ·intro w'
                               go_simp
                               with_reducible rfl
                              rotate_left
                              ·simp only [Act.put,List.setIfInBounds_toArray,List.set_cons_zero,List.set_cons_succ,i64_w,i32_w]
                               rfl
                              refine pure_ (i:=16) (N:=some 109) (v:=?_) (a':=?_) #[true,true,true,true,true,true,true,true,false,false,false,true,true,true,true,true,true,false,false,false,false,false,false,false] rfl rfl (any_of HT_.out (by kernel_rfl)) (fun _ _ _ h=>h) (Or.inl ⟨by rfl,?_⟩) ?_ ?_
                              rotate_left
                              ·intro w'
                               go_simp
                               with_reducible rfl
                              rotate_left
                              ·simp only [Act.put,List.setIfInBounds_toArray,List.set_cons_zero,List.set_cons_succ,i64_w,i32_w]
                               rfl
                              refine pure_ (i:=17) (N:=some 110) (v:=?_) (a':=?_) #[true,true,true,true,true,true,true,true,false,false,false,true,true,true,true,true,true,true,false,false,false,false,false,false] rfl rfl (any_of HT_.out (by kernel_rfl)) (fun _ _ _ h=>h) (Or.inl ⟨by rfl,?_⟩) ?_ ?_
                              rotate_left
                              ·intro w'
                               go_simp
                               with_reducible rfl
                              rotate_left
                              ·simp only [Act.put,List.setIfInBounds_toArray,List.set_cons_zero,List.set_cons_succ,i64_w,i32_w]
                               rfl
                              refine pure_ (i:=18) (N:=some 111) (v:=?_) (a':=?_) #[true,true,true,true,true,true,true,true,false,false,false,true,true,true,true,true,true,true,true,false,false,false,false,false] rfl rfl (any_of HT_.out (by kernel_rfl)) (fun _ _ _ h=>h) (Or.inl ⟨by rfl,?_⟩) ?_ ?_
                              rotate_left
                              ·intro w'
                               go_simp
                               with_reducible rfl
                              rotate_left
                              ·simp only [Act.put,List.setIfInBounds_toArray,List.set_cons_zero,List.set_cons_succ,i64_w,i32_w]
                               rfl
                              refine take_ (i:=8) (N:=some 101) (v:=?_) (a':=?_) #[true,true,true,true,true,true,true,true,true,false,false,true,true,true,true,true,true,true,true,false,false,false,false,false] rfl rfl (take_ofW HT_.out HW_.out (by kernel_rfl)) (fun _ _ _ h=>h) (Or.inl ⟨by rfl,?_⟩) hHeld ?_ ?_
                              rotate_left
                              ·rintro w' ⟨s0,s1⟩
                               go_simp
                               with_reducible rfl
                              rotate_left
                              ·simp only [Act.put,List.setIfInBounds_toArray,List.set_cons_zero,List.set_cons_succ,i64_w,i32_w]
                               rfl
                              refine pure_ (i:=9) (N:=some 102) (v:=?_) (a':=?_) #[true,true,true,true,true,true,true,true,true,true,false,true,true,true,true,true,true,true,true,false,false,false,false,false] rfl rfl (any_of HT_.out (by kernel_rfl)) (fun _ _ _ h=>h) (Or.inl ⟨by rfl,?_⟩) ?_ ?_
                              rotate_left
                              ·intro w'
                               go_simp
                               with_reducible rfl
                              rotate_left
                              ·simp only [Act.put,List.setIfInBounds_toArray,List.set_cons_zero,List.set_cons_succ,i64_w,i32_w]
                               rfl
                              refine pure_ (i:=10) (N:=some 103) (v:=?_) (a':=?_) #[true,true,true,true,true,true,true,true,true,true,true,true,true,true,true,true,true,true,true,false,false,false,false,false] rfl rfl (any_of HT_.out (by kernel_rfl)) (fun _ _ _ h=>h) (Or.inl ⟨by rfl,?_⟩) ?_ ?_
                              rotate_left
                              ·intro w'
                               go_simp
                               with_reducible rfl
                              rotate_left
                              ·simp only [Act.put,List.setIfInBounds_toArray,List.set_cons_zero,List.set_cons_succ,i64_w,i32_w]
                               rfl
                              refine take_ (i:=19) (N:=some 112) (v:=?_) (a':=?_) #[true,true,true,true,true,true,true,true,true,true,true,true,true,true,true,true,true,true,true,true,false,false,false,false] rfl rfl (take_ofW HT_.out HW_.out (by kernel_rfl)) (fun _ _ _ h=>h) (Or.inl ⟨by rfl,?_⟩) hHeld ?_ ?_
                              rotate_left
                              ·rintro w' ⟨s0,s1⟩
                               go_simp
                               with_reducible rfl
                              rotate_left
                              ·simp only [Act.put,List.setIfInBounds_toArray,List.set_cons_zero,List.set_cons_succ,i64_w,i32_w]
                               rfl
                              refine pure_ (i:=20) (N:=some 113) (v:=?_) (a':=?_) #[true,true,true,true,true,true,true,true,true,true,true,true,true,true,true,true,true,true,true,true,true,false,false,false] rfl rfl (any_of HT_.out (by kernel_rfl)) (fun _ _ _ h=>h) (Or.inl ⟨by rfl,?_⟩) ?_ ?_
                              rotate_left
                              ·intro w'
                               go_simp
                               with_reducible rfl
                              rotate_left
                              ·simp only [Act.put,List.setIfInBounds_toArray,List.set_cons_zero,List.set_cons_succ,i64_w,i32_w]
                               rfl
                              refine pure_ (i:=21) (N:=some 114) (v:=?_) (a':=?_) #[true,true,true,true,true,true,true,true,true,true,true,true,true,true,true,true,true,true,true,true,true,true,false,false] rfl rfl (any_of HT_.out (by kernel_rfl)) (fun _ _ _ h=>h) (Or.inl ⟨by rfl,?_⟩) ?_ ?_
                              rotate_left
                              ·intro w'
                               go_simp
                               with_reducible rfl
                              rotate_left
                              ·simp only [Act.put,List.setIfInBounds_toArray,List.set_cons_zero,List.set_cons_succ,i64_w,i32_w]
                               rfl
                              refine pure_ (i:=22) (N:=some 115) (v:=?_) (a':=?_) #[true,true,true,true,true,true,true,true,true,true,true,true,true,true,true,true,true,true,true,true,true,true,true,false] rfl rfl (any_of HT_.out (by kernel_rfl)) (fun _ _ _ h=>h) (Or.inl ⟨by rfl,?_⟩) ?_ ?_
                              rotate_left
                              ·intro w'
                               go_simp
                               with_reducible rfl
                              rotate_left
                              ·simp only [Act.put,List.setIfInBounds_toArray,List.set_cons_zero,List.set_cons_succ,i64_w,i32_w]
                               rfl
                              refine pure_ (i:=23) (N:=some 116) (v:=?_) (a':=?_) #[true,true,true,true,true,true,true,true,true,true,true,true,true,true,true,true,true,true,true,true,true,true,true,true] rfl rfl (any_of HT_.out (by kernel_rfl)) (fun _ _ _ h=>h) (Or.inl ⟨by rfl,?_⟩) ?_ ?_
                              rotate_left
                              ·intro w'
                               go_simp
                               with_reducible rfl
                              rotate_left
                              ·simp only [Act.put,List.setIfInBounds_toArray,List.set_cons_zero,List.set_cons_succ,i64_w,i32_w]
                               rfl
                              refine done_ (done_of HT_.out (by kernel_rfl)) ?_
                              try go_wp2
                              go_meet
                              case rel=>exact ⟨_,(decide ((IntKind.u64.wrap (x13_3*(IntKind.u64.wrap (rd y325 (ji39)))))>(Go.bits .or .u64 (IntKind.u64.wrap (x14_3*4294967296)) (IntKind.u64.wrap (rd x8_2 (ji42)))))),(by first|rfl|(simp;done)|(simp only [← hji39,← hji42] <;> (first|rfl|simp))|(simp [*];done)),H',⟨by have:=HK1.out;have:=HK2.out;have:=HK3.out;first|omega|exact Nat.le_refl _⟩,⟨by (with_reducible repeat (first|apply Kd.R_alloc|apply Kd.R_drewN|apply Kd.R_drew));exact HO_8.out⟩,⟨by (with_reducible repeat (first|apply Kd.R_alloc|apply Kd.R_drewN|apply Kd.R_drew));exact HO_9.out⟩,⟨by (with_reducible repeat (first|apply Kd.R_alloc|apply Kd.R_drewN|apply Kd.R_drew));exact HO_10.out⟩,⟨by repeat (first|(with_reducible first|exact HB.out|apply below_alloc|apply pw_below_drewN|apply below_drew1)|exact HB.out)⟩⟩
                             ·rw [if_neg c44] at H
                              exact absurd H (by simp)
                            ·rw [if_neg c43] at H
                             exact absurd H (by simp)
                           ·rw [if_neg c41] at H
                            exact absurd H (by simp)
                          ·rw [if_neg c40] at H
                           exact absurd H (by simp)
                        case rest=>
                         clear HC36
                         try clear c1
                         try clear q1
                         try clear c2
                         try clear p2
                         try clear c3
                         try clear p3
                         try clear q3
                         try clear hx3
                         try clear c4
                         try clear c4b0
                         try clear c5
                         try clear c5b0
                         try clear c6
                         try clear c6b0
                         try clear c6b1
                         try clear p6
                         try clear c7
                         try clear c8
                         try clear c8b0
                         try clear c11
                         try clear c11b0
                         try clear c11b1
                         try clear c12
                         try clear c12b0
                         try clear c12b1
                         try clear c14
                         try clear c14b0
                         try clear c14b1
                         try clear c15
                         try clear c15b0
                         try clear c15b1
                         try clear q19
                         try clear c22
                         try clear c22b0
                         try clear c24
                         try clear c24b0
                         try clear c25
                         try clear c25b0
                         try clear c27
                         try clear c27b0
                         try clear c28
                         try clear c28b0
                         try clear c30
                         try clear c30b0
                         try clear c31
                         try clear c31b0
                         try clear p31
                         try clear q31
                         try clear hx31
                         try clear c32
                         try clear c32b0
                         try clear c32b1
                         try clear p33
                         try clear q33
                         try clear hx33
                         try clear c37
                         try clear c37b0
                         try clear c40
                         try clear c40b0
                         try clear c41
                         try clear c41b0
                         try clear c43
                         try clear c43b0
                         try clear c44
                         try clear c44b0
                         try clear hx318_0
                         try clear hx331_0
                         try clear hx332_0
                         try clear hx333_0
                         try clear hx334_0
                         try clear hx335_0
                         try clear hx336_0
                         try clear p2
                         try clear p3
                         try clear p31
                         try clear p318
                         try clear p33
                         try clear p331
                         try clear p332
                         try clear p333
                         try clear p334
                         try clear p335
                         try clear p336
                         try clear p6
                         try clear q1
                         try clear q19
                         try clear q3
                         try clear q31
                         try clear q318
                         try clear q33
                         try clear q331
                         try clear q332
                         try clear q333
                         try clear q334
                         try clear q335
                         try clear q336
                         obtain ⟨kq,x116_35,rfl,HA,HJ35,HO_8,HO_9,HO_10,HB⟩:=hcut
                         cases kq with
                         | zero=>exact absurd HA.out (by simp [insolvencyref1_long.j3])
                         | succ kj35=>
                          have H:=HA.out
                          clear HA
                          simp only [insolvencyref1_long.j3] at H
                          by_cases c46:x116_35=true
                          ·subst c46
                           have H1:(if 0≤(wrap64 ((l1.length:Int)-1)) then (if (wrap64 ((l1.length:Int)-1))<(y325.length:Int) then (if (IntKind.u64.wrap (x14_3+(IntKind.u64.wrap (rd y325 (wrap64 ((l1.length:Int)-1))))))≥4294967296 then (insolvencyref1_long.j4 kj35 (l1.length:Int) x7_1 x8_2 y325 x10_2 x11_2 (IntKind.u64.wrap (x13_3-1))) else (insolvencyref1_long.l2 kj35 (l1.length:Int) x7_1 x8_2 y325 x10_2 x11_2 (IntKind.u64.wrap (x13_3-1)) (IntKind.u64.wrap (x14_3+(IntKind.u64.wrap (rd y325 (wrap64 ((l1.length:Int)-1)))))))) else (none)) else (none))=some (r1,r2):=by rw [if_pos rfl] at H;exact H
                           clear H
                           have H:=H1
                           clear H1
                           obtain ⟨ji47,hji47⟩:∃ j_:Int,(wrap64 ((l1.length:Int)-1))=j_:=⟨_,rfl⟩
                           replace H:(if 0≤(ji47) then (if (ji47)<(y325.length:Int) then (if (IntKind.u64.wrap (x14_3+(IntKind.u64.wrap (rd y325 (ji47)))))≥4294967296 then (insolvencyref1_long.j4 kj35 (l1.length:Int) x7_1 x8_2 y325 x10_2 x11_2 (IntKind.u64.wrap (x13_3-1))) else (insolvencyref1_long.l2 kj35 (l1.length:Int) x7_1 x8_2 y325 x10_2 x11_2 (IntKind.u64.wrap (x13_3-1)) (IntKind.u64.wrap (x14_3+(IntKind.u64.wrap (rd y325 (ji47))))))) else (none)) else (none))=some (r1,r2):=by first|(rw [hji47] at H;exact H)|(simp only [hji47] at H ⊢;exact H)
                           have hji47w:(IntKind.i64.wrap ((l1.length:Int)-1))=ji47:=(i64_w _).trans hji47
                           (try clear hji3w);(try clear hji3)
                           (try clear hji29w);(try clear hji29)
                           by_cases c48:0≤(ji47)
                           ·rw [if_pos c48] at H
                            have c48b0:decide (0≤(ji47))=true:=decide_eq_true c48
                            clear c48
                            by_cases c49:(ji47)<(y325.length:Int)
                            ·rw [if_pos c49] at H
                             have c49b0:decide ((ji47)<(y325.length:Int))=true:=decide_eq_true c49
                             clear c49
                             by_cases c50:(IntKind.u64.wrap (x14_3+(IntKind.u64.wrap (rd y325 (ji47)))))≥4294967296
                             ·rw [if_pos c50] at H
                              have c50b0:decide (4294967296≤(IntKind.u64.wrap (x14_3+(IntKind.u64.wrap (rd y325 (ji47))))))=true:=decide_eq_true c50
                              clear c50
                              have H':=Aside0.mk H
                              clear H
                              have p337:0≤((ji47):Int):=of_decide_eq_true (by first|(with_reducible assumption)|assumption)
                              have q337:(ji47)<(y325.length:Int):=of_decide_eq_true (by first|(with_reducible assumption)|assumption)
                              obtain ⟨ad337,e337,hx337_0⟩:=Kd.at_int (Kd.R_reads' HO_9.out).2.2 (ji47) p337 q337
                              obtain rfl:ad333=ad337:=(by injection e337)
                              replace p337:=eq_true p337
                              replace q337:=eq_true q337
                              go_wp2
                              go_meet
                              case rel=>exact ⟨_,(IntKind.u64.wrap (x13_3-1)),(by first|rfl|(simp;done)|(simp [*];done)),H',⟨by have:=HK1.out;have:=HK2.out;have:=HK3.out;have:=HJ35.out;first|omega|exact Nat.le_refl _⟩,⟨by (with_reducible repeat (first|apply Kd.R_alloc|apply Kd.R_drewN|apply Kd.R_drew));exact HO_8.out⟩,⟨by (with_reducible repeat (first|apply Kd.R_alloc|apply Kd.R_drewN|apply Kd.R_drew));exact HO_9.out⟩,⟨by (with_reducible repeat (first|apply Kd.R_alloc|apply Kd.R_drewN|apply Kd.R_drew));exact HO_10.out⟩,⟨by repeat (first|(with_reducible first|exact HB.out|apply below_alloc|apply pw_below_drewN|apply below_drew1)|exact HB.out)⟩⟩
                             ·rw [if_neg c50] at H
                              have c50b0:decide (4294967296≤(IntKind.u64.wrap (x14_3+(IntKind.u64.wrap (rd y325 (ji47))))))=false:=decide_eq_false c50
                              clear c50
                              have H':=Aside0.mk H
                              clear H
                              have p337:0≤((ji47):Int):=of_decide_eq_true (by first|(with_reducible assumption)|assumption)
                              have q337:(ji47)<(y325.length:Int):=of_decide_eq_true (by first|(with_reducible assumption)|assumption)
                              obtain ⟨ad337,e337,hx337_0⟩:=Kd.at_int (Kd.R_reads' HO_9.out).2.2 (ji47) p337 q337
                              obtain rfl:ad333=ad337:=(by injection e337)
                              replace p337:=eq_true p337
                              replace q337:=eq_true q337
                              go_wp2
                              go_roundg kj35
                              case measure=>have:=HK1.out;have:=HK2.out;have:=HK3.out;have:=HJ35.out;omega
                              case rel=>exact ⟨(IntKind.u64.wrap (x13_3-1)),(IntKind.u64.wrap (x14_3+(IntKind.u64.wrap (rd y325 (ji47))))),(by first|rfl|(simp;done)|(simp [*];done)),(by first|rfl|(simp;done)|(simp only [← hji47] <;> (first|rfl|simp))|(simp [*];done)),H',⟨by have:=HK1.out;have:=HK2.out;have:=HK3.out;have:=HJ35.out;omega⟩,⟨by (with_reducible repeat (first|apply Kd.R_alloc|apply Kd.R_drewN|apply Kd.R_drew));exact HO_8.out⟩,⟨by (with_reducible repeat (first|apply Kd.R_alloc|apply Kd.R_drewN|apply Kd.R_drew));exact HO_9.out⟩,⟨by (with_reducible repeat (first|apply Kd.R_alloc|apply Kd.R_drewN|apply Kd.R_drew));exact HO_10.out⟩,⟨by repeat (first|(with_reducible first|exact HB.out|apply below_alloc|apply pw_below_drewN|apply below_drew1)|exact HB.out)⟩⟩
                            ·rw [if_neg c49] at H
                             exact absurd H (by simp)
                           ·rw [if_neg c48] at H
                            exact absurd H (by simp)
                          ·replace c46:=Bool.eq_false_iff.mpr c46
                           subst c46
                           have H1:(insolvencyref1_long.j4 kj35 (l1.length:Int) x7_1 x8_2 y325 x10_2 x11_2 x13_3)=some (r1,r2):=by rw [if_neg (show ¬ (false=true) by decide)] at H;exact H
                           clear H
                           have H:=H1
                           clear H1
                           have H':=Aside0.mk H
                           clear H
                           go_wp2
                           go_meet
                           case rel=>exact ⟨_,(x13_3),(by first|rfl|(simp;done)|(simp [*];done)),H',⟨by have:=HK1.out;have:=HK2.out;have:=HK3.out;have:=HJ35.out;first|omega|exact Nat.le_refl _⟩,⟨by (with_reducible repeat (first|apply Kd.R_alloc|apply Kd.R_drewN|apply Kd.R_drew));exact HO_8.out⟩,⟨by (with_reducible repeat (first|apply Kd.R_alloc|apply Kd.R_drewN|apply Kd.R_drew));exact HO_9.out⟩,⟨by (with_reducible repeat (first|apply Kd.R_alloc|apply Kd.R_drewN|apply Kd.R_drew));exact HO_10.out⟩,⟨by repeat (first|(with_reducible first|exact HB.out|apply below_alloc|apply pw_below_drewN|apply below_drew1)|exact HB.out)⟩⟩
                     case rest=>
                      clear HC33
                      try clear c1
                      try clear q1
                      try clear c2
                      try clear p2
                      try clear c3
                      try clear p3
                      try clear q3
                      try clear hx3
                      try clear c4
                      try clear c4b0
                      try clear c5
                      try clear c5b0
                      try clear c6
                      try clear c6b0
                      try clear c6b1
                      try clear p6
                      try clear c7
                      try clear c8
                      try clear c8b0
                      try clear c11
                      try clear c11b0
                      try clear c11b1
                      try clear c12
                      try clear c12b0
                      try clear c12b1
                      try clear c14
                      try clear c14b0
                      try clear c14b1
                      try clear c15
                      try clear c15b0
                      try clear c15b1
                      try clear q19
                      try clear c22
                      try clear c22b0
                      try clear c24
                      try clear c24b0
                      try clear c25
                      try clear c25b0
                      try clear c27
                      try clear c27b0
                      try clear c28
                      try clear c28b0
                      try clear c30
                      try clear c30b0
                      try clear c31
                      try clear c31b0
                      try clear p31
                      try clear q31
                      try clear hx31
                      try clear c32
                      try clear c32b0
                      try clear c32b1
                      try clear p33
                      try clear q33
                      try clear hx33
                      try clear c37
                      try clear c37b0
                      try clear c40
                      try clear c40b0
                      try clear c41
                      try clear c41b0
                      try clear c43
                      try clear c43b0
                      try clear c44
                      try clear c44b0
                      try clear c46
                      try clear c48
                      try clear c48b0
                      try clear c49
                      try clear c49b0
                      try clear c50
                      try clear c50b0
                      try clear hx318_0
                      try clear hx331_0
                      try clear hx332_0
                      try clear hx333_0
                      try clear hx334_0
                      try clear hx335_0
                      try clear hx336_0
                      try clear hx337_0
                      try clear p2
                      try clear p3
                      try clear p31
                      try clear p318
                      try clear p33
                      try clear p331
                      try clear p332
                      try clear p333
                      try clear p334
                      try clear p335
                      try clear p336
                      try clear p337
                      try clear p6
                      try clear q1
                      try clear q19
                      try clear q3
                      try clear q31
                      try clear q318
                      try clear q33
                      try clear q331
                      try clear q332
                      try clear q333
                      try clear q334
                      try clear q335
                      try clear q336
                      try clear q337
                      obtain ⟨kq,x13_32,rfl,HA,HJ32,HO_8,HO_9,HO_10,HB⟩:=hcut
                      cases kq with
                      | zero=>exact absurd HA.out (by simp [insolvencyref1_long.j4])
                      | succ kj32=>
                       have H:=HA.out
                       clear HA
                       simp only [insolvencyref1_long.j4] at H
                       have H':=Aside0.mk H
                       clear H
                       go_wp2
                       go_loopg [15,16,17] kj32 (fun kq v15 v16 v17 w'=>∃ (x8_4:List Int) (x15_4:Int) (x16_4:Int) (x17_4:Int),v15 = .int .u64 x15_4∧v16 = .int .u64 x16_4∧v17 = .int .i64 x17_4∧Aside0 (insolvencyref1_long.l3 kq (l1.length:Int) x7_1 x8_4 y325 x10_2 x11_2 x13_32 x15_4 x16_4 x17_4=some (r1,r2))∧Aside0 (kq≤kj32)∧Aside0 (Kd.R (Kd.int .u32) 60 w' w.heap.size (fun k_=>some k_≠((.slice (some ad333) y325.length co18):Value).ownBlock∧some k_≠(v329:Value).ownBlock) (.slice (some ad331) x8_2.length co35) x8_4)∧Aside0 (Kd.R (Kd.int .u32) 60 w' w.heap.size (fun k_=>some k_≠((.slice (some ad331) x8_2.length co35):Value).ownBlock∧some k_≠(v329:Value).ownBlock) (.slice (some ad333) y325.length co18) y325)∧Aside0 (Kd.R (Kd.int .u32) 60 w' w.heap.size (fun k_=>some k_≠((.slice (some ad331) x8_2.length co35):Value).ownBlock∧some k_≠((.slice (some ad333) y325.length co18):Value).ownBlock) v329 x10_2)∧Aside0 (Below w.heap.size w w'))
                       case atStart=>exact ⟨(x8_2),(0),(0),(0),(by first|rfl|(simp;done)|(simp [*];done)),(by first|rfl|(simp;done)|(simp [*];done)),(by first|rfl|(simp;done)|(simp [*];done)),H',⟨Nat.le_refl _⟩,⟨by (with_reducible repeat (first|apply Kd.R_alloc|apply Kd.R_drewN|apply Kd.R_drew));exact HO_8.out⟩,⟨by (with_reducible repeat (first|apply Kd.R_alloc|apply Kd.R_drewN|apply Kd.R_drew));exact HO_9.out⟩,⟨by (with_reducible repeat (first|apply Kd.R_alloc|apply Kd.R_drewN|apply Kd.R_drew));exact HO_10.out⟩,⟨by repeat (first|(with_reducible first|exact HB.out|apply below_alloc|apply pw_below_drewN|apply below_drew1)|exact HB.out)⟩⟩
                       case round=>
                        clear H'
                        try clear c1
                        try clear q1
                        try clear c2
                        try clear p2
                        try clear c3
                        try clear p3
                        try clear q3
                        try clear hx3
                        try clear c4
                        try clear c4b0
                        try clear c5
                        try clear c5b0
                        try clear c6
                        try clear c6b0
                        try clear c6b1
                        try clear p6
                        try clear c7
                        try clear c8
                        try clear c8b0
                        try clear c11
                        try clear c11b0
                        try clear c11b1
                        try clear c12
                        try clear c12b0
                        try clear c12b1
                        try clear c14
                        try clear c14b0
                        try clear c14b1
                        try clear c15
                        try clear c15b0
                        try clear c15b1
                        try clear q19
                        try clear c22
                        try clear c22b0
                        try clear c24
                        try clear c24b0
                        try clear c25
                        try clear c25b0
                        try clear c27
                        try clear c27b0
                        try clear c28
                        try clear c28b0
                        try clear c30
                        try clear c30b0
                        try clear c31
                        try clear c31b0
                        try clear p31
                        try clear q31
                        try clear hx31
                        try clear c32
                        try clear c32b0
                        try clear c32b1
                        try clear p33
                        try clear q33
                        try clear hx33
                        try clear c37
                        try clear c37b0
                        try clear c40
                        try clear c40b0
                        try clear c41
                        try clear c41b0
                        try clear c43
                        try clear c43b0
                        try clear c44
                        try clear c44b0
                        try clear c46
                        try clear c48
                        try clear c48b0
                        try clear c49
                        try clear c49b0
                        try clear c50
                        try clear c50b0
                        try clear hx318_0
                        try clear hx331_0
                        try clear hx332_0
                        try clear hx333_0
                        try clear hx334_0
                        try clear hx335_0
                        try clear hx336_0
                        try clear hx337_0
                        try clear p2
                        try clear p3
                        try clear p31
                        try clear p318
                        try clear p33
                        try clear p331
                        try clear p332
                        try clear p333
                        try clear p334
                        try clear p335
                        try clear p336
                        try clear p337
                        try clear p6
                        try clear q1
                        try clear q19
                        try clear q3
                        try clear q31
                        try clear q318
                        try clear q33
                        try clear q331
                        try clear q332
                        try clear q333
                        try clear q334
                        try clear q335
                        try clear q336
                        try clear q337
                        obtain ⟨x8_4,x15_4,x16_4,x17_4,rfl,rfl,rfl,HA,HK4,HO_8,HO_9,HO_10,HB⟩:=hrel
                        have hl8_4:=(Kd.R_reads' HO_8.out).1
                        rw [hl8_4] at HO_8
                        (try simp only [hl8_4])
                        (try simp only [hl8_4] at HO_9)
                        (try simp only [hl8_4] at HO_10)
                        cases gk with
                        | zero=>exact absurd HA.out (by simp [insolvencyref1_long.l3])
                        | succ k4=>
                         have H:=HA.out
                         clear HA
                         simp only [insolvencyref1_long.l3] at H
                         by_cases c51:x17_4<(l1.length:Int)
                         ·rw [if_pos c51] at H
                          have c51b0:decide (x17_4<(l1.length:Int))=true:=decide_eq_true c51
                          clear c51
                          by_cases c52:0≤x17_4
                          ·rw [if_pos c52] at H
                           have c52b0:decide (0≤x17_4)=true:=decide_eq_true c52
                           clear c52
                           by_cases c53:x17_4<(y325.length:Int)
                           ·rw [if_pos c53] at H
                            have c53b0:decide (x17_4<(y325.length:Int))=true:=decide_eq_true c53
                            clear c53
                            obtain ⟨ji54,hji54⟩:∃ j_:Int,(wrap64 (x11_2+x17_4))=j_:=⟨_,rfl⟩
                            replace H:(if 0≤(ji54) then (if (ji54)<(x8_4.length:Int) then (if (IntKind.u64.wrap (rd x8_4 (ji54)))<(IntKind.u64.wrap ((Go.bits .and .u64 (IntKind.u64.wrap (x15_4+(IntKind.u64.wrap (x13_32*(IntKind.u64.wrap (rd y325 x17_4)))))) 4294967295)+x16_4)) then (insolvencyref1_long.l3 k4 (l1.length:Int) x7_1 (x8_4.set ((ji54):Int).toNat ((IntKind.u64.wrap ((IntKind.u64.wrap ((IntKind.u64.wrap (rd x8_4 (ji54)))+4294967296))-(IntKind.u64.wrap ((Go.bits .and .u64 (IntKind.u64.wrap (x15_4+(IntKind.u64.wrap (x13_32*(IntKind.u64.wrap (rd y325 x17_4)))))) 4294967295)+x16_4))))%4294967296)) y325 x10_2 x11_2 x13_32 ((IntKind.u64.wrap (x15_4+(IntKind.u64.wrap (x13_32*(IntKind.u64.wrap (rd y325 x17_4))))))/4294967296) 1 (wrap64 (x17_4+1))) else (insolvencyref1_long.l3 k4 (l1.length:Int) x7_1 (x8_4.set ((ji54):Int).toNat ((IntKind.u64.wrap ((IntKind.u64.wrap (rd x8_4 (ji54)))-(IntKind.u64.wrap ((Go.bits .and .u64 (IntKind.u64.wrap (x15_4+(IntKind.u64.wrap (x13_32*(IntKind.u64.wrap (rd y325 x17_4)))))) 4294967295)+x16_4))))%4294967296)) y325 x10_2 x11_2 x13_32 ((IntKind.u64.wrap (x15_4+(IntKind.u64.wrap (x13_32*(IntKind.u64.wrap (rd y325 x17_4))))))/4294967296) 0 (wrap64 (x17_4+1)))) else (none)) else (none))=some (r1,r2):=by first|(rw [hji54] at H;exact H)|(simp only [hji54] at H ⊢;exact H)
                            have hji54w:(IntKind.i64.wrap (x11_2+x17_4))=ji54:=(i64_w _).trans hji54
                            by_cases c55:0≤(ji54)
                            ·rw [if_pos c55] at H
                             have c55b0:decide (0≤(ji54))=true:=decide_eq_true c55
                             clear c55
                             by_cases c56:(ji54)<(x8_4.length:Int)
                             ·rw [if_pos c56] at H
                              have c56b0:decide ((ji54)<(x8_4.length:Int))=true:=decide_eq_true c56
                              clear c56
                              by_cases c57:(IntKind.u64.wrap (rd x8_4 (ji54)))<(IntKind.u64.wrap ((Go.bits .and .u64 (IntKind.u64.wrap (x15_4+(IntKind.u64.wrap (x13_32*(IntKind.u64.wrap (rd y325 x17_4)))))) 4294967295)+x16_4))
                              ·rw [if_pos c57] at H
                               have c57b0:decide ((IntKind.u64.wrap (rd x8_4 (ji54)))<(IntKind.u64.wrap ((Go.bits .and .u64 (IntKind.u64.wrap (x15_4+(IntKind.u64.wrap (x13_32*(IntKind.u64.wrap (rd y325 x17_4)))))) 4294967295)+x16_4)))=true:=decide_eq_true c57
                               clear c57
                               obtain ⟨y340,hy340⟩:∃ y_:List Int,y_=(x8_4.set ((ji54):Int).toNat ((IntKind.u64.wrap ((IntKind.u64.wrap ((IntKind.u64.wrap (rd x8_4 (ji54)))+4294967296))-(IntKind.u64.wrap ((Go.bits .and .u64 (IntKind.u64.wrap (x15_4+(IntKind.u64.wrap (x13_32*(IntKind.u64.wrap (rd y325 x17_4)))))) 4294967295)+x16_4))))%4294967296)):=⟨_,rfl⟩
                               replace H:(insolvencyref1_long.l3 k4 (l1.length:Int) x7_1 y340 y325 x10_2 x11_2 x13_32 ((IntKind.u64.wrap (x15_4+(IntKind.u64.wrap (x13_32*(IntKind.u64.wrap (rd y325 x17_4))))))/4294967296) 1 (wrap64 (x17_4+1)))=some (r1,r2):=by first|(rw [hy340];with_reducible exact H)|(have H2_:=(Option.bind_some _ _).symm.trans H;rw [hy340];with_reducible exact H2_)|(have H2_:=(Option.bind_some _ _).symm.trans H;with_reducible exact H2_)|with_reducible exact H|(rw [hy340];exact H)|exact H
                               have Ny340:=Aside0.mk hy340
                               clear hy340
                               have H':=Aside0.mk H
                               clear H
                               have p338:0≤(x17_4:Int):=of_decide_eq_true (by first|(with_reducible assumption)|assumption)
                               have q338:x17_4<(y325.length:Int):=of_decide_eq_true (by first|(with_reducible assumption)|assumption)
                               obtain ⟨ad338,e338,hx338_0⟩:=Kd.at_int (Kd.R_reads' HO_9.out).2.2 x17_4 p338 q338
                               obtain rfl:ad333=ad338:=(by injection e338)
                               replace p338:=eq_true p338
                               replace q338:=eq_true q338
                               have p339:0≤((ji54):Int):=of_decide_eq_true (by first|(with_reducible assumption)|assumption)
                               have q339:(ji54)<(x8_4.length:Int):=of_decide_eq_true (by first|(with_reducible assumption)|assumption)
                               obtain ⟨ad339,e339,hx339_0⟩:=Kd.at_int (Kd.R_reads' HO_8.out).2.2 (ji54) p339 q339
                               obtain rfl:ad331=ad339:=(by injection e339)
                               replace p339:=eq_true p339
                               replace q339:=eq_true q339
                               have p58:0≤((ji54):Int):=of_decide_eq_true (by first|(with_reducible assumption)|assumption)
                               have q58:((ji54):Int)<((x8_4.length:Int):Int):=of_decide_eq_true (by first|(with_reducible assumption)|assumption)
                               obtain ⟨go58,co58,eo58,gb58,gl58,cl58,HG58⟩:=Kd.R_form HO_8.out (by omega)
                               (first|cases eo58|(injection eo58 with ea_ en_ ec_;(first|subst ea_|(injection ea_ with ea_;subst ea_));subst ec_;clear en_));(try simp only [add_plain] at *)
                               have GB58:=Aside0.mk gb58
                               have GG58:=Aside0.mk HG58
                               clear gb58 gl58 HG58
                               (first|simp only [add_plain] at hx331_0|skip)
                               (first|simp only [add_plain] at hx332_0|skip)
                               (first|simp only [add_plain] at hx336_0|skip)
                               (first|simp only [add_plain] at hx339_0|skip)
                               obtain ⟨hx58_0,hf58_0⟩:=Kd.R_celln 0 HO_8.out ((ji54):Int) p58 q58
                               replace p58:=eq_true p58
                               replace q58:=eq_true q58
                               have HP59:=Kd.R_putg HO_8.out ((ji54):Int) ((IntKind.u64.wrap ((IntKind.u64.wrap ((IntKind.u64.wrap (rd x8_4 (ji54)))+4294967296))-(IntKind.u64.wrap ((Go.bits .and .u64 (IntKind.u64.wrap (x15_4+(IntKind.u64.wrap (x13_32*(IntKind.u64.wrap (rd y325 x17_4)))))) 4294967295)+x16_4))))%4294967296)
                               go_wp2_with (first|((with_reducible refine gate_store (t:=60) (p:=169) rfl ?_);refine store_event (t:=60) (p:=169) (v:=?vo_w60) (w1:=(wr.setCell ⟨go58,((ji54):Int).toNat,none⟩ (.int .u32 ((IntKind.u64.wrap ((IntKind.u64.wrap ((IntKind.u64.wrap (rd x8_4 (ji54)))+4294967296))-(IntKind.u64.wrap ((Go.bits .and .u64 (IntKind.u64.wrap (x15_4+(IntKind.u64.wrap (x13_32*(IntKind.u64.wrap (rd y325 x17_4)))))) 4294967295)+x16_4))))%4294967296)))) ?hg ?ho ?hn ?hr ?_;(case ho=>rfl);(case hg=>rfl);(case hn=>rfl);(case hr=>first|(go_simp;done)|(go_simp;rfl));intro w60 hw;have hg:wr.grownBy w60 (some go58):=(by rw [hw];exact HP59.2);have hp_:Kd.R (Kd.int .u32) 60 w60 w.heap.size (fun k_=>some k_≠(.slice (some ad333) y325.length co18:Value).ownBlock∧some k_≠(v329:Value).ownBlock) (.slice (some ⟨go58,0,none⟩) x8_4.length co35) y340:=(by rw [hw,Ny340.out];exact HP59.1);clear HP59;have n0_:=Aside0.mk (hp_);have n1_:=Aside0.mk (Kd.R_after (v:=(.slice (some ⟨go58,0,none⟩) x8_4.length co35)) (v1:=(.slice (some ⟨go58,0,none⟩) x8_4.length co35)) (ok:=(fun k_=>some k_≠(v329:Value).ownBlock)) (by (with_reducible repeat (first|apply Kd.R_alloc|apply Kd.R_drewN|apply Kd.R_drew));exact Kd.R_mono HO_9.out (fun _ hk=>⟨hk.2,hk.1⟩)) hg (.inl rfl));have n2_:=Aside0.mk (Kd.R_after (v:=(.slice (some ⟨go58,0,none⟩) x8_4.length co35)) (v1:=(.slice (some ⟨go58,0,none⟩) x8_4.length co35)) (ok:=(fun k_=>some k_≠(.slice (some ad333) y325.length co18:Value).ownBlock)) (by (with_reducible repeat (first|apply Kd.R_alloc|apply Kd.R_drewN|apply Kd.R_drew));exact Kd.R_mono HO_10.out (fun _ hk=>⟨hk.2,hk.1⟩)) hg (.inl rfl));have n3_:=Aside0.mk ((by rw [hw];exact below_set (HB.out) GB58.out:Below w.heap.size w w60));clear HO_8;clear HO_9;clear HO_10;clear HB;have HO_8:=n0_;have HO_9:=n1_;have HO_10:=n2_;have HB:=n3_;clear n0_ n1_ n2_ n3_;clear hg hw hp_))
                               (try simp only [← hl8_4])
                               go_roundg k4
                               case measure=>have:=HK1.out;have:=HK2.out;have:=HJ32.out;have:=HK4.out;omega
                               case rel=>exact ⟨(y340),((IntKind.u64.wrap (x15_4+(IntKind.u64.wrap (x13_32*(IntKind.u64.wrap (rd y325 x17_4))))))/4294967296),(1),(wrap64 (x17_4+1)),(by first|rfl|(simp;done)|(simp [*];done)),(by first|rfl|(simp;done)|(simp [*];done)),(by first|rfl|(simp;done)|(simp [*];done)),H',⟨by have:=HK1.out;have:=HK2.out;have:=HJ32.out;have:=HK4.out;omega⟩,⟨by (try simp only [hl8_4]);(with_reducible repeat (first|apply Kd.R_alloc|apply Kd.R_drewN|apply Kd.R_drew));exact HO_8.out⟩,⟨by (try simp only [hl8_4]);(with_reducible repeat (first|apply Kd.R_alloc|apply Kd.R_drewN|apply Kd.R_drew));exact Kd.R_mono HO_9.out (fun _ hk=>⟨hk.2,hk.1⟩)⟩,⟨by (try simp only [hl8_4]);(with_reducible repeat (first|apply Kd.R_alloc|apply Kd.R_drewN|apply Kd.R_drew));exact Kd.R_mono HO_10.out (fun _ hk=>⟨hk.2,hk.1⟩)⟩,⟨by repeat (first|(with_reducible first|exact HB.out|apply below_alloc|apply pw_below_drewN|apply below_drew1)|exact HB.out)⟩⟩
                              ·rw [if_neg c57] at H
                               have c57b0:decide ((IntKind.u64.wrap (rd x8_4 (ji54)))<(IntKind.u64.wrap ((Go.bits .and .u64 (IntKind.u64.wrap (x15_4+(IntKind.u64.wrap (x13_32*(IntKind.u64.wrap (rd y325 x17_4)))))) 4294967295)+x16_4)))=false:=decide_eq_false c57
                               clear c57
                               obtain ⟨y341,hy341⟩:∃ y_:List Int,y_=(x8_4.set ((ji54):Int).toNat ((IntKind.u64.wrap ((IntKind.u64.wrap (rd x8_4 (ji54)))-(IntKind.u64.wrap ((Go.bits .and .u64 (IntKind.u64.wrap (x15_4+(IntKind.u64.wrap (x13_32*(IntKind.u64.wrap (rd y325 x17_4)))))) 4294967295)+x16_4))))%4294967296)):=⟨_,rfl⟩
                               replace H:(insolvencyref1_long.l3 k4 (l1.length:Int) x7_1 y341 y325 x10_2 x11_2 x13_32 ((IntKind.u64.wrap (x15_4+(IntKind.u64.wrap (x13_32*(IntKind.u64.wrap (rd y325 x17_4))))))/4294967296) 0 (wrap64 (x17_4+1)))=some (r1,r2):=by first|(rw [hy341];with_reducible exact H)|(have H2_:=(Option.bind_some _ _).symm.trans H;rw [hy341];with_reducible exact H2_)|(have H2_:=(Option.bind_some _ _).symm.trans H;with_reducible exact H2_)|with_reducible exact H|(rw [hy341];exact H)|exact H
                               have Ny341:=Aside0.mk hy341
                               clear hy341
                               have H':=Aside0.mk H
                               clear H
                               have p338:0≤(x17_4:Int):=of_decide_eq_true (by first|(with_reducible assumption)|assumption)
                               have q338:x17_4<(y325.length:Int):=of_decide_eq_true (by first|(with_reducible assumption)|assumption)
                               obtain ⟨ad338,e338,hx338_0⟩:=Kd.at_int (Kd.R_reads' HO_9.out).2.2 x17_4 p338 q338
                               obtain rfl:ad333=ad338:=(by injection e338)
                               replace p338:=eq_true p338
                               replace q338:=eq_true q338
                               have p339:0≤((ji54):Int):=of_decide_eq_true (by first|(with_reducible assumption)|assumption)
                               have q339:(ji54)<(x8_4.length:Int):=of_decide_eq_true (by first|(with_reducible assumption)|assumption)
                               obtain ⟨ad339,e339,hx339_0⟩:=Kd.at_int (Kd.R_reads' HO_8.out).2.2 (ji54) p339 q339
                               obtain rfl:ad331=ad339:=(by injection e339)
                               replace p339:=eq_true p339
                               replace q339:=eq_true q339
                               have p61:0≤((ji54):Int):=of_decide_eq_true (by first|(with_reducible assumption)|assumption)
                               have q61:((ji54):Int)<((x8_4.length:Int):Int):=of_decide_eq_true (by first|(with_reducible assumption)|assumption)
                               obtain ⟨go61,co61,eo61,gb61,gl61,cl61,HG61⟩:=Kd.R_form HO_8.out (by omega)
                               (first|cases eo61|(injection eo61 with ea_ en_ ec_;(first|subst ea_|(injection ea_ with ea_;subst ea_));subst ec_;clear en_));(try simp only [add_plain] at *)
                               have GB61:=Aside0.mk gb61
                               have GG61:=Aside0.mk HG61
                               clear gb61 gl61 HG61
                               (first|simp only [add_plain] at hx339_0|skip)
                               obtain ⟨hx61_0,hf61_0⟩:=Kd.R_celln 0 HO_8.out ((ji54):Int) p61 q61
                               replace p61:=eq_true p61
                               replace q61:=eq_true q61
                               have HP62:=Kd.R_putg HO_8.out ((ji54):Int) ((IntKind.u64.wrap ((IntKind.u64.wrap (rd x8_4 (ji54)))-(IntKind.u64.wrap ((Go.bits .and .u64 (IntKind.u64.wrap (x15_4+(IntKind.u64.wrap (x13_32*(IntKind.u64.wrap (rd y325 x17_4)))))) 4294967295)+x16_4))))%4294967296)
                               go_wp2_with (first|((with_reducible refine gate_store (t:=60) (p:=169) rfl ?_);refine store_event (t:=60) (p:=169) (v:=?vo_w63) (w1:=(wr.setCell ⟨go61,((ji54):Int).toNat,none⟩ (.int .u32 ((IntKind.u64.wrap ((IntKind.u64.wrap (rd x8_4 (ji54)))-(IntKind.u64.wrap ((Go.bits .and .u64 (IntKind.u64.wrap (x15_4+(IntKind.u64.wrap (x13_32*(IntKind.u64.wrap (rd y325 x17_4)))))) 4294967295)+x16_4))))%4294967296)))) ?hg ?ho ?hn ?hr ?_;(case ho=>rfl);(case hg=>rfl);(case hn=>rfl);(case hr=>first|(go_simp;done)|(go_simp;rfl));intro w63 hw;have hg:wr.grownBy w63 (some go61):=(by rw [hw];exact HP62.2);have hp_:Kd.R (Kd.int .u32) 60 w63 w.heap.size (fun k_=>some k_≠(.slice (some ad333) y325.length co18:Value).ownBlock∧some k_≠(v329:Value).ownBlock) (.slice (some ⟨go61,0,none⟩) x8_4.length co35) y341:=(by rw [hw,Ny341.out];exact HP62.1);clear HP62;have n0_:=Aside0.mk (hp_);have n1_:=Aside0.mk (Kd.R_after (v:=(.slice (some ⟨go61,0,none⟩) x8_4.length co35)) (v1:=(.slice (some ⟨go61,0,none⟩) x8_4.length co35)) (ok:=(fun k_=>some k_≠(v329:Value).ownBlock)) (by (with_reducible repeat (first|apply Kd.R_alloc|apply Kd.R_drewN|apply Kd.R_drew));exact Kd.R_mono HO_9.out (fun _ hk=>⟨hk.2,hk.1⟩)) hg (.inl rfl));have n2_:=Aside0.mk (Kd.R_after (v:=(.slice (some ⟨go61,0,none⟩) x8_4.length co35)) (v1:=(.slice (some ⟨go61,0,none⟩) x8_4.length co35)) (ok:=(fun k_=>some k_≠(.slice (some ad333) y325.length co18:Value).ownBlock)) (by (with_reducible repeat (first|apply Kd.R_alloc|apply Kd.R_drewN|apply Kd.R_drew));exact Kd.R_mono HO_10.out (fun _ hk=>⟨hk.2,hk.1⟩)) hg (.inl rfl));have n3_:=Aside0.mk ((by rw [hw];exact below_set (HB.out) GB61.out:Below w.heap.size w w63));clear HO_8;clear HO_9;clear HO_10;clear HB;have HO_8:=n0_;have HO_9:=n1_;have HO_10:=n2_;have HB:=n3_;clear n0_ n1_ n2_ n3_;clear hg hw hp_))
                               (try simp only [← hl8_4])
                               go_roundg k4
                               case measure=>have:=HK1.out;have:=HK2.out;have:=HJ32.out;have:=HK4.out;omega
                               case rel=>exact ⟨(y341),((IntKind.u64.wrap (x15_4+(IntKind.u64.wrap (x13_32*(IntKind.u64.wrap (rd y325 x17_4))))))/4294967296),(0),(wrap64 (x17_4+1)),(by first|rfl|(simp;done)|(simp [*];done)),(by first|rfl|(simp;done)|(simp [*];done)),(by first|rfl|(simp;done)|(simp [*];done)),H',⟨by have:=HK1.out;have:=HK2.out;have:=HJ32.out;have:=HK4.out;omega⟩,⟨by (try simp only [hl8_4]);(with_reducible repeat (first|apply Kd.R_alloc|apply Kd.R_drewN|apply Kd.R_drew));exact HO_8.out⟩,⟨by (try simp only [hl8_4]);(with_reducible repeat (first|apply Kd.R_alloc|apply Kd.R_drewN|apply Kd.R_drew));exact Kd.R_mono HO_9.out (fun _ hk=>⟨hk.2,hk.1⟩)⟩,⟨by (try simp only [hl8_4]);(with_reducible repeat (first|apply Kd.R_alloc|apply Kd.R_drewN|apply Kd.R_drew));exact Kd.R_mono HO_10.out (fun _ hk=>⟨hk.2,hk.1⟩)⟩,⟨by repeat (first|(with_reducible first|exact HB.out|apply below_alloc|apply pw_below_drewN|apply below_drew1)|exact HB.out)⟩⟩
                             ·rw [if_neg c56] at H
                              exact absurd H (by simp)
                            ·rw [if_neg c55] at H
                             exact absurd H (by simp)
                           ·rw [if_neg c53] at H
                            exact absurd H (by simp)
                          ·rw [if_neg c52] at H
                           exact absurd H (by simp)
                         ·rw [if_neg c51] at H
                          have c51b0:decide (x17_4<(l1.length:Int))=false:=decide_eq_false c51
                          clear c51
                          obtain ⟨ji64,hji64⟩:∃ j_:Int,(wrap64 (x11_2+(l1.length:Int)))=j_:=⟨_,rfl⟩
                          replace H:(if 0≤(ji64) then (if (ji64)<(x8_4.length:Int) then ((some (x8_4.set ((ji64):Int).toNat ((IntKind.u64.wrap ((IntKind.u64.wrap (rd x8_4 (ji64)))-(IntKind.u64.wrap (x15_4+x16_4))))%4294967296):List Int)).bind fun y343=>(if (IntKind.u64.wrap (rd x8_4 (ji64)))<(IntKind.u64.wrap (x15_4+x16_4)) then (insolvencyref1_long.l4 k4 (l1.length:Int) x7_1 y343 y325 x10_2 x11_2 (IntKind.u64.wrap (x13_32-1)) 0 0) else (if 0≤x11_2 then (if x11_2<(x10_2.length:Int) then (insolvencyref1_long.l1 k4 (l1.length:Int) x7_1 y343 y325 (x10_2.set (x11_2:Int).toNat ((x13_32)%4294967296)) (wrap64 (x11_2-1))) else (none)) else (none)))) else (none)) else (none))=some (r1,r2):=by first|(rw [hji64] at H;exact H)|(simp only [hji64] at H ⊢;exact H)
                          have hji64w:(IntKind.i64.wrap (x11_2+(l1.length:Int)))=ji64:=(i64_w _).trans hji64
                          (try clear hji23w);(try clear hji23)
                          by_cases c65:0≤(ji64)
                          ·rw [if_pos c65] at H
                           have c65b0:decide (0≤(ji64))=true:=decide_eq_true c65
                           clear c65
                           by_cases c66:(ji64)<(x8_4.length:Int)
                           ·rw [if_pos c66] at H
                            have c66b0:decide ((ji64)<(x8_4.length:Int))=true:=decide_eq_true c66
                            clear c66
                            obtain ⟨y343,hy343⟩:∃ y_:List Int,y_=(x8_4.set ((ji64):Int).toNat ((IntKind.u64.wrap ((IntKind.u64.wrap (rd x8_4 (ji64)))-(IntKind.u64.wrap (x15_4+x16_4))))%4294967296)):=⟨_,rfl⟩
                            replace H:(if (IntKind.u64.wrap (rd x8_4 (ji64)))<(IntKind.u64.wrap (x15_4+x16_4)) then (insolvencyref1_long.l4 k4 (l1.length:Int) x7_1 y343 y325 x10_2 x11_2 (IntKind.u64.wrap (x13_32-1)) 0 0) else (if 0≤x11_2 then (if x11_2<(x10_2.length:Int) then (insolvencyref1_long.l1 k4 (l1.length:Int) x7_1 y343 y325 (x10_2.set (x11_2:Int).toNat ((x13_32)%4294967296)) (wrap64 (x11_2-1))) else (none)) else (none)))=some (r1,r2):=by first|(rw [hy343];with_reducible exact H)|(have H2_:=(Option.bind_some _ _).symm.trans H;rw [hy343];with_reducible exact H2_)|(have H2_:=(Option.bind_some _ _).symm.trans H;with_reducible exact H2_)|with_reducible exact H|(rw [hy343];exact H)|exact H
                            have Ny343:=Aside0.mk hy343
                            clear hy343
                            by_cases c68:(IntKind.u64.wrap (rd x8_4 (ji64)))<(IntKind.u64.wrap (x15_4+x16_4))
                            ·rw [if_pos c68] at H
                             have c68b0:decide ((IntKind.u64.wrap (rd x8_4 (ji64)))<(IntKind.u64.wrap (x15_4+x16_4)))=true:=decide_eq_true c68
                             clear c68
                             have H':=Aside0.mk H
                             clear H
                             have p342:0≤((ji64):Int):=of_decide_eq_true (by first|(with_reducible assumption)|assumption)
                             have q342:(ji64)<(x8_4.length:Int):=of_decide_eq_true (by first|(with_reducible assumption)|assumption)
                             obtain ⟨ad342,e342,hx342_0⟩:=Kd.at_int (Kd.R_reads' HO_8.out).2.2 (ji64) p342 q342
                             obtain rfl:ad331=ad342:=(by injection e342)
                             replace p342:=eq_true p342
                             replace q342:=eq_true q342
                             have p67:0≤((ji64):Int):=of_decide_eq_true (by first|(with_reducible assumption)|assumption)
                             have q67:((ji64):Int)<((x8_4.length:Int):Int):=of_decide_eq_true (by first|(with_reducible assumption)|assumption)
                             obtain ⟨go67,co67,eo67,gb67,gl67,cl67,HG67⟩:=Kd.R_form HO_8.out (by omega)
                             (first|cases eo67|(injection eo67 with ea_ en_ ec_;(first|subst ea_|(injection ea_ with ea_;subst ea_));subst ec_;clear en_));(try simp only [add_plain] at *)
                             have GB67:=Aside0.mk gb67
                             have GG67:=Aside0.mk HG67
                             clear gb67 gl67 HG67
                             (first|simp only [add_plain] at hx342_0|skip)
                             obtain ⟨hx67_0,hf67_0⟩:=Kd.R_celln 0 HO_8.out ((ji64):Int) p67 q67
                             replace p67:=eq_true p67
                             replace q67:=eq_true q67
                             have HP69:=Kd.R_putg HO_8.out ((ji64):Int) ((IntKind.u64.wrap ((IntKind.u64.wrap (rd x8_4 (ji64)))-(IntKind.u64.wrap (x15_4+x16_4))))%4294967296)
                             go_wp2_with (first|((with_reducible refine gate_store (t:=60) (p:=191) rfl ?_);refine store_event (t:=60) (p:=191) (v:=?vo_w70) (w1:=(wr.setCell ⟨go67,((ji64):Int).toNat,none⟩ (.int .u32 ((IntKind.u64.wrap ((IntKind.u64.wrap (rd x8_4 (ji64)))-(IntKind.u64.wrap (x15_4+x16_4))))%4294967296)))) ?hg ?ho ?hn ?hr ?_;(case ho=>rfl);(case hg=>rfl);(case hn=>rfl);(case hr=>first|(go_simp;done)|(go_simp;rfl));intro w70 hw;have hg:wr.grownBy w70 (some go67):=(by rw [hw];exact HP69.2);have hp_:Kd.R (Kd.int .u32) 60 w70 w.heap.size (fun k_=>some k_≠(.slice (some ad333) y325.length co18:Value).ownBlock∧some k_≠(v329:Value).ownBlock) (.slice (some ⟨go67,0,none⟩) x8_4.length co35) y343:=(by rw [hw,Ny343.out];exact HP69.1);clear HP69;have n0_:=Aside0.mk (hp_);have n1_:=Aside0.mk (Kd.R_after (v:=(.slice (some ⟨go67,0,none⟩) x8_4.length co35)) (v1:=(.slice (some ⟨go67,0,none⟩) x8_4.length co35)) (ok:=(fun k_=>some k_≠(v329:Value).ownBlock)) (by (with_reducible repeat (first|apply Kd.R_alloc|apply Kd.R_drewN|apply Kd.R_drew));exact Kd.R_mono HO_9.out (fun _ hk=>⟨hk.2,hk.1⟩)) hg (.inl rfl));have n2_:=Aside0.mk (Kd.R_after (v:=(.slice (some ⟨go67,0,none⟩) x8_4.length co35)) (v1:=(.slice (some ⟨go67,0,none⟩) x8_4.length co35)) (ok:=(fun k_=>some k_≠(.slice (some ad333) y325.length co18:Value).ownBlock)) (by (with_reducible repeat (first|apply Kd.R_alloc|apply Kd.R_drewN|apply Kd.R_drew));exact Kd.R_mono HO_10.out (fun _ hk=>⟨hk.2,hk.1⟩)) hg (.inl rfl));have n3_:=Aside0.mk ((by rw [hw];exact below_set (HB.out) GB67.out:Below w.heap.size w w70));clear HO_8;clear HO_9;clear HO_10;clear HB;have HO_8:=n0_;have HO_9:=n1_;have HO_10:=n2_;have HB:=n3_;clear n0_ n1_ n2_ n3_;clear hg hw hp_))
                             go_loopg [15,23] k4 (fun kq v15 v23 w'=>∃ (x8_5:List Int) (x15_5:Int) (x23_5:Int),v15 = .int .u64 x15_5∧v23 = .int .i64 x23_5∧Aside0 (insolvencyref1_long.l4 kq (l1.length:Int) x7_1 x8_5 y325 x10_2 x11_2 (IntKind.u64.wrap (x13_32-1)) x15_5 x23_5=some (r1,r2))∧Aside0 (kq≤k4)∧Aside0 (Kd.R (Kd.int .u32) 60 w' w.heap.size (fun k_=>some k_≠((.slice (some ad333) y325.length co18):Value).ownBlock∧some k_≠(v329:Value).ownBlock) (.slice (some ⟨go67,0,none⟩) x8_4.length co35) x8_5)∧Aside0 (Kd.R (Kd.int .u32) 60 w' w.heap.size (fun k_=>some k_≠((.slice (some ⟨go67,0,none⟩) x8_4.length co35):Value).ownBlock∧some k_≠(v329:Value).ownBlock) (.slice (some ad333) y325.length co18) y325)∧Aside0 (Kd.R (Kd.int .u32) 60 w' w.heap.size (fun k_=>some k_≠((.slice (some ⟨go67,0,none⟩) x8_4.length co35):Value).ownBlock∧some k_≠((.slice (some ad333) y325.length co18):Value).ownBlock) v329 x10_2)∧Aside0 (Below w.heap.size w w'))
                             case atStart=>exact ⟨(y343),(0),(0),(by first|rfl|(simp;done)|(simp [*];done)),(by first|rfl|(simp;done)|(simp [*];done)),H',⟨Nat.le_refl _⟩,⟨by (try simp only [hl8_4]);(with_reducible repeat (first|apply Kd.R_alloc|apply Kd.R_drewN|apply Kd.R_drew));exact HO_8.out⟩,⟨by (try simp only [hl8_4]);(with_reducible repeat (first|apply Kd.R_alloc|apply Kd.R_drewN|apply Kd.R_drew));exact Kd.R_mono HO_9.out (fun _ hk=>⟨hk.2,hk.1⟩)⟩,⟨by (try simp only [hl8_4]);(with_reducible repeat (first|apply Kd.R_alloc|apply Kd.R_drewN|apply Kd.R_drew));exact Kd.R_mono HO_10.out (fun _ hk=>⟨hk.2,hk.1⟩)⟩,⟨by repeat (first|(with_reducible first|exact HB.out|apply below_alloc|apply pw_below_drewN|apply below_drew1)|exact HB.out)⟩⟩
                             case round=>
                              clear H'
                              try clear c1
                              try clear q1
                              try clear c2
                              try clear p2
                              try clear c3
                              try clear p3
                              try clear q3
                              try clear hx3
                              try clear c4
                              try clear c4b0
                              try clear c5
                              try clear c5b0
                              try clear p5
                              try clear q5
                              try clear hx5
                              try clear hf5
                              try clear c6
                              try clear c6b0
                              try clear c6b1
                              try clear p6
                              try clear q6
                              try clear hx6
                              try clear hf6
                              try clear c7
                              try clear c8
                              try clear c8b0
                              try clear c11
                              try clear c11b0
                              try clear c11b1
                              try clear c12
                              try clear c12b0
                              try clear c12b1
                              try clear c14
                              try clear c14b0
                              try clear c14b1
                              try clear c15
                              try clear c15b0
                              try clear c15b1
                              try clear q19
                              try clear c22
                              try clear c22b0
                              try clear c24
                              try clear c24b0
                              try clear c25
                              try clear c25b0
                              try clear c27
                              try clear c27b0
                              try clear c28
                              try clear c28b0
                              try clear c30
                              try clear c30b0
                              try clear c31
                              try clear c31b0
                              try clear p31
                              try clear q31
                              try clear hx31
                              try clear c32
                              try clear c32b0
                              try clear c32b1
                              try clear p33
                              try clear q33
                              try clear hx33
                              try clear p34
                              try clear q34
                              try clear hx34
                              try clear c37
                              try clear c37b0
                              try clear c40
                              try clear c40b0
                              try clear c41
                              try clear c41b0
                              try clear c43
                              try clear c43b0
                              try clear c44
                              try clear c44b0
                              try clear c46
                              try clear c48
                              try clear c48b0
                              try clear c49
                              try clear c49b0
                              try clear c50
                              try clear c50b0
                              try clear c51
                              try clear c51b0
                              try clear c52
                              try clear c52b0
                              try clear c53
                              try clear c53b0
                              try clear c55
                              try clear c55b0
                              try clear c56
                              try clear c56b0
                              try clear c57
                              try clear c57b0
                              try clear p58
                              try clear q58
                              try clear hx58
                              try clear hf58
                              try clear p61
                              try clear q61
                              try clear hx61
                              try clear hf61
                              try clear p64
                              try clear c65
                              try clear c65b0
                              try clear c66
                              try clear c66b0
                              try clear p67
                              try clear q67
                              try clear hx67
                              try clear hf67
                              try clear c68
                              try clear c68b0
                              try clear hx318_0
                              try clear hx331_0
                              try clear hx332_0
                              try clear hx333_0
                              try clear hx334_0
                              try clear hx335_0
                              try clear hx336_0
                              try clear hx337_0
                              try clear hx338_0
                              try clear hx339_0
                              try clear hx342_0
                              try clear hx58_0
                              try clear hx61_0
                              try clear hx67_0
                              try clear p2
                              try clear p3
                              try clear p31
                              try clear p318
                              try clear p33
                              try clear p331
                              try clear p332
                              try clear p333
                              try clear p334
                              try clear p335
                              try clear p336
                              try clear p337
                              try clear p338
                              try clear p339
                              try clear p342
                              try clear p58
                              try clear p6
                              try clear p61
                              try clear p67
                              try clear q1
                              try clear q19
                              try clear q3
                              try clear q31
                              try clear q318
                              try clear q33
                              try clear q331
                              try clear q332
                              try clear q333
                              try clear q334
                              try clear q335
                              try clear q336
                              try clear q337
                              try clear q338
                              try clear q339
                              try clear q342
                              try clear q58
                              try clear q61
                              try clear q67
                              obtain ⟨x8_5,x15_5,x23_5,rfl,rfl,HA,HK5,HO_8,HO_9,HO_10,HB⟩:=hrel
                              have hl8_5:=(Kd.R_reads' HO_8.out).1
                              rw [hl8_5] at HO_8
                              (try simp only [hl8_5])
                              (try simp only [hl8_5] at HO_9)
                              (try simp only [hl8_5] at HO_10)
                              cases gk with
                              | zero=>exact absurd HA.out (by simp [insolvencyref1_long.l4])
                              | succ k5=>
                               have H:=HA.out
                               clear HA
                               simp only [insolvencyref1_long.l4] at H
                               by_cases c71:x23_5<(l1.length:Int)
                               ·rw [if_pos c71] at H
                                have c71b0:decide (x23_5<(l1.length:Int))=true:=decide_eq_true c71
                                clear c71
                                obtain ⟨ji72,hji72⟩:∃ j_:Int,(wrap64 (x11_2+x23_5))=j_:=⟨_,rfl⟩
                                replace H:(if 0≤(ji72) then (if (ji72)<(x8_5.length:Int) then (if 0≤x23_5 then (if x23_5<(y325.length:Int) then (insolvencyref1_long.l4 k5 (l1.length:Int) x7_1 (x8_5.set ((ji72):Int).toNat ((IntKind.u64.wrap ((IntKind.u64.wrap (x15_5+(IntKind.u64.wrap (rd x8_5 (ji72)))))+(IntKind.u64.wrap (rd y325 x23_5))))%4294967296)) y325 x10_2 x11_2 (IntKind.u64.wrap (x13_32-1)) ((IntKind.u64.wrap ((IntKind.u64.wrap (x15_5+(IntKind.u64.wrap (rd x8_5 (ji72)))))+(IntKind.u64.wrap (rd y325 x23_5))))/4294967296) (wrap64 (x23_5+1))) else (none)) else (none)) else (none)) else (none))=some (r1,r2):=by first|(rw [hji72] at H;exact H)|(simp only [hji72] at H ⊢;exact H)
                                have hji72w:(IntKind.i64.wrap (x11_2+x23_5))=ji72:=(i64_w _).trans hji72
                                by_cases c73:0≤(ji72)
                                ·rw [if_pos c73] at H
                                 have c73b0:decide (0≤(ji72))=true:=decide_eq_true c73
                                 clear c73
                                 by_cases c74:(ji72)<(x8_5.length:Int)
                                 ·rw [if_pos c74] at H
                                  have c74b0:decide ((ji72)<(x8_5.length:Int))=true:=decide_eq_true c74
                                  clear c74
                                  by_cases c75:0≤x23_5
                                  ·rw [if_pos c75] at H
                                   have c75b0:decide (0≤x23_5)=true:=decide_eq_true c75
                                   clear c75
                                   by_cases c76:x23_5<(y325.length:Int)
                                   ·rw [if_pos c76] at H
                                    have c76b0:decide (x23_5<(y325.length:Int))=true:=decide_eq_true c76
                                    clear c76
                                    obtain ⟨y346,hy346⟩:∃ y_:List Int,y_=(x8_5.set ((ji72):Int).toNat ((IntKind.u64.wrap ((IntKind.u64.wrap (x15_5+(IntKind.u64.wrap (rd x8_5 (ji72)))))+(IntKind.u64.wrap (rd y325 x23_5))))%4294967296)):=⟨_,rfl⟩
                                    replace H:(insolvencyref1_long.l4 k5 (l1.length:Int) x7_1 y346 y325 x10_2 x11_2 (IntKind.u64.wrap (x13_32-1)) ((IntKind.u64.wrap ((IntKind.u64.wrap (x15_5+(IntKind.u64.wrap (rd x8_5 (ji72)))))+(IntKind.u64.wrap (rd y325 x23_5))))/4294967296) (wrap64 (x23_5+1)))=some (r1,r2):=by first|(rw [hy346];with_reducible exact H)|(have H2_:=(Option.bind_some _ _).symm.trans H;rw [hy346];with_reducible exact H2_)|(have H2_:=(Option.bind_some _ _).symm.trans H;with_reducible exact H2_)|with_reducible exact H|(rw [hy346];exact H)|exact H
                                    have Ny346:=Aside0.mk hy346
                                    clear hy346
                                    have H':=Aside0.mk H
                                    clear H
                                    try go_wp2
                                    have n0_:=Aside0.mk (Kd.R_drew HO_8.out)
                                    have n1_:=Aside0.mk (Kd.R_drew HO_9.out)
                                    have n2_:=Aside0.mk (Kd.R_drew HO_10.out)
                                    have n3_:=Aside0.mk (below_drew1 HB.out)
                                    clear HO_8
                                    clear HO_9
                                    clear HO_10
                                    clear HB
                                    have HO_8:=n0_
                                    have HO_9:=n1_
                                    have HO_10:=n2_
                                    have HB:=n3_
                                    clear n0_ n1_ n2_ n3_
                                    have p344:0≤((ji72):Int):=of_decide_eq_true (by first|(with_reducible assumption)|assumption)
                                    have q344:(ji72)<(x8_5.length:Int):=of_decide_eq_true (by first|(with_reducible assumption)|assumption)
                                    obtain ⟨ad344,e344,hx344_0⟩:=Kd.at_int (Kd.R_reads' HO_8.out).2.2 (ji72) p344 q344
                                    obtain rfl:(⟨go67,0,none⟩:Addr)=ad344:=(by injection e344)
                                    (first|simp only [add_plain] at hx344_0|simp only [add_at] at hx344_0|simp only [Addr.add,Nat.zero_add] at hx344_0|skip)
                                    replace p344:=eq_true p344
                                    replace q344:=eq_true q344
                                    have p345:0≤(x23_5:Int):=of_decide_eq_true (by first|(with_reducible assumption)|assumption)
                                    have q345:x23_5<(y325.length:Int):=of_decide_eq_true (by first|(with_reducible assumption)|assumption)
                                    obtain ⟨ad345,e345,hx345_0⟩:=Kd.at_int (Kd.R_reads' HO_9.out).2.2 x23_5 p345 q345
                                    obtain rfl:ad333=ad345:=(by injection e345)
                                    replace p345:=eq_true p345
                                    replace q345:=eq_true q345
                                    refine start_ (n:=16) (S:=fun w'=>w'.cell? ⟨go67,((ji72)).toNat,none⟩=some (.int .u32 (rd x8_5 (ji72)))∧w'.cell? (ad333.add (x23_5).toNat)=some (.int .u32 (rd y325 x23_5))) (ds:=[]) #[false,false,false,false,false,false,false,false,false,false,false,false,false,false,false,false] (by kernel_rfl) rfl rfl ⟨hx344_0,hx345_0⟩ (fun hHeld=>?_);refine with_tabW insolvencyref1_long.tab42 insolvencyref1_long.bits42 (fun HT_ HW_=>?_)
                                    generalize wr.drew=w78 at HO_8 HO_9 HO_10 HB hx344_0 hx345_0 hHeld ⊢
                                    refine pure_ (i:=0) (N:=some 200) (v:=?_) (a':=?_) #[true,false,false,false,false,false,false,false,false,false,false,false,false,false,false,false] rfl rfl (any_of HT_.out (by kernel_rfl)) (fun _ _ _ h=>h) (Or.inl ⟨by rfl,?_⟩) ?_ ?_
                                    rotate_left
                                    ·intro w'
                                     go_simp
                                     with_reducible rfl
                                    rotate_left
                                    ·simp only [Act.put,List.setIfInBounds_toArray,List.set_cons_zero,List.set_cons_succ,i64_w,i32_w]
                                     rfl
                                    refine pure_ (i:=1) (N:=some 201) (v:=?_) (a':=?_) #[true,true,false,false,false,false,false,false,false,false,false,false,false,false,false,false] rfl rfl (any_of HT_.out (by kernel_rfl)) (fun _ _ _ h=>h) (Or.inl ⟨by rfl,?_⟩) ?_ ?_
                                    rotate_left
                                    ·intro w'
                                     go_simp
                                     with_reducible rfl
                                    rotate_left
                                    ·simp only [Act.put,List.setIfInBounds_toArray,List.set_cons_zero,List.set_cons_succ,i64_w,i32_w]
                                     rfl
                                    refine pure_ (i:=2) (N:=some 202) (v:=?_) (a':=?_) #[true,true,true,false,false,false,false,false,false,false,false,false,false,false,false,false] rfl rfl (any_of HT_.out (by kernel_rfl)) (fun _ _ _ h=>h) (Or.inl ⟨by rfl,?_⟩) ?_ ?_
                                    rotate_left
                                    ·intro w'
                                     go_simp
                                     with_reducible rfl
                                    rotate_left
                                    ·simp only [Act.put,List.setIfInBounds_toArray,List.set_cons_zero,List.set_cons_succ,i64_w,i32_w]
                                     rfl
                                    refine pure_ (i:=3) (N:=some 203) (v:=?_) (a':=?_) #[true,true,true,true,false,false,false,false,false,false,false,false,false,false,false,false] rfl rfl (any_of HT_.out (by kernel_rfl)) (fun _ _ _ h=>h) (Or.inl ⟨by rfl,?_⟩) ?_ ?_
                                    rotate_left
                                    ·intro w'
                                     go_simp
                                     with_reducible rfl
                                    rotate_left
                                    ·simp only [Act.put,List.setIfInBounds_toArray,List.set_cons_zero,List.set_cons_succ,i64_w,i32_w]
                                     rfl
                                    refine pure_ (i:=4) (N:=some 204) (v:=?_) (a':=?_) #[true,true,true,true,true,false,false,false,false,false,false,false,false,false,false,false] rfl rfl (any_of HT_.out (by kernel_rfl)) (fun _ _ _ h=>h) (Or.inl ⟨by rfl,?_⟩) ?_ ?_
                                    rotate_left
                                    ·intro w'
                                     go_simp
                                     with_reducible rfl
                                    rotate_left
                                    ·simp only [Act.put,List.setIfInBounds_toArray,List.set_cons_zero,List.set_cons_succ,i64_w,i32_w]
                                     rfl
                                    refine pure_ (i:=5) (N:=some 205) (v:=?_) (a':=?_) #[true,true,true,true,true,true,false,false,false,false,false,false,false,false,false,false] rfl rfl (any_of HT_.out (by kernel_rfl)) (fun _ _ _ h=>h) (Or.inl ⟨by rfl,?_⟩) ?_ ?_
                                    rotate_left
                                    ·intro w'
                                     go_simp
                                     with_reducible rfl
                                    rotate_left
                                    ·simp only [Act.put,List.setIfInBounds_toArray,List.set_cons_zero,List.set_cons_succ,i64_w,i32_w]
                                     rfl
                                    refine pure_ (i:=9) (N:=some 209) (v:=?_) (a':=?_) #[true,true,true,true,true,true,false,false,false,true,false,false,false,false,false,false] rfl rfl (any_of HT_.out (by kernel_rfl)) (fun _ _ _ h=>h) (Or.inl ⟨by rfl,?_⟩) ?_ ?_
                                    rotate_left
                                    ·intro w'
                                     go_simp
                                     with_reducible rfl
                                    rotate_left
                                    ·simp only [Act.put,List.setIfInBounds_toArray,List.set_cons_zero,List.set_cons_succ,i64_w,i32_w]
                                     rfl
                                    refine pure_ (i:=10) (N:=some 210) (v:=?_) (a':=?_) #[true,true,true,true,true,true,false,false,false,true,true,false,false,false,false,false] rfl rfl (any_of HT_.out (by kernel_rfl)) (fun _ _ _ h=>h) (Or.inl ⟨by rfl,?_⟩) ?_ ?_
                                    rotate_left
                                    ·intro w'
                                     go_simp
                                     with_reducible rfl
                                    rotate_left
                                    ·simp only [Act.put,List.setIfInBounds_toArray,List.set_cons_zero,List.set_cons_succ,i64_w,i32_w]
                                     rfl
                                    refine pure_ (i:=11) (N:=some 211) (v:=?_) (a':=?_) #[true,true,true,true,true,true,false,false,false,true,true,true,false,false,false,false] rfl rfl (any_of HT_.out (by kernel_rfl)) (fun _ _ _ h=>h) (Or.inl ⟨by rfl,?_⟩) ?_ ?_
                                    rotate_left
                                    ·intro w'
                                     go_simp
                                     with_reducible rfl
                                    rotate_left
                                    ·simp only [Act.put,List.setIfInBounds_toArray,List.set_cons_zero,List.set_cons_succ,i64_w,i32_w]
                                     rfl
                                    refine take_ (i:=6) (N:=some 206) (v:=?_) (a':=?_) #[true,true,true,true,true,true,true,false,false,true,true,true,false,false,false,false] rfl rfl (take_ofW HT_.out HW_.out (by kernel_rfl)) (fun _ _ _ h=>h) (Or.inl ⟨by rfl,?_⟩) hHeld ?_ ?_
                                    rotate_left
                                    ·rintro w' ⟨s0,s1⟩
                                     go_simp
                                     with_reducible rfl
                                    rotate_left
                                    ·simp only [Act.put,List.setIfInBounds_toArray,List.set_cons_zero,List.set_cons_succ,i64_w,i32_w]
                                     rfl
                                    refine pure_ (i:=7) (N:=some 207) (v:=?_) (a':=?_) #[true,true,true,true,true,true,true,true,false,true,true,true,false,false,false,false] rfl rfl (any_of HT_.out (by kernel_rfl)) (fun _ _ _ h=>h) (Or.inl ⟨by rfl,?_⟩) ?_ ?_
                                    rotate_left
                                    ·intro w'
                                     go_simp
                                     with_reducible rfl
                                    rotate_left
                                    ·simp only [Act.put,List.setIfInBounds_toArray,List.set_cons_zero,List.set_cons_succ,i64_w,i32_w]
                                     rfl
                                    refine pure_ (i:=8) (N:=some 208) (v:=?_) (a':=?_) #[true,true,true,true,true,true,true,true,true,true,true,true,false,false,false,false] rfl rfl (any_of HT_.out (by kernel_rfl)) (fun _ _ _ h=>h) (Or.inl ⟨by rfl,?_⟩) ?_ ?_
                                    rotate_left
                                    ·intro w'
                                     go_simp
                                     with_reducible rfl
                                    rotate_left
                                    ·simp only [Act.put,List.setIfInBounds_toArray,List.set_cons_zero,List.set_cons_succ,i64_w,i32_w]
                                     rfl
                                    refine take_ (i:=12) (N:=some 212) (v:=?_) (a':=?_) #[true,true,true,true,true,true,true,true,true,true,true,true,true,false,false,false] rfl rfl (take_ofW HT_.out HW_.out (by kernel_rfl)) (fun _ _ _ h=>h) (Or.inl ⟨by rfl,?_⟩) hHeld ?_ ?_
                                    rotate_left
                                    ·rintro w' ⟨s0,s1⟩
                                     go_simp
                                     with_reducible rfl
                                    rotate_left
                                    ·simp only [Act.put,List.setIfInBounds_toArray,List.set_cons_zero,List.set_cons_succ,i64_w,i32_w]
                                     rfl
                                    refine pure_ (i:=13) (N:=some 213) (v:=?_) (a':=?_) #[true,true,true,true,true,true,true,true,true,true,true,true,true,true,false,false] rfl rfl (any_of HT_.out (by kernel_rfl)) (fun _ _ _ h=>h) (Or.inl ⟨by rfl,?_⟩) ?_ ?_
                                    rotate_left
                                    ·intro w'
                                     go_simp
                                     with_reducible rfl
                                    rotate_left
                                    ·simp only [Act.put,List.setIfInBounds_toArray,List.set_cons_zero,List.set_cons_succ,i64_w,i32_w]
                                     rfl
                                    refine pure_ (i:=14) (N:=some 214) (v:=?_) (a':=?_) #[true,true,true,true,true,true,true,true,true,true,true,true,true,true,true,false] rfl rfl (any_of HT_.out (by kernel_rfl)) (fun _ _ _ h=>h) (Or.inl ⟨by rfl,?_⟩) ?_ ?_
                                    rotate_left
                                    ·intro w'
                                     go_simp
                                     with_reducible rfl
                                    rotate_left
                                    ·simp only [Act.put,List.setIfInBounds_toArray,List.set_cons_zero,List.set_cons_succ,i64_w,i32_w]
                                     rfl
                                    refine pure_ (i:=15) (N:=some 15) (v:=?_) (a':=?_) #[true,true,true,true,true,true,true,true,true,true,true,true,true,true,true,true] rfl rfl (any_of HT_.out (by kernel_rfl)) (fun _ _ _ h=>h) (Or.inl ⟨by rfl,?_⟩) ?_ ?_
                                    rotate_left
                                    ·intro w'
                                     go_simp
                                     with_reducible rfl
                                    rotate_left
                                    ·simp only [Act.put,List.setIfInBounds_toArray,List.set_cons_zero,List.set_cons_succ,i64_w,i32_w]
                                     rfl
                                    refine done_ (done_of HT_.out (by kernel_rfl)) ?_
                                    have p77:0≤((ji72):Int):=of_decide_eq_true (by first|(with_reducible assumption)|assumption)
                                    have q77:((ji72):Int)<((x8_5.length:Int):Int):=of_decide_eq_true (by first|(with_reducible assumption)|assumption)
                                    obtain ⟨hx77_0,hf77_0⟩:=Kd.R_celln 0 HO_8.out ((ji72):Int) p77 q77
                                    replace p77:=eq_true p77
                                    replace q77:=eq_true q77
                                    obtain ⟨hy79_,hz79_⟩:=Kd.R_celln 0 HO_8.out ((ji72):Int) (of_decide_eq_true (by first|(with_reducible assumption)|assumption)) (of_decide_eq_true (by first|(with_reducible assumption)|assumption))
                                    have HP79:=Kd.R_putg HO_8.out ((ji72):Int) ((IntKind.u64.wrap ((IntKind.u64.wrap (x15_5+(IntKind.u64.wrap (rd x8_5 (ji72)))))+(IntKind.u64.wrap (rd y325 x23_5))))%4294967296)
                                    try go_wp2_with (first|((with_reducible refine gate_store (t:=60) (p:=221) rfl ?_);refine store_event (t:=60) (p:=221) (v:=?vo_w80) (w1:=(w78.setCell ⟨go67,((ji72):Int).toNat,none⟩ (.int .u32 ((IntKind.u64.wrap ((IntKind.u64.wrap (x15_5+(IntKind.u64.wrap (rd x8_5 (ji72)))))+(IntKind.u64.wrap (rd y325 x23_5))))%4294967296)))) ?hg ?ho ?hn ?hr ?_;(case ho=>rfl);(case hg=>rfl);(case hn=>rfl);(case hr=>first|(go_simp;done)|(go_simp;rfl));intro w80 hw;have hg:w78.grownBy w80 (some go67):=(by rw [hw];exact HP79.2);have hp_:Kd.R (Kd.int .u32) 60 w80 w.heap.size (fun k_=>some k_≠(.slice (some ad333) y325.length co18:Value).ownBlock∧some k_≠(v329:Value).ownBlock) (.slice (some ⟨go67,0,none⟩) x8_5.length co35) y346:=(by rw [hw,Ny346.out];exact HP79.1);clear HP79;have n0_:=Aside0.mk (hp_);have n1_:=Aside0.mk (Kd.R_after (v:=(.slice (some ⟨go67,0,none⟩) x8_5.length co35)) (v1:=(.slice (some ⟨go67,0,none⟩) x8_5.length co35)) (ok:=(fun k_=>some k_≠(v329:Value).ownBlock)) (by (with_reducible repeat (first|apply Kd.R_alloc|apply Kd.R_drewN|apply Kd.R_drew));exact Kd.R_mono HO_9.out (fun _ hk=>⟨hk.2,hk.1⟩)) hg (.inl rfl));have n2_:=Aside0.mk (Kd.R_after (v:=(.slice (some ⟨go67,0,none⟩) x8_5.length co35)) (v1:=(.slice (some ⟨go67,0,none⟩) x8_5.length co35)) (ok:=(fun k_=>some k_≠(.slice (some ad333) y325.length co18:Value).ownBlock)) (by (with_reducible repeat (first|apply Kd.R_alloc|apply Kd.R_drewN|apply Kd.R_drew));exact Kd.R_mono HO_10.out (fun _ hk=>⟨hk.2,hk.1⟩)) hg (.inl rfl));have n3_:=Aside0.mk ((by rw [hw];exact below_set (HB.out) GB67.out:Below w.heap.size w w80));clear HO_8;clear HO_9;clear HO_10;clear HB;have HO_8:=n0_;have HO_9:=n1_;have HO_10:=n2_;have HB:=n3_;clear n0_ n1_ n2_ n3_;clear hg hw hp_))
                                    (try simp only [← hl8_5])
                                    go_roundg k5
                                    case measure=>have:=HK1.out;have:=HK2.out;have:=HJ32.out;have:=HK4.out;have:=HK5.out;omega
                                    case rel=>exact ⟨(y346),((IntKind.u64.wrap ((IntKind.u64.wrap (x15_5+(IntKind.u64.wrap (rd x8_5 (ji72)))))+(IntKind.u64.wrap (rd y325 x23_5))))/4294967296),(wrap64 (x23_5+1)),(by first|rfl|(simp;done)|(simp only [← hji72] <;> (first|rfl|simp))|(simp [*];done)),(by first|rfl|(simp;done)|(simp [*];done)),H',⟨by have:=HK1.out;have:=HK2.out;have:=HJ32.out;have:=HK4.out;have:=HK5.out;omega⟩,⟨by (try simp only [hl8_4]);(try simp only [hl8_5]);(with_reducible repeat (first|apply Kd.R_alloc|apply Kd.R_drewN|apply Kd.R_drew));exact HO_8.out⟩,⟨by (try simp only [hl8_4]);(try simp only [hl8_5]);(with_reducible repeat (first|apply Kd.R_alloc|apply Kd.R_drewN|apply Kd.R_drew));exact Kd.R_mono HO_9.out (fun _ hk=>⟨hk.2,hk.1⟩)⟩,⟨by (try simp only [hl8_4]);(try simp only [hl8_5]);(with_reducible repeat (first|apply Kd.R_alloc|apply Kd.R_drewN|apply Kd.R_drew));exact Kd.R_mono HO_10.out (fun _ hk=>⟨hk.2,hk.1⟩)⟩,⟨by repeat (first|(with_reducible first|exact HB.out|apply below_alloc|apply pw_below_drewN|apply below_drew1)|exact HB.out)⟩⟩
                                   ·rw [if_neg c76] at H
                                    exact absurd H (by simp)
                                  ·rw [if_neg c75] at H
                                   exact absurd H (by simp)
                                 ·rw [if_neg c74] at H
                                  exact absurd H (by simp)
                                ·rw [if_neg c73] at H
                                 exact absurd H (by simp)
                               ·rw [if_neg c71] at H
                                have c71b0:decide (x23_5<(l1.length:Int))=false:=decide_eq_false c71
                                clear c71
                                obtain ⟨ji81,hji81⟩:∃ j_:Int,(wrap64 (x11_2+(l1.length:Int)))=j_:=⟨_,rfl⟩
                                replace H:(if 0≤(ji81) then (if (ji81)<(x8_5.length:Int) then (if 0≤x11_2 then (if x11_2<(x10_2.length:Int) then (insolvencyref1_long.l1 k5 (l1.length:Int) x7_1 (x8_5.set ((ji81):Int).toNat (((rd x8_5 (ji81))+((x15_5)%4294967296))%4294967296)) y325 (x10_2.set (x11_2:Int).toNat (((IntKind.u64.wrap (x13_32-1)))%4294967296)) (wrap64 (x11_2-1))) else (none)) else (none)) else (none)) else (none))=some (r1,r2):=by first|(rw [hji81] at H;exact H)|(simp only [hji81] at H ⊢;exact H)
                                have hji81w:(IntKind.i64.wrap (x11_2+(l1.length:Int)))=ji81:=(i64_w _).trans hji81
                                (try clear hji23w);(try clear hji23)
                                (try clear hji64w);(try clear hji64)
                                by_cases c82:0≤(ji81)
                                ·rw [if_pos c82] at H
                                 have c82b0:decide (0≤(ji81))=true:=decide_eq_true c82
                                 clear c82
                                 by_cases c83:(ji81)<(x8_5.length:Int)
                                 ·rw [if_pos c83] at H
                                  have c83b0:decide ((ji81)<(x8_5.length:Int))=true:=decide_eq_true c83
                                  clear c83
                                  obtain ⟨y348,hy348⟩:∃ y_:List Int,y_=(x8_5.set ((ji81):Int).toNat (((rd x8_5 (ji81))+((x15_5)%4294967296))%4294967296)):=⟨_,rfl⟩
                                  replace H:(if 0≤x11_2 then (if x11_2<(x10_2.length:Int) then (insolvencyref1_long.l1 k5 (l1.length:Int) x7_1 y348 y325 (x10_2.set (x11_2:Int).toNat (((IntKind.u64.wrap (x13_32-1)))%4294967296)) (wrap64 (x11_2-1))) else (none)) else (none))=some (r1,r2):=by first|(rw [hy348];with_reducible exact H)|(have H2_:=(Option.bind_some _ _).symm.trans H;rw [hy348];with_reducible exact H2_)|(have H2_:=(Option.bind_some _ _).symm.trans H;with_reducible exact H2_)|with_reducible exact H|(rw [hy348];exact H)|exact H
                                  have Ny348:=Aside0.mk hy348
                                  clear hy348
                                  by_cases c85:0≤x11_2
                                  ·rw [if_pos c85] at H
                                   have c85b0:decide (0≤x11_2)=true:=decide_eq_true c85
                                   clear c85
                                   by_cases c86:x11_2<(x10_2.length:Int)
                                   ·rw [if_pos c86] at H
                                    have c86b0:decide (x11_2<(x10_2.length:Int))=true:=decide_eq_true c86
                                    clear c86
                                    obtain ⟨y349,hy349⟩:∃ y_:List Int,y_=(x10_2.set (x11_2:Int).toNat (((IntKind.u64.wrap (x13_32-1)))%4294967296)):=⟨_,rfl⟩
                                    replace H:(insolvencyref1_long.l1 k5 (l1.length:Int) x7_1 y348 y325 y349 (wrap64 (x11_2-1)))=some (r1,r2):=by first|(rw [hy349];with_reducible exact H)|(have H2_:=(Option.bind_some _ _).symm.trans H;rw [hy349];with_reducible exact H2_)|(have H2_:=(Option.bind_some _ _).symm.trans H;with_reducible exact H2_)|with_reducible exact H|(rw [hy349];exact H)|exact H
                                    have Ny349:=Aside0.mk hy349
                                    clear hy349
                                    have H':=Aside0.mk H
                                    clear H
                                    have p347:0≤((ji81):Int):=of_decide_eq_true (by first|(with_reducible assumption)|assumption)
                                    have q347:(ji81)<(x8_5.length:Int):=of_decide_eq_true (by first|(with_reducible assumption)|assumption)
                                    obtain ⟨ad347,e347,hx347_0⟩:=Kd.at_int (Kd.R_reads' HO_8.out).2.2 (ji81) p347 q347
                                    obtain rfl:(⟨go67,0,none⟩:Addr)=ad347:=(by injection e347)
                                    (first|simp only [add_plain] at hx347_0|simp only [add_at] at hx347_0|simp only [Addr.add,Nat.zero_add] at hx347_0|skip)
                                    replace p347:=eq_true p347
                                    replace q347:=eq_true q347
                                    have p84:0≤((ji81):Int):=of_decide_eq_true (by first|(with_reducible assumption)|assumption)
                                    have q84:((ji81):Int)<((x8_5.length:Int):Int):=of_decide_eq_true (by first|(with_reducible assumption)|assumption)
                                    obtain ⟨hx84_0,hf84_0⟩:=Kd.R_celln 0 HO_8.out ((ji81):Int) p84 q84
                                    replace p84:=eq_true p84
                                    replace q84:=eq_true q84
                                    have HP88:=Kd.R_putg HO_8.out ((ji81):Int) (((rd x8_5 (ji81))+((x15_5)%4294967296))%4294967296)
                                    go_wp2_with (first|((with_reducible refine gate_store (t:=60) (p:=237) rfl ?_);refine store_event (t:=60) (p:=237) (v:=?vo_w89) (w1:=(wr.setCell ⟨go67,((ji81):Int).toNat,none⟩ (.int .u32 (((rd x8_5 (ji81))+((x15_5)%4294967296))%4294967296)))) ?hg ?ho ?hn ?hr ?_;(case ho=>rfl);(case hg=>rfl);(case hn=>rfl);(case hr=>first|(go_simp;done)|(go_simp;rfl));intro w89 hw;have hg:wr.grownBy w89 (some go67):=(by rw [hw];exact HP88.2);have hp_:Kd.R (Kd.int .u32) 60 w89 w.heap.size (fun k_=>some k_≠(.slice (some ad333) y325.length co18:Value).ownBlock∧some k_≠(v329:Value).ownBlock) (.slice (some ⟨go67,0,none⟩) x8_5.length co35) y348:=(by rw [hw,Ny348.out];exact HP88.1);clear HP88;have n0_:=Aside0.mk (hp_);have n1_:=Aside0.mk (Kd.R_after (v:=(.slice (some ⟨go67,0,none⟩) x8_5.length co35)) (v1:=(.slice (some ⟨go67,0,none⟩) x8_5.length co35)) (ok:=(fun k_=>some k_≠(v329:Value).ownBlock)) (by (with_reducible repeat (first|apply Kd.R_alloc|apply Kd.R_drewN|apply Kd.R_drew));exact Kd.R_mono HO_9.out (fun _ hk=>⟨hk.2,hk.1⟩)) hg (.inl rfl));have n2_:=Aside0.mk (Kd.R_after (v:=(.slice (some ⟨go67,0,none⟩) x8_5.length co35)) (v1:=(.slice (some ⟨go67,0,none⟩) x8_5.length co35)) (ok:=(fun k_=>some k_≠(.slice (some ad333) y325.length co18:Value).ownBlock)) (by (with_reducible repeat (first|apply Kd.R_alloc|apply Kd.R_drewN|apply Kd.R_drew));exact Kd.R_mono HO_10.out (fun _ hk=>⟨hk.2,hk.1⟩)) hg (.inl rfl));have n3_:=Aside0.mk ((by rw [hw];exact below_set (HB.out) GB67.out:Below w.heap.size w w89));clear HO_8;clear HO_9;clear HO_10;clear HB;have HO_8:=n0_;have HO_9:=n1_;have HO_10:=n2_;have HB:=n3_;clear n0_ n1_ n2_ n3_;clear hg hw hp_;have p87:0≤(x11_2:Int):=of_decide_eq_true (by first|(with_reducible assumption)|assumption);have q87:(x11_2:Int)<((x10_2.length:Int):Int):=of_decide_eq_true (by first|(with_reducible assumption)|assumption);obtain ⟨go87,co87,eo87,gb87,gl87,cl87,HG87⟩:=Kd.R_form HO_10.out (by omega);(first|cases eo87|(injection eo87 with ea_ en_ ec_;(first|subst ea_|(injection ea_ with ea_;subst ea_));subst ec_;clear en_));(try simp only [add_plain] at *);have GB87:=Aside0.mk gb87;have GG87:=Aside0.mk HG87;clear gb87 gl87 HG87;obtain ⟨hx87_0,hf87_0⟩:=Kd.R_celln 0 HO_10.out (x11_2:Int) p87 q87;replace p87:=eq_true p87;replace q87:=eq_true q87;obtain ⟨hy90_,hz90_⟩:=Kd.R_celln 0 HO_10.out (x11_2:Int) (of_decide_eq_true (by first|(with_reducible assumption)|assumption)) (of_decide_eq_true (by first|(with_reducible assumption)|assumption));have HP90:=Kd.R_putg HO_10.out (x11_2:Int) (((IntKind.u64.wrap (x13_32-1)))%4294967296))|((with_reducible refine gate_store (t:=60) (p:=242) rfl ?_);refine store_event (t:=60) (p:=242) (v:=?vo_w91) (w1:=(w89.setCell ⟨go87,(x11_2:Int).toNat,none⟩ (.int .u32 (((IntKind.u64.wrap (x13_32-1)))%4294967296)))) ?hg ?ho ?hn ?hr ?_;(case ho=>rfl);(case hg=>rfl);(case hn=>rfl);(case hr=>first|(go_simp;done)|(go_simp;rfl));intro w91 hw;have hg:w89.grownBy w91 (some go87):=(by rw [hw];exact HP90.2);have hp_:Kd.R (Kd.int .u32) 60 w91 w.heap.size (fun k_=>some k_≠(.slice (some ad333) y325.length co18:Value).ownBlock∧some k_≠(.slice (some ⟨go67,0,none⟩) x8_5.length co35:Value).ownBlock) (.slice (some ⟨go87,0,none⟩) x10_2.length co87) y349:=(by rw [hw,Ny349.out];exact HP90.1);clear HP90;have n0_:=Aside0.mk (Kd.R_after (v:=(.slice (some ⟨go87,0,none⟩) x10_2.length co87)) (v1:=(.slice (some ⟨go87,0,none⟩) x10_2.length co87)) (ok:=(fun k_=>some k_≠(.slice (some ad333) y325.length co18:Value).ownBlock)) (by (with_reducible repeat (first|apply Kd.R_alloc|apply Kd.R_drewN|apply Kd.R_drew));exact HO_8.out) hg (.inl rfl));have n1_:=Aside0.mk (Kd.R_after (v:=(.slice (some ⟨go87,0,none⟩) x10_2.length co87)) (v1:=(.slice (some ⟨go87,0,none⟩) x10_2.length co87)) (ok:=(fun k_=>some k_≠(.slice (some ⟨go67,0,none⟩) x8_5.length co35:Value).ownBlock)) (by (with_reducible repeat (first|apply Kd.R_alloc|apply Kd.R_drewN|apply Kd.R_drew));exact Kd.R_mono HO_9.out (fun _ hk=>⟨hk.2,hk.1⟩)) hg (.inl rfl));have n2_:=Aside0.mk (hp_);have n3_:=Aside0.mk ((by rw [hw];exact below_set (HB.out) GB87.out:Below w.heap.size w w91));clear HO_8;clear HO_9;clear HO_10;clear HB;have HO_8:=n0_;have HO_9:=n1_;have HO_10:=n2_;have HB:=n3_;clear n0_ n1_ n2_ n3_;clear hg hw hp_))
                                    (try simp only [← hl8_4,← hl8_5])
                                    go_roundg k5
                                    case measure=>have:=HK1.out;have:=HK2.out;have:=HJ32.out;have:=HK4.out;have:=HK5.out;omega
                                    case rel=>exact ⟨(y348),(y349),(wrap64 (x11_2-1)),(by first|rfl|(simp;done)|(simp [*];done)),H',⟨by have:=HK1.out;have:=HK2.out;have:=HJ32.out;have:=HK4.out;have:=HK5.out;omega⟩,⟨by (try simp only [hl8_4]);(try simp only [hl8_5]);(with_reducible repeat (first|apply Kd.R_alloc|apply Kd.R_drewN|apply Kd.R_drew));exact HO_8.out⟩,⟨by (try simp only [hl8_4]);(try simp only [hl8_5]);(with_reducible repeat (first|apply Kd.R_alloc|apply Kd.R_drewN|apply Kd.R_drew));exact HO_9.out⟩,⟨by (try simp only [hl8_4]);(try simp only [hl8_5]);(with_reducible repeat (first|apply Kd.R_alloc|apply Kd.R_drewN|apply Kd.R_drew));exact Kd.R_mono HO_10.out (fun _ hk=>⟨hk.2,hk.1⟩)⟩,⟨by repeat (first|(with_reducible first|exact HB.out|apply below_alloc|apply pw_below_drewN|apply below_drew1)|exact HB.out)⟩⟩
                                   ·rw [if_neg c86] at H
                                    exact absurd H (by simp)
                                  ·rw [if_neg c85] at H
                                   exact absurd H (by simp)
                                 ·rw [if_neg c83] at H
                                  exact absurd H (by simp)
                                ·rw [if_neg c82] at H
                                 exact absurd H (by simp)
                            ·rw [if_neg c68] at H
                             have c68b0:decide ((IntKind.u64.wrap (rd x8_4 (ji64)))<(IntKind.u64.wrap (x15_4+x16_4)))=false:=decide_eq_false c68
                             clear c68
                             by_cases c92:0≤x11_2
                             ·rw [if_pos c92] at H
                              have c92b0:decide (0≤x11_2)=true:=decide_eq_true c92
                              clear c92
                              by_cases c93:x11_2<(x10_2.length:Int)
                              ·rw [if_pos c93] at H
                               have c93b0:decide (x11_2<(x10_2.length:Int))=true:=decide_eq_true c93
                               clear c93
                               obtain ⟨y350,hy350⟩:∃ y_:List Int,y_=(x10_2.set (x11_2:Int).toNat ((x13_32)%4294967296)):=⟨_,rfl⟩
                               replace H:(insolvencyref1_long.l1 k4 (l1.length:Int) x7_1 y343 y325 y350 (wrap64 (x11_2-1)))=some (r1,r2):=by first|(rw [hy350];with_reducible exact H)|(have H2_:=(Option.bind_some _ _).symm.trans H;rw [hy350];with_reducible exact H2_)|(have H2_:=(Option.bind_some _ _).symm.trans H;with_reducible exact H2_)|with_reducible exact H|(rw [hy350];exact H)|exact H
                               have Ny350:=Aside0.mk hy350
                               clear hy350
                               have H':=Aside0.mk H
                               clear H
                               have p342:0≤((ji64):Int):=of_decide_eq_true (by first|(with_reducible assumption)|assumption)
                               have q342:(ji64)<(x8_4.length:Int):=of_decide_eq_true (by first|(with_reducible assumption)|assumption)
                               obtain ⟨ad342,e342,hx342_0⟩:=Kd.at_int (Kd.R_reads' HO_8.out).2.2 (ji64) p342 q342
                               obtain rfl:ad331=ad342:=(by injection e342)
                               replace p342:=eq_true p342
                               replace q342:=eq_true q342
                               have p67:0≤((ji64):Int):=of_decide_eq_true (by first|(with_reducible assumption)|assumption)
                               have q67:((ji64):Int)<((x8_4.length:Int):Int):=of_decide_eq_true (by first|(with_reducible assumption)|assumption)
                               obtain ⟨go67,co67,eo67,gb67,gl67,cl67,HG67⟩:=Kd.R_form HO_8.out (by omega)
                               (first|cases eo67|(injection eo67 with ea_ en_ ec_;(first|subst ea_|(injection ea_ with ea_;subst ea_));subst ec_;clear en_));(try simp only [add_plain] at *)
                               have GB67:=Aside0.mk gb67
                               have GG67:=Aside0.mk HG67
                               clear gb67 gl67 HG67
                               (first|simp only [add_plain] at hx342_0|skip)
                               obtain ⟨hx67_0,hf67_0⟩:=Kd.R_celln 0 HO_8.out ((ji64):Int) p67 q67
                               replace p67:=eq_true p67
                               replace q67:=eq_true q67
                               have HP95:=Kd.R_putg HO_8.out ((ji64):Int) ((IntKind.u64.wrap ((IntKind.u64.wrap (rd x8_4 (ji64)))-(IntKind.u64.wrap (x15_4+x16_4))))%4294967296)
                               go_wp2_with (first|((with_reducible refine gate_store (t:=60) (p:=191) rfl ?_);refine store_event (t:=60) (p:=191) (v:=?vo_w96) (w1:=(wr.setCell ⟨go67,((ji64):Int).toNat,none⟩ (.int .u32 ((IntKind.u64.wrap ((IntKind.u64.wrap (rd x8_4 (ji64)))-(IntKind.u64.wrap (x15_4+x16_4))))%4294967296)))) ?hg ?ho ?hn ?hr ?_;(case ho=>rfl);(case hg=>rfl);(case hn=>rfl);(case hr=>first|(go_simp;done)|(go_simp;rfl));intro w96 hw;have hg:wr.grownBy w96 (some go67):=(by rw [hw];exact HP95.2);have hp_:Kd.R (Kd.int .u32) 60 w96 w.heap.size (fun k_=>some k_≠(.slice (some ad333) y325.length co18:Value).ownBlock∧some k_≠(v329:Value).ownBlock) (.slice (some ⟨go67,0,none⟩) x8_4.length co35) y343:=(by rw [hw,Ny343.out];exact HP95.1);clear HP95;have n0_:=Aside0.mk (hp_);have n1_:=Aside0.mk (Kd.R_after (v:=(.slice (some ⟨go67,0,none⟩) x8_4.length co35)) (v1:=(.slice (some ⟨go67,0,none⟩) x8_4.length co35)) (ok:=(fun k_=>some k_≠(v329:Value).ownBlock)) (by (with_reducible repeat (first|apply Kd.R_alloc|apply Kd.R_drewN|apply Kd.R_drew));exact Kd.R_mono HO_9.out (fun _ hk=>⟨hk.2,hk.1⟩)) hg (.inl rfl));have n2_:=Aside0.mk (Kd.R_after (v:=(.slice (some ⟨go67,0,none⟩) x8_4.length co35)) (v1:=(.slice (some ⟨go67,0,none⟩) x8_4.length co35)) (ok:=(fun k_=>some k_≠(.slice (some ad333) y325.length co18:Value).ownBlock)) (by (with_reducible repeat (first|apply Kd.R_alloc|apply Kd.R_drewN|apply Kd.R_drew));exact Kd.R_mono HO_10.out (fun _ hk=>⟨hk.2,hk.1⟩)) hg (.inl rfl));have n3_:=Aside0.mk ((by rw [hw];exact below_set (HB.out) GB67.out:Below w.heap.size w w96));clear HO_8;clear HO_9;clear HO_10;clear HB;have HO_8:=n0_;have HO_9:=n1_;have HO_10:=n2_;have HB:=n3_;clear n0_ n1_ n2_ n3_;clear hg hw hp_;have p94:0≤(x11_2:Int):=of_decide_eq_true (by first|(with_reducible assumption)|assumption);have q94:(x11_2:Int)<((x10_2.length:Int):Int):=of_decide_eq_true (by first|(with_reducible assumption)|assumption);obtain ⟨go94,co94,eo94,gb94,gl94,cl94,HG94⟩:=Kd.R_form HO_10.out (by omega);(first|cases eo94|(injection eo94 with ea_ en_ ec_;(first|subst ea_|(injection ea_ with ea_;subst ea_));subst ec_;clear en_));(try simp only [add_plain] at *);have GB94:=Aside0.mk gb94;have GG94:=Aside0.mk HG94;clear gb94 gl94 HG94;obtain ⟨hx94_0,hf94_0⟩:=Kd.R_celln 0 HO_10.out (x11_2:Int) p94 q94;replace p94:=eq_true p94;replace q94:=eq_true q94;obtain ⟨hy97_,hz97_⟩:=Kd.R_celln 0 HO_10.out (x11_2:Int) (of_decide_eq_true (by first|(with_reducible assumption)|assumption)) (of_decide_eq_true (by first|(with_reducible assumption)|assumption));have HP97:=Kd.R_putg HO_10.out (x11_2:Int) ((x13_32)%4294967296))|((with_reducible refine gate_store (t:=60) (p:=242) rfl ?_);refine store_event (t:=60) (p:=242) (v:=?vo_w98) (w1:=(w96.setCell ⟨go94,(x11_2:Int).toNat,none⟩ (.int .u32 ((x13_32)%4294967296)))) ?hg ?ho ?hn ?hr ?_;(case ho=>rfl);(case hg=>rfl);(case hn=>rfl);(case hr=>first|(go_simp;done)|(go_simp;rfl));intro w98 hw;have hg:w96.grownBy w98 (some go94):=(by rw [hw];exact HP97.2);have hp_:Kd.R (Kd.int .u32) 60 w98 w.heap.size (fun k_=>some k_≠(.slice (some ad333) y325.length co18:Value).ownBlock∧some k_≠(.slice (some ⟨go67,0,none⟩) x8_4.length co35:Value).ownBlock) (.slice (some ⟨go94,0,none⟩) x10_2.length co94) y350:=(by rw [hw,Ny350.out];exact HP97.1);clear HP97;have n0_:=Aside0.mk (Kd.R_after (v:=(.slice (some ⟨go94,0,none⟩) x10_2.length co94)) (v1:=(.slice (some ⟨go94,0,none⟩) x10_2.length co94)) (ok:=(fun k_=>some k_≠(.slice (some ad333) y325.length co18:Value).ownBlock)) (by (with_reducible repeat (first|apply Kd.R_alloc|apply Kd.R_drewN|apply Kd.R_drew));exact HO_8.out) hg (.inl rfl));have n1_:=Aside0.mk (Kd.R_after (v:=(.slice (some ⟨go94,0,none⟩) x10_2.length co94)) (v1:=(.slice (some ⟨go94,0,none⟩) x10_2.length co94)) (ok:=(fun k_=>some k_≠(.slice (some ⟨go67,0,none⟩) x8_4.length co35:Value).ownBlock)) (by (with_reducible repeat (first|apply Kd.R_alloc|apply Kd.R_drewN|apply Kd.R_drew));exact Kd.R_mono HO_9.out (fun _ hk=>⟨hk.2,hk.1⟩)) hg (.inl rfl));have n2_:=Aside0.mk (hp_);have n3_:=Aside0.mk ((by rw [hw];exact below_set (HB.out) GB94.out:Below w.heap.size w w98));clear HO_8;clear HO_9;clear HO_10;clear HB;have HO_8:=n0_;have HO_9:=n1_;have HO_10:=n2_;have HB:=n3_;clear n0_ n1_ n2_ n3_;clear hg hw hp_))
                               (try simp only [← hl8_4])
                               go_roundg k4
                               case measure=>have:=HK1.out;have:=HK2.out;have:=HJ32.out;have:=HK4.out;omega
                               case rel=>exact ⟨(y343),(y350),(wrap64 (x11_2-1)),(by first|rfl|(simp;done)|(simp [*];done)),H',⟨by have:=HK1.out;have:=HK2.out;have:=HJ32.out;have:=HK4.out;omega⟩,⟨by (try simp only [hl8_4]);(with_reducible repeat (first|apply Kd.R_alloc|apply Kd.R_drewN|apply Kd.R_drew));exact HO_8.out⟩,⟨by (try simp only [hl8_4]);(with_reducible repeat (first|apply Kd.R_alloc|apply Kd.R_drewN|apply Kd.R_drew));exact HO_9.out⟩,⟨by (try simp only [hl8_4]);(with_reducible repeat (first|apply Kd.R_alloc|apply Kd.R_drewN|apply Kd.R_drew));exact Kd.R_mono HO_10.out (fun _ hk=>⟨hk.2,hk.1⟩)⟩,⟨by repeat (first|(with_reducible first|exact HB.out|apply below_alloc|apply pw_below_drewN|apply below_drew1)|exact HB.out)⟩⟩
                              ·rw [if_neg c93] at H
                               exact absurd H (by simp)
                             ·rw [if_neg c92] at H
                              exact absurd H (by simp)
                           ·rw [if_neg c66] at H
                            exact absurd H (by simp)
                          ·rw [if_neg c65] at H
                           exact absurd H (by simp)
                   ·rw [if_neg c31] at H
                    exact absurd H (by simp)
                  ·rw [if_neg c30] at H
                   exact absurd H (by simp)
                 ·rw [if_neg c28] at H
                  exact absurd H (by simp)
                ·rw [if_neg c27] at H
                 exact absurd H (by simp)
               ·rw [if_neg c25] at H
                exact absurd H (by simp)
              ·rw [if_neg c24] at H
               exact absurd H (by simp)
             ·rw [if_neg c22] at H
              have c22b0:decide (0≤x11_2)=false:=decide_eq_false c22
              clear c22
              by_cases c99:0≤(l1.length:Int)
              ·rw [if_pos c99] at H
               have c99b0:=eq_true c99
               have c99b1:decide (0≤(l1.length:Int))=true:=decide_eq_true c99
               clear c99
               by_cases c100:((l1.length:Int):Int).toNat≤70368744177664
               ·rw [if_pos c100] at H
                have c100b0:=eq_true c100
                have c100b1:decide (((l1.length:Int):Int).toNat≤70368744177664)=true:=decide_eq_true c100
                clear c100
                obtain ⟨y351,hy351⟩:∃ y_:List Int,y_=(List.replicate ((l1.length:Int):Int).toNat 0):=⟨_,rfl⟩
                replace H:(insolvencyref1_long.l5 k2 (l1.length:Int) x7_1 x8_2 x10_2 y351 0)=some (r1,r2):=by first|(rw [hy351];with_reducible exact H)|(have H2_:=(Option.bind_some _ _).symm.trans H;rw [hy351];with_reducible exact H2_)|(have H2_:=(Option.bind_some _ _).symm.trans H;with_reducible exact H2_)|with_reducible exact H|(rw [hy351];exact H)|exact H
                have Ny351:=Aside0.mk hy351
                clear hy351
                have H':=Aside0.mk H
                clear H
                go_wp2_with (first|((with_reducible refine gate_dst (N:=244) rfl ?_);refine Kd.R_make (Kd.int .u32) _ 60 rfl (N:=244) rfl 49 _ _ rfl (l1.length:Int) rfl rfl Tryd.underlying49 (.int .u32 0) 4 info60 rfl (by decide) (by omega) 0 (ok:=fun _=>True) (okp:=fun _=>True) rfl (fun _ hk=>hk) trivial (of_decide_eq_true (by first|(with_reducible assumption)|assumption)) (Nat.le_trans (Nat.mul_le_mul_right _ (of_decide_eq_true (by first|(with_reducible assumption)|assumption):(l1.length:Int).toNat≤70368744177664)) (by omega)) (Below.refl _ _) (Nat.le_refl _) ?_;intro v352 w101 ho102 hb hg_ hnew_;clear hg_ hnew_;(first|rw [← Ny351.out] at ho102|(simp only [Int.reduceToNat] at ho102;rw [← Ny351.out] at ho102));have n0_:=Aside0.mk (Kd.R_elder' (by (with_reducible repeat (first|apply Kd.R_alloc|apply Kd.R_drewN|apply Kd.R_drew));exact HO_8.out) (Kd.R_base ho102) hb);have n1_:=Aside0.mk (Kd.R_elder' (by (with_reducible repeat (first|apply Kd.R_alloc|apply Kd.R_drewN|apply Kd.R_drew));exact HO_9.out) (Kd.R_base ho102) hb);have n2_:=Aside0.mk (Kd.R_elder' (by (with_reducible repeat (first|apply Kd.R_alloc|apply Kd.R_drewN|apply Kd.R_drew));exact HO_10.out) (Kd.R_base ho102) hb);have n3_:=Aside0.mk (Kd.R_lower (Kd.R_new' (Kd.R_new' (Kd.R_new' ho102 (Kd.R_lt (by (with_reducible repeat (first|apply Kd.R_alloc|apply Kd.R_drewN|apply Kd.R_drew));exact HO_8.out))) (Kd.R_lt (by (with_reducible repeat (first|apply Kd.R_alloc|apply Kd.R_drewN|apply Kd.R_drew));exact HO_9.out))) (Kd.R_lt (by (with_reducible repeat (first|apply Kd.R_alloc|apply Kd.R_drewN|apply Kd.R_drew));exact HO_10.out))) (below_size (by repeat (first|(with_reducible first|exact HB.out|apply below_alloc|apply pw_below_drewN|apply below_drew1)|exact HB.out))));have n4_:=Aside0.mk (below_step (by repeat (first|(with_reducible first|exact HB.out|apply below_alloc|apply pw_below_drewN|apply below_drew1)|exact HB.out)) hb);clear HO_8;clear HO_9;clear HO_10;clear HB;have HO_8:=n0_;have HO_9:=n1_;have HO_10:=n2_;have HO353:=n3_;have HB:=n4_;clear n0_ n1_ n2_ n3_ n4_;clear hb ho102))
                go_loopg [25] k2 (fun kq v25 w'=>∃ (x24_3:List Int) (x25_3:Int),v25 = .int .i64 x25_3∧Aside0 (insolvencyref1_long.l5 kq (l1.length:Int) x7_1 x8_2 x10_2 x24_3 x25_3=some (r1,r2))∧Aside0 (kq≤k2)∧Aside0 (Kd.R (Kd.int .u32) 60 w' w.heap.size (fun k_=>some k_≠(v329:Value).ownBlock∧some k_≠(v352:Value).ownBlock) v320 x8_2)∧Aside0 (Kd.R (Kd.int .u32) 60 w' w.heap.size (fun k_=>some k_≠(v320:Value).ownBlock∧some k_≠(v352:Value).ownBlock) v329 x10_2)∧Aside0 (Kd.R (Kd.int .u32) 60 w' w.heap.size (fun k_=>some k_≠(v320:Value).ownBlock∧some k_≠(v329:Value).ownBlock) v352 x24_3)∧Aside0 (Below w.heap.size w w'))
                case atStart=>exact ⟨(y351),(0),(by first|rfl|(simp;done)|(simp [*];done)),H',⟨Nat.le_refl _⟩,⟨by (with_reducible repeat (first|apply Kd.R_alloc|apply Kd.R_drewN|apply Kd.R_drew));exact Kd.R_mono HO_8.out (fun _ hk=>⟨hk.1.2,hk.2⟩)⟩,⟨by (with_reducible repeat (first|apply Kd.R_alloc|apply Kd.R_drewN|apply Kd.R_drew));exact Kd.R_mono HO_10.out (fun _ hk=>⟨hk.1.1,hk.2⟩)⟩,⟨by (with_reducible repeat (first|apply Kd.R_alloc|apply Kd.R_drewN|apply Kd.R_drew));exact Kd.R_mono HO353.out (fun _ hk=>⟨hk.1.1.2,hk.2⟩)⟩,⟨by repeat (first|(with_reducible first|exact HB.out|apply below_alloc|apply pw_below_drewN|apply below_drew1)|exact HB.out)⟩⟩
                case round=>
                 clear H'
                 try clear c1
                 try clear q1
                 try clear c2
                 try clear p2
                 try clear c3
                 try clear p3
                 try clear q3
                 try clear hx3
                 try clear c4
                 try clear c4b0
                 try clear c5
                 try clear c5b0
                 try clear p5
                 try clear q5
                 try clear hx5
                 try clear hf5
                 try clear c6
                 try clear c6b0
                 try clear c6b1
                 try clear p6
                 try clear q6
                 try clear hx6
                 try clear hf6
                 try clear c7
                 try clear p7
                 try clear q7
                 try clear hx7
                 try clear hf7
                 try clear c8
                 try clear c8b0
                 try clear p8
                 try clear q8
                 try clear hx8
                 try clear hf8
                 try clear c9
                 try clear p9
                 try clear q9
                 try clear hx9
                 try clear hf9
                 try clear c10
                 try clear c11
                 try clear c11b0
                 try clear c11b1
                 try clear c12
                 try clear c12b0
                 try clear c12b1
                 try clear c14
                 try clear c14b0
                 try clear c14b1
                 try clear c15
                 try clear c15b0
                 try clear c15b1
                 try clear q19
                 try clear c22
                 try clear c22b0
                 try clear c24
                 try clear c24b0
                 try clear c25
                 try clear c25b0
                 try clear c27
                 try clear c27b0
                 try clear c28
                 try clear c28b0
                 try clear c30
                 try clear c30b0
                 try clear c31
                 try clear c31b0
                 try clear p31
                 try clear q31
                 try clear hx31
                 try clear c32
                 try clear c32b0
                 try clear c32b1
                 try clear p33
                 try clear q33
                 try clear hx33
                 try clear p34
                 try clear q34
                 try clear hx34
                 try clear c37
                 try clear c37b0
                 try clear c40
                 try clear c40b0
                 try clear c41
                 try clear c41b0
                 try clear c43
                 try clear c43b0
                 try clear c44
                 try clear c44b0
                 try clear c46
                 try clear c48
                 try clear c48b0
                 try clear c49
                 try clear c49b0
                 try clear c50
                 try clear c50b0
                 try clear c51
                 try clear c51b0
                 try clear c52
                 try clear c52b0
                 try clear c53
                 try clear c53b0
                 try clear c55
                 try clear c55b0
                 try clear c56
                 try clear c56b0
                 try clear c57
                 try clear c57b0
                 try clear p58
                 try clear q58
                 try clear hx58
                 try clear hf58
                 try clear p61
                 try clear q61
                 try clear hx61
                 try clear hf61
                 try clear p64
                 try clear c65
                 try clear c65b0
                 try clear c66
                 try clear c66b0
                 try clear p67
                 try clear q67
                 try clear hx67
                 try clear hf67
                 try clear c68
                 try clear c68b0
                 try clear c71
                 try clear c71b0
                 try clear c73
                 try clear c73b0
                 try clear c74
                 try clear c74b0
                 try clear c75
                 try clear c75b0
                 try clear c76
                 try clear c76b0
                 try clear p77
                 try clear q77
                 try clear hx77
                 try clear hf77
                 try clear c82
                 try clear c82b0
                 try clear c83
                 try clear c83b0
                 try clear p84
                 try clear q84
                 try clear hx84
                 try clear hf84
                 try clear c85
                 try clear c85b0
                 try clear c86
                 try clear c86b0
                 try clear p87
                 try clear q87
                 try clear hx87
                 try clear hf87
                 try clear c92
                 try clear c92b0
                 try clear c93
                 try clear c93b0
                 try clear p94
                 try clear q94
                 try clear hx94
                 try clear hf94
                 try clear c99
                 try clear c99b0
                 try clear c99b1
                 try clear c100
                 try clear c100b0
                 try clear c100b1
                 try clear hx318_0
                 try clear hx331_0
                 try clear hx332_0
                 try clear hx333_0
                 try clear hx334_0
                 try clear hx335_0
                 try clear hx336_0
                 try clear hx337_0
                 try clear hx338_0
                 try clear hx339_0
                 try clear hx342_0
                 try clear hx344_0
                 try clear hx345_0
                 try clear hx347_0
                 try clear hx58_0
                 try clear hx61_0
                 try clear hx67_0
                 try clear hx77_0
                 try clear hx84_0
                 try clear hx87_0
                 try clear hx94_0
                 try clear p2
                 try clear p3
                 try clear p31
                 try clear p318
                 try clear p33
                 try clear p331
                 try clear p332
                 try clear p333
                 try clear p334
                 try clear p335
                 try clear p336
                 try clear p337
                 try clear p338
                 try clear p339
                 try clear p34
                 try clear p342
                 try clear p344
                 try clear p345
                 try clear p347
                 try clear p5
                 try clear p58
                 try clear p6
                 try clear p61
                 try clear p64
                 try clear p67
                 try clear p77
                 try clear p84
                 try clear p87
                 try clear p94
                 try clear q1
                 try clear q19
                 try clear q3
                 try clear q31
                 try clear q318
                 try clear q33
                 try clear q331
                 try clear q332
                 try clear q333
                 try clear q334
                 try clear q335
                 try clear q336
                 try clear q337
                 try clear q338
                 try clear q339
                 try clear q34
                 try clear q342
                 try clear q344
                 try clear q345
                 try clear q347
                 try clear q5
                 try clear q58
                 try clear q6
                 try clear q61
                 try clear q67
                 try clear q77
                 try clear q84
                 try clear q87
                 try clear q94
                 obtain ⟨x24_3,x25_3,rfl,HA,HK3,HO_8,HO_10,HO_24,HB⟩:=hrel
                 cases gk with
                 | zero=>exact absurd HA.out (by simp [insolvencyref1_long.l5])
                 | succ k3=>
                  have H:=HA.out
                  clear HA
                  simp only [insolvencyref1_long.l5] at H
                  by_cases c103:x25_3<(l1.length:Int)
                  ·rw [if_pos c103] at H
                   have c103b0:decide (x25_3<(l1.length:Int))=true:=decide_eq_true c103
                   clear c103
                   obtain ⟨ji104,hji104⟩:∃ j_:Int,(wrap64 (x25_3+1))=j_:=⟨_,rfl⟩
                   replace H:(if 0≤(ji104) then (if (ji104)<(x8_2.length:Int) then (if 0≤x25_3 then (if x25_3<(x8_2.length:Int) then (if 0≤x7_1 then (if x25_3<(x24_3.length:Int) then (insolvencyref1_long.l5 k3 (l1.length:Int) x7_1 x8_2 x10_2 (x24_3.set (x25_3:Int).toNat ((shr .u64 (Go.bits .or .u64 (IntKind.u64.wrap ((IntKind.u64.wrap (rd x8_2 (ji104)))*4294967296)) (IntKind.u64.wrap (rd x8_2 x25_3))) x7_1)%4294967296)) ji104) else (none)) else (none)) else (none)) else (none)) else (none)) else (none))=some (r1,r2):=by first|(rw [hji104] at H;exact H)|(simp only [hji104] at H ⊢;exact H)
                   have hji104w:(IntKind.i64.wrap (x25_3+1))=ji104:=(i64_w _).trans hji104
                   by_cases c105:0≤(ji104)
                   ·rw [if_pos c105] at H
                    have c105b0:decide (0≤(ji104))=true:=decide_eq_true c105
                    clear c105
                    by_cases c106:(ji104)<(x8_2.length:Int)
                    ·rw [if_pos c106] at H
                     have c106b0:decide ((ji104)<(x8_2.length:Int))=true:=decide_eq_true c106
                     clear c106
                     by_cases c107:0≤x25_3
                     ·rw [if_pos c107] at H
                      have c107b0:decide (0≤x25_3)=true:=decide_eq_true c107
                      clear c107
                      by_cases c108:x25_3<(x8_2.length:Int)
                      ·rw [if_pos c108] at H
                       have c108b0:decide (x25_3<(x8_2.length:Int))=true:=decide_eq_true c108
                       clear c108
                       by_cases c109:0≤x7_1
                       ·rw [if_pos c109] at H
                        have c109b0:=eq_true c109
                        have c109b1:decide (0≤x7_1)=true:=decide_eq_true c109
                        clear c109
                        obtain ⟨ji110,hji110⟩:∃ j_:Int,(shr .u64 (Go.bits .or .u64 (IntKind.u64.wrap ((IntKind.u64.wrap (rd x8_2 (ji104)))*4294967296)) (IntKind.u64.wrap (rd x8_2 x25_3))) x7_1)=j_:=⟨_,rfl⟩
                        replace H:(if x25_3<(x24_3.length:Int) then (insolvencyref1_long.l5 k3 (l1.length:Int) x7_1 x8_2 x10_2 (x24_3.set (x25_3:Int).toNat ((ji110)%4294967296)) ji104) else (none))=some (r1,r2):=by first|(rw [hji110] at H;exact H)|(simp only [hji110] at H ⊢;exact H)
                        have hji110_:((Go.bits .or .u64 (IntKind.u64.wrap ((IntKind.u64.wrap (rd x8_2 (ji104)))*4294967296)) (IntKind.u64.wrap (rd x8_2 x25_3)))/2 ^ min x7_1.toNat 64)=ji110:=hji110
                        have hji110z:x7_1≤64→((Go.bits .or .u64 (IntKind.u64.wrap ((IntKind.u64.wrap (rd x8_2 (ji104)))*4294967296)) (IntKind.u64.wrap (rd x8_2 x25_3)))/2 ^ x7_1.toNat)=ji110:=shr_small hji110
                        by_cases c111:x25_3<(x24_3.length:Int)
                        ·rw [if_pos c111] at H
                         have c111b0:decide (x25_3<(x24_3.length:Int))=true:=decide_eq_true c111
                         clear c111
                         obtain ⟨y356,hy356⟩:∃ y_:List Int,y_=(x24_3.set (x25_3:Int).toNat ((ji110)%4294967296)):=⟨_,rfl⟩
                         replace H:(insolvencyref1_long.l5 k3 (l1.length:Int) x7_1 x8_2 x10_2 y356 ji104)=some (r1,r2):=by first|(rw [hy356];with_reducible exact H)|(have H2_:=(Option.bind_some _ _).symm.trans H;rw [hy356];with_reducible exact H2_)|(have H2_:=(Option.bind_some _ _).symm.trans H;with_reducible exact H2_)|with_reducible exact H|(rw [hy356];exact H)|exact H
                         have Ny356:=Aside0.mk hy356
                         clear hy356
                         have H':=Aside0.mk H
                         clear H
                         try go_wp2
                         have n0_:=Aside0.mk (Kd.R_drew HO_8.out)
                         have n1_:=Aside0.mk (Kd.R_drew HO_10.out)
                         have n2_:=Aside0.mk (Kd.R_drew HO_24.out)
                         have n3_:=Aside0.mk (below_drew1 HB.out)
                         clear HO_8
                         clear HO_10
                         clear HO_24
                         clear HB
                         have HO_8:=n0_
                         have HO_10:=n1_
                         have HO_24:=n2_
                         have HB:=n3_
                         clear n0_ n1_ n2_ n3_
                         obtain ⟨Ao114,co114,eo114⟩:=Kd.R_slice HO_8.out
                         (first|subst eo114|(injection eo114 with f1_ f2_ f3_;have f4_:=f1_.symm;have f5_:=f3_.symm;clear f1_ f2_ f3_;subst f4_;subst f5_))
                         have p354:0≤((ji104):Int):=of_decide_eq_true (by first|(with_reducible assumption)|assumption)
                         have q354:(ji104)<(x8_2.length:Int):=of_decide_eq_true (by first|(with_reducible assumption)|assumption)
                         obtain ⟨ad354,e354,hx354_0⟩:=Kd.at_int (Kd.R_reads' HO_8.out).2.2 (ji104) p354 q354
                         cases e354
                         replace p354:=eq_true p354
                         replace q354:=eq_true q354
                         have p355:0≤(x25_3:Int):=of_decide_eq_true (by first|(with_reducible assumption)|assumption)
                         have q355:x25_3<(x8_2.length:Int):=of_decide_eq_true (by first|(with_reducible assumption)|assumption)
                         obtain ⟨ad355,e355,hx355_0⟩:=Kd.at_int (Kd.R_reads' HO_8.out).2.2 x25_3 p355 q355
                         obtain rfl:ad354=ad355:=(by injection e355)
                         replace p355:=eq_true p355
                         replace q355:=eq_true q355
                         have p112:0≤(x25_3:Int):=of_decide_eq_true (by first|(with_reducible assumption)|assumption)
                         have q112:(x25_3:Int)<((x24_3.length:Int):Int):=of_decide_eq_true (by first|(with_reducible assumption)|assumption)
                         obtain ⟨go112,co112,eo112,gb112,gl112,cl112,HG112⟩:=Kd.R_form HO_24.out (by omega)
                         (first|cases eo112|(injection eo112 with ea_ en_ ec_;(first|subst ea_|(injection ea_ with ea_;subst ea_));subst ec_;clear en_));(try simp only [add_plain] at *)
                         have GB112:=Aside0.mk gb112
                         have GG112:=Aside0.mk HG112
                         clear gb112 gl112 HG112
                         obtain ⟨hx112_0,hf112_0⟩:=Kd.R_celln 0 HO_24.out (x25_3:Int) p112 q112
                         replace p112:=eq_true p112
                         replace q112:=eq_true q112
                         have HP115:=Kd.R_putn HO_24.out (x25_3:Int) ((ji110)%4294967296)
                         rw [← Ny356.out] at HP115
                         have HQ115:=Aside0.mk HP115
                         clear HP115
                         refine start_ (n:=20) (S:=fun w'=>w'.cell? (ad354.add ((ji104)).toNat)=some (.int .u32 (rd x8_2 (ji104)))∧w'.cell? (ad354.add (x25_3).toNat)=some (.int .u32 (rd x8_2 x25_3))) (ds:=[19]) #[false,false,false,false,false,false,false,false,false,false,false,false,false,false,false,false,false,false,false,false] (by kernel_rfl) rfl rfl ⟨hx354_0,hx355_0⟩ (fun hHeld=>?_);refine with_tabW insolvencyref1_long.tab51 insolvencyref1_long.bits51 (fun HT_ HW_=>?_)
                         generalize wr.drew=w113 at HO_8 HO_10 HO_24 HB GG112 HQ115 hf112_0 hx112_0 hx354_0 hx355_0 hHeld ⊢
                         refine pure_ (i:=0) (N:=some 250) (v:=?_) (a':=?_) #[true,false,false,false,false,false,false,false,false,false,false,false,false,false,false,false,false,false,false,false] rfl rfl (any_of HT_.out (by kernel_rfl)) (fun _ _ _ h=>h) (Or.inl ⟨by rfl,?_⟩) ?_ ?_
                         rotate_left
                         ·intro w'
                          go_simp
                          with_reducible rfl
                         rotate_left
                         ·simp only [Act.put,List.setIfInBounds_toArray,List.set_cons_zero,List.set_cons_succ,i64_w,i32_w]
                          rfl
                         refine pure_ (i:=1) (N:=some 251) (v:=?_) (a':=?_) #[true,true,false,false,false,false,false,false,false,false,false,false,false,false,false,false,false,false,false,false] rfl rfl (any_of HT_.out (by kernel_rfl)) (fun _ _ _ h=>h) (Or.inl ⟨by rfl,?_⟩) ?_ ?_
                         rotate_left
                         ·intro w'
                          go_simp
                          with_reducible rfl
                         rotate_left
                         ·simp only [Act.put,List.setIfInBounds_toArray,List.set_cons_zero,List.set_cons_succ,i64_w,i32_w]
                          rfl
                         refine pure_ (i:=2) (N:=some 252) (v:=?_) (a':=?_) #[true,true,true,false,false,false,false,false,false,false,false,false,false,false,false,false,false,false,false,false] rfl rfl (any_of HT_.out (by kernel_rfl)) (fun _ _ _ h=>h) (Or.inl ⟨by rfl,?_⟩) ?_ ?_
                         rotate_left
                         ·intro w'
                          go_simp
                          with_reducible rfl
                         rotate_left
                         ·simp only [Act.put,List.setIfInBounds_toArray,List.set_cons_zero,List.set_cons_succ,i64_w,i32_w]
                          rfl
                         refine pure_ (i:=3) (N:=some 253) (v:=?_) (a':=?_) #[true,true,true,true,false,false,false,false,false,false,false,false,false,false,false,false,false,false,false,false] rfl rfl (any_of HT_.out (by kernel_rfl)) (fun _ _ _ h=>h) (Or.inl ⟨by rfl,?_⟩) ?_ ?_
                         rotate_left
                         ·intro w'
                          go_simp
                          with_reducible rfl
                         rotate_left
                         ·simp only [Act.put,List.setIfInBounds_toArray,List.set_cons_zero,List.set_cons_succ,i64_w,i32_w]
                          rfl
                         refine pure_ (i:=4) (N:=some 254) (v:=?_) (a':=?_) #[true,true,true,true,true,false,false,false,false,false,false,false,false,false,false,false,false,false,false,false] rfl rfl (any_of HT_.out (by kernel_rfl)) (fun _ _ _ h=>h) (Or.inl ⟨by rfl,?_⟩) ?_ ?_
                         rotate_left
                         ·intro w'
                          go_simp
                          with_reducible rfl
                         rotate_left
                         ·simp only [Act.put,List.setIfInBounds_toArray,List.set_cons_zero,List.set_cons_succ,i64_w,i32_w]
                          rfl
                         refine pure_ (i:=5) (N:=some 255) (v:=?_) (a':=?_) #[true,true,true,true,true,true,false,false,false,false,false,false,false,false,false,false,false,false,false,false] rfl rfl (any_of HT_.out (by kernel_rfl)) (fun _ _ _ h=>h) (Or.inl ⟨by rfl,?_⟩) ?_ ?_
                         rotate_left
                         ·intro w'
                          go_simp
                          with_reducible rfl
                         rotate_left
                         ·simp only [Act.put,List.setIfInBounds_toArray,List.set_cons_zero,List.set_cons_succ,i64_w,i32_w]
                          rfl
                         refine pure_ (i:=9) (N:=some 259) (v:=?_) (a':=?_) #[true,true,true,true,true,true,false,false,false,true,false,false,false,false,false,false,false,false,false,false] rfl rfl (any_of HT_.out (by kernel_rfl)) (fun _ _ _ h=>h) (Or.inl ⟨by rfl,?_⟩) ?_ ?_
                         rotate_left
                         ·intro w'
                          go_simp
                          with_reducible rfl
                         rotate_left
                         ·simp only [Act.put,List.setIfInBounds_toArray,List.set_cons_zero,List.set_cons_succ,i64_w,i32_w]
                          rfl
                         refine pure_ (i:=10) (N:=some 260) (v:=?_) (a':=?_) #[true,true,true,true,true,true,false,false,false,true,true,false,false,false,false,false,false,false,false,false] rfl rfl (any_of HT_.out (by kernel_rfl)) (fun _ _ _ h=>h) (Or.inl ⟨by rfl,?_⟩) ?_ ?_
                         rotate_left
                         ·intro w'
                          go_simp
                          with_reducible rfl
                         rotate_left
                         ·simp only [Act.put,List.setIfInBounds_toArray,List.set_cons_zero,List.set_cons_succ,i64_w,i32_w]
                          rfl
                         refine pure_ (i:=11) (N:=some 261) (v:=?_) (a':=?_) #[true,true,true,true,true,true,false,false,false,true,true,true,false,false,false,false,false,false,false,false] rfl rfl (any_of HT_.out (by kernel_rfl)) (fun _ _ _ h=>h) (Or.inl ⟨by rfl,?_⟩) ?_ ?_
                         rotate_left
                         ·intro w'
                          go_simp
                          with_reducible rfl
                         rotate_left
                         ·simp only [Act.put,List.setIfInBounds_toArray,List.set_cons_zero,List.set_cons_succ,i64_w,i32_w]
                          rfl
                         refine pure_ (i:=15) (N:=some 265) (v:=?_) (a':=?_) #[true,true,true,true,true,true,false,false,false,true,true,true,false,false,false,true,false,false,false,false] rfl rfl (any_of HT_.out (by kernel_rfl)) (fun _ _ _ h=>h) (Or.inl ⟨by rfl,?_⟩) ?_ ?_
                         rotate_left
                         ·intro w'
                          go_simp
                          with_reducible rfl
                         rotate_left
                         ·simp only [Act.put,List.setIfInBounds_toArray,List.set_cons_zero,List.set_cons_succ,i64_w,i32_w]
                          rfl
                         refine take_ (i:=6) (N:=some 256) (v:=?_) (a':=?_) #[true,true,true,true,true,true,true,false,false,true,true,true,false,false,false,true,false,false,false,false] rfl rfl (take_ofW HT_.out HW_.out (by kernel_rfl)) (fun _ _ _ h=>h) (Or.inl ⟨by rfl,?_⟩) hHeld ?_ ?_
                         rotate_left
                         ·rintro w' ⟨s0,s1⟩
                          go_simp
                          with_reducible rfl
                         rotate_left
                         ·simp only [Act.put,List.setIfInBounds_toArray,List.set_cons_zero,List.set_cons_succ,i64_w,i32_w]
                          rfl
                         refine pure_ (i:=7) (N:=some 257) (v:=?_) (a':=?_) #[true,true,true,true,true,true,true,true,false,true,true,true,false,false,false,true,false,false,false,false] rfl rfl (any_of HT_.out (by kernel_rfl)) (fun _ _ _ h=>h) (Or.inl ⟨by rfl,?_⟩) ?_ ?_
                         rotate_left
                         ·intro w'
                          go_simp
                          with_reducible rfl
                         rotate_left
                         ·simp only [Act.put,List.setIfInBounds_toArray,List.set_cons_zero,List.set_cons_succ,i64_w,i32_w]
                          rfl
                         refine pure_ (i:=8) (N:=some 258) (v:=?_) (a':=?_) #[true,true,true,true,true,true,true,true,true,true,true,true,false,false,false,true,false,false,false,false] rfl rfl (any_of HT_.out (by kernel_rfl)) (fun _ _ _ h=>h) (Or.inl ⟨by rfl,?_⟩) ?_ ?_
                         rotate_left
                         ·intro w'
                          go_simp
                          with_reducible rfl
                         rotate_left
                         ·simp only [Act.put,List.setIfInBounds_toArray,List.set_cons_zero,List.set_cons_succ,i64_w,i32_w]
                          rfl
                         refine take_ (i:=12) (N:=some 262) (v:=?_) (a':=?_) #[true,true,true,true,true,true,true,true,true,true,true,true,true,false,false,true,false,false,false,false] rfl rfl (take_ofW HT_.out HW_.out (by kernel_rfl)) (fun _ _ _ h=>h) (Or.inl ⟨by rfl,?_⟩) hHeld ?_ ?_
                         rotate_left
                         ·rintro w' ⟨s0,s1⟩
                          go_simp
                          with_reducible rfl
                         rotate_left
                         ·simp only [Act.put,List.setIfInBounds_toArray,List.set_cons_zero,List.set_cons_succ,i64_w,i32_w]
                          rfl
                         refine pure_ (i:=13) (N:=some 263) (v:=?_) (a':=?_) #[true,true,true,true,true,true,true,true,true,true,true,true,true,true,false,true,false,false,false,false] rfl rfl (any_of HT_.out (by kernel_rfl)) (fun _ _ _ h=>h) (Or.inl ⟨by rfl,?_⟩) ?_ ?_
                         rotate_left
                         ·intro w'
                          go_simp
                          with_reducible rfl
                         rotate_left
                         ·simp only [Act.put,List.setIfInBounds_toArray,List.set_cons_zero,List.set_cons_succ,i64_w,i32_w]
                          rfl
                         refine pure_ (i:=14) (N:=some 264) (v:=?_) (a':=?_) #[true,true,true,true,true,true,true,true,true,true,true,true,true,true,true,true,false,false,false,false] rfl rfl (any_of HT_.out (by kernel_rfl)) (fun _ _ _ h=>h) (Or.inl ⟨by rfl,?_⟩) ?_ ?_
                         rotate_left
                         ·intro w'
                          go_simp
                          with_reducible rfl
                         rotate_left
                         ·simp only [Act.put,List.setIfInBounds_toArray,List.set_cons_zero,List.set_cons_succ,i64_w,i32_w]
                          rfl
                         refine pure_ (i:=16) (N:=some 266) (v:=?_) (a':=?_) #[true,true,true,true,true,true,true,true,true,true,true,true,true,true,true,true,true,false,false,false] rfl rfl (any_of HT_.out (by kernel_rfl)) (fun _ _ _ h=>h) (Or.inl ⟨by rfl,?_⟩) ?_ ?_
                         rotate_left
                         ·intro w'
                          go_simp
                          with_reducible rfl
                         rotate_left
                         ·simp only [Act.put,List.setIfInBounds_toArray,List.set_cons_zero,List.set_cons_succ,i64_w,i32_w]
                          rfl
                         refine pure_ (i:=17) (N:=some 267) (v:=?_) (a':=?_) #[true,true,true,true,true,true,true,true,true,true,true,true,true,true,true,true,true,true,false,false] rfl rfl (any_of HT_.out (by kernel_rfl)) (fun _ _ _ h=>h) (Or.inl ⟨by rfl,?_⟩) ?_ ?_
                         rotate_left
                         ·intro w'
                          go_simp
                          with_reducible rfl
                         rotate_left
                         ·simp only [Act.put,List.setIfInBounds_toArray,List.set_cons_zero,List.set_cons_succ,i64_w,i32_w]
                          rfl
                         refine pure_ (i:=18) (N:=some 268) (v:=?_) (a':=?_) #[true,true,true,true,true,true,true,true,true,true,true,true,true,true,true,true,true,true,true,false] rfl rfl (any_of HT_.out (by kernel_rfl)) (fun _ _ _ h=>h) (Or.inl ⟨by rfl,?_⟩) ?_ ?_
                         rotate_left
                         ·intro w'
                          go_simp
                          with_reducible rfl
                         rotate_left
                         ·simp only [Act.put,List.setIfInBounds_toArray,List.set_cons_zero,List.set_cons_succ,i64_w,i32_w]
                          rfl
                         refine last_ (i:=19) (N:=none) #[true,true,true,true,true,true,true,true,true,true,true,true,true,true,true,true,true,true,true,true] rfl rfl (one_of HT_.out (by kernel_rfl)) (by decide) (fun K hK=>?_)
                         refine skip_ (w1:=?_) (by rfl) rfl ?_ ?_
                         rotate_left
                         ·go_simp
                          rfl
                         refine hK.out _ _ ?_
                         clear hK K
                         refine done_ (done_of HT_.out (by kernel_rfl)) ?_
                         try go_wp2
                         go_roundg k3
                         case measure=>have:=HK1.out;have:=HK2.out;have:=HK3.out;omega
                         case rel=>exact ⟨(y356),(ji104),(by first|rfl|(simp;done)|(simp only [← hji104] <;> (first|rfl|simp))|(simp [*];done)),H',⟨by have:=HK1.out;have:=HK2.out;have:=HK3.out;omega⟩,⟨by (with_reducible repeat (first|apply Kd.R_alloc|apply Kd.R_drewN|apply Kd.R_drew));exact Kd.R_mono (Kd.R_far (p:=⟨go112,(x25_3:Int).toNat,none⟩) (Kd.R_mono HO_8.out (fun k_ hk=>(⟨hk,fun e_=>hk.2 (by rw [e_];rfl)⟩:_∧k_≠go112))) (fun _ hk=>hk.2) (.int .u32 ((ji110)%4294967296))) (fun _ hk=>⟨hk.1.1,hk.1.2⟩)⟩,⟨by (with_reducible repeat (first|apply Kd.R_alloc|apply Kd.R_drewN|apply Kd.R_drew));exact Kd.R_mono (Kd.R_far (p:=⟨go112,(x25_3:Int).toNat,none⟩) (Kd.R_mono HO_10.out (fun k_ hk=>(⟨hk,fun e_=>hk.2 (by rw [e_];rfl)⟩:_∧k_≠go112))) (fun _ hk=>hk.2) (.int .u32 ((ji110)%4294967296))) (fun _ hk=>⟨hk.1.1,hk.1.2⟩)⟩,⟨by (with_reducible repeat (first|apply Kd.R_alloc|apply Kd.R_drewN|apply Kd.R_drew));exact HQ115.out⟩,⟨by repeat (first|(with_reducible first|exact HB.out|apply below_alloc|apply pw_below_drewN|apply below_drew1|refine below_set ?_ GB112.out)|exact HB.out)⟩⟩
                        ·rw [if_neg c111] at H
                         exact absurd H (by simp)
                       ·rw [if_neg c109] at H
                        exact absurd H (by simp)
                      ·rw [if_neg c108] at H
                       exact absurd H (by simp)
                     ·rw [if_neg c107] at H
                      exact absurd H (by simp)
                    ·rw [if_neg c106] at H
                     exact absurd H (by simp)
                   ·rw [if_neg c105] at H
                    exact absurd H (by simp)
                  ·rw [if_neg c103] at H
                   have c103b0:decide (x25_3<(l1.length:Int))=false:=decide_eq_false c103
                   clear c103
                   replace H:=Option.bind_eq_some_iff.mp H
                   obtain ⟨t357,A1160,H⟩:=H
                   replace H:((insolvencyref1_strip.f k3 x24_3).bind fun t360=>(some (t357,t360)))=some (r1,r2):=H
                   have A116:=Aside0.mk A1160
                   clear A1160
                   replace H:=Option.bind_eq_some_iff.mp H
                   obtain ⟨t360,A1170,H⟩:=H
                   replace H:(some (t357,t360))=some (r1,r2):=H
                   have A117:=Aside0.mk A1170
                   clear A1170
                   simp only [Option.some.injEq,Prod.mk.injEq] at H
                   obtain ⟨rfl,rfl⟩:=H
                   obtain ⟨Ao118,co118,eo118⟩:=Kd.R_slice HO_10.out
                   subst eo118
                   go_wp2_with (first|((with_reducible refine gate_callee (f:=75) rfl ?_);refine goesL_ (some 270) rfl rfl Tryd.func75 (by kernel_rfl) rfl #[.slice Ao118 x10_2.length co118] rfl (by (try simp only [List.map_toArray,List.map_cons,List.map_nil]);first|done|rfl|(simp only [List.length_drop,List.length_take];rfl)) ?_;(with_reducible refine (insolvencyref1_strip.calls k3 (fun k_=>some k_=(.slice Ao118 x10_2.length co118:Value).ownBlock) (.slice Ao118 x10_2.length co118) x10_2 t357 w _ ?side1 ?side2 A116.out).mono ?_);(case side1=>repeat (first|(with_reducible first|exact HB.out|apply below_alloc|apply pw_below_drewN|apply below_drew1)|exact HB.out));(case side2=>exact Kd.R_tight rfl HO_10.out);rintro e w119 ⟨v358,rfl,ho0,hb,hkp⟩;refine ⟨_,rfl,?_⟩;have n0_:=Aside0.mk (Kd.R_mono (ok':=fun k_=>some k_≠(v352:Value).ownBlock∧some k_≠(v358:Value).ownBlock) (Kd.R_keptB (HO_8.out) hkp (fun k_ hk_ hs_=>(hk_.1) hs_)) (fun k_ hk_=>⟨hk_.1.2,fun e_=>Or.elim (ho0.1 k_ e_.symm) (fun hs_=>hk_.2.1 hs_) (fun hn_=>Nat.not_le.2 hk_.2.2 hn_)⟩));have n1_:=Aside0.mk (Kd.R_mono (ok':=fun k_=>some k_≠(v320:Value).ownBlock∧some k_≠(v358:Value).ownBlock) (Kd.R_keptB (HO_24.out) hkp (fun k_ hk_ hs_=>(hk_.2) hs_)) (fun k_ hk_=>⟨hk_.1.1,fun e_=>Or.elim (ho0.1 k_ e_.symm) (fun hs_=>hk_.2.1 hs_) (fun hn_=>Nat.not_le.2 hk_.2.2 hn_)⟩));have n2_:=Aside0.mk (Kd.R_mono (ok':=fun k_=>some k_≠(v320:Value).ownBlock∧some k_≠(v352:Value).ownBlock) ho0 (fun k_ hk_=>⟨Or.elim hk_ (fun hs_=>fun e_=>(((HO_8.out).1 k_ e_.symm).1) hs_) (fun hn_=>(Kd.fresh' (Kd.R_lt (by (with_reducible repeat (first|apply Kd.R_alloc|apply Kd.R_drewN|apply Kd.R_drew));exact HO_8.out)) k_ hn_)),Or.elim hk_ (fun hs_=>fun e_=>(((HO_24.out).1 k_ e_.symm).2) hs_) (fun hn_=>(Kd.fresh' (Kd.R_lt (by (with_reducible repeat (first|apply Kd.R_alloc|apply Kd.R_drewN|apply Kd.R_drew));exact HO_24.out)) k_ hn_))⟩));have n3_:=Aside0.mk (hb);clear HO_8;clear HO_24;clear HB;clear HO_10;have HO_8:=n0_;have HO_24:=n1_;have HO359:=n2_;have HB:=n3_;clear n0_ n1_ n2_ n3_;(try clear hb);(try clear hkp);(try clear ho0);obtain ⟨Ao120,co120,eo120⟩:=Kd.R_slice HO_24.out;subst eo120)|((with_reducible refine gate_callee (f:=75) rfl ?_);refine goesL_ (some 272) rfl rfl Tryd.func75 (by kernel_rfl) rfl #[.slice Ao120 x24_3.length co120] rfl (by (try simp only [List.map_toArray,List.map_cons,List.map_nil]);first|done|rfl|(simp only [List.length_drop,List.length_take];rfl)) ?_;(with_reducible refine (insolvencyref1_strip.calls k3 (fun k_=>some k_=(.slice Ao120 x24_3.length co120:Value).ownBlock) (.slice Ao120 x24_3.length co120) x24_3 t360 w _ ?side1 ?side2 A117.out).mono ?_);(case side1=>repeat (first|(with_reducible first|exact HB.out|apply below_alloc|apply pw_below_drewN|apply below_drew1)|exact HB.out));(case side2=>exact Kd.R_tight rfl HO_24.out);rintro e w121 ⟨v361,rfl,ho0,hb,hkp⟩;refine ⟨_,rfl,?_⟩;have n0_:=Aside0.mk (Kd.R_mono (ok':=fun k_=>some k_≠(v358:Value).ownBlock∧some k_≠(v361:Value).ownBlock) (Kd.R_keptB (HO_8.out) hkp (fun k_ hk_ hs_=>(hk_.1) hs_)) (fun k_ hk_=>⟨hk_.1.2,fun e_=>Or.elim (ho0.1 k_ e_.symm) (fun hs_=>hk_.2.1 hs_) (fun hn_=>Nat.not_le.2 hk_.2.2 hn_)⟩));have n1_:=Aside0.mk (Kd.R_mono (ok':=fun k_=>some k_≠(v320:Value).ownBlock∧some k_≠(v361:Value).ownBlock) (Kd.R_keptB (HO359.out) hkp (fun k_ hk_ hs_=>(hk_.2) hs_)) (fun k_ hk_=>⟨hk_.1.1,fun e_=>Or.elim (ho0.1 k_ e_.symm) (fun hs_=>hk_.2.1 hs_) (fun hn_=>Nat.not_le.2 hk_.2.2 hn_)⟩));have n2_:=Aside0.mk (Kd.R_mono (ok':=fun k_=>some k_≠(v320:Value).ownBlock∧some k_≠(v358:Value).ownBlock) ho0 (fun k_ hk_=>⟨Or.elim hk_ (fun hs_=>fun e_=>(((HO_8.out).1 k_ e_.symm).1) hs_) (fun hn_=>(Kd.fresh' (Kd.R_lt (by (with_reducible repeat (first|apply Kd.R_alloc|apply Kd.R_drewN|apply Kd.R_drew));exact HO_8.out)) k_ hn_)),Or.elim hk_ (fun hs_=>fun e_=>(((HO359.out).1 k_ e_.symm).2) hs_) (fun hn_=>(Kd.fresh' (Kd.R_lt (by (with_reducible repeat (first|apply Kd.R_alloc|apply Kd.R_drewN|apply Kd.R_drew));exact HO359.out)) k_ hn_))⟩));have n3_:=Aside0.mk (hb);clear HO_8;clear HO359;clear HB;clear HO_24;have HO_8:=n0_;have HO359:=n1_;have HO362:=n2_;have HB:=n3_;clear n0_ n1_ n2_ n3_;(try clear hb);(try clear hkp);(try clear ho0)))
                   go_ret2
                   exact ⟨_,_,by first|rfl|(simp [errW_none,errW_some] <;> rfl)|(simp only [← hji3,← hji7,← hji13];first|rfl|(simp [errW_none,errW_some] <;> rfl))|(simp [*,errW_none,errW_some] <;> rfl),by (with_reducible repeat (first|apply Kd.R_alloc|apply Kd.R_drewN|apply Kd.R_drew));exact Kd.R_mono HO359.out (fun _ hk=>hk.2),by (with_reducible repeat (first|apply Kd.R_alloc|apply Kd.R_drewN|apply Kd.R_drew));exact Kd.R_mono HO362.out (fun _ hk=>hk.2),by repeat (first|(with_reducible first|exact HB.out|apply below_alloc|apply pw_below_drewN|apply below_drew1)|exact HB.out)⟩
               ·rw [if_neg c100] at H
                exact absurd H (by simp)
              ·rw [if_neg c99] at H
               exact absurd H (by simp)
          ·rw [if_neg c15] at H
           exact absurd H (by simp)
         ·rw [if_neg c14] at H
          exact absurd H (by simp)
        ·rw [if_neg c12] at H
         exact absurd H (by simp)
       ·rw [if_neg c11] at H
        exact absurd H (by simp)
     ·rw [if_neg c6] at H
      exact absurd H (by simp)
    ·rw [if_neg c5] at H
     exact absurd H (by simp)
   ·rw [if_neg c4] at H
    exact absurd H (by simp)
end Go.Proofs.YtjaflmhdclmolaaDoor.F
end
section
namespace Go.Proofs.YtjaflmhdclmolaaDoor.F
open Go.RowKit Go.Proofs.YtjaflmhdclmolaaDoorW.PrintWords Go.Proofs.YtjaflmhdclmolaaDoorW.PrintLast Go.Proofs.YtjaflmhdclmolaaDoorW.PrintMore
attribute [local go_sem] max2_int min2_int max_two min_two max_three min_three max_four min_four   
set_option linter.unusedVariables false
set_option linter.unusedSimpArgs false
def insolvencyref1_order.l0:Nat→List Int→List Int→Int→Option (Int)
 | 0,_,_,_=>none
 | k+1,x0,x1,x5=>if x5≥0 then (if 0≤x5 then (if x5<(x0.length:Int) then (if x5<(x1.length:Int) then (if (rd x0 x5)=(rd x1 x5) then (insolvencyref1_order.l0 k x0 x1 (wrap64 (x5-1))) else (if (rd x0 x5)<(rd x1 x5) then (some (-1)) else (some 1))) else (none)) else (none)) else (none)) else (some 0)
def insolvencyref1_order.f (k:Nat) (l0:List Int) (l1:List Int):Option (Int):=if (l0.length:Int)=(l1.length:Int) then (insolvencyref1_order.l0 k l0 l1 (wrap64 ((l0.length:Int)-1))) else (if (l0.length:Int)<(l1.length:Int) then (some (-1)) else (some 1))
theorem insolvencyref1_order.mono_l:∀ k,(∀ y0 y1 y2,LeO (insolvencyref1_order.l0 k y0 y1 y2) (insolvencyref1_order.l0 (k+1) y0 y1 y2))
 | 0=>fun _ _ _ r h=>by simp [insolvencyref1_order.l0] at h
 | k+1=>by
  have ih0:=insolvencyref1_order.mono_l k
  ·intro y0 y1 y2
   unfold insolvencyref1_order.l0
   repeat' first
   | (with_reducible exact ih0 _ _ _)
   | (with_reducible exact LeO.refl _)
   | (with_reducible exact LeO.none _)
   | (with_reducible refine LeO.ite ?_ ?_)
   | (with_reducible refine LeO.bind ?_ (fun _=>?_))
   | exact ih0 _ _ _
   | exact LeO.none _
   | refine LeO.ite ?_ ?_
   | refine LeO.bind ?_ (fun _=>?_)
theorem insolvencyref1_order.mono:∀ a0 a1 k,LeO (insolvencyref1_order.f k a0 a1) (insolvencyref1_order.f (k+1) a0 a1):=by
 intro a0 a1 k
 have ih0:=insolvencyref1_order.mono_l k
 unfold insolvencyref1_order.f
 repeat' first
  | (with_reducible exact ih0 _ _ _)
  | (with_reducible exact LeO.refl _)
  | (with_reducible exact LeO.none _)
  | (with_reducible refine LeO.ite ?_ ?_)
  | (with_reducible refine LeO.bind ?_ (fun _=>?_))
  | exact ih0 _ _ _
  | exact LeO.none _
  | refine LeO.ite ?_ ?_
  | refine LeO.bind ?_ (fun _=>?_)
set_option maxHeartbeats 8000000 in
set_option maxRecDepth 100000 in
theorem insolvencyref1_order.calls (k:Nat) (A0:Option Addr) (c0:Nat) (l0:List Int) (A1:Option Addr) (c1:Nat) (l1:List Int) (r:Int) (w:World) (hr0:Kd.C (Kd.int .u32) w A0 l0.length l0) (hc0:l0.length≤c0) (hr1:Kd.C (Kd.int .u32) w A1 l1.length l1) (hc1:l1.length≤c1) (h:insolvencyref1_order.f k l0 l1=some r) :
 Calls Tryd.prog 60 #[.slice A0 l0.length c0,.slice A1 l1.length c1] w fun e w'=>e = .returned (.int .i64 r)∧Drawn0 w w':=by
 have HR0:=Aside0.mk hr0
 have HC0:=Aside0.mk hc0
 clear hr0 hc0
 have HR1:=Aside0.mk hr1
 have HC1:=Aside0.mk hc1
 clear hr1 hc1
 have H:(if (l0.length:Int)=(l1.length:Int) then (insolvencyref1_order.l0 k l0 l1 (wrap64 ((l0.length:Int)-1))) else (if (l0.length:Int)<(l1.length:Int) then (some (-1)) else (some 1)))=some r:=h
 clear h
 by_cases c3:(l0.length:Int)=(l1.length:Int)
 ·rw [if_pos c3] at H
  have c3b0:((l0.length:Int) == (l1.length:Int))=true:=beq_iff_eq.mpr c3
  have c3b1:((l0.length:Int) != (l1.length:Int))=false:=bne_eq_false_iff_eq.mpr c3
  have c3b2:(l0.length == l1.length)=true:=by first|simpa using c3|(simp at c3 ⊢;omega)
  clear c3
  have H':=Aside0.mk H
  clear H
  go_enter Tryd.func60,Tryd.ntmps60
  go_wp2
  repeat (go_quiet (fail);try go_wp2)
  go_loopg [5] k (fun kq v5 w'=>∃ (x5_1:Int),v5 = .int .i64 x5_1∧Aside0 (insolvencyref1_order.l0 kq l0 l1 x5_1=some r)∧Aside0 (kq≤k)∧Drawn0 w w')
  case atStart=>exact ⟨(wrap64 ((l0.length:Int)-1)),(by first|rfl|(simp;done)|(simp [*];done)),H',⟨Nat.le_refl _⟩,by repeat (first|exact Drawn0.refl _|apply Drawn0.step)⟩
  case round=>
   clear H'
   try clear c1
   try clear p2
   try clear c3
   try clear c3b0
   try clear c3b1
   try clear c3b2
   obtain ⟨x5_1,rfl,HA,HK1,⟨m1,rfl⟩⟩:=hrel
   cases gk with
   | zero=>exact absurd HA.out (by simp [insolvencyref1_order.l0])
   | succ k1=>
    have H:=HA.out
    clear HA
    simp only [insolvencyref1_order.l0] at H
    by_cases c4:x5_1≥0
    ·rw [if_pos c4] at H
     have c4b0:decide (0≤x5_1)=true:=decide_eq_true c4
     clear c4
     by_cases c5:0≤x5_1
     ·rw [if_pos c5] at H
      have c5b0:decide (0≤x5_1)=true:=decide_eq_true c5
      clear c5
      by_cases c6:x5_1<(l0.length:Int)
      ·rw [if_pos c6] at H
       have c6b0:decide (x5_1<(l0.length:Int))=true:=decide_eq_true c6
       clear c6
       by_cases c7:x5_1<(l1.length:Int)
       ·rw [if_pos c7] at H
        have c7b0:decide (x5_1<(l1.length:Int))=true:=decide_eq_true c7
        clear c7
        by_cases c8:(rd l0 x5_1)=(rd l1 x5_1)
        ·rw [if_pos c8] at H
         have c8b0:((rd l0 x5_1) == (rd l1 x5_1))=true:=beq_iff_eq.mpr c8
         have c8b1:((rd l0 x5_1) != (rd l1 x5_1))=false:=bne_eq_false_iff_eq.mpr c8
         clear c8
         have H':=Aside0.mk H
         clear H
         have p292:0≤(x5_1:Int):=of_decide_eq_true (by first|(with_reducible assumption)|assumption)
         have q292:x5_1<(l0.length:Int):=of_decide_eq_true (by first|(with_reducible assumption)|assumption)
         obtain ⟨ad292,e292,hx292_0⟩:=Kd.at_int HR0.out x5_1 p292 q292
         cases e292
         replace p292:=eq_true p292
         replace q292:=eq_true q292
         have p293:0≤(x5_1:Int):=of_decide_eq_true (by first|(with_reducible assumption)|assumption)
         have q293:x5_1<(l1.length:Int):=of_decide_eq_true (by first|(with_reducible assumption)|assumption)
         obtain ⟨ad293,e293,hx293_0⟩:=Kd.at_int HR1.out x5_1 p293 q293
         cases e293
         replace p293:=eq_true p293
         replace q293:=eq_true q293
         go_wp2
         repeat (go_quiet (fail);try go_wp2)
         go_roundg k1
         case measure=>have:=HK1.out;omega
         case rel=>exact ⟨(wrap64 (x5_1-1)),(by first|rfl|(simp;done)|(simp [*];done)),H',⟨by have:=HK1.out;omega⟩,by repeat (first|exact Drawn0.refl _|apply Drawn0.step)⟩
        ·rw [if_neg c8] at H
         have c8b0:((rd l0 x5_1) == (rd l1 x5_1))=false:=beq_eq_false_iff_ne.mpr c8
         have c8b1:((rd l0 x5_1) != (rd l1 x5_1))=true:=bne_iff_ne.mpr c8
         by_cases c9:(rd l0 x5_1)<(rd l1 x5_1)
         ·rw [if_pos c9] at H
          have c9b0:decide ((rd l0 x5_1)<(rd l1 x5_1))=true:=decide_eq_true c9
          clear c9
          obtain rfl:=Option.some.inj H
          have p292:0≤(x5_1:Int):=of_decide_eq_true (by first|(with_reducible assumption)|assumption)
          have q292:x5_1<(l0.length:Int):=of_decide_eq_true (by first|(with_reducible assumption)|assumption)
          obtain ⟨ad292,e292,hx292_0⟩:=Kd.at_int HR0.out x5_1 p292 q292
          cases e292
          replace p292:=eq_true p292
          replace q292:=eq_true q292
          have p293:0≤(x5_1:Int):=of_decide_eq_true (by first|(with_reducible assumption)|assumption)
          have q293:x5_1<(l1.length:Int):=of_decide_eq_true (by first|(with_reducible assumption)|assumption)
          obtain ⟨ad293,e293,hx293_0⟩:=Kd.at_int HR1.out x5_1 p293 q293
          cases e293
          replace p293:=eq_true p293
          replace q293:=eq_true q293
          have p294:0≤(x5_1:Int):=of_decide_eq_true (by first|(with_reducible assumption)|assumption)
          have q294:x5_1<(l0.length:Int):=of_decide_eq_true (by first|(with_reducible assumption)|assumption)
          obtain ⟨ad294,e294,hx294_0⟩:=Kd.at_int HR0.out x5_1 p294 q294
          obtain rfl:ad292=ad294:=(by injection e294)
          replace p294:=eq_true p294
          replace q294:=eq_true q294
          have p295:0≤(x5_1:Int):=of_decide_eq_true (by first|(with_reducible assumption)|assumption)
          have q295:x5_1<(l1.length:Int):=of_decide_eq_true (by first|(with_reducible assumption)|assumption)
          obtain ⟨ad295,e295,hx295_0⟩:=Kd.at_int HR1.out x5_1 p295 q295
          obtain rfl:ad293=ad295:=(by injection e295)
          replace p295:=eq_true p295
          replace q295:=eq_true q295
          go_wp2
          repeat (go_quiet (fail);try go_wp2)
          go_ret
          exact ⟨by first|rfl|(simp;done)|(simp [*];done),by repeat (first|exact Drawn0.refl _|apply Drawn0.step)⟩
         ·rw [if_neg c9] at H
          have c9b0:decide ((rd l0 x5_1)<(rd l1 x5_1))=false:=decide_eq_false c9
          clear c9
          obtain rfl:=Option.some.inj H
          have p292:0≤(x5_1:Int):=of_decide_eq_true (by first|(with_reducible assumption)|assumption)
          have q292:x5_1<(l0.length:Int):=of_decide_eq_true (by first|(with_reducible assumption)|assumption)
          obtain ⟨ad292,e292,hx292_0⟩:=Kd.at_int HR0.out x5_1 p292 q292
          cases e292
          replace p292:=eq_true p292
          replace q292:=eq_true q292
          have p293:0≤(x5_1:Int):=of_decide_eq_true (by first|(with_reducible assumption)|assumption)
          have q293:x5_1<(l1.length:Int):=of_decide_eq_true (by first|(with_reducible assumption)|assumption)
          obtain ⟨ad293,e293,hx293_0⟩:=Kd.at_int HR1.out x5_1 p293 q293
          cases e293
          replace p293:=eq_true p293
          replace q293:=eq_true q293
          have p294:0≤(x5_1:Int):=of_decide_eq_true (by first|(with_reducible assumption)|assumption)
          have q294:x5_1<(l0.length:Int):=of_decide_eq_true (by first|(with_reducible assumption)|assumption)
          obtain ⟨ad294,e294,hx294_0⟩:=Kd.at_int HR0.out x5_1 p294 q294
          obtain rfl:ad292=ad294:=(by injection e294)
          replace p294:=eq_true p294
          replace q294:=eq_true q294
          have p295:0≤(x5_1:Int):=of_decide_eq_true (by first|(with_reducible assumption)|assumption)
          have q295:x5_1<(l1.length:Int):=of_decide_eq_true (by first|(with_reducible assumption)|assumption)
          obtain ⟨ad295,e295,hx295_0⟩:=Kd.at_int HR1.out x5_1 p295 q295
          obtain rfl:ad293=ad295:=(by injection e295)
          replace p295:=eq_true p295
          replace q295:=eq_true q295
          go_wp2
          repeat (go_quiet (fail);try go_wp2)
          go_ret
          exact ⟨by first|rfl|(simp;done)|(simp [*];done),by repeat (first|exact Drawn0.refl _|apply Drawn0.step)⟩
       ·rw [if_neg c7] at H
        exact absurd H (by simp)
      ·rw [if_neg c6] at H
       exact absurd H (by simp)
     ·rw [if_neg c5] at H
      exact absurd H (by simp)
    ·rw [if_neg c4] at H
     have c4b0:decide (0≤x5_1)=false:=decide_eq_false c4
     clear c4
     obtain rfl:=Option.some.inj H
     go_wp2
     repeat (go_quiet (fail);try go_wp2)
     go_ret
     exact ⟨by first|rfl|(simp;done)|(simp [*];done),by repeat (first|exact Drawn0.refl _|apply Drawn0.step)⟩
 ·rw [if_neg c3] at H
  have c3b0:((l0.length:Int) == (l1.length:Int))=false:=beq_eq_false_iff_ne.mpr c3
  have c3b1:((l0.length:Int) != (l1.length:Int))=true:=bne_iff_ne.mpr c3
  have c3b2:(l0.length == l1.length)=false:=by first|simpa using c3|(simp at c3 ⊢;omega)
  by_cases c10:(l0.length:Int)<(l1.length:Int)
  ·rw [if_pos c10] at H
   have c10b0:decide ((l0.length:Int)<(l1.length:Int))=true:=decide_eq_true c10
   have c10b1:decide (l0.length<l1.length)=true:=decide_eq_true (Int.ofNat_lt.mp c10)
   clear c10
   obtain rfl:=Option.some.inj H
   go_enter Tryd.func60,Tryd.ntmps60
   go_wp2
   repeat (go_quiet (fail);try go_wp2)
   go_ret
   exact ⟨by first|rfl|(simp;done)|(simp [*];done),by repeat (first|exact Drawn0.refl _|apply Drawn0.step)⟩
  ·rw [if_neg c10] at H
   have c10b0:decide ((l0.length:Int)<(l1.length:Int))=false:=decide_eq_false c10
   have c10b1:decide (l0.length<l1.length)=false:=decide_eq_false (fun h=>c10 (Int.ofNat_lt.mpr h))
   clear c10
   obtain rfl:=Option.some.inj H
   go_enter Tryd.func60,Tryd.ntmps60
   go_wp2
   repeat (go_quiet (fail);try go_wp2)
   go_ret
   exact ⟨by first|rfl|(simp;done)|(simp [*];done),by repeat (first|exact Drawn0.refl _|apply Drawn0.step)⟩
end Go.Proofs.YtjaflmhdclmolaaDoor.F
end
section
namespace Go.Proofs.YtjaflmhdclmolaaDoor.F
open Go.RowKit Go.Proofs.YtjaflmhdclmolaaDoorW.PrintWords Go.Proofs.YtjaflmhdclmolaaDoorW.PrintLast Go.Proofs.YtjaflmhdclmolaaDoorW.PrintMore
attribute [local go_sem] max2_int min2_int max_two min_two max_three min_three max_four min_four   
set_option linter.unusedVariables false
set_option linter.unusedSimpArgs false
def insolvencyref1_short.l0:Nat→List Int→Int→List Int→Int→Int→Option (List Int×Int)
 | 0,_,_,_,_,_=>none
 | k+1,x0,x1,x6,x7,x8=>if x8≥0 then (if 0≤x8 then (if x8<(x0.length:Int) then (if (IntKind.u64.wrap (x1))=0 then (none) else (if x8<(x6.length:Int) then (insolvencyref1_short.l0 k x0 x1 (x6.set (x8:Int).toNat ((IntKind.u64.wrap (Int.tdiv (Go.bits .or .u64 (IntKind.u64.wrap (x7*4294967296)) (IntKind.u64.wrap (rd x0 x8))) (IntKind.u64.wrap (x1))))%4294967296)) (Int.tmod (Go.bits .or .u64 (IntKind.u64.wrap (x7*4294967296)) (IntKind.u64.wrap (rd x0 x8))) (IntKind.u64.wrap (x1))) (wrap64 (x8-1))) else (none))) else (none)) else (none)) else ((insolvencyref1_strip.f k x6).bind fun t308=>(some (t308,(x7)%4294967296)))
def insolvencyref1_short.f (k:Nat) (l0:List Int) (a1:Int):Option (List Int×Int):=if 0≤(l0.length:Int) then (if ((l0.length:Int):Int).toNat≤70368744177664 then (insolvencyref1_short.l0 k l0 a1 (List.replicate ((l0.length:Int):Int).toNat 0) 0 (wrap64 ((l0.length:Int)-1))) else (none)) else (none)
theorem insolvencyref1_short.mono_l:∀ k,(∀ y0 y1 y2 y3 y4,LeO (insolvencyref1_short.l0 k y0 y1 y2 y3 y4) (insolvencyref1_short.l0 (k+1) y0 y1 y2 y3 y4))
 | 0=>fun _ _ _ _ _ r h=>by simp [insolvencyref1_short.l0] at h
 | k+1=>by
  have ih0:=insolvencyref1_short.mono_l k
  ·intro y0 y1 y2 y3 y4
   unfold insolvencyref1_short.l0
   repeat' first
   | (with_reducible exact ih0 _ _ _ _ _)
   | (with_reducible exact insolvencyref1_strip.mono _ _)
   | (with_reducible exact LeO.refl _)
   | (with_reducible exact LeO.none _)
   | (with_reducible refine LeO.ite ?_ ?_)
   | (with_reducible refine LeO.bind ?_ (fun _=>?_))
   | exact ih0 _ _ _ _ _
   | exact insolvencyref1_strip.mono _ _
   | exact LeO.none _
   | refine LeO.ite ?_ ?_
   | refine LeO.bind ?_ (fun _=>?_)
theorem insolvencyref1_short.mono:∀ a0 a1 k,LeO (insolvencyref1_short.f k a0 a1) (insolvencyref1_short.f (k+1) a0 a1):=by
 intro a0 a1 k
 have ih0:=insolvencyref1_short.mono_l k
 unfold insolvencyref1_short.f
 repeat' first
  | (with_reducible exact ih0 _ _ _ _ _)
  | (with_reducible exact insolvencyref1_strip.mono _ _)
  | (with_reducible exact LeO.refl _)
  | (with_reducible exact LeO.none _)
  | (with_reducible refine LeO.ite ?_ ?_)
  | (with_reducible refine LeO.bind ?_ (fun _=>?_))
  | exact ih0 _ _ _ _ _
  | exact insolvencyref1_strip.mono _ _
  | exact LeO.none _
  | refine LeO.ite ?_ ?_
  | refine LeO.bind ?_ (fun _=>?_)
set_option maxHeartbeats 8000000 in
set_option maxRecDepth 100000 in
theorem insolvencyref1_short.calls (k:Nat) (A0:Option Addr) (c0:Nat) (l0:List Int) (a1:Int) (r1:List Int) (r2:Int) (w:World) (hr0:Kd.C (Kd.int .u32) w A0 l0.length l0) (hc0:l0.length≤c0) (h:insolvencyref1_short.f k l0 a1=some (r1,r2)) :
 Calls Tryd.prog 74 #[.slice A0 l0.length c0,.int .u32 a1] w fun e w'=>∃ v0_:Value,e = .returned (.tuple #[v0_,.int .u32 r2])∧Kd.R (Kd.int .u32) 60 w' w.heap.size (fun _=>True) v0_ r1∧Below w.heap.size w w':=by
 have HR0:=Aside0.mk hr0
 have HC0:=Aside0.mk hc0
 clear hr0 hc0
 have HB:=Aside0.mk (Below.refl w.heap.size w)
 have H:(if 0≤(l0.length:Int) then (if ((l0.length:Int):Int).toNat≤70368744177664 then (insolvencyref1_short.l0 k l0 a1 (List.replicate ((l0.length:Int):Int).toNat 0) 0 (wrap64 ((l0.length:Int)-1))) else (none)) else (none))=some (r1,r2):=h
 clear h
 by_cases c3:0≤(l0.length:Int)
 ·rw [if_pos c3] at H
  have c3b0:=eq_true c3
  have c3b1:decide (0≤(l0.length:Int))=true:=decide_eq_true c3
  clear c3
  by_cases c4:((l0.length:Int):Int).toNat≤70368744177664
  ·rw [if_pos c4] at H
   have c4b0:=eq_true c4
   have c4b1:decide (((l0.length:Int):Int).toNat≤70368744177664)=true:=decide_eq_true c4
   clear c4
   obtain ⟨y303,hy303⟩:∃ y_:List Int,y_=(List.replicate ((l0.length:Int):Int).toNat 0):=⟨_,rfl⟩
   replace H:(insolvencyref1_short.l0 k l0 a1 y303 0 (wrap64 ((l0.length:Int)-1)))=some (r1,r2):=by first|(rw [hy303];with_reducible exact H)|(have H2_:=(Option.bind_some _ _).symm.trans H;rw [hy303];with_reducible exact H2_)|(have H2_:=(Option.bind_some _ _).symm.trans H;with_reducible exact H2_)|with_reducible exact H|(rw [hy303];exact H)|exact H
   have Ny303:=Aside0.mk hy303
   clear hy303
   have H':=Aside0.mk H
   clear H
   go_enter Tryd.func74,Tryd.ntmps74
   go_wp2_with (first|((with_reducible refine gate_dst (N:=11) rfl ?_);refine Kd.R_make (Kd.int .u32) _ 60 rfl (N:=11) rfl 49 _ _ rfl (l0.length:Int) rfl rfl Tryd.underlying49 (.int .u32 0) 4 info60 rfl (by decide) (by omega) 0 (ok:=fun _=>True) (okp:=fun _=>True) rfl (fun _ hk=>hk) trivial (of_decide_eq_true (by first|(with_reducible assumption)|assumption)) (Nat.le_trans (Nat.mul_le_mul_right _ (of_decide_eq_true (by first|(with_reducible assumption)|assumption):(l0.length:Int).toNat≤70368744177664)) (by omega)) (Below.refl _ _) (Nat.le_refl _) ?_;intro v304 w5 ho6 hb hg_ hnew_;clear hg_ hnew_;(first|rw [← Ny303.out] at ho6|(simp only [Int.reduceToNat] at ho6;rw [← Ny303.out] at ho6));have n0_:=Aside0.mk (Kd.R_lower ho6 (below_size (by repeat (first|(with_reducible first|exact HB.out|apply below_alloc|apply pw_below_drewN|apply below_drew1)|exact HB.out))));have n1_:=Aside0.mk (below_step (by repeat (first|(with_reducible first|exact HB.out|apply below_alloc|apply pw_below_drewN|apply below_drew1)|exact HB.out)) hb);clear HB;have HO305:=n0_;have HB:=n1_;clear n0_ n1_;clear hb ho6))
   go_loopg [7,8] k (fun kq v7 v8 w'=>∃ (x6_1:List Int) (x7_1:Int) (x8_1:Int),v7 = .int .u64 x7_1∧v8 = .int .i64 x8_1∧Aside0 (insolvencyref1_short.l0 kq l0 a1 x6_1 x7_1 x8_1=some (r1,r2))∧Aside0 (kq≤k)∧Aside0 (Kd.R (Kd.int .u32) 60 w' w.heap.size (fun _=>True) v304 x6_1)∧Aside0 (Below w.heap.size w w'))
   case atStart=>exact ⟨(y303),(0),(wrap64 ((l0.length:Int)-1)),(by first|rfl|(simp;done)|(simp [*];done)),(by first|rfl|(simp;done)|(simp [*];done)),H',⟨Nat.le_refl _⟩,⟨by (with_reducible repeat (first|apply Kd.R_alloc|apply Kd.R_drewN|apply Kd.R_drew));exact HO305.out⟩,⟨by repeat (first|(with_reducible first|exact HB.out|apply below_alloc|apply pw_below_drewN|apply below_drew1)|exact HB.out)⟩⟩
   case round=>
    clear H'
    try clear p2
    try clear c3
    try clear c3b0
    try clear c3b1
    try clear c4
    try clear c4b0
    try clear c4b1
    try clear p6
    obtain ⟨x6_1,x7_1,x8_1,rfl,rfl,HA,HK1,HO_6,HB⟩:=hrel
    cases gk with
    | zero=>exact absurd HA.out (by simp [insolvencyref1_short.l0])
    | succ k1=>
     have H:=HA.out
     clear HA
     simp only [insolvencyref1_short.l0] at H
     by_cases c7:x8_1≥0
     ·rw [if_pos c7] at H
      have c7b0:decide (0≤x8_1)=true:=decide_eq_true c7
      clear c7
      by_cases c8:0≤x8_1
      ·rw [if_pos c8] at H
       have c8b0:decide (0≤x8_1)=true:=decide_eq_true c8
       clear c8
       by_cases c9:x8_1<(l0.length:Int)
       ·rw [if_pos c9] at H
        have c9b0:decide (x8_1<(l0.length:Int))=true:=decide_eq_true c9
        clear c9
        by_cases c10:(IntKind.u64.wrap (a1))=0
        ·rw [if_pos c10] at H
         exact absurd H (by simp)
        ·rw [if_neg c10] at H
         have c10b0:((IntKind.u64.wrap (a1)) == 0)=false:=beq_eq_false_iff_ne.mpr c10
         have c10b1:((IntKind.u64.wrap (a1)) != 0)=true:=bne_iff_ne.mpr c10
         by_cases c11:x8_1<(x6_1.length:Int)
         ·rw [if_pos c11] at H
          have c11b0:decide (x8_1<(x6_1.length:Int))=true:=decide_eq_true c11
          clear c11
          obtain ⟨y307,hy307⟩:∃ y_:List Int,y_=(x6_1.set (x8_1:Int).toNat ((IntKind.u64.wrap (Int.tdiv (Go.bits .or .u64 (IntKind.u64.wrap (x7_1*4294967296)) (IntKind.u64.wrap (rd l0 x8_1))) (IntKind.u64.wrap (a1))))%4294967296)):=⟨_,rfl⟩
          replace H:(insolvencyref1_short.l0 k1 l0 a1 y307 (Int.tmod (Go.bits .or .u64 (IntKind.u64.wrap (x7_1*4294967296)) (IntKind.u64.wrap (rd l0 x8_1))) (IntKind.u64.wrap (a1))) (wrap64 (x8_1-1)))=some (r1,r2):=by first|(rw [hy307];with_reducible exact H)|(have H2_:=(Option.bind_some _ _).symm.trans H;rw [hy307];with_reducible exact H2_)|(have H2_:=(Option.bind_some _ _).symm.trans H;with_reducible exact H2_)|with_reducible exact H|(rw [hy307];exact H)|exact H
          have Ny307:=Aside0.mk hy307
          clear hy307
          have H':=Aside0.mk H
          clear H
          have p306:0≤(x8_1:Int):=of_decide_eq_true (by first|(with_reducible assumption)|assumption)
          have q306:x8_1<(l0.length:Int):=of_decide_eq_true (by first|(with_reducible assumption)|assumption)
          obtain ⟨ad306,e306,hx306_0⟩:=Kd.at_int HR0.out x8_1 p306 q306
          cases e306
          replace hx306_0:=(HB.out.cell (World.block_lt_of_cell? w _ hx306_0)).trans hx306_0
          replace p306:=eq_true p306
          replace q306:=eq_true q306
          have p12:0≤(x8_1:Int):=of_decide_eq_true (by first|(with_reducible assumption)|assumption)
          have q12:(x8_1:Int)<((x6_1.length:Int):Int):=of_decide_eq_true (by first|(with_reducible assumption)|assumption)
          obtain ⟨go12,co12,eo12,gb12,gl12,cl12,HG12⟩:=Kd.R_form HO_6.out (by omega)
          (first|cases eo12|(injection eo12 with ea_ en_ ec_;(first|subst ea_|(injection ea_ with ea_;subst ea_));subst ec_;clear en_))
          have GB12:=Aside0.mk gb12
          have GG12:=Aside0.mk HG12
          clear gb12 gl12 HG12
          obtain ⟨hx12_0,hf12_0⟩:=Kd.R_celln 0 HO_6.out (x8_1:Int) p12 q12
          replace p12:=eq_true p12
          replace q12:=eq_true q12
          have HP13:=Kd.R_putg HO_6.out (x8_1:Int) ((IntKind.u64.wrap (Int.tdiv (Go.bits .or .u64 (IntKind.u64.wrap (x7_1*4294967296)) (IntKind.u64.wrap (rd l0 x8_1))) (IntKind.u64.wrap (a1))))%4294967296)
          go_wp2_with (first|((with_reducible refine gate_store (t:=60) (p:=34) rfl ?_);refine store_event (t:=60) (p:=34) (v:=?vo_w14) (w1:=(wr.setCell ⟨go12,(x8_1:Int).toNat,none⟩ (.int .u32 ((IntKind.u64.wrap (Int.tdiv (Go.bits .or .u64 (IntKind.u64.wrap (x7_1*4294967296)) (IntKind.u64.wrap (rd l0 x8_1))) (IntKind.u64.wrap (a1))))%4294967296)))) ?hg ?ho ?hn ?hr ?_;(case ho=>rfl);(case hg=>rfl);(case hn=>rfl);(case hr=>first|(go_simp;done)|(go_simp;rfl));intro w14 hw;have hg:wr.grownBy w14 (some go12):=(by rw [hw];exact HP13.2);have hp_:Kd.R (Kd.int .u32) 60 w14 w.heap.size (fun _=>True) (.slice (some ⟨go12,0,none⟩) x6_1.length co12) y307:=(by rw [hw,Ny307.out];exact HP13.1);clear HP13;have n0_:=Aside0.mk (hp_);have n1_:=Aside0.mk ((by rw [hw];exact below_set (HB.out) GB12.out:Below w.heap.size w w14));clear HO_6;clear HB;have HO_6:=n0_;have HB:=n1_;clear n0_ n1_;clear hg hw hp_))
          go_roundg k1
          case measure=>have:=HK1.out;omega
          case rel=>exact ⟨(y307),(Int.tmod (Go.bits .or .u64 (IntKind.u64.wrap (x7_1*4294967296)) (IntKind.u64.wrap (rd l0 x8_1))) (IntKind.u64.wrap (a1))),(wrap64 (x8_1-1)),(by first|rfl|(simp;done)|(simp [*];done)),(by first|rfl|(simp;done)|(simp [*];done)),H',⟨by have:=HK1.out;omega⟩,⟨by (with_reducible repeat (first|apply Kd.R_alloc|apply Kd.R_drewN|apply Kd.R_drew));exact HO_6.out⟩,⟨by repeat (first|(with_reducible first|exact HB.out|apply below_alloc|apply pw_below_drewN|apply below_drew1)|exact HB.out)⟩⟩
         ·rw [if_neg c11] at H
          exact absurd H (by simp)
       ·rw [if_neg c9] at H
        exact absurd H (by simp)
      ·rw [if_neg c8] at H
       exact absurd H (by simp)
     ·rw [if_neg c7] at H
      have c7b0:decide (0≤x8_1)=false:=decide_eq_false c7
      clear c7
      replace H:=Option.bind_eq_some_iff.mp H
      obtain ⟨t308,A150,H⟩:=H
      replace H:(some (t308,(x7_1)%4294967296))=some (r1,r2):=H
      have A15:=Aside0.mk A150
      clear A150
      simp only [Option.some.injEq,Prod.mk.injEq] at H
      obtain ⟨rfl,rfl⟩:=H
      obtain ⟨Ao16,co16,eo16⟩:=Kd.R_slice HO_6.out
      subst eo16
      go_wp2_with (first|((with_reducible refine gate_callee (f:=75) rfl ?_);refine goesL_ (some 40) rfl rfl Tryd.func75 (by kernel_rfl) rfl #[.slice Ao16 x6_1.length co16] rfl (by (try simp only [List.map_toArray,List.map_cons,List.map_nil]);first|done|rfl|(simp only [List.length_drop,List.length_take];rfl)) ?_;(with_reducible refine (insolvencyref1_strip.calls k1 (fun k_=>some k_=(.slice Ao16 x6_1.length co16:Value).ownBlock) (.slice Ao16 x6_1.length co16) x6_1 t308 w _ ?side1 ?side2 A15.out).mono ?_);(case side1=>repeat (first|(with_reducible first|exact HB.out|apply below_alloc|apply pw_below_drewN|apply below_drew1)|exact HB.out));(case side2=>exact Kd.R_tight rfl HO_6.out);rintro e w17 ⟨v309,rfl,ho0,hb,hkp⟩;refine ⟨_,rfl,?_⟩;have n0_:=Aside0.mk (Kd.R_mono (ok':=fun k_=>True) ho0 (fun k_ hk_=>trivial));have n1_:=Aside0.mk (hb);clear HB;clear HO_6;have HO310:=n0_;have HB:=n1_;clear n0_ n1_;(try clear hb);(try clear hkp);(try clear ho0)))
      go_ret2
      exact ⟨_,by first|rfl|(simp [errW_none,errW_some] <;> rfl)|(simp [*,errW_none,errW_some] <;> rfl),by (with_reducible repeat (first|apply Kd.R_alloc|apply Kd.R_drewN|apply Kd.R_drew));exact HO310.out,by repeat (first|(with_reducible first|exact HB.out|apply below_alloc|apply pw_below_drewN|apply below_drew1)|exact HB.out)⟩
  ·rw [if_neg c4] at H
   exact absurd H (by simp)
 ·rw [if_neg c3] at H
  exact absurd H (by simp)
end Go.Proofs.YtjaflmhdclmolaaDoor.F
end
