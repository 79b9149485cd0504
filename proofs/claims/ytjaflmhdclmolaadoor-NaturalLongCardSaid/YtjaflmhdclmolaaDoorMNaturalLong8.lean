/- Part 8 of the proof of NaturalLong: the functions' walks and what they compute, in the order of the calls; each holds for all arguments that its row allows. -/
import Derived.Test.YtjaflmhdclmolaaDoorMNaturalLong6
import Derived.Test.YtjaflmhdclmolaaDoorMNaturalLong7
import Derived.Test.YtjaflmhdclmolaaDoorMNaturalLong5
import Derived.Laws.BitsLemmas
import Derived.IntWalk
import Derived.Test.YtjaflmhdclmolaaDoorMNaturalLong2
section
namespace Go.Proofs.YtjaflmhdclmolaaDoor.F
open Go.RowKit Go.Proofs.YtjaflmhdclmolaaDoorW.PrintWords Go.Proofs.YtjaflmhdclmolaaDoorW.PrintLast Go.Proofs.YtjaflmhdclmolaaDoorW.PrintMore
attribute [local go_sem] max2_int min2_int max_two min_two max_three min_three max_four min_four   
set_option linter.unusedVariables false
set_option linter.unusedSimpArgs false
def natural_stepAt.f (k:Nat) (n:Int) (u:List Int) (i:Int) (d:List Int):Option (Int×List Int):=if 0≤i∧0≤n∧i+n+1≤(u.length:Int) then (natural_step.f k ((u.drop i.toNat).take (n.toNat+1)) d).bind fun r=>some (r.1,u.take i.toNat ++ r.2 ++ u.drop (i.toNat+n.toNat+1)) else none
theorem natural_stepAt.mono:∀ n u i d k,LeO (natural_stepAt.f k n u i d) (natural_stepAt.f (k+1) n u i d):=by
 intro n u i d k
 unfold natural_stepAt.f
 exact LeO.ite (LeO.bind (natural_step.mono _ _ _) (fun _=>LeO.refl _)) (LeO.none _)
theorem natural_stepAt.bound {k:Nat} {n:Int} {u:List Int} {i:Int} {d:List Int} {r:Int×List Int} (h:natural_stepAt.f k n u i d=some r):0≤i∧0≤n∧i+n+1≤(u.length:Int):=by
 unfold natural_stepAt.f at h
 by_cases c:0≤i∧0≤n∧i+n+1≤(u.length:Int)
 ·exact c
 ·rw [if_neg c] at h;exact absurd h (by simp)
theorem natural_stepAt.back {e g cap base m:Nat} {w:World} {ok:Nat→Prop} {pre mid post r rest:List Value} {l0 r2:List Int} {j:Nat} (hj:j≤l0.length) (hjm:j+m≤l0.length)
 (hpre:pre=nums .u32 (l0.take j)) (hpost:post=nums .u32 (l0.drop (j+m)) ++ rest) (hcap:l0.length≤cap) (hm:cap≤maxLen) (hrest:l0.length+rest.length=cap)
 (h:Wd.R e pre post w base ok (.slice (some ⟨g,j,none⟩) m (cap-j)) r2) :
 Kd.R (Kd.int .u32) e w base ok (.slice (some ⟨g,0,none⟩) l0.length cap) (l0.take j ++ r2 ++ l0.drop (j+m)):=by
 obtain ⟨hk,g',cap',hv,hg,hl,hm',hh⟩:=h
 injection hv with h1 h2 h3
 injection h1 with h1
 injection h1 with h1 h4
 subst h1
 have hlen:(l0.take j ++ r2 ++ l0.drop (j+m)).length=l0.length:=by simp;omega
 refine ⟨fun k hk'=>hk k (by simpa [Value.ownBlock] using hk'),nums .u32 (l0.take j ++ r2 ++ l0.drop (j+m)),⟨by simp [nums,Kd.int,Kd.scalar],.inr ⟨g,cap,_,by rw [hlen],hg,hh,by rw [hlen];exact hcap,hm,?_,?_⟩⟩,?_⟩
 ·simp [hpre,hpost,nums,Kd.int,Kd.scalar];omega
 ·rw [hlen,hpre,hpost]
  simp only [Kd.int,Kd.scalar,Nat.mul_one]
  have e1:nums .u32 (l0.take j) ++ nums .u32 r2 ++ (nums .u32 (l0.drop (j+m)) ++ rest)=nums .u32 (l0.take j ++ r2 ++ l0.drop (j+m)) ++ rest:=by simp [nums,List.append_assoc]
  rw [e1,List.take_append_of_le_length (by simp [nums];omega),List.take_of_length_le (by simp [nums];omega)]
 ·refine ⟨by simp [nums,Kd.int,Kd.scalar],fun i p hp=>?_⟩
  have hi:=(List.getElem?_eq_some_iff.1 hp).1
  show ((nums .u32 (l0.take j ++ r2 ++ l0.drop (j+m))).drop (i*1)).take 1=[.int .u32 p]
  rw [Nat.mul_one,List.take_one,List.head?_drop]
  unfold nums
  rw [List.getElem?_map,hp]
  rfl
theorem natural_stepAt.calls (k:Nat) (m:Nat) (P0_:Nat→Prop) (g cap:Nat) (l0:List Int) (i:Int) (A1:Option Addr) (c1:Nat) (l1:List Int) (r1:Int) (r2:List Int) (w0 w:World) (hB:Below w0.heap.size w0 w) (ho0:Kd.R (Kd.int .u32) 60 w w0.heap.size P0_ (.slice (some ⟨g,0,none⟩) l0.length cap) l0) (hr1:∀ W_,Kept w W_ (fun k_=>P0_ k_)→Kd.C (Kd.int .u32) W_ A1 l1.length l1) (hc1:l1.length≤c1) (h:natural_stepAt.f k (m:Int) l0 i l1=some (r1,r2)) :
 Calls Tryd.prog 72 #[.slice (some ⟨g,i.toNat,none⟩) (m+1) (cap-i.toNat),.slice A1 l1.length c1] w fun e w'=>e = .returned (.int .u32 r1)∧Kd.R (Kd.int .u32) 60 w' w0.heap.size (fun k_=>(P0_ k_∨w.heap.size≤k_)) (.slice (some ⟨g,0,none⟩) l0.length cap) r2∧Below w0.heap.size w0 w'∧Kept w w' (fun k_=>P0_ k_):=by
 obtain ⟨b0,b1,b2⟩:=natural_stepAt.bound h
 unfold natural_stepAt.f at h
 rw [if_pos ⟨b0,b1,b2⟩] at h
 obtain ⟨⟨s1,s2⟩,hs,he⟩:=Option.bind_eq_some_iff.1 h
 obtain ⟨rfl,rfl⟩:=Prod.mk.inj (Option.some.inj he)
 obtain ⟨hk,inner,⟨hin,hcase⟩,hreps⟩:=ho0
 rcases hcase with ⟨hbad,_⟩|⟨g',cap',cur,hv,hg,hh,hl,hm,hcs,htake⟩
 ·simp at hbad
 injection hv with h1 h2 h3
 injection h1 with h1
 injection h1 with h1
 subst h1 h3
 simp only [Kd.int,Kd.scalar,Nat.mul_one] at hcs htake hin
 have hnum:inner=nums .u32 l0:=by
  apply List.ext_getElem?
  intro j
  unfold nums
  rw [List.getElem?_map]
  by_cases hj:j<l0.length
  ·rw [List.getElem?_eq_getElem hj]
   have:=hreps.2 j _ (List.getElem?_eq_getElem hj)
   have h2:(inner.drop (j*1)).take 1=[.int .u32 l0[j]]:=this
   rw [Nat.mul_one] at h2
   have h3:inner[j]?=some (.int .u32 l0[j]):=by
    have:=congrArg List.head? h2
    rw [List.take_one,List.head?_drop] at this
    revert this
    cases inner[j]? <;> simp
   rw [h3];rfl
  ·rw [List.getElem?_eq_none (by omega),List.getElem?_eq_none (by omega)];rfl
 have hn1:(m:Int).toNat=m:=Int.toNat_natCast m
 rw [hn1] at hs
 have hil:i.toNat+m+1≤l0.length:=by omega
 have hcur:cur.toList=nums .u32 l0 ++ cur.toList.drop l0.length:=by
  conv=>lhs;rw [← List.take_append_drop l0.length cur.toList]
  rw [htake,hnum]
 have hwin:((l0.drop i.toNat).take (m+1)).length=m+1:=by simp;omega
 have hpl:(nums .u32 (l0.take i.toNat)).length=i.toNat:=by simp [nums];omega
 have hW:Wd.R 60 (nums .u32 (l0.take i.toNat)) (nums .u32 (l0.drop (i.toNat+(m+1))) ++ cur.toList.drop l0.length) w w0.heap.size P0_ (.slice (some ⟨g,i.toNat,none⟩) (m+1) (cap-i.toNat)) ((l0.drop i.toNat).take (m+1)):=by
  refine ⟨fun k hk'=>hk k (by simpa [Value.ownBlock] using hk'),g,cap-i.toNat,by rw [hpl,hwin],hg,by rw [hwin];omega,by unfold maxLen at hm ⊢;omega,?_⟩
  rw [hh]
  congr 2
  apply Array.ext'
  show cur.toList=nums .u32 (l0.take i.toNat) ++ nums .u32 ((l0.drop i.toNat).take (m+1)) ++ (nums .u32 (l0.drop (i.toNat+(m+1))) ++ cur.toList.drop l0.length)
  rw [← List.append_assoc]
  have e1:nums .u32 (l0.take i.toNat) ++ nums .u32 ((l0.drop i.toNat).take (m+1)) ++ nums .u32 (l0.drop (i.toNat+(m+1)))=nums .u32 l0:=by
   unfold nums
   rw [← List.map_append,← List.map_append]
   congr 1
   rw [List.append_assoc,← List.drop_drop,List.take_append_drop,List.take_append_drop]
  rw [e1]
  exact hcur
 refine (natural_step.calls k _ _ P0_ _ _ A1 c1 l1 s1 s2 w0 w hB hW hr1 hc1 hs).mono ?_
 rintro e w' ⟨he1,hR,hb,hkp⟩
 refine ⟨he1,?_,hb,hkp⟩
 rw [hn1]
 exact natural_stepAt.back (mid:=[]) (r:=[]) (j:=i.toNat) (m:=m+1) (by omega) (by omega) rfl rfl hl hm (by have e_:=(Array.length_toList (xs:=cur)).trans hcs;rw [List.length_drop,e_];omega) hR
def natural_unshiftAt.f (k:Nat) (n:Int) (u:List Int) (a1:Int):Option (List Int):=if 0≤n∧n≤(u.length:Int) then natural_unshift.f k (u.take n.toNat) a1 else none
theorem natural_unshiftAt.mono:∀ n u a1 k,LeO (natural_unshiftAt.f k n u a1) (natural_unshiftAt.f (k+1) n u a1):=by
 intro n u a1 k
 unfold natural_unshiftAt.f
 exact LeO.ite (natural_unshift.mono _ _ _) (LeO.none _)
theorem natural_unshiftAt.bound {k:Nat} {n:Int} {u:List Int} {a1:Int} {r:List Int} (h:natural_unshiftAt.f k n u a1=some r):0≤n∧n≤(u.length:Int):=by
 unfold natural_unshiftAt.f at h
 by_cases c:0≤n∧n≤(u.length:Int)
 ·exact c
 ·rw [if_neg c] at h;exact absurd h (by simp)
theorem natural_unshiftAt.calls (k:Nat) (m:Nat) (A0:Option Addr) (c0:Nat) (l0:List Int) (a1:Int) (r:List Int) (w:World) (hr0:Kd.C (Kd.int .u32) w A0 l0.length l0) (hc0:l0.length≤c0) (h:natural_unshiftAt.f k (m:Int) l0 a1=some r) :
 Calls Tryd.prog 73 #[.slice A0 m c0,.int .u64 a1] w fun e w'=>∃ v0_:Value,e = .returned (v0_)∧Kd.R (Kd.int .u32) 60 w' w.heap.size (fun _=>True) v0_ r∧Below w.heap.size w w':=by
 obtain ⟨b0,b1⟩:=natural_unshiftAt.bound h
 unfold natural_unshiftAt.f at h
 rw [if_pos ⟨b0,b1⟩,Int.toNat_natCast] at h
 have hl:(l0.take m).length=m:=by simp;omega
 have hC:Kd.C (Kd.int .u32) w A0 (l0.take m).length (l0.take m):=by
  refine ⟨rfl,by have:=hr0.2.1;omega,fun hn=>?_⟩
  obtain ⟨ad,he,hc⟩:=hr0.2.2 (by omega)
  refine ⟨ad,he,fun j p hp=>hc j p ?_⟩
  have hj:=(List.getElem?_eq_some_iff.1 hp).1
  rw [List.getElem?_take_of_lt (by omega)] at hp
  exact hp
 have:=natural_unshift.calls k A0 c0 (l0.take m) a1 r w hC (by omega) h
 rw [hl] at this
 exact this
def natural_divide.l0:Nat→Int→Int→List Int→List Int→List Int→Int→Option (List Int×List Int)
 | 0,_,_,_,_,_,_=>none
 | k+1,x9,x8,x10,x11,x12,x13=>if x13≥0 then ((natural_stepAt.f k x9 x11 x13 x10).bind fun bt193=>(if 0≤x13 then (if x13<(x12.length:Int) then (natural_divide.l0 k x9 x8 x10 bt193.2 (x12.set (x13:Int).toNat bt193.1) (wrap64 (x13-1))) else (none)) else (none))) else ((natural_limbs_trim.f k x12).bind fun t196=>((natural_unshiftAt.f k x9 x11 x8).bind fun t199=>(some (t196,t199))))
def natural_divide.f (k:Nat) (l0:List Int) (l1:List Int):Option (List Int×List Int):=(natural_compare.f k l0 l1).bind fun t170=>(if t170<0 then (some (([]:List Int),l0)) else (if (l1.length:Int)=1 then (if 0<(l1.length:Int) then ((natural_divideSmall.f k l0 (rd l1 0)).bind fun bt172=>((natural_limbs_trim.f k (([bt172.2]:List Int))).bind fun t179=>(some (bt172.1,t179)))) else (none)) else (if 0≤(wrap64 ((l1.length:Int)-1)) then (if (wrap64 ((l1.length:Int)-1))<(l1.length:Int) then ((bits_LeadingZeros32.f (rd l1 (wrap64 ((l1.length:Int)-1)))).bind fun t183=>((natural_shift.f k l1 (IntKind.u64.wrap (t183)) (l1.length:Int)).bind fun t184=>((natural_shift.f k l0 (IntKind.u64.wrap (t183)) (wrap64 ((l0.length:Int)+1))).bind fun t187=>(if 0≤(wrap64 ((wrap64 ((l0.length:Int)-(l1.length:Int)))+1)) then (if (wrap64 ((wrap64 ((l0.length:Int)-(l1.length:Int)))+1):Int).toNat≤70368744177664 then ((some (List.replicate (wrap64 ((wrap64 ((l0.length:Int)-(l1.length:Int)))+1):Int).toNat 0:List Int)).bind fun y190=>(natural_divide.l0 k (l1.length:Int) (IntKind.u64.wrap (t183)) t184 t187 y190 (wrap64 ((y190.length:Int)-1)))) else (none)) else (none))))) else (none)) else (none))))
theorem natural_divide.mono_l:∀ k,(∀ y9 y0 y1 y2 y3 y4,LeO (natural_divide.l0 k y9 y0 y1 y2 y3 y4) (natural_divide.l0 (k+1) y9 y0 y1 y2 y3 y4))
 | 0=>fun _ _ _ _ _ _ r h=>by simp [natural_divide.l0] at h
 | k+1=>by
  have ih0:=natural_divide.mono_l k
  ·intro y9 y0 y1 y2 y3 y4
   unfold natural_divide.l0
   repeat' first
   | (with_reducible exact ih0 _ _ _ _ _ _)
   | (with_reducible exact natural_compare.mono _ _ _)
   | (with_reducible exact natural_divideSmall.mono _ _ _)
   | (with_reducible exact natural_limbs_trim.mono _ _)
   | (with_reducible exact natural_shift.mono _ _ _ _)
   | (with_reducible exact natural_stepAt.mono _ _ _ _ _)
   | (with_reducible exact natural_unshiftAt.mono _ _ _ _)
   | (with_reducible exact LeO.refl _)
   | (with_reducible exact LeO.none _)
   | (with_reducible refine LeO.ite ?_ ?_)
   | (with_reducible refine LeO.bind ?_ (fun _=>?_))
   | exact ih0 _ _ _ _ _ _
   | exact natural_compare.mono _ _ _
   | exact natural_divideSmall.mono _ _ _
   | exact natural_limbs_trim.mono _ _
   | exact natural_shift.mono _ _ _ _
   | exact natural_stepAt.mono _ _ _ _ _
   | exact natural_unshiftAt.mono _ _ _ _
   | exact LeO.none _
   | refine LeO.ite ?_ ?_
   | refine LeO.bind ?_ (fun _=>?_)
theorem natural_divide.mono:∀ a0 a1 k,LeO (natural_divide.f k a0 a1) (natural_divide.f (k+1) a0 a1):=by
 intro a0 a1 k
 have ih0:=natural_divide.mono_l k
 unfold natural_divide.f
 repeat' first
  | (with_reducible exact ih0 _ _ _ _ _ _)
  | (with_reducible exact natural_compare.mono _ _ _)
  | (with_reducible exact natural_divideSmall.mono _ _ _)
  | (with_reducible exact natural_limbs_trim.mono _ _)
  | (with_reducible exact natural_shift.mono _ _ _ _)
  | (with_reducible exact natural_stepAt.mono _ _ _ _ _)
  | (with_reducible exact natural_unshiftAt.mono _ _ _ _)
  | (with_reducible exact LeO.refl _)
  | (with_reducible exact LeO.none _)
  | (with_reducible refine LeO.ite ?_ ?_)
  | (with_reducible refine LeO.bind ?_ (fun _=>?_))
  | exact ih0 _ _ _ _ _ _
  | exact natural_compare.mono _ _ _
  | exact natural_divideSmall.mono _ _ _
  | exact natural_limbs_trim.mono _ _
  | exact natural_shift.mono _ _ _ _
  | exact natural_stepAt.mono _ _ _ _ _
  | exact natural_unshiftAt.mono _ _ _ _
  | exact LeO.none _
  | refine LeO.ite ?_ ?_
  | refine LeO.bind ?_ (fun _=>?_)
def natural_divide.T15:Bool×List (List Nat×List Nat):=(true,[([],[]),([0],[0]),([],[]),([],[]),([2,3],[2,3]),([],[]),([4,5,1],[4,5]),([1,6,0,1],[1]),([6,7,0,1,2,3,4,5,6,7],[6])])
def natural_divide.B15:List Nat:=[0,1,0,0,12,0,63,127,255]
theorem natural_divide.tab15:rtab .any (opsOf Tryd.f43 15)=natural_divide.T15:=by kernel_rfl
theorem natural_divide.bits15:waitsOk natural_divide.T15.2 natural_divide.B15=true:=by kernel_rfl
set_option maxHeartbeats 8000000 in
set_option maxRecDepth 100000 in
theorem natural_divide.calls (k:Nat) (P0_:Nat→Prop) (u9000_:Value) (l0:List Int) (A1:Option Addr) (c1:Nat) (l1:List Int) (r1:List Int) (r2:List Int) (w0 w:World) (hB:Below w0.heap.size w0 w) (ho0:Kd.R (Kd.int .u32) 60 w w0.heap.size P0_ u9000_ l0) (hr1:∀ W_,Kept w W_ (fun k_=>P0_ k_)→Kd.C (Kd.int .u32) W_ A1 l1.length l1) (hc1:l1.length≤c1) (h:natural_divide.f k l0 l1=some (r1,r2)) :
 Calls Tryd.prog 43 #[u9000_,.slice A1 l1.length c1] w fun e w'=>∃ v0_ v1_:Value,e = .returned (.tuple #[v0_,v1_])∧Kd.R (Kd.int .u32) 60 w' w0.heap.size (fun k_=>(P0_ k_∨w.heap.size≤k_)∧some k_≠(v1_:Value).ownBlock) v0_ r1∧Kd.R (Kd.int .u32) 60 w' w0.heap.size (fun k_=>(P0_ k_∨w.heap.size≤k_)∧some k_≠(v0_:Value).ownBlock) v1_ r2∧Below w0.heap.size w0 w'∧Kept w w' (fun k_=>P0_ k_):=by
 have HO0:=Aside0.mk (show Kd.R (Kd.int .u32) 60 w w0.heap.size (fun k_=>(P0_ k_∨w.heap.size≤k_)) u9000_ l0 from Kd.R_mono ho0 (fun k_ hk=>(.inl hk)))
 have HR1:=Aside0.mk hr1
 have HC1:=Aside0.mk hc1
 clear hr1 hc1
 have HK:=Aside0.mk (Kept.refl w (fun k_=>P0_ k_))
 have HW0:=Aside0.mk hB.size
 have HB:=Aside0.mk hB
 clear hB
 have H:((natural_compare.f k l0 l1).bind fun t170=>(if t170<0 then (some (([]:List Int),l0)) else (if (l1.length:Int)=1 then (if 0<(l1.length:Int) then ((natural_divideSmall.f k l0 (rd l1 0)).bind fun bt172=>((natural_limbs_trim.f k (([bt172.2]:List Int))).bind fun t179=>(some (bt172.1,t179)))) else (none)) else (if 0≤(wrap64 ((l1.length:Int)-1)) then (if (wrap64 ((l1.length:Int)-1))<(l1.length:Int) then ((bits_LeadingZeros32.f (rd l1 (wrap64 ((l1.length:Int)-1)))).bind fun t183=>((natural_shift.f k l1 (IntKind.u64.wrap (t183)) (l1.length:Int)).bind fun t184=>((natural_shift.f k l0 (IntKind.u64.wrap (t183)) (wrap64 ((l0.length:Int)+1))).bind fun t187=>(if 0≤(wrap64 ((wrap64 ((l0.length:Int)-(l1.length:Int)))+1)) then (if (wrap64 ((wrap64 ((l0.length:Int)-(l1.length:Int)))+1):Int).toNat≤70368744177664 then ((some (List.replicate (wrap64 ((wrap64 ((l0.length:Int)-(l1.length:Int)))+1):Int).toNat 0:List Int)).bind fun y190=>(natural_divide.l0 k (l1.length:Int) (IntKind.u64.wrap (t183)) t184 t187 y190 (wrap64 ((y190.length:Int)-1)))) else (none)) else (none))))) else (none)) else (none)))))=some (r1,r2):=h
 clear h
 replace H:=Option.bind_eq_some_iff.mp H
 obtain ⟨t170,A30,H⟩:=H
 replace H:(if t170<0 then (some (([]:List Int),l0)) else (if (l1.length:Int)=1 then (if 0<(l1.length:Int) then ((natural_divideSmall.f k l0 (rd l1 0)).bind fun bt172=>((natural_limbs_trim.f k (([bt172.2]:List Int))).bind fun t179=>(some (bt172.1,t179)))) else (none)) else (if 0≤(wrap64 ((l1.length:Int)-1)) then (if (wrap64 ((l1.length:Int)-1))<(l1.length:Int) then ((bits_LeadingZeros32.f (rd l1 (wrap64 ((l1.length:Int)-1)))).bind fun t183=>((natural_shift.f k l1 (IntKind.u64.wrap (t183)) (l1.length:Int)).bind fun t184=>((natural_shift.f k l0 (IntKind.u64.wrap (t183)) (wrap64 ((l0.length:Int)+1))).bind fun t187=>(if 0≤(wrap64 ((wrap64 ((l0.length:Int)-(l1.length:Int)))+1)) then (if (wrap64 ((wrap64 ((l0.length:Int)-(l1.length:Int)))+1):Int).toNat≤70368744177664 then ((some (List.replicate (wrap64 ((wrap64 ((l0.length:Int)-(l1.length:Int)))+1):Int).toNat 0:List Int)).bind fun y190=>(natural_divide.l0 k (l1.length:Int) (IntKind.u64.wrap (t183)) t184 t187 y190 (wrap64 ((y190.length:Int)-1)))) else (none)) else (none))))) else (none)) else (none))))=some (r1,r2):=H
 have A3:=Aside0.mk A30
 clear A30
 by_cases c4:t170<0
 ·rw [if_pos c4] at H
  have c4b0:decide (t170<0)=true:=decide_eq_true c4
  clear c4
  simp only [Option.some.injEq,Prod.mk.injEq] at H
  obtain ⟨rfl,rfl⟩:=H
  obtain ⟨Ao5,co5,eo5⟩:=Kd.R_slice HO0.out
  subst eo5
  go_enter Tryd.func43,Tryd.ntmps43
  go_wp2_with (first|((with_reducible refine gate_callee (f:=62) rfl ?_);refine goesL_ (some 16) rfl rfl Tryd.func62 (by kernel_rfl) rfl #[.slice Ao5 l0.length co5,.slice A1 l1.length c1] rfl (by (try simp only [List.map_toArray,List.map_cons,List.map_nil]);first|done|rfl|(simp only [List.length_drop,List.length_take];rfl)) ?_;(with_reducible refine (natural_compare.calls k _ _ l0 _ _ l1 t170 _ ?side1 ?side2 ?side3 ?side4 A3.out).mono ?_);(case side1=>repeat (first|exact (Kd.R_reads' HO0.out).2.2|(with_reducible refine Kd.C_alloc ?_ _)|(with_reducible refine Kd.C_drewN ?_ _)|(with_reducible refine Kd.C_drew ?_)));(case side2=>exact (Kd.R_reads' HO0.out).2.1);(case side3=>exact Kd.C_kept_now HR1.out (by repeat (first|(with_reducible first|exact HK.out|apply Kept.alloc|apply Kept.drewN|apply Kept.drew)|exact HK.out)));(case side4=>exact HC1.out);rintro e w' ⟨rfl,⟨nd,rfl⟩⟩;refine ⟨_,rfl,?_⟩))
  go_ret2
  exact ⟨_,_,by first|rfl|(simp [errW_none,errW_some] <;> rfl)|(simp [*,errW_none,errW_some] <;> rfl),by first|exact Kd.R_nil _ _ _ _ _|exact Kd.N_nil _ _ _ _ _|exact Kd.V_nil _ _ _ _ _|exact Kd.Q_nil _ _ _ _ _|exact Kd.S_nil _ _ _ _ _,by (with_reducible repeat (first|apply Kd.R_alloc|apply Kd.R_drewN|apply Kd.R_drew));exact Kd.R_mono HO0.out (fun _ hk=>⟨hk,(by simp [Value.ownBlock])⟩),by repeat (first|(with_reducible first|exact HB.out|apply below_alloc|apply pw_below_drewN|apply below_drew1)|exact HB.out),by repeat (first|(with_reducible first|exact HK.out|apply Kept.alloc|apply Kept.drewN|apply Kept.drew)|exact HK.out)⟩
 ·rw [if_neg c4] at H
  have c4b0:decide (t170<0)=false:=decide_eq_false c4
  clear c4
  by_cases c6:(l1.length:Int)=1
  ·rw [if_pos c6] at H
   have c6b0:((l1.length:Int) == 1)=true:=beq_iff_eq.mpr c6
   have c6b1:((l1.length:Int) != 1)=false:=bne_eq_false_iff_eq.mpr c6
   clear c6
   by_cases c7:0<(l1.length:Int)
   ·rw [if_pos c7] at H
    have c7b0:decide (0<(l1.length:Int))=true:=decide_eq_true c7
    have c7b1:decide (0<l1.length)=true:=decide_eq_true (by omega)
    clear c7
    replace H:=Option.bind_eq_some_iff.mp H
    obtain ⟨⟨t172,t173⟩,A80,H⟩:=H
    replace H:((natural_limbs_trim.f k (([t173]:List Int))).bind fun t179=>(some (t172,t179)))=some (r1,r2):=H
    have A8:=Aside0.mk A80
    clear A80
    obtain ⟨y176,hy176⟩:∃ y_:List Int,y_=(([t173]:List Int)):=⟨_,rfl⟩
    replace H:((natural_limbs_trim.f k y176).bind fun t179=>(some (t172,t179)))=some (r1,r2):=by first|(rw [hy176];with_reducible exact H)|(have H2_:=(Option.bind_some _ _).symm.trans H;rw [hy176];with_reducible exact H2_)|(have H2_:=(Option.bind_some _ _).symm.trans H;with_reducible exact H2_)|with_reducible exact H|(rw [hy176];exact H)|exact H
    have Ny176:=Aside0.mk hy176
    clear hy176
    replace H:=Option.bind_eq_some_iff.mp H
    obtain ⟨t179,A90,H⟩:=H
    replace H:(some (t172,t179))=some (r1,r2):=H
    have A9:=Aside0.mk A90
    clear A90
    simp only [Option.some.injEq,Prod.mk.injEq] at H
    obtain ⟨rfl,rfl⟩:=H
    obtain ⟨Ao10,co10,eo10⟩:=Kd.R_slice HO0.out
    subst eo10
    go_enter Tryd.func43,Tryd.ntmps43
    go_wp2_with (first|((with_reducible refine gate_callee (f:=62) rfl ?_);refine goesL_ (some 16) rfl rfl Tryd.func62 (by kernel_rfl) rfl #[.slice Ao10 l0.length co10,.slice A1 l1.length c1] rfl (by (try simp only [List.map_toArray,List.map_cons,List.map_nil]);first|done|rfl|(simp only [List.length_drop,List.length_take];rfl)) ?_;(with_reducible refine (natural_compare.calls k _ _ l0 _ _ l1 t170 _ ?side1 ?side2 ?side3 ?side4 A3.out).mono ?_);(case side1=>repeat (first|exact (Kd.R_reads' HO0.out).2.2|(with_reducible refine Kd.C_alloc ?_ _)|(with_reducible refine Kd.C_drewN ?_ _)|(with_reducible refine Kd.C_drew ?_)));(case side2=>exact (Kd.R_reads' HO0.out).2.1);(case side3=>exact Kd.C_kept_now HR1.out (by repeat (first|(with_reducible first|exact HK.out|apply Kept.alloc|apply Kept.drewN|apply Kept.drew)|exact HK.out)));(case side4=>exact HC1.out);rintro e w' ⟨rfl,⟨nd,rfl⟩⟩;refine ⟨_,rfl,?_⟩;have p171:0≤(0:Int):=(by omega);have q171:0<(l1.length:Int):=of_decide_eq_true (by first|(with_reducible assumption)|assumption);obtain ⟨ad171,e171,hx171_0⟩:=Kd.at_int (Kd.C_kept_now HR1.out HK.out) 0 p171 q171;cases e171;have qi171:(0<l1.length)=True:=eq_true (by omega);(try rw [show ((0:Int)).toNat=0 from rfl] at hx171_0);(try rw [Addr.add_zero'] at hx171_0);replace p171:=eq_true p171;replace q171:=eq_true q171)|((with_reducible refine gate_callee (f:=56) rfl ?_);refine goesL_ (some 27) rfl rfl Tryd.func56 (by kernel_rfl) rfl #[.slice Ao10 l0.length co10,.int .u32 (rd l1 0)] rfl (by (try simp only [List.map_toArray,List.map_cons,List.map_nil]);first|done|rfl|(simp only [List.length_drop,List.length_take];rfl)) ?_;(with_reducible refine (natural_divideSmall.calls k _ _ l0 (rd l1 0) t172 t173 _ ?side1 ?side2 A8.out).mono ?_);(case side1=>repeat (first|exact (Kd.R_reads' HO0.out).2.2|(with_reducible refine Kd.C_alloc ?_ _)|(with_reducible refine Kd.C_drewN ?_ _)|(with_reducible refine Kd.C_drew ?_)));(case side2=>exact (Kd.R_reads' HO0.out).2.1);rintro e w11 ⟨v174,rfl,ho0,hb⟩;refine ⟨_,rfl,?_⟩;have n0_:=Aside0.mk (Kd.R_elder' (by (with_reducible repeat (first|apply Kd.R_alloc|apply Kd.R_drewN|apply Kd.R_drew));exact HO0.out) (Kd.R_base ho0) hb);have n1_:=Aside0.mk (Kd.R_lower (Kd.R_new' (Kd.R_newM (M:=fun k_=>(P0_ k_∨w.heap.size≤k_)) ho0 (by first|exact HK.out.1|exact (show Kept w _ (fun k_=>P0_ k_) from by repeat (first|(with_reducible first|exact HK.out|apply Kept.alloc|apply Kept.drewN|apply Kept.drew)|exact HK.out)).1) (fun k_ h_=>.inr h_)) (Kd.R_lt (by (with_reducible repeat (first|apply Kd.R_alloc|apply Kd.R_drewN|apply Kd.R_drew));exact HO0.out))) (below_size (by repeat (first|(with_reducible first|exact HB.out|apply below_alloc|apply pw_below_drewN|apply below_drew1)|exact HB.out))));have n2_:=Aside0.mk (Kept.below (S:=(fun k_=>P0_ k_)) (by repeat (first|(with_reducible first|exact HK.out|apply Kept.alloc|apply Kept.drewN|apply Kept.drew)|exact HK.out)) hb);have n3_:=Aside0.mk (below_step (by repeat (first|(with_reducible first|exact HB.out|apply below_alloc|apply pw_below_drewN|apply below_drew1)|exact HB.out)) hb);clear HO0;clear HK;clear HB;have HO0:=n0_;have HO175:=n1_;have HK:=n2_;have HB:=n3_;clear n0_ n1_ n2_ n3_;(try clear hb);(try clear hb2);(try clear hk);(try clear hi);(try clear ho0))|((with_reducible refine gate_dst (N:=32) rfl ?_);refine Kd.R_lit (Kd.int .u32) _ 60 ?hg (N:=32) ?hd (xs:=([t173]:List Int)) (inner:=[.int .u32 t173]) (ok:=fun _=>True) (okp:=fun _=>True) ?hr ?hp (fun _ hk=>hk) trivial (Below.refl _ _) (Nat.le_refl _) (by simp) ?_;(case hd=>rfl);(case hg=>rfl);(case hr=>first|(go_simp;done)|(go_simp;rfl));(case hp=>exact (Reps.one (show Kd.M (Kd.int .u32) _ _ _ t173 [.int .u32 t173] from rfl) (Reps.none _ _)));intro v177 w12 ho13 hb hg_ hnew_;clear hg_ hnew_;(first|rw [← Ny176.out] at ho13|(simp only [Int.reduceToNat] at ho13;rw [← Ny176.out] at ho13));have n0_:=Aside0.mk (Kd.R_elder' (by (with_reducible repeat (first|apply Kd.R_alloc|apply Kd.R_drewN|apply Kd.R_drew));exact HO0.out) (Kd.R_base ho13) hb);have n1_:=Aside0.mk (Kd.R_elder' (by (with_reducible repeat (first|apply Kd.R_alloc|apply Kd.R_drewN|apply Kd.R_drew));exact HO175.out) (Kd.R_base ho13) hb);have n2_:=Aside0.mk (Kd.R_lower (Kd.R_new' (Kd.R_new' (Kd.R_newM (M:=fun k_=>(P0_ k_∨w.heap.size≤k_)) ho13 (by first|exact HK.out.1|exact (show Kept w _ (fun k_=>P0_ k_) from by repeat (first|(with_reducible first|exact HK.out|apply Kept.alloc|apply Kept.drewN|apply Kept.drew)|exact HK.out)).1) (fun k_ h_=>.inr h_)) (Kd.R_lt (by (with_reducible repeat (first|apply Kd.R_alloc|apply Kd.R_drewN|apply Kd.R_drew));exact HO0.out))) (Kd.R_lt (by (with_reducible repeat (first|apply Kd.R_alloc|apply Kd.R_drewN|apply Kd.R_drew));exact HO175.out))) (below_size (by repeat (first|(with_reducible first|exact HB.out|apply below_alloc|apply pw_below_drewN|apply below_drew1)|exact HB.out))));have n3_:=Aside0.mk (Kept.below (S:=(fun k_=>P0_ k_)) (by repeat (first|(with_reducible first|exact HK.out|apply Kept.alloc|apply Kept.drewN|apply Kept.drew)|exact HK.out)) hb);have n4_:=Aside0.mk (below_step (by repeat (first|(with_reducible first|exact HB.out|apply below_alloc|apply pw_below_drewN|apply below_drew1)|exact HB.out)) hb);clear HO0;clear HO175;clear HK;clear HB;have HO0:=n0_;have HO175:=n1_;have HO178:=n2_;have HK:=n3_;have HB:=n4_;clear n0_ n1_ n2_ n3_ n4_;clear hb ho13;obtain ⟨Ao14,co14,eo14⟩:=Kd.R_slice HO178.out;subst eo14)|((with_reducible refine gate_callee (f:=53) rfl ?_);refine goesL_ (some 33) rfl rfl Tryd.func53 (by kernel_rfl) rfl #[.slice Ao14 y176.length co14] rfl (by (try simp only [List.map_toArray,List.map_cons,List.map_nil]);first|done|rfl|(simp only [List.length_drop,List.length_take];rfl)) ?_;(with_reducible refine (natural_limbs_trim.calls k (fun k_=>some k_=(.slice Ao14 y176.length co14:Value).ownBlock) (.slice Ao14 y176.length co14) y176 t179 w0 _ ?side1 ?side2 A9.out).mono ?_);(case side1=>repeat (first|(with_reducible first|exact HB.out|apply below_alloc|apply pw_below_drewN|apply below_drew1)|exact HB.out));(case side2=>exact Kd.R_tight rfl HO178.out);rintro e w15 ⟨v180,rfl,ho0,hb,hkp⟩;refine ⟨_,rfl,?_⟩;have n0_:=Aside0.mk (Kd.R_mono (ok':=fun k_=>(P0_ k_∨w.heap.size≤k_)∧some k_≠(v174:Value).ownBlock∧some k_≠(v180:Value).ownBlock) (Kd.R_keptB (HO0.out) hkp (fun k_ hk_ hs_=>(hk_.2) hs_)) (fun k_ hk_=>⟨hk_.1.1.1,hk_.1.1.2,fun e_=>Or.elim (ho0.1 k_ e_.symm) (fun hs_=>hk_.2.1 hs_) (fun hn_=>Nat.not_le.2 hk_.2.2 hn_)⟩));have n1_:=Aside0.mk (Kd.R_mono (ok':=fun k_=>(P0_ k_∨w.heap.size≤k_)∧some k_≠(.slice Ao10 l0.length co10:Value).ownBlock∧some k_≠(v180:Value).ownBlock) (Kd.R_keptB (HO175.out) hkp (fun k_ hk_ hs_=>(hk_.2) hs_)) (fun k_ hk_=>⟨hk_.1.1.1.1,hk_.1.1.2,fun e_=>Or.elim (ho0.1 k_ e_.symm) (fun hs_=>hk_.2.1 hs_) (fun hn_=>Nat.not_le.2 hk_.2.2 hn_)⟩));have n2_:=Aside0.mk (Kd.R_mono (ok':=fun k_=>(P0_ k_∨w.heap.size≤k_)∧some k_≠(.slice Ao10 l0.length co10:Value).ownBlock∧some k_≠(v174:Value).ownBlock) ho0 (fun k_ hk_=>⟨Or.elim hk_ (fun hs_=>(HO178.out.1 k_ (hs_).symm).1.1.1) (fun hn_=>(.inr (Nat.le_trans (by first|exact HK.out.1|exact (show Kept w _ (fun k_=>P0_ k_) from by repeat (first|(with_reducible first|exact HK.out|apply Kept.alloc|apply Kept.drewN|apply Kept.drew)|exact HK.out)).1) hn_))),Or.elim hk_ (fun hs_=>fun e_=>(((HO0.out).1 k_ e_.symm).2) hs_) (fun hn_=>(Kd.fresh' (Kd.R_lt (by (with_reducible repeat (first|apply Kd.R_alloc|apply Kd.R_drewN|apply Kd.R_drew));exact HO0.out)) k_ hn_)),Or.elim hk_ (fun hs_=>fun e_=>(((HO175.out).1 k_ e_.symm).2) hs_) (fun hn_=>(Kd.fresh' (Kd.R_lt (by (with_reducible repeat (first|apply Kd.R_alloc|apply Kd.R_drewN|apply Kd.R_drew));exact HO175.out)) k_ hn_))⟩));have n3_:=Aside0.mk (Kept.then_ (S:=(fun k_=>P0_ k_)) (by repeat (first|(with_reducible first|exact HK.out|apply Kept.alloc|apply Kept.drewN|apply Kept.drew)|exact HK.out)) hkp (fun k_ hs_=>(fun e_=>(HO178.out.1 k_ e_.symm).1.1.1) hs_));have n4_:=Aside0.mk (hb);clear HO0;clear HO175;clear HK;clear HB;clear HO178;have HO0:=n0_;have HO175:=n1_;have HO181:=n2_;have HK:=n3_;have HB:=n4_;clear n0_ n1_ n2_ n3_ n4_;(try clear hb);(try clear hkp);(try clear ho0)))
    go_ret2
    exact ⟨_,_,by first|rfl|(simp [errW_none,errW_some] <;> rfl)|(simp [*,errW_none,errW_some] <;> rfl),by (with_reducible repeat (first|apply Kd.R_alloc|apply Kd.R_drewN|apply Kd.R_drew));exact Kd.R_mono HO175.out (fun _ hk=>⟨hk.1,hk.2.2⟩),by (with_reducible repeat (first|apply Kd.R_alloc|apply Kd.R_drewN|apply Kd.R_drew));exact Kd.R_mono HO181.out (fun _ hk=>⟨hk.1,hk.2.2⟩),by repeat (first|(with_reducible first|exact HB.out|apply below_alloc|apply pw_below_drewN|apply below_drew1)|exact HB.out),by repeat (first|(with_reducible first|exact HK.out|apply Kept.alloc|apply Kept.drewN|apply Kept.drew)|exact HK.out)⟩
   ·rw [if_neg c7] at H
    exact absurd H (by simp)
  ·rw [if_neg c6] at H
   have c6b0:((l1.length:Int) == 1)=false:=beq_eq_false_iff_ne.mpr c6
   have c6b1:((l1.length:Int) != 1)=true:=bne_iff_ne.mpr c6
   obtain ⟨ji16,hji16⟩:∃ j_:Int,(wrap64 ((l1.length:Int)-1))=j_:=⟨_,rfl⟩
   replace H:(if 0≤(ji16) then (if (ji16)<(l1.length:Int) then ((bits_LeadingZeros32.f (rd l1 (ji16))).bind fun t183=>((natural_shift.f k l1 (IntKind.u64.wrap (t183)) (l1.length:Int)).bind fun t184=>((natural_shift.f k l0 (IntKind.u64.wrap (t183)) (wrap64 ((l0.length:Int)+1))).bind fun t187=>(if 0≤(wrap64 ((wrap64 ((l0.length:Int)-(l1.length:Int)))+1)) then (if (wrap64 ((wrap64 ((l0.length:Int)-(l1.length:Int)))+1):Int).toNat≤70368744177664 then ((some (List.replicate (wrap64 ((wrap64 ((l0.length:Int)-(l1.length:Int)))+1):Int).toNat 0:List Int)).bind fun y190=>(natural_divide.l0 k (l1.length:Int) (IntKind.u64.wrap (t183)) t184 t187 y190 (wrap64 ((y190.length:Int)-1)))) else (none)) else (none))))) else (none)) else (none))=some (r1,r2):=by first|(rw [hji16] at H;exact H)|(simp only [hji16] at H ⊢;exact H)
   (try rw [hji16] at A3)
   have hji16w:(IntKind.i64.wrap ((l1.length:Int)-1))=ji16:=(i64_w _).trans hji16
   by_cases c17:0≤(ji16)
   ·rw [if_pos c17] at H
    have c17b0:decide (0≤(ji16))=true:=decide_eq_true c17
    clear c17
    by_cases c18:(ji16)<(l1.length:Int)
    ·rw [if_pos c18] at H
     have c18b0:decide ((ji16)<(l1.length:Int))=true:=decide_eq_true c18
     clear c18
     replace H:=Option.bind_eq_some_iff.mp H
     obtain ⟨t183,A190,H⟩:=H
     replace H:((natural_shift.f k l1 (IntKind.u64.wrap (t183)) (l1.length:Int)).bind fun t184=>((natural_shift.f k l0 (IntKind.u64.wrap (t183)) (wrap64 ((l0.length:Int)+1))).bind fun t187=>(if 0≤(wrap64 ((wrap64 ((l0.length:Int)-(l1.length:Int)))+1)) then (if (wrap64 ((wrap64 ((l0.length:Int)-(l1.length:Int)))+1):Int).toNat≤70368744177664 then ((some (List.replicate (wrap64 ((wrap64 ((l0.length:Int)-(l1.length:Int)))+1):Int).toNat 0:List Int)).bind fun y190=>(natural_divide.l0 k (l1.length:Int) (IntKind.u64.wrap (t183)) t184 t187 y190 (wrap64 ((y190.length:Int)-1)))) else (none)) else (none))))=some (r1,r2):=H
     have A19:=Aside0.mk A190
     clear A190
     replace H:=Option.bind_eq_some_iff.mp H
     obtain ⟨t184,A200,H⟩:=H
     replace H:((natural_shift.f k l0 (IntKind.u64.wrap (t183)) (wrap64 ((l0.length:Int)+1))).bind fun t187=>(if 0≤(wrap64 ((wrap64 ((l0.length:Int)-(l1.length:Int)))+1)) then (if (wrap64 ((wrap64 ((l0.length:Int)-(l1.length:Int)))+1):Int).toNat≤70368744177664 then ((some (List.replicate (wrap64 ((wrap64 ((l0.length:Int)-(l1.length:Int)))+1):Int).toNat 0:List Int)).bind fun y190=>(natural_divide.l0 k (l1.length:Int) (IntKind.u64.wrap (t183)) t184 t187 y190 (wrap64 ((y190.length:Int)-1)))) else (none)) else (none)))=some (r1,r2):=H
     have A20:=Aside0.mk A200
     clear A200
     replace H:=Option.bind_eq_some_iff.mp H
     obtain ⟨t187,A210,H⟩:=H
     replace H:(if 0≤(wrap64 ((wrap64 ((l0.length:Int)-(l1.length:Int)))+1)) then (if (wrap64 ((wrap64 ((l0.length:Int)-(l1.length:Int)))+1):Int).toNat≤70368744177664 then ((some (List.replicate (wrap64 ((wrap64 ((l0.length:Int)-(l1.length:Int)))+1):Int).toNat 0:List Int)).bind fun y190=>(natural_divide.l0 k (l1.length:Int) (IntKind.u64.wrap (t183)) t184 t187 y190 (wrap64 ((y190.length:Int)-1)))) else (none)) else (none))=some (r1,r2):=H
     have A21:=Aside0.mk A210
     clear A210
     obtain ⟨ji22,hji22⟩:∃ j_:Int,(wrap64 ((wrap64 ((l0.length:Int)-(l1.length:Int)))+1))=j_:=⟨_,rfl⟩
     replace H:(if 0≤(ji22) then (if (ji22:Int).toNat≤70368744177664 then ((some (List.replicate (ji22:Int).toNat 0:List Int)).bind fun y190=>(natural_divide.l0 k (l1.length:Int) (IntKind.u64.wrap (t183)) t184 t187 y190 (wrap64 ((y190.length:Int)-1)))) else (none)) else (none))=some (r1,r2):=by first|(rw [hji22] at H;exact H)|(simp only [hji22] at H ⊢;exact H)
     (try rw [hji22] at A3)
     (try rw [hji22] at A19)
     (try rw [hji22] at A20)
     (try rw [hji22] at A21)
     have hji22w:(IntKind.i64.wrap ((wrap64 ((l0.length:Int)-(l1.length:Int)))+1))=ji22:=(i64_w _).trans hji22
     by_cases c23:0≤(ji22)
     ·rw [if_pos c23] at H
      have c23b0:=eq_true c23
      have c23b1:decide (0≤(ji22))=true:=decide_eq_true c23
      clear c23
      by_cases c24:(ji22:Int).toNat≤70368744177664
      ·rw [if_pos c24] at H
       have c24b0:=eq_true c24
       have c24b1:decide ((ji22:Int).toNat≤70368744177664)=true:=decide_eq_true c24
       clear c24
       obtain ⟨y190,hy190⟩:∃ y_:List Int,y_=(List.replicate (ji22:Int).toNat 0):=⟨_,rfl⟩
       replace H:(natural_divide.l0 k (l1.length:Int) (IntKind.u64.wrap (t183)) t184 t187 y190 (wrap64 ((y190.length:Int)-1)))=some (r1,r2):=by first|(rw [hy190];with_reducible exact H)|(have H2_:=(Option.bind_some _ _).symm.trans H;rw [hy190];with_reducible exact H2_)|(have H2_:=(Option.bind_some _ _).symm.trans H;with_reducible exact H2_)|with_reducible exact H|(rw [hy190];exact H)|exact H
       have Ny190:=Aside0.mk hy190
       clear hy190
       have H':=Aside0.mk H
       clear H
       obtain ⟨Ao25,co25,eo25⟩:=Kd.R_slice HO0.out
       subst eo25
       have HL_:=Aside0.mk (show 0<l1.length by have z1_:0≤ji16:=of_decide_eq_true (by assumption);have z2_:ji16<(l1.length:Int):=of_decide_eq_true (by assumption);omega)
       go_enter Tryd.func43,Tryd.ntmps43
       go_wp2_with (first|((with_reducible refine gate_callee (f:=62) rfl ?_);refine goesL_ (some 16) rfl rfl Tryd.func62 (by kernel_rfl) rfl #[.slice Ao25 l0.length co25,.slice A1 l1.length c1] rfl (by (try simp only [List.map_toArray,List.map_cons,List.map_nil]);first|done|rfl|(simp only [List.length_drop,List.length_take];rfl)) ?_;(with_reducible refine (natural_compare.calls k _ _ l0 _ _ l1 t170 _ ?side1 ?side2 ?side3 ?side4 A3.out).mono ?_);(case side1=>repeat (first|exact (Kd.R_reads' HO0.out).2.2|(with_reducible refine Kd.C_alloc ?_ _)|(with_reducible refine Kd.C_drewN ?_ _)|(with_reducible refine Kd.C_drew ?_)));(case side2=>exact (Kd.R_reads' HO0.out).2.1);(case side3=>exact Kd.C_kept_now HR1.out (by repeat (first|(with_reducible first|exact HK.out|apply Kept.alloc|apply Kept.drewN|apply Kept.drew)|exact HK.out)));(case side4=>exact HC1.out);rintro e w' ⟨rfl,⟨nd,rfl⟩⟩;refine ⟨_,rfl,?_⟩;have p182:0≤((ji16):Int):=of_decide_eq_true (by first|(with_reducible assumption)|assumption);have q182:(ji16)<(l1.length:Int):=of_decide_eq_true (by first|(with_reducible assumption)|assumption);obtain ⟨ad182,e182,hx182_0⟩:=Kd.at_int (Kd.C_kept_now HR1.out HK.out) (ji16) p182 q182;cases e182;replace p182:=eq_true p182;replace q182:=eq_true q182)|((with_reducible refine gate_callee (f:=70) rfl ?_);refine goesL_ (some 40) rfl rfl Tryd.func70 (by kernel_rfl) rfl #[.int .u32 (rd l1 (ji16))] rfl (by (try simp only [List.map_toArray,List.map_cons,List.map_nil]);first|done|(simp only [hji16];rfl)|rfl|(simp only [List.length_drop,List.length_take];rfl)) ?_;(with_reducible refine (bits_LeadingZeros32.calls (rd l1 (ji16)) t183 _ A19.out).mono ?_);rintro e w' ⟨rfl,⟨nd,rfl⟩⟩;refine ⟨_,rfl,?_⟩)|((with_reducible refine gate_callee (f:=71) rfl ?_);refine goesL_ (some 47) rfl rfl Tryd.func71 (by kernel_rfl) rfl #[.slice (some ad182) l1.length c1,.int .u64 (IntKind.u64.wrap (t183)),.int .i64 (l1.length:Int)] rfl (by (try simp only [List.map_toArray,List.map_cons,List.map_nil]);first|done|rfl|(simp only [List.length_drop,List.length_take];rfl)) ?_;(with_reducible refine (natural_shift.calls k _ _ l1 (IntKind.u64.wrap (t183)) (l1.length:Int) t184 _ ?side1 ?side2 A20.out).mono ?_);(case side1=>exact Kd.C_kept_now HR1.out (by repeat (first|(with_reducible first|exact HK.out|apply Kept.alloc|apply Kept.drewN|apply Kept.drew)|exact HK.out)));(case side2=>exact HC1.out);rintro e w26 ⟨v185,rfl,ho0,hb⟩;refine ⟨_,rfl,?_⟩;have n0_:=Aside0.mk (Kd.R_elder' (by (with_reducible repeat (first|apply Kd.R_alloc|apply Kd.R_drewN|apply Kd.R_drew));exact HO0.out) (Kd.R_base ho0) hb);have n1_:=Aside0.mk (Kd.R_lower (Kd.R_new' (Kd.R_newM (M:=fun k_=>(P0_ k_∨w.heap.size≤k_)) ho0 (by first|exact HK.out.1|exact (show Kept w _ (fun k_=>P0_ k_) from by repeat (first|(with_reducible first|exact HK.out|apply Kept.alloc|apply Kept.drewN|apply Kept.drew)|exact HK.out)).1) (fun k_ h_=>.inr h_)) (Kd.R_lt (by (with_reducible repeat (first|apply Kd.R_alloc|apply Kd.R_drewN|apply Kd.R_drew));exact HO0.out))) (below_size (by repeat (first|(with_reducible first|exact HB.out|apply below_alloc|apply pw_below_drewN|apply below_drew1)|exact HB.out))));have n2_:=Aside0.mk (Kept.below (S:=(fun k_=>P0_ k_)) (by repeat (first|(with_reducible first|exact HK.out|apply Kept.alloc|apply Kept.drewN|apply Kept.drew)|exact HK.out)) hb);have n3_:=Aside0.mk (below_step (by repeat (first|(with_reducible first|exact HB.out|apply below_alloc|apply pw_below_drewN|apply below_drew1)|exact HB.out)) hb);clear HO0;clear HK;clear HB;have HO0:=n0_;have HO186:=n1_;have HK:=n2_;have HB:=n3_;clear n0_ n1_ n2_ n3_;(try clear hb);(try clear hb2);(try clear hk);(try clear hi);(try clear ho0))|((with_reducible refine gate_callee (f:=71) rfl ?_);refine goesL_ (some 53) rfl rfl Tryd.func71 (by kernel_rfl) rfl #[.slice Ao25 l0.length co25,.int .u64 (IntKind.u64.wrap (t183)),.int .i64 (wrap64 ((l0.length:Int)+1))] rfl (by (try simp only [List.map_toArray,List.map_cons,List.map_nil]);first|done|rfl|(simp only [List.length_drop,List.length_take];rfl)) ?_;(with_reducible refine (natural_shift.calls k _ _ l0 (IntKind.u64.wrap (t183)) (wrap64 ((l0.length:Int)+1)) t187 _ ?side1 ?side2 A21.out).mono ?_);(case side1=>repeat (first|exact (Kd.R_reads' HO0.out).2.2|(with_reducible refine Kd.C_alloc ?_ _)|(with_reducible refine Kd.C_drewN ?_ _)|(with_reducible refine Kd.C_drew ?_)));(case side2=>exact (Kd.R_reads' HO0.out).2.1);rintro e w27 ⟨v188,rfl,ho0,hb⟩;refine ⟨_,rfl,?_⟩;have n0_:=Aside0.mk (Kd.R_elder' (by (with_reducible repeat (first|apply Kd.R_alloc|apply Kd.R_drewN|apply Kd.R_drew));exact HO0.out) (Kd.R_base ho0) hb);have n1_:=Aside0.mk (Kd.R_elder' (by (with_reducible repeat (first|apply Kd.R_alloc|apply Kd.R_drewN|apply Kd.R_drew));exact HO186.out) (Kd.R_base ho0) hb);have n2_:=Aside0.mk (Kd.R_lower (Kd.R_new' (Kd.R_new' (Kd.R_newM (M:=fun k_=>(P0_ k_∨w.heap.size≤k_)) ho0 (by first|exact HK.out.1|exact (show Kept w _ (fun k_=>P0_ k_) from by repeat (first|(with_reducible first|exact HK.out|apply Kept.alloc|apply Kept.drewN|apply Kept.drew)|exact HK.out)).1) (fun k_ h_=>.inr h_)) (Kd.R_lt (by (with_reducible repeat (first|apply Kd.R_alloc|apply Kd.R_drewN|apply Kd.R_drew));exact HO0.out))) (Kd.R_lt (by (with_reducible repeat (first|apply Kd.R_alloc|apply Kd.R_drewN|apply Kd.R_drew));exact HO186.out))) (below_size (by repeat (first|(with_reducible first|exact HB.out|apply below_alloc|apply pw_below_drewN|apply below_drew1)|exact HB.out))));have n3_:=Aside0.mk (Kept.below (S:=(fun k_=>P0_ k_)) (by repeat (first|(with_reducible first|exact HK.out|apply Kept.alloc|apply Kept.drewN|apply Kept.drew)|exact HK.out)) hb);have n4_:=Aside0.mk (below_step (by repeat (first|(with_reducible first|exact HB.out|apply below_alloc|apply pw_below_drewN|apply below_drew1)|exact HB.out)) hb);clear HO0;clear HO186;clear HK;clear HB;have HO0:=n0_;have HO186:=n1_;have HO189:=n2_;have HK:=n3_;have HB:=n4_;clear n0_ n1_ n2_ n3_ n4_;(try clear hb);(try clear hb2);(try clear hk);(try clear hi);(try clear ho0))|((with_reducible refine gate_dst (N:=59) rfl ?_);refine Kd.R_make (Kd.int .u32) _ 60 rfl (N:=59) rfl 50 _ _ rfl ji22 rfl rfl Tryd.underlying50 (.int .u32 0) 4 info60 rfl (by decide) (by omega) 0 (ok:=fun _=>True) (okp:=fun _=>True) rfl (fun _ hk=>hk) trivial (of_decide_eq_true (by first|(with_reducible assumption)|assumption)) (Nat.le_trans (Nat.mul_le_mul_right _ (of_decide_eq_true (by first|(with_reducible assumption)|assumption):ji22.toNat≤70368744177664)) (by omega)) (Below.refl _ _) (Nat.le_refl _) ?_;intro v191 w28 ho29 hb hg_ hnew_;clear hg_ hnew_;(first|rw [← Ny190.out] at ho29|(simp only [Int.reduceToNat] at ho29;rw [← Ny190.out] at ho29));have n0_:=Aside0.mk (Kd.R_elder' (by (with_reducible repeat (first|apply Kd.R_alloc|apply Kd.R_drewN|apply Kd.R_drew));exact HO0.out) (Kd.R_base ho29) hb);have n1_:=Aside0.mk (Kd.R_elder' (by (with_reducible repeat (first|apply Kd.R_alloc|apply Kd.R_drewN|apply Kd.R_drew));exact HO186.out) (Kd.R_base ho29) hb);have n2_:=Aside0.mk (Kd.R_elder' (by (with_reducible repeat (first|apply Kd.R_alloc|apply Kd.R_drewN|apply Kd.R_drew));exact HO189.out) (Kd.R_base ho29) hb);have n3_:=Aside0.mk (Kd.R_lower (Kd.R_new' (Kd.R_new' (Kd.R_new' (Kd.R_newM (M:=fun k_=>(P0_ k_∨w.heap.size≤k_)) ho29 (by first|exact HK.out.1|exact (show Kept w _ (fun k_=>P0_ k_) from by repeat (first|(with_reducible first|exact HK.out|apply Kept.alloc|apply Kept.drewN|apply Kept.drew)|exact HK.out)).1) (fun k_ h_=>.inr h_)) (Kd.R_lt (by (with_reducible repeat (first|apply Kd.R_alloc|apply Kd.R_drewN|apply Kd.R_drew));exact HO0.out))) (Kd.R_lt (by (with_reducible repeat (first|apply Kd.R_alloc|apply Kd.R_drewN|apply Kd.R_drew));exact HO186.out))) (Kd.R_lt (by (with_reducible repeat (first|apply Kd.R_alloc|apply Kd.R_drewN|apply Kd.R_drew));exact HO189.out))) (below_size (by repeat (first|(with_reducible first|exact HB.out|apply below_alloc|apply pw_below_drewN|apply below_drew1)|exact HB.out))));have n4_:=Aside0.mk (Kept.below (S:=(fun k_=>P0_ k_)) (by repeat (first|(with_reducible first|exact HK.out|apply Kept.alloc|apply Kept.drewN|apply Kept.drew)|exact HK.out)) hb);have n5_:=Aside0.mk (below_step (by repeat (first|(with_reducible first|exact HB.out|apply below_alloc|apply pw_below_drewN|apply below_drew1)|exact HB.out)) hb);clear HO0;clear HO186;clear HO189;clear HK;clear HB;have HO0:=n0_;have HO186:=n1_;have HO189:=n2_;have HO192:=n3_;have HK:=n4_;have HB:=n5_;clear n0_ n1_ n2_ n3_ n4_ n5_;clear hb ho29;obtain ⟨Ao30,co30,eo30⟩:=Kd.R_slice HO192.out;subst eo30))
       go_loopg [13] k (fun kq v13 w'=>∃ (x10_1:List Int) (x11_1:List Int) (x12_1:List Int) (x13_1:Int),v13 = .int .i64 x13_1∧Aside0 (natural_divide.l0 kq (l1.length:Int) (IntKind.u64.wrap (t183)) x10_1 x11_1 x12_1 x13_1=some (r1,r2))∧Aside0 (kq≤k)∧Aside0 (Kd.R (Kd.int .u32) 60 w' w0.heap.size (fun k_=>(P0_ k_∨w.heap.size≤k_)∧some k_≠(v188:Value).ownBlock∧some k_≠((.slice Ao30 y190.length co30):Value).ownBlock) v185 x10_1)∧Aside0 (Kd.R (Kd.int .u32) 60 w' w0.heap.size (fun k_=>(P0_ k_∨w.heap.size≤k_)∧some k_≠(v185:Value).ownBlock∧some k_≠((.slice Ao30 y190.length co30):Value).ownBlock) v188 x11_1)∧Aside0 (Kd.R (Kd.int .u32) 60 w' w0.heap.size (fun k_=>(P0_ k_∨w.heap.size≤k_)∧some k_≠(v185:Value).ownBlock∧some k_≠(v188:Value).ownBlock) (.slice Ao30 y190.length co30) x12_1)∧Aside0 (Kept w w' (fun k_=>P0_ k_))∧Aside0 (Below w0.heap.size w0 w'))
       case atStart=>exact ⟨(t184),(t187),(y190),(wrap64 ((y190.length:Int)-1)),(by first|rfl|(simp;done)|(simp [*];done)),H',⟨Nat.le_refl _⟩,⟨by (with_reducible repeat (first|apply Kd.R_alloc|apply Kd.R_drewN|apply Kd.R_drew));exact Kd.R_mono HO186.out (fun _ hk=>⟨hk.1.1.1.1,⟨hk.1.2,hk.2⟩⟩)⟩,⟨by (with_reducible repeat (first|apply Kd.R_alloc|apply Kd.R_drewN|apply Kd.R_drew));exact Kd.R_mono HO189.out (fun _ hk=>⟨hk.1.1.1.1,⟨hk.1.2,hk.2⟩⟩)⟩,⟨by (with_reducible repeat (first|apply Kd.R_alloc|apply Kd.R_drewN|apply Kd.R_drew));exact Kd.R_mono HO192.out (fun _ hk=>⟨hk.1.1.1.1,⟨hk.1.2,hk.2⟩⟩)⟩,⟨by repeat (first|(with_reducible first|exact HK.out|apply Kept.alloc|apply Kept.drewN|apply Kept.drew)|exact HK.out)⟩,⟨by repeat (first|(with_reducible first|exact HB.out|apply below_alloc|apply pw_below_drewN|apply below_drew1)|exact HB.out)⟩⟩
       case round=>
        clear H'
        try clear c1
        try clear p1
        try clear q1
        try clear hx1
        try clear qi1
        try clear c2
        try clear p2
        try clear c4
        try clear c4b0
        try clear c5
        try clear c6
        try clear c6b0
        try clear c6b1
        try clear p6
        try clear c7
        try clear c7b0
        try clear c7b1
        try clear c17
        try clear c17b0
        try clear p17
        try clear q17
        try clear hx17
        try clear qi17
        try clear c18
        try clear c18b0
        try clear p18
        try clear q18
        try clear hx18
        try clear c23
        try clear c23b0
        try clear c23b1
        try clear c24
        try clear c24b0
        try clear c24b1
        try clear hx171_0
        try clear hx182_0
        try clear p171
        try clear p182
        try clear q171
        try clear q182
        obtain ⟨x10_1,x11_1,x12_1,x13_1,rfl,HA,HK1,HO_10,HO_11,HO_12,HK,HB⟩:=hrel
        have hl12_1:=(Kd.R_reads' HO_12.out).1
        rw [hl12_1] at HO_12
        (try simp only [hl12_1])
        (try simp only [hl12_1] at HO_10)
        (try simp only [hl12_1] at HO_11)
        cases gk with
        | zero=>exact absurd HA.out (by simp [natural_divide.l0])
        | succ k1=>
         have H:=HA.out
         clear HA
         simp only [natural_divide.l0] at H
         by_cases c31:x13_1≥0
         ·rw [if_pos c31] at H
          have c31b0:decide (0≤x13_1)=true:=decide_eq_true c31
          clear c31
          replace H:=Option.bind_eq_some_iff.mp H
          obtain ⟨⟨t193,t194⟩,A320,H⟩:=H
          replace H:(if 0≤x13_1 then (if x13_1<(x12_1.length:Int) then (natural_divide.l0 k1 (l1.length:Int) (IntKind.u64.wrap (t183)) x10_1 t194 (x12_1.set (x13_1:Int).toNat t193) (wrap64 (x13_1-1))) else (none)) else (none))=some (r1,r2):=H
          have A32:=Aside0.mk A320
          clear A320
          by_cases c33:0≤x13_1
          ·rw [if_pos c33] at H
           have c33b0:decide (0≤x13_1)=true:=decide_eq_true c33
           clear c33
           by_cases c34:x13_1<(x12_1.length:Int)
           ·rw [if_pos c34] at H
            have c34b0:decide (x13_1<(x12_1.length:Int))=true:=decide_eq_true c34
            clear c34
            obtain ⟨y195,hy195⟩:∃ y_:List Int,y_=(x12_1.set (x13_1:Int).toNat t193):=⟨_,rfl⟩
            replace H:(natural_divide.l0 k1 (l1.length:Int) (IntKind.u64.wrap (t183)) x10_1 t194 y195 (wrap64 (x13_1-1)))=some (r1,r2):=by first|(rw [hy195];with_reducible exact H)|(have H2_:=(Option.bind_some _ _).symm.trans H;rw [hy195];with_reducible exact H2_)|(have H2_:=(Option.bind_some _ _).symm.trans H;with_reducible exact H2_)|with_reducible exact H|(rw [hy195];exact H)|exact H
            have Ny195:=Aside0.mk hy195
            clear hy195
            have H':=Aside0.mk H
            clear H
            obtain ⟨b0_,b1_,b2_⟩:=natural_stepAt.bound A32.out
            obtain ⟨gu_,co36,eu_,gbu_,glu_,clu_,HGu_⟩:=Kd.R_form HO_11.out (by omega)
            subst eu_
            have mx_:x11_1.length≤9223372036854775807:=(Kd.R_reads' HO_11.out).2.2.2.1
            have cx_:x11_1.length≤co36:=(Kd.R_reads' HO_11.out).2.1
            have n1_:l1.length≤9223372036854775807:=by omega
            obtain ⟨Ao37,co37,eo37⟩:=Kd.R_slice HO_10.out
            subst eo37
            go_wp2_with (first|((with_reducible refine gate_callee (f:=72) rfl ?_);refine goesL_ (some 77) rfl rfl Tryd.func72 (by kernel_rfl) rfl #[.slice (some ⟨gu_,x13_1.toNat,none⟩) ((x13_1+(l1.length:Int)+1).toNat-x13_1.toNat) (co36-x13_1.toNat),.slice Ao37 x10_1.length co37] rfl (by (try simp only [List.map_toArray,List.map_cons,List.map_nil]);first|done|rfl|(simp only [List.length_drop,List.length_take];rfl)) ?_;(rw [show (x13_1+(l1.length:Int)+1).toNat-x13_1.toNat=l1.length+1 from by omega]);(with_reducible refine (natural_stepAt.calls k1 l1.length (fun k_=>some k_=(.slice (some ⟨gu_,0,none⟩) x11_1.length co36:Value).ownBlock) gu_ co36 x11_1 x13_1 _ _ x10_1 t193 t194 w0 _ ?side1 ?side2 ?side3 ?side4 A32.out).mono ?_);(case side1=>repeat (first|(with_reducible first|exact HB.out|apply below_alloc|apply pw_below_drewN|apply below_drew1)|exact HB.out));(case side2=>exact Kd.R_tight rfl HO_11.out);(case side3=>exact Kd.C_kept_own (HO_10.out) (fun k_ hk_ hs_=>(hk_.2.1) hs_));(case side4=>exact (Kd.R_reads' HO_10.out).2.1);rintro e w38 ⟨rfl,hy0,hb,hkp⟩;refine ⟨_,rfl,?_⟩;have n0_:=Aside0.mk (Kd.R_mono (ok':=fun k_=>(P0_ k_∨w.heap.size≤k_)∧some k_≠(.slice (some ⟨gu_,0,none⟩) x11_1.length co36:Value).ownBlock∧some k_≠(.slice Ao30 x12_1.length co30:Value).ownBlock) (Kd.R_keptB (HO_10.out) hkp (fun k_ hk_ hs_=>(hk_.2.1) hs_)) (fun k_ hk_=>⟨hk_.1.1,hk_.1.2.1,hk_.1.2.2⟩));have n1_:=Aside0.mk (Kd.R_reok rfl hy0 (fun k_ e_=>HO_11.out.1 k_ e_));have n2_:=Aside0.mk (Kd.R_mono (ok':=fun k_=>(P0_ k_∨w.heap.size≤k_)∧some k_≠(.slice Ao37 x10_1.length co37:Value).ownBlock∧some k_≠(.slice (some ⟨gu_,0,none⟩) x11_1.length co36:Value).ownBlock) (Kd.R_keptB (HO_12.out) hkp (fun k_ hk_ hs_=>(hk_.2.2) hs_)) (fun k_ hk_=>⟨hk_.1.1,hk_.1.2.1,hk_.1.2.2⟩));have n3_:=Aside0.mk (Kept.then_ (S:=(fun k_=>P0_ k_)) (by repeat (first|(with_reducible first|exact HK.out|apply Kept.alloc|apply Kept.drewN|apply Kept.drew)|exact HK.out)) hkp (fun k_ hs_=>(fun e_=>(HO_11.out.1 k_ e_.symm).1) hs_));have n4_:=Aside0.mk (hb);clear HO_10;clear HO_11;clear HO_12;clear HK;clear HB;have HO_10:=n0_;have HO_11:=n1_;have HO_12:=n2_;have HK:=n3_;have HB:=n4_;clear n0_ n1_ n2_ n3_ n4_;(try clear hb);(try clear hkp);(try clear hy0);have p35:0≤(x13_1:Int):=of_decide_eq_true (by first|(with_reducible assumption)|assumption);have q35:(x13_1:Int)<((x12_1.length:Int):Int):=of_decide_eq_true (by first|(with_reducible assumption)|assumption);obtain ⟨go35,co35,eo35,gb35,gl35,cl35,HG35⟩:=Kd.R_form HO_12.out (by omega);(first|cases eo35|(injection eo35 with ea_ en_ ec_;(first|subst ea_|(injection ea_ with ea_;subst ea_));subst ec_;clear en_));have GB35:=Aside0.mk gb35;have GG35:=Aside0.mk HG35;clear gb35 gl35 HG35;have HMgo35:=Aside0.mk (show (P0_ go35∨w.heap.size≤go35) from (HO_12.out.1 _ rfl).1);obtain ⟨hx35_0,hf35_0⟩:=Kd.R_celln 0 HO_12.out (x13_1:Int) p35 q35;replace p35:=eq_true p35;replace q35:=eq_true q35;obtain ⟨hy39_,hz39_⟩:=Kd.R_celln 0 HO_12.out (x13_1:Int) (of_decide_eq_true (by first|(with_reducible assumption)|assumption)) (of_decide_eq_true (by first|(with_reducible assumption)|assumption));have HP39:=Kd.R_putg HO_12.out (x13_1:Int) t193)|((with_reducible refine gate_store (t:=60) (p:=78) rfl ?_);refine store_event (t:=60) (p:=78) (v:=?vo_w40) (w1:=(w38.setCell ⟨go35,(x13_1:Int).toNat,none⟩ (.int .u32 t193))) ?hg ?ho ?hn ?hr ?_;(case ho=>rfl);(case hg=>rfl);(case hn=>rfl);(case hr=>first|(go_simp;done)|(go_simp;rfl));intro w40 hw;have hg:w38.grownBy w40 (some go35):=(by rw [hw];exact HP39.2);have hp_:Kd.R (Kd.int .u32) 60 w40 w0.heap.size (fun k_=>(P0_ k_∨w.heap.size≤k_)∧some k_≠(.slice Ao37 x10_1.length co37:Value).ownBlock∧some k_≠(.slice (some ⟨gu_,0,none⟩) x11_1.length co36:Value).ownBlock) (.slice (some ⟨go35,0,none⟩) x12_1.length co30) y195:=(by rw [hw,Ny195.out];exact HP39.1);clear HP39;have n0_:=Aside0.mk (Kd.R_after (v:=(.slice (some ⟨go35,0,none⟩) x12_1.length co30)) (v1:=(.slice (some ⟨go35,0,none⟩) x12_1.length co30)) (ok:=(fun k_=>(P0_ k_∨w.heap.size≤k_)∧some k_≠(.slice (some ⟨gu_,0,none⟩) x11_1.length co36:Value).ownBlock)) (by (with_reducible repeat (first|apply Kd.R_alloc|apply Kd.R_drewN|apply Kd.R_drew));exact Kd.R_mono HO_10.out (fun _ hk=>⟨⟨hk.1,hk.2.1⟩,hk.2.2⟩)) hg (.inl rfl));have n1_:=Aside0.mk (Kd.R_after (v:=(.slice (some ⟨go35,0,none⟩) x12_1.length co30)) (v1:=(.slice (some ⟨go35,0,none⟩) x12_1.length co30)) (ok:=(fun k_=>(P0_ k_∨w.heap.size≤k_)∧some k_≠(.slice Ao37 x10_1.length co37:Value).ownBlock)) (by (with_reducible repeat (first|apply Kd.R_alloc|apply Kd.R_drewN|apply Kd.R_drew));exact Kd.R_mono HO_11.out (fun _ hk=>⟨⟨hk.1,hk.2.1⟩,hk.2.2⟩)) hg (.inl rfl));have n2_:=Aside0.mk (hp_);have n3_:=Aside0.mk ((by rw [hw];exact below_set (HB.out) GB35.out:Below w0.heap.size w0 w40));have n4_:=Aside0.mk (Kept.of_grown (S:=(fun k_=>P0_ k_)) hg (by repeat (first|(with_reducible first|exact HK.out|apply Kept.alloc|apply Kept.drewN|apply Kept.drew)|exact HK.out)) (fun k_ e_=>(HO_12.out.1 k_ e_).1));clear HO_10;clear HO_11;clear HO_12;clear HB;clear HK;have HO_10:=n0_;have HO_11:=n1_;have HO_12:=n2_;have HB:=n3_;have HK:=n4_;clear n0_ n1_ n2_ n3_ n4_;clear hg hw hp_))
            (try simp only [← hl12_1])
            go_roundg k1
            case measure=>have:=HK1.out;omega
            case rel=>exact ⟨(x10_1),(t194),(y195),(wrap64 (x13_1-1)),(by first|(rw [show wrap64 (x13_1-1)=x13_1-1 from by unfold wrap64;omega])|rfl|(simp;done)|(simp [*];done)),H',⟨by have:=HK1.out;omega⟩,⟨by (try simp only [hl12_1]);(with_reducible repeat (first|apply Kd.R_alloc|apply Kd.R_drewN|apply Kd.R_drew));exact Kd.R_mono HO_10.out (fun _ hk=>⟨hk.1.1,⟨hk.1.2,hk.2⟩⟩)⟩,⟨by (try simp only [hl12_1]);(with_reducible repeat (first|apply Kd.R_alloc|apply Kd.R_drewN|apply Kd.R_drew));exact Kd.R_mono HO_11.out (fun _ hk=>⟨hk.1.1,⟨hk.1.2,hk.2⟩⟩)⟩,⟨by (try simp only [hl12_1]);(with_reducible repeat (first|apply Kd.R_alloc|apply Kd.R_drewN|apply Kd.R_drew));exact HO_12.out⟩,⟨by repeat (first|(with_reducible first|exact HK.out|apply Kept.alloc|apply Kept.drewN|apply Kept.drew)|exact HK.out)⟩,⟨by repeat (first|(with_reducible first|exact HB.out|apply below_alloc|apply pw_below_drewN|apply below_drew1)|exact HB.out)⟩⟩
           ·rw [if_neg c34] at H
            exact absurd H (by simp)
          ·rw [if_neg c33] at H
           exact absurd H (by simp)
         ·rw [if_neg c31] at H
          have c31b0:decide (0≤x13_1)=false:=decide_eq_false c31
          clear c31
          replace H:=Option.bind_eq_some_iff.mp H
          obtain ⟨t196,A410,H⟩:=H
          replace H:((natural_unshiftAt.f k1 (l1.length:Int) x11_1 (IntKind.u64.wrap (t183))).bind fun t199=>(some (t196,t199)))=some (r1,r2):=H
          have A41:=Aside0.mk A410
          clear A410
          replace H:=Option.bind_eq_some_iff.mp H
          obtain ⟨t199,A420,H⟩:=H
          replace H:(some (t196,t199))=some (r1,r2):=H
          have A42:=Aside0.mk A420
          clear A420
          simp only [Option.some.injEq,Prod.mk.injEq] at H
          obtain ⟨rfl,rfl⟩:=H
          try go_wp2
          have n0_:=Aside0.mk (Kd.R_drew HO_10.out)
          have n1_:=Aside0.mk (Kd.R_drew HO_11.out)
          have n2_:=Aside0.mk (Kd.R_drew HO_12.out)
          have n3_:=Aside0.mk (Kept.drew HK.out)
          have n4_:=Aside0.mk (below_drew1 HB.out)
          clear HO_10
          clear HO_11
          clear HO_12
          clear HK
          clear HB
          have HO_10:=n0_
          have HO_11:=n1_
          have HO_12:=n2_
          have HK:=n3_
          have HB:=n4_
          clear n0_ n1_ n2_ n3_ n4_
          obtain ⟨b0_,b1_⟩:=natural_unshiftAt.bound A42.out
          have n2_:=HL_.out
          obtain ⟨gu_,co45,eu_,gbu_,glu_,clu_,HGu_⟩:=Kd.R_form HO_11.out (by omega)
          subst eu_
          have mx_:x11_1.length≤9223372036854775807:=(Kd.R_reads' HO_11.out).2.2.2.1
          have cx_:x11_1.length≤co45:=(Kd.R_reads' HO_11.out).2.1
          have n1_:l1.length≤co45:=by omega
          refine start_ (n:=9) (S:=fun w'=>True) (ds:=[]) #[false,false,false,false,false,false,false,false,false] (by kernel_rfl) rfl rfl trivial (fun hHeld=>?_);refine with_tabW natural_divide.tab15 natural_divide.bits15 (fun HT_ HW_=>?_)
          generalize wr.drew=w43 at HO_10 HO_11 HO_12 HK HB hHeld ⊢
          refine pure_ (i:=0) (N:=some 79) (v:=?_) (a':=?_) #[true,false,false,false,false,false,false,false,false] rfl rfl (any_of HT_.out (by kernel_rfl)) (fun _ _ _ h=>h) (Or.inl ⟨by rfl,?_⟩) ?_ ?_
          rotate_left
          ·intro w'
           go_simp
           with_reducible rfl
          rotate_left
          ·simp only [Act.put,List.setIfInBounds_toArray,List.set_cons_zero,List.set_cons_succ,i64_w,i32_w]
           rfl
          refine pure_ (i:=2) (N:=some 81) (v:=?_) (a':=?_) #[true,false,true,false,false,false,false,false,false] rfl rfl (any_of HT_.out (by kernel_rfl)) (fun _ _ _ h=>h) (Or.inl ⟨by rfl,?_⟩) ?_ ?_
          rotate_left
          ·intro w'
           go_simp
           with_reducible rfl
          rotate_left
          ·simp only [Act.put,List.setIfInBounds_toArray,List.set_cons_zero,List.set_cons_succ,i64_w,i32_w]
           rfl
          refine pure_ (i:=3) (N:=some 82) (v:=?_) (a':=?_) #[true,false,true,true,false,false,false,false,false] rfl rfl (any_of HT_.out (by kernel_rfl)) (fun _ _ _ h=>h) (Or.inl ⟨by rfl,?_⟩) ?_ ?_
          rotate_left
          ·intro w'
           go_simp
           with_reducible rfl
          rotate_left
          ·simp only [Act.put,List.setIfInBounds_toArray,List.set_cons_zero,List.set_cons_succ,i64_w,i32_w]
           rfl
          refine pure_ (i:=4) (N:=some 83) (v:=?_) (a':=?_) #[true,false,true,true,true,false,false,false,false] rfl rfl (any_of HT_.out (by kernel_rfl)) (fun _ _ _ h=>h) (Or.inl ⟨by rfl,?_⟩) ?_ ?_
          rotate_left
          ·intro w'
           go_simp
           with_reducible rfl
          rotate_left
          ·simp only [Act.put,List.setIfInBounds_toArray,List.set_cons_zero,List.set_cons_succ,i64_w,i32_w]
           rfl
          refine pure_ (i:=5) (N:=some 84) (v:=?_) (a':=?_) #[true,false,true,true,true,true,false,false,false] rfl rfl (any_of HT_.out (by kernel_rfl)) (fun _ _ _ h=>h) (Or.inl ⟨by rfl,?_⟩) ?_ ?_
          rotate_left
          ·intro w'
           go_simp
           with_reducible rfl
          rotate_left
          ·simp only [Act.put,List.setIfInBounds_toArray,List.set_cons_zero,List.set_cons_succ,i64_w,i32_w]
           rfl
          refine one_ (i:=1) (N:=some 80) #[true,true,true,true,true,true,false,false,false] rfl rfl (one_of HT_.out (by kernel_rfl)) (by decide) (fun K hK=>?_)
          refine goes_ Tryd.func53 (by kernel_rfl) rfl #[.slice Ao30 x12_1.length co30] (by rfl) rfl rfl (by (try simp only [List.map_toArray,List.map_cons,List.map_nil]);first|done|rfl|(simp only [List.length_drop,List.length_take];rfl)) ?_
          with_reducible refine (natural_limbs_trim.calls k1 (fun k_=>some k_=(.slice Ao30 x12_1.length co30:Value).ownBlock) (.slice Ao30 x12_1.length co30) x12_1 t196 w0 _ ?side1 ?side2 A41.out).mono ?_
          (case side1=>repeat (first|(with_reducible first|exact HB.out|apply below_alloc|apply pw_below_drewN|apply below_drew1)|exact HB.out))
          (case side2=>exact Kd.R_tight rfl HO_12.out)
          rintro e w44 ⟨v197,rfl,ho0,hb,hkp⟩
          refine ⟨_,rfl,?_⟩
          have n0_:=Aside0.mk (Kd.R_mono (ok':=fun k_=>(P0_ k_∨w.heap.size≤k_)∧some k_≠(.slice (some ⟨gu_,0,none⟩) x11_1.length co45:Value).ownBlock∧some k_≠(v197:Value).ownBlock) (Kd.R_keptB (HO_10.out) hkp (fun k_ hk_ hs_=>(hk_.2.2) hs_)) (fun k_ hk_=>⟨hk_.1.1,hk_.1.2.1,fun e_=>Or.elim (ho0.1 k_ e_.symm) (fun hs_=>hk_.2.1 hs_) (fun hn_=>Nat.not_le.2 hk_.2.2 hn_)⟩))
          have n1_:=Aside0.mk (Kd.R_mono (ok':=fun k_=>(P0_ k_∨w.heap.size≤k_)∧some k_≠(v185:Value).ownBlock∧some k_≠(v197:Value).ownBlock) (Kd.R_keptB (HO_11.out) hkp (fun k_ hk_ hs_=>(hk_.2.2) hs_)) (fun k_ hk_=>⟨hk_.1.1,hk_.1.2.1,fun e_=>Or.elim (ho0.1 k_ e_.symm) (fun hs_=>hk_.2.1 hs_) (fun hn_=>Nat.not_le.2 hk_.2.2 hn_)⟩))
          have n2_:=Aside0.mk (Kd.R_mono (ok':=fun k_=>(P0_ k_∨w.heap.size≤k_)∧some k_≠(v185:Value).ownBlock∧some k_≠(.slice (some ⟨gu_,0,none⟩) x11_1.length co45:Value).ownBlock) ho0 (fun k_ hk_=>⟨Or.elim hk_ (fun hs_=>(HO_12.out.1 k_ (hs_).symm).1) (fun hn_=>(.inr (Nat.le_trans (by first|exact HK.out.1|exact (show Kept w _ (fun k_=>P0_ k_) from by repeat (first|(with_reducible first|exact HK.out|apply Kept.alloc|apply Kept.drewN|apply Kept.drew)|exact HK.out)).1) hn_))),Or.elim hk_ (fun hs_=>fun e_=>(((HO_10.out).1 k_ e_.symm).2.2) hs_) (fun hn_=>(Kd.fresh' (Kd.R_lt (by (with_reducible repeat (first|apply Kd.R_alloc|apply Kd.R_drewN|apply Kd.R_drew));exact HO_10.out)) k_ hn_)),Or.elim hk_ (fun hs_=>fun e_=>(((HO_11.out).1 k_ e_.symm).2.2) hs_) (fun hn_=>(Kd.fresh' (Kd.R_lt (by (with_reducible repeat (first|apply Kd.R_alloc|apply Kd.R_drewN|apply Kd.R_drew));exact HO_11.out)) k_ hn_))⟩))
          have n3_:=Aside0.mk (Kept.then_ (S:=(fun k_=>P0_ k_)) (by repeat (first|(with_reducible first|exact HK.out|apply Kept.alloc|apply Kept.drewN|apply Kept.drew)|exact HK.out)) hkp (fun k_ hs_=>(fun e_=>(HO_12.out.1 k_ e_.symm).1) hs_))
          have n4_:=Aside0.mk (hb)
          clear HO_10
          clear HO_11
          clear HK
          clear HB
          clear HO_12
          have HO_10:=n0_
          have HO_11:=n1_
          have HO198:=n2_
          have HK:=n3_
          have HB:=n4_
          clear n0_ n1_ n2_ n3_ n4_
          (try clear hb)
          (try clear hkp)
          (try clear ho0)
          obtain ⟨Ao45,co45,eo45⟩:=Kd.R_slice HO_11.out
          (first|subst eo45|(injection eo45 with f1_ f2_ f3_;have f4_:=f1_.symm;have f5_:=f3_.symm;clear f1_ f2_ f3_;subst f4_;subst f5_))
          refine hK.out _ _ trivial (fun hHeld=>?_)
          clear hK K
          refine norm_ (a':=?_) ?_ ?_
          rotate_left
          ·show Act.put _ (some 80) _=_
           simp only [Act.put,List.setIfInBounds_toArray,List.set_cons_zero,List.set_cons_succ,i64_w,i32_w]
           rfl
          refine one_ (i:=6) (N:=some 85) #[true,true,true,true,true,true,true,false,false] rfl rfl (one_of HT_.out (by kernel_rfl)) (by decide) (fun K hK=>?_)
          refine goes_ Tryd.func73 (by kernel_rfl) rfl #[.slice (some ⟨gu_,0,none⟩) l1.length co45,.int .u64 (IntKind.u64.wrap (t183))] (by rfl) rfl rfl (by (try simp only [List.map_toArray,List.map_cons,List.map_nil]);first|done|rfl|(simp only [List.length_drop,List.length_take];rfl)) ?_
          with_reducible refine (natural_unshiftAt.calls k1 l1.length _ _ x11_1 (IntKind.u64.wrap (t183)) t199 _ ?side1 ?side2 A42.out).mono ?_
          (case side1=>repeat (first|exact (Kd.R_reads' HO_11.out).2.2|(with_reducible refine Kd.C_alloc ?_ _)|(with_reducible refine Kd.C_drewN ?_ _)|(with_reducible refine Kd.C_drew ?_)))
          (case side2=>exact (Kd.R_reads' HO_11.out).2.1)
          rintro e w46 ⟨v200,rfl,ho0,hb⟩
          refine ⟨_,rfl,?_⟩
          have n0_:=Aside0.mk (Kd.R_elder' (by (with_reducible repeat (first|apply Kd.R_alloc|apply Kd.R_drewN|apply Kd.R_drew));exact HO_10.out) (Kd.R_base ho0) hb)
          have n1_:=Aside0.mk (Kd.R_elder' (by (with_reducible repeat (first|apply Kd.R_alloc|apply Kd.R_drewN|apply Kd.R_drew));exact HO_11.out) (Kd.R_base ho0) hb)
          have n2_:=Aside0.mk (Kd.R_elder' (by (with_reducible repeat (first|apply Kd.R_alloc|apply Kd.R_drewN|apply Kd.R_drew));exact HO198.out) (Kd.R_base ho0) hb)
          have n3_:=Aside0.mk (Kd.R_lower (Kd.R_new' (Kd.R_new' (Kd.R_new' (Kd.R_newM (M:=fun k_=>(P0_ k_∨w.heap.size≤k_)) ho0 (by first|exact HK.out.1|exact (show Kept w _ (fun k_=>P0_ k_) from by repeat (first|(with_reducible first|exact HK.out|apply Kept.alloc|apply Kept.drewN|apply Kept.drew)|exact HK.out)).1) (fun k_ h_=>.inr h_)) (Kd.R_lt (by (with_reducible repeat (first|apply Kd.R_alloc|apply Kd.R_drewN|apply Kd.R_drew));exact HO_10.out))) (Kd.R_lt (by (with_reducible repeat (first|apply Kd.R_alloc|apply Kd.R_drewN|apply Kd.R_drew));exact HO_11.out))) (Kd.R_lt (by (with_reducible repeat (first|apply Kd.R_alloc|apply Kd.R_drewN|apply Kd.R_drew));exact HO198.out))) (below_size (by repeat (first|(with_reducible first|exact HB.out|apply below_alloc|apply pw_below_drewN|apply below_drew1)|exact HB.out))))
          have n4_:=Aside0.mk (Kept.below (S:=(fun k_=>P0_ k_)) (by repeat (first|(with_reducible first|exact HK.out|apply Kept.alloc|apply Kept.drewN|apply Kept.drew)|exact HK.out)) hb)
          have n5_:=Aside0.mk (below_step (by repeat (first|(with_reducible first|exact HB.out|apply below_alloc|apply pw_below_drewN|apply below_drew1)|exact HB.out)) hb)
          clear HO_10
          clear HO_11
          clear HO198
          clear HK
          clear HB
          have HO_10:=n0_
          have HO_11:=n1_
          have HO198:=n2_
          have HO201:=n3_
          have HK:=n4_
          have HB:=n5_
          clear n0_ n1_ n2_ n3_ n4_ n5_
          (try clear hb)
          (try clear hb2)
          (try clear hk)
          (try clear hi)
          (try clear ho0)
          refine hK.out _ _ trivial (fun hHeld=>?_)
          clear hK K
          refine norm_ (a':=?_) ?_ ?_
          rotate_left
          ·show Act.put _ (some 85) _=_
           simp only [Act.put,List.setIfInBounds_toArray,List.set_cons_zero,List.set_cons_succ,i64_w,i32_w]
           rfl
          refine pure_ (i:=7) (N:=some 4) (v:=?_) (a':=?_) #[true,true,true,true,true,true,true,true,false] rfl rfl (any_of HT_.out (by kernel_rfl)) (fun _ _ _ h=>h) (Or.inl ⟨by rfl,?_⟩) ?_ ?_
          rotate_left
          ·intro w'
           go_simp
           with_reducible rfl
          rotate_left
          ·simp only [Act.put,List.setIfInBounds_toArray,List.set_cons_zero,List.set_cons_succ,i64_w,i32_w]
           rfl
          refine pure_ (i:=8) (N:=some 5) (v:=?_) (a':=?_) #[true,true,true,true,true,true,true,true,true] rfl rfl (any_of HT_.out (by kernel_rfl)) (fun _ _ _ h=>h) (Or.inl ⟨by rfl,?_⟩) ?_ ?_
          rotate_left
          ·intro w'
           go_simp
           with_reducible rfl
          rotate_left
          ·simp only [Act.put,List.setIfInBounds_toArray,List.set_cons_zero,List.set_cons_succ,i64_w,i32_w]
           rfl
          refine done_ (done_of HT_.out (by kernel_rfl)) ?_
          try go_wp2
          go_ret2
          exact ⟨_,_,by first|rfl|(simp [errW_none,errW_some] <;> rfl)|(simp only [← hji16,← hji22];first|rfl|(simp [errW_none,errW_some] <;> rfl))|(simp [*,errW_none,errW_some] <;> rfl),by (with_reducible repeat (first|apply Kd.R_alloc|apply Kd.R_drewN|apply Kd.R_drew));exact Kd.R_mono HO198.out (fun _ hk=>⟨hk.1.1,hk.2⟩),by (with_reducible repeat (first|apply Kd.R_alloc|apply Kd.R_drewN|apply Kd.R_drew));exact Kd.R_mono HO201.out (fun _ hk=>⟨hk.1.1.1.1,hk.2⟩),by repeat (first|(with_reducible first|exact HB.out|apply below_alloc|apply pw_below_drewN|apply below_drew1)|exact HB.out),by repeat (first|(with_reducible first|exact HK.out|apply Kept.alloc|apply Kept.drewN|apply Kept.drew)|exact HK.out)⟩
      ·rw [if_neg c24] at H
       exact absurd H (by simp)
     ·rw [if_neg c23] at H
      exact absurd H (by simp)
    ·rw [if_neg c18] at H
     exact absurd H (by simp)
   ·rw [if_neg c17] at H
    exact absurd H (by simp)
end Go.Proofs.YtjaflmhdclmolaaDoor.F
end
section
namespace Go.Proofs.YtjaflmhdclmolaaDoor.F
open Go.RowKit Go.Proofs.YtjaflmhdclmolaaDoorW.PrintWords Go.Proofs.YtjaflmhdclmolaaDoorW.PrintLast Go.Proofs.YtjaflmhdclmolaaDoorW.PrintMore
attribute [local go_sem] max2_int min2_int max_two min_two max_three min_three max_four min_four   
set_option linter.unusedVariables false
set_option linter.unusedSimpArgs false
def natural_Divide.f (k:Nat) (a0:ByteArray) (a1:ByteArray):Option (ByteArray×ByteArray×Bool):=(natural_parse.f k a1).bind fun t209=>(if (t209.length:Int)=0 then (some ((⟨#[]⟩:ByteArray),(⟨#[]⟩:ByteArray),false)) else ((natural_parse.f k a0).bind fun t212=>((natural_divide.f k t212 t209).bind fun bt215=>((natural_limbs_text.f k bt215.1).bind fun t221=>((natural_limbs_text.f k bt215.2).bind fun t222=>(some (t221,t222,true)))))))
theorem natural_Divide.mono:∀ a0 a1 k,LeO (natural_Divide.f k a0 a1) (natural_Divide.f (k+1) a0 a1):=by
 intro a0 a1 k
 unfold natural_Divide.f
 repeat' first
  | (with_reducible exact natural_divide.mono _ _ _)
  | (with_reducible exact natural_limbs_text.mono _ _)
  | (with_reducible exact natural_parse.mono _ _)
  | (with_reducible exact LeO.refl _)
  | (with_reducible exact LeO.none _)
  | (with_reducible refine LeO.ite ?_ ?_)
  | (with_reducible refine LeO.bind ?_ (fun _=>?_))
  | exact natural_divide.mono _ _ _
  | exact natural_limbs_text.mono _ _
  | exact natural_parse.mono _ _
  | exact LeO.none _
  | refine LeO.ite ?_ ?_
  | refine LeO.bind ?_ (fun _=>?_)
set_option maxHeartbeats 8000000 in
set_option maxRecDepth 100000 in
theorem natural_Divide.calls (k:Nat) (a0:ByteArray) (a1:ByteArray) (r1:ByteArray) (r2:ByteArray) (r3:Bool) (w:World) (h:natural_Divide.f k a0 a1=some (r1,r2,r3)) :
 Calls Tryd.prog 21 #[.string a0,.string a1] w fun e w'=>e = .returned (.tuple #[.string r1,.string r2,.bool r3])∧Below w.heap.size w w':=by
 have HB:=Aside0.mk (Below.refl w.heap.size w)
 have H:((natural_parse.f k a1).bind fun t209=>(if (t209.length:Int)=0 then (some ((⟨#[]⟩:ByteArray),(⟨#[]⟩:ByteArray),false)) else ((natural_parse.f k a0).bind fun t212=>((natural_divide.f k t212 t209).bind fun bt215=>((natural_limbs_text.f k bt215.1).bind fun t221=>((natural_limbs_text.f k bt215.2).bind fun t222=>(some (t221,t222,true))))))))=some (r1,r2,r3):=h
 clear h
 replace H:=Option.bind_eq_some_iff.mp H
 obtain ⟨t209,A30,H⟩:=H
 replace H:(if (t209.length:Int)=0 then (some ((⟨#[]⟩:ByteArray),(⟨#[]⟩:ByteArray),false)) else ((natural_parse.f k a0).bind fun t212=>((natural_divide.f k t212 t209).bind fun bt215=>((natural_limbs_text.f k bt215.1).bind fun t221=>((natural_limbs_text.f k bt215.2).bind fun t222=>(some (t221,t222,true)))))))=some (r1,r2,r3):=H
 have A3:=Aside0.mk A30
 clear A30
 by_cases c4:(t209.length:Int)=0
 ·rw [if_pos c4] at H
  have c4b0:((t209.length:Int) == 0)=true:=beq_iff_eq.mpr c4
  have c4b1:((t209.length:Int) != 0)=false:=bne_eq_false_iff_eq.mpr c4
  clear c4
  simp only [Option.some.injEq,Prod.mk.injEq] at H
  obtain ⟨rfl,rfl,rfl⟩:=H
  go_enter Tryd.func21,Tryd.ntmps21
  go_wp2_with (first|((with_reducible refine gate_callee (f:=42) rfl ?_);refine goesL_ (some 11) rfl rfl Tryd.func42 (by kernel_rfl) rfl #[.string a1] rfl (by (try simp only [List.map_toArray,List.map_cons,List.map_nil]);first|done|rfl|(simp only [List.length_drop,List.length_take];rfl)) ?_;(with_reducible refine (natural_parse.calls k a1 t209 _ A3.out).mono ?_);rintro e w5 ⟨v210,rfl,ho0,hb⟩;refine ⟨_,rfl,?_⟩;have n0_:=Aside0.mk (Kd.R_lower ho0 (below_size (by repeat (first|(with_reducible first|exact HB.out|apply below_alloc|apply pw_below_drewN|apply below_drew1)|exact HB.out))));have n1_:=Aside0.mk (below_step (by repeat (first|(with_reducible first|exact HB.out|apply below_alloc|apply pw_below_drewN|apply below_drew1)|exact HB.out)) hb);clear HB;have HO211:=n0_;have HB:=n1_;clear n0_ n1_;(try clear hb);(try clear hb2);(try clear hk);(try clear hi);(try clear ho0);obtain ⟨Ao6,co6,eo6⟩:=Kd.R_slice HO211.out;subst eo6))
  go_ret3
  exact ⟨by first|rfl|(simp [errW_none,errW_some] <;> rfl)|(simp [*,errW_none,errW_some] <;> rfl),by repeat (first|(with_reducible first|exact HB.out|apply below_alloc|apply pw_below_drewN|apply below_drew1)|exact HB.out)⟩
 ·rw [if_neg c4] at H
  have c4b0:((t209.length:Int) == 0)=false:=beq_eq_false_iff_ne.mpr c4
  have c4b1:((t209.length:Int) != 0)=true:=bne_iff_ne.mpr c4
  have c4b2:¬ (t209=[]):=fun h_=>c4 (by rw [h_];rfl)
  replace H:=Option.bind_eq_some_iff.mp H
  obtain ⟨t212,A70,H⟩:=H
  replace H:((natural_divide.f k t212 t209).bind fun bt215=>((natural_limbs_text.f k bt215.1).bind fun t221=>((natural_limbs_text.f k bt215.2).bind fun t222=>(some (t221,t222,true)))))=some (r1,r2,r3):=H
  have A7:=Aside0.mk A70
  clear A70
  replace H:=Option.bind_eq_some_iff.mp H
  obtain ⟨⟨t215,t218⟩,A80,H⟩:=H
  replace H:((natural_limbs_text.f k t215).bind fun t221=>((natural_limbs_text.f k t218).bind fun t222=>(some (t221,t222,true))))=some (r1,r2,r3):=H
  have A8:=Aside0.mk A80
  clear A80
  replace H:=Option.bind_eq_some_iff.mp H
  obtain ⟨t221,A90,H⟩:=H
  replace H:((natural_limbs_text.f k t218).bind fun t222=>(some (t221,t222,true)))=some (r1,r2,r3):=H
  have A9:=Aside0.mk A90
  clear A90
  replace H:=Option.bind_eq_some_iff.mp H
  obtain ⟨t222,A100,H⟩:=H
  replace H:(some (t221,t222,true))=some (r1,r2,r3):=H
  have A10:=Aside0.mk A100
  clear A100
  simp only [Option.some.injEq,Prod.mk.injEq] at H
  obtain ⟨rfl,rfl,rfl⟩:=H
  go_enter Tryd.func21,Tryd.ntmps21
  go_wp2_with (first|((with_reducible refine gate_callee (f:=42) rfl ?_);refine goesL_ (some 11) rfl rfl Tryd.func42 (by kernel_rfl) rfl #[.string a1] rfl (by (try simp only [List.map_toArray,List.map_cons,List.map_nil]);first|done|rfl|(simp only [List.length_drop,List.length_take];rfl)) ?_;(with_reducible refine (natural_parse.calls k a1 t209 _ A3.out).mono ?_);rintro e w11 ⟨v210,rfl,ho0,hb⟩;refine ⟨_,rfl,?_⟩;have n0_:=Aside0.mk (Kd.R_lower ho0 (below_size (by repeat (first|(with_reducible first|exact HB.out|apply below_alloc|apply pw_below_drewN|apply below_drew1)|exact HB.out))));have n1_:=Aside0.mk (below_step (by repeat (first|(with_reducible first|exact HB.out|apply below_alloc|apply pw_below_drewN|apply below_drew1)|exact HB.out)) hb);clear HB;have HO211:=n0_;have HB:=n1_;clear n0_ n1_;(try clear hb);(try clear hb2);(try clear hk);(try clear hi);(try clear ho0);obtain ⟨Ao12,co12,eo12⟩:=Kd.R_slice HO211.out;subst eo12)|((with_reducible refine gate_callee (f:=42) rfl ?_);refine goesL_ (some 17) rfl rfl Tryd.func42 (by kernel_rfl) rfl #[.string a0] rfl (by (try simp only [List.map_toArray,List.map_cons,List.map_nil]);first|done|rfl|(simp only [List.length_drop,List.length_take];rfl)) ?_;(with_reducible refine (natural_parse.calls k a0 t212 _ A7.out).mono ?_);rintro e w13 ⟨v213,rfl,ho0,hb⟩;refine ⟨_,rfl,?_⟩;have n0_:=Aside0.mk (Kd.R_elder' (by (with_reducible repeat (first|apply Kd.R_alloc|apply Kd.R_drewN|apply Kd.R_drew));exact HO211.out) (Kd.R_base ho0) hb);have n1_:=Aside0.mk (Kd.R_lower (Kd.R_new' ho0 (Kd.R_lt (by (with_reducible repeat (first|apply Kd.R_alloc|apply Kd.R_drewN|apply Kd.R_drew));exact HO211.out))) (below_size (by repeat (first|(with_reducible first|exact HB.out|apply below_alloc|apply pw_below_drewN|apply below_drew1)|exact HB.out))));have n2_:=Aside0.mk (below_step (by repeat (first|(with_reducible first|exact HB.out|apply below_alloc|apply pw_below_drewN|apply below_drew1)|exact HB.out)) hb);clear HO211;clear HB;have HO211:=n0_;have HO214:=n1_;have HB:=n2_;clear n0_ n1_ n2_;(try clear hb);(try clear hb2);(try clear hk);(try clear hi);(try clear ho0);obtain ⟨Ao14,co14,eo14⟩:=Kd.R_slice HO214.out;subst eo14)|((with_reducible refine gate_callee (f:=43) rfl ?_);refine goesL_ (some 19) rfl rfl Tryd.func43 (by kernel_rfl) rfl #[.slice Ao14 t212.length co14,.slice Ao12 t209.length co12] rfl (by (try simp only [List.map_toArray,List.map_cons,List.map_nil]);first|done|rfl|(simp only [List.length_drop,List.length_take];rfl)) ?_;(with_reducible refine (natural_divide.calls k (fun k_=>some k_=(.slice Ao14 t212.length co14:Value).ownBlock) (.slice Ao14 t212.length co14) t212 _ _ t209 t215 t218 w _ ?side1 ?side2 ?side3 ?side4 A8.out).mono ?_);(case side1=>repeat (first|(with_reducible first|exact HB.out|apply below_alloc|apply pw_below_drewN|apply below_drew1)|exact HB.out));(case side2=>exact Kd.R_tight rfl HO214.out);(case side3=>exact Kd.C_kept_own (HO211.out) (fun k_ hk_ hs_=>(hk_.2) hs_));(case side4=>exact (Kd.R_reads' HO211.out).2.1);rintro e w15 ⟨v216,v219,rfl,ho0,ho1,hb,hkp⟩;refine ⟨_,rfl,?_⟩;have n0_:=Aside0.mk (Kd.R_mono (ok':=fun k_=>some k_≠(v216:Value).ownBlock∧some k_≠(v219:Value).ownBlock) (Kd.R_keptB (HO211.out) hkp (fun k_ hk_ hs_=>(hk_.2) hs_)) (fun k_ hk_=>⟨fun e_=>Or.elim (ho0.1 k_ e_.symm).1 (fun hs_=>hk_.2.1 hs_) (fun hn_=>Nat.not_le.2 hk_.2.2 hn_),fun e_=>Or.elim (ho1.1 k_ e_.symm).1 (fun hs_=>hk_.2.1 hs_) (fun hn_=>Nat.not_le.2 hk_.2.2 hn_)⟩));have n1_:=Aside0.mk (Kd.R_mono (ok':=fun k_=>some k_≠(v219:Value).ownBlock∧some k_≠(.slice Ao12 t209.length co12:Value).ownBlock) ho0 (fun k_ hk_=>⟨hk_.2,Or.elim hk_.1 (fun hs_=>fun e_=>(((HO211.out).1 k_ e_.symm).2) hs_) (fun hn_=>(Kd.fresh' (Kd.R_lt (by (with_reducible repeat (first|apply Kd.R_alloc|apply Kd.R_drewN|apply Kd.R_drew));exact HO211.out)) k_ hn_))⟩));have n2_:=Aside0.mk (Kd.R_mono (ok':=fun k_=>some k_≠(v216:Value).ownBlock∧some k_≠(.slice Ao12 t209.length co12:Value).ownBlock) ho1 (fun k_ hk_=>⟨hk_.2,Or.elim hk_.1 (fun hs_=>fun e_=>(((HO211.out).1 k_ e_.symm).2) hs_) (fun hn_=>(Kd.fresh' (Kd.R_lt (by (with_reducible repeat (first|apply Kd.R_alloc|apply Kd.R_drewN|apply Kd.R_drew));exact HO211.out)) k_ hn_))⟩));have n3_:=Aside0.mk (hb);clear HO211;clear HB;clear HO214;have HO211:=n0_;have HO217:=n1_;have HO220:=n2_;have HB:=n3_;clear n0_ n1_ n2_ n3_;(try clear hb);(try clear hkp);(try clear ho0);(try clear ho1);obtain ⟨Ao16,co16,eo16⟩:=Kd.R_slice HO217.out;subst eo16)|((with_reducible refine gate_callee (f:=44) rfl ?_);refine goesL_ (some 23) rfl rfl Tryd.func44 (by kernel_rfl) rfl #[.slice Ao16 t215.length co16] rfl (by (try simp only [List.map_toArray,List.map_cons,List.map_nil]);first|done|rfl|(simp only [List.length_drop,List.length_take];rfl)) ?_;(with_reducible refine (natural_limbs_text.calls k _ _ t215 t221 _ ?side1 ?side2 A9.out).mono ?_);(case side1=>repeat (first|exact (Kd.R_reads' HO217.out).2.2|(with_reducible refine Kd.C_alloc ?_ _)|(with_reducible refine Kd.C_drewN ?_ _)|(with_reducible refine Kd.C_drew ?_)));(case side2=>exact (Kd.R_reads' HO217.out).2.1);rintro e w17 ⟨rfl,hb⟩;refine ⟨_,rfl,?_⟩;have n0_:=Aside0.mk (Kd.R_below (by (with_reducible repeat (first|apply Kd.R_alloc|apply Kd.R_drewN|apply Kd.R_drew));exact HO211.out) hb);have n1_:=Aside0.mk (Kd.R_below (by (with_reducible repeat (first|apply Kd.R_alloc|apply Kd.R_drewN|apply Kd.R_drew));exact HO217.out) hb);have n2_:=Aside0.mk (Kd.R_below (by (with_reducible repeat (first|apply Kd.R_alloc|apply Kd.R_drewN|apply Kd.R_drew));exact HO220.out) hb);have n3_:=Aside0.mk (below_step (by repeat (first|(with_reducible first|exact HB.out|apply below_alloc|apply pw_below_drewN|apply below_drew1)|exact HB.out)) hb);clear HO211;clear HO217;clear HO220;clear HB;have HO211:=n0_;have HO217:=n1_;have HO220:=n2_;have HB:=n3_;clear n0_ n1_ n2_ n3_;(try clear hb);(try clear hb2);(try clear hk);(try clear hi);obtain ⟨Ao18,co18,eo18⟩:=Kd.R_slice HO220.out;subst eo18)|((with_reducible refine gate_callee (f:=44) rfl ?_);refine goesL_ (some 25) rfl rfl Tryd.func44 (by kernel_rfl) rfl #[.slice Ao18 t218.length co18] rfl (by (try simp only [List.map_toArray,List.map_cons,List.map_nil]);first|done|rfl|(simp only [List.length_drop,List.length_take];rfl)) ?_;(with_reducible refine (natural_limbs_text.calls k _ _ t218 t222 _ ?side1 ?side2 A10.out).mono ?_);(case side1=>repeat (first|exact (Kd.R_reads' HO220.out).2.2|(with_reducible refine Kd.C_alloc ?_ _)|(with_reducible refine Kd.C_drewN ?_ _)|(with_reducible refine Kd.C_drew ?_)));(case side2=>exact (Kd.R_reads' HO220.out).2.1);rintro e w19 ⟨rfl,hb⟩;refine ⟨_,rfl,?_⟩;have n0_:=Aside0.mk (Kd.R_below (by (with_reducible repeat (first|apply Kd.R_alloc|apply Kd.R_drewN|apply Kd.R_drew));exact HO211.out) hb);have n1_:=Aside0.mk (Kd.R_below (by (with_reducible repeat (first|apply Kd.R_alloc|apply Kd.R_drewN|apply Kd.R_drew));exact HO217.out) hb);have n2_:=Aside0.mk (Kd.R_below (by (with_reducible repeat (first|apply Kd.R_alloc|apply Kd.R_drewN|apply Kd.R_drew));exact HO220.out) hb);have n3_:=Aside0.mk (below_step (by repeat (first|(with_reducible first|exact HB.out|apply below_alloc|apply pw_below_drewN|apply below_drew1)|exact HB.out)) hb);clear HO211;clear HO217;clear HO220;clear HB;have HO211:=n0_;have HO217:=n1_;have HO220:=n2_;have HB:=n3_;clear n0_ n1_ n2_ n3_;(try clear hb);(try clear hb2);(try clear hk);(try clear hi)))
  go_ret3
  exact ⟨by first|rfl|(simp [errW_none,errW_some] <;> rfl)|(simp [*,errW_none,errW_some] <;> rfl),by repeat (first|(with_reducible first|exact HB.out|apply below_alloc|apply pw_below_drewN|apply below_drew1)|exact HB.out)⟩
end Go.Proofs.YtjaflmhdclmolaaDoor.F
end
section
namespace Go.Proofs.YtjaflmhdclmolaaDoor.F
open Go.RowKit Go.Proofs.YtjaflmhdclmolaaDoorW.PrintWords Go.Proofs.YtjaflmhdclmolaaDoorW.PrintLast Go.Proofs.YtjaflmhdclmolaaDoorW.PrintMore
attribute [local go_sem] max2_int min2_int max_two min_two max_three min_three max_four min_four   
set_option linter.unusedVariables false
set_option linter.unusedSimpArgs false
def slices_Reverse_byte_byte.l0:Nat→List Int→Int→Int→Option (List Int)
 | 0,_,_,_=>none
 | k+1,x0,x2,x3=>if x2<x3 then (if 0≤x3 then (if x3<(x0.length:Int) then (if 0≤x2 then (if x2<(x0.length:Int) then (slices_Reverse_byte_byte.l0 k ((x0.set (x2:Int).toNat (rd x0 x3)).set (x3:Int).toNat (rd x0 x2)) (wrap64 (x2+1)) (wrap64 (x3-1))) else (none)) else (none)) else (none)) else (none)) else (some x0)
def slices_Reverse_byte_byte.f (k:Nat) (l0:List Int):Option (List Int):=slices_Reverse_byte_byte.l0 k l0 0 (wrap64 ((l0.length:Int)-1))
theorem slices_Reverse_byte_byte.mono_l:∀ k,(∀ y0 y1 y2,LeO (slices_Reverse_byte_byte.l0 k y0 y1 y2) (slices_Reverse_byte_byte.l0 (k+1) y0 y1 y2))
 | 0=>fun _ _ _ r h=>by simp [slices_Reverse_byte_byte.l0] at h
 | k+1=>by
  have ih0:=slices_Reverse_byte_byte.mono_l k
  ·intro y0 y1 y2
   unfold slices_Reverse_byte_byte.l0
   repeat' first
   | (with_reducible exact ih0 _ _ _)
   | (with_reducible exact LeO.refl _)
   | (with_reducible exact LeO.none _)
   | (with_reducible refine LeO.ite ?_ ?_)
   | (with_reducible refine LeO.bind ?_ (fun _=>?_))
   | exact ih0 _ _ _
   | exact LeO.none _
   | refine LeO.ite ?_ ?_
   | refine LeO.bind ?_ (fun _=>?_)
theorem slices_Reverse_byte_byte.mono:∀ a0 k,LeO (slices_Reverse_byte_byte.f k a0) (slices_Reverse_byte_byte.f (k+1) a0):=by
 intro a0 k
 have ih0:=slices_Reverse_byte_byte.mono_l k
 unfold slices_Reverse_byte_byte.f
 repeat' first
  | (with_reducible exact ih0 _ _ _)
  | (with_reducible exact LeO.refl _)
  | (with_reducible exact LeO.none _)
  | (with_reducible refine LeO.ite ?_ ?_)
  | (with_reducible refine LeO.bind ?_ (fun _=>?_))
  | exact ih0 _ _ _
  | exact LeO.none _
  | refine LeO.ite ?_ ?_
  | refine LeO.bind ?_ (fun _=>?_)
def slices_Reverse_byte_byte.T3:Bool×List (List Nat×List Nat):=(true,[([],[]),([],[]),([],[]),([],[]),([],[]),([],[]),([4,5],[4,5]),([6],[6]),([],[]),([],[]),([8,9],[8,9]),([10],[10]),([0,1,0,1,4,5,6,7,11],[0,1]),([12,7,0,1,4,5,6,7,11],[7,12]),([2,3,0,1,2,3,4,5,6,7,8,9,10,11,12,13],[2,3]),([14,11,13,0,1,2,3,4,5,6,7,8,9,10,11,12,13],[11,14])])
def slices_Reverse_byte_byte.B3:List Nat:=[0,0,0,0,0,0,48,112,0,0,768,1792,4083,8179,16383,32767]
theorem slices_Reverse_byte_byte.tab3:rtab .any (opsOf Tryd.f57 3)=slices_Reverse_byte_byte.T3:=by kernel_rfl
theorem slices_Reverse_byte_byte.bits3:waitsOk slices_Reverse_byte_byte.T3.2 slices_Reverse_byte_byte.B3=true:=by kernel_rfl
set_option maxHeartbeats 8000000 in
set_option maxRecDepth 100000 in
theorem slices_Reverse_byte_byte.calls (k:Nat) (P0_:Nat→Prop) (u9000_:Value) (l0:List Int) (r:List Int) (w0 w:World) (hB:Below w0.heap.size w0 w) (ho0:Kd.R (Kd.int .u8) 5 w w0.heap.size P0_ u9000_ l0) (h:slices_Reverse_byte_byte.f k l0=some r) :
 Calls Tryd.prog 57 #[u9000_] w fun e w'=>e = .returned (.tuple #[])∧Kd.R (Kd.int .u8) 5 w' w0.heap.size (fun k_=>(P0_ k_∨w.heap.size≤k_)) u9000_ r∧Below w0.heap.size w0 w'∧Kept w w' (fun k_=>P0_ k_):=by
 have HO0:=Aside0.mk (show Kd.R (Kd.int .u8) 5 w w0.heap.size (fun k_=>(P0_ k_∨w.heap.size≤k_)) u9000_ l0 from Kd.R_mono ho0 (fun k_ hk=>(.inl hk)))
 have HK:=Aside0.mk (Kept.refl w (fun k_=>P0_ k_))
 have HW0:=Aside0.mk hB.size
 have HB:=Aside0.mk hB
 clear hB
 have H:(slices_Reverse_byte_byte.l0 k l0 0 (wrap64 ((l0.length:Int)-1)))=some r:=h
 clear h
 have H':=Aside0.mk H
 clear H
 obtain ⟨Ao2,co2,eo2⟩:=Kd.R_slice HO0.out
 subst eo2
 go_enter Tryd.func57,Tryd.ntmps57
 go_wp2
 go_loopg [2,3] k (fun kq v2 v3 w'=>∃ (x0_1:List Int) (x2_1:Int) (x3_1:Int),v2 = .int .i64 x2_1∧v3 = .int .i64 x3_1∧Aside0 (slices_Reverse_byte_byte.l0 kq x0_1 x2_1 x3_1=some r)∧Aside0 (kq≤k)∧Aside0 (Kd.R (Kd.int .u8) 5 w' w0.heap.size (fun k_=>(P0_ k_∨w.heap.size≤k_)) (.slice Ao2 l0.length co2) x0_1)∧Aside0 (Kept w w' (fun k_=>P0_ k_))∧Aside0 (Below w0.heap.size w0 w'))
 case atStart=>exact ⟨(l0),(0),(wrap64 ((l0.length:Int)-1)),(by first|rfl|(simp;done)|(simp [*];done)),(by first|rfl|(simp;done)|(simp [*];done)),H',⟨Nat.le_refl _⟩,⟨by (with_reducible repeat (first|apply Kd.R_alloc|apply Kd.R_drewN|apply Kd.R_drew));exact HO0.out⟩,⟨by repeat (first|(with_reducible first|exact HK.out|apply Kept.alloc|apply Kept.drewN|apply Kept.drew)|exact HK.out)⟩,⟨by repeat (first|(with_reducible first|exact HB.out|apply below_alloc|apply pw_below_drewN|apply below_drew1)|exact HB.out)⟩⟩
 case round=>
  clear H'
  try clear p2
  obtain ⟨x0_1,x2_1,x3_1,rfl,rfl,HA,HK1,HO_0,HK,HB⟩:=hrel
  have hl0_1:=(Kd.R_reads' HO_0.out).1
  rw [hl0_1] at HO_0
  (try simp only [hl0_1])
  cases gk with
  | zero=>exact absurd HA.out (by simp [slices_Reverse_byte_byte.l0])
  | succ k1=>
   have H:=HA.out
   clear HA
   simp only [slices_Reverse_byte_byte.l0] at H
   by_cases c3:x2_1<x3_1
   ·rw [if_pos c3] at H
    have c3b0:decide (x2_1<x3_1)=true:=decide_eq_true c3
    clear c3
    by_cases c4:0≤x3_1
    ·rw [if_pos c4] at H
     have c4b0:decide (0≤x3_1)=true:=decide_eq_true c4
     clear c4
     by_cases c5:x3_1<(x0_1.length:Int)
     ·rw [if_pos c5] at H
      have c5b0:decide (x3_1<(x0_1.length:Int))=true:=decide_eq_true c5
      clear c5
      by_cases c6:0≤x2_1
      ·rw [if_pos c6] at H
       have c6b0:decide (0≤x2_1)=true:=decide_eq_true c6
       clear c6
       by_cases c7:x2_1<(x0_1.length:Int)
       ·rw [if_pos c7] at H
        have c7b0:decide (x2_1<(x0_1.length:Int))=true:=decide_eq_true c7
        clear c7
        obtain ⟨y259,hy259⟩:∃ y_:List Int,y_=(x0_1.set (x2_1:Int).toNat (rd x0_1 x3_1)):=⟨_,rfl⟩
        replace H:(slices_Reverse_byte_byte.l0 k1 (y259.set (x3_1:Int).toNat (rd x0_1 x2_1)) (wrap64 (x2_1+1)) (wrap64 (x3_1-1)))=some r:=by first|(rw [hy259];with_reducible exact H)|(have H2_:=(Option.bind_some _ _).symm.trans H;rw [hy259];with_reducible exact H2_)|(have H2_:=(Option.bind_some _ _).symm.trans H;with_reducible exact H2_)|with_reducible exact H|(rw [hy259];exact H)|exact H
        have Ny259:=Aside0.mk hy259
        clear hy259
        obtain ⟨y260,hy260⟩:∃ y_:List Int,y_=(y259.set (x3_1:Int).toNat (rd x0_1 x2_1)):=⟨_,rfl⟩
        replace H:(slices_Reverse_byte_byte.l0 k1 y260 (wrap64 (x2_1+1)) (wrap64 (x3_1-1)))=some r:=by first|(rw [hy260];with_reducible exact H)|(have H2_:=(Option.bind_some _ _).symm.trans H;rw [hy260];with_reducible exact H2_)|(have H2_:=(Option.bind_some _ _).symm.trans H;with_reducible exact H2_)|with_reducible exact H|(rw [hy260];exact H)|exact H
        have Ny260:=Aside0.mk hy260
        clear hy260
        have H':=Aside0.mk H
        clear H
        try go_wp2
        have n0_:=Aside0.mk (Kd.R_drew HO_0.out)
        have n1_:=Aside0.mk (Kept.drew HK.out)
        have n2_:=Aside0.mk (below_drew1 HB.out)
        clear HO_0
        clear HK
        clear HB
        have HO_0:=n0_
        have HK:=n1_
        have HB:=n2_
        clear n0_ n1_ n2_
        have p257:0≤(x3_1:Int):=of_decide_eq_true (by first|(with_reducible assumption)|assumption)
        have q257:x3_1<(x0_1.length:Int):=of_decide_eq_true (by first|(with_reducible assumption)|assumption)
        obtain ⟨ad257,e257,hx257_0⟩:=Kd.at_int (Kd.R_reads' HO_0.out).2.2 x3_1 p257 q257
        cases e257
        replace p257:=eq_true p257
        replace q257:=eq_true q257
        have p258:0≤(x2_1:Int):=of_decide_eq_true (by first|(with_reducible assumption)|assumption)
        have q258:x2_1<(x0_1.length:Int):=of_decide_eq_true (by first|(with_reducible assumption)|assumption)
        obtain ⟨ad258,e258,hx258_0⟩:=Kd.at_int (Kd.R_reads' HO_0.out).2.2 x2_1 p258 q258
        obtain rfl:ad257=ad258:=(by injection e258)
        replace p258:=eq_true p258
        replace q258:=eq_true q258
        have p8:0≤(x2_1:Int):=of_decide_eq_true (by first|(with_reducible assumption)|assumption)
        have q8:(x2_1:Int)<((x0_1.length:Int):Int):=of_decide_eq_true (by first|(with_reducible assumption)|assumption)
        obtain ⟨go8,co8,eo8,gb8,gl8,cl8,HG8⟩:=Kd.R_form HO_0.out (by omega)
        (first|cases eo8|(injection eo8 with ea_ en_ ec_;(first|subst ea_|(injection ea_ with ea_;subst ea_));subst ec_;clear en_))
        have GB8:=Aside0.mk gb8
        have GG8:=Aside0.mk HG8
        clear gb8 gl8 HG8
        have HMgo8:=Aside0.mk (show (P0_ go8∨w.heap.size≤go8) from (HO_0.out.1 _ rfl))
        (first|simp only [add_plain] at hx257_0|skip)
        (first|simp only [add_plain] at hx258_0|skip)
        obtain ⟨hx8_0,hf8_0⟩:=Kd.R_celln 0 HO_0.out (x2_1:Int) p8 q8
        replace p8:=eq_true p8
        replace q8:=eq_true q8
        have HP11:=Kd.R_putn HO_0.out (x2_1:Int) (rd x0_1 x3_1)
        rw [← Ny259.out] at HP11
        have HQ11:=Aside0.mk HP11
        clear HP11
        have p9:0≤(x3_1:Int):=of_decide_eq_true (by first|(with_reducible assumption)|assumption)
        have q9:(x3_1:Int)<((x0_1.length:Int):Int):=of_decide_eq_true (by first|(with_reducible assumption)|assumption)
        obtain ⟨hx9_0,hf9_0⟩:=Kd.R_celln 0 HQ11.out (x3_1:Int) p9 q9
        replace p9:=eq_true p9
        replace q9:=eq_true q9
        have HP12:=Kd.R_putn HQ11.out (x3_1:Int) (rd x0_1 x2_1)
        rw [← Ny260.out] at HP12
        have HQ12:=Aside0.mk HP12
        clear HP12
        refine start_ (n:=16) (S:=fun w'=>w'.cell? ⟨go8,(x3_1).toNat,none⟩=some (.int .u8 (rd x0_1 x3_1))∧w'.cell? ⟨go8,(x2_1).toNat,none⟩=some (.int .u8 (rd x0_1 x2_1))) (ds:=[13,15]) #[false,false,false,false,false,false,false,false,false,false,false,false,false,false,false,false] (by kernel_rfl) rfl rfl ⟨hx257_0,hx258_0⟩ (fun hHeld=>?_);refine with_tabW slices_Reverse_byte_byte.tab3 slices_Reverse_byte_byte.bits3 (fun HT_ HW_=>?_)
        generalize wr.drew=w10 at HO_0 HK HB GG8 HQ11 HQ12 hf8_0 hf9_0 hx257_0 hx258_0 hx8_0 hx9_0 hHeld ⊢
        refine pure_ (i:=0) (N:=some 14) (v:=?_) (a':=?_) #[true,false,false,false,false,false,false,false,false,false,false,false,false,false,false,false] rfl rfl (any_of HT_.out (by kernel_rfl)) (fun _ _ _ h=>h) (Or.inl ⟨by rfl,?_⟩) ?_ ?_
        rotate_left
        ·intro w'
         go_simp
         with_reducible rfl
        rotate_left
        ·simp only [Act.put,List.setIfInBounds_toArray,List.set_cons_zero,List.set_cons_succ,i64_w,i32_w]
         rfl
        refine pure_ (i:=1) (N:=some 15) (v:=?_) (a':=?_) #[true,true,false,false,false,false,false,false,false,false,false,false,false,false,false,false] rfl rfl (any_of HT_.out (by kernel_rfl)) (fun _ _ _ h=>h) (Or.inl ⟨by rfl,?_⟩) ?_ ?_
        rotate_left
        ·intro w'
         go_simp
         with_reducible rfl
        rotate_left
        ·simp only [Act.put,List.setIfInBounds_toArray,List.set_cons_zero,List.set_cons_succ,i64_w,i32_w]
         rfl
        refine pure_ (i:=2) (N:=some 16) (v:=?_) (a':=?_) #[true,true,true,false,false,false,false,false,false,false,false,false,false,false,false,false] rfl rfl (any_of HT_.out (by kernel_rfl)) (fun _ _ _ h=>h) (Or.inl ⟨by rfl,?_⟩) ?_ ?_
        rotate_left
        ·intro w'
         go_simp
         with_reducible rfl
        rotate_left
        ·simp only [Act.put,List.setIfInBounds_toArray,List.set_cons_zero,List.set_cons_succ,i64_w,i32_w]
         rfl
        refine pure_ (i:=3) (N:=some 17) (v:=?_) (a':=?_) #[true,true,true,true,false,false,false,false,false,false,false,false,false,false,false,false] rfl rfl (any_of HT_.out (by kernel_rfl)) (fun _ _ _ h=>h) (Or.inl ⟨by rfl,?_⟩) ?_ ?_
        rotate_left
        ·intro w'
         go_simp
         with_reducible rfl
        rotate_left
        ·simp only [Act.put,List.setIfInBounds_toArray,List.set_cons_zero,List.set_cons_succ,i64_w,i32_w]
         rfl
        refine pure_ (i:=4) (N:=some 18) (v:=?_) (a':=?_) #[true,true,true,true,true,false,false,false,false,false,false,false,false,false,false,false] rfl rfl (any_of HT_.out (by kernel_rfl)) (fun _ _ _ h=>h) (Or.inl ⟨by rfl,?_⟩) ?_ ?_
        rotate_left
        ·intro w'
         go_simp
         with_reducible rfl
        rotate_left
        ·simp only [Act.put,List.setIfInBounds_toArray,List.set_cons_zero,List.set_cons_succ,i64_w,i32_w]
         rfl
        refine pure_ (i:=5) (N:=some 19) (v:=?_) (a':=?_) #[true,true,true,true,true,true,false,false,false,false,false,false,false,false,false,false] rfl rfl (any_of HT_.out (by kernel_rfl)) (fun _ _ _ h=>h) (Or.inl ⟨by rfl,?_⟩) ?_ ?_
        rotate_left
        ·intro w'
         go_simp
         with_reducible rfl
        rotate_left
        ·simp only [Act.put,List.setIfInBounds_toArray,List.set_cons_zero,List.set_cons_succ,i64_w,i32_w]
         rfl
        refine pure_ (i:=6) (N:=some 20) (v:=?_) (a':=?_) #[true,true,true,true,true,true,true,false,false,false,false,false,false,false,false,false] rfl rfl (any_of HT_.out (by kernel_rfl)) (fun _ _ _ h=>h) (Or.inl ⟨by rfl,?_⟩) ?_ ?_
        rotate_left
        ·intro w'
         go_simp
         with_reducible rfl
        rotate_left
        ·simp only [Act.put,List.setIfInBounds_toArray,List.set_cons_zero,List.set_cons_succ,i64_w,i32_w]
         rfl
        refine pure_ (i:=8) (N:=some 22) (v:=?_) (a':=?_) #[true,true,true,true,true,true,true,false,true,false,false,false,false,false,false,false] rfl rfl (any_of HT_.out (by kernel_rfl)) (fun _ _ _ h=>h) (Or.inl ⟨by rfl,?_⟩) ?_ ?_
        rotate_left
        ·intro w'
         go_simp
         with_reducible rfl
        rotate_left
        ·simp only [Act.put,List.setIfInBounds_toArray,List.set_cons_zero,List.set_cons_succ,i64_w,i32_w]
         rfl
        refine pure_ (i:=9) (N:=some 23) (v:=?_) (a':=?_) #[true,true,true,true,true,true,true,false,true,true,false,false,false,false,false,false] rfl rfl (any_of HT_.out (by kernel_rfl)) (fun _ _ _ h=>h) (Or.inl ⟨by rfl,?_⟩) ?_ ?_
        rotate_left
        ·intro w'
         go_simp
         with_reducible rfl
        rotate_left
        ·simp only [Act.put,List.setIfInBounds_toArray,List.set_cons_zero,List.set_cons_succ,i64_w,i32_w]
         rfl
        refine pure_ (i:=10) (N:=some 24) (v:=?_) (a':=?_) #[true,true,true,true,true,true,true,false,true,true,true,false,false,false,false,false] rfl rfl (any_of HT_.out (by kernel_rfl)) (fun _ _ _ h=>h) (Or.inl ⟨by rfl,?_⟩) ?_ ?_
        rotate_left
        ·intro w'
         go_simp
         with_reducible rfl
        rotate_left
        ·simp only [Act.put,List.setIfInBounds_toArray,List.set_cons_zero,List.set_cons_succ,i64_w,i32_w]
         rfl
        refine take_ (i:=7) (N:=some 21) (v:=?_) (a':=?_) #[true,true,true,true,true,true,true,true,true,true,true,false,false,false,false,false] rfl rfl (take_ofW HT_.out HW_.out (by kernel_rfl)) (fun _ _ _ h=>h) (Or.inl ⟨by rfl,?_⟩) hHeld ?_ ?_
        rotate_left
        ·rintro w' ⟨s0,s1⟩
         go_simp
         with_reducible rfl
        rotate_left
        ·simp only [Act.put,List.setIfInBounds_toArray,List.set_cons_zero,List.set_cons_succ,i64_w,i32_w]
         rfl
        refine take_ (i:=11) (N:=some 25) (v:=?_) (a':=?_) #[true,true,true,true,true,true,true,true,true,true,true,true,false,false,false,false] rfl rfl (take_ofW HT_.out HW_.out (by kernel_rfl)) (fun _ _ _ h=>h) (Or.inl ⟨by rfl,?_⟩) hHeld ?_ ?_
        rotate_left
        ·rintro w' ⟨s0,s1⟩
         go_simp
         with_reducible rfl
        rotate_left
        ·simp only [Act.put,List.setIfInBounds_toArray,List.set_cons_zero,List.set_cons_succ,i64_w,i32_w]
         rfl
        refine pure_ (i:=12) (N:=some 26) (v:=?_) (a':=?_) #[true,true,true,true,true,true,true,true,true,true,true,true,true,false,false,false] rfl rfl (any_of HT_.out (by kernel_rfl)) (fun _ _ _ h=>h) (Or.inl ⟨by rfl,?_⟩) ?_ ?_
        rotate_left
        ·intro w'
         go_simp
         with_reducible rfl
        rotate_left
        ·simp only [Act.put,List.setIfInBounds_toArray,List.set_cons_zero,List.set_cons_succ,i64_w,i32_w]
         rfl
        refine last_ (i:=13) (N:=none) #[true,true,true,true,true,true,true,true,true,true,true,true,true,true,false,false] rfl rfl (one_of HT_.out (by kernel_rfl)) (by decide) (fun K hK=>?_)
        refine skip_ (w1:=?_) (by rfl) rfl ?_ ?_
        rotate_left
        ·go_simp
         rfl
        refine hK.out _ _ ?_
        clear hK K
        refine pure_ (i:=14) (N:=some 27) (v:=?_) (a':=?_) #[true,true,true,true,true,true,true,true,true,true,true,true,true,true,true,false] rfl rfl (any_of HT_.out (by kernel_rfl)) (fun _ _ _ h=>h) (Or.inl ⟨by rfl,?_⟩) ?_ ?_
        rotate_left
        ·intro w'
         go_simp
         with_reducible rfl
        rotate_left
        ·simp only [Act.put,List.setIfInBounds_toArray,List.set_cons_zero,List.set_cons_succ,i64_w,i32_w]
         rfl
        refine last_ (i:=15) (N:=none) #[true,true,true,true,true,true,true,true,true,true,true,true,true,true,true,true] rfl rfl (one_of HT_.out (by kernel_rfl)) (by decide) (fun K hK=>?_)
        refine skip_ (w1:=?_) (by rfl) rfl ?_ ?_
        rotate_left
        ·go_simp
         rfl
        refine hK.out _ _ ?_
        clear hK K
        refine done_ (done_of HT_.out (by kernel_rfl)) ?_
        try go_wp2
        (try simp only [← hl0_1])
        go_roundg k1
        case measure=>have:=HK1.out;omega
        case rel=>exact ⟨(y260),(wrap64 (x2_1+1)),(wrap64 (x3_1-1)),(by first|rfl|(simp;done)|(simp [*];done)),(by first|rfl|(simp;done)|(simp [*];done)),H',⟨by have:=HK1.out;omega⟩,⟨by (try simp only [hl0_1]);(with_reducible repeat (first|apply Kd.R_alloc|apply Kd.R_drewN|apply Kd.R_drew));exact HQ12.out⟩,⟨by repeat (first|(with_reducible first|exact HK.out|apply Kept.alloc|apply Kept.drewN|apply Kept.drew|refine Kept.setCell ?_ HMgo8.out _|refine Kept.setCell ?_ HMgo8.out _)|exact HK.out)⟩,⟨by repeat (first|(with_reducible first|exact HB.out|apply below_alloc|apply pw_below_drewN|apply below_drew1|refine below_set ?_ GB8.out|refine below_set ?_ GB8.out)|exact HB.out)⟩⟩
       ·rw [if_neg c7] at H
        exact absurd H (by simp)
      ·rw [if_neg c6] at H
       exact absurd H (by simp)
     ·rw [if_neg c5] at H
      exact absurd H (by simp)
    ·rw [if_neg c4] at H
     exact absurd H (by simp)
   ·rw [if_neg c3] at H
    have c3b0:decide (x2_1<x3_1)=false:=decide_eq_false c3
    clear c3
    obtain rfl:=Option.some.inj H
    go_wp2
    first|go_end0|((try simp only [Exit.inBlock,Exit.then]);refine bodyPost_ret (results_none rfl _ _ _) rfl ?_)
    exact ⟨by first|rfl|(simp [errW_none,errW_some] <;> rfl)|(simp [*,errW_none,errW_some] <;> rfl),(by first|exact (by (with_reducible repeat (first|apply Kd.R_alloc|apply Kd.R_drewN|apply Kd.R_drew));exact HO_0.out)|(simp only [hl0_1];exact (by (with_reducible repeat (first|apply Kd.R_alloc|apply Kd.R_drewN|apply Kd.R_drew));exact HO_0.out))),by repeat (first|(with_reducible first|exact HB.out|apply below_alloc|apply pw_below_drewN|apply below_drew1)|exact HB.out),by repeat (first|(with_reducible first|exact HK.out|apply Kept.alloc|apply Kept.drewN|apply Kept.drew)|exact HK.out)⟩
end Go.Proofs.YtjaflmhdclmolaaDoor.F
end
section
namespace Go.Proofs.YtjaflmhdclmolaaDoor.F
open Go.RowKit Go.Proofs.YtjaflmhdclmolaaDoorW.PrintWords Go.Proofs.YtjaflmhdclmolaaDoorW.PrintLast Go.Proofs.YtjaflmhdclmolaaDoorW.PrintMore
attribute [local go_sem] max2_int min2_int max_two min_two max_three min_three max_four min_four   
set_option linter.unusedVariables false
set_option linter.unusedSimpArgs false
mutual
def natural_Format.l0:Nat→List Int→List Int→Option (ByteArray)
 | 0,_,_=>none
 | k+1,x3,x4=>if (x3.length:Int)>0 then ((natural_divideSmall.f k x3 1000000000).bind fun bt266=>(natural_Format.l1 k bt266.1 x4 bt266.2 0)) else ((slices_Reverse_byte_byte.f k x4).bind fun t264=>((strings_TrimLeft.f (strOfNums t264) (⟨#[48]⟩:ByteArray)).bind fun t265=>(some t265)))
def natural_Format.l1:Nat→List Int→List Int→Int→Int→Option (ByteArray)
 | 0,_,_,_,_=>none
 | k+1,x3,x4,x5,x19=>if x19<9 then (if x4.length<140737488355328 then (natural_Format.l1 k x3 (x4 ++ [((48+(Int.tmod x5 10))%4294967296)%256]) ((Int.tdiv x5 10)%4294967296) (wrap64 (x19+1))) else (none)) else (natural_Format.l0 k x3 x4)
end
def natural_Format.f (k:Nat) (a0:ByteArray):Option (ByteArray):=(natural_parse.f k a0).bind fun t261=>(if (t261.length:Int)=0 then (some (⟨#[48]⟩:ByteArray)) else (natural_Format.l0 k t261 ([]:List Int)))
theorem natural_Format.mono_l:∀ k,(∀ y0 y1,LeO (natural_Format.l0 k y0 y1) (natural_Format.l0 (k+1) y0 y1))∧(∀ y0 y1 y2 y3,LeO (natural_Format.l1 k y0 y1 y2 y3) (natural_Format.l1 (k+1) y0 y1 y2 y3))
 | 0=>⟨fun _ _ r h=>by simp [natural_Format.l0] at h,fun _ _ _ _ r h=>by simp [natural_Format.l1] at h⟩
 | k+1=>by
  obtain ⟨ih0,ih1⟩:=natural_Format.mono_l k
  refine ⟨?_,?_⟩
  ·intro y0 y1
   unfold natural_Format.l0
   repeat' first
   | (with_reducible exact ih0 _ _)
   | (with_reducible exact ih1 _ _ _ _)
   | (with_reducible exact natural_divideSmall.mono _ _ _)
   | (with_reducible exact natural_parse.mono _ _)
   | (with_reducible exact slices_Reverse_byte_byte.mono _ _)
   | (with_reducible exact LeO.refl _)
   | (with_reducible exact LeO.none _)
   | (with_reducible refine LeO.ite ?_ ?_)
   | (with_reducible refine LeO.bind ?_ (fun _=>?_))
   | exact ih0 _ _
   | exact ih1 _ _ _ _
   | exact natural_divideSmall.mono _ _ _
   | exact natural_parse.mono _ _
   | exact slices_Reverse_byte_byte.mono _ _
   | exact LeO.none _
   | refine LeO.ite ?_ ?_
   | refine LeO.bind ?_ (fun _=>?_)
  ·intro y0 y1 y2 y3
   unfold natural_Format.l1
   repeat' first
   | (with_reducible exact ih0 _ _)
   | (with_reducible exact ih1 _ _ _ _)
   | (with_reducible exact natural_divideSmall.mono _ _ _)
   | (with_reducible exact natural_parse.mono _ _)
   | (with_reducible exact slices_Reverse_byte_byte.mono _ _)
   | (with_reducible exact LeO.refl _)
   | (with_reducible exact LeO.none _)
   | (with_reducible refine LeO.ite ?_ ?_)
   | (with_reducible refine LeO.bind ?_ (fun _=>?_))
   | exact ih0 _ _
   | exact ih1 _ _ _ _
   | exact natural_divideSmall.mono _ _ _
   | exact natural_parse.mono _ _
   | exact slices_Reverse_byte_byte.mono _ _
   | exact LeO.none _
   | refine LeO.ite ?_ ?_
   | refine LeO.bind ?_ (fun _=>?_)
theorem natural_Format.mono:∀ a0 k,LeO (natural_Format.f k a0) (natural_Format.f (k+1) a0):=by
 intro a0 k
 obtain ⟨ih0,ih1⟩:=natural_Format.mono_l k
 unfold natural_Format.f
 repeat' first
  | (with_reducible exact ih0 _ _)
  | (with_reducible exact ih1 _ _ _ _)
  | (with_reducible exact natural_divideSmall.mono _ _ _)
  | (with_reducible exact natural_parse.mono _ _)
  | (with_reducible exact slices_Reverse_byte_byte.mono _ _)
  | (with_reducible exact LeO.refl _)
  | (with_reducible exact LeO.none _)
  | (with_reducible refine LeO.ite ?_ ?_)
  | (with_reducible refine LeO.bind ?_ (fun _=>?_))
  | exact ih0 _ _
  | exact ih1 _ _ _ _
  | exact natural_divideSmall.mono _ _ _
  | exact natural_parse.mono _ _
  | exact slices_Reverse_byte_byte.mono _ _
  | exact LeO.none _
  | refine LeO.ite ?_ ?_
  | refine LeO.bind ?_ (fun _=>?_)
set_option maxHeartbeats 8000000 in
set_option maxRecDepth 100000 in
theorem natural_Format.calls (k:Nat) (a0:ByteArray) (r:ByteArray) (w:World) (h:natural_Format.f k a0=some r) :
 Calls Tryd.prog 28 #[.string a0] w fun e w'=>e = .returned (.string r)∧Below w.heap.size w w':=by
 have HB:=Aside0.mk (Below.refl w.heap.size w)
 have H:((natural_parse.f k a0).bind fun t261=>(if (t261.length:Int)=0 then (some (⟨#[48]⟩:ByteArray)) else (natural_Format.l0 k t261 ([]:List Int))))=some r:=h
 clear h
 replace H:=Option.bind_eq_some_iff.mp H
 obtain ⟨t261,A20,H⟩:=H
 replace H:(if (t261.length:Int)=0 then (some (⟨#[48]⟩:ByteArray)) else (natural_Format.l0 k t261 ([]:List Int)))=some r:=H
 have A2:=Aside0.mk A20
 clear A20
 by_cases c3:(t261.length:Int)=0
 ·rw [if_pos c3] at H
  have c3b0:((t261.length:Int) == 0)=true:=beq_iff_eq.mpr c3
  have c3b1:((t261.length:Int) != 0)=false:=bne_eq_false_iff_eq.mpr c3
  clear c3
  obtain rfl:=Option.some.inj H
  go_enter Tryd.func28,Tryd.ntmps28
  go_wp2_with (first|((with_reducible refine gate_callee (f:=42) rfl ?_);refine goesL_ (some 7) rfl rfl Tryd.func42 (by kernel_rfl) rfl #[.string a0] rfl (by (try simp only [List.map_toArray,List.map_cons,List.map_nil]);first|done|rfl|(simp only [List.length_drop,List.length_take];rfl)) ?_;(with_reducible refine (natural_parse.calls k a0 t261 _ A2.out).mono ?_);rintro e w4 ⟨v262,rfl,ho0,hb⟩;refine ⟨_,rfl,?_⟩;have n0_:=Aside0.mk (Kd.R_lower ho0 (below_size (by repeat (first|(with_reducible first|exact HB.out|apply below_alloc|apply pw_below_drewN|apply below_drew1)|exact HB.out))));have n1_:=Aside0.mk (below_step (by repeat (first|(with_reducible first|exact HB.out|apply below_alloc|apply pw_below_drewN|apply below_drew1)|exact HB.out)) hb);clear HB;have HO263:=n0_;have HB:=n1_;clear n0_ n1_;(try clear hb);(try clear hb2);(try clear hk);(try clear hi);(try clear ho0);obtain ⟨Ao5,co5,eo5⟩:=Kd.R_slice HO263.out;subst eo5))
  go_ret
  exact ⟨by first|rfl|(simp [errW_none,errW_some] <;> rfl)|(simp [*,errW_none,errW_some] <;> rfl),by repeat (first|(with_reducible first|exact HB.out|apply below_alloc|apply pw_below_drewN|apply below_drew1)|exact HB.out)⟩
 ·rw [if_neg c3] at H
  have c3b0:((t261.length:Int) == 0)=false:=beq_eq_false_iff_ne.mpr c3
  have c3b1:((t261.length:Int) != 0)=true:=bne_iff_ne.mpr c3
  have c3b2:¬ (t261=[]):=fun h_=>c3 (by rw [h_];rfl)
  have H':=Aside0.mk H
  clear H
  go_enter Tryd.func28,Tryd.ntmps28
  go_wp2_with (first|((with_reducible refine gate_callee (f:=42) rfl ?_);refine goesL_ (some 7) rfl rfl Tryd.func42 (by kernel_rfl) rfl #[.string a0] rfl (by (try simp only [List.map_toArray,List.map_cons,List.map_nil]);first|done|rfl|(simp only [List.length_drop,List.length_take];rfl)) ?_;(with_reducible refine (natural_parse.calls k a0 t261 _ A2.out).mono ?_);rintro e w6 ⟨v262,rfl,ho0,hb⟩;refine ⟨_,rfl,?_⟩;have n0_:=Aside0.mk (Kd.R_lower ho0 (below_size (by repeat (first|(with_reducible first|exact HB.out|apply below_alloc|apply pw_below_drewN|apply below_drew1)|exact HB.out))));have n1_:=Aside0.mk (below_step (by repeat (first|(with_reducible first|exact HB.out|apply below_alloc|apply pw_below_drewN|apply below_drew1)|exact HB.out)) hb);clear HB;have HO263:=n0_;have HB:=n1_;clear n0_ n1_;(try clear hb);(try clear hb2);(try clear hk);(try clear hi);(try clear ho0);obtain ⟨Ao7,co7,eo7⟩:=Kd.R_slice HO263.out;subst eo7))
  go_loopg [3,4] k (fun kq v3 v4 w'=>∃ (x3_1:List Int) (x4_1:List Int),Aside0 (natural_Format.l0 kq x3_1 x4_1=some r)∧Aside0 (kq≤k)∧Aside0 (Kd.R (Kd.int .u32) 60 w' w.heap.size (fun _=>True) v3 x3_1)∧Aside0 (Kd.R (Kd.int .u8) 5 w' w.heap.size (fun _=>True) v4 x4_1)∧Aside0 (Below w.heap.size w w'))
  case atStart=>exact ⟨(t261),(([]:List Int)),H',⟨Nat.le_refl _⟩,⟨by (with_reducible repeat (first|apply Kd.R_alloc|apply Kd.R_drewN|apply Kd.R_drew));exact HO263.out⟩,⟨by first|exact Kd.R_nil _ _ _ _ _|exact Kd.N_nil _ _ _ _ _|exact Kd.V_nil _ _ _ _ _|exact Kd.Q_nil _ _ _ _ _|exact Kd.S_nil _ _ _ _ _⟩,⟨by repeat (first|(with_reducible first|exact HB.out|apply below_alloc|apply pw_below_drewN|apply below_drew1)|exact HB.out)⟩⟩
  case round=>
   clear H'
   try clear c2
   try clear p2
   try clear c3
   try clear c3b0
   try clear c3b1
   try clear c3b2
   try clear c4
   obtain ⟨x3_1,x4_1,HA,HK1,HO_3,HO_4,HB⟩:=hrel
   cases gk with
   | zero=>exact absurd HA.out (by simp [natural_Format.l0])
   | succ k1=>
    have H:=HA.out
    clear HA
    simp only [natural_Format.l0] at H
    by_cases c8:(x3_1.length:Int)>0
    ·rw [if_pos c8] at H
     have c8b0:decide (0<(x3_1.length:Int))=true:=decide_eq_true c8
     have c8b1:decide (0<x3_1.length)=true:=decide_eq_true (by omega)
     clear c8
     replace H:=Option.bind_eq_some_iff.mp H
     obtain ⟨⟨t266,t267⟩,A90,H⟩:=H
     replace H:(natural_Format.l1 k1 t266 x4_1 t267 0)=some r:=H
     have A9:=Aside0.mk A90
     clear A90
     have H':=Aside0.mk H
     clear H
     obtain ⟨Ao10,co10,eo10⟩:=Kd.R_slice HO_3.out
     subst eo10
     go_wp2_with (first|((with_reducible refine gate_callee (f:=56) rfl ?_);refine goesL_ (some 16) rfl rfl Tryd.func56 (by kernel_rfl) rfl #[.slice Ao10 x3_1.length co10,.int .u32 1000000000] rfl (by (try simp only [List.map_toArray,List.map_cons,List.map_nil]);first|done|rfl|(simp only [List.length_drop,List.length_take];rfl)) ?_;(with_reducible refine (natural_divideSmall.calls k1 _ _ x3_1 1000000000 t266 t267 _ ?side1 ?side2 A9.out).mono ?_);(case side1=>repeat (first|exact (Kd.R_reads' HO_3.out).2.2|(with_reducible refine Kd.C_alloc ?_ _)|(with_reducible refine Kd.C_drewN ?_ _)|(with_reducible refine Kd.C_drew ?_)));(case side2=>exact (Kd.R_reads' HO_3.out).2.1);rintro e w11 ⟨v268,rfl,ho0,hb⟩;refine ⟨_,rfl,?_⟩;have n0_:=Aside0.mk (Kd.R_elder' (by (with_reducible repeat (first|apply Kd.R_alloc|apply Kd.R_drewN|apply Kd.R_drew));exact HO_3.out) (Kd.R_base ho0) hb);have n1_:=Aside0.mk (Kd.R_below (by (with_reducible repeat (first|apply Kd.R_alloc|apply Kd.R_drewN|apply Kd.R_drew));exact HO_4.out) hb);have n2_:=Aside0.mk (Kd.R_lower (Kd.R_new' ho0 (Kd.R_lt (by (with_reducible repeat (first|apply Kd.R_alloc|apply Kd.R_drewN|apply Kd.R_drew));exact HO_3.out))) (below_size (by repeat (first|(with_reducible first|exact HB.out|apply below_alloc|apply pw_below_drewN|apply below_drew1)|exact HB.out))));have n3_:=Aside0.mk (below_step (by repeat (first|(with_reducible first|exact HB.out|apply below_alloc|apply pw_below_drewN|apply below_drew1)|exact HB.out)) hb);clear HO_3;clear HO_4;clear HB;have HO_3:=n0_;have HO_4:=n1_;have HO269:=n2_;have HB:=n3_;clear n0_ n1_ n2_ n3_;(try clear hb);(try clear hb2);(try clear hk);(try clear hi);(try clear ho0)))
     go_loopg [4,5,19] k1 (fun kq v4 v5 v19 w'=>∃ (x4_2:List Int) (x5_2:Int) (x19_2:Int),v5 = .int .u32 x5_2∧v19 = .int .i64 x19_2∧Aside0 (natural_Format.l1 kq t266 x4_2 x5_2 x19_2=some r)∧Aside0 (kq≤k1)∧Aside0 (Kd.R (Kd.int .u32) 60 w' w.heap.size (fun _=>True) v268 t266)∧Aside0 (Kd.R (Kd.int .u8) 5 w' w.heap.size (fun _=>True) v4 x4_2)∧Aside0 (Below w.heap.size w w'))
     case atStart=>exact ⟨(x4_1),(t267),(0),(by first|rfl|(simp;done)|(simp [*];done)),(by first|rfl|(simp;done)|(simp [*];done)),H',⟨Nat.le_refl _⟩,⟨by (with_reducible repeat (first|apply Kd.R_alloc|apply Kd.R_drewN|apply Kd.R_drew));exact Kd.R_mono HO269.out (fun _ hk=>trivial)⟩,⟨by (with_reducible repeat (first|apply Kd.R_alloc|apply Kd.R_drewN|apply Kd.R_drew));exact HO_4.out⟩,⟨by repeat (first|(with_reducible first|exact HB.out|apply below_alloc|apply pw_below_drewN|apply below_drew1)|exact HB.out)⟩⟩
     case round=>
      clear H'
      try clear c2
      try clear p2
      try clear c3
      try clear c3b0
      try clear c3b1
      try clear c3b2
      try clear c4
      try clear c5
      try clear c8
      try clear c8b0
      try clear c8b1
      try clear p2
      obtain ⟨x4_2,x5_2,x19_2,rfl,rfl,HA,HK2,HO_3,HO_4,HB⟩:=hrel
      cases gk with
      | zero=>exact absurd HA.out (by simp [natural_Format.l1])
      | succ k2=>
       have H:=HA.out
       clear HA
       simp only [natural_Format.l1] at H
       by_cases c12:x19_2<9
       ·rw [if_pos c12] at H
        have c12b0:decide (x19_2<9)=true:=decide_eq_true c12
        clear c12
        by_cases c13:x4_2.length<140737488355328
        ·rw [if_pos c13] at H
         have LMc13:=Aside0.mk c13
         clear c13
         obtain ⟨y270,hy270⟩:∃ y_:List Int,y_=(x4_2 ++ [((48+(Int.tmod x5_2 10))%4294967296)%256]):=⟨_,rfl⟩
         replace H:(natural_Format.l1 k2 t266 y270 ((Int.tdiv x5_2 10)%4294967296) (wrap64 (x19_2+1)))=some r:=by first|(rw [hy270];with_reducible exact H)|(have H2_:=(Option.bind_some _ _).symm.trans H;rw [hy270];with_reducible exact H2_)|(have H2_:=(Option.bind_some _ _).symm.trans H;with_reducible exact H2_)|with_reducible exact H|(rw [hy270];exact H)|exact H
         have Ny270:=Aside0.mk hy270
         clear hy270
         have H':=Aside0.mk H
         clear H
         go_wp2_with (first|((with_reducible refine gate_builtin (b:=.append) (xs:=#[.tmp 21,.tmp 26]) rfl ?_);at_builtin;refine Kd.R_append (Kd.int .u8) (w0:=w) w.heap.size rfl (.tmp 21) (.tmp 26) 37 5 (.int .u8 0) 1 rfl Tryd.underlying37 info5 rfl (by decide) (by omega) u4 x4_2 ((48+(Int.tmod x5_2 10))%256) [.int .u8 ((48+(Int.tmod x5_2 10))%256)] (fun _=>True) (fun _=>False) rfl rfl ?aP (fun _ hk=>hk.elim) ?aF ?aO ?aB ?aS ?aL ?_;(case aP=>exact rfl);(case aB=>exact (by repeat (first|(with_reducible first|exact HB.out|apply below_alloc|apply pw_below_drewN|apply below_drew1)|exact HB.out)));(case aF=>exact (fun _ _=>trivial));(case aO=>exact (by (with_reducible repeat (first|apply Kd.R_alloc|apply Kd.R_drewN|apply Kd.R_drew));exact HO_4.out));(case aS=>exact (below_size (by repeat (first|(with_reducible first|exact HB.out|apply below_alloc|apply pw_below_drewN|apply below_drew1)|exact HB.out))));(case aL=>have:=LMc13.out;omega);intro v271 w14 ho hb hg hat;have hN_:=Ny270.out;rw [Int.emod_emod_of_dvd _ (by decide)] at hN_;rw [← hN_] at ho;clear hN_;have n0_:=Aside0.mk (Kd.R_over' (by (with_reducible repeat (first|apply Kd.R_alloc|apply Kd.R_drewN|apply Kd.R_drew));exact HO_3.out) (Kd.R_typed (by (with_reducible repeat (first|apply Kd.R_alloc|apply Kd.R_drewN|apply Kd.R_drew));exact HO_4.out)) (by decide) hg);have n1_:=Aside0.mk (hb);have n2_:=Aside0.mk (ho);clear HO_3;clear HB;clear HO_4;have HO_3:=n0_;have HB:=n1_;have HO272:=n2_;clear n0_ n1_ n2_;clear ho hb hg hat))
         go_roundg k2
         case measure=>have:=HK1.out;have:=HK2.out;omega
         case rel=>exact ⟨(y270),((Int.tdiv x5_2 10)%4294967296),(wrap64 (x19_2+1)),(by first|rfl|(simp;done)|(simp [*];done)),(by first|rfl|(simp;done)|(simp [*];done)),H',⟨by have:=HK1.out;have:=HK2.out;omega⟩,⟨by (with_reducible repeat (first|apply Kd.R_alloc|apply Kd.R_drewN|apply Kd.R_drew));exact HO_3.out⟩,⟨by (with_reducible repeat (first|apply Kd.R_alloc|apply Kd.R_drewN|apply Kd.R_drew));exact HO272.out⟩,⟨by repeat (first|(with_reducible first|exact HB.out|apply below_alloc|apply pw_below_drewN|apply below_drew1)|exact HB.out)⟩⟩
        ·rw [if_neg c13] at H
         exact absurd H (by simp)
       ·rw [if_neg c12] at H
        have c12b0:decide (x19_2<9)=false:=decide_eq_false c12
        clear c12
        have H':=Aside0.mk H
        clear H
        go_wp2
        go_roundg k2
        case measure=>have:=HK1.out;have:=HK2.out;omega
        case rel=>exact ⟨(t266),(x4_2),H',⟨by have:=HK1.out;have:=HK2.out;omega⟩,⟨by (with_reducible repeat (first|apply Kd.R_alloc|apply Kd.R_drewN|apply Kd.R_drew));exact HO_3.out⟩,⟨by (with_reducible repeat (first|apply Kd.R_alloc|apply Kd.R_drewN|apply Kd.R_drew));exact HO_4.out⟩,⟨by repeat (first|(with_reducible first|exact HB.out|apply below_alloc|apply pw_below_drewN|apply below_drew1)|exact HB.out)⟩⟩
    ·rw [if_neg c8] at H
     have c8b0:decide (0<(x3_1.length:Int))=false:=decide_eq_false c8
     have c8b1:decide (0<x3_1.length)=false:=decide_eq_false (by omega)
     clear c8
     replace H:=Option.bind_eq_some_iff.mp H
     obtain ⟨t264,A150,H⟩:=H
     replace H:((strings_TrimLeft.f (strOfNums t264) (⟨#[48]⟩:ByteArray)).bind fun t265=>(some t265))=some r:=H
     have A15:=Aside0.mk A150
     clear A150
     replace H:=Option.bind_eq_some_iff.mp H
     obtain ⟨t265,A160,H⟩:=H
     replace H:(some t265)=some r:=H
     have A16:=Aside0.mk A160
     clear A160
     obtain rfl:=Option.some.inj H
     obtain ⟨Ao17,co17,eo17⟩:=Kd.R_slice HO_3.out
     subst eo17
     obtain ⟨Ao18,co18,eo18⟩:=Kd.R_slice HO_4.out
     subst eo18
     go_wp2_with (first|((with_reducible refine gate_callee (f:=57) rfl ?_);refine goesL_ (some 32) rfl rfl Tryd.func57 (by kernel_rfl) rfl #[.slice Ao18 x4_1.length co18] rfl (by (try simp only [List.map_toArray,List.map_cons,List.map_nil]);first|done|rfl|(simp only [List.length_drop,List.length_take];rfl)) ?_;(with_reducible refine (slices_Reverse_byte_byte.calls k1 (fun k_=>some k_=(.slice Ao18 x4_1.length co18:Value).ownBlock) (.slice Ao18 x4_1.length co18) x4_1 t264 w _ ?side1 ?side2 A15.out).mono ?_);(case side1=>repeat (first|(with_reducible first|exact HB.out|apply below_alloc|apply pw_below_drewN|apply below_drew1)|exact HB.out));(case side2=>exact Kd.R_tight rfl HO_4.out);rintro e w19 ⟨rfl,hy0,hb,hkp⟩;refine ⟨_,rfl,?_⟩;have n0_:=Aside0.mk (Kd.R_mono (ok':=fun k_=>True) (Kd.R_keptB ((Kd.R_apart' HO_3.out (Kd.R_typed HO_4.out) (by decide))) hkp (fun k_ hk_ hs_=>(hk_.2) hs_)) (fun k_ hk_=>trivial));have n1_:=Aside0.mk (Kd.R_reok rfl hy0 (fun k_ e_=>HO_4.out.1 k_ e_));have n2_:=Aside0.mk (hb);clear HO_3;clear HO_4;clear HB;have HO_3:=n0_;have HO_4:=n1_;have HB:=n2_;clear n0_ n1_ n2_;(try clear hb);(try clear hkp);(try clear hy0);have hcv20:=own_string (P:=Tryd.prog) Tryd.underlying37 Tryd.underlying5 Tryd.underlying9 (Kd.own_of_R HO_4.out))|((with_reducible refine gate_callee (f:=41) rfl ?_);refine goesL_ (some 35) rfl rfl Tryd.func41 (by kernel_rfl) rfl #[.string (strOfNums t264),.string (⟨#[48]⟩:ByteArray)] rfl (by (try simp only [List.map_toArray,List.map_cons,List.map_nil]);first|done|rfl|(simp only [List.length_drop,List.length_take];rfl)) ?_;(with_reducible refine (strings_TrimLeft.calls (strOfNums t264) (⟨#[48]⟩:ByteArray) t265 _ A16.out).mono ?_);rintro e w' ⟨rfl,⟨nd,rfl⟩⟩;refine ⟨_,rfl,?_⟩))
     go_ret
     exact ⟨by first|rfl|(simp [errW_none,errW_some] <;> rfl)|(simp [*,errW_none,errW_some] <;> rfl),by repeat (first|(with_reducible first|exact HB.out|apply below_alloc|apply pw_below_drewN|apply below_drew1)|exact HB.out)⟩
end Go.Proofs.YtjaflmhdclmolaaDoor.F
end
section
namespace Go.Proofs.YtjaflmhdclmolaaDoor.F
open Go.RowKit Go.Proofs.YtjaflmhdclmolaaDoorW.PrintWords Go.Proofs.YtjaflmhdclmolaaDoorW.PrintLast Go.Proofs.YtjaflmhdclmolaaDoorW.PrintMore
attribute [local go_sem] max2_int min2_int max_two min_two max_three min_three max_four min_four   
set_option linter.unusedVariables false
set_option linter.unusedSimpArgs false
def natural_multiplyAdd.l0:Nat→List Int→Int→Int→Int→Int→Option (List Int)
 | 0,_,_,_,_,_=>none
 | k+1,x0,x1,x7,x13,x14=>if x14<x13 then (if 0≤x14 then (if x14<(x0.length:Int) then (natural_multiplyAdd.l0 k (x0.set (x14:Int).toNat ((IntKind.u64.wrap ((IntKind.u64.wrap ((IntKind.u64.wrap (rd x0 x14))*(IntKind.u64.wrap (x1))))+x7))%4294967296)) x1 ((IntKind.u64.wrap ((IntKind.u64.wrap ((IntKind.u64.wrap (rd x0 x14))*(IntKind.u64.wrap (x1))))+x7))/4294967296) x13 (wrap64 (x14+1))) else (none)) else (none)) else (if x7>0 then (if x0.length<35184372088832 then (some (x0 ++ [(x7)%4294967296])) else (none)) else (some x0))
def natural_multiplyAdd.f (k:Nat) (l0:List Int) (a1:Int) (a2:Int):Option (List Int):=natural_multiplyAdd.l0 k l0 a1 (IntKind.u64.wrap (a2)) (l0.length:Int) 0
theorem natural_multiplyAdd.mono_l:∀ k,(∀ y0 y1 y2 y3 y4,LeO (natural_multiplyAdd.l0 k y0 y1 y2 y3 y4) (natural_multiplyAdd.l0 (k+1) y0 y1 y2 y3 y4))
 | 0=>fun _ _ _ _ _ r h=>by simp [natural_multiplyAdd.l0] at h
 | k+1=>by
  have ih0:=natural_multiplyAdd.mono_l k
  ·intro y0 y1 y2 y3 y4
   unfold natural_multiplyAdd.l0
   repeat' first
   | (with_reducible exact ih0 _ _ _ _ _)
   | (with_reducible exact LeO.refl _)
   | (with_reducible exact LeO.none _)
   | (with_reducible refine LeO.ite ?_ ?_)
   | (with_reducible refine LeO.bind ?_ (fun _=>?_))
   | exact ih0 _ _ _ _ _
   | exact LeO.none _
   | refine LeO.ite ?_ ?_
   | refine LeO.bind ?_ (fun _=>?_)
theorem natural_multiplyAdd.mono:∀ a0 a1 a2 k,LeO (natural_multiplyAdd.f k a0 a1 a2) (natural_multiplyAdd.f (k+1) a0 a1 a2):=by
 intro a0 a1 a2 k
 have ih0:=natural_multiplyAdd.mono_l k
 unfold natural_multiplyAdd.f
 repeat' first
  | (with_reducible exact ih0 _ _ _ _ _)
  | (with_reducible exact LeO.refl _)
  | (with_reducible exact LeO.none _)
  | (with_reducible refine LeO.ite ?_ ?_)
  | (with_reducible refine LeO.bind ?_ (fun _=>?_))
  | exact ih0 _ _ _ _ _
  | exact LeO.none _
  | refine LeO.ite ?_ ?_
  | refine LeO.bind ?_ (fun _=>?_)
set_option maxHeartbeats 8000000 in
set_option maxRecDepth 100000 in
theorem natural_multiplyAdd.calls (k:Nat) (P0_:Nat→Prop) (u9000_:Value) (l0:List Int) (a1:Int) (a2:Int) (r:List Int) (w0 w:World) (hB:Below w0.heap.size w0 w) (ho0:Kd.R (Kd.int .u32) 60 w w0.heap.size P0_ u9000_ l0) (h:natural_multiplyAdd.f k l0 a1 a2=some r) :
 Calls Tryd.prog 52 #[u9000_,.int .u32 a1,.int .u32 a2] w fun e w'=>∃ v0_:Value,e = .returned (v0_)∧Kd.R (Kd.int .u32) 60 w' w0.heap.size (fun k_=>(P0_ k_∨w.heap.size≤k_)) v0_ r∧Below w0.heap.size w0 w'∧Kept w w' (fun k_=>P0_ k_):=by
 have HO0:=Aside0.mk (show Kd.R (Kd.int .u32) 60 w w0.heap.size (fun k_=>(P0_ k_∨w.heap.size≤k_)) u9000_ l0 from Kd.R_mono ho0 (fun k_ hk=>(.inl hk)))
 have HK:=Aside0.mk (Kept.refl w (fun k_=>P0_ k_))
 have HW0:=Aside0.mk hB.size
 have HB:=Aside0.mk hB
 clear hB
 have H:(natural_multiplyAdd.l0 k l0 a1 (IntKind.u64.wrap (a2)) (l0.length:Int) 0)=some r:=h
 clear h
 have H':=Aside0.mk H
 clear H
 obtain ⟨Ao4,co4,eo4⟩:=Kd.R_slice HO0.out
 subst eo4
 go_enter Tryd.func52,Tryd.ntmps52
 go_wp2
 go_loopg [7,14] k (fun kq v7 v14 w'=>∃ (x0_1:List Int) (x7_1:Int) (x14_1:Int),v7 = .int .u64 x7_1∧v14 = .int .i64 x14_1∧Aside0 (natural_multiplyAdd.l0 kq x0_1 a1 x7_1 (l0.length:Int) x14_1=some r)∧Aside0 (kq≤k)∧Aside0 (Kd.R (Kd.int .u32) 60 w' w0.heap.size (fun k_=>(P0_ k_∨w.heap.size≤k_)) (.slice Ao4 l0.length co4) x0_1)∧Aside0 (Kept w w' (fun k_=>P0_ k_))∧Aside0 (Below w0.heap.size w0 w'))
 case atStart=>exact ⟨(l0),(IntKind.u64.wrap (a2)),(0),(by first|rfl|(simp;done)|(simp [*];done)),(by first|rfl|(simp;done)|(simp [*];done)),H',⟨Nat.le_refl _⟩,⟨by (with_reducible repeat (first|apply Kd.R_alloc|apply Kd.R_drewN|apply Kd.R_drew));exact HO0.out⟩,⟨by repeat (first|(with_reducible first|exact HK.out|apply Kept.alloc|apply Kept.drewN|apply Kept.drew)|exact HK.out)⟩,⟨by repeat (first|(with_reducible first|exact HB.out|apply below_alloc|apply pw_below_drewN|apply below_drew1)|exact HB.out)⟩⟩
 case round=>
  clear H'
  try clear p2
  obtain ⟨x0_1,x7_1,x14_1,rfl,rfl,HA,HK1,HO_0,HK,HB⟩:=hrel
  have hl0_1:=(Kd.R_reads' HO_0.out).1
  rw [hl0_1] at HO_0
  (try simp only [hl0_1])
  cases gk with
  | zero=>exact absurd HA.out (by simp [natural_multiplyAdd.l0])
  | succ k1=>
   have H:=HA.out
   clear HA
   simp only [natural_multiplyAdd.l0] at H
   by_cases c5:x14_1<(l0.length:Int)
   ·rw [if_pos c5] at H
    have c5b0:decide (x14_1<(l0.length:Int))=true:=decide_eq_true c5
    (try (have cX_:=c5b0;rw [hl0_1] at cX_))
    clear c5
    by_cases c6:0≤x14_1
    ·rw [if_pos c6] at H
     have c6b0:decide (0≤x14_1)=true:=decide_eq_true c6
     clear c6
     by_cases c7:x14_1<(x0_1.length:Int)
     ·rw [if_pos c7] at H
      have c7b0:decide (x14_1<(x0_1.length:Int))=true:=decide_eq_true c7
      (try (have cX_:=c7b0;rw [hl0_1] at cX_))
      clear c7
      obtain ⟨y244,hy244⟩:∃ y_:List Int,y_=(x0_1.set (x14_1:Int).toNat ((IntKind.u64.wrap ((IntKind.u64.wrap ((IntKind.u64.wrap (rd x0_1 x14_1))*(IntKind.u64.wrap (a1))))+x7_1))%4294967296)):=⟨_,rfl⟩
      replace H:(natural_multiplyAdd.l0 k1 y244 a1 ((IntKind.u64.wrap ((IntKind.u64.wrap ((IntKind.u64.wrap (rd x0_1 x14_1))*(IntKind.u64.wrap (a1))))+x7_1))/4294967296) (l0.length:Int) (wrap64 (x14_1+1)))=some r:=by first|(rw [hy244];with_reducible exact H)|(have H2_:=(Option.bind_some _ _).symm.trans H;rw [hy244];with_reducible exact H2_)|(have H2_:=(Option.bind_some _ _).symm.trans H;with_reducible exact H2_)|with_reducible exact H|(rw [hy244];exact H)|exact H
      have Ny244:=Aside0.mk hy244
      clear hy244
      have H':=Aside0.mk H
      clear H
      have p243:0≤(x14_1:Int):=of_decide_eq_true (by first|(with_reducible assumption)|assumption)
      have q243:x14_1<(x0_1.length:Int):=of_decide_eq_true (by first|(with_reducible assumption)|assumption)
      obtain ⟨ad243,e243,hx243_0⟩:=Kd.at_int (Kd.R_reads' HO_0.out).2.2 x14_1 p243 q243
      cases e243
      replace p243:=eq_true p243
      replace q243:=eq_true q243
      have p8:0≤(x14_1:Int):=of_decide_eq_true (by first|(with_reducible assumption)|assumption)
      have q8:(x14_1:Int)<((x0_1.length:Int):Int):=of_decide_eq_true (by first|(with_reducible assumption)|assumption)
      obtain ⟨go8,co8,eo8,gb8,gl8,cl8,HG8⟩:=Kd.R_form HO_0.out (by omega)
      (first|cases eo8|(injection eo8 with ea_ en_ ec_;(first|subst ea_|(injection ea_ with ea_;subst ea_));subst ec_;clear en_))
      have GB8:=Aside0.mk gb8
      have GG8:=Aside0.mk HG8
      clear gb8 gl8 HG8
      have HMgo8:=Aside0.mk (show (P0_ go8∨w.heap.size≤go8) from (HO_0.out.1 _ rfl))
      (first|simp only [add_plain] at hx243_0|skip)
      obtain ⟨hx8_0,hf8_0⟩:=Kd.R_celln 0 HO_0.out (x14_1:Int) p8 q8
      replace p8:=eq_true p8
      replace q8:=eq_true q8
      have HP9:=Kd.R_putg HO_0.out (x14_1:Int) ((IntKind.u64.wrap ((IntKind.u64.wrap ((IntKind.u64.wrap (rd x0_1 x14_1))*(IntKind.u64.wrap (a1))))+x7_1))%4294967296)
      go_wp2_with (first|((with_reducible refine gate_store (t:=60) (p:=31) rfl ?_);refine store_event (t:=60) (p:=31) (v:=?vo_w10) (w1:=(wr.setCell ⟨go8,(x14_1:Int).toNat,none⟩ (.int .u32 ((IntKind.u64.wrap ((IntKind.u64.wrap ((IntKind.u64.wrap (rd x0_1 x14_1))*(IntKind.u64.wrap (a1))))+x7_1))%4294967296)))) ?hg ?ho ?hn ?hr ?_;(case ho=>rfl);(case hg=>rfl);(case hn=>rfl);(case hr=>first|(go_simp;done)|(go_simp;rfl));intro w10 hw;have hg:wr.grownBy w10 (some go8):=(by rw [hw];exact HP9.2);have hp_:Kd.R (Kd.int .u32) 60 w10 w0.heap.size (fun k_=>(P0_ k_∨w.heap.size≤k_)) (.slice (some ⟨go8,0,none⟩) x0_1.length co4) y244:=(by rw [hw,Ny244.out];exact HP9.1);clear HP9;have n0_:=Aside0.mk (hp_);have n1_:=Aside0.mk ((by rw [hw];exact below_set (HB.out) GB8.out:Below w0.heap.size w0 w10));have n2_:=Aside0.mk (Kept.of_grown (S:=(fun k_=>P0_ k_)) hg (by repeat (first|(with_reducible first|exact HK.out|apply Kept.alloc|apply Kept.drewN|apply Kept.drew)|exact HK.out)) (fun k_ e_=>(HO_0.out.1 k_ e_)));clear HO_0;clear HB;clear HK;have HO_0:=n0_;have HB:=n1_;have HK:=n2_;clear n0_ n1_ n2_;clear hg hw hp_))
      (try simp only [← hl0_1])
      go_roundg k1
      case measure=>have:=HK1.out;omega
      case rel=>exact ⟨(y244),((IntKind.u64.wrap ((IntKind.u64.wrap ((IntKind.u64.wrap (rd x0_1 x14_1))*(IntKind.u64.wrap (a1))))+x7_1))/4294967296),(wrap64 (x14_1+1)),(by first|rfl|(simp;done)|(simp [*];done)),(by first|rfl|(simp;done)|(simp [*];done)),H',⟨by have:=HK1.out;omega⟩,⟨by (try simp only [hl0_1]);(with_reducible repeat (first|apply Kd.R_alloc|apply Kd.R_drewN|apply Kd.R_drew));exact HO_0.out⟩,⟨by repeat (first|(with_reducible first|exact HK.out|apply Kept.alloc|apply Kept.drewN|apply Kept.drew)|exact HK.out)⟩,⟨by repeat (first|(with_reducible first|exact HB.out|apply below_alloc|apply pw_below_drewN|apply below_drew1)|exact HB.out)⟩⟩
     ·rw [if_neg c7] at H
      exact absurd H (by simp)
    ·rw [if_neg c6] at H
     exact absurd H (by simp)
   ·rw [if_neg c5] at H
    have c5b0:decide (x14_1<(l0.length:Int))=false:=decide_eq_false c5
    (try (have cX_:=c5b0;rw [hl0_1] at cX_))
    clear c5
    by_cases c11:x7_1>0
    ·rw [if_pos c11] at H
     have c11b0:decide (0<x7_1)=true:=decide_eq_true c11
     clear c11
     by_cases c12:x0_1.length<35184372088832
     ·rw [if_pos c12] at H
      have LMc12:=Aside0.mk c12
      clear c12
      obtain ⟨y245,hy245⟩:∃ y_:List Int,y_=(x0_1 ++ [(x7_1)%4294967296]):=⟨_,rfl⟩
      replace H:(some y245)=some r:=by first|(rw [hy245];with_reducible exact H)|(have H2_:=(Option.bind_some _ _).symm.trans H;rw [hy245];with_reducible exact H2_)|(have H2_:=(Option.bind_some _ _).symm.trans H;with_reducible exact H2_)|with_reducible exact H|(rw [hy245];exact H)|exact H
      have Ny245:=Aside0.mk hy245
      clear hy245
      obtain rfl:=Option.some.inj H
      go_wp2_with (first|((with_reducible refine gate_builtin (b:=.append) (xs:=#[.tmp 37,.tmp 40]) rfl ?_);at_builtin;refine Kd.R_append (Kd.int .u32) (w0:=w0) w0.heap.size rfl (.tmp 37) (.tmp 40) 50 60 (.int .u32 0) 4 rfl Tryd.underlying50 info60 rfl (by decide) (by omega) (.slice Ao4 x0_1.length co4) x0_1 ((x7_1)%4294967296) [.int .u32 ((x7_1)%4294967296)] (fun k_=>(P0_ k_∨w.heap.size≤k_)) (fun _=>False) rfl rfl ?aP (fun _ hk=>hk.elim) ?aF ?aO ?aB ?aS ?aL ?_;(case aP=>exact rfl);(case aB=>exact (by repeat (first|(with_reducible first|exact HB.out|apply below_alloc|apply pw_below_drewN|apply below_drew1)|exact HB.out)));(case aF=>exact (fun k_ hk=>(.inr (Nat.le_trans (by first|exact HK.out.1|exact (show Kept w _ (fun k_=>P0_ k_) from by repeat (first|(with_reducible first|exact HK.out|apply Kept.alloc|apply Kept.drewN|apply Kept.drew)|exact HK.out)).1) hk))));(case aO=>exact (by (with_reducible repeat (first|apply Kd.R_alloc|apply Kd.R_drewN|apply Kd.R_drew));exact HO_0.out));(case aS=>exact (below_size (by repeat (first|(with_reducible first|exact HB.out|apply below_alloc|apply pw_below_drewN|apply below_drew1)|exact HB.out))));(case aL=>have:=LMc12.out;omega);intro v246 w13 ho hb hg hat;rw [← Ny245.out] at ho;have n0_:=Aside0.mk (hb);have n1_:=Aside0.mk (Kept.of_grown (S:=(fun k_=>P0_ k_)) hg (by repeat (first|(with_reducible first|exact HK.out|apply Kept.alloc|apply Kept.drewN|apply Kept.drew)|exact HK.out)) (fun k_ e_=>(HO_0.out.1 k_ e_)));have n2_:=Aside0.mk (ho);clear HB;clear HK;clear HO_0;have HB:=n0_;have HK:=n1_;have HO247:=n2_;clear n0_ n1_ n2_;clear ho hb hg hat))
      go_ret
      exact ⟨_,by first|rfl|(simp [errW_none,errW_some] <;> rfl)|(simp [*,errW_none,errW_some] <;> rfl),by (with_reducible repeat (first|apply Kd.R_alloc|apply Kd.R_drewN|apply Kd.R_drew));exact HO247.out,by repeat (first|(with_reducible first|exact HB.out|apply below_alloc|apply pw_below_drewN|apply below_drew1)|exact HB.out),by repeat (first|(with_reducible first|exact HK.out|apply Kept.alloc|apply Kept.drewN|apply Kept.drew)|exact HK.out)⟩
     ·rw [if_neg c12] at H
      exact absurd H (by simp)
    ·rw [if_neg c11] at H
     have c11b0:decide (0<x7_1)=false:=decide_eq_false c11
     clear c11
     obtain rfl:=Option.some.inj H
     go_wp2
     go_ret
     exact ⟨_,by first|rfl|(simp [errW_none,errW_some] <;> rfl)|(simp [*,errW_none,errW_some] <;> rfl),by (with_reducible repeat (first|apply Kd.R_alloc|apply Kd.R_drewN|apply Kd.R_drew));exact HO_0.out,by repeat (first|(with_reducible first|exact HB.out|apply below_alloc|apply pw_below_drewN|apply below_drew1)|exact HB.out),by repeat (first|(with_reducible first|exact HK.out|apply Kept.alloc|apply Kept.drewN|apply Kept.drew)|exact HK.out)⟩
end Go.Proofs.YtjaflmhdclmolaaDoor.F
end
section
namespace Go.Proofs.YtjaflmhdclmolaaDoor.F
open Go.RowKit Go.Proofs.YtjaflmhdclmolaaDoorW.PrintWords Go.Proofs.YtjaflmhdclmolaaDoorW.PrintLast Go.Proofs.YtjaflmhdclmolaaDoorW.PrintMore
attribute [local go_sem] max2_int min2_int max_two min_two max_three min_three max_four min_four   
set_option linter.unusedVariables false
set_option linter.unusedSimpArgs false
def strings_Trim.f (a0:ByteArray) (a1:ByteArray):Option (ByteArray):=if a0.size≤9223372036854775807 then (if a1.size<4294967281 then (if (a1.data.toList.all fun b=>decide (b.toNat<128))=true then (some (⟨(Lib.trimS a0.data.toList a1.data.toList).toArray⟩:ByteArray)) else (none)) else (none)) else (none)
theorem strings_Trim.calls (a0:ByteArray) (a1:ByteArray) (r:ByteArray) (w:World) (h:strings_Trim.f a0 a1=some r) :
 Calls Tryd.prog 51 #[.string a0,.string a1] w fun e w'=>e = .returned (.string r)∧Below w.heap.size w w':=by
 unfold strings_Trim.f at h
 by_cases h1:a0.size≤9223372036854775807
 ·rw [if_pos h1] at h
  by_cases h2:a1.size<4294967281
  ·rw [if_pos h2] at h
   by_cases h3:(a1.data.toList.all fun b=>decide (b.toNat<128))=true
   ·rw [if_pos h3] at h
    obtain rfl:=Option.some.inj h
    exact Tryd.strings_Trim_any a0 a1 w h1 h2 (ascii_of_all h3)
   ·rw [if_neg h3] at h
    exact absurd h (by simp)
  ·rw [if_neg h2] at h
   exact absurd h (by simp)
 ·rw [if_neg h1] at h
  exact absurd h (by simp)
end Go.Proofs.YtjaflmhdclmolaaDoor.F
end
section
namespace Go.Proofs.YtjaflmhdclmolaaDoor.F
open Go.RowKit Go.Proofs.YtjaflmhdclmolaaDoorW.PrintWords Go.Proofs.YtjaflmhdclmolaaDoorW.PrintLast Go.Proofs.YtjaflmhdclmolaaDoorW.PrintMore
attribute [local go_sem] max2_int min2_int max_two min_two max_three min_three max_four min_four   
set_option linter.unusedVariables false
set_option linter.unusedSimpArgs false
mutual
def natural_Parse.j0:Nat→ByteArray→Bool→Option (ByteArray×Int)
 | 0,_,_=>none
 | k+1,x0,x22=>if x22=true then (some ((⟨#[]⟩:ByteArray),3)) else (if (x0.size:Int)>2000 then (some ((⟨#[]⟩:ByteArray),2)) else (natural_Parse.l0 k x0 ([]:List Int) (x0.size:Int) 0))
def natural_Parse.l0:Nat→ByteArray→List Int→Int→Int→Option (ByteArray×Int)
 | 0,_,_,_,_=>none
 | k+1,x0,x4,x27,x28=>if x28<x27 then (if 0≤x28 then (if x28<(x0.size:Int) then ((natural_multiplyAdd.f k x4 10 (((bt x0 x28)-48)%256)).bind fun t250=>(natural_Parse.l0 k x0 t250 x27 (wrap64 (x28+1)))) else (none)) else (none)) else ((natural_limbs_trim.f k x4).bind fun t253=>((natural_limbs_text.f k t253).bind fun t256=>(some (t256,0))))
end
def natural_Parse.f (k:Nat) (a0:ByteArray):Option (ByteArray×Int):=if a0.toList=([]:List UInt8) then (natural_Parse.j0 k a0 true) else (if (a0.size:Int)>1 then (if 0<(a0.size:Int) then (if (bt a0 0)=48 then (natural_Parse.j0 k a0 true) else ((strings_Trim.f a0 (⟨#[48,49,50,51,52,53,54,55,56,57]⟩:ByteArray)).bind fun t248=>(natural_Parse.j0 k a0 (t248.toList != ([]:List UInt8))))) else (none)) else ((strings_Trim.f a0 (⟨#[48,49,50,51,52,53,54,55,56,57]⟩:ByteArray)).bind fun t249=>(natural_Parse.j0 k a0 (t249.toList != ([]:List UInt8)))))
theorem natural_Parse.mono_l:∀ k,(∀ y0 y1,LeO (natural_Parse.j0 k y0 y1) (natural_Parse.j0 (k+1) y0 y1))∧(∀ y0 y1 y2 y3,LeO (natural_Parse.l0 k y0 y1 y2 y3) (natural_Parse.l0 (k+1) y0 y1 y2 y3))
 | 0=>⟨fun _ _ r h=>by simp [natural_Parse.j0] at h,fun _ _ _ _ r h=>by simp [natural_Parse.l0] at h⟩
 | k+1=>by
  obtain ⟨ih0,ih1⟩:=natural_Parse.mono_l k
  refine ⟨?_,?_⟩
  ·intro y0 y1
   unfold natural_Parse.j0
   repeat' first
   | (with_reducible exact ih0 _ _)
   | (with_reducible exact ih1 _ _ _ _)
   | (with_reducible exact natural_limbs_text.mono _ _)
   | (with_reducible exact natural_limbs_trim.mono _ _)
   | (with_reducible exact natural_multiplyAdd.mono _ _ _ _)
   | (with_reducible exact LeO.refl _)
   | (with_reducible exact LeO.none _)
   | (with_reducible refine LeO.ite ?_ ?_)
   | (with_reducible refine LeO.bind ?_ (fun _=>?_))
   | exact ih0 _ _
   | exact ih1 _ _ _ _
   | exact natural_limbs_text.mono _ _
   | exact natural_limbs_trim.mono _ _
   | exact natural_multiplyAdd.mono _ _ _ _
   | exact LeO.none _
   | refine LeO.ite ?_ ?_
   | refine LeO.bind ?_ (fun _=>?_)
  ·intro y0 y1 y2 y3
   unfold natural_Parse.l0
   repeat' first
   | (with_reducible exact ih0 _ _)
   | (with_reducible exact ih1 _ _ _ _)
   | (with_reducible exact natural_limbs_text.mono _ _)
   | (with_reducible exact natural_limbs_trim.mono _ _)
   | (with_reducible exact natural_multiplyAdd.mono _ _ _ _)
   | (with_reducible exact LeO.refl _)
   | (with_reducible exact LeO.none _)
   | (with_reducible refine LeO.ite ?_ ?_)
   | (with_reducible refine LeO.bind ?_ (fun _=>?_))
   | exact ih0 _ _
   | exact ih1 _ _ _ _
   | exact natural_limbs_text.mono _ _
   | exact natural_limbs_trim.mono _ _
   | exact natural_multiplyAdd.mono _ _ _ _
   | exact LeO.none _
   | refine LeO.ite ?_ ?_
   | refine LeO.bind ?_ (fun _=>?_)
theorem natural_Parse.mono:∀ a0 k,LeO (natural_Parse.f k a0) (natural_Parse.f (k+1) a0):=by
 intro a0 k
 obtain ⟨ih0,ih1⟩:=natural_Parse.mono_l k
 unfold natural_Parse.f
 repeat' first
  | (with_reducible exact ih0 _ _)
  | (with_reducible exact ih1 _ _ _ _)
  | (with_reducible exact natural_limbs_text.mono _ _)
  | (with_reducible exact natural_limbs_trim.mono _ _)
  | (with_reducible exact natural_multiplyAdd.mono _ _ _ _)
  | (with_reducible exact LeO.refl _)
  | (with_reducible exact LeO.none _)
  | (with_reducible refine LeO.ite ?_ ?_)
  | (with_reducible refine LeO.bind ?_ (fun _=>?_))
  | exact ih0 _ _
  | exact ih1 _ _ _ _
  | exact natural_limbs_text.mono _ _
  | exact natural_limbs_trim.mono _ _
  | exact natural_multiplyAdd.mono _ _ _ _
  | exact LeO.none _
  | refine LeO.ite ?_ ?_
  | refine LeO.bind ?_ (fun _=>?_)
set_option maxHeartbeats 8000000 in
set_option maxRecDepth 100000 in
theorem natural_Parse.calls (k:Nat) (a0:ByteArray) (r1:ByteArray) (r2:Int) (w:World) (h:natural_Parse.f k a0=some (r1,r2)) :
 Calls Tryd.prog 26 #[.string a0] w fun e w'=>e = .returned (.tuple #[.string r1,.int .i64 r2])∧Below w.heap.size w w':=by
 have HB:=Aside0.mk (Below.refl w.heap.size w)
 have H:(if a0.toList=([]:List UInt8) then (natural_Parse.j0 k a0 true) else (if (a0.size:Int)>1 then (if 0<(a0.size:Int) then (if (bt a0 0)=48 then (natural_Parse.j0 k a0 true) else ((strings_Trim.f a0 (⟨#[48,49,50,51,52,53,54,55,56,57]⟩:ByteArray)).bind fun t248=>(natural_Parse.j0 k a0 (t248.toList != ([]:List UInt8))))) else (none)) else ((strings_Trim.f a0 (⟨#[48,49,50,51,52,53,54,55,56,57]⟩:ByteArray)).bind fun t249=>(natural_Parse.j0 k a0 (t249.toList != ([]:List UInt8))))))=some (r1,r2):=h
 clear h
 have HC2:=Aside0.mk H
 clear H
 go_enter Tryd.func26,Tryd.ntmps26
 go_upto_region 1 with (fail)
 go_cut [22] (fun v22 wc=>∃ (kq:Nat) (x22_1:Bool),v22 = .bool x22_1∧Aside0 (natural_Parse.j0 kq a0 x22_1=some (r1,r2))∧Aside0 (kq≤k)∧Aside0 (Below w.heap.size w wc))
 case first=>
  have H:=HC2.out
  clear HC2
  by_cases c3:a0.toList=([]:List UInt8)
  ·rw [if_pos c3] at H
   have c3b0:(a0.toList == ([]:List UInt8))=true:=beq_iff_eq.mpr c3
   have c3b1:(a0.toList != ([]:List UInt8))=false:=bne_eq_false_iff_eq.mpr c3
   clear c3
   (first|rw [c3b0]|(simp only [i64_w,i32_w];rw [c3b0])|skip)
   have H':=Aside0.mk H
   clear H
   go_wp2
   go_meet
   case rel=>exact ⟨_,(true),(by first|rfl|(simp;done)|(simp [*];done)),H',⟨by first|omega|exact Nat.le_refl _⟩,⟨by repeat (first|(with_reducible first|exact HB.out|apply below_alloc|apply pw_below_drewN|apply below_drew1)|exact HB.out)⟩⟩
  ·rw [if_neg c3] at H
   have c3b0:(a0.toList == ([]:List UInt8))=false:=beq_eq_false_iff_ne.mpr c3
   have c3b1:(a0.toList != ([]:List UInt8))=true:=bne_iff_ne.mpr c3
   (first|rw [c3b0]|(simp only [i64_w,i32_w];rw [c3b0])|skip)
   by_cases c4:(a0.size:Int)>1
   ·rw [if_pos c4] at H
    have c4b0:decide (1<(a0.size:Int))=true:=decide_eq_true c4
    have c4b1:decide (1<a0.size)=true:=decide_eq_true (by omega)
    clear c4
    by_cases c5:0<(a0.size:Int)
    ·rw [if_pos c5] at H
     have c5b0:decide (0<(a0.size:Int))=true:=decide_eq_true c5
     have c5b1:decide (0<a0.size)=true:=decide_eq_true (by omega)
     clear c5
     by_cases c7:(bt a0 0)=48
     ·rw [if_pos c7] at H
      have c7b0:((bt a0 0) == 48)=true:=beq_iff_eq.mpr c7
      have c7b1:((bt a0 0) != 48)=false:=bne_eq_false_iff_eq.mpr c7
      clear c7
      have H':=Aside0.mk H
      clear H
      have p6:0≤(0:Int):=(by omega)
      have q6:0<a0.size:=(by have:(0:Int)<(a0.size:Int):=of_decide_eq_true (by first|(with_reducible assumption)|assumption);omega)
      have hx6:∀ h:0<a0.size,((a0[0]'h).toNat:Int)=bt a0 0:=bt_at a0 0
      clear p6
      have qi6:(0<(a0.size:Int))=True:=eq_true (of_decide_eq_true (by first|(with_reducible assumption)|assumption))
      replace q6:=eq_true q6
      go_wp2
      go_meet
      case rel=>exact ⟨_,(true),(by first|rfl|(simp;done)|(simp [*];done)),H',⟨by first|omega|exact Nat.le_refl _⟩,⟨by repeat (first|(with_reducible first|exact HB.out|apply below_alloc|apply pw_below_drewN|apply below_drew1)|exact HB.out)⟩⟩
     ·rw [if_neg c7] at H
      have c7b0:((bt a0 0) == 48)=false:=beq_eq_false_iff_ne.mpr c7
      have c7b1:((bt a0 0) != 48)=true:=bne_iff_ne.mpr c7
      replace H:=Option.bind_eq_some_iff.mp H
      obtain ⟨t248,A80,H⟩:=H
      replace H:(natural_Parse.j0 k a0 (t248.toList != ([]:List UInt8)))=some (r1,r2):=H
      have A8:=Aside0.mk A80
      clear A80
      have H':=Aside0.mk H
      clear H
      have p6:0≤(0:Int):=(by omega)
      have q6:0<a0.size:=(by have:(0:Int)<(a0.size:Int):=of_decide_eq_true (by first|(with_reducible assumption)|assumption);omega)
      have hx6:∀ h:0<a0.size,((a0[0]'h).toNat:Int)=bt a0 0:=bt_at a0 0
      clear p6
      have qi6:(0<(a0.size:Int))=True:=eq_true (of_decide_eq_true (by first|(with_reducible assumption)|assumption))
      replace q6:=eq_true q6
      go_wp2_with (first|(go_at_call 51;(with_reducible refine (strings_Trim.calls a0 (⟨#[48,49,50,51,52,53,54,55,56,57]⟩:ByteArray) t248 _ A8.out).mono ?_);rintro e w9 ⟨rfl,hb⟩;have n0_:=Aside0.mk (below_step (by repeat (first|(with_reducible first|exact HB.out|apply below_alloc|apply pw_below_drewN|apply below_drew1)|exact HB.out)) hb);clear HB;have HB:=n0_;clear n0_;(try clear hb);(try clear hb2);(try clear hk);(try clear hi)))
      go_meet
      case rel=>exact ⟨_,((t248.toList != ([]:List UInt8))),(by first|rfl|(generalize t248.toList=q_;cases q_ <;> rfl)|(simp;done)|(simp [*];done)),H',⟨by first|omega|exact Nat.le_refl _⟩,⟨by repeat (first|(with_reducible first|exact HB.out|apply below_alloc|apply pw_below_drewN|apply below_drew1)|exact HB.out)⟩⟩
    ·rw [if_neg c5] at H
     exact absurd H (by simp)
   ·rw [if_neg c4] at H
    have c4b0:decide (1<(a0.size:Int))=false:=decide_eq_false c4
    have c4b1:decide (1<a0.size)=false:=decide_eq_false (by omega)
    clear c4
    replace H:=Option.bind_eq_some_iff.mp H
    obtain ⟨t249,A100,H⟩:=H
    replace H:(natural_Parse.j0 k a0 (t249.toList != ([]:List UInt8)))=some (r1,r2):=H
    have A10:=Aside0.mk A100
    clear A100
    have H':=Aside0.mk H
    clear H
    go_wp2_with (first|(go_at_call 51;(with_reducible refine (strings_Trim.calls a0 (⟨#[48,49,50,51,52,53,54,55,56,57]⟩:ByteArray) t249 _ A10.out).mono ?_);rintro e w11 ⟨rfl,hb⟩;have n0_:=Aside0.mk (below_step (by repeat (first|(with_reducible first|exact HB.out|apply below_alloc|apply pw_below_drewN|apply below_drew1)|exact HB.out)) hb);clear HB;have HB:=n0_;clear n0_;(try clear hb);(try clear hb2);(try clear hk);(try clear hi)))
    go_meet
    case rel=>exact ⟨_,((t249.toList != ([]:List UInt8))),(by first|rfl|(generalize t249.toList=q_;cases q_ <;> rfl)|(simp;done)|(simp [*];done)),H',⟨by first|omega|exact Nat.le_refl _⟩,⟨by repeat (first|(with_reducible first|exact HB.out|apply below_alloc|apply pw_below_drewN|apply below_drew1)|exact HB.out)⟩⟩
 case rest=>
  clear HC2
  try clear c2
  try clear p2
  try clear c3
  try clear c3b0
  try clear c3b1
  try clear c4
  try clear c4b0
  try clear c4b1
  try clear c5
  try clear c5b0
  try clear c5b1
  try clear p6
  try clear q6
  try clear hx6
  try clear qi6
  try clear c7
  try clear c7b0
  try clear c7b1
  try clear p6
  try clear q6
  obtain ⟨kq,x22_1,rfl,HA,HJ1,HB⟩:=hcut
  cases kq with
  | zero=>exact absurd HA.out (by simp [natural_Parse.j0])
  | succ kj1=>
   have H:=HA.out
   clear HA
   simp only [natural_Parse.j0] at H
   by_cases c12:x22_1=true
   ·subst c12
    have H1:(some ((⟨#[]⟩:ByteArray),3))=some (r1,r2):=by rw [if_pos rfl] at H;exact H
    clear H
    have H:=H1
    clear H1
    simp only [Option.some.injEq,Prod.mk.injEq] at H
    obtain ⟨rfl,rfl⟩:=H
    go_wp2
    go_ret2
    exact ⟨by first|rfl|(simp [errW_none,errW_some] <;> rfl)|(simp [*,errW_none,errW_some] <;> rfl),by repeat (first|(with_reducible first|exact HB.out|apply below_alloc|apply pw_below_drewN|apply below_drew1)|exact HB.out)⟩
   ·replace c12:=Bool.eq_false_iff.mpr c12
    subst c12
    have H1:(if (a0.size:Int)>2000 then (some ((⟨#[]⟩:ByteArray),2)) else (natural_Parse.l0 kj1 a0 ([]:List Int) (a0.size:Int) 0))=some (r1,r2):=by rw [if_neg (show ¬ (false=true) by decide)] at H;exact H
    clear H
    have H:=H1
    clear H1
    by_cases c13:(a0.size:Int)>2000
    ·rw [if_pos c13] at H
     have c13b0:decide (2000<(a0.size:Int))=true:=decide_eq_true c13
     have c13b1:decide (2000<a0.size)=true:=decide_eq_true (by omega)
     clear c13
     simp only [Option.some.injEq,Prod.mk.injEq] at H
     obtain ⟨rfl,rfl⟩:=H
     go_wp2
     go_ret2
     exact ⟨by first|rfl|(simp [errW_none,errW_some] <;> rfl)|(simp [*,errW_none,errW_some] <;> rfl),by repeat (first|(with_reducible first|exact HB.out|apply below_alloc|apply pw_below_drewN|apply below_drew1)|exact HB.out)⟩
    ·rw [if_neg c13] at H
     have c13b0:decide (2000<(a0.size:Int))=false:=decide_eq_false c13
     have c13b1:decide (2000<a0.size)=false:=decide_eq_false (by omega)
     clear c13
     have H':=Aside0.mk H
     clear H
     go_wp2
     go_loopg [4,28] kj1 (fun kq v4 v28 w'=>∃ (x4_2:List Int) (x28_2:Int),v28 = .int .i64 x28_2∧Aside0 (natural_Parse.l0 kq a0 x4_2 (a0.size:Int) x28_2=some (r1,r2))∧Aside0 (kq≤kj1)∧Aside0 (Kd.R (Kd.int .u32) 60 w' w.heap.size (fun _=>True) v4 x4_2)∧Aside0 (Below w.heap.size w w'))
     case atStart=>exact ⟨(([]:List Int)),(0),(by first|rfl|(simp;done)|(simp [*];done)),H',⟨Nat.le_refl _⟩,⟨by first|exact Kd.R_nil _ _ _ _ _|exact Kd.N_nil _ _ _ _ _|exact Kd.V_nil _ _ _ _ _|exact Kd.Q_nil _ _ _ _ _|exact Kd.S_nil _ _ _ _ _⟩,⟨by repeat (first|(with_reducible first|exact HB.out|apply below_alloc|apply pw_below_drewN|apply below_drew1)|exact HB.out)⟩⟩
     case round=>
      clear H'
      try clear c1
      try clear c2
      try clear p2
      try clear c3
      try clear c3b0
      try clear c3b1
      try clear c4
      try clear c4b0
      try clear c4b1
      try clear c5
      try clear c5b0
      try clear c5b1
      try clear p6
      try clear q6
      try clear hx6
      try clear qi6
      try clear c7
      try clear c7b0
      try clear c7b1
      try clear c12
      try clear c13
      try clear c13b0
      try clear c13b1
      try clear p2
      try clear p6
      try clear q6
      obtain ⟨x4_2,x28_2,rfl,HA,HK2,HO_4,HB⟩:=hrel
      cases gk with
      | zero=>exact absurd HA.out (by simp [natural_Parse.l0])
      | succ k2=>
       have H:=HA.out
       clear HA
       simp only [natural_Parse.l0] at H
       by_cases c14:x28_2<(a0.size:Int)
       ·rw [if_pos c14] at H
        have c14b0:decide (x28_2<(a0.size:Int))=true:=decide_eq_true c14
        clear c14
        by_cases c15:0≤x28_2
        ·rw [if_pos c15] at H
         have c15b0:decide (0≤x28_2)=true:=decide_eq_true c15
         clear c15
         by_cases c16:x28_2<(a0.size:Int)
         ·rw [if_pos c16] at H
          have c16b0:decide (x28_2<(a0.size:Int))=true:=decide_eq_true c16
          clear c16
          replace H:=Option.bind_eq_some_iff.mp H
          obtain ⟨t250,A180,H⟩:=H
          replace H:(natural_Parse.l0 k2 a0 t250 (a0.size:Int) (wrap64 (x28_2+1)))=some (r1,r2):=H
          have A18:=Aside0.mk A180
          clear A180
          have H':=Aside0.mk H
          clear H
          have p17:0≤(x28_2:Int):=of_decide_eq_true (by first|(with_reducible assumption)|assumption)
          have q17:x28_2<(a0.size:Int):=of_decide_eq_true (by first|(with_reducible assumption)|assumption)
          have hx17:=bt_at a0 x28_2
          replace p17:=eq_true p17
          replace q17:=eq_true q17
          obtain ⟨Ao19,co19,eo19⟩:=Kd.R_slice HO_4.out
          subst eo19
          go_wp2_with (first|((with_reducible refine gate_callee (f:=52) rfl ?_);refine goesL_ (some 37) rfl rfl Tryd.func52 (by kernel_rfl) rfl #[.slice Ao19 x4_2.length co19,.int .u32 10,.int .u32 (((bt a0 x28_2)-48)%256)] rfl (by (try simp only [List.map_toArray,List.map_cons,List.map_nil]);first|done|rfl|(simp only [List.length_drop,List.length_take];rfl)) ?_;(with_reducible refine (natural_multiplyAdd.calls k2 (fun k_=>some k_=(.slice Ao19 x4_2.length co19:Value).ownBlock) (.slice Ao19 x4_2.length co19) x4_2 10 (((bt a0 x28_2)-48)%256) t250 w _ ?side1 ?side2 A18.out).mono ?_);(case side1=>repeat (first|(with_reducible first|exact HB.out|apply below_alloc|apply pw_below_drewN|apply below_drew1)|exact HB.out));(case side2=>exact Kd.R_tight rfl HO_4.out);rintro e w20 ⟨v251,rfl,ho0,hb,hkp⟩;refine ⟨_,rfl,?_⟩;have n0_:=Aside0.mk (Kd.R_mono (ok':=fun k_=>True) ho0 (fun k_ hk_=>trivial));have n1_:=Aside0.mk (hb);clear HB;clear HO_4;have HO252:=n0_;have HB:=n1_;clear n0_ n1_;(try clear hb);(try clear hkp);(try clear ho0)))
          go_roundg k2
          case measure=>have:=HJ1.out;have:=HK2.out;omega
          case rel=>exact ⟨(t250),(wrap64 (x28_2+1)),(by first|rfl|(simp;done)|(simp [*];done)),H',⟨by have:=HJ1.out;have:=HK2.out;omega⟩,⟨by (with_reducible repeat (first|apply Kd.R_alloc|apply Kd.R_drewN|apply Kd.R_drew));exact HO252.out⟩,⟨by repeat (first|(with_reducible first|exact HB.out|apply below_alloc|apply pw_below_drewN|apply below_drew1)|exact HB.out)⟩⟩
         ·rw [if_neg c16] at H
          exact absurd H (by simp)
        ·rw [if_neg c15] at H
         exact absurd H (by simp)
       ·rw [if_neg c14] at H
        have c14b0:decide (x28_2<(a0.size:Int))=false:=decide_eq_false c14
        clear c14
        replace H:=Option.bind_eq_some_iff.mp H
        obtain ⟨t253,A210,H⟩:=H
        replace H:((natural_limbs_text.f k2 t253).bind fun t256=>(some (t256,0)))=some (r1,r2):=H
        have A21:=Aside0.mk A210
        clear A210
        replace H:=Option.bind_eq_some_iff.mp H
        obtain ⟨t256,A220,H⟩:=H
        replace H:(some (t256,0))=some (r1,r2):=H
        have A22:=Aside0.mk A220
        clear A220
        simp only [Option.some.injEq,Prod.mk.injEq] at H
        obtain ⟨rfl,rfl⟩:=H
        obtain ⟨Ao23,co23,eo23⟩:=Kd.R_slice HO_4.out
        subst eo23
        go_wp2_with (first|((with_reducible refine gate_callee (f:=53) rfl ?_);refine goesL_ (some 40) rfl rfl Tryd.func53 (by kernel_rfl) rfl #[.slice Ao23 x4_2.length co23] rfl (by (try simp only [List.map_toArray,List.map_cons,List.map_nil]);first|done|rfl|(simp only [List.length_drop,List.length_take];rfl)) ?_;(with_reducible refine (natural_limbs_trim.calls k2 (fun k_=>some k_=(.slice Ao23 x4_2.length co23:Value).ownBlock) (.slice Ao23 x4_2.length co23) x4_2 t253 w _ ?side1 ?side2 A21.out).mono ?_);(case side1=>repeat (first|(with_reducible first|exact HB.out|apply below_alloc|apply pw_below_drewN|apply below_drew1)|exact HB.out));(case side2=>exact Kd.R_tight rfl HO_4.out);rintro e w24 ⟨v254,rfl,ho0,hb,hkp⟩;refine ⟨_,rfl,?_⟩;have n0_:=Aside0.mk (Kd.R_mono (ok':=fun k_=>True) ho0 (fun k_ hk_=>trivial));have n1_:=Aside0.mk (hb);clear HB;clear HO_4;have HO255:=n0_;have HB:=n1_;clear n0_ n1_;(try clear hb);(try clear hkp);(try clear ho0);obtain ⟨Ao25,co25,eo25⟩:=Kd.R_slice HO255.out;subst eo25)|((with_reducible refine gate_callee (f:=44) rfl ?_);refine goesL_ (some 41) rfl rfl Tryd.func44 (by kernel_rfl) rfl #[.slice Ao25 t253.length co25] rfl (by (try simp only [List.map_toArray,List.map_cons,List.map_nil]);first|done|rfl|(simp only [List.length_drop,List.length_take];rfl)) ?_;(with_reducible refine (natural_limbs_text.calls k2 _ _ t253 t256 _ ?side1 ?side2 A22.out).mono ?_);(case side1=>repeat (first|exact (Kd.R_reads' HO255.out).2.2|(with_reducible refine Kd.C_alloc ?_ _)|(with_reducible refine Kd.C_drewN ?_ _)|(with_reducible refine Kd.C_drew ?_)));(case side2=>exact (Kd.R_reads' HO255.out).2.1);rintro e w26 ⟨rfl,hb⟩;refine ⟨_,rfl,?_⟩;have n0_:=Aside0.mk (Kd.R_below (by (with_reducible repeat (first|apply Kd.R_alloc|apply Kd.R_drewN|apply Kd.R_drew));exact HO255.out) hb);have n1_:=Aside0.mk (below_step (by repeat (first|(with_reducible first|exact HB.out|apply below_alloc|apply pw_below_drewN|apply below_drew1)|exact HB.out)) hb);clear HO255;clear HB;have HO255:=n0_;have HB:=n1_;clear n0_ n1_;(try clear hb);(try clear hb2);(try clear hk);(try clear hi)))
        go_ret2
        exact ⟨by first|rfl|(simp [errW_none,errW_some] <;> rfl)|(simp [*,errW_none,errW_some] <;> rfl),by repeat (first|(with_reducible first|exact HB.out|apply below_alloc|apply pw_below_drewN|apply below_drew1)|exact HB.out)⟩
end Go.Proofs.YtjaflmhdclmolaaDoor.F
end
section
namespace Go.Proofs.YtjaflmhdclmolaaDoor.F
open Go.RowKit Go.Proofs.YtjaflmhdclmolaaDoorW.PrintWords Go.Proofs.YtjaflmhdclmolaaDoorW.PrintLast Go.Proofs.YtjaflmhdclmolaaDoorW.PrintMore
attribute [local go_sem] max2_int min2_int max_two min_two max_three min_three max_four min_four   
set_option linter.unusedVariables false
set_option linter.unusedSimpArgs false
def insolvencylaw1_awake.f (k:Nat)  : Option (Bool):=(natural_Divide.f k (⟨#[3,232]⟩:ByteArray) (⟨#[7]⟩:ByteArray)).bind fun bt273=>((natural_Parse.f k (⟨#[48,48,55]⟩:ByteArray)).bind fun bt276=>((natural_Add.f k (⟨#[255]⟩:ByteArray) (⟨#[1]⟩:ByteArray)).bind fun t278=>(if t278.toList=([1,0]:List UInt8) then (if bt273.2.2=true then ((natural_Format.f k bt273.1).bind fun t279=>(if t279.toList=([49,52,50]:List UInt8) then ((natural_Format.f k bt273.2.1).bind fun t280=>(if t280.toList=([54]:List UInt8) then (some (bt276.2 == 3)) else (some false))) else (some false))) else (some false)) else (some false))))
theorem insolvencylaw1_awake.mono:∀ k,LeO (insolvencylaw1_awake.f k ) (insolvencylaw1_awake.f (k+1) ):=by
 intro  k
 unfold insolvencylaw1_awake.f
 repeat' first
  | (with_reducible exact natural_Add.mono _ _ _)
  | (with_reducible exact natural_Divide.mono _ _ _)
  | (with_reducible exact natural_Format.mono _ _)
  | (with_reducible exact natural_Parse.mono _ _)
  | (with_reducible exact LeO.refl _)
  | (with_reducible exact LeO.none _)
  | (with_reducible refine LeO.ite ?_ ?_)
  | (with_reducible refine LeO.bind ?_ (fun _=>?_))
  | exact natural_Add.mono _ _ _
  | exact natural_Divide.mono _ _ _
  | exact natural_Format.mono _ _
  | exact natural_Parse.mono _ _
  | exact LeO.none _
  | refine LeO.ite ?_ ?_
  | refine LeO.bind ?_ (fun _=>?_)
set_option maxHeartbeats 8000000 in
set_option maxRecDepth 100000 in
theorem insolvencylaw1_awake.calls (k:Nat)  (r:Bool) (w:World) (h:insolvencylaw1_awake.f k  = some r) :
 Calls Tryd.prog 17 #[] w fun e w'=>e = .returned (.bool r)∧Below w.heap.size w w':=by
 have HB:=Aside0.mk (Below.refl w.heap.size w)
 have H:((natural_Divide.f k (⟨#[3,232]⟩:ByteArray) (⟨#[7]⟩:ByteArray)).bind fun bt273=>((natural_Parse.f k (⟨#[48,48,55]⟩:ByteArray)).bind fun bt276=>((natural_Add.f k (⟨#[255]⟩:ByteArray) (⟨#[1]⟩:ByteArray)).bind fun t278=>(if t278.toList=([1,0]:List UInt8) then (if bt273.2.2=true then ((natural_Format.f k bt273.1).bind fun t279=>(if t279.toList=([49,52,50]:List UInt8) then ((natural_Format.f k bt273.2.1).bind fun t280=>(if t280.toList=([54]:List UInt8) then (some (bt276.2 == 3)) else (some false))) else (some false))) else (some false)) else (some false)))))=some r:=h
 clear h
 replace H:=Option.bind_eq_some_iff.mp H
 obtain ⟨⟨t273,t274,t275⟩,A10,H⟩:=H
 replace H:((natural_Parse.f k (⟨#[48,48,55]⟩:ByteArray)).bind fun bt276=>((natural_Add.f k (⟨#[255]⟩:ByteArray) (⟨#[1]⟩:ByteArray)).bind fun t278=>(if t278.toList=([1,0]:List UInt8) then (if t275=true then ((natural_Format.f k t273).bind fun t279=>(if t279.toList=([49,52,50]:List UInt8) then ((natural_Format.f k t274).bind fun t280=>(if t280.toList=([54]:List UInt8) then (some (bt276.2 == 3)) else (some false))) else (some false))) else (some false)) else (some false))))=some r:=H
 have A1:=Aside0.mk A10
 clear A10
 replace H:=Option.bind_eq_some_iff.mp H
 obtain ⟨⟨t276,t277⟩,A20,H⟩:=H
 replace H:((natural_Add.f k (⟨#[255]⟩:ByteArray) (⟨#[1]⟩:ByteArray)).bind fun t278=>(if t278.toList=([1,0]:List UInt8) then (if t275=true then ((natural_Format.f k t273).bind fun t279=>(if t279.toList=([49,52,50]:List UInt8) then ((natural_Format.f k t274).bind fun t280=>(if t280.toList=([54]:List UInt8) then (some (t277 == 3)) else (some false))) else (some false))) else (some false)) else (some false)))=some r:=H
 have A2:=Aside0.mk A20
 clear A20
 replace H:=Option.bind_eq_some_iff.mp H
 obtain ⟨t278,A30,H⟩:=H
 replace H:(if t278.toList=([1,0]:List UInt8) then (if t275=true then ((natural_Format.f k t273).bind fun t279=>(if t279.toList=([49,52,50]:List UInt8) then ((natural_Format.f k t274).bind fun t280=>(if t280.toList=([54]:List UInt8) then (some (t277 == 3)) else (some false))) else (some false))) else (some false)) else (some false))=some r:=H
 have A3:=Aside0.mk A30
 clear A30
 by_cases c4:t278.toList=([1,0]:List UInt8)
 ·rw [if_pos c4] at H
  have c4b0:(t278.toList == ([1,0]:List UInt8))=true:=beq_iff_eq.mpr c4
  have c4b1:(t278.toList != ([1,0]:List UInt8))=false:=bne_eq_false_iff_eq.mpr c4
  clear c4
  by_cases c5:t275=true
  ·subst c5
   have H1:((natural_Format.f k t273).bind fun t279=>(if t279.toList=([49,52,50]:List UInt8) then ((natural_Format.f k t274).bind fun t280=>(if t280.toList=([54]:List UInt8) then (some (t277 == 3)) else (some false))) else (some false)))=some r:=by rw [if_pos rfl] at H;exact H
   clear H
   have H:=H1
   clear H1
   replace H:=Option.bind_eq_some_iff.mp H
   obtain ⟨t279,A60,H⟩:=H
   replace H:(if t279.toList=([49,52,50]:List UInt8) then ((natural_Format.f k t274).bind fun t280=>(if t280.toList=([54]:List UInt8) then (some (t277 == 3)) else (some false))) else (some false))=some r:=H
   have A6:=Aside0.mk A60
   clear A60
   by_cases c7:t279.toList=([49,52,50]:List UInt8)
   ·rw [if_pos c7] at H
    have c7b0:(t279.toList == ([49,52,50]:List UInt8))=true:=beq_iff_eq.mpr c7
    have c7b1:(t279.toList != ([49,52,50]:List UInt8))=false:=bne_eq_false_iff_eq.mpr c7
    clear c7
    replace H:=Option.bind_eq_some_iff.mp H
    obtain ⟨t280,A80,H⟩:=H
    replace H:(if t280.toList=([54]:List UInt8) then (some (t277 == 3)) else (some false))=some r:=H
    have A8:=Aside0.mk A80
    clear A80
    by_cases c9:t280.toList=([54]:List UInt8)
    ·rw [if_pos c9] at H
     have c9b0:(t280.toList == ([54]:List UInt8))=true:=beq_iff_eq.mpr c9
     have c9b1:(t280.toList != ([54]:List UInt8))=false:=bne_eq_false_iff_eq.mpr c9
     clear c9
     obtain rfl:=Option.some.inj H
     go_enter Tryd.func17,Tryd.ntmps17
     go_wp2_with (first|((with_reducible refine gate_callee (f:=21) rfl ?_);refine goesL_ (some 7) rfl rfl Tryd.func21 (by kernel_rfl) rfl #[.string (⟨#[3,232]⟩:ByteArray),.string (⟨#[7]⟩:ByteArray)] rfl (by (try simp only [List.map_toArray,List.map_cons,List.map_nil]);first|done|rfl|(simp only [List.length_drop,List.length_take];rfl)) ?_;(with_reducible refine (natural_Divide.calls k (⟨#[3,232]⟩:ByteArray) (⟨#[7]⟩:ByteArray) t273 t274 true _ A1.out).mono ?_);rintro e w10 ⟨rfl,hb⟩;refine ⟨_,rfl,?_⟩;have n0_:=Aside0.mk (below_step (by repeat (first|(with_reducible first|exact HB.out|apply below_alloc|apply pw_below_drewN|apply below_drew1)|exact HB.out)) hb);clear HB;have HB:=n0_;clear n0_;(try clear hb);(try clear hb2);(try clear hk);(try clear hi))|((with_reducible refine gate_callee (f:=26) rfl ?_);refine goesL_ (some 12) rfl rfl Tryd.func26 (by kernel_rfl) rfl #[.string (⟨#[48,48,55]⟩:ByteArray)] rfl (by (try simp only [List.map_toArray,List.map_cons,List.map_nil]);first|done|rfl|(simp only [List.length_drop,List.length_take];rfl)) ?_;(with_reducible refine (natural_Parse.calls k (⟨#[48,48,55]⟩:ByteArray) t276 t277 _ A2.out).mono ?_);rintro e w11 ⟨rfl,hb⟩;refine ⟨_,rfl,?_⟩;have n0_:=Aside0.mk (below_step (by repeat (first|(with_reducible first|exact HB.out|apply below_alloc|apply pw_below_drewN|apply below_drew1)|exact HB.out)) hb);clear HB;have HB:=n0_;clear n0_;(try clear hb);(try clear hb2);(try clear hk);(try clear hi))|((with_reducible refine gate_callee (f:=24) rfl ?_);refine goesL_ (some 15) rfl rfl Tryd.func24 (by kernel_rfl) rfl #[.string (⟨#[255]⟩:ByteArray),.string (⟨#[1]⟩:ByteArray)] rfl (by (try simp only [List.map_toArray,List.map_cons,List.map_nil]);first|done|rfl|(simp only [List.length_drop,List.length_take];rfl)) ?_;(with_reducible refine (natural_Add.calls k (⟨#[255]⟩:ByteArray) (⟨#[1]⟩:ByteArray) t278 _ A3.out).mono ?_);rintro e w12 ⟨rfl,hb⟩;refine ⟨_,rfl,?_⟩;have n0_:=Aside0.mk (below_step (by repeat (first|(with_reducible first|exact HB.out|apply below_alloc|apply pw_below_drewN|apply below_drew1)|exact HB.out)) hb);clear HB;have HB:=n0_;clear n0_;(try clear hb);(try clear hb2);(try clear hk);(try clear hi))|(go_at_call 28;(with_reducible refine (natural_Format.calls k t273 t279 _ A6.out).mono ?_);rintro e w13 ⟨rfl,hb⟩;have n0_:=Aside0.mk (below_step (by repeat (first|(with_reducible first|exact HB.out|apply below_alloc|apply pw_below_drewN|apply below_drew1)|exact HB.out)) hb);clear HB;have HB:=n0_;clear n0_;(try clear hb);(try clear hb2);(try clear hk);(try clear hi))|(go_at_call 28;(with_reducible refine (natural_Format.calls k t274 t280 _ A8.out).mono ?_);rintro e w14 ⟨rfl,hb⟩;have n0_:=Aside0.mk (below_step (by repeat (first|(with_reducible first|exact HB.out|apply below_alloc|apply pw_below_drewN|apply below_drew1)|exact HB.out)) hb);clear HB;have HB:=n0_;clear n0_;(try clear hb);(try clear hb2);(try clear hk);(try clear hi)))
     go_ret
     exact ⟨by first|rfl|(simp [errW_none,errW_some] <;> rfl)|(simp [*,errW_none,errW_some] <;> rfl),by repeat (first|(with_reducible first|exact HB.out|apply below_alloc|apply pw_below_drewN|apply below_drew1)|exact HB.out)⟩
    ·rw [if_neg c9] at H
     have c9b0:(t280.toList == ([54]:List UInt8))=false:=beq_eq_false_iff_ne.mpr c9
     have c9b1:(t280.toList != ([54]:List UInt8))=true:=bne_iff_ne.mpr c9
     obtain rfl:=Option.some.inj H
     go_enter Tryd.func17,Tryd.ntmps17
     go_wp2_with (first|((with_reducible refine gate_callee (f:=21) rfl ?_);refine goesL_ (some 7) rfl rfl Tryd.func21 (by kernel_rfl) rfl #[.string (⟨#[3,232]⟩:ByteArray),.string (⟨#[7]⟩:ByteArray)] rfl (by (try simp only [List.map_toArray,List.map_cons,List.map_nil]);first|done|rfl|(simp only [List.length_drop,List.length_take];rfl)) ?_;(with_reducible refine (natural_Divide.calls k (⟨#[3,232]⟩:ByteArray) (⟨#[7]⟩:ByteArray) t273 t274 true _ A1.out).mono ?_);rintro e w15 ⟨rfl,hb⟩;refine ⟨_,rfl,?_⟩;have n0_:=Aside0.mk (below_step (by repeat (first|(with_reducible first|exact HB.out|apply below_alloc|apply pw_below_drewN|apply below_drew1)|exact HB.out)) hb);clear HB;have HB:=n0_;clear n0_;(try clear hb);(try clear hb2);(try clear hk);(try clear hi))|((with_reducible refine gate_callee (f:=26) rfl ?_);refine goesL_ (some 12) rfl rfl Tryd.func26 (by kernel_rfl) rfl #[.string (⟨#[48,48,55]⟩:ByteArray)] rfl (by (try simp only [List.map_toArray,List.map_cons,List.map_nil]);first|done|rfl|(simp only [List.length_drop,List.length_take];rfl)) ?_;(with_reducible refine (natural_Parse.calls k (⟨#[48,48,55]⟩:ByteArray) t276 t277 _ A2.out).mono ?_);rintro e w16 ⟨rfl,hb⟩;refine ⟨_,rfl,?_⟩;have n0_:=Aside0.mk (below_step (by repeat (first|(with_reducible first|exact HB.out|apply below_alloc|apply pw_below_drewN|apply below_drew1)|exact HB.out)) hb);clear HB;have HB:=n0_;clear n0_;(try clear hb);(try clear hb2);(try clear hk);(try clear hi))|((with_reducible refine gate_callee (f:=24) rfl ?_);refine goesL_ (some 15) rfl rfl Tryd.func24 (by kernel_rfl) rfl #[.string (⟨#[255]⟩:ByteArray),.string (⟨#[1]⟩:ByteArray)] rfl (by (try simp only [List.map_toArray,List.map_cons,List.map_nil]);first|done|rfl|(simp only [List.length_drop,List.length_take];rfl)) ?_;(with_reducible refine (natural_Add.calls k (⟨#[255]⟩:ByteArray) (⟨#[1]⟩:ByteArray) t278 _ A3.out).mono ?_);rintro e w17 ⟨rfl,hb⟩;refine ⟨_,rfl,?_⟩;have n0_:=Aside0.mk (below_step (by repeat (first|(with_reducible first|exact HB.out|apply below_alloc|apply pw_below_drewN|apply below_drew1)|exact HB.out)) hb);clear HB;have HB:=n0_;clear n0_;(try clear hb);(try clear hb2);(try clear hk);(try clear hi))|(go_at_call 28;(with_reducible refine (natural_Format.calls k t273 t279 _ A6.out).mono ?_);rintro e w18 ⟨rfl,hb⟩;have n0_:=Aside0.mk (below_step (by repeat (first|(with_reducible first|exact HB.out|apply below_alloc|apply pw_below_drewN|apply below_drew1)|exact HB.out)) hb);clear HB;have HB:=n0_;clear n0_;(try clear hb);(try clear hb2);(try clear hk);(try clear hi))|(go_at_call 28;(with_reducible refine (natural_Format.calls k t274 t280 _ A8.out).mono ?_);rintro e w19 ⟨rfl,hb⟩;have n0_:=Aside0.mk (below_step (by repeat (first|(with_reducible first|exact HB.out|apply below_alloc|apply pw_below_drewN|apply below_drew1)|exact HB.out)) hb);clear HB;have HB:=n0_;clear n0_;(try clear hb);(try clear hb2);(try clear hk);(try clear hi)))
     go_ret
     exact ⟨by first|rfl|(simp [errW_none,errW_some] <;> rfl)|(simp [*,errW_none,errW_some] <;> rfl),by repeat (first|(with_reducible first|exact HB.out|apply below_alloc|apply pw_below_drewN|apply below_drew1)|exact HB.out)⟩
   ·rw [if_neg c7] at H
    have c7b0:(t279.toList == ([49,52,50]:List UInt8))=false:=beq_eq_false_iff_ne.mpr c7
    have c7b1:(t279.toList != ([49,52,50]:List UInt8))=true:=bne_iff_ne.mpr c7
    obtain rfl:=Option.some.inj H
    go_enter Tryd.func17,Tryd.ntmps17
    go_wp2_with (first|((with_reducible refine gate_callee (f:=21) rfl ?_);refine goesL_ (some 7) rfl rfl Tryd.func21 (by kernel_rfl) rfl #[.string (⟨#[3,232]⟩:ByteArray),.string (⟨#[7]⟩:ByteArray)] rfl (by (try simp only [List.map_toArray,List.map_cons,List.map_nil]);first|done|rfl|(simp only [List.length_drop,List.length_take];rfl)) ?_;(with_reducible refine (natural_Divide.calls k (⟨#[3,232]⟩:ByteArray) (⟨#[7]⟩:ByteArray) t273 t274 true _ A1.out).mono ?_);rintro e w20 ⟨rfl,hb⟩;refine ⟨_,rfl,?_⟩;have n0_:=Aside0.mk (below_step (by repeat (first|(with_reducible first|exact HB.out|apply below_alloc|apply pw_below_drewN|apply below_drew1)|exact HB.out)) hb);clear HB;have HB:=n0_;clear n0_;(try clear hb);(try clear hb2);(try clear hk);(try clear hi))|((with_reducible refine gate_callee (f:=26) rfl ?_);refine goesL_ (some 12) rfl rfl Tryd.func26 (by kernel_rfl) rfl #[.string (⟨#[48,48,55]⟩:ByteArray)] rfl (by (try simp only [List.map_toArray,List.map_cons,List.map_nil]);first|done|rfl|(simp only [List.length_drop,List.length_take];rfl)) ?_;(with_reducible refine (natural_Parse.calls k (⟨#[48,48,55]⟩:ByteArray) t276 t277 _ A2.out).mono ?_);rintro e w21 ⟨rfl,hb⟩;refine ⟨_,rfl,?_⟩;have n0_:=Aside0.mk (below_step (by repeat (first|(with_reducible first|exact HB.out|apply below_alloc|apply pw_below_drewN|apply below_drew1)|exact HB.out)) hb);clear HB;have HB:=n0_;clear n0_;(try clear hb);(try clear hb2);(try clear hk);(try clear hi))|((with_reducible refine gate_callee (f:=24) rfl ?_);refine goesL_ (some 15) rfl rfl Tryd.func24 (by kernel_rfl) rfl #[.string (⟨#[255]⟩:ByteArray),.string (⟨#[1]⟩:ByteArray)] rfl (by (try simp only [List.map_toArray,List.map_cons,List.map_nil]);first|done|rfl|(simp only [List.length_drop,List.length_take];rfl)) ?_;(with_reducible refine (natural_Add.calls k (⟨#[255]⟩:ByteArray) (⟨#[1]⟩:ByteArray) t278 _ A3.out).mono ?_);rintro e w22 ⟨rfl,hb⟩;refine ⟨_,rfl,?_⟩;have n0_:=Aside0.mk (below_step (by repeat (first|(with_reducible first|exact HB.out|apply below_alloc|apply pw_below_drewN|apply below_drew1)|exact HB.out)) hb);clear HB;have HB:=n0_;clear n0_;(try clear hb);(try clear hb2);(try clear hk);(try clear hi))|(go_at_call 28;(with_reducible refine (natural_Format.calls k t273 t279 _ A6.out).mono ?_);rintro e w23 ⟨rfl,hb⟩;have n0_:=Aside0.mk (below_step (by repeat (first|(with_reducible first|exact HB.out|apply below_alloc|apply pw_below_drewN|apply below_drew1)|exact HB.out)) hb);clear HB;have HB:=n0_;clear n0_;(try clear hb);(try clear hb2);(try clear hk);(try clear hi)))
    go_ret
    exact ⟨by first|rfl|(simp [errW_none,errW_some] <;> rfl)|(simp [*,errW_none,errW_some] <;> rfl),by repeat (first|(with_reducible first|exact HB.out|apply below_alloc|apply pw_below_drewN|apply below_drew1)|exact HB.out)⟩
  ·replace c5:=Bool.eq_false_iff.mpr c5
   subst c5
   have H1:(some false)=some r:=by rw [if_neg (show ¬ (false=true) by decide)] at H;exact H
   clear H
   have H:=H1
   clear H1
   obtain rfl:=Option.some.inj H
   go_enter Tryd.func17,Tryd.ntmps17
   go_wp2_with (first|((with_reducible refine gate_callee (f:=21) rfl ?_);refine goesL_ (some 7) rfl rfl Tryd.func21 (by kernel_rfl) rfl #[.string (⟨#[3,232]⟩:ByteArray),.string (⟨#[7]⟩:ByteArray)] rfl (by (try simp only [List.map_toArray,List.map_cons,List.map_nil]);first|done|rfl|(simp only [List.length_drop,List.length_take];rfl)) ?_;(with_reducible refine (natural_Divide.calls k (⟨#[3,232]⟩:ByteArray) (⟨#[7]⟩:ByteArray) t273 t274 false _ A1.out).mono ?_);rintro e w24 ⟨rfl,hb⟩;refine ⟨_,rfl,?_⟩;have n0_:=Aside0.mk (below_step (by repeat (first|(with_reducible first|exact HB.out|apply below_alloc|apply pw_below_drewN|apply below_drew1)|exact HB.out)) hb);clear HB;have HB:=n0_;clear n0_;(try clear hb);(try clear hb2);(try clear hk);(try clear hi))|((with_reducible refine gate_callee (f:=26) rfl ?_);refine goesL_ (some 12) rfl rfl Tryd.func26 (by kernel_rfl) rfl #[.string (⟨#[48,48,55]⟩:ByteArray)] rfl (by (try simp only [List.map_toArray,List.map_cons,List.map_nil]);first|done|rfl|(simp only [List.length_drop,List.length_take];rfl)) ?_;(with_reducible refine (natural_Parse.calls k (⟨#[48,48,55]⟩:ByteArray) t276 t277 _ A2.out).mono ?_);rintro e w25 ⟨rfl,hb⟩;refine ⟨_,rfl,?_⟩;have n0_:=Aside0.mk (below_step (by repeat (first|(with_reducible first|exact HB.out|apply below_alloc|apply pw_below_drewN|apply below_drew1)|exact HB.out)) hb);clear HB;have HB:=n0_;clear n0_;(try clear hb);(try clear hb2);(try clear hk);(try clear hi))|((with_reducible refine gate_callee (f:=24) rfl ?_);refine goesL_ (some 15) rfl rfl Tryd.func24 (by kernel_rfl) rfl #[.string (⟨#[255]⟩:ByteArray),.string (⟨#[1]⟩:ByteArray)] rfl (by (try simp only [List.map_toArray,List.map_cons,List.map_nil]);first|done|rfl|(simp only [List.length_drop,List.length_take];rfl)) ?_;(with_reducible refine (natural_Add.calls k (⟨#[255]⟩:ByteArray) (⟨#[1]⟩:ByteArray) t278 _ A3.out).mono ?_);rintro e w26 ⟨rfl,hb⟩;refine ⟨_,rfl,?_⟩;have n0_:=Aside0.mk (below_step (by repeat (first|(with_reducible first|exact HB.out|apply below_alloc|apply pw_below_drewN|apply below_drew1)|exact HB.out)) hb);clear HB;have HB:=n0_;clear n0_;(try clear hb);(try clear hb2);(try clear hk);(try clear hi)))
   go_ret
   exact ⟨by first|rfl|(simp [errW_none,errW_some] <;> rfl)|(simp [*,errW_none,errW_some] <;> rfl),by repeat (first|(with_reducible first|exact HB.out|apply below_alloc|apply pw_below_drewN|apply below_drew1)|exact HB.out)⟩
 ·rw [if_neg c4] at H
  have c4b0:(t278.toList == ([1,0]:List UInt8))=false:=beq_eq_false_iff_ne.mpr c4
  have c4b1:(t278.toList != ([1,0]:List UInt8))=true:=bne_iff_ne.mpr c4
  obtain rfl:=Option.some.inj H
  go_enter Tryd.func17,Tryd.ntmps17
  go_wp2_with (first|((with_reducible refine gate_callee (f:=21) rfl ?_);refine goesL_ (some 7) rfl rfl Tryd.func21 (by kernel_rfl) rfl #[.string (⟨#[3,232]⟩:ByteArray),.string (⟨#[7]⟩:ByteArray)] rfl (by (try simp only [List.map_toArray,List.map_cons,List.map_nil]);first|done|rfl|(simp only [List.length_drop,List.length_take];rfl)) ?_;(with_reducible refine (natural_Divide.calls k (⟨#[3,232]⟩:ByteArray) (⟨#[7]⟩:ByteArray) t273 t274 t275 _ A1.out).mono ?_);rintro e w27 ⟨rfl,hb⟩;refine ⟨_,rfl,?_⟩;have n0_:=Aside0.mk (below_step (by repeat (first|(with_reducible first|exact HB.out|apply below_alloc|apply pw_below_drewN|apply below_drew1)|exact HB.out)) hb);clear HB;have HB:=n0_;clear n0_;(try clear hb);(try clear hb2);(try clear hk);(try clear hi))|((with_reducible refine gate_callee (f:=26) rfl ?_);refine goesL_ (some 12) rfl rfl Tryd.func26 (by kernel_rfl) rfl #[.string (⟨#[48,48,55]⟩:ByteArray)] rfl (by (try simp only [List.map_toArray,List.map_cons,List.map_nil]);first|done|rfl|(simp only [List.length_drop,List.length_take];rfl)) ?_;(with_reducible refine (natural_Parse.calls k (⟨#[48,48,55]⟩:ByteArray) t276 t277 _ A2.out).mono ?_);rintro e w28 ⟨rfl,hb⟩;refine ⟨_,rfl,?_⟩;have n0_:=Aside0.mk (below_step (by repeat (first|(with_reducible first|exact HB.out|apply below_alloc|apply pw_below_drewN|apply below_drew1)|exact HB.out)) hb);clear HB;have HB:=n0_;clear n0_;(try clear hb);(try clear hb2);(try clear hk);(try clear hi))|((with_reducible refine gate_callee (f:=24) rfl ?_);refine goesL_ (some 15) rfl rfl Tryd.func24 (by kernel_rfl) rfl #[.string (⟨#[255]⟩:ByteArray),.string (⟨#[1]⟩:ByteArray)] rfl (by (try simp only [List.map_toArray,List.map_cons,List.map_nil]);first|done|rfl|(simp only [List.length_drop,List.length_take];rfl)) ?_;(with_reducible refine (natural_Add.calls k (⟨#[255]⟩:ByteArray) (⟨#[1]⟩:ByteArray) t278 _ A3.out).mono ?_);rintro e w29 ⟨rfl,hb⟩;refine ⟨_,rfl,?_⟩;have n0_:=Aside0.mk (below_step (by repeat (first|(with_reducible first|exact HB.out|apply below_alloc|apply pw_below_drewN|apply below_drew1)|exact HB.out)) hb);clear HB;have HB:=n0_;clear n0_;(try clear hb);(try clear hb2);(try clear hk);(try clear hi)))
  go_ret
  exact ⟨by first|rfl|(simp [errW_none,errW_some] <;> rfl)|(simp [*,errW_none,errW_some] <;> rfl),by repeat (first|(with_reducible first|exact HB.out|apply below_alloc|apply pw_below_drewN|apply below_drew1)|exact HB.out)⟩
end Go.Proofs.YtjaflmhdclmolaaDoor.F
end
section
namespace Go.Proofs.YtjaflmhdclmolaaDoor.F
open Go.RowKit Go.Proofs.YtjaflmhdclmolaaDoorW.PrintWords Go.Proofs.YtjaflmhdclmolaaDoorW.PrintLast Go.Proofs.YtjaflmhdclmolaaDoorW.PrintMore
attribute [local go_sem] max2_int min2_int max_two min_two max_three min_three max_four min_four   
set_option linter.unusedVariables false
set_option linter.unusedSimpArgs false
mutual
def insolvencylaw1_NaturalLong.l0:Nat→Int→Int→List Int→Int→Int→Option (Bool)
 | 0,_,_,_,_,_=>none
 | k+1,x1,x5,x6,x17,x18=>if x18<x17 then (if 0≤x18 then (if x18<(x6.length:Int) then (insolvencylaw1_NaturalLong.l0 k x1 x5 (x6.set (x18:Int).toNat ((48+((Int.tmod (wrap64 (x18+(wrap64 (x1)))) 10)%256))%256)) x17 (wrap64 (x18+1))) else (none)) else (none)) else (if 0<(x6.length:Int) then (if (rd x6 0)=48 then (insolvencylaw1_NaturalLong.j1 k x5 (x6.set (0:Int).toNat 49)) else (insolvencylaw1_NaturalLong.j1 k x5 x6)) else (none))
def insolvencylaw1_NaturalLong.j1:Nat→Int→List Int→Option (Bool)
 | 0,_,_=>none
 | k+1,x5,x6=>(natural_Parse.f k (strOfNums x6)).bind fun bt477=>(if x5>2000 then ((insolvencylaw1_awake.f k).bind fun t479=>(if t479=true then (if bt477.2=2 then (some (bt477.1.toList == ([]:List UInt8))) else (some false)) else (some false))) else ((insolvencylaw1_awake.f k).bind fun t480=>(if t480=true then (if bt477.2=0 then ((natural_Format.f k bt477.1).bind fun t481=>(some (t481.toList == (strOfNums x6).toList))) else (some false)) else (some false))))
end
def insolvencylaw1_NaturalLong.f (k:Nat) (a0:Int) (a1:Int):Option (Bool):=if 0≤(wrap64 (1+(Int.tmod (wrap64 (a0)) 2020))) then (if (wrap64 (1+(Int.tmod (wrap64 (a0)) 2020)):Int).toNat≤281474976710656 then ((some (List.replicate (wrap64 (1+(Int.tmod (wrap64 (a0)) 2020)):Int).toNat 0:List Int)).bind fun y471=>(insolvencylaw1_NaturalLong.l0 k a1 (wrap64 (1+(Int.tmod (wrap64 (a0)) 2020))) y471 (y471.length:Int) 0)) else (none)) else (none)
theorem insolvencylaw1_NaturalLong.mono_l:∀ k,(∀ y0 y1 y2 y3 y4,LeO (insolvencylaw1_NaturalLong.l0 k y0 y1 y2 y3 y4) (insolvencylaw1_NaturalLong.l0 (k+1) y0 y1 y2 y3 y4))∧(∀ y0 y1,LeO (insolvencylaw1_NaturalLong.j1 k y0 y1) (insolvencylaw1_NaturalLong.j1 (k+1) y0 y1))
 | 0=>⟨fun _ _ _ _ _ r h=>by simp [insolvencylaw1_NaturalLong.l0] at h,fun _ _ r h=>by simp [insolvencylaw1_NaturalLong.j1] at h⟩
 | k+1=>by
  obtain ⟨ih0,ih1⟩:=insolvencylaw1_NaturalLong.mono_l k
  refine ⟨?_,?_⟩
  ·intro y0 y1 y2 y3 y4
   unfold insolvencylaw1_NaturalLong.l0
   repeat' first
   | (with_reducible exact ih0 _ _ _ _ _)
   | (with_reducible exact ih1 _ _)
   | (with_reducible exact insolvencylaw1_awake.mono _)
   | (with_reducible exact natural_Format.mono _ _)
   | (with_reducible exact natural_Parse.mono _ _)
   | (with_reducible exact LeO.refl _)
   | (with_reducible exact LeO.none _)
   | (with_reducible refine LeO.ite ?_ ?_)
   | (with_reducible refine LeO.bind ?_ (fun _=>?_))
   | exact ih0 _ _ _ _ _
   | exact ih1 _ _
   | exact insolvencylaw1_awake.mono _
   | exact natural_Format.mono _ _
   | exact natural_Parse.mono _ _
   | exact LeO.none _
   | refine LeO.ite ?_ ?_
   | refine LeO.bind ?_ (fun _=>?_)
  ·intro y0 y1
   unfold insolvencylaw1_NaturalLong.j1
   repeat' first
   | (with_reducible exact ih0 _ _ _ _ _)
   | (with_reducible exact ih1 _ _)
   | (with_reducible exact insolvencylaw1_awake.mono _)
   | (with_reducible exact natural_Format.mono _ _)
   | (with_reducible exact natural_Parse.mono _ _)
   | (with_reducible exact LeO.refl _)
   | (with_reducible exact LeO.none _)
   | (with_reducible refine LeO.ite ?_ ?_)
   | (with_reducible refine LeO.bind ?_ (fun _=>?_))
   | exact ih0 _ _ _ _ _
   | exact ih1 _ _
   | exact insolvencylaw1_awake.mono _
   | exact natural_Format.mono _ _
   | exact natural_Parse.mono _ _
   | exact LeO.none _
   | refine LeO.ite ?_ ?_
   | refine LeO.bind ?_ (fun _=>?_)
theorem insolvencylaw1_NaturalLong.mono:∀ a0 a1 k,LeO (insolvencylaw1_NaturalLong.f k a0 a1) (insolvencylaw1_NaturalLong.f (k+1) a0 a1):=by
 intro a0 a1 k
 obtain ⟨ih0,ih1⟩:=insolvencylaw1_NaturalLong.mono_l k
 unfold insolvencylaw1_NaturalLong.f
 repeat' first
  | (with_reducible exact ih0 _ _ _ _ _)
  | (with_reducible exact ih1 _ _)
  | (with_reducible exact insolvencylaw1_awake.mono _)
  | (with_reducible exact natural_Format.mono _ _)
  | (with_reducible exact natural_Parse.mono _ _)
  | (with_reducible exact LeO.refl _)
  | (with_reducible exact LeO.none _)
  | (with_reducible refine LeO.ite ?_ ?_)
  | (with_reducible refine LeO.bind ?_ (fun _=>?_))
  | exact ih0 _ _ _ _ _
  | exact ih1 _ _
  | exact insolvencylaw1_awake.mono _
  | exact natural_Format.mono _ _
  | exact natural_Parse.mono _ _
  | exact LeO.none _
  | refine LeO.ite ?_ ?_
  | refine LeO.bind ?_ (fun _=>?_)
def insolvencylaw1_NaturalLong.T13:Bool×List (List Nat×List Nat):=(true,[([],[]),([0,0],[0]),([1],[1]),([2,1],[1,2]),([1,3],[1,3]),([4,1],[4]),([5],[5]),([6,5,5],[5,6]),([5],[5]),([8,5],[5,8]),([7,9,5],[5,7,9]),([5,10],[5,10]),([11,7,0,1,2,3,4,5,6,7,8,9,10,11],[11])])
def insolvencylaw1_NaturalLong.B13:List Nat:=[0,1,3,7,15,31,63,127,63,319,1023,2047,4095]
theorem insolvencylaw1_NaturalLong.tab13:rtab .any (opsOf Tryd.f7 13)=insolvencylaw1_NaturalLong.T13:=by kernel_rfl
theorem insolvencylaw1_NaturalLong.bits13:waitsOk insolvencylaw1_NaturalLong.T13.2 insolvencylaw1_NaturalLong.B13=true:=by kernel_rfl
set_option maxHeartbeats 8000000 in
set_option maxRecDepth 100000 in
theorem insolvencylaw1_NaturalLong.calls (k:Nat) (a0:Int) (a1:Int) (r:Bool) (w:World) (h:insolvencylaw1_NaturalLong.f k a0 a1=some r) :
 Calls Tryd.prog 7 #[.int .u16 a0,.int .u8 a1] w fun e w'=>e = .returned (.bool r)∧Below w.heap.size w w':=by
 have HB:=Aside0.mk (Below.refl w.heap.size w)
 have H:(if 0≤(wrap64 (1+(Int.tmod (wrap64 (a0)) 2020))) then (if (wrap64 (1+(Int.tmod (wrap64 (a0)) 2020)):Int).toNat≤281474976710656 then ((some (List.replicate (wrap64 (1+(Int.tmod (wrap64 (a0)) 2020)):Int).toNat 0:List Int)).bind fun y471=>(insolvencylaw1_NaturalLong.l0 k a1 (wrap64 (1+(Int.tmod (wrap64 (a0)) 2020))) y471 (y471.length:Int) 0)) else (none)) else (none))=some r:=h
 clear h
 obtain ⟨ji3,hji3⟩:∃ j_:Int,(wrap64 (1+(Int.tmod (wrap64 (a0)) 2020)))=j_:=⟨_,rfl⟩
 replace H:(if 0≤(ji3) then (if (ji3:Int).toNat≤281474976710656 then ((some (List.replicate (ji3:Int).toNat 0:List Int)).bind fun y471=>(insolvencylaw1_NaturalLong.l0 k a1 ji3 y471 (y471.length:Int) 0)) else (none)) else (none))=some r:=by first|(rw [hji3] at H;exact H)|(simp only [hji3] at H ⊢;exact H)
 have hji3w:(IntKind.i64.wrap (1+(Int.tmod (wrap64 (a0)) 2020)))=ji3:=(i64_w _).trans hji3
 by_cases c4:0≤(ji3)
 ·rw [if_pos c4] at H
  have c4b0:=eq_true c4
  have c4b1:decide (0≤(ji3))=true:=decide_eq_true c4
  clear c4
  by_cases c5:(ji3:Int).toNat≤281474976710656
  ·rw [if_pos c5] at H
   have c5b0:=eq_true c5
   have c5b1:decide ((ji3:Int).toNat≤281474976710656)=true:=decide_eq_true c5
   clear c5
   obtain ⟨y471,hy471⟩:∃ y_:List Int,y_=(List.replicate (ji3:Int).toNat 0):=⟨_,rfl⟩
   replace H:(insolvencylaw1_NaturalLong.l0 k a1 ji3 y471 (y471.length:Int) 0)=some r:=by first|(rw [hy471];with_reducible exact H)|(have H2_:=(Option.bind_some _ _).symm.trans H;rw [hy471];with_reducible exact H2_)|(have H2_:=(Option.bind_some _ _).symm.trans H;with_reducible exact H2_)|with_reducible exact H|(rw [hy471];exact H)|exact H
   have Ny471:=Aside0.mk hy471
   clear hy471
   have H':=Aside0.mk H
   clear H
   go_enter Tryd.func7,Tryd.ntmps7
   go_wp2_with (first|((with_reducible refine gate_dst (N:=15) rfl ?_);refine Kd.R_make (Kd.int .u8) _ 5 rfl (N:=15) rfl 37 _ _ rfl ji3 rfl rfl Tryd.underlying37 (.int .u8 0) 1 info5 rfl (by decide) (by omega) 0 (ok:=fun _=>True) (okp:=fun _=>True) rfl (fun _ hk=>hk) trivial (of_decide_eq_true (by first|(with_reducible assumption)|assumption)) (Nat.le_trans (Nat.mul_le_mul_right _ (of_decide_eq_true (by first|(with_reducible assumption)|assumption):ji3.toNat≤281474976710656)) (by omega)) (Below.refl _ _) (Nat.le_refl _) ?_;intro v472 w6 ho7 hb hg_ hnew_;clear hg_ hnew_;(first|rw [← Ny471.out] at ho7|(simp only [Int.reduceToNat] at ho7;rw [← Ny471.out] at ho7));have n0_:=Aside0.mk (Kd.R_lower ho7 (below_size (by repeat (first|(with_reducible first|exact HB.out|apply below_alloc|apply pw_below_drewN|apply below_drew1)|exact HB.out))));have n1_:=Aside0.mk (below_step (by repeat (first|(with_reducible first|exact HB.out|apply below_alloc|apply pw_below_drewN|apply below_drew1)|exact HB.out)) hb);clear HB;have HO473:=n0_;have HB:=n1_;clear n0_ n1_;clear hb ho7;obtain ⟨Ao8,co8,eo8⟩:=Kd.R_slice HO473.out;subst eo8))
   go_loopg [18] k (fun kq v18 w'=>∃ (x6_1:List Int) (x18_1:Int),v18 = .int .i64 x18_1∧Aside0 (insolvencylaw1_NaturalLong.l0 kq a1 ji3 x6_1 (y471.length:Int) x18_1=some r)∧Aside0 (kq≤k)∧Aside0 (Kd.R (Kd.int .u8) 5 w' w.heap.size (fun _=>True) (.slice Ao8 y471.length co8) x6_1)∧Aside0 (Below w.heap.size w w'))
   case atStart=>exact ⟨(y471),(0),(by first|rfl|(simp;done)|(simp [*];done)),H',⟨Nat.le_refl _⟩,⟨by (with_reducible repeat (first|apply Kd.R_alloc|apply Kd.R_drewN|apply Kd.R_drew));exact HO473.out⟩,⟨by repeat (first|(with_reducible first|exact HB.out|apply below_alloc|apply pw_below_drewN|apply below_drew1)|exact HB.out)⟩⟩
   case round=>
    clear H'
    try clear p2
    try clear c4
    try clear c4b0
    try clear c4b1
    try clear c5
    try clear c5b0
    try clear c5b1
    try clear p6
    try clear c7
    obtain ⟨x6_1,x18_1,rfl,HA,HK1,HO_6,HB⟩:=hrel
    have hl6_1:=(Kd.R_reads' HO_6.out).1
    rw [hl6_1] at HO_6
    (try simp only [hl6_1])
    cases gk with
    | zero=>exact absurd HA.out (by simp [insolvencylaw1_NaturalLong.l0])
    | succ k1=>
     have H:=HA.out
     clear HA
     simp only [insolvencylaw1_NaturalLong.l0] at H
     by_cases c9:x18_1<(y471.length:Int)
     ·rw [if_pos c9] at H
      have c9b0:decide (x18_1<(y471.length:Int))=true:=decide_eq_true c9
      (try (have cX_:=c9b0;rw [hl6_1] at cX_))
      clear c9
      by_cases c10:0≤x18_1
      ·rw [if_pos c10] at H
       have c10b0:decide (0≤x18_1)=true:=decide_eq_true c10
       clear c10
       by_cases c11:x18_1<(x6_1.length:Int)
       ·rw [if_pos c11] at H
        have c11b0:decide (x18_1<(x6_1.length:Int))=true:=decide_eq_true c11
        (try (have cX_:=c11b0;rw [hl6_1] at cX_))
        clear c11
        obtain ⟨y474,hy474⟩:∃ y_:List Int,y_=(x6_1.set (x18_1:Int).toNat ((48+((Int.tmod (wrap64 (x18_1+(wrap64 (a1)))) 10)%256))%256)):=⟨_,rfl⟩
        replace H:(insolvencylaw1_NaturalLong.l0 k1 a1 ji3 y474 (y471.length:Int) (wrap64 (x18_1+1)))=some r:=by first|(rw [hy474];with_reducible exact H)|(have H2_:=(Option.bind_some _ _).symm.trans H;rw [hy474];with_reducible exact H2_)|(have H2_:=(Option.bind_some _ _).symm.trans H;with_reducible exact H2_)|with_reducible exact H|(rw [hy474];exact H)|exact H
        have Ny474:=Aside0.mk hy474
        clear hy474
        have H':=Aside0.mk H
        clear H
        have p12:0≤(x18_1:Int):=of_decide_eq_true (by first|(with_reducible assumption)|assumption)
        have q12:(x18_1:Int)<((x6_1.length:Int):Int):=of_decide_eq_true (by first|(with_reducible assumption)|assumption)
        obtain ⟨go12,co12,eo12,gb12,gl12,cl12,HG12⟩:=Kd.R_form HO_6.out (by omega)
        (first|cases eo12|(injection eo12 with ea_ en_ ec_;(first|subst ea_|(injection ea_ with ea_;subst ea_));subst ec_;clear en_))
        have GB12:=Aside0.mk gb12
        have GG12:=Aside0.mk HG12
        clear gb12 gl12 HG12
        obtain ⟨hx12_0,hf12_0⟩:=Kd.R_celln 0 HO_6.out (x18_1:Int) p12 q12
        replace p12:=eq_true p12
        replace q12:=eq_true q12
        have HP13:=Kd.R_putg HO_6.out (x18_1:Int) ((48+((Int.tmod (wrap64 (x18_1+(wrap64 (a1)))) 10)%256))%256)
        go_wp2_with (first|((with_reducible refine gate_store (t:=5) (p:=30) rfl ?_);refine store_event (t:=5) (p:=30) (v:=?vo_w14) (w1:=(wr.setCell ⟨go12,(x18_1:Int).toNat,none⟩ (.int .u8 ((48+((Int.tmod (wrap64 (x18_1+(wrap64 (a1)))) 10)%256))%256)))) ?hg ?ho ?hn ?hr ?_;(case ho=>rfl);(case hg=>rfl);(case hn=>rfl);(case hr=>first|(go_simp;done)|(go_simp;rfl));intro w14 hw;have hg:wr.grownBy w14 (some go12):=(by rw [hw];exact HP13.2);have hp_:Kd.R (Kd.int .u8) 5 w14 w.heap.size (fun _=>True) (.slice (some ⟨go12,0,none⟩) x6_1.length co8) y474:=(by rw [hw,Ny474.out];exact HP13.1);clear HP13;have n0_:=Aside0.mk (hp_);have n1_:=Aside0.mk ((by rw [hw];exact below_set (HB.out) GB12.out:Below w.heap.size w w14));clear HO_6;clear HB;have HO_6:=n0_;have HB:=n1_;clear n0_ n1_;clear hg hw hp_))
        (try simp only [← hl6_1])
        go_roundg k1
        case measure=>have:=HK1.out;omega
        case rel=>exact ⟨(y474),(wrap64 (x18_1+1)),(by first|rfl|(simp;done)|(simp [*];done)),H',⟨by have:=HK1.out;omega⟩,⟨by (try simp only [hl6_1]);(with_reducible repeat (first|apply Kd.R_alloc|apply Kd.R_drewN|apply Kd.R_drew));exact HO_6.out⟩,⟨by repeat (first|(with_reducible first|exact HB.out|apply below_alloc|apply pw_below_drewN|apply below_drew1)|exact HB.out)⟩⟩
       ·rw [if_neg c11] at H
        exact absurd H (by simp)
      ·rw [if_neg c10] at H
       exact absurd H (by simp)
     ·rw [if_neg c9] at H
      have c9b0:decide (x18_1<(y471.length:Int))=false:=decide_eq_false c9
      (try (have cX_:=c9b0;rw [hl6_1] at cX_))
      clear c9
      by_cases c15:0<(x6_1.length:Int)
      ·rw [if_pos c15] at H
       have c15b0:decide (0<(x6_1.length:Int))=true:=decide_eq_true c15
       have c15b1:decide (0<x6_1.length)=true:=decide_eq_true (by omega)
       clear c15
       have HC16:=Aside0.mk H
       clear H
       have p475:0≤(0:Int):=(by omega)
       have q475:0<(x6_1.length:Int):=of_decide_eq_true (by first|(with_reducible assumption)|assumption)
       obtain ⟨ad475,e475,hx475_0⟩:=Kd.at_int (Kd.R_reads' HO_6.out).2.2 0 p475 q475
       cases e475
       have qi475:(0<x6_1.length)=True:=eq_true (by omega)
       (try rw [show ((0:Int)).toNat=0 from rfl] at hx475_0)
       (try rw [Addr.add_zero'] at hx475_0)
       replace p475:=eq_true p475
       replace q475:=eq_true q475
       go_upto_if 35 with (fail)
       go_cut [] (fun wc=>∃ (kq:Nat) (x6_15:List Int),Aside0 (insolvencylaw1_NaturalLong.j1 kq ji3 x6_15=some r)∧Aside0 (kq≤k1)∧Aside0 (Kd.R (Kd.int .u8) 5 wc w.heap.size (fun _=>True) (.slice (some ad475) x6_1.length co8) x6_15)∧Aside0 (Below w.heap.size w wc))
       case first=>
        have H:=HC16.out
        clear HC16
        by_cases c17:(rd x6_1 0)=48
        ·rw [if_pos c17] at H
         have c17b0:((rd x6_1 0) == 48)=true:=beq_iff_eq.mpr c17
         have c17b1:((rd x6_1 0) != 48)=false:=bne_eq_false_iff_eq.mpr c17
         clear c17
         (first|rw [c17b0]|(simp only [i64_w,i32_w];rw [c17b0])|skip)
         obtain ⟨y476,hy476⟩:∃ y_:List Int,y_=(x6_1.set (0:Int).toNat 49):=⟨_,rfl⟩
         replace H:(insolvencylaw1_NaturalLong.j1 k1 ji3 y476)=some r:=by first|(rw [hy476];with_reducible exact H)|(have H2_:=(Option.bind_some _ _).symm.trans H;rw [hy476];with_reducible exact H2_)|(have H2_:=(Option.bind_some _ _).symm.trans H;with_reducible exact H2_)|with_reducible exact H|(rw [hy476];exact H)|exact H
         have Ny476:=Aside0.mk hy476
         clear hy476
         have H':=Aside0.mk H
         clear H
         have p18:0≤(0:Int):=(by omega)
         have q18:(0:Int)<((x6_1.length:Int):Int):=of_decide_eq_true (by first|(with_reducible assumption)|assumption)
         have qi18:(0<x6_1.length)=True:=eq_true (by omega)
         obtain ⟨go18,co18,eo18,gb18,gl18,cl18,HG18⟩:=Kd.R_form HO_6.out (by omega)
         (first|cases eo18|(injection eo18 with ea_ en_ ec_;(first|subst ea_|(injection ea_ with ea_;subst ea_));subst ec_;clear en_))
         have GB18:=Aside0.mk gb18
         have GG18:=Aside0.mk HG18
         clear gb18 gl18 HG18
         (first|simp only [add_plain] at hx475_0|skip)
         obtain ⟨hx18_0,hf18_0⟩:=Kd.R_celln 0 HO_6.out (0:Int) p18 q18
         (try rw [show ((0:Int)).toNat=0 from rfl] at hx18_0)
         (try simp only [Nat.reduceMul,Nat.zero_mul,Nat.zero_add,Nat.reduceAdd] at hx18_0)
         (try rw [show ((0:Int)).toNat=0 from rfl] at hf18_0)
         (try simp only [Nat.reduceMul,Nat.zero_mul,Nat.zero_add,Nat.reduceAdd] at hf18_0)
         replace p18:=eq_true p18
         replace q18:=eq_true q18
         have HP19:=Kd.R_putg HO_6.out (0:Int) 49
         go_wp2_with (first|((with_reducible refine gate_store (t:=5) (p:=37) rfl ?_);refine store_event (t:=5) (p:=37) (v:=?vo_w20) (w1:=(wr.setCell ⟨go18,(0:Int).toNat,none⟩ (.int .u8 49))) ?hg ?ho ?hn ?hr ?_;(case ho=>rfl);(case hg=>rfl);(case hn=>rfl);(case hr=>first|(go_simp;done)|(go_simp;rfl));intro w20 hw;have hg:wr.grownBy w20 (some go18):=(by rw [hw];exact HP19.2);have hp_:Kd.R (Kd.int .u8) 5 w20 w.heap.size (fun _=>True) (.slice (some ⟨go18,0,none⟩) x6_1.length co8) y476:=(by rw [hw,Ny476.out];exact HP19.1);clear HP19;have n0_:=Aside0.mk (hp_);have n1_:=Aside0.mk ((by rw [hw];exact below_set (HB.out) GB18.out:Below w.heap.size w w20));clear HO_6;clear HB;have HO_6:=n0_;have HB:=n1_;clear n0_ n1_;clear hg hw hp_))
         go_meet
         case rel=>exact ⟨_,(y476),H',⟨by have:=HK1.out;first|omega|exact Nat.le_refl _⟩,⟨by (try simp only [hl6_1]);(with_reducible repeat (first|apply Kd.R_alloc|apply Kd.R_drewN|apply Kd.R_drew));exact HO_6.out⟩,⟨by repeat (first|(with_reducible first|exact HB.out|apply below_alloc|apply pw_below_drewN|apply below_drew1)|exact HB.out)⟩⟩
        ·rw [if_neg c17] at H
         have c17b0:((rd x6_1 0) == 48)=false:=beq_eq_false_iff_ne.mpr c17
         have c17b1:((rd x6_1 0) != 48)=true:=bne_iff_ne.mpr c17
         (first|rw [c17b0]|(simp only [i64_w,i32_w];rw [c17b0])|skip)
         have H':=Aside0.mk H
         clear H
         go_wp2
         go_meet
         case rel=>exact ⟨_,(x6_1),H',⟨by have:=HK1.out;first|omega|exact Nat.le_refl _⟩,⟨by (try simp only [hl6_1]);(with_reducible repeat (first|apply Kd.R_alloc|apply Kd.R_drewN|apply Kd.R_drew));exact HO_6.out⟩,⟨by repeat (first|(with_reducible first|exact HB.out|apply below_alloc|apply pw_below_drewN|apply below_drew1)|exact HB.out)⟩⟩
       case rest=>
        clear HC16
        try clear c1
        try clear p1
        try clear q1
        try clear hx1
        try clear qi1
        try clear p2
        try clear c4
        try clear c4b0
        try clear c4b1
        try clear p4
        try clear q4
        try clear hx4
        try clear qi4
        try clear c5
        try clear c5b0
        try clear c5b1
        try clear p6
        try clear c7
        try clear c9
        try clear c9b0
        try clear c10
        try clear c10b0
        try clear c11
        try clear c11b0
        try clear p12
        try clear q12
        try clear hx12
        try clear hf12
        try clear c15
        try clear c15b0
        try clear c15b1
        try clear c17
        try clear c17b0
        try clear c17b1
        try clear p18
        try clear q18
        try clear hx18
        try clear qi18
        try clear hf18
        try clear hx12_0
        try clear hx18_0
        try clear hx475_0
        try clear p12
        try clear p18
        try clear p2
        try clear p475
        try clear p6
        try clear q12
        try clear q18
        try clear q475
        obtain ⟨kq,x6_15,HA,HJ15,HO_6,HB⟩:=hcut
        have hl6_15:=(Kd.R_reads' HO_6.out).1
        rw [hl6_15] at HO_6
        (try simp only [hl6_15])
        cases kq with
        | zero=>exact absurd HA.out (by simp [insolvencylaw1_NaturalLong.j1])
        | succ kj15=>
         have H:=HA.out
         clear HA
         simp only [insolvencylaw1_NaturalLong.j1] at H
         replace H:=Option.bind_eq_some_iff.mp H
         obtain ⟨⟨t477,t478⟩,A210,H⟩:=H
         replace H:(if ji3>2000 then ((insolvencylaw1_awake.f kj15).bind fun t479=>(if t479=true then (if t478=2 then (some (t477.toList == ([]:List UInt8))) else (some false)) else (some false))) else ((insolvencylaw1_awake.f kj15).bind fun t480=>(if t480=true then (if t478=0 then ((natural_Format.f kj15 t477).bind fun t481=>(some (t481.toList == (strOfNums x6_15).toList))) else (some false)) else (some false))))=some r:=H
         have A21:=Aside0.mk A210
         clear A210
         by_cases c22:ji3>2000
         ·rw [if_pos c22] at H
          have c22b0:decide (2000<ji3)=true:=decide_eq_true c22
          clear c22
          replace H:=Option.bind_eq_some_iff.mp H
          obtain ⟨t479,A230,H⟩:=H
          replace H:(if t479=true then (if t478=2 then (some (t477.toList == ([]:List UInt8))) else (some false)) else (some false))=some r:=H
          have A23:=Aside0.mk A230
          clear A230
          by_cases c24:t479=true
          ·subst c24
           have H1:(if t478=2 then (some (t477.toList == ([]:List UInt8))) else (some false))=some r:=by rw [if_pos rfl] at H;exact H
           clear H
           have H:=H1
           clear H1
           by_cases c25:t478=2
           ·rw [if_pos c25] at H
            have c25b0:(t478 == 2)=true:=beq_iff_eq.mpr c25
            have c25b1:(t478 != 2)=false:=bne_eq_false_iff_eq.mpr c25
            clear c25
            obtain rfl:=Option.some.inj H
            have hcv26:=own_string (P:=Tryd.prog) Tryd.underlying37 Tryd.underlying5 Tryd.underlying9 (Kd.own_of_R HO_6.out)
            go_wp2_with (first|((with_reducible refine gate_callee (f:=26) rfl ?_);refine goesL_ (some 41) rfl rfl Tryd.func26 (by kernel_rfl) rfl #[.string (strOfNums x6_15)] rfl (by (try simp only [List.map_toArray,List.map_cons,List.map_nil]);first|done|rfl|(simp only [List.length_drop,List.length_take];rfl)) ?_;(with_reducible refine (natural_Parse.calls kj15 (strOfNums x6_15) t477 t478 _ A21.out).mono ?_);rintro e w27 ⟨rfl,hb⟩;refine ⟨_,rfl,?_⟩;have n0_:=Aside0.mk (Kd.R_below (by (with_reducible repeat (first|apply Kd.R_alloc|apply Kd.R_drewN|apply Kd.R_drew));exact HO_6.out) hb);have n1_:=Aside0.mk (below_step (by repeat (first|(with_reducible first|exact HB.out|apply below_alloc|apply pw_below_drewN|apply below_drew1)|exact HB.out)) hb);clear HO_6;clear HB;have HO_6:=n0_;have HB:=n1_;clear n0_ n1_;(try clear hb);(try clear hb2);(try clear hk);(try clear hi))|((with_reducible refine gate_callee (f:=17) rfl ?_);refine goesL_ (some 46) rfl rfl Tryd.func17 (by kernel_rfl) rfl #[] rfl (by (try simp only [List.map_toArray,List.map_cons,List.map_nil]);first|done|rfl|(simp only [List.length_drop,List.length_take];rfl)) ?_;(with_reducible refine (insolvencylaw1_awake.calls kj15  true _ A23.out).mono ?_);rintro e w28 ⟨rfl,hb⟩;refine ⟨_,rfl,?_⟩;have n0_:=Aside0.mk (Kd.R_below (by (with_reducible repeat (first|apply Kd.R_alloc|apply Kd.R_drewN|apply Kd.R_drew));exact HO_6.out) hb);have n1_:=Aside0.mk (below_step (by repeat (first|(with_reducible first|exact HB.out|apply below_alloc|apply pw_below_drewN|apply below_drew1)|exact HB.out)) hb);clear HO_6;clear HB;have HO_6:=n0_;have HB:=n1_;clear n0_ n1_;(try clear hb);(try clear hb2);(try clear hk);(try clear hi)))
            go_ret
            exact ⟨by first|rfl|(simp [errW_none,errW_some] <;> rfl)|(simp only [← hji3];first|rfl|(simp [errW_none,errW_some] <;> rfl))|(simp [*,errW_none,errW_some] <;> rfl),by repeat (first|(with_reducible first|exact HB.out|apply below_alloc|apply pw_below_drewN|apply below_drew1)|exact HB.out)⟩
           ·rw [if_neg c25] at H
            have c25b0:(t478 == 2)=false:=beq_eq_false_iff_ne.mpr c25
            have c25b1:(t478 != 2)=true:=bne_iff_ne.mpr c25
            obtain rfl:=Option.some.inj H
            have hcv29:=own_string (P:=Tryd.prog) Tryd.underlying37 Tryd.underlying5 Tryd.underlying9 (Kd.own_of_R HO_6.out)
            go_wp2_with (first|((with_reducible refine gate_callee (f:=26) rfl ?_);refine goesL_ (some 41) rfl rfl Tryd.func26 (by kernel_rfl) rfl #[.string (strOfNums x6_15)] rfl (by (try simp only [List.map_toArray,List.map_cons,List.map_nil]);first|done|rfl|(simp only [List.length_drop,List.length_take];rfl)) ?_;(with_reducible refine (natural_Parse.calls kj15 (strOfNums x6_15) t477 t478 _ A21.out).mono ?_);rintro e w30 ⟨rfl,hb⟩;refine ⟨_,rfl,?_⟩;have n0_:=Aside0.mk (Kd.R_below (by (with_reducible repeat (first|apply Kd.R_alloc|apply Kd.R_drewN|apply Kd.R_drew));exact HO_6.out) hb);have n1_:=Aside0.mk (below_step (by repeat (first|(with_reducible first|exact HB.out|apply below_alloc|apply pw_below_drewN|apply below_drew1)|exact HB.out)) hb);clear HO_6;clear HB;have HO_6:=n0_;have HB:=n1_;clear n0_ n1_;(try clear hb);(try clear hb2);(try clear hk);(try clear hi))|((with_reducible refine gate_callee (f:=17) rfl ?_);refine goesL_ (some 46) rfl rfl Tryd.func17 (by kernel_rfl) rfl #[] rfl (by (try simp only [List.map_toArray,List.map_cons,List.map_nil]);first|done|rfl|(simp only [List.length_drop,List.length_take];rfl)) ?_;(with_reducible refine (insolvencylaw1_awake.calls kj15  true _ A23.out).mono ?_);rintro e w31 ⟨rfl,hb⟩;refine ⟨_,rfl,?_⟩;have n0_:=Aside0.mk (Kd.R_below (by (with_reducible repeat (first|apply Kd.R_alloc|apply Kd.R_drewN|apply Kd.R_drew));exact HO_6.out) hb);have n1_:=Aside0.mk (below_step (by repeat (first|(with_reducible first|exact HB.out|apply below_alloc|apply pw_below_drewN|apply below_drew1)|exact HB.out)) hb);clear HO_6;clear HB;have HO_6:=n0_;have HB:=n1_;clear n0_ n1_;(try clear hb);(try clear hb2);(try clear hk);(try clear hi)))
            go_ret
            exact ⟨by first|rfl|(simp [errW_none,errW_some] <;> rfl)|(simp only [← hji3];first|rfl|(simp [errW_none,errW_some] <;> rfl))|(simp [*,errW_none,errW_some] <;> rfl),by repeat (first|(with_reducible first|exact HB.out|apply below_alloc|apply pw_below_drewN|apply below_drew1)|exact HB.out)⟩
          ·replace c24:=Bool.eq_false_iff.mpr c24
           subst c24
           have H1:(some false)=some r:=by rw [if_neg (show ¬ (false=true) by decide)] at H;exact H
           clear H
           have H:=H1
           clear H1
           obtain rfl:=Option.some.inj H
           have hcv32:=own_string (P:=Tryd.prog) Tryd.underlying37 Tryd.underlying5 Tryd.underlying9 (Kd.own_of_R HO_6.out)
           go_wp2_with (first|((with_reducible refine gate_callee (f:=26) rfl ?_);refine goesL_ (some 41) rfl rfl Tryd.func26 (by kernel_rfl) rfl #[.string (strOfNums x6_15)] rfl (by (try simp only [List.map_toArray,List.map_cons,List.map_nil]);first|done|rfl|(simp only [List.length_drop,List.length_take];rfl)) ?_;(with_reducible refine (natural_Parse.calls kj15 (strOfNums x6_15) t477 t478 _ A21.out).mono ?_);rintro e w33 ⟨rfl,hb⟩;refine ⟨_,rfl,?_⟩;have n0_:=Aside0.mk (Kd.R_below (by (with_reducible repeat (first|apply Kd.R_alloc|apply Kd.R_drewN|apply Kd.R_drew));exact HO_6.out) hb);have n1_:=Aside0.mk (below_step (by repeat (first|(with_reducible first|exact HB.out|apply below_alloc|apply pw_below_drewN|apply below_drew1)|exact HB.out)) hb);clear HO_6;clear HB;have HO_6:=n0_;have HB:=n1_;clear n0_ n1_;(try clear hb);(try clear hb2);(try clear hk);(try clear hi))|((with_reducible refine gate_callee (f:=17) rfl ?_);refine goesL_ (some 46) rfl rfl Tryd.func17 (by kernel_rfl) rfl #[] rfl (by (try simp only [List.map_toArray,List.map_cons,List.map_nil]);first|done|rfl|(simp only [List.length_drop,List.length_take];rfl)) ?_;(with_reducible refine (insolvencylaw1_awake.calls kj15  false _ A23.out).mono ?_);rintro e w34 ⟨rfl,hb⟩;refine ⟨_,rfl,?_⟩;have n0_:=Aside0.mk (Kd.R_below (by (with_reducible repeat (first|apply Kd.R_alloc|apply Kd.R_drewN|apply Kd.R_drew));exact HO_6.out) hb);have n1_:=Aside0.mk (below_step (by repeat (first|(with_reducible first|exact HB.out|apply below_alloc|apply pw_below_drewN|apply below_drew1)|exact HB.out)) hb);clear HO_6;clear HB;have HO_6:=n0_;have HB:=n1_;clear n0_ n1_;(try clear hb);(try clear hb2);(try clear hk);(try clear hi)))
           go_ret
           exact ⟨by first|rfl|(simp [errW_none,errW_some] <;> rfl)|(simp only [← hji3];first|rfl|(simp [errW_none,errW_some] <;> rfl))|(simp [*,errW_none,errW_some] <;> rfl),by repeat (first|(with_reducible first|exact HB.out|apply below_alloc|apply pw_below_drewN|apply below_drew1)|exact HB.out)⟩
         ·rw [if_neg c22] at H
          have c22b0:decide (2000<ji3)=false:=decide_eq_false c22
          clear c22
          replace H:=Option.bind_eq_some_iff.mp H
          obtain ⟨t480,A350,H⟩:=H
          replace H:(if t480=true then (if t478=0 then ((natural_Format.f kj15 t477).bind fun t481=>(some (t481.toList == (strOfNums x6_15).toList))) else (some false)) else (some false))=some r:=H
          have A35:=Aside0.mk A350
          clear A350
          by_cases c36:t480=true
          ·subst c36
           have H1:(if t478=0 then ((natural_Format.f kj15 t477).bind fun t481=>(some (t481.toList == (strOfNums x6_15).toList))) else (some false))=some r:=by rw [if_pos rfl] at H;exact H
           clear H
           have H:=H1
           clear H1
           by_cases c37:t478=0
           ·rw [if_pos c37] at H
            have c37b0:(t478 == 0)=true:=beq_iff_eq.mpr c37
            have c37b1:(t478 != 0)=false:=bne_eq_false_iff_eq.mpr c37
            clear c37
            replace H:=Option.bind_eq_some_iff.mp H
            obtain ⟨t481,A380,H⟩:=H
            replace H:(some (t481.toList == (strOfNums x6_15).toList))=some r:=H
            have A38:=Aside0.mk A380
            clear A380
            obtain rfl:=Option.some.inj H
            have hcv39:=own_string (P:=Tryd.prog) Tryd.underlying37 Tryd.underlying5 Tryd.underlying9 (Kd.own_of_R HO_6.out)
            try go_wp2_with (first|((with_reducible refine gate_callee (f:=26) rfl ?_);refine goesL_ (some 41) rfl rfl Tryd.func26 (by kernel_rfl) rfl #[.string (strOfNums x6_15)] rfl (by (try simp only [List.map_toArray,List.map_cons,List.map_nil]);first|done|rfl|(simp only [List.length_drop,List.length_take];rfl)) ?_;(with_reducible refine (natural_Parse.calls kj15 (strOfNums x6_15) t477 t478 _ A21.out).mono ?_);rintro e w40 ⟨rfl,hb⟩;refine ⟨_,rfl,?_⟩;have n0_:=Aside0.mk (Kd.R_below (by (with_reducible repeat (first|apply Kd.R_alloc|apply Kd.R_drewN|apply Kd.R_drew));exact HO_6.out) hb);have n1_:=Aside0.mk (below_step (by repeat (first|(with_reducible first|exact HB.out|apply below_alloc|apply pw_below_drewN|apply below_drew1)|exact HB.out)) hb);clear HO_6;clear HB;have HO_6:=n0_;have HB:=n1_;clear n0_ n1_;(try clear hb);(try clear hb2);(try clear hk);(try clear hi)))
            have n0_:=Aside0.mk (Kd.R_drew HO_6.out)
            have n1_:=Aside0.mk (below_drew1 HB.out)
            clear HO_6
            clear HB
            have HO_6:=n0_
            have HB:=n1_
            clear n0_ n1_
            refine start_ (n:=13) (S:=fun w'=>Kd.R (Kd.int .u8) 5 w' w.heap.size (fun _=>True) (.slice (some ad475) x6_15.length co8) x6_15) (ds:=[]) #[false,false,false,false,false,false,false,false,false,false,false,false,false] (by kernel_rfl) rfl rfl HO_6.out (fun hHeld=>?_);refine with_tabW insolvencylaw1_NaturalLong.tab13 insolvencylaw1_NaturalLong.bits13 (fun HT_ HW_=>?_)
            generalize w40.drew=w41 at HO_6 HB hHeld ⊢
            refine one_ (i:=0) (N:=some 55) #[true,false,false,false,false,false,false,false,false,false,false,false,false] rfl rfl (one_of HT_.out (by kernel_rfl)) (by decide) (fun K hK=>?_)
            refine goes_ Tryd.func17 (by kernel_rfl) rfl #[] (by rfl) rfl rfl (by (try simp only [List.map_toArray,List.map_cons,List.map_nil]);first|done|rfl|(simp only [List.length_drop,List.length_take];rfl)) ?_
            with_reducible refine (insolvencylaw1_awake.calls kj15  true _ A35.out).mono ?_
            rintro e w42 ⟨rfl,hb⟩
            refine ⟨_,rfl,?_⟩
            have n0_:=Aside0.mk (Kd.R_below (by (with_reducible repeat (first|apply Kd.R_alloc|apply Kd.R_drewN|apply Kd.R_drew));exact HO_6.out) hb)
            have n1_:=Aside0.mk (below_step (by repeat (first|(with_reducible first|exact HB.out|apply below_alloc|apply pw_below_drewN|apply below_drew1)|exact HB.out)) hb)
            clear HO_6
            clear HB
            have HO_6:=n0_
            have HB:=n1_
            clear n0_ n1_
            (try clear hb)
            (try clear hb2)
            (try clear hk)
            (try clear hi)
            refine hK.out _ _ HO_6.out (fun hHeld=>?_)
            clear hK K
            refine norm_ (a':=?_) ?_ ?_
            rotate_left
            ·show Act.put _ (some 55) _=_
             simp only [Act.put,List.setIfInBounds_toArray,List.set_cons_zero,List.set_cons_succ,i64_w,i32_w]
             rfl
            refine pure_ (i:=1) (N:=some 56) (v:=?_) (a':=?_) #[true,true,false,false,false,false,false,false,false,false,false,false,false] rfl rfl (any_of HT_.out (by kernel_rfl)) (fun _ _ _ h=>h) (Or.inl ⟨by rfl,?_⟩) ?_ ?_
            rotate_left
            ·intro w'
             go_simp
             with_reducible rfl
            rotate_left
            ·simp only [Act.put,List.setIfInBounds_toArray,List.set_cons_zero,List.set_cons_succ,i64_w,i32_w]
             rfl
            refine pure_ (i:=2) (N:=some 57) (v:=?_) (a':=?_) #[true,true,true,false,false,false,false,false,false,false,false,false,false] rfl rfl (any_of HT_.out (by kernel_rfl)) (fun _ _ _ h=>h) (Or.inl ⟨by rfl,?_⟩) ?_ ?_
            rotate_left
            ·intro w'
             go_simp
             with_reducible rfl
            rotate_left
            ·simp only [Act.put,List.setIfInBounds_toArray,List.set_cons_zero,List.set_cons_succ,i64_w,i32_w]
             rfl
            refine pure_ (i:=3) (N:=some 58) (v:=?_) (a':=?_) #[true,true,true,true,false,false,false,false,false,false,false,false,false] rfl rfl (any_of HT_.out (by kernel_rfl)) (fun _ _ _ h=>h) (Or.inl ⟨by rfl,?_⟩) ?_ ?_
            rotate_left
            ·intro w'
             go_simp
             with_reducible rfl
            rotate_left
            ·simp only [Act.put,List.setIfInBounds_toArray,List.set_cons_zero,List.set_cons_succ,i64_w,i32_w]
             rfl
            refine pure_ (i:=4) (N:=some 59) (v:=?_) (a':=?_) #[true,true,true,true,true,false,false,false,false,false,false,false,false] rfl rfl (any_of HT_.out (by kernel_rfl)) (fun _ _ _ h=>h) (Or.inl ⟨by rfl,?_⟩) ?_ ?_
            rotate_left
            ·intro w'
             go_simp
             with_reducible rfl
            rotate_left
            ·simp only [Act.put,List.setIfInBounds_toArray,List.set_cons_zero,List.set_cons_succ,i64_w,i32_w]
             rfl
            refine pure_ (i:=5) (N:=some 60) (v:=?_) (a':=?_) #[true,true,true,true,true,true,false,false,false,false,false,false,false] rfl rfl (any_of HT_.out (by kernel_rfl)) (fun _ _ _ h=>h) (Or.inl ⟨by rfl,?_⟩) ?_ ?_
            rotate_left
            ·intro w'
             go_simp
             with_reducible rfl
            rotate_left
            ·simp only [Act.put,List.setIfInBounds_toArray,List.set_cons_zero,List.set_cons_succ,i64_w,i32_w]
             rfl
            refine pure_ (i:=6) (N:=some 61) (v:=?_) (a':=?_) #[true,true,true,true,true,true,true,false,false,false,false,false,false] rfl rfl (any_of HT_.out (by kernel_rfl)) (fun _ _ _ h=>h) (Or.inl ⟨by rfl,?_⟩) ?_ ?_
            rotate_left
            ·intro w'
             go_simp
             with_reducible rfl
            rotate_left
            ·simp only [Act.put,List.setIfInBounds_toArray,List.set_cons_zero,List.set_cons_succ,i64_w,i32_w]
             rfl
            refine pure_ (i:=8) (N:=some 63) (v:=?_) (a':=?_) #[true,true,true,true,true,true,true,false,true,false,false,false,false] rfl rfl (any_of HT_.out (by kernel_rfl)) (fun _ _ _ h=>h) (Or.inl ⟨by rfl,?_⟩) ?_ ?_
            rotate_left
            ·intro w'
             go_simp
             with_reducible rfl
            rotate_left
            ·simp only [Act.put,List.setIfInBounds_toArray,List.set_cons_zero,List.set_cons_succ,i64_w,i32_w]
             rfl
            refine take_ (i:=9) (N:=some 64) (v:=?_) (a':=?_) #[true,true,true,true,true,true,true,false,true,true,false,false,false] rfl rfl (take_ofW HT_.out HW_.out (by kernel_rfl)) (fun _ _ _ h=>h) (Or.inl ⟨by rfl,?_⟩) hHeld ?_ ?_
            rotate_left
            ·rintro w' s0
             have hcvs_:=own_string (P:=Tryd.prog) Tryd.underlying37 Tryd.underlying5 Tryd.underlying9 (Kd.own_of_R s0)
             go_simp
             with_reducible rfl
            rotate_left
            ·simp only [Act.put,List.setIfInBounds_toArray,List.set_cons_zero,List.set_cons_succ,i64_w,i32_w]
             rfl
            refine one_ (i:=7) (N:=some 62) #[true,true,true,true,true,true,true,true,true,true,false,false,false] rfl rfl (one_of HT_.out (by kernel_rfl)) (by decide) (fun K hK=>?_)
            refine goes_ Tryd.func28 (by kernel_rfl) rfl #[.string t477] (by rfl) rfl rfl (by (try simp only [List.map_toArray,List.map_cons,List.map_nil]);first|done|rfl|(simp only [List.length_drop,List.length_take];rfl)) ?_
            with_reducible refine (natural_Format.calls kj15 t477 t481 _ A38.out).mono ?_
            rintro e w43 ⟨rfl,hb⟩
            refine ⟨_,rfl,?_⟩
            have n0_:=Aside0.mk (Kd.R_below (by (with_reducible repeat (first|apply Kd.R_alloc|apply Kd.R_drewN|apply Kd.R_drew));exact HO_6.out) hb)
            have n1_:=Aside0.mk (below_step (by repeat (first|(with_reducible first|exact HB.out|apply below_alloc|apply pw_below_drewN|apply below_drew1)|exact HB.out)) hb)
            clear HO_6
            clear HB
            have HO_6:=n0_
            have HB:=n1_
            clear n0_ n1_
            (try clear hb)
            (try clear hb2)
            (try clear hk)
            (try clear hi)
            have hcv44:=own_string (P:=Tryd.prog) Tryd.underlying37 Tryd.underlying5 Tryd.underlying9 (Kd.own_of_R HO_6.out)
            refine hK.out _ _ HO_6.out (fun hHeld=>?_)
            clear hK K
            refine norm_ (a':=?_) ?_ ?_
            rotate_left
            ·show Act.put _ (some 62) _=_
             simp only [Act.put,List.setIfInBounds_toArray,List.set_cons_zero,List.set_cons_succ,i64_w,i32_w]
             rfl
            refine pure_ (i:=10) (N:=some 65) (v:=?_) (a':=?_) #[true,true,true,true,true,true,true,true,true,true,true,false,false] rfl rfl (any_of HT_.out (by kernel_rfl)) (fun _ _ _ h=>h) (Or.inl ⟨by rfl,?_⟩) ?_ ?_
            rotate_left
            ·intro w'
             go_simp
             with_reducible rfl
            rotate_left
            ·simp only [Act.put,List.setIfInBounds_toArray,List.set_cons_zero,List.set_cons_succ,i64_w,i32_w]
             rfl
            refine pure_ (i:=11) (N:=some 66) (v:=?_) (a':=?_) #[true,true,true,true,true,true,true,true,true,true,true,true,false] rfl rfl (any_of HT_.out (by kernel_rfl)) (fun _ _ _ h=>h) (Or.inl ⟨by rfl,?_⟩) ?_ ?_
            rotate_left
            ·intro w'
             go_simp
             with_reducible rfl
            rotate_left
            ·simp only [Act.put,List.setIfInBounds_toArray,List.set_cons_zero,List.set_cons_succ,i64_w,i32_w]
             rfl
            refine pure_ (i:=12) (N:=some 4) (v:=?_) (a':=?_) #[true,true,true,true,true,true,true,true,true,true,true,true,true] rfl rfl (any_of HT_.out (by kernel_rfl)) (fun _ _ _ h=>h) (Or.inl ⟨by rfl,?_⟩) ?_ ?_
            rotate_left
            ·intro w'
             go_simp
             with_reducible rfl
            rotate_left
            ·simp only [Act.put,List.setIfInBounds_toArray,List.set_cons_zero,List.set_cons_succ,i64_w,i32_w]
             rfl
            refine done_ (done_of HT_.out (by kernel_rfl)) ?_
            try go_wp2
            go_ret
            exact ⟨by first|rfl|(simp [errW_none,errW_some] <;> rfl)|(simp only [← hji3];first|rfl|(simp [errW_none,errW_some] <;> rfl))|(simp [*,errW_none,errW_some] <;> rfl),by repeat (first|(with_reducible first|exact HB.out|apply below_alloc|apply pw_below_drewN|apply below_drew1)|exact HB.out)⟩
           ·rw [if_neg c37] at H
            have c37b0:(t478 == 0)=false:=beq_eq_false_iff_ne.mpr c37
            have c37b1:(t478 != 0)=true:=bne_iff_ne.mpr c37
            obtain rfl:=Option.some.inj H
            have hcv46:=own_string (P:=Tryd.prog) Tryd.underlying37 Tryd.underlying5 Tryd.underlying9 (Kd.own_of_R HO_6.out)
            try go_wp2_with (first|((with_reducible refine gate_callee (f:=26) rfl ?_);refine goesL_ (some 41) rfl rfl Tryd.func26 (by kernel_rfl) rfl #[.string (strOfNums x6_15)] rfl (by (try simp only [List.map_toArray,List.map_cons,List.map_nil]);first|done|rfl|(simp only [List.length_drop,List.length_take];rfl)) ?_;(with_reducible refine (natural_Parse.calls kj15 (strOfNums x6_15) t477 t478 _ A21.out).mono ?_);rintro e w47 ⟨rfl,hb⟩;refine ⟨_,rfl,?_⟩;have n0_:=Aside0.mk (Kd.R_below (by (with_reducible repeat (first|apply Kd.R_alloc|apply Kd.R_drewN|apply Kd.R_drew));exact HO_6.out) hb);have n1_:=Aside0.mk (below_step (by repeat (first|(with_reducible first|exact HB.out|apply below_alloc|apply pw_below_drewN|apply below_drew1)|exact HB.out)) hb);clear HO_6;clear HB;have HO_6:=n0_;have HB:=n1_;clear n0_ n1_;(try clear hb);(try clear hb2);(try clear hk);(try clear hi)))
            have n0_:=Aside0.mk (Kd.R_drew HO_6.out)
            have n1_:=Aside0.mk (below_drew1 HB.out)
            clear HO_6
            clear HB
            have HO_6:=n0_
            have HB:=n1_
            clear n0_ n1_
            refine start_ (n:=13) (S:=fun w'=>True) (ds:=[]) #[false,false,false,false,false,false,false,false,false,false,false,false,false] (by kernel_rfl) rfl rfl trivial (fun hHeld=>?_);refine with_tabW insolvencylaw1_NaturalLong.tab13 insolvencylaw1_NaturalLong.bits13 (fun HT_ HW_=>?_)
            generalize w47.drew=w48 at HO_6 HB hHeld ⊢
            refine one_ (i:=0) (N:=some 55) #[true,false,false,false,false,false,false,false,false,false,false,false,false] rfl rfl (one_of HT_.out (by kernel_rfl)) (by decide) (fun K hK=>?_)
            refine goes_ Tryd.func17 (by kernel_rfl) rfl #[] (by rfl) rfl rfl (by (try simp only [List.map_toArray,List.map_cons,List.map_nil]);first|done|rfl|(simp only [List.length_drop,List.length_take];rfl)) ?_
            with_reducible refine (insolvencylaw1_awake.calls kj15  true _ A35.out).mono ?_
            rintro e w49 ⟨rfl,hb⟩
            refine ⟨_,rfl,?_⟩
            have n0_:=Aside0.mk (Kd.R_below (by (with_reducible repeat (first|apply Kd.R_alloc|apply Kd.R_drewN|apply Kd.R_drew));exact HO_6.out) hb)
            have n1_:=Aside0.mk (below_step (by repeat (first|(with_reducible first|exact HB.out|apply below_alloc|apply pw_below_drewN|apply below_drew1)|exact HB.out)) hb)
            clear HO_6
            clear HB
            have HO_6:=n0_
            have HB:=n1_
            clear n0_ n1_
            (try clear hb)
            (try clear hb2)
            (try clear hk)
            (try clear hi)
            refine hK.out _ _ trivial (fun hHeld=>?_)
            clear hK K
            refine norm_ (a':=?_) ?_ ?_
            rotate_left
            ·show Act.put _ (some 55) _=_
             simp only [Act.put,List.setIfInBounds_toArray,List.set_cons_zero,List.set_cons_succ,i64_w,i32_w]
             rfl
            refine pure_ (i:=1) (N:=some 56) (v:=?_) (a':=?_) #[true,true,false,false,false,false,false,false,false,false,false,false,false] rfl rfl (any_of HT_.out (by kernel_rfl)) (fun _ _ _ h=>h) (Or.inl ⟨by rfl,?_⟩) ?_ ?_
            rotate_left
            ·intro w'
             go_simp
             with_reducible rfl
            rotate_left
            ·simp only [Act.put,List.setIfInBounds_toArray,List.set_cons_zero,List.set_cons_succ,i64_w,i32_w]
             rfl
            refine pure_ (i:=2) (N:=some 57) (v:=?_) (a':=?_) #[true,true,true,false,false,false,false,false,false,false,false,false,false] rfl rfl (any_of HT_.out (by kernel_rfl)) (fun _ _ _ h=>h) (Or.inl ⟨by rfl,?_⟩) ?_ ?_
            rotate_left
            ·intro w'
             go_simp
             with_reducible rfl
            rotate_left
            ·simp only [Act.put,List.setIfInBounds_toArray,List.set_cons_zero,List.set_cons_succ,i64_w,i32_w]
             rfl
            refine pure_ (i:=3) (N:=some 58) (v:=?_) (a':=?_) #[true,true,true,true,false,false,false,false,false,false,false,false,false] rfl rfl (any_of HT_.out (by kernel_rfl)) (fun _ _ _ h=>h) (Or.inl ⟨by rfl,?_⟩) ?_ ?_
            rotate_left
            ·intro w'
             go_simp
             with_reducible rfl
            rotate_left
            ·simp only [Act.put,List.setIfInBounds_toArray,List.set_cons_zero,List.set_cons_succ,i64_w,i32_w]
             rfl
            refine pure_ (i:=4) (N:=some 59) (v:=?_) (a':=?_) #[true,true,true,true,true,false,false,false,false,false,false,false,false] rfl rfl (any_of HT_.out (by kernel_rfl)) (fun _ _ _ h=>h) (Or.inl ⟨by rfl,?_⟩) ?_ ?_
            rotate_left
            ·intro w'
             go_simp
             with_reducible rfl
            rotate_left
            ·simp only [Act.put,List.setIfInBounds_toArray,List.set_cons_zero,List.set_cons_succ,i64_w,i32_w]
             rfl
            refine pure_ (i:=5) (N:=some 60) (v:=?_) (a':=?_) #[true,true,true,true,true,true,false,false,false,false,false,false,false] rfl rfl (any_of HT_.out (by kernel_rfl)) (fun _ _ _ h=>h) (Or.inl ⟨by rfl,?_⟩) ?_ ?_
            rotate_left
            ·intro w'
             go_simp
             with_reducible rfl
            rotate_left
            ·simp only [Act.put,List.setIfInBounds_toArray,List.set_cons_zero,List.set_cons_succ,i64_w,i32_w]
             rfl
            refine pure_ (i:=6) (N:=some 61) (v:=undef) (a':=?_) #[true,true,true,true,true,true,true,false,false,false,false,false,false] rfl rfl (any_of HT_.out (by kernel_rfl)) (fun _ _ _ h=>h) (Or.inr ⟨by rfl,rfl⟩) ?_ ?_
            rotate_left
            ·simp only [Act.put,List.setIfInBounds_toArray,List.set_cons_zero,List.set_cons_succ,i64_w,i32_w]
             rfl
            refine pure_ (i:=7) (N:=some 62) (v:=undef) (a':=?_) #[true,true,true,true,true,true,true,true,false,false,false,false,false] rfl rfl (any_of HT_.out (by kernel_rfl)) (fun _ _ _ h=>h) (Or.inr ⟨by rfl,rfl⟩) ?_ ?_
            rotate_left
            ·simp only [Act.put,List.setIfInBounds_toArray,List.set_cons_zero,List.set_cons_succ,i64_w,i32_w]
             rfl
            refine pure_ (i:=8) (N:=some 63) (v:=undef) (a':=?_) #[true,true,true,true,true,true,true,true,true,false,false,false,false] rfl rfl (any_of HT_.out (by kernel_rfl)) (fun _ _ _ h=>h) (Or.inr ⟨by rfl,rfl⟩) ?_ ?_
            rotate_left
            ·simp only [Act.put,List.setIfInBounds_toArray,List.set_cons_zero,List.set_cons_succ,i64_w,i32_w]
             rfl
            refine pure_ (i:=9) (N:=some 64) (v:=undef) (a':=?_) #[true,true,true,true,true,true,true,true,true,true,false,false,false] rfl rfl (any_of HT_.out (by kernel_rfl)) (fun _ _ _ h=>h) (Or.inr ⟨by rfl,rfl⟩) ?_ ?_
            rotate_left
            ·simp only [Act.put,List.setIfInBounds_toArray,List.set_cons_zero,List.set_cons_succ,i64_w,i32_w]
             rfl
            refine pure_ (i:=10) (N:=some 65) (v:=undef) (a':=?_) #[true,true,true,true,true,true,true,true,true,true,true,false,false] rfl rfl (any_of HT_.out (by kernel_rfl)) (fun _ _ _ h=>h) (Or.inr ⟨by rfl,rfl⟩) ?_ ?_
            rotate_left
            ·simp only [Act.put,List.setIfInBounds_toArray,List.set_cons_zero,List.set_cons_succ,i64_w,i32_w]
             rfl
            refine pure_ (i:=11) (N:=some 66) (v:=?_) (a':=?_) #[true,true,true,true,true,true,true,true,true,true,true,true,false] rfl rfl (any_of HT_.out (by kernel_rfl)) (fun _ _ _ h=>h) (Or.inl ⟨by rfl,?_⟩) ?_ ?_
            rotate_left
            ·intro w'
             go_simp
             with_reducible rfl
            rotate_left
            ·simp only [Act.put,List.setIfInBounds_toArray,List.set_cons_zero,List.set_cons_succ,i64_w,i32_w]
             rfl
            refine pure_ (i:=12) (N:=some 4) (v:=?_) (a':=?_) #[true,true,true,true,true,true,true,true,true,true,true,true,true] rfl rfl (any_of HT_.out (by kernel_rfl)) (fun _ _ _ h=>h) (Or.inl ⟨by rfl,?_⟩) ?_ ?_
            rotate_left
            ·intro w'
             go_simp
             with_reducible rfl
            rotate_left
            ·simp only [Act.put,List.setIfInBounds_toArray,List.set_cons_zero,List.set_cons_succ,i64_w,i32_w]
             rfl
            refine done_ (done_of HT_.out (by kernel_rfl)) ?_
            try go_wp2
            go_ret
            exact ⟨by first|rfl|(simp [errW_none,errW_some] <;> rfl)|(simp only [← hji3];first|rfl|(simp [errW_none,errW_some] <;> rfl))|(simp [*,errW_none,errW_some] <;> rfl),by repeat (first|(with_reducible first|exact HB.out|apply below_alloc|apply pw_below_drewN|apply below_drew1)|exact HB.out)⟩
          ·replace c36:=Bool.eq_false_iff.mpr c36
           subst c36
           have H1:(some false)=some r:=by rw [if_neg (show ¬ (false=true) by decide)] at H;exact H
           clear H
           have H:=H1
           clear H1
           obtain rfl:=Option.some.inj H
           have hcv50:=own_string (P:=Tryd.prog) Tryd.underlying37 Tryd.underlying5 Tryd.underlying9 (Kd.own_of_R HO_6.out)
           try go_wp2_with (first|((with_reducible refine gate_callee (f:=26) rfl ?_);refine goesL_ (some 41) rfl rfl Tryd.func26 (by kernel_rfl) rfl #[.string (strOfNums x6_15)] rfl (by (try simp only [List.map_toArray,List.map_cons,List.map_nil]);first|done|rfl|(simp only [List.length_drop,List.length_take];rfl)) ?_;(with_reducible refine (natural_Parse.calls kj15 (strOfNums x6_15) t477 t478 _ A21.out).mono ?_);rintro e w51 ⟨rfl,hb⟩;refine ⟨_,rfl,?_⟩;have n0_:=Aside0.mk (Kd.R_below (by (with_reducible repeat (first|apply Kd.R_alloc|apply Kd.R_drewN|apply Kd.R_drew));exact HO_6.out) hb);have n1_:=Aside0.mk (below_step (by repeat (first|(with_reducible first|exact HB.out|apply below_alloc|apply pw_below_drewN|apply below_drew1)|exact HB.out)) hb);clear HO_6;clear HB;have HO_6:=n0_;have HB:=n1_;clear n0_ n1_;(try clear hb);(try clear hb2);(try clear hk);(try clear hi)))
           have n0_:=Aside0.mk (Kd.R_drew HO_6.out)
           have n1_:=Aside0.mk (below_drew1 HB.out)
           clear HO_6
           clear HB
           have HO_6:=n0_
           have HB:=n1_
           clear n0_ n1_
           refine start_ (n:=13) (S:=fun w'=>True) (ds:=[]) #[false,false,false,false,false,false,false,false,false,false,false,false,false] (by kernel_rfl) rfl rfl trivial (fun hHeld=>?_);refine with_tabW insolvencylaw1_NaturalLong.tab13 insolvencylaw1_NaturalLong.bits13 (fun HT_ HW_=>?_)
           generalize w51.drew=w52 at HO_6 HB hHeld ⊢
           refine one_ (i:=0) (N:=some 55) #[true,false,false,false,false,false,false,false,false,false,false,false,false] rfl rfl (one_of HT_.out (by kernel_rfl)) (by decide) (fun K hK=>?_)
           refine goes_ Tryd.func17 (by kernel_rfl) rfl #[] (by rfl) rfl rfl (by (try simp only [List.map_toArray,List.map_cons,List.map_nil]);first|done|rfl|(simp only [List.length_drop,List.length_take];rfl)) ?_
           with_reducible refine (insolvencylaw1_awake.calls kj15  false _ A35.out).mono ?_
           rintro e w53 ⟨rfl,hb⟩
           refine ⟨_,rfl,?_⟩
           have n0_:=Aside0.mk (Kd.R_below (by (with_reducible repeat (first|apply Kd.R_alloc|apply Kd.R_drewN|apply Kd.R_drew));exact HO_6.out) hb)
           have n1_:=Aside0.mk (below_step (by repeat (first|(with_reducible first|exact HB.out|apply below_alloc|apply pw_below_drewN|apply below_drew1)|exact HB.out)) hb)
           clear HO_6
           clear HB
           have HO_6:=n0_
           have HB:=n1_
           clear n0_ n1_
           (try clear hb)
           (try clear hb2)
           (try clear hk)
           (try clear hi)
           refine hK.out _ _ trivial (fun hHeld=>?_)
           clear hK K
           refine norm_ (a':=?_) ?_ ?_
           rotate_left
           ·show Act.put _ (some 55) _=_
            simp only [Act.put,List.setIfInBounds_toArray,List.set_cons_zero,List.set_cons_succ,i64_w,i32_w]
            rfl
           refine pure_ (i:=1) (N:=some 56) (v:=?_) (a':=?_) #[true,true,false,false,false,false,false,false,false,false,false,false,false] rfl rfl (any_of HT_.out (by kernel_rfl)) (fun _ _ _ h=>h) (Or.inl ⟨by rfl,?_⟩) ?_ ?_
           rotate_left
           ·intro w'
            go_simp
            with_reducible rfl
           rotate_left
           ·simp only [Act.put,List.setIfInBounds_toArray,List.set_cons_zero,List.set_cons_succ,i64_w,i32_w]
            rfl
           refine pure_ (i:=2) (N:=some 57) (v:=undef) (a':=?_) #[true,true,true,false,false,false,false,false,false,false,false,false,false] rfl rfl (any_of HT_.out (by kernel_rfl)) (fun _ _ _ h=>h) (Or.inr ⟨by rfl,rfl⟩) ?_ ?_
           rotate_left
           ·simp only [Act.put,List.setIfInBounds_toArray,List.set_cons_zero,List.set_cons_succ,i64_w,i32_w]
            rfl
           refine pure_ (i:=3) (N:=some 58) (v:=undef) (a':=?_) #[true,true,true,true,false,false,false,false,false,false,false,false,false] rfl rfl (any_of HT_.out (by kernel_rfl)) (fun _ _ _ h=>h) (Or.inr ⟨by rfl,rfl⟩) ?_ ?_
           rotate_left
           ·simp only [Act.put,List.setIfInBounds_toArray,List.set_cons_zero,List.set_cons_succ,i64_w,i32_w]
            rfl
           refine pure_ (i:=4) (N:=some 59) (v:=?_) (a':=?_) #[true,true,true,true,true,false,false,false,false,false,false,false,false] rfl rfl (any_of HT_.out (by kernel_rfl)) (fun _ _ _ h=>h) (Or.inl ⟨by rfl,?_⟩) ?_ ?_
           rotate_left
           ·intro w'
            go_simp
            with_reducible rfl
           rotate_left
           ·simp only [Act.put,List.setIfInBounds_toArray,List.set_cons_zero,List.set_cons_succ,i64_w,i32_w]
            rfl
           refine pure_ (i:=5) (N:=some 60) (v:=?_) (a':=?_) #[true,true,true,true,true,true,false,false,false,false,false,false,false] rfl rfl (any_of HT_.out (by kernel_rfl)) (fun _ _ _ h=>h) (Or.inl ⟨by rfl,?_⟩) ?_ ?_
           rotate_left
           ·intro w'
            go_simp
            with_reducible rfl
           rotate_left
           ·simp only [Act.put,List.setIfInBounds_toArray,List.set_cons_zero,List.set_cons_succ,i64_w,i32_w]
            rfl
           refine pure_ (i:=6) (N:=some 61) (v:=undef) (a':=?_) #[true,true,true,true,true,true,true,false,false,false,false,false,false] rfl rfl (any_of HT_.out (by kernel_rfl)) (fun _ _ _ h=>h) (Or.inr ⟨by rfl,rfl⟩) ?_ ?_
           rotate_left
           ·simp only [Act.put,List.setIfInBounds_toArray,List.set_cons_zero,List.set_cons_succ,i64_w,i32_w]
            rfl
           refine pure_ (i:=7) (N:=some 62) (v:=undef) (a':=?_) #[true,true,true,true,true,true,true,true,false,false,false,false,false] rfl rfl (any_of HT_.out (by kernel_rfl)) (fun _ _ _ h=>h) (Or.inr ⟨by rfl,rfl⟩) ?_ ?_
           rotate_left
           ·simp only [Act.put,List.setIfInBounds_toArray,List.set_cons_zero,List.set_cons_succ,i64_w,i32_w]
            rfl
           refine pure_ (i:=8) (N:=some 63) (v:=undef) (a':=?_) #[true,true,true,true,true,true,true,true,true,false,false,false,false] rfl rfl (any_of HT_.out (by kernel_rfl)) (fun _ _ _ h=>h) (Or.inr ⟨by rfl,rfl⟩) ?_ ?_
           rotate_left
           ·simp only [Act.put,List.setIfInBounds_toArray,List.set_cons_zero,List.set_cons_succ,i64_w,i32_w]
            rfl
           refine pure_ (i:=9) (N:=some 64) (v:=undef) (a':=?_) #[true,true,true,true,true,true,true,true,true,true,false,false,false] rfl rfl (any_of HT_.out (by kernel_rfl)) (fun _ _ _ h=>h) (Or.inr ⟨by rfl,rfl⟩) ?_ ?_
           rotate_left
           ·simp only [Act.put,List.setIfInBounds_toArray,List.set_cons_zero,List.set_cons_succ,i64_w,i32_w]
            rfl
           refine pure_ (i:=10) (N:=some 65) (v:=undef) (a':=?_) #[true,true,true,true,true,true,true,true,true,true,true,false,false] rfl rfl (any_of HT_.out (by kernel_rfl)) (fun _ _ _ h=>h) (Or.inr ⟨by rfl,rfl⟩) ?_ ?_
           rotate_left
           ·simp only [Act.put,List.setIfInBounds_toArray,List.set_cons_zero,List.set_cons_succ,i64_w,i32_w]
            rfl
           refine pure_ (i:=11) (N:=some 66) (v:=?_) (a':=?_) #[true,true,true,true,true,true,true,true,true,true,true,true,false] rfl rfl (any_of HT_.out (by kernel_rfl)) (fun _ _ _ h=>h) (Or.inl ⟨by rfl,?_⟩) ?_ ?_
           rotate_left
           ·intro w'
            go_simp
            with_reducible rfl
           rotate_left
           ·simp only [Act.put,List.setIfInBounds_toArray,List.set_cons_zero,List.set_cons_succ,i64_w,i32_w]
            rfl
           refine pure_ (i:=12) (N:=some 4) (v:=?_) (a':=?_) #[true,true,true,true,true,true,true,true,true,true,true,true,true] rfl rfl (any_of HT_.out (by kernel_rfl)) (fun _ _ _ h=>h) (Or.inl ⟨by rfl,?_⟩) ?_ ?_
           rotate_left
           ·intro w'
            go_simp
            with_reducible rfl
           rotate_left
           ·simp only [Act.put,List.setIfInBounds_toArray,List.set_cons_zero,List.set_cons_succ,i64_w,i32_w]
            rfl
           refine done_ (done_of HT_.out (by kernel_rfl)) ?_
           try go_wp2
           go_ret
           exact ⟨by first|rfl|(simp [errW_none,errW_some] <;> rfl)|(simp only [← hji3];first|rfl|(simp [errW_none,errW_some] <;> rfl))|(simp [*,errW_none,errW_some] <;> rfl),by repeat (first|(with_reducible first|exact HB.out|apply below_alloc|apply pw_below_drewN|apply below_drew1)|exact HB.out)⟩
      ·rw [if_neg c15] at H
       exact absurd H (by simp)
  ·rw [if_neg c5] at H
   exact absurd H (by simp)
 ·rw [if_neg c4] at H
  exact absurd H (by simp)
def insolvencylaw1_NaturalLong.Pure:Prop:=∀ (a0:Int) (a1:Int),(Lit.int .u16 a0).wf=true→(Lit.int .u8 a1).wf=true → ∃ k,insolvencylaw1_NaturalLong.f k a0 a1=some true
theorem insolvencylaw1_NaturalLong.walk (P:insolvencylaw1_NaturalLong.Pure) (a0:Int) (a1:Int) (w:World) (w0:(Lit.int .u16 a0).wf=true) (w1:(Lit.int .u8 a1).wf=true) :
 Calls Tryd.prog 7 #[.int .u16 a0,.int .u8 a1] w fun e w'=>e = .returned (.bool true)∧Below w.heap.size w w':=by
 obtain ⟨k,h⟩:=P a0 a1 w0 w1
 refine (insolvencylaw1_NaturalLong.calls k a0 a1 true w h).mono ?_
 rintro e w' ⟨rfl,hd⟩
 exact ⟨rfl,hd⟩
end Go.Proofs.YtjaflmhdclmolaaDoor.F
end
section
namespace Go.Proofs.YtjaflmhdclmolaaDoor.Num
open Go.RowKit Go.Proofs.YtjaflmhdclmolaaDoorW.PrintWords Go.Proofs.YtjaflmhdclmolaaDoorW.PrintLast Go.Proofs.YtjaflmhdclmolaaDoorW.PrintMore
theorem w64 {n:Int} (h0 : -9223372036854775808≤n) (h1:n≤9223372036854775807):wrap64 n=n:=by unfold wrap64;omega
theorem wu {n:Int} (h0:0≤n) (h1:n≤18446744073709551615):IntKind.u64.wrap n=n:=IntWalk.u64_in n ⟨h0,h1⟩
theorem orHi {x y:Int} (hx0:0≤x) (hx:x<4294967296) (hy0:0≤y) (hy:y<4294967296):Go.bits .or .u64 (x*4294967296) y=x*4294967296+y:=
 bits_join .u64 64 (by decide) (fun n h0 h1=>wu h0 (by omega)) 32 _ _ (by omega) (by omega) (by omega) hy0 (by omega) (by omega)
theorem rd_at (d:List Int) (x:Int) (r:List Int) (i:Int) (h:i=d.length):rd (d ++ x :: r) i=x:=by
 subst h
 unfold rd
 rw [Int.toNat_natCast,List.getD_eq_getElem?_getD,List.getElem?_append_right (Nat.le_refl _),Nat.sub_self]
 rfl
theorem set_at (d:List Int) (x y:Int) (r:List Int) (i:Int) (h:i=d.length):(d ++ x :: r).set i.toNat y=d ++ y :: r:=by
 subst h
 rw [Int.toNat_natCast,List.set_append_right _ _ (Nat.le_refl _),Nat.sub_self]
 rfl
theorem split_at (l:List Int) (i:Nat) (h:i<l.length):∃ d x r,l=d ++ x :: r∧d.length=i:=
 ⟨l.take i,l[i],l.drop (i+1),by rw [List.getElem_cons_drop,List.take_append_drop],by simp;omega⟩
def val:List Int→Int
 | []=>0
 | x :: r=>x+4294967296*val r
def Dig (l:List Int):Prop:=∀ x ∈ l,0≤x∧x<4294967296
def Nz:List Int→Prop
 | []=>True
 | [x]=>x≠0
 | _ :: y :: r=>Nz (y :: r)
def Is (l:List Int) (n:Int):Prop:=Dig l∧Nz l∧val l=n
theorem Dig.nil:Dig []:=fun _ h=>by cases h
theorem Dig.cons {x:Int} {r:List Int} (h0:0≤x) (h1:x<4294967296) (h:Dig r):Dig (x :: r):=fun y hy=>by
 rcases List.mem_cons.1 hy with rfl|hy
 ·exact ⟨h0,h1⟩
 ·exact h y hy
theorem Dig.head {x:Int} {r:List Int} (h:Dig (x :: r)):0≤x∧x<4294967296:=h x List.mem_cons_self
theorem Dig.tail {x:Int} {r:List Int} (h:Dig (x :: r)):Dig r:=fun y hy=>h y (List.mem_cons_of_mem _ hy)
theorem Dig.app {a b:List Int} (ha:Dig a) (hb:Dig b):Dig (a ++ b):=fun y hy=>by
 rcases List.mem_append.1 hy with hy|hy
 ·exact ha y hy
 ·exact hb y hy
theorem Dig.left {a b:List Int} (h:Dig (a ++ b)):Dig a:=fun y hy=>h y (List.mem_append_left _ hy)
theorem Dig.zeros (n:Nat):Dig (List.replicate n 0):=fun y hy=>by rw [(List.mem_replicate.1 hy).2];decide
theorem Dig.at {l:List Int} (h:Dig l) (i:Int):0≤rd l i∧rd l i<4294967296:=by
 unfold rd
 rw [List.getD_eq_getElem?_getD]
 by_cases hi:i.toNat<l.length
 ·rw [List.getElem?_eq_getElem hi]
  exact h _ (List.getElem_mem hi)
 ·rw [List.getElem?_eq_none (by omega)]
  exact ⟨by decide,by decide⟩
theorem Dig.take {l:List Int} (h:Dig l) (n:Nat):Dig (l.take n):=fun y hy=>h y (List.mem_of_mem_take hy)
theorem Dig.drop {l:List Int} (h:Dig l) (n:Nat):Dig (l.drop n):=fun y hy=>h y (List.mem_of_mem_drop hy)
theorem val_nonneg {l:List Int} (h:Dig l):0≤val l:=by
 induction l with
 | nil=>exact Int.le_refl _
 | cons x r ih=>
  have:=ih h.tail
  have:=h.head
  simp only [val];omega
theorem val_app (a b:List Int):val (a ++ b)=val a+4294967296 ^ a.length*val b:=by
 induction a with
 | nil=>simp [val]
 | cons x r ih=>
  simp only [List.cons_append,val,List.length_cons,ih,Int.pow_succ]
  rw [Int.mul_add,Int.add_assoc,← Int.mul_assoc,Int.mul_comm 4294967296 (4294967296 ^ r.length)]
theorem val_zeros (n:Nat):val (List.replicate n 0)=0:=by
 induction n with
 | zero=>rfl
 | succ n ih=>rw [List.replicate_succ,val,ih];rfl
theorem val_lt {l:List Int} (h:Dig l):val l<4294967296 ^ l.length:=by
 induction l with
 | nil=>decide
 | cons x r ih=>
  have:=ih h.tail
  have:=h.head
  simp only [val,List.length_cons,Int.pow_succ];omega
theorem Nz.tail {x:Int} {r:List Int} (h:Nz (x :: r)):Nz r:=by
 cases r with
 | nil=>trivial
 | cons y r=>exact h
theorem val_pos {l:List Int} (hd:Dig l) (hz:Nz l) (hne:l≠[]):0<val l:=by
 induction l with
 | nil=>exact absurd rfl hne
 | cons x r ih=>
  have h0:=hd.head
  cases r with
  | nil=>have:x≠0:=hz;simp only [val];omega
  | cons y r=>have:=ih hd.tail hz.tail (by simp);simp only [val] at this ⊢;omega
theorem Is.unique {a b:List Int} {n:Int} (ha:Is a n) (hb:Is b n):a=b:=by
 induction a generalizing b n with
 | nil=>
  cases b with
  | nil=>rfl
  | cons y s=>
   have h1:=ha.2.2
   have h2:=hb.2.2
   have:=val_pos hb.1 hb.2.1 (by simp)
   simp only [val] at h1 h2 this;omega
 | cons x r ih=>
  cases b with
  | nil=>
   have h1:=ha.2.2
   have h2:=hb.2.2
   have:=val_pos ha.1 ha.2.1 (by simp)
   simp only [val] at h1 h2 this;omega
  | cons y s=>
   have h1:=ha.2.2
   have h2:=hb.2.2
   have a0:=ha.1.head
   have b0:=hb.1.head
   simp only [val] at h1 h2
   have e1:x=y:=by omega
   have e2:val r=val s:=by omega
   rw [e1,ih ⟨ha.1.tail,ha.2.1.tail,rfl⟩ ⟨hb.1.tail,hb.2.1.tail,e2.symm⟩]
theorem Is.nil:Is [] 0:=⟨Dig.nil,trivial,rfl⟩
theorem Is.pos {l:List Int} {n:Int} (h:Is l n) (hne:l≠[]):0<n:=h.2.2 ▸ val_pos h.1 h.2.1 hne
theorem Is.nonneg {l:List Int} {n:Int} (h:Is l n):0≤n:=h.2.2 ▸ val_nonneg h.1
theorem Is.one {x:Int} (h0:0<x) (h1:x<4294967296):Is [x] x:=⟨Dig.cons (by omega) h1 Dig.nil,by show x≠0;omega,by simp [val]⟩
theorem Nz.app {a:List Int} {x:Int} (hx:x≠0):Nz (a ++ [x]):=by
 induction a with
 | nil=>exact hx
 | cons y a ih=>
  cases a with
  | nil=>exact hx
  | cons z a=>exact ih
def tr:List Int→List Int
 | []=>[]
 | x :: r=>match tr r with
  | []=>if x=0 then [] else [x]
  | y :: s=>x :: y :: s
theorem tr_val (l:List Int):val (tr l)=val l:=by
 induction l with
 | nil=>rfl
 | cons x r ih=>
  simp only [tr]
  cases h:tr r with
  | nil=>
   rw [h] at ih
   simp only [val] at ih ⊢
   split
   ·simp only [val];omega
   ·simp only [val];omega
  | cons y s=>rw [h] at ih;simp only [val] at ih ⊢;omega
theorem tr_nz (l:List Int):Nz (tr l):=by
 induction l with
 | nil=>trivial
 | cons x r ih=>
  simp only [tr]
  cases h:tr r with
  | nil=>
   simp only
   split
   ·trivial
   ·assumption
  | cons y s=>rw [h] at ih;exact ih
theorem tr_dig {l:List Int} (hd:Dig l):Dig (tr l):=by
 induction l with
 | nil=>exact Dig.nil
 | cons x r ih=>
  have ih:=ih hd.tail
  have h0:=hd.head
  simp only [tr]
  cases h:tr r with
  | nil=>
   simp only
   split
   ·exact Dig.nil
   ·exact Dig.cons h0.1 h0.2 Dig.nil
  | cons y s=>rw [h] at ih;exact Dig.cons h0.1 h0.2 ih
theorem tr_is {l:List Int} (hd:Dig l):Is (tr l) (val l):=⟨tr_dig hd,tr_nz l,tr_val l⟩
theorem tr_app_zero (l:List Int):tr (l ++ [0])=tr l:=by
 induction l with
 | nil=>rfl
 | cons x r ih=>simp only [List.cons_append,tr,ih]
theorem tr_app_ne {l:List Int} {x:Int} (hx:x≠0):tr (l ++ [x])=l ++ [x]:=by
 induction l with
 | nil=>simp [tr,hx]
 | cons y r ih=>
  simp only [List.cons_append,tr,ih]
  cases r with
  | nil=>rfl
  | cons z r=>rfl
theorem tr_len (l:List Int):(tr l).length≤l.length:=by
 induction l with
 | nil=>exact Nat.le_refl _
 | cons x r ih=>
  simp only [tr]
  cases h:tr r with
  | nil=>
   simp only
   split <;> simp
  | cons y s=>rw [h] at ih;simp only [List.length_cons] at ih ⊢;omega
def bev (l:List UInt8):Nat:=l.foldl (fun a b=>a*256+b.toNat) 0
theorem bev_snoc (l:List UInt8) (b:UInt8):bev (l ++ [b])=bev l*256+b.toNat:=by
 unfold bev;rw [List.foldl_append];rfl
theorem bev_nil:bev []=0:=rfl
def digs (n:Nat):List UInt8:=if _h:n=0 then [] else digs (n/256) ++ [UInt8.ofNat n]
termination_by n
theorem digs_zero:digs 0=[]:=by rw [digs];rfl
theorem digs_pos {n:Nat} (h:n≠0):digs n=digs (n/256) ++ [UInt8.ofNat n]:=by rw [digs];rw [dif_neg h]
theorem snoc_cases {α : Type} (l:List α):l=[] ∨ ∃ a x,l=a ++ [x]:=by
 rcases List.eq_nil_or_concat l with h|⟨a,x,h⟩
 ·exact .inl h
 ·exact .inr ⟨a,x,by rw [h,List.concat_eq_append]⟩
theorem snoc_ind {α : Type} {P:List α → Prop} (h0:P []) (h1:∀ a x,P a→P (a ++ [x])):∀ (n:Nat) (l:List α),l.length=n→P l:=by
 intro n
 induction n with
 | zero=>intro l h;rw [List.eq_nil_of_length_eq_zero h];exact h0
 | succ n ih=>
  intro l h
  rcases snoc_cases l with rfl|⟨a,x,rfl⟩
  ·simp at h
  ·exact h1 a x (ih a (by simp at h;omega))
theorem canon (l:List UInt8):l.dropWhile (fun b=>b == 0)=digs (bev l):=by
 refine snoc_ind (P:=fun l=>l.dropWhile (fun b=>b == 0)=digs (bev l)) ?_ ?_ l.length l rfl
 ·rw [bev_nil,digs_zero];rfl
 ·intro a x ih
  rw [bev_snoc,List.dropWhile_append,ih]
  have hx:=x.toNat_lt
  by_cases hv:bev a=0
  ·rw [hv,digs_zero]
   simp only [List.isEmpty_nil,if_true,Nat.zero_mul,Nat.zero_add]
   by_cases h:x.toNat=0
   ·have hx0:x=0:=UInt8.toNat_inj.1 h
    rw [h,digs_zero,hx0]
    rfl
   ·have hne:(x == 0)=false:=by
     rw [beq_eq_false_iff_ne]
     intro e
     rw [e] at h
     exact h rfl
    rw [digs_pos h,Nat.div_eq_of_lt (by omega),digs_zero]
    simp [List.dropWhile,hne]
  ·have hn:bev a*256+x.toNat≠0:=by omega
   have hne:(digs (bev a)).isEmpty=false:=by rw [digs_pos hv];simp
   rw [hne,digs_pos hn]
   have e1:(bev a*256+x.toNat)/256=bev a:=by omega
   have e2:UInt8.ofNat (bev a*256+x.toNat)=x:=by
    apply UInt8.toNat_inj.1
    rw [UInt8.toNat_ofNat']
    omega
   rw [e1,e2]
   rfl
theorem bev_digs (n:Nat):bev (digs n)=n:=by
 induction n using Nat.strongRecOn with
 | _ n ih=>
  by_cases h:n=0
  ·rw [h,digs_zero];rfl
  ·rw [digs_pos h,bev_snoc,ih (n/256) (by omega),UInt8.toNat_ofNat']
   omega
theorem digs_len (n m:Nat) (h:n<256 ^ m):(digs n).length≤m:=by
 induction m generalizing n with
 | zero=>
  have:n=0:=by simpa using h
  rw [this,digs_zero]
  exact Nat.le_refl _
 | succ m ih=>
  by_cases h0:n=0
  ·rw [h0,digs_zero];exact Nat.zero_le _
  ·rw [digs_pos h0,List.length_append]
   have:=ih (n/256) (by rw [Nat.pow_succ] at h;omega)
   simp;omega
theorem bev_lt (l:List UInt8):bev l<256 ^ l.length:=by
 refine snoc_ind (P:=fun l=>bev l<256 ^ l.length) ?_ ?_ l.length l rfl
 ·decide
 ·intro a x ih
  rw [bev_snoc,List.length_append,List.length_singleton,Nat.pow_succ]
  have:=x.toNat_lt
  omega
def S (n:Int):ByteArray:=⟨(digs n.toNat).toArray⟩
def B (s:ByteArray):Int:=bev s.data.toList
theorem B_nonneg (s:ByteArray):0≤B s:=by unfold B;omega
theorem B_S {n:Int} (h:0≤n):B (S n)=n:=by
 unfold B S
 rw [show (⟨(digs n.toNat).toArray⟩:ByteArray).data.toList=digs n.toNat from rfl,bev_digs]
 omega
theorem S_size {n:Int} {m:Nat} (h:n<256 ^ m):(S n).size≤m:=by
 have h2:(S n).size=(digs n.toNat).length:=List.size_toArray
 rw [h2]
 refine digs_len _ _ ?_
 have e1:((256 ^ m:Nat):Int)=(256:Int) ^ m:=Int.natCast_pow 256 m
 have e2:(0:Int)<(256:Int) ^ m:=Int.pow_pos (by decide)
 rw [← e1] at h e2
 generalize 256 ^ m=q at h e2 ⊢
 omega
theorem B_lt (s:ByteArray):B s<256 ^ s.size:=by
 unfold B
 have:=bev_lt s.data.toList
 have e:s.data.toList.length=s.size:=Array.length_toList
 rw [e] at this
 have e1:((256 ^ s.size:Nat):Int)=(256:Int) ^ s.size:=Int.natCast_pow 256 s.size
 rw [← e1]
 exact Int.ofNat_lt.2 this
theorem norm_eq (s:ByteArray):(⟨(s.data.toList.dropWhile (fun b=>b == 0)).toArray⟩:ByteArray)=S (B s):=by
 rw [canon];unfold S B;rw [Int.toNat_natCast]
def lev:List Int→Int
 | []=>0
 | x :: r=>x+256*lev r
def Byt (l:List Int):Prop:=∀ x ∈ l,0≤x∧x<256
def leb:List Int→List Int
 | []=>[]
 | x :: r=>x%256 :: x/256%256 :: x/65536%256 :: x/16777216%256 :: leb r
theorem leb_lev {l:List Int} (h:Dig l):lev (leb l)=val l:=by
 induction l with
 | nil=>rfl
 | cons x r ih=>
  have h0:=h.head
  have:=ih h.tail
  simp only [leb,lev,val];omega
theorem leb_len (l:List Int):(leb l).length=4*l.length:=by
 induction l with
 | nil=>rfl
 | cons x r ih=>simp only [leb,List.length_cons,ih];omega
theorem leb_byt (l:List Int):Byt (leb l):=by
 induction l with
 | nil=>intro x h;cases h
 | cons x r ih=>
  intro y hy
  simp only [leb,List.mem_cons] at hy
  rcases hy with rfl|rfl|rfl|rfl|hy
  ·omega
  ·omega
  ·omega
  ·omega
  ·exact ih y hy
theorem bev_nums (l:List Int) (h:Byt l):(bev (l.reverse.map fun n=>UInt8.ofNat n.toNat):Int)=lev l:=by
 induction l with
 | nil=>rfl
 | cons x r ih=>
  have h0:=h x List.mem_cons_self
  rw [List.reverse_cons,List.map_append,List.map_cons,List.map_nil,bev_snoc,lev]
  have:=ih (fun y hy=>h y (List.mem_cons_of_mem _ hy))
  rw [UInt8.toNat_ofNat']
  omega
theorem B_nums {l:List Int} (h:Byt l):B (strOfNums l.reverse)=lev l:=by
 unfold B
 rw [strOfNums_data]
 exact bev_nums l h
theorem Ev.ite {α : Type} {c:Prop} [Decidable c] {f g:Nat→Option α} {r : α} (hc:c) (h:Ev f r):Ev (fun k=>if c then f k else g k) r:=by
 simpa only [if_pos hc] using h
theorem Ev.ite_not {α : Type} {c:Prop} [Decidable c] {f g:Nat→Option α} {r : α} (hc:¬ c) (h:Ev g r):Ev (fun k=>if c then f k else g k) r:=by
 simpa only [if_neg hc] using h
end Go.Proofs.YtjaflmhdclmolaaDoor.Num
end
section
namespace Go.Proofs.YtjaflmhdclmolaaDoor.F
open Go.RowKit Go.Proofs.YtjaflmhdclmolaaDoorW.PrintWords Go.Proofs.YtjaflmhdclmolaaDoorW.PrintLast Go.Proofs.YtjaflmhdclmolaaDoorW.PrintMore
attribute [local go_sem] max2_int min2_int max_two min_two max_three min_three max_four min_four   
set_option linter.unusedVariables false
set_option linter.unusedSimpArgs false
def insolvencyref1_Normalize.l0:Nat→ByteArray→Int→Option (ByteArray)
 | 0,_,_=>none
 | k+1,x0,x3=>if x3<(x0.size:Int) then (if 0≤x3 then (if (bt x0 x3)=0 then (insolvencyref1_Normalize.l0 k x0 (wrap64 (x3+1))) else (if x3≤(x0.size:Int) then (some (x0.extract (x3:Int).toNat x0.size)) else (none))) else (none)) else (if 0≤x3 then (if x3≤(x0.size:Int) then (some (x0.extract (x3:Int).toNat x0.size)) else (none)) else (none))
def insolvencyref1_Normalize.f (k:Nat) (a0:ByteArray):Option (ByteArray):=insolvencyref1_Normalize.l0 k a0 0
theorem insolvencyref1_Normalize.mono_l:∀ k,(∀ y0 y1,LeO (insolvencyref1_Normalize.l0 k y0 y1) (insolvencyref1_Normalize.l0 (k+1) y0 y1))
 | 0=>fun _ _ r h=>by simp [insolvencyref1_Normalize.l0] at h
 | k+1=>by
  have ih0:=insolvencyref1_Normalize.mono_l k
  ·intro y0 y1
   unfold insolvencyref1_Normalize.l0
   repeat' first
   | (with_reducible exact ih0 _ _)
   | (with_reducible exact LeO.refl _)
   | (with_reducible exact LeO.none _)
   | (with_reducible refine LeO.ite ?_ ?_)
   | (with_reducible refine LeO.bind ?_ (fun _=>?_))
   | exact ih0 _ _
   | exact LeO.none _
   | refine LeO.ite ?_ ?_
   | refine LeO.bind ?_ (fun _=>?_)
theorem insolvencyref1_Normalize.mono:∀ a0 k,LeO (insolvencyref1_Normalize.f k a0) (insolvencyref1_Normalize.f (k+1) a0):=by
 intro a0 k
 have ih0:=insolvencyref1_Normalize.mono_l k
 unfold insolvencyref1_Normalize.f
 repeat' first
  | (with_reducible exact ih0 _ _)
  | (with_reducible exact LeO.refl _)
  | (with_reducible exact LeO.none _)
  | (with_reducible refine LeO.ite ?_ ?_)
  | (with_reducible refine LeO.bind ?_ (fun _=>?_))
  | exact ih0 _ _
  | exact LeO.none _
  | refine LeO.ite ?_ ?_
  | refine LeO.bind ?_ (fun _=>?_)
set_option maxHeartbeats 8000000 in
set_option maxRecDepth 100000 in
theorem insolvencyref1_Normalize.calls (k:Nat) (a0:ByteArray) (r:ByteArray) (w:World) (h:insolvencyref1_Normalize.f k a0=some r) :
 Calls Tryd.prog 19 #[.string a0] w fun e w'=>e = .returned (.string r)∧Drawn0 w w':=by
 have H:(insolvencyref1_Normalize.l0 k a0 0)=some r:=h
 clear h
 have H':=Aside0.mk H
 clear H
 go_enter Tryd.func19,Tryd.ntmps19
 go_wp2
 go_loopg [3] k (fun kq v3 w'=>∃ (x3_1:Int),v3 = .int .i64 x3_1∧Aside0 (insolvencyref1_Normalize.l0 kq a0 x3_1=some r)∧Aside0 (kq≤k)∧Drawn0 w w')
 case atStart=>exact ⟨(0),(by first|rfl|(simp;done)|(simp [*];done)),H',⟨Nat.le_refl _⟩,by repeat (first|exact Drawn0.refl _|apply Drawn0.step)⟩
 case round=>
  clear H'
  try clear c1
  obtain ⟨x3_1,rfl,HA,HK1,⟨m1,rfl⟩⟩:=hrel
  cases gk with
  | zero=>exact absurd HA.out (by simp [insolvencyref1_Normalize.l0])
  | succ k1=>
   have H:=HA.out
   clear HA
   simp only [insolvencyref1_Normalize.l0] at H
   by_cases c2:x3_1<(a0.size:Int)
   ·rw [if_pos c2] at H
    have c2b0:decide (x3_1<(a0.size:Int))=true:=decide_eq_true c2
    clear c2
    by_cases c3:0≤x3_1
    ·rw [if_pos c3] at H
     have c3b0:decide (0≤x3_1)=true:=decide_eq_true c3
     clear c3
     by_cases c5:(bt a0 x3_1)=0
     ·rw [if_pos c5] at H
      have c5b0:((bt a0 x3_1) == 0)=true:=beq_iff_eq.mpr c5
      have c5b1:((bt a0 x3_1) != 0)=false:=bne_eq_false_iff_eq.mpr c5
      clear c5
      have H':=Aside0.mk H
      clear H
      have p4:0≤(x3_1:Int):=of_decide_eq_true (by first|(with_reducible assumption)|assumption)
      have q4:x3_1<(a0.size:Int):=of_decide_eq_true (by first|(with_reducible assumption)|assumption)
      have hx4:=bt_at a0 x3_1
      replace p4:=eq_true p4
      replace q4:=eq_true q4
      go_wp2
      go_roundg k1
      case measure=>have:=HK1.out;omega
      case rel=>exact ⟨(wrap64 (x3_1+1)),(by first|rfl|(simp;done)|(simp [*];done)),H',⟨by have:=HK1.out;omega⟩,by repeat (first|exact Drawn0.refl _|apply Drawn0.step)⟩
     ·rw [if_neg c5] at H
      have c5b0:((bt a0 x3_1) == 0)=false:=beq_eq_false_iff_ne.mpr c5
      have c5b1:((bt a0 x3_1) != 0)=true:=bne_iff_ne.mpr c5
      have c6b0:=eq_true (of_decide_eq_true (by first|(with_reducible assumption)|assumption):0≤x3_1)
      by_cases c7:x3_1≤(a0.size:Int)
      ·rw [if_pos c7] at H
       have c7b0:=eq_true c7
       have c7b1:decide (x3_1≤(a0.size:Int))=true:=decide_eq_true c7
       clear c7
       obtain rfl:=Option.some.inj H
       have p4:0≤(x3_1:Int):=of_decide_eq_true (by first|(with_reducible assumption)|assumption)
       have q4:x3_1<(a0.size:Int):=of_decide_eq_true (by first|(with_reducible assumption)|assumption)
       have hx4:=bt_at a0 x3_1
       replace p4:=eq_true p4
       replace q4:=eq_true q4
       go_wp2
       go_ret
       exact ⟨by first|rfl|(simp;done)|(simp [*];done),by repeat (first|exact Drawn0.refl _|apply Drawn0.step)⟩
      ·rw [if_neg c7] at H
       exact absurd H (by simp)
    ·rw [if_neg c3] at H
     exact absurd H (by simp)
   ·rw [if_neg c2] at H
    have c2b0:decide (x3_1<(a0.size:Int))=false:=decide_eq_false c2
    clear c2
    by_cases c8:0≤x3_1
    ·rw [if_pos c8] at H
     have c8b0:=eq_true c8
     have c8b1:decide (0≤x3_1)=true:=decide_eq_true c8
     clear c8
     by_cases c9:x3_1≤(a0.size:Int)
     ·rw [if_pos c9] at H
      have c9b0:=eq_true c9
      have c9b1:decide (x3_1≤(a0.size:Int))=true:=decide_eq_true c9
      clear c9
      obtain rfl:=Option.some.inj H
      go_wp2
      go_ret
      exact ⟨by first|rfl|(simp;done)|(simp [*];done),by repeat (first|exact Drawn0.refl _|apply Drawn0.step)⟩
     ·rw [if_neg c9] at H
      exact absurd H (by simp)
    ·rw [if_neg c8] at H
     exact absurd H (by simp)
end Go.Proofs.YtjaflmhdclmolaaDoor.F
end
section
namespace Go.Proofs.YtjaflmhdclmolaaDoor.F
open Go.RowKit Go.Proofs.YtjaflmhdclmolaaDoorW.PrintWords Go.Proofs.YtjaflmhdclmolaaDoorW.PrintLast Go.Proofs.YtjaflmhdclmolaaDoorW.PrintMore
attribute [local go_sem] max2_int min2_int max_two min_two max_three min_three max_four min_four   
set_option linter.unusedVariables false
set_option linter.unusedSimpArgs false
def insolvencyref1_strip.l0:Nat→List Int→Int→Option (List Int)
 | 0,_,_=>none
 | k+1,x0,x3=>if x3>0 then (if 0≤(wrap64 (x3-1)) then (if (wrap64 (x3-1))<(x0.length:Int) then (if (rd x0 (wrap64 (x3-1)))=0 then (insolvencyref1_strip.l0 k x0 (wrap64 (x3-1))) else (if 0≤x3 then (if x3≤(x0.length:Int) then (some (x0.take (x3:Int).toNat)) else (none)) else (none))) else (none)) else (none)) else (if 0≤x3 then (if x3≤(x0.length:Int) then (some (x0.take (x3:Int).toNat)) else (none)) else (none))
def insolvencyref1_strip.f (k:Nat) (l0:List Int):Option (List Int):=insolvencyref1_strip.l0 k l0 (l0.length:Int)
theorem insolvencyref1_strip.mono_l:∀ k,(∀ y0 y1,LeO (insolvencyref1_strip.l0 k y0 y1) (insolvencyref1_strip.l0 (k+1) y0 y1))
 | 0=>fun _ _ r h=>by simp [insolvencyref1_strip.l0] at h
 | k+1=>by
  have ih0:=insolvencyref1_strip.mono_l k
  ·intro y0 y1
   unfold insolvencyref1_strip.l0
   repeat' first
   | (with_reducible exact ih0 _ _)
   | (with_reducible exact LeO.refl _)
   | (with_reducible exact LeO.none _)
   | (with_reducible refine LeO.ite ?_ ?_)
   | (with_reducible refine LeO.bind ?_ (fun _=>?_))
   | exact ih0 _ _
   | exact LeO.none _
   | refine LeO.ite ?_ ?_
   | refine LeO.bind ?_ (fun _=>?_)
theorem insolvencyref1_strip.mono:∀ a0 k,LeO (insolvencyref1_strip.f k a0) (insolvencyref1_strip.f (k+1) a0):=by
 intro a0 k
 have ih0:=insolvencyref1_strip.mono_l k
 unfold insolvencyref1_strip.f
 repeat' first
  | (with_reducible exact ih0 _ _)
  | (with_reducible exact LeO.refl _)
  | (with_reducible exact LeO.none _)
  | (with_reducible refine LeO.ite ?_ ?_)
  | (with_reducible refine LeO.bind ?_ (fun _=>?_))
  | exact ih0 _ _
  | exact LeO.none _
  | refine LeO.ite ?_ ?_
  | refine LeO.bind ?_ (fun _=>?_)
set_option maxHeartbeats 8000000 in
set_option maxRecDepth 100000 in
theorem insolvencyref1_strip.calls (k:Nat) (P0_:Nat→Prop) (u9000_:Value) (l0:List Int) (r:List Int) (w0 w:World) (hB:Below w0.heap.size w0 w) (ho0:Kd.R (Kd.int .u32) 60 w w0.heap.size P0_ u9000_ l0) (h:insolvencyref1_strip.f k l0=some r) :
 Calls Tryd.prog 75 #[u9000_] w fun e w'=>∃ v0_:Value,e = .returned (v0_)∧Kd.R (Kd.int .u32) 60 w' w0.heap.size (fun k_=>(P0_ k_∨w.heap.size≤k_)) v0_ r∧Below w0.heap.size w0 w'∧Kept w w' (fun k_=>P0_ k_):=by
 have HO0:=Aside0.mk (show Kd.R (Kd.int .u32) 60 w w0.heap.size (fun k_=>(P0_ k_∨w.heap.size≤k_)) u9000_ l0 from Kd.R_mono ho0 (fun k_ hk=>(.inl hk)))
 have HK:=Aside0.mk (Kept.refl w (fun k_=>P0_ k_))
 have HW0:=Aside0.mk hB.size
 have HB:=Aside0.mk hB
 clear hB
 have H:(insolvencyref1_strip.l0 k l0 (l0.length:Int))=some r:=h
 clear h
 have H':=Aside0.mk H
 clear H
 obtain ⟨Ao2,co2,eo2⟩:=Kd.R_slice HO0.out
 subst eo2
 go_enter Tryd.func75,Tryd.ntmps75
 go_wp2
 go_loopg [3] k (fun kq v3 w'=>∃ (x3_1:Int),v3 = .int .i64 x3_1∧Aside0 (insolvencyref1_strip.l0 kq l0 x3_1=some r)∧Aside0 (kq≤k)∧Aside0 (Kd.R (Kd.int .u32) 60 w' w0.heap.size (fun k_=>(P0_ k_∨w.heap.size≤k_)) (.slice Ao2 l0.length co2) l0)∧Aside0 (Kept w w' (fun k_=>P0_ k_))∧Aside0 (Below w0.heap.size w0 w'))
 case atStart=>exact ⟨((l0.length:Int)),(by first|rfl|(simp;done)|(simp [*];done)),H',⟨Nat.le_refl _⟩,⟨by (with_reducible repeat (first|apply Kd.R_alloc|apply Kd.R_drewN|apply Kd.R_drew));exact HO0.out⟩,⟨by repeat (first|(with_reducible first|exact HK.out|apply Kept.alloc|apply Kept.drewN|apply Kept.drew)|exact HK.out)⟩,⟨by repeat (first|(with_reducible first|exact HB.out|apply below_alloc|apply pw_below_drewN|apply below_drew1)|exact HB.out)⟩⟩
 case round=>
  clear H'
  try clear p2
  obtain ⟨x3_1,rfl,HA,HK1,HO_0,HK,HB⟩:=hrel
  cases gk with
  | zero=>exact absurd HA.out (by simp [insolvencyref1_strip.l0])
  | succ k1=>
   have H:=HA.out
   clear HA
   simp only [insolvencyref1_strip.l0] at H
   by_cases c3:x3_1>0
   ·rw [if_pos c3] at H
    have c3b0:decide (0<x3_1)=true:=decide_eq_true c3
    clear c3
    obtain ⟨ji4,hji4⟩:∃ j_:Int,(wrap64 (x3_1-1))=j_:=⟨_,rfl⟩
    replace H:(if 0≤(ji4) then (if (ji4)<(l0.length:Int) then (if (rd l0 (ji4))=0 then (insolvencyref1_strip.l0 k1 l0 ji4) else (if 0≤x3_1 then (if x3_1≤(l0.length:Int) then (some (l0.take (x3_1:Int).toNat)) else (none)) else (none))) else (none)) else (none))=some r:=by first|(rw [hji4] at H;exact H)|(simp only [hji4] at H ⊢;exact H)
    have hji4w:(IntKind.i64.wrap (x3_1-1))=ji4:=(i64_w _).trans hji4
    by_cases c5:0≤(ji4)
    ·rw [if_pos c5] at H
     have c5b0:decide (0≤(ji4))=true:=decide_eq_true c5
     clear c5
     by_cases c6:(ji4)<(l0.length:Int)
     ·rw [if_pos c6] at H
      have c6b0:decide ((ji4)<(l0.length:Int))=true:=decide_eq_true c6
      clear c6
      by_cases c7:(rd l0 (ji4))=0
      ·rw [if_pos c7] at H
       have c7b0:((rd l0 (ji4)) == 0)=true:=beq_iff_eq.mpr c7
       have c7b1:((rd l0 (ji4)) != 0)=false:=bne_eq_false_iff_eq.mpr c7
       clear c7
       have H':=Aside0.mk H
       clear H
       have p296:0≤((ji4):Int):=of_decide_eq_true (by first|(with_reducible assumption)|assumption)
       have q296:(ji4)<(l0.length:Int):=of_decide_eq_true (by first|(with_reducible assumption)|assumption)
       obtain ⟨ad296,e296,hx296_0⟩:=Kd.at_int (Kd.R_reads' HO_0.out).2.2 (ji4) p296 q296
       cases e296
       replace p296:=eq_true p296
       replace q296:=eq_true q296
       go_wp2
       go_roundg k1
       case measure=>have:=HK1.out;omega
       case rel=>exact ⟨(ji4),(by first|rfl|(simp;done)|(simp only [← hji4] <;> (first|rfl|simp))|(simp [*];done)),H',⟨by have:=HK1.out;omega⟩,⟨by (with_reducible repeat (first|apply Kd.R_alloc|apply Kd.R_drewN|apply Kd.R_drew));exact HO_0.out⟩,⟨by repeat (first|(with_reducible first|exact HK.out|apply Kept.alloc|apply Kept.drewN|apply Kept.drew)|exact HK.out)⟩,⟨by repeat (first|(with_reducible first|exact HB.out|apply below_alloc|apply pw_below_drewN|apply below_drew1)|exact HB.out)⟩⟩
      ·rw [if_neg c7] at H
       have c7b0:((rd l0 (ji4)) == 0)=false:=beq_eq_false_iff_ne.mpr c7
       have c7b1:((rd l0 (ji4)) != 0)=true:=bne_iff_ne.mpr c7
       by_cases c8:0≤x3_1
       ·rw [if_pos c8] at H
        have c8b0:=eq_true c8
        have c8b1:decide (0≤x3_1)=true:=decide_eq_true c8
        clear c8
        by_cases c9:x3_1≤(l0.length:Int)
        ·rw [if_pos c9] at H
         have c9b0:=eq_true c9
         have c9b1:decide (x3_1≤(l0.length:Int))=true:=decide_eq_true c9
         clear c9
         obtain ⟨y297,hy297⟩:∃ y_:List Int,y_=(l0.take (x3_1:Int).toNat):=⟨_,rfl⟩
         replace H:(some y297)=some r:=by first|(rw [hy297];with_reducible exact H)|(have H2_:=(Option.bind_some _ _).symm.trans H;rw [hy297];with_reducible exact H2_)|(have H2_:=(Option.bind_some _ _).symm.trans H;with_reducible exact H2_)|with_reducible exact H|(rw [hy297];exact H)|exact H
         have Ny297:=Aside0.mk hy297
         clear hy297
         obtain rfl:=Option.some.inj H
         have p296:0≤((ji4):Int):=of_decide_eq_true (by first|(with_reducible assumption)|assumption)
         have q296:(ji4)<(l0.length:Int):=of_decide_eq_true (by first|(with_reducible assumption)|assumption)
         obtain ⟨ad296,e296,hx296_0⟩:=Kd.at_int (Kd.R_reads' HO_0.out).2.2 (ji4) p296 q296
         cases e296
         replace p296:=eq_true p296
         replace q296:=eq_true q296
         have q10:(x3_1:Int)≤((l0.length:Int):Int):=of_decide_eq_true (by first|(with_reducible assumption)|assumption)
         obtain ⟨i010,hi010,_,hsz10,_⟩:=info_parts info60
         have hcut10:=cut_to (P:=Tryd.prog) 49 60 .i64 Tryd.underlying49 hi010 (some ad296) l0.length co2 x3_1 (of_decide_eq_true (by first|(with_reducible assumption)|assumption)) q10 (Kd.R_reads' HO_0.out).2.1
         have hr10:=Kd.R_take (m:=(x3_1:Int).toNat) HO_0.out (by omega)
         have hy10:y297.length=(x3_1:Int).toNat:=(by rw [Ny297.out,List.length_take];omega)
         rw [← Ny297.out] at hr10
         rw [← hy10] at hr10 hcut10
         clear hy10 hi010 hsz10 HO_0
         have HO299:=Aside0.mk hr10
         clear hr10
         replace q10:=eq_true q10
         go_wp2
         go_ret
         exact ⟨_,by first|rfl|(simp [errW_none,errW_some] <;> rfl)|(simp only [← hji4];first|rfl|(simp [errW_none,errW_some] <;> rfl))|(simp [*,errW_none,errW_some] <;> rfl),by (with_reducible repeat (first|apply Kd.R_alloc|apply Kd.R_drewN|apply Kd.R_drew));exact HO299.out,by repeat (first|(with_reducible first|exact HB.out|apply below_alloc|apply pw_below_drewN|apply below_drew1)|exact HB.out),by repeat (first|(with_reducible first|exact HK.out|apply Kept.alloc|apply Kept.drewN|apply Kept.drew)|exact HK.out)⟩
        ·rw [if_neg c9] at H
         exact absurd H (by simp)
       ·rw [if_neg c8] at H
        exact absurd H (by simp)
     ·rw [if_neg c6] at H
      exact absurd H (by simp)
    ·rw [if_neg c5] at H
     exact absurd H (by simp)
   ·rw [if_neg c3] at H
    have c3b0:decide (0<x3_1)=false:=decide_eq_false c3
    clear c3
    by_cases c11:0≤x3_1
    ·rw [if_pos c11] at H
     have c11b0:=eq_true c11
     have c11b1:decide (0≤x3_1)=true:=decide_eq_true c11
     clear c11
     by_cases c12:x3_1≤(l0.length:Int)
     ·rw [if_pos c12] at H
      have c12b0:=eq_true c12
      have c12b1:decide (x3_1≤(l0.length:Int))=true:=decide_eq_true c12
      clear c12
      obtain ⟨y300,hy300⟩:∃ y_:List Int,y_=(l0.take (x3_1:Int).toNat):=⟨_,rfl⟩
      replace H:(some y300)=some r:=by first|(rw [hy300];with_reducible exact H)|(have H2_:=(Option.bind_some _ _).symm.trans H;rw [hy300];with_reducible exact H2_)|(have H2_:=(Option.bind_some _ _).symm.trans H;with_reducible exact H2_)|with_reducible exact H|(rw [hy300];exact H)|exact H
      have Ny300:=Aside0.mk hy300
      clear hy300
      obtain rfl:=Option.some.inj H
      have q13:(x3_1:Int)≤((l0.length:Int):Int):=of_decide_eq_true (by first|(with_reducible assumption)|assumption)
      obtain ⟨i013,hi013,_,hsz13,_⟩:=info_parts info60
      have hcut13:=cut_to (P:=Tryd.prog) 49 60 .i64 Tryd.underlying49 hi013 Ao2 l0.length co2 x3_1 (of_decide_eq_true (by first|(with_reducible assumption)|assumption)) q13 (Kd.R_reads' HO_0.out).2.1
      have hr13:=Kd.R_take (m:=(x3_1:Int).toNat) HO_0.out (by omega)
      have hy13:y300.length=(x3_1:Int).toNat:=(by rw [Ny300.out,List.length_take];omega)
      rw [← Ny300.out] at hr13
      rw [← hy13] at hr13 hcut13
      clear hy13 hi013 hsz13 HO_0
      have HO302:=Aside0.mk hr13
      clear hr13
      replace q13:=eq_true q13
      go_wp2
      go_ret
      exact ⟨_,by first|rfl|(simp [errW_none,errW_some] <;> rfl)|(simp [*,errW_none,errW_some] <;> rfl),by (with_reducible repeat (first|apply Kd.R_alloc|apply Kd.R_drewN|apply Kd.R_drew));exact HO302.out,by repeat (first|(with_reducible first|exact HB.out|apply below_alloc|apply pw_below_drewN|apply below_drew1)|exact HB.out),by repeat (first|(with_reducible first|exact HK.out|apply Kept.alloc|apply Kept.drewN|apply Kept.drew)|exact HK.out)⟩
     ·rw [if_neg c12] at H
      exact absurd H (by simp)
    ·rw [if_neg c11] at H
     exact absurd H (by simp)
end Go.Proofs.YtjaflmhdclmolaaDoor.F
end
section
namespace Go.Proofs.YtjaflmhdclmolaaDoor.F
open Go.RowKit Go.Proofs.YtjaflmhdclmolaaDoorW.PrintWords Go.Proofs.YtjaflmhdclmolaaDoorW.PrintLast Go.Proofs.YtjaflmhdclmolaaDoorW.PrintMore
attribute [local go_sem] max2_int min2_int max_two min_two max_three min_three max_four min_four   
set_option linter.unusedVariables false
set_option linter.unusedSimpArgs false
theorem insolvencyref1_text.make0 {P:Program} {ops:Array Oper} {rest:List Oper} {o:Oper} {a:Act} {Q:Exit→Act→World→Prop} {w0 W:World} (base e:Nat) (hgd:o.guard=none) {N:Tmp} (hd:o.dst=some N) (t:TypeId) (x y:Operand) (ho:o.op = .makeSlice t x y) (c:Int) (hx:a.eval x = .int .i64 0) (hy:a.eval y = .int .i64 c)
 (ht:P.underlying t=some (.slice e)) (hinfo:(P.info? e).map (fun i=>(i.zero,i.size,i.bytes))=some (some (.int .u8 0),1,1)) {ok:Nat→Prop} (hfresh:ok W.heap.size) (h0:0≤c) (hl:c≤281474976710656) (HB:Below base w0 W) (hbase:base≤W.heap.size)
 (h:∀ v1 w1,(Kd.int .u8).R e w1 base ok v1 []→Below base w0 w1→wpList P ops Q rest (a.put o.dst v1) w1):wpList P ops Q (o :: rest) a W:=by
 obtain ⟨i0,hi,hzz⟩:=Option.map_eq_some_iff.1 hinfo
 simp only [Prod.mk.injEq] at hzz
 obtain ⟨hz0,hz1,hz2⟩:=hzz
 have hr:=run_make (P:=P) W t e i0 (.int .u8 0) ht hi hz0 .i64 .i64 0 c (by omega) h0 (by rw [hz2];omega) (by omega)
 rw [hz1] at hr
 refine Kd.event_run hgd (w1:=W.alloc (.cells (madeCells (Value.int .u8 0).cells (c.toNat*1)) e)) (v:=.slice (some ⟨W.heap.size,0,none⟩) 0 c.toNat) (by simpa [execOp,ho,hx,hy] using congrArg (fun r=>r.andThen (fun a w'=>Result.ok (Next.value a) w')) hr) ?_
 refine h _ _ ?_ (HB.alloc hbase _)
 refine ⟨fun k hk=>?_,[],⟨rfl,.inr ⟨W.heap.size,c.toNat,madeCells (Value.int .u8 0).cells (c.toNat*1),rfl,hbase,Array.getElem?_push_size,Nat.zero_le _,by unfold maxLen;omega,size_madeCells _ _,by simp⟩⟩,Reps.none _ _⟩
 have:k=W.heap.size:=by simpa [Value.ownBlock] using hk.symm
 rw [this]
 exact hfresh
def insolvencyref1_text.l0:Nat→List Int→List Int→Int→Option (ByteArray)
 | 0,_,_,_=>none
 | k+1,x0,x3,x4=>if x4≥0 then (if 0≤x4 then (if x4<(x0.length:Int) then ((some (([((rd x0 x4)/16777216)%256,((rd x0 x4)/65536)%256,((rd x0 x4)/256)%256,(rd x0 x4)%256]:List Int):List Int)).bind fun y388=>(if x3.length+y388.length<140737488355328 then (insolvencyref1_text.l0 k x0 (x3 ++ y388) (wrap64 (x4-1))) else (none))) else (none)) else (none)) else ((insolvencyref1_Normalize.f k (strOfNums x3)).bind fun t394=>(some t394))
def insolvencyref1_text.f (k:Nat) (l0:List Int):Option (ByteArray):=(insolvencyref1_strip.f k l0).bind fun t381=>(if 4*(t381.length:Int)≤281474976710656 then (insolvencyref1_text.l0 k t381 (List.replicate 0 0) (wrap64 ((t381.length:Int)-1))) else (none))
theorem insolvencyref1_text.mono_l:∀ k,(∀ y0 y1 y2,LeO (insolvencyref1_text.l0 k y0 y1 y2) (insolvencyref1_text.l0 (k+1) y0 y1 y2))
 | 0=>fun _ _ _ r h=>by simp [insolvencyref1_text.l0] at h
 | k+1=>by
  have ih0:=insolvencyref1_text.mono_l k
  ·intro y0 y1 y2
   unfold insolvencyref1_text.l0
   repeat' first
   | (with_reducible exact ih0 _ _ _)
   | (with_reducible exact insolvencyref1_Normalize.mono _ _)
   | (with_reducible exact insolvencyref1_strip.mono _ _)
   | (with_reducible exact LeO.refl _)
   | (with_reducible exact LeO.none _)
   | (with_reducible refine LeO.ite ?_ ?_)
   | (with_reducible refine LeO.bind ?_ (fun _=>?_))
   | exact ih0 _ _ _
   | exact insolvencyref1_Normalize.mono _ _
   | exact insolvencyref1_strip.mono _ _
   | exact LeO.none _
   | refine LeO.ite ?_ ?_
   | refine LeO.bind ?_ (fun _=>?_)
theorem insolvencyref1_text.mono:∀ a0 k,LeO (insolvencyref1_text.f k a0) (insolvencyref1_text.f (k+1) a0):=by
 intro a0 k
 have ih0:=insolvencyref1_text.mono_l k
 unfold insolvencyref1_text.f
 repeat' first
  | (with_reducible exact ih0 _ _ _)
  | (with_reducible exact insolvencyref1_Normalize.mono _ _)
  | (with_reducible exact insolvencyref1_strip.mono _ _)
  | (with_reducible exact LeO.refl _)
  | (with_reducible exact LeO.none _)
  | (with_reducible refine LeO.ite ?_ ?_)
  | (with_reducible refine LeO.bind ?_ (fun _=>?_))
  | exact ih0 _ _ _
  | exact insolvencyref1_Normalize.mono _ _
  | exact insolvencyref1_strip.mono _ _
  | exact LeO.none _
  | refine LeO.ite ?_ ?_
  | refine LeO.bind ?_ (fun _=>?_)
set_option maxHeartbeats 8000000 in
set_option maxRecDepth 100000 in
theorem insolvencyref1_text.calls (k:Nat) (P0_:Nat→Prop) (u9000_:Value) (l0:List Int) (r:ByteArray) (w0 w:World) (hB:Below w0.heap.size w0 w) (ho0:Kd.R (Kd.int .u32) 60 w w0.heap.size P0_ u9000_ l0) (h:insolvencyref1_text.f k l0=some r) :
 Calls Tryd.prog 47 #[u9000_] w fun e w'=>e = .returned (.string r)∧Below w0.heap.size w0 w'∧Kept w w' (fun k_=>P0_ k_):=by
 have HO0:=Aside0.mk (show Kd.R (Kd.int .u32) 60 w w0.heap.size (fun k_=>(P0_ k_∨w.heap.size≤k_)) u9000_ l0 from Kd.R_mono ho0 (fun k_ hk=>(.inl hk)))
 have HK:=Aside0.mk (Kept.refl w (fun k_=>P0_ k_))
 have HW0:=Aside0.mk hB.size
 have HB:=Aside0.mk hB
 clear hB
 have H:((insolvencyref1_strip.f k l0).bind fun t381=>(if 4*(t381.length:Int)≤281474976710656 then (insolvencyref1_text.l0 k t381 (List.replicate 0 0) (wrap64 ((t381.length:Int)-1))) else (none)))=some r:=h
 clear h
 replace H:=Option.bind_eq_some_iff.mp H
 obtain ⟨t381,A20,H⟩:=H
 replace H:(if 4*(t381.length:Int)≤281474976710656 then (insolvencyref1_text.l0 k t381 (List.replicate 0 0) (wrap64 ((t381.length:Int)-1))) else (none))=some r:=H
 have A2:=Aside0.mk A20
 clear A20
 by_cases c3:4*(t381.length:Int)≤281474976710656
 ·rw [if_pos c3] at H
  have c4p_:=c3
  have c5p_:0≤4*(t381.length:Int):=by omega
  have c3b0:=eq_true c3
  have c3b1:decide (4*(t381.length:Int)≤281474976710656)=true:=decide_eq_true c3
  clear c3
  obtain ⟨y384,hy384⟩:∃ y_:List Int,y_=(List.replicate 0 0):=⟨_,rfl⟩
  replace H:(insolvencyref1_text.l0 k t381 y384 (wrap64 ((t381.length:Int)-1)))=some r:=by first|(rw [hy384];with_reducible exact H)|(have H2_:=(Option.bind_some _ _).symm.trans H;rw [hy384];with_reducible exact H2_)|(have H2_:=(Option.bind_some _ _).symm.trans H;with_reducible exact H2_)|with_reducible exact H|(rw [hy384];exact H)|exact H
  have Ny384:=Aside0.mk hy384
  clear hy384
  have H':=Aside0.mk H
  clear H
  obtain ⟨Ao4,co4,eo4⟩:=Kd.R_slice HO0.out
  subst eo4
  go_enter Tryd.func47,Tryd.ntmps47
  go_wp2_with (first|((with_reducible refine gate_callee (f:=75) rfl ?_);refine goesL_ (some 7) rfl rfl Tryd.func75 (by kernel_rfl) rfl #[.slice Ao4 l0.length co4] rfl (by (try simp only [List.map_toArray,List.map_cons,List.map_nil]);first|done|rfl|(simp only [List.length_drop,List.length_take];rfl)) ?_;(with_reducible refine (insolvencyref1_strip.calls k (fun k_=>some k_=(.slice Ao4 l0.length co4:Value).ownBlock) (.slice Ao4 l0.length co4) l0 t381 w0 _ ?side1 ?side2 A2.out).mono ?_);(case side1=>repeat (first|(with_reducible first|exact HB.out|apply below_alloc|apply pw_below_drewN|apply below_drew1)|exact HB.out));(case side2=>exact Kd.R_tight rfl HO0.out);rintro e w5 ⟨v382,rfl,ho0,hb,hkp⟩;refine ⟨_,rfl,?_⟩;have n0_:=Aside0.mk (Kd.R_mono (ok':=fun k_=>(P0_ k_∨w.heap.size≤k_)) ho0 (fun k_ hk_=>Or.elim hk_ (fun hs_=>(HO0.out.1 k_ (hs_).symm)) (fun hn_=>(.inr (Nat.le_trans (by first|exact HK.out.1|exact (show Kept w _ (fun k_=>P0_ k_) from by repeat (first|(with_reducible first|exact HK.out|apply Kept.alloc|apply Kept.drewN|apply Kept.drew)|exact HK.out)).1) hn_)))));have n1_:=Aside0.mk (Kept.then_ (S:=(fun k_=>P0_ k_)) (by repeat (first|(with_reducible first|exact HK.out|apply Kept.alloc|apply Kept.drewN|apply Kept.drew)|exact HK.out)) hkp (fun k_ hs_=>(fun e_=>(HO0.out.1 k_ e_.symm)) hs_));have n2_:=Aside0.mk (hb);clear HK;clear HB;clear HO0;have HO383:=n0_;have HK:=n1_;have HB:=n2_;clear n0_ n1_ n2_;(try clear hb);(try clear hkp);(try clear ho0);obtain ⟨Ao6,co6,eo6⟩:=Kd.R_slice HO383.out;subst eo6)|((with_reducible refine gate_dst (N:=11) rfl ?_);refine insolvencyref1_text.make0 _ 5 rfl (N:=11) rfl 37 _ _ rfl (4*(t381.length:Int)) rfl rfl Tryd.underlying37 info5 (ok:=fun _=>True) trivial (by omega) (by omega) (Below.refl _ _) (Nat.le_refl _) ?_;intro v385 w7 ho8 hb;(rw [show ([]:List Int)=_ from Ny384.out.symm] at ho8);have n0_:=Aside0.mk (Kd.R_below (by (with_reducible repeat (first|apply Kd.R_alloc|apply Kd.R_drewN|apply Kd.R_drew));exact HO383.out) hb);have n1_:=Aside0.mk (Kd.R_lower (Kd.R_newM (M:=fun k_=>(P0_ k_∨w.heap.size≤k_)) ho8 (by first|exact HK.out.1|exact (show Kept w _ (fun k_=>P0_ k_) from by repeat (first|(with_reducible first|exact HK.out|apply Kept.alloc|apply Kept.drewN|apply Kept.drew)|exact HK.out)).1) (fun k_ h_=>.inr h_)) (below_size (by repeat (first|(with_reducible first|exact HB.out|apply below_alloc|apply pw_below_drewN|apply below_drew1)|exact HB.out))));have n2_:=Aside0.mk (Kept.below (S:=(fun k_=>P0_ k_)) (by repeat (first|(with_reducible first|exact HK.out|apply Kept.alloc|apply Kept.drewN|apply Kept.drew)|exact HK.out)) hb);have n3_:=Aside0.mk (below_step (by repeat (first|(with_reducible first|exact HB.out|apply below_alloc|apply pw_below_drewN|apply below_drew1)|exact HB.out)) hb);clear HO383;clear HK;clear HB;have HO383:=n0_;have HO386:=n1_;have HK:=n2_;have HB:=n3_;clear n0_ n1_ n2_ n3_;clear hb ho8))
  go_loopg [3,4] k (fun kq v3 v4 w'=>∃ (x3_1:List Int) (x4_1:Int),v4 = .int .i64 x4_1∧Aside0 (insolvencyref1_text.l0 kq t381 x3_1 x4_1=some r)∧Aside0 (kq≤k)∧Aside0 (Kd.R (Kd.int .u32) 60 w' w0.heap.size (fun k_=>(P0_ k_∨w.heap.size≤k_)) (.slice Ao6 t381.length co6) t381)∧Aside0 (Kd.R (Kd.int .u8) 5 w' w0.heap.size (fun k_=>(P0_ k_∨w.heap.size≤k_)) v3 x3_1)∧Aside0 (Kept w w' (fun k_=>P0_ k_))∧Aside0 (Below w0.heap.size w0 w'))
  case atStart=>exact ⟨(y384),(wrap64 ((t381.length:Int)-1)),(by first|(rw [show wrap64 ((t381.length:Int)-1)=(t381.length:Int)-1 from by unfold wrap64;omega])|rfl|(simp;done)|(simp [*];done)),H',⟨Nat.le_refl _⟩,⟨by (with_reducible repeat (first|apply Kd.R_alloc|apply Kd.R_drewN|apply Kd.R_drew));exact HO383.out⟩,⟨by (with_reducible repeat (first|apply Kd.R_alloc|apply Kd.R_drewN|apply Kd.R_drew));exact Kd.R_mono HO386.out (fun _ hk=>hk.1)⟩,⟨by repeat (first|(with_reducible first|exact HK.out|apply Kept.alloc|apply Kept.drewN|apply Kept.drew)|exact HK.out)⟩,⟨by repeat (first|(with_reducible first|exact HB.out|apply below_alloc|apply pw_below_drewN|apply below_drew1)|exact HB.out)⟩⟩
  case round=>
   clear H'
   try clear p2
   try clear c3
   try clear c3b0
   try clear c3b1
   try clear c4
   try clear p6
   try clear c7
   obtain ⟨x3_1,x4_1,rfl,HA,HK1,HO_0,HO_3,HK,HB⟩:=hrel
   cases gk with
   | zero=>exact absurd HA.out (by simp [insolvencyref1_text.l0])
   | succ k1=>
    have H:=HA.out
    clear HA
    simp only [insolvencyref1_text.l0] at H
    by_cases c9:x4_1≥0
    ·rw [if_pos c9] at H
     have c9b0:decide (0≤x4_1)=true:=decide_eq_true c9
     clear c9
     by_cases c10:0≤x4_1
     ·rw [if_pos c10] at H
      have c10b0:decide (0≤x4_1)=true:=decide_eq_true c10
      clear c10
      by_cases c11:x4_1<(t381.length:Int)
      ·rw [if_pos c11] at H
       have c11b0:decide (x4_1<(t381.length:Int))=true:=decide_eq_true c11
       clear c11
       obtain ⟨y388,hy388⟩:∃ y_:List Int,y_=(([((rd t381 x4_1)/16777216)%256,((rd t381 x4_1)/65536)%256,((rd t381 x4_1)/256)%256,(rd t381 x4_1)%256]:List Int)):=⟨_,rfl⟩
       replace H:(if x3_1.length+y388.length<140737488355328 then (insolvencyref1_text.l0 k1 t381 (x3_1 ++ y388) (wrap64 (x4_1-1))) else (none))=some r:=by first|(rw [hy388];with_reducible exact H)|(have H2_:=(Option.bind_some _ _).symm.trans H;rw [hy388];with_reducible exact H2_)|(have H2_:=(Option.bind_some _ _).symm.trans H;with_reducible exact H2_)|with_reducible exact H|(rw [hy388];exact H)|exact H
       have Ny388:=Aside0.mk hy388
       clear hy388
       by_cases c12:x3_1.length+y388.length<140737488355328
       ·rw [if_pos c12] at H
        have LMc12:=Aside0.mk c12
        clear c12
        obtain ⟨y391,hy391⟩:∃ y_:List Int,y_=(x3_1 ++ y388):=⟨_,rfl⟩
        replace H:(insolvencyref1_text.l0 k1 t381 y391 (wrap64 (x4_1-1)))=some r:=by first|(rw [hy391];with_reducible exact H)|(have H2_:=(Option.bind_some _ _).symm.trans H;rw [hy391];with_reducible exact H2_)|(have H2_:=(Option.bind_some _ _).symm.trans H;with_reducible exact H2_)|with_reducible exact H|(rw [hy391];exact H)|exact H
        have Ny391:=Aside0.mk hy391
        clear hy391
        have H':=Aside0.mk H
        clear H
        have p387:0≤(x4_1:Int):=of_decide_eq_true (by first|(with_reducible assumption)|assumption)
        have q387:x4_1<(t381.length:Int):=of_decide_eq_true (by first|(with_reducible assumption)|assumption)
        obtain ⟨ad387,e387,hx387_0⟩:=Kd.at_int (Kd.R_reads' HO_0.out).2.2 x4_1 p387 q387
        cases e387
        replace p387:=eq_true p387
        replace q387:=eq_true q387
        go_wp2_with (first|((with_reducible refine gate_dst (N:=35) rfl ?_);refine Kd.R_lit (Kd.int .u8) _ 5 ?hg (N:=35) ?hd (xs:=([((rd t381 x4_1)/16777216)%256,((rd t381 x4_1)/65536)%256,((rd t381 x4_1)/256)%256,(rd t381 x4_1)%256]:List Int)) (inner:=[.int .u8 (((rd t381 x4_1)/16777216)%256),.int .u8 (((rd t381 x4_1)/65536)%256),.int .u8 (((rd t381 x4_1)/256)%256),.int .u8 ((rd t381 x4_1)%256)]) (ok:=fun _=>True) (okp:=fun _=>True) ?hr ?hp (fun _ hk=>hk) trivial (Below.refl _ _) (Nat.le_refl _) (by simp) ?_;(case hd=>rfl);(case hg=>rfl);(case hr=>first|(go_simp;done)|(go_simp;rfl));(case hp=>exact (Reps.one (show Kd.M (Kd.int .u8) _ _ _ (((rd t381 x4_1)/16777216)%256) [.int .u8 (((rd t381 x4_1)/16777216)%256)] from rfl) (Reps.one (show Kd.M (Kd.int .u8) _ _ _ (((rd t381 x4_1)/65536)%256) [.int .u8 (((rd t381 x4_1)/65536)%256)] from rfl) (Reps.one (show Kd.M (Kd.int .u8) _ _ _ (((rd t381 x4_1)/256)%256) [.int .u8 (((rd t381 x4_1)/256)%256)] from rfl) (Reps.one (show Kd.M (Kd.int .u8) _ _ _ ((rd t381 x4_1)%256) [.int .u8 ((rd t381 x4_1)%256)] from rfl) (Reps.none _ _))))));intro v389 w13 ho14 hb hg_ hnew_;clear hg_ hnew_;(first|rw [← Ny388.out] at ho14|(simp only [Int.reduceToNat] at ho14;rw [← Ny388.out] at ho14));have n0_:=Aside0.mk (Kd.R_below (by (with_reducible repeat (first|apply Kd.R_alloc|apply Kd.R_drewN|apply Kd.R_drew));exact HO_0.out) hb);have n1_:=Aside0.mk (Kd.R_elder' (by (with_reducible repeat (first|apply Kd.R_alloc|apply Kd.R_drewN|apply Kd.R_drew));exact HO_3.out) (Kd.R_base ho14) hb);have n2_:=Aside0.mk (Kd.R_lower (Kd.R_new' (Kd.R_newM (M:=fun k_=>(P0_ k_∨w.heap.size≤k_)) ho14 (by first|exact HK.out.1|exact (show Kept w _ (fun k_=>P0_ k_) from by repeat (first|(with_reducible first|exact HK.out|apply Kept.alloc|apply Kept.drewN|apply Kept.drew)|exact HK.out)).1) (fun k_ h_=>.inr h_)) (Kd.R_lt (by (with_reducible repeat (first|apply Kd.R_alloc|apply Kd.R_drewN|apply Kd.R_drew));exact HO_3.out))) (below_size (by repeat (first|(with_reducible first|exact HB.out|apply below_alloc|apply pw_below_drewN|apply below_drew1)|exact HB.out))));have n3_:=Aside0.mk (Kept.below (S:=(fun k_=>P0_ k_)) (by repeat (first|(with_reducible first|exact HK.out|apply Kept.alloc|apply Kept.drewN|apply Kept.drew)|exact HK.out)) hb);have n4_:=Aside0.mk (below_step (by repeat (first|(with_reducible first|exact HB.out|apply below_alloc|apply pw_below_drewN|apply below_drew1)|exact HB.out)) hb);clear HO_0;clear HO_3;clear HK;clear HB;have HO_0:=n0_;have HO_3:=n1_;have HO390:=n2_;have HK:=n3_;have HB:=n4_;clear n0_ n1_ n2_ n3_ n4_;clear hb ho14;obtain ⟨Ao16,co16,eo16⟩:=Kd.R_slice HO390.out;subst eo16)|((with_reducible refine gate_builtin (b:=.append) (xs:=#[.tmp 23,.tmp 35]) rfl ?_);at_builtin;refine Kd.R_append_rows (Kd.int .u8) (w0:=w0) w0.heap.size rfl (.tmp 23) (.tmp 35) 37 5 (.int .u8 0) 1 rfl Tryd.underlying37 info5 rfl (by decide) (by omega) u3 x3_1 y388 _ _ _ (fun k_=>(P0_ k_∨w.heap.size≤k_)∧some k_≠(.slice Ao16 y388.length co16:Value).ownBlock) (fun _=>False) rfl rfl ?aO ?aR (fun _ _ h=>h) (fun _ h=>h.elim) ?aF ?aB ?aS ?aL ?_;(case aR=>repeat (first|exact (Kd.R_reads' HO390.out).2.2|(with_reducible refine Kd.C_alloc ?_ _)|(with_reducible refine Kd.C_drewN ?_ _)|(with_reducible refine Kd.C_drew ?_)));(case aB=>exact (by repeat (first|(with_reducible first|exact HB.out|apply below_alloc|apply pw_below_drewN|apply below_drew1)|exact HB.out)));(case aF=>exact (fun k_ hk=>⟨(.inr (Nat.le_trans (by first|exact HK.out.1|exact (show Kept w _ (fun k_=>P0_ k_) from by repeat (first|(with_reducible first|exact HK.out|apply Kept.alloc|apply Kept.drewN|apply Kept.drew)|exact HK.out)).1) hk)),Kd.fresh' (Kd.R_lt (by (with_reducible repeat (first|apply Kd.R_alloc|apply Kd.R_drewN|apply Kd.R_drew));exact HO390.out)) k_ hk⟩));(case aO=>exact (by (with_reducible repeat (first|apply Kd.R_alloc|apply Kd.R_drewN|apply Kd.R_drew));exact HO_3.out));(case aS=>exact (below_size (by repeat (first|(with_reducible first|exact HB.out|apply below_alloc|apply pw_below_drewN|apply below_drew1)|exact HB.out))));(case aL=>have:=LMc12.out;omega);intro v392 w15 ho hb hg hat;rw [← Ny391.out] at ho;have n0_:=Aside0.mk (Kd.R_over' (by (with_reducible repeat (first|apply Kd.R_alloc|apply Kd.R_drewN|apply Kd.R_drew));exact HO_0.out) (Kd.R_typed (by (with_reducible repeat (first|apply Kd.R_alloc|apply Kd.R_drewN|apply Kd.R_drew));exact HO_3.out)) (by decide) hg);have n1_:=Aside0.mk (Kd.R_after (ok:=(fun k_=>(P0_ k_∨w.heap.size≤k_))) (by (with_reducible repeat (first|apply Kd.R_alloc|apply Kd.R_drewN|apply Kd.R_drew));exact Kd.R_mono HO390.out (fun _ hk=>⟨hk.1.1,hk.2⟩)) hg hat);have n2_:=Aside0.mk (hb);have n3_:=Aside0.mk (Kept.of_grown (S:=(fun k_=>P0_ k_)) hg (by repeat (first|(with_reducible first|exact HK.out|apply Kept.alloc|apply Kept.drewN|apply Kept.drew)|exact HK.out)) (fun k_ e_=>(HO_3.out.1 k_ e_).1));have n4_:=Aside0.mk (ho);clear HO_0;clear HO390;clear HB;clear HK;clear HO_3;have HO_0:=n0_;have HO390:=n1_;have HB:=n2_;have HK:=n3_;have HO393:=n4_;clear n0_ n1_ n2_ n3_ n4_;clear ho hb hg hat))
        go_roundg k1
        case measure=>have:=HK1.out;omega
        case rel=>exact ⟨(y391),(wrap64 (x4_1-1)),(by first|rfl|(simp;done)|(simp [*];done)),H',⟨by have:=HK1.out;omega⟩,⟨by (with_reducible repeat (first|apply Kd.R_alloc|apply Kd.R_drewN|apply Kd.R_drew));exact HO_0.out⟩,⟨by (with_reducible repeat (first|apply Kd.R_alloc|apply Kd.R_drewN|apply Kd.R_drew));exact Kd.R_mono HO393.out (fun _ hk=>hk.1)⟩,⟨by repeat (first|(with_reducible first|exact HK.out|apply Kept.alloc|apply Kept.drewN|apply Kept.drew)|exact HK.out)⟩,⟨by repeat (first|(with_reducible first|exact HB.out|apply below_alloc|apply pw_below_drewN|apply below_drew1)|exact HB.out)⟩⟩
       ·rw [if_neg c12] at H
        exact absurd H (by simp)
      ·rw [if_neg c11] at H
       exact absurd H (by simp)
     ·rw [if_neg c10] at H
      exact absurd H (by simp)
    ·rw [if_neg c9] at H
     have c9b0:decide (0≤x4_1)=false:=decide_eq_false c9
     clear c9
     replace H:=Option.bind_eq_some_iff.mp H
     obtain ⟨t394,A170,H⟩:=H
     replace H:(some t394)=some r:=H
     have A17:=Aside0.mk A170
     clear A170
     obtain rfl:=Option.some.inj H
     have hcv18:=own_string (P:=Tryd.prog) Tryd.underlying37 Tryd.underlying5 Tryd.underlying9 (Kd.own_of_R HO_3.out)
     go_wp2_with (first|((with_reducible refine gate_callee (f:=19) rfl ?_);refine goesL_ (some 39) rfl rfl Tryd.func19 (by kernel_rfl) rfl #[.string (strOfNums x3_1)] rfl (by (try simp only [List.map_toArray,List.map_cons,List.map_nil]);first|done|rfl|(simp only [List.length_drop,List.length_take];rfl)) ?_;(with_reducible refine (insolvencyref1_Normalize.calls k1 (strOfNums x3_1) t394 _ A17.out).mono ?_);rintro e w' ⟨rfl,⟨nd,rfl⟩⟩;refine ⟨_,rfl,?_⟩))
     go_ret
     exact ⟨by first|rfl|(simp [errW_none,errW_some] <;> rfl)|(simp [*,errW_none,errW_some] <;> rfl),by repeat (first|(with_reducible first|exact HB.out|apply below_alloc|apply pw_below_drewN|apply below_drew1)|exact HB.out),by repeat (first|(with_reducible first|exact HK.out|apply Kept.alloc|apply Kept.drewN|apply Kept.drew)|exact HK.out)⟩
 ·rw [if_neg c3] at H
  exact absurd H (by simp)
end Go.Proofs.YtjaflmhdclmolaaDoor.F
end
