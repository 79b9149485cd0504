/- Part 8 of the proof of NaturalDivisors: the functions' walks and what they compute, in the order of the calls; each holds for all arguments that its row allows. -/
import Derived.Test.YtjaflmhdclmolaaDoorMNaturalDivisors6
import Derived.Test.YtjaflmhdclmolaaDoorMNaturalDivisors7
section
namespace Go.Proofs.YtjaflmhdclmolaaDoor.F
open Go.RowKit Go.Proofs.YtjaflmhdclmolaaDoorW.PrintWords Go.Proofs.YtjaflmhdclmolaaDoorW.PrintLast Go.Proofs.YtjaflmhdclmolaaDoorW.PrintMore
attribute [local go_sem] max2_int min2_int max_two min_two max_three min_three max_four min_four   
set_option linter.unusedVariables false
set_option linter.unusedSimpArgs false
def natural_stepAt.f (k:Nat) (n:Int) (u:List Int) (i:Int) (d:List Int):Option (Int×List Int):=if 0≤i∧0≤n∧i+n+1≤(u.length:Int) then (natural_step.f k ((u.drop i.toNat).take (n.toNat+1)) d).bind fun r=>some (r.1,u.take i.toNat ++ r.2 ++ u.drop (i.toNat+n.toNat+1)) else none
theorem natural_stepAt.mono:∀ n u i d k,LeO (natural_stepAt.f k n u i d) (natural_stepAt.f (k+1) n u i d):=by
 intro n u i d k
 unfold natural_stepAt.f
 exact LeO.ite (LeO.bind (natural_step.mono _ _ _) (fun _=>LeO.refl _)) (LeO.none _)
theorem natural_stepAt.bound {k:Nat} {n:Int} {u:List Int} {i:Int} {d:List Int} {r:Int×List Int} (h:natural_stepAt.f k n u i d=some r):0≤i∧0≤n∧i+n+1≤(u.length:Int):=by
 unfold natural_stepAt.f at h
 by_cases c:0≤i∧0≤n∧i+n+1≤(u.length:Int)
 ·exact c
 ·rw [if_neg c] at h;exact absurd h (by simp)
theorem natural_stepAt.back {e g cap base m:Nat} {w:World} {ok:Nat→Prop} {pre mid post r rest:List Value} {l0 r2:List Int} {j:Nat} (hj:j≤l0.length) (hjm:j+m≤l0.length)
 (hpre:pre=nums .u32 (l0.take j)) (hpost:post=nums .u32 (l0.drop (j+m)) ++ rest) (hcap:l0.length≤cap) (hm:cap≤maxLen) (hrest:l0.length+rest.length=cap)
 (h:Wd.R e pre post w base ok (.slice (some ⟨g,j,none⟩) m (cap-j)) r2) :
 Kd.R (Kd.int .u32) e w base ok (.slice (some ⟨g,0,none⟩) l0.length cap) (l0.take j ++ r2 ++ l0.drop (j+m)):=by
 obtain ⟨hk,g',cap',hv,hg,hl,hm',hh⟩:=h
 injection hv with h1 h2 h3
 injection h1 with h1
 injection h1 with h1 h4
 subst h1
 have hlen:(l0.take j ++ r2 ++ l0.drop (j+m)).length=l0.length:=by simp;omega
 refine ⟨fun k hk'=>hk k (by simpa [Value.ownBlock] using hk'),nums .u32 (l0.take j ++ r2 ++ l0.drop (j+m)),⟨by simp [nums,Kd.int,Kd.scalar],.inr ⟨g,cap,_,by rw [hlen],hg,hh,by rw [hlen];exact hcap,hm,?_,?_⟩⟩,?_⟩
 ·simp [hpre,hpost,nums,Kd.int,Kd.scalar];omega
 ·rw [hlen,hpre,hpost]
  simp only [Kd.int,Kd.scalar,Nat.mul_one]
  have e1:nums .u32 (l0.take j) ++ nums .u32 r2 ++ (nums .u32 (l0.drop (j+m)) ++ rest)=nums .u32 (l0.take j ++ r2 ++ l0.drop (j+m)) ++ rest:=by simp [nums,List.append_assoc]
  rw [e1,List.take_append_of_le_length (by simp [nums];omega),List.take_of_length_le (by simp [nums];omega)]
 ·refine ⟨by simp [nums,Kd.int,Kd.scalar],fun i p hp=>?_⟩
  have hi:=(List.getElem?_eq_some_iff.1 hp).1
  show ((nums .u32 (l0.take j ++ r2 ++ l0.drop (j+m))).drop (i*1)).take 1=[.int .u32 p]
  rw [Nat.mul_one,List.take_one,List.head?_drop]
  unfold nums
  rw [List.getElem?_map,hp]
  rfl
theorem natural_stepAt.calls (k:Nat) (m:Nat) (P0_:Nat→Prop) (g cap:Nat) (l0:List Int) (i:Int) (A1:Option Addr) (c1:Nat) (l1:List Int) (r1:Int) (r2:List Int) (w0 w:World) (hB:Below w0.heap.size w0 w) (ho0:Kd.R (Kd.int .u32) 60 w w0.heap.size P0_ (.slice (some ⟨g,0,none⟩) l0.length cap) l0) (hr1:∀ W_,Kept w W_ (fun k_=>P0_ k_)→Kd.C (Kd.int .u32) W_ A1 l1.length l1) (hc1:l1.length≤c1) (h:natural_stepAt.f k (m:Int) l0 i l1=some (r1,r2)) :
 Calls Tryd.prog 72 #[.slice (some ⟨g,i.toNat,none⟩) (m+1) (cap-i.toNat),.slice A1 l1.length c1] w fun e w'=>e = .returned (.int .u32 r1)∧Kd.R (Kd.int .u32) 60 w' w0.heap.size (fun k_=>(P0_ k_∨w.heap.size≤k_)) (.slice (some ⟨g,0,none⟩) l0.length cap) r2∧Below w0.heap.size w0 w'∧Kept w w' (fun k_=>P0_ k_):=by
 obtain ⟨b0,b1,b2⟩:=natural_stepAt.bound h
 unfold natural_stepAt.f at h
 rw [if_pos ⟨b0,b1,b2⟩] at h
 obtain ⟨⟨s1,s2⟩,hs,he⟩:=Option.bind_eq_some_iff.1 h
 obtain ⟨rfl,rfl⟩:=Prod.mk.inj (Option.some.inj he)
 obtain ⟨hk,inner,⟨hin,hcase⟩,hreps⟩:=ho0
 rcases hcase with ⟨hbad,_⟩|⟨g',cap',cur,hv,hg,hh,hl,hm,hcs,htake⟩
 ·simp at hbad
 injection hv with h1 h2 h3
 injection h1 with h1
 injection h1 with h1
 subst h1 h3
 simp only [Kd.int,Kd.scalar,Nat.mul_one] at hcs htake hin
 have hnum:inner=nums .u32 l0:=by
  apply List.ext_getElem?
  intro j
  unfold nums
  rw [List.getElem?_map]
  by_cases hj:j<l0.length
  ·rw [List.getElem?_eq_getElem hj]
   have:=hreps.2 j _ (List.getElem?_eq_getElem hj)
   have h2:(inner.drop (j*1)).take 1=[.int .u32 l0[j]]:=this
   rw [Nat.mul_one] at h2
   have h3:inner[j]?=some (.int .u32 l0[j]):=by
    have:=congrArg List.head? h2
    rw [List.take_one,List.head?_drop] at this
    revert this
    cases inner[j]? <;> simp
   rw [h3];rfl
  ·rw [List.getElem?_eq_none (by omega),List.getElem?_eq_none (by omega)];rfl
 have hn1:(m:Int).toNat=m:=Int.toNat_natCast m
 rw [hn1] at hs
 have hil:i.toNat+m+1≤l0.length:=by omega
 have hcur:cur.toList=nums .u32 l0 ++ cur.toList.drop l0.length:=by
  conv=>lhs;rw [← List.take_append_drop l0.length cur.toList]
  rw [htake,hnum]
 have hwin:((l0.drop i.toNat).take (m+1)).length=m+1:=by simp;omega
 have hpl:(nums .u32 (l0.take i.toNat)).length=i.toNat:=by simp [nums];omega
 have hW:Wd.R 60 (nums .u32 (l0.take i.toNat)) (nums .u32 (l0.drop (i.toNat+(m+1))) ++ cur.toList.drop l0.length) w w0.heap.size P0_ (.slice (some ⟨g,i.toNat,none⟩) (m+1) (cap-i.toNat)) ((l0.drop i.toNat).take (m+1)):=by
  refine ⟨fun k hk'=>hk k (by simpa [Value.ownBlock] using hk'),g,cap-i.toNat,by rw [hpl,hwin],hg,by rw [hwin];omega,by unfold maxLen at hm ⊢;omega,?_⟩
  rw [hh]
  congr 2
  apply Array.ext'
  show cur.toList=nums .u32 (l0.take i.toNat) ++ nums .u32 ((l0.drop i.toNat).take (m+1)) ++ (nums .u32 (l0.drop (i.toNat+(m+1))) ++ cur.toList.drop l0.length)
  rw [← List.append_assoc]
  have e1:nums .u32 (l0.take i.toNat) ++ nums .u32 ((l0.drop i.toNat).take (m+1)) ++ nums .u32 (l0.drop (i.toNat+(m+1)))=nums .u32 l0:=by
   unfold nums
   rw [← List.map_append,← List.map_append]
   congr 1
   rw [List.append_assoc,← List.drop_drop,List.take_append_drop,List.take_append_drop]
  rw [e1]
  exact hcur
 refine (natural_step.calls k _ _ P0_ _ _ A1 c1 l1 s1 s2 w0 w hB hW hr1 hc1 hs).mono ?_
 rintro e w' ⟨he1,hR,hb,hkp⟩
 refine ⟨he1,?_,hb,hkp⟩
 rw [hn1]
 exact natural_stepAt.back (mid:=[]) (r:=[]) (j:=i.toNat) (m:=m+1) (by omega) (by omega) rfl rfl hl hm (by have e_:=(Array.length_toList (xs:=cur)).trans hcs;rw [List.length_drop,e_];omega) hR
def natural_unshiftAt.f (k:Nat) (n:Int) (u:List Int) (a1:Int):Option (List Int):=if 0≤n∧n≤(u.length:Int) then natural_unshift.f k (u.take n.toNat) a1 else none
theorem natural_unshiftAt.mono:∀ n u a1 k,LeO (natural_unshiftAt.f k n u a1) (natural_unshiftAt.f (k+1) n u a1):=by
 intro n u a1 k
 unfold natural_unshiftAt.f
 exact LeO.ite (natural_unshift.mono _ _ _) (LeO.none _)
theorem natural_unshiftAt.bound {k:Nat} {n:Int} {u:List Int} {a1:Int} {r:List Int} (h:natural_unshiftAt.f k n u a1=some r):0≤n∧n≤(u.length:Int):=by
 unfold natural_unshiftAt.f at h
 by_cases c:0≤n∧n≤(u.length:Int)
 ·exact c
 ·rw [if_neg c] at h;exact absurd h (by simp)
theorem natural_unshiftAt.calls (k:Nat) (m:Nat) (A0:Option Addr) (c0:Nat) (l0:List Int) (a1:Int) (r:List Int) (w:World) (hr0:Kd.C (Kd.int .u32) w A0 l0.length l0) (hc0:l0.length≤c0) (h:natural_unshiftAt.f k (m:Int) l0 a1=some r) :
 Calls Tryd.prog 73 #[.slice A0 m c0,.int .u64 a1] w fun e w'=>∃ v0_:Value,e = .returned (v0_)∧Kd.R (Kd.int .u32) 60 w' w.heap.size (fun _=>True) v0_ r∧Below w.heap.size w w':=by
 obtain ⟨b0,b1⟩:=natural_unshiftAt.bound h
 unfold natural_unshiftAt.f at h
 rw [if_pos ⟨b0,b1⟩,Int.toNat_natCast] at h
 have hl:(l0.take m).length=m:=by simp;omega
 have hC:Kd.C (Kd.int .u32) w A0 (l0.take m).length (l0.take m):=by
  refine ⟨rfl,by have:=hr0.2.1;omega,fun hn=>?_⟩
  obtain ⟨ad,he,hc⟩:=hr0.2.2 (by omega)
  refine ⟨ad,he,fun j p hp=>hc j p ?_⟩
  have hj:=(List.getElem?_eq_some_iff.1 hp).1
  rw [List.getElem?_take_of_lt (by omega)] at hp
  exact hp
 have:=natural_unshift.calls k A0 c0 (l0.take m) a1 r w hC (by omega) h
 rw [hl] at this
 exact this
def natural_divide.l0:Nat→Int→Int→List Int→List Int→List Int→Int→Option (List Int×List Int)
 | 0,_,_,_,_,_,_=>none
 | k+1,x9,x8,x10,x11,x12,x13=>if x13≥0 then ((natural_stepAt.f k x9 x11 x13 x10).bind fun bt193=>(if 0≤x13 then (if x13<(x12.length:Int) then (natural_divide.l0 k x9 x8 x10 bt193.2 (x12.set (x13:Int).toNat bt193.1) (wrap64 (x13-1))) else (none)) else (none))) else ((natural_limbs_trim.f k x12).bind fun t196=>((natural_unshiftAt.f k x9 x11 x8).bind fun t199=>(some (t196,t199))))
def natural_divide.f (k:Nat) (l0:List Int) (l1:List Int):Option (List Int×List Int):=(natural_compare.f k l0 l1).bind fun t170=>(if t170<0 then (some (([]:List Int),l0)) else (if (l1.length:Int)=1 then (if 0<(l1.length:Int) then ((natural_divideSmall.f k l0 (rd l1 0)).bind fun bt172=>((natural_limbs_trim.f k (([bt172.2]:List Int))).bind fun t179=>(some (bt172.1,t179)))) else (none)) else (if 0≤(wrap64 ((l1.length:Int)-1)) then (if (wrap64 ((l1.length:Int)-1))<(l1.length:Int) then ((bits_LeadingZeros32.f (rd l1 (wrap64 ((l1.length:Int)-1)))).bind fun t183=>((natural_shift.f k l1 (IntKind.u64.wrap (t183)) (l1.length:Int)).bind fun t184=>((natural_shift.f k l0 (IntKind.u64.wrap (t183)) (wrap64 ((l0.length:Int)+1))).bind fun t187=>(if 0≤(wrap64 ((wrap64 ((l0.length:Int)-(l1.length:Int)))+1)) then (if (wrap64 ((wrap64 ((l0.length:Int)-(l1.length:Int)))+1):Int).toNat≤70368744177664 then ((some (List.replicate (wrap64 ((wrap64 ((l0.length:Int)-(l1.length:Int)))+1):Int).toNat 0:List Int)).bind fun y190=>(natural_divide.l0 k (l1.length:Int) (IntKind.u64.wrap (t183)) t184 t187 y190 (wrap64 ((y190.length:Int)-1)))) else (none)) else (none))))) else (none)) else (none))))
theorem natural_divide.mono_l:∀ k,(∀ y9 y0 y1 y2 y3 y4,LeO (natural_divide.l0 k y9 y0 y1 y2 y3 y4) (natural_divide.l0 (k+1) y9 y0 y1 y2 y3 y4))
 | 0=>fun _ _ _ _ _ _ r h=>by simp [natural_divide.l0] at h
 | k+1=>by
  have ih0:=natural_divide.mono_l k
  ·intro y9 y0 y1 y2 y3 y4
   unfold natural_divide.l0
   repeat' first
   | (with_reducible exact ih0 _ _ _ _ _ _)
   | (with_reducible exact natural_compare.mono _ _ _)
   | (with_reducible exact natural_divideSmall.mono _ _ _)
   | (with_reducible exact natural_limbs_trim.mono _ _)
   | (with_reducible exact natural_shift.mono _ _ _ _)
   | (with_reducible exact natural_stepAt.mono _ _ _ _ _)
   | (with_reducible exact natural_unshiftAt.mono _ _ _ _)
   | (with_reducible exact LeO.refl _)
   | (with_reducible exact LeO.none _)
   | (with_reducible refine LeO.ite ?_ ?_)
   | (with_reducible refine LeO.bind ?_ (fun _=>?_))
   | exact ih0 _ _ _ _ _ _
   | exact natural_compare.mono _ _ _
   | exact natural_divideSmall.mono _ _ _
   | exact natural_limbs_trim.mono _ _
   | exact natural_shift.mono _ _ _ _
   | exact natural_stepAt.mono _ _ _ _ _
   | exact natural_unshiftAt.mono _ _ _ _
   | exact LeO.none _
   | refine LeO.ite ?_ ?_
   | refine LeO.bind ?_ (fun _=>?_)
theorem natural_divide.mono:∀ a0 a1 k,LeO (natural_divide.f k a0 a1) (natural_divide.f (k+1) a0 a1):=by
 intro a0 a1 k
 have ih0:=natural_divide.mono_l k
 unfold natural_divide.f
 repeat' first
  | (with_reducible exact ih0 _ _ _ _ _ _)
  | (with_reducible exact natural_compare.mono _ _ _)
  | (with_reducible exact natural_divideSmall.mono _ _ _)
  | (with_reducible exact natural_limbs_trim.mono _ _)
  | (with_reducible exact natural_shift.mono _ _ _ _)
  | (with_reducible exact natural_stepAt.mono _ _ _ _ _)
  | (with_reducible exact natural_unshiftAt.mono _ _ _ _)
  | (with_reducible exact LeO.refl _)
  | (with_reducible exact LeO.none _)
  | (with_reducible refine LeO.ite ?_ ?_)
  | (with_reducible refine LeO.bind ?_ (fun _=>?_))
  | exact ih0 _ _ _ _ _ _
  | exact natural_compare.mono _ _ _
  | exact natural_divideSmall.mono _ _ _
  | exact natural_limbs_trim.mono _ _
  | exact natural_shift.mono _ _ _ _
  | exact natural_stepAt.mono _ _ _ _ _
  | exact natural_unshiftAt.mono _ _ _ _
  | exact LeO.none _
  | refine LeO.ite ?_ ?_
  | refine LeO.bind ?_ (fun _=>?_)
def natural_divide.T15:Bool×List (List Nat×List Nat):=(true,[([],[]),([0],[0]),([],[]),([],[]),([2,3],[2,3]),([],[]),([4,5,1],[4,5]),([1,6,0,1],[1]),([6,7,0,1,2,3,4,5,6,7],[6])])
def natural_divide.B15:List Nat:=[0,1,0,0,12,0,63,127,255]
theorem natural_divide.tab15:rtab .any (opsOf Tryd.f43 15)=natural_divide.T15:=by kernel_rfl
theorem natural_divide.bits15:waitsOk natural_divide.T15.2 natural_divide.B15=true:=by kernel_rfl
set_option maxHeartbeats 8000000 in
set_option maxRecDepth 100000 in
theorem natural_divide.calls (k:Nat) (P0_:Nat→Prop) (u9000_:Value) (l0:List Int) (A1:Option Addr) (c1:Nat) (l1:List Int) (r1:List Int) (r2:List Int) (w0 w:World) (hB:Below w0.heap.size w0 w) (ho0:Kd.R (Kd.int .u32) 60 w w0.heap.size P0_ u9000_ l0) (hr1:∀ W_,Kept w W_ (fun k_=>P0_ k_)→Kd.C (Kd.int .u32) W_ A1 l1.length l1) (hc1:l1.length≤c1) (h:natural_divide.f k l0 l1=some (r1,r2)) :
 Calls Tryd.prog 43 #[u9000_,.slice A1 l1.length c1] w fun e w'=>∃ v0_ v1_:Value,e = .returned (.tuple #[v0_,v1_])∧Kd.R (Kd.int .u32) 60 w' w0.heap.size (fun k_=>(P0_ k_∨w.heap.size≤k_)∧some k_≠(v1_:Value).ownBlock) v0_ r1∧Kd.R (Kd.int .u32) 60 w' w0.heap.size (fun k_=>(P0_ k_∨w.heap.size≤k_)∧some k_≠(v0_:Value).ownBlock) v1_ r2∧Below w0.heap.size w0 w'∧Kept w w' (fun k_=>P0_ k_):=by
 have HO0:=Aside0.mk (show Kd.R (Kd.int .u32) 60 w w0.heap.size (fun k_=>(P0_ k_∨w.heap.size≤k_)) u9000_ l0 from Kd.R_mono ho0 (fun k_ hk=>(.inl hk)))
 have HR1:=Aside0.mk hr1
 have HC1:=Aside0.mk hc1
 clear hr1 hc1
 have HK:=Aside0.mk (Kept.refl w (fun k_=>P0_ k_))
 have HW0:=Aside0.mk hB.size
 have HB:=Aside0.mk hB
 clear hB
 have H:((natural_compare.f k l0 l1).bind fun t170=>(if t170<0 then (some (([]:List Int),l0)) else (if (l1.length:Int)=1 then (if 0<(l1.length:Int) then ((natural_divideSmall.f k l0 (rd l1 0)).bind fun bt172=>((natural_limbs_trim.f k (([bt172.2]:List Int))).bind fun t179=>(some (bt172.1,t179)))) else (none)) else (if 0≤(wrap64 ((l1.length:Int)-1)) then (if (wrap64 ((l1.length:Int)-1))<(l1.length:Int) then ((bits_LeadingZeros32.f (rd l1 (wrap64 ((l1.length:Int)-1)))).bind fun t183=>((natural_shift.f k l1 (IntKind.u64.wrap (t183)) (l1.length:Int)).bind fun t184=>((natural_shift.f k l0 (IntKind.u64.wrap (t183)) (wrap64 ((l0.length:Int)+1))).bind fun t187=>(if 0≤(wrap64 ((wrap64 ((l0.length:Int)-(l1.length:Int)))+1)) then (if (wrap64 ((wrap64 ((l0.length:Int)-(l1.length:Int)))+1):Int).toNat≤70368744177664 then ((some (List.replicate (wrap64 ((wrap64 ((l0.length:Int)-(l1.length:Int)))+1):Int).toNat 0:List Int)).bind fun y190=>(natural_divide.l0 k (l1.length:Int) (IntKind.u64.wrap (t183)) t184 t187 y190 (wrap64 ((y190.length:Int)-1)))) else (none)) else (none))))) else (none)) else (none)))))=some (r1,r2):=h
 clear h
 replace H:=Option.bind_eq_some_iff.mp H
 obtain ⟨t170,A30,H⟩:=H
 replace H:(if t170<0 then (some (([]:List Int),l0)) else (if (l1.length:Int)=1 then (if 0<(l1.length:Int) then ((natural_divideSmall.f k l0 (rd l1 0)).bind fun bt172=>((natural_limbs_trim.f k (([bt172.2]:List Int))).bind fun t179=>(some (bt172.1,t179)))) else (none)) else (if 0≤(wrap64 ((l1.length:Int)-1)) then (if (wrap64 ((l1.length:Int)-1))<(l1.length:Int) then ((bits_LeadingZeros32.f (rd l1 (wrap64 ((l1.length:Int)-1)))).bind fun t183=>((natural_shift.f k l1 (IntKind.u64.wrap (t183)) (l1.length:Int)).bind fun t184=>((natural_shift.f k l0 (IntKind.u64.wrap (t183)) (wrap64 ((l0.length:Int)+1))).bind fun t187=>(if 0≤(wrap64 ((wrap64 ((l0.length:Int)-(l1.length:Int)))+1)) then (if (wrap64 ((wrap64 ((l0.length:Int)-(l1.length:Int)))+1):Int).toNat≤70368744177664 then ((some (List.replicate (wrap64 ((wrap64 ((l0.length:Int)-(l1.length:Int)))+1):Int).toNat 0:List Int)).bind fun y190=>(natural_divide.l0 k (l1.length:Int) (IntKind.u64.wrap (t183)) t184 t187 y190 (wrap64 ((y190.length:Int)-1)))) else (none)) else (none))))) else (none)) else (none))))=some (r1,r2):=H
 have A3:=Aside0.mk A30
 clear A30
 by_cases c4:t170<0
 ·rw [if_pos c4] at H
  have c4b0:decide (t170<0)=true:=decide_eq_true c4
  clear c4
  simp only [Option.some.injEq,Prod.mk.injEq] at H
  obtain ⟨rfl,rfl⟩:=H
  obtain ⟨Ao5,co5,eo5⟩:=Kd.R_slice HO0.out
  subst eo5
  go_enter Tryd.func43,Tryd.ntmps43
  go_wp2_with (first|((with_reducible refine gate_callee (f:=62) rfl ?_);refine goesL_ (some 16) rfl rfl Tryd.func62 (by kernel_rfl) rfl #[.slice Ao5 l0.length co5,.slice A1 l1.length c1] rfl (by (try simp only [List.map_toArray,List.map_cons,List.map_nil]);first|done|rfl|(simp only [List.length_drop,List.length_take];rfl)) ?_;(with_reducible refine (natural_compare.calls k _ _ l0 _ _ l1 t170 _ ?side1 ?side2 ?side3 ?side4 A3.out).mono ?_);(case side1=>repeat (first|exact (Kd.R_reads' HO0.out).2.2|(with_reducible refine Kd.C_alloc ?_ _)|(with_reducible refine Kd.C_drewN ?_ _)|(with_reducible refine Kd.C_drew ?_)));(case side2=>exact (Kd.R_reads' HO0.out).2.1);(case side3=>exact Kd.C_kept_now HR1.out (by repeat (first|(with_reducible first|exact HK.out|apply Kept.alloc|apply Kept.drewN|apply Kept.drew)|exact HK.out)));(case side4=>exact HC1.out);rintro e w' ⟨rfl,⟨nd,rfl⟩⟩;refine ⟨_,rfl,?_⟩))
  go_ret2
  exact ⟨_,_,by first|rfl|(simp [errW_none,errW_some] <;> rfl)|(simp [*,errW_none,errW_some] <;> rfl),by first|exact Kd.R_nil _ _ _ _ _|exact Kd.N_nil _ _ _ _ _|exact Kd.V_nil _ _ _ _ _|exact Kd.Q_nil _ _ _ _ _|exact Kd.S_nil _ _ _ _ _,by (with_reducible repeat (first|apply Kd.R_alloc|apply Kd.R_drewN|apply Kd.R_drew));exact Kd.R_mono HO0.out (fun _ hk=>⟨hk,(by simp [Value.ownBlock])⟩),by repeat (first|(with_reducible first|exact HB.out|apply below_alloc|apply pw_below_drewN|apply below_drew1)|exact HB.out),by repeat (first|(with_reducible first|exact HK.out|apply Kept.alloc|apply Kept.drewN|apply Kept.drew)|exact HK.out)⟩
 ·rw [if_neg c4] at H
  have c4b0:decide (t170<0)=false:=decide_eq_false c4
  clear c4
  by_cases c6:(l1.length:Int)=1
  ·rw [if_pos c6] at H
   have c6b0:((l1.length:Int) == 1)=true:=beq_iff_eq.mpr c6
   have c6b1:((l1.length:Int) != 1)=false:=bne_eq_false_iff_eq.mpr c6
   clear c6
   by_cases c7:0<(l1.length:Int)
   ·rw [if_pos c7] at H
    have c7b0:decide (0<(l1.length:Int))=true:=decide_eq_true c7
    have c7b1:decide (0<l1.length)=true:=decide_eq_true (by omega)
    clear c7
    replace H:=Option.bind_eq_some_iff.mp H
    obtain ⟨⟨t172,t173⟩,A80,H⟩:=H
    replace H:((natural_limbs_trim.f k (([t173]:List Int))).bind fun t179=>(some (t172,t179)))=some (r1,r2):=H
    have A8:=Aside0.mk A80
    clear A80
    obtain ⟨y176,hy176⟩:∃ y_:List Int,y_=(([t173]:List Int)):=⟨_,rfl⟩
    replace H:((natural_limbs_trim.f k y176).bind fun t179=>(some (t172,t179)))=some (r1,r2):=by first|(rw [hy176];with_reducible exact H)|(have H2_:=(Option.bind_some _ _).symm.trans H;rw [hy176];with_reducible exact H2_)|(have H2_:=(Option.bind_some _ _).symm.trans H;with_reducible exact H2_)|with_reducible exact H|(rw [hy176];exact H)|exact H
    have Ny176:=Aside0.mk hy176
    clear hy176
    replace H:=Option.bind_eq_some_iff.mp H
    obtain ⟨t179,A90,H⟩:=H
    replace H:(some (t172,t179))=some (r1,r2):=H
    have A9:=Aside0.mk A90
    clear A90
    simp only [Option.some.injEq,Prod.mk.injEq] at H
    obtain ⟨rfl,rfl⟩:=H
    obtain ⟨Ao10,co10,eo10⟩:=Kd.R_slice HO0.out
    subst eo10
    go_enter Tryd.func43,Tryd.ntmps43
    go_wp2_with (first|((with_reducible refine gate_callee (f:=62) rfl ?_);refine goesL_ (some 16) rfl rfl Tryd.func62 (by kernel_rfl) rfl #[.slice Ao10 l0.length co10,.slice A1 l1.length c1] rfl (by (try simp only [List.map_toArray,List.map_cons,List.map_nil]);first|done|rfl|(simp only [List.length_drop,List.length_take];rfl)) ?_;(with_reducible refine (natural_compare.calls k _ _ l0 _ _ l1 t170 _ ?side1 ?side2 ?side3 ?side4 A3.out).mono ?_);(case side1=>repeat (first|exact (Kd.R_reads' HO0.out).2.2|(with_reducible refine Kd.C_alloc ?_ _)|(with_reducible refine Kd.C_drewN ?_ _)|(with_reducible refine Kd.C_drew ?_)));(case side2=>exact (Kd.R_reads' HO0.out).2.1);(case side3=>exact Kd.C_kept_now HR1.out (by repeat (first|(with_reducible first|exact HK.out|apply Kept.alloc|apply Kept.drewN|apply Kept.drew)|exact HK.out)));(case side4=>exact HC1.out);rintro e w' ⟨rfl,⟨nd,rfl⟩⟩;refine ⟨_,rfl,?_⟩;have p171:0≤(0:Int):=(by omega);have q171:0<(l1.length:Int):=of_decide_eq_true (by first|(with_reducible assumption)|assumption);obtain ⟨ad171,e171,hx171_0⟩:=Kd.at_int (Kd.C_kept_now HR1.out HK.out) 0 p171 q171;cases e171;have qi171:(0<l1.length)=True:=eq_true (by omega);(try rw [show ((0:Int)).toNat=0 from rfl] at hx171_0);(try rw [Addr.add_zero'] at hx171_0);replace p171:=eq_true p171;replace q171:=eq_true q171)|((with_reducible refine gate_callee (f:=56) rfl ?_);refine goesL_ (some 27) rfl rfl Tryd.func56 (by kernel_rfl) rfl #[.slice Ao10 l0.length co10,.int .u32 (rd l1 0)] rfl (by (try simp only [List.map_toArray,List.map_cons,List.map_nil]);first|done|rfl|(simp only [List.length_drop,List.length_take];rfl)) ?_;(with_reducible refine (natural_divideSmall.calls k _ _ l0 (rd l1 0) t172 t173 _ ?side1 ?side2 A8.out).mono ?_);(case side1=>repeat (first|exact (Kd.R_reads' HO0.out).2.2|(with_reducible refine Kd.C_alloc ?_ _)|(with_reducible refine Kd.C_drewN ?_ _)|(with_reducible refine Kd.C_drew ?_)));(case side2=>exact (Kd.R_reads' HO0.out).2.1);rintro e w11 ⟨v174,rfl,ho0,hb⟩;refine ⟨_,rfl,?_⟩;have n0_:=Aside0.mk (Kd.R_elder' (by (with_reducible repeat (first|apply Kd.R_alloc|apply Kd.R_drewN|apply Kd.R_drew));exact HO0.out) (Kd.R_base ho0) hb);have n1_:=Aside0.mk (Kd.R_lower (Kd.R_new' (Kd.R_newM (M:=fun k_=>(P0_ k_∨w.heap.size≤k_)) ho0 (by first|exact HK.out.1|exact (show Kept w _ (fun k_=>P0_ k_) from by repeat (first|(with_reducible first|exact HK.out|apply Kept.alloc|apply Kept.drewN|apply Kept.drew)|exact HK.out)).1) (fun k_ h_=>.inr h_)) (Kd.R_lt (by (with_reducible repeat (first|apply Kd.R_alloc|apply Kd.R_drewN|apply Kd.R_drew));exact HO0.out))) (below_size (by repeat (first|(with_reducible first|exact HB.out|apply below_alloc|apply pw_below_drewN|apply below_drew1)|exact HB.out))));have n2_:=Aside0.mk (Kept.below (S:=(fun k_=>P0_ k_)) (by repeat (first|(with_reducible first|exact HK.out|apply Kept.alloc|apply Kept.drewN|apply Kept.drew)|exact HK.out)) hb);have n3_:=Aside0.mk (below_step (by repeat (first|(with_reducible first|exact HB.out|apply below_alloc|apply pw_below_drewN|apply below_drew1)|exact HB.out)) hb);clear HO0;clear HK;clear HB;have HO0:=n0_;have HO175:=n1_;have HK:=n2_;have HB:=n3_;clear n0_ n1_ n2_ n3_;(try clear hb);(try clear hb2);(try clear hk);(try clear hi);(try clear ho0))|((with_reducible refine gate_dst (N:=32) rfl ?_);refine Kd.R_lit (Kd.int .u32) _ 60 ?hg (N:=32) ?hd (xs:=([t173]:List Int)) (inner:=[.int .u32 t173]) (ok:=fun _=>True) (okp:=fun _=>True) ?hr ?hp (fun _ hk=>hk) trivial (Below.refl _ _) (Nat.le_refl _) (by simp) ?_;(case hd=>rfl);(case hg=>rfl);(case hr=>first|(go_simp;done)|(go_simp;rfl));(case hp=>exact (Reps.one (show Kd.M (Kd.int .u32) _ _ _ t173 [.int .u32 t173] from rfl) (Reps.none _ _)));intro v177 w12 ho13 hb hg_ hnew_;clear hg_ hnew_;(first|rw [← Ny176.out] at ho13|(simp only [Int.reduceToNat] at ho13;rw [← Ny176.out] at ho13));have n0_:=Aside0.mk (Kd.R_elder' (by (with_reducible repeat (first|apply Kd.R_alloc|apply Kd.R_drewN|apply Kd.R_drew));exact HO0.out) (Kd.R_base ho13) hb);have n1_:=Aside0.mk (Kd.R_elder' (by (with_reducible repeat (first|apply Kd.R_alloc|apply Kd.R_drewN|apply Kd.R_drew));exact HO175.out) (Kd.R_base ho13) hb);have n2_:=Aside0.mk (Kd.R_lower (Kd.R_new' (Kd.R_new' (Kd.R_newM (M:=fun k_=>(P0_ k_∨w.heap.size≤k_)) ho13 (by first|exact HK.out.1|exact (show Kept w _ (fun k_=>P0_ k_) from by repeat (first|(with_reducible first|exact HK.out|apply Kept.alloc|apply Kept.drewN|apply Kept.drew)|exact HK.out)).1) (fun k_ h_=>.inr h_)) (Kd.R_lt (by (with_reducible repeat (first|apply Kd.R_alloc|apply Kd.R_drewN|apply Kd.R_drew));exact HO0.out))) (Kd.R_lt (by (with_reducible repeat (first|apply Kd.R_alloc|apply Kd.R_drewN|apply Kd.R_drew));exact HO175.out))) (below_size (by repeat (first|(with_reducible first|exact HB.out|apply below_alloc|apply pw_below_drewN|apply below_drew1)|exact HB.out))));have n3_:=Aside0.mk (Kept.below (S:=(fun k_=>P0_ k_)) (by repeat (first|(with_reducible first|exact HK.out|apply Kept.alloc|apply Kept.drewN|apply Kept.drew)|exact HK.out)) hb);have n4_:=Aside0.mk (below_step (by repeat (first|(with_reducible first|exact HB.out|apply below_alloc|apply pw_below_drewN|apply below_drew1)|exact HB.out)) hb);clear HO0;clear HO175;clear HK;clear HB;have HO0:=n0_;have HO175:=n1_;have HO178:=n2_;have HK:=n3_;have HB:=n4_;clear n0_ n1_ n2_ n3_ n4_;clear hb ho13;obtain ⟨Ao14,co14,eo14⟩:=Kd.R_slice HO178.out;subst eo14)|((with_reducible refine gate_callee (f:=53) rfl ?_);refine goesL_ (some 33) rfl rfl Tryd.func53 (by kernel_rfl) rfl #[.slice Ao14 y176.length co14] rfl (by (try simp only [List.map_toArray,List.map_cons,List.map_nil]);first|done|rfl|(simp only [List.length_drop,List.length_take];rfl)) ?_;(with_reducible refine (natural_limbs_trim.calls k (fun k_=>some k_=(.slice Ao14 y176.length co14:Value).ownBlock) (.slice Ao14 y176.length co14) y176 t179 w0 _ ?side1 ?side2 A9.out).mono ?_);(case side1=>repeat (first|(with_reducible first|exact HB.out|apply below_alloc|apply pw_below_drewN|apply below_drew1)|exact HB.out));(case side2=>exact Kd.R_tight rfl HO178.out);rintro e w15 ⟨v180,rfl,ho0,hb,hkp⟩;refine ⟨_,rfl,?_⟩;have n0_:=Aside0.mk (Kd.R_mono (ok':=fun k_=>(P0_ k_∨w.heap.size≤k_)∧some k_≠(v174:Value).ownBlock∧some k_≠(v180:Value).ownBlock) (Kd.R_keptB (HO0.out) hkp (fun k_ hk_ hs_=>(hk_.2) hs_)) (fun k_ hk_=>⟨hk_.1.1.1,hk_.1.1.2,fun e_=>Or.elim (ho0.1 k_ e_.symm) (fun hs_=>hk_.2.1 hs_) (fun hn_=>Nat.not_le.2 hk_.2.2 hn_)⟩));have n1_:=Aside0.mk (Kd.R_mono (ok':=fun k_=>(P0_ k_∨w.heap.size≤k_)∧some k_≠(.slice Ao10 l0.length co10:Value).ownBlock∧some k_≠(v180:Value).ownBlock) (Kd.R_keptB (HO175.out) hkp (fun k_ hk_ hs_=>(hk_.2) hs_)) (fun k_ hk_=>⟨hk_.1.1.1.1,hk_.1.1.2,fun e_=>Or.elim (ho0.1 k_ e_.symm) (fun hs_=>hk_.2.1 hs_) (fun hn_=>Nat.not_le.2 hk_.2.2 hn_)⟩));have n2_:=Aside0.mk (Kd.R_mono (ok':=fun k_=>(P0_ k_∨w.heap.size≤k_)∧some k_≠(.slice Ao10 l0.length co10:Value).ownBlock∧some k_≠(v174:Value).ownBlock) ho0 (fun k_ hk_=>⟨Or.elim hk_ (fun hs_=>(HO178.out.1 k_ (hs_).symm).1.1.1) (fun hn_=>(.inr (Nat.le_trans (by first|exact HK.out.1|exact (show Kept w _ (fun k_=>P0_ k_) from by repeat (first|(with_reducible first|exact HK.out|apply Kept.alloc|apply Kept.drewN|apply Kept.drew)|exact HK.out)).1) hn_))),Or.elim hk_ (fun hs_=>fun e_=>(((HO0.out).1 k_ e_.symm).2) hs_) (fun hn_=>(Kd.fresh' (Kd.R_lt (by (with_reducible repeat (first|apply Kd.R_alloc|apply Kd.R_drewN|apply Kd.R_drew));exact HO0.out)) k_ hn_)),Or.elim hk_ (fun hs_=>fun e_=>(((HO175.out).1 k_ e_.symm).2) hs_) (fun hn_=>(Kd.fresh' (Kd.R_lt (by (with_reducible repeat (first|apply Kd.R_alloc|apply Kd.R_drewN|apply Kd.R_drew));exact HO175.out)) k_ hn_))⟩));have n3_:=Aside0.mk (Kept.then_ (S:=(fun k_=>P0_ k_)) (by repeat (first|(with_reducible first|exact HK.out|apply Kept.alloc|apply Kept.drewN|apply Kept.drew)|exact HK.out)) hkp (fun k_ hs_=>(fun e_=>(HO178.out.1 k_ e_.symm).1.1.1) hs_));have n4_:=Aside0.mk (hb);clear HO0;clear HO175;clear HK;clear HB;clear HO178;have HO0:=n0_;have HO175:=n1_;have HO181:=n2_;have HK:=n3_;have HB:=n4_;clear n0_ n1_ n2_ n3_ n4_;(try clear hb);(try clear hkp);(try clear ho0)))
    go_ret2
    exact ⟨_,_,by first|rfl|(simp [errW_none,errW_some] <;> rfl)|(simp [*,errW_none,errW_some] <;> rfl),by (with_reducible repeat (first|apply Kd.R_alloc|apply Kd.R_drewN|apply Kd.R_drew));exact Kd.R_mono HO175.out (fun _ hk=>⟨hk.1,hk.2.2⟩),by (with_reducible repeat (first|apply Kd.R_alloc|apply Kd.R_drewN|apply Kd.R_drew));exact Kd.R_mono HO181.out (fun _ hk=>⟨hk.1,hk.2.2⟩),by repeat (first|(with_reducible first|exact HB.out|apply below_alloc|apply pw_below_drewN|apply below_drew1)|exact HB.out),by repeat (first|(with_reducible first|exact HK.out|apply Kept.alloc|apply Kept.drewN|apply Kept.drew)|exact HK.out)⟩
   ·rw [if_neg c7] at H
    exact absurd H (by simp)
  ·rw [if_neg c6] at H
   have c6b0:((l1.length:Int) == 1)=false:=beq_eq_false_iff_ne.mpr c6
   have c6b1:((l1.length:Int) != 1)=true:=bne_iff_ne.mpr c6
   obtain ⟨ji16,hji16⟩:∃ j_:Int,(wrap64 ((l1.length:Int)-1))=j_:=⟨_,rfl⟩
   replace H:(if 0≤(ji16) then (if (ji16)<(l1.length:Int) then ((bits_LeadingZeros32.f (rd l1 (ji16))).bind fun t183=>((natural_shift.f k l1 (IntKind.u64.wrap (t183)) (l1.length:Int)).bind fun t184=>((natural_shift.f k l0 (IntKind.u64.wrap (t183)) (wrap64 ((l0.length:Int)+1))).bind fun t187=>(if 0≤(wrap64 ((wrap64 ((l0.length:Int)-(l1.length:Int)))+1)) then (if (wrap64 ((wrap64 ((l0.length:Int)-(l1.length:Int)))+1):Int).toNat≤70368744177664 then ((some (List.replicate (wrap64 ((wrap64 ((l0.length:Int)-(l1.length:Int)))+1):Int).toNat 0:List Int)).bind fun y190=>(natural_divide.l0 k (l1.length:Int) (IntKind.u64.wrap (t183)) t184 t187 y190 (wrap64 ((y190.length:Int)-1)))) else (none)) else (none))))) else (none)) else (none))=some (r1,r2):=by first|(rw [hji16] at H;exact H)|(simp only [hji16] at H ⊢;exact H)
   (try rw [hji16] at A3)
   have hji16w:(IntKind.i64.wrap ((l1.length:Int)-1))=ji16:=(i64_w _).trans hji16
   by_cases c17:0≤(ji16)
   ·rw [if_pos c17] at H
    have c17b0:decide (0≤(ji16))=true:=decide_eq_true c17
    clear c17
    by_cases c18:(ji16)<(l1.length:Int)
    ·rw [if_pos c18] at H
     have c18b0:decide ((ji16)<(l1.length:Int))=true:=decide_eq_true c18
     clear c18
     replace H:=Option.bind_eq_some_iff.mp H
     obtain ⟨t183,A190,H⟩:=H
     replace H:((natural_shift.f k l1 (IntKind.u64.wrap (t183)) (l1.length:Int)).bind fun t184=>((natural_shift.f k l0 (IntKind.u64.wrap (t183)) (wrap64 ((l0.length:Int)+1))).bind fun t187=>(if 0≤(wrap64 ((wrap64 ((l0.length:Int)-(l1.length:Int)))+1)) then (if (wrap64 ((wrap64 ((l0.length:Int)-(l1.length:Int)))+1):Int).toNat≤70368744177664 then ((some (List.replicate (wrap64 ((wrap64 ((l0.length:Int)-(l1.length:Int)))+1):Int).toNat 0:List Int)).bind fun y190=>(natural_divide.l0 k (l1.length:Int) (IntKind.u64.wrap (t183)) t184 t187 y190 (wrap64 ((y190.length:Int)-1)))) else (none)) else (none))))=some (r1,r2):=H
     have A19:=Aside0.mk A190
     clear A190
     replace H:=Option.bind_eq_some_iff.mp H
     obtain ⟨t184,A200,H⟩:=H
     replace H:((natural_shift.f k l0 (IntKind.u64.wrap (t183)) (wrap64 ((l0.length:Int)+1))).bind fun t187=>(if 0≤(wrap64 ((wrap64 ((l0.length:Int)-(l1.length:Int)))+1)) then (if (wrap64 ((wrap64 ((l0.length:Int)-(l1.length:Int)))+1):Int).toNat≤70368744177664 then ((some (List.replicate (wrap64 ((wrap64 ((l0.length:Int)-(l1.length:Int)))+1):Int).toNat 0:List Int)).bind fun y190=>(natural_divide.l0 k (l1.length:Int) (IntKind.u64.wrap (t183)) t184 t187 y190 (wrap64 ((y190.length:Int)-1)))) else (none)) else (none)))=some (r1,r2):=H
     have A20:=Aside0.mk A200
     clear A200
     replace H:=Option.bind_eq_some_iff.mp H
     obtain ⟨t187,A210,H⟩:=H
     replace H:(if 0≤(wrap64 ((wrap64 ((l0.length:Int)-(l1.length:Int)))+1)) then (if (wrap64 ((wrap64 ((l0.length:Int)-(l1.length:Int)))+1):Int).toNat≤70368744177664 then ((some (List.replicate (wrap64 ((wrap64 ((l0.length:Int)-(l1.length:Int)))+1):Int).toNat 0:List Int)).bind fun y190=>(natural_divide.l0 k (l1.length:Int) (IntKind.u64.wrap (t183)) t184 t187 y190 (wrap64 ((y190.length:Int)-1)))) else (none)) else (none))=some (r1,r2):=H
     have A21:=Aside0.mk A210
     clear A210
     obtain ⟨ji22,hji22⟩:∃ j_:Int,(wrap64 ((wrap64 ((l0.length:Int)-(l1.length:Int)))+1))=j_:=⟨_,rfl⟩
     replace H:(if 0≤(ji22) then (if (ji22:Int).toNat≤70368744177664 then ((some (List.replicate (ji22:Int).toNat 0:List Int)).bind fun y190=>(natural_divide.l0 k (l1.length:Int) (IntKind.u64.wrap (t183)) t184 t187 y190 (wrap64 ((y190.length:Int)-1)))) else (none)) else (none))=some (r1,r2):=by first|(rw [hji22] at H;exact H)|(simp only [hji22] at H ⊢;exact H)
     (try rw [hji22] at A3)
     (try rw [hji22] at A19)
     (try rw [hji22] at A20)
     (try rw [hji22] at A21)
     have hji22w:(IntKind.i64.wrap ((wrap64 ((l0.length:Int)-(l1.length:Int)))+1))=ji22:=(i64_w _).trans hji22
     by_cases c23:0≤(ji22)
     ·rw [if_pos c23] at H
      have c23b0:=eq_true c23
      have c23b1:decide (0≤(ji22))=true:=decide_eq_true c23
      clear c23
      by_cases c24:(ji22:Int).toNat≤70368744177664
      ·rw [if_pos c24] at H
       have c24b0:=eq_true c24
       have c24b1:decide ((ji22:Int).toNat≤70368744177664)=true:=decide_eq_true c24
       clear c24
       obtain ⟨y190,hy190⟩:∃ y_:List Int,y_=(List.replicate (ji22:Int).toNat 0):=⟨_,rfl⟩
       replace H:(natural_divide.l0 k (l1.length:Int) (IntKind.u64.wrap (t183)) t184 t187 y190 (wrap64 ((y190.length:Int)-1)))=some (r1,r2):=by first|(rw [hy190];with_reducible exact H)|(have H2_:=(Option.bind_some _ _).symm.trans H;rw [hy190];with_reducible exact H2_)|(have H2_:=(Option.bind_some _ _).symm.trans H;with_reducible exact H2_)|with_reducible exact H|(rw [hy190];exact H)|exact H
       have Ny190:=Aside0.mk hy190
       clear hy190
       have H':=Aside0.mk H
       clear H
       obtain ⟨Ao25,co25,eo25⟩:=Kd.R_slice HO0.out
       subst eo25
       have HL_:=Aside0.mk (show 0<l1.length by have z1_:0≤ji16:=of_decide_eq_true (by assumption);have z2_:ji16<(l1.length:Int):=of_decide_eq_true (by assumption);omega)
       go_enter Tryd.func43,Tryd.ntmps43
       go_wp2_with (first|((with_reducible refine gate_callee (f:=62) rfl ?_);refine goesL_ (some 16) rfl rfl Tryd.func62 (by kernel_rfl) rfl #[.slice Ao25 l0.length co25,.slice A1 l1.length c1] rfl (by (try simp only [List.map_toArray,List.map_cons,List.map_nil]);first|done|rfl|(simp only [List.length_drop,List.length_take];rfl)) ?_;(with_reducible refine (natural_compare.calls k _ _ l0 _ _ l1 t170 _ ?side1 ?side2 ?side3 ?side4 A3.out).mono ?_);(case side1=>repeat (first|exact (Kd.R_reads' HO0.out).2.2|(with_reducible refine Kd.C_alloc ?_ _)|(with_reducible refine Kd.C_drewN ?_ _)|(with_reducible refine Kd.C_drew ?_)));(case side2=>exact (Kd.R_reads' HO0.out).2.1);(case side3=>exact Kd.C_kept_now HR1.out (by repeat (first|(with_reducible first|exact HK.out|apply Kept.alloc|apply Kept.drewN|apply Kept.drew)|exact HK.out)));(case side4=>exact HC1.out);rintro e w' ⟨rfl,⟨nd,rfl⟩⟩;refine ⟨_,rfl,?_⟩;have p182:0≤((ji16):Int):=of_decide_eq_true (by first|(with_reducible assumption)|assumption);have q182:(ji16)<(l1.length:Int):=of_decide_eq_true (by first|(with_reducible assumption)|assumption);obtain ⟨ad182,e182,hx182_0⟩:=Kd.at_int (Kd.C_kept_now HR1.out HK.out) (ji16) p182 q182;cases e182;replace p182:=eq_true p182;replace q182:=eq_true q182)|((with_reducible refine gate_callee (f:=70) rfl ?_);refine goesL_ (some 40) rfl rfl Tryd.func70 (by kernel_rfl) rfl #[.int .u32 (rd l1 (ji16))] rfl (by (try simp only [List.map_toArray,List.map_cons,List.map_nil]);first|done|(simp only [hji16];rfl)|rfl|(simp only [List.length_drop,List.length_take];rfl)) ?_;(with_reducible refine (bits_LeadingZeros32.calls (rd l1 (ji16)) t183 _ A19.out).mono ?_);rintro e w' ⟨rfl,⟨nd,rfl⟩⟩;refine ⟨_,rfl,?_⟩)|((with_reducible refine gate_callee (f:=71) rfl ?_);refine goesL_ (some 47) rfl rfl Tryd.func71 (by kernel_rfl) rfl #[.slice (some ad182) l1.length c1,.int .u64 (IntKind.u64.wrap (t183)),.int .i64 (l1.length:Int)] rfl (by (try simp only [List.map_toArray,List.map_cons,List.map_nil]);first|done|rfl|(simp only [List.length_drop,List.length_take];rfl)) ?_;(with_reducible refine (natural_shift.calls k _ _ l1 (IntKind.u64.wrap (t183)) (l1.length:Int) t184 _ ?side1 ?side2 A20.out).mono ?_);(case side1=>exact Kd.C_kept_now HR1.out (by repeat (first|(with_reducible first|exact HK.out|apply Kept.alloc|apply Kept.drewN|apply Kept.drew)|exact HK.out)));(case side2=>exact HC1.out);rintro e w26 ⟨v185,rfl,ho0,hb⟩;refine ⟨_,rfl,?_⟩;have n0_:=Aside0.mk (Kd.R_elder' (by (with_reducible repeat (first|apply Kd.R_alloc|apply Kd.R_drewN|apply Kd.R_drew));exact HO0.out) (Kd.R_base ho0) hb);have n1_:=Aside0.mk (Kd.R_lower (Kd.R_new' (Kd.R_newM (M:=fun k_=>(P0_ k_∨w.heap.size≤k_)) ho0 (by first|exact HK.out.1|exact (show Kept w _ (fun k_=>P0_ k_) from by repeat (first|(with_reducible first|exact HK.out|apply Kept.alloc|apply Kept.drewN|apply Kept.drew)|exact HK.out)).1) (fun k_ h_=>.inr h_)) (Kd.R_lt (by (with_reducible repeat (first|apply Kd.R_alloc|apply Kd.R_drewN|apply Kd.R_drew));exact HO0.out))) (below_size (by repeat (first|(with_reducible first|exact HB.out|apply below_alloc|apply pw_below_drewN|apply below_drew1)|exact HB.out))));have n2_:=Aside0.mk (Kept.below (S:=(fun k_=>P0_ k_)) (by repeat (first|(with_reducible first|exact HK.out|apply Kept.alloc|apply Kept.drewN|apply Kept.drew)|exact HK.out)) hb);have n3_:=Aside0.mk (below_step (by repeat (first|(with_reducible first|exact HB.out|apply below_alloc|apply pw_below_drewN|apply below_drew1)|exact HB.out)) hb);clear HO0;clear HK;clear HB;have HO0:=n0_;have HO186:=n1_;have HK:=n2_;have HB:=n3_;clear n0_ n1_ n2_ n3_;(try clear hb);(try clear hb2);(try clear hk);(try clear hi);(try clear ho0))|((with_reducible refine gate_callee (f:=71) rfl ?_);refine goesL_ (some 53) rfl rfl Tryd.func71 (by kernel_rfl) rfl #[.slice Ao25 l0.length co25,.int .u64 (IntKind.u64.wrap (t183)),.int .i64 (wrap64 ((l0.length:Int)+1))] rfl (by (try simp only [List.map_toArray,List.map_cons,List.map_nil]);first|done|rfl|(simp only [List.length_drop,List.length_take];rfl)) ?_;(with_reducible refine (natural_shift.calls k _ _ l0 (IntKind.u64.wrap (t183)) (wrap64 ((l0.length:Int)+1)) t187 _ ?side1 ?side2 A21.out).mono ?_);(case side1=>repeat (first|exact (Kd.R_reads' HO0.out).2.2|(with_reducible refine Kd.C_alloc ?_ _)|(with_reducible refine Kd.C_drewN ?_ _)|(with_reducible refine Kd.C_drew ?_)));(case side2=>exact (Kd.R_reads' HO0.out).2.1);rintro e w27 ⟨v188,rfl,ho0,hb⟩;refine ⟨_,rfl,?_⟩;have n0_:=Aside0.mk (Kd.R_elder' (by (with_reducible repeat (first|apply Kd.R_alloc|apply Kd.R_drewN|apply Kd.R_drew));exact HO0.out) (Kd.R_base ho0) hb);have n1_:=Aside0.mk (Kd.R_elder' (by (with_reducible repeat (first|apply Kd.R_alloc|apply Kd.R_drewN|apply Kd.R_drew));exact HO186.out) (Kd.R_base ho0) hb);have n2_:=Aside0.mk (Kd.R_lower (Kd.R_new' (Kd.R_new' (Kd.R_newM (M:=fun k_=>(P0_ k_∨w.heap.size≤k_)) ho0 (by first|exact HK.out.1|exact (show Kept w _ (fun k_=>P0_ k_) from by repeat (first|(with_reducible first|exact HK.out|apply Kept.alloc|apply Kept.drewN|apply Kept.drew)|exact HK.out)).1) (fun k_ h_=>.inr h_)) (Kd.R_lt (by (with_reducible repeat (first|apply Kd.R_alloc|apply Kd.R_drewN|apply Kd.R_drew));exact HO0.out))) (Kd.R_lt (by (with_reducible repeat (first|apply Kd.R_alloc|apply Kd.R_drewN|apply Kd.R_drew));exact HO186.out))) (below_size (by repeat (first|(with_reducible first|exact HB.out|apply below_alloc|apply pw_below_drewN|apply below_drew1)|exact HB.out))));have n3_:=Aside0.mk (Kept.below (S:=(fun k_=>P0_ k_)) (by repeat (first|(with_reducible first|exact HK.out|apply Kept.alloc|apply Kept.drewN|apply Kept.drew)|exact HK.out)) hb);have n4_:=Aside0.mk (below_step (by repeat (first|(with_reducible first|exact HB.out|apply below_alloc|apply pw_below_drewN|apply below_drew1)|exact HB.out)) hb);clear HO0;clear HO186;clear HK;clear HB;have HO0:=n0_;have HO186:=n1_;have HO189:=n2_;have HK:=n3_;have HB:=n4_;clear n0_ n1_ n2_ n3_ n4_;(try clear hb);(try clear hb2);(try clear hk);(try clear hi);(try clear ho0))|((with_reducible refine gate_dst (N:=59) rfl ?_);refine Kd.R_make (Kd.int .u32) _ 60 rfl (N:=59) rfl 50 _ _ rfl ji22 rfl rfl Tryd.underlying50 (.int .u32 0) 4 info60 rfl (by decide) (by omega) 0 (ok:=fun _=>True) (okp:=fun _=>True) rfl (fun _ hk=>hk) trivial (of_decide_eq_true (by first|(with_reducible assumption)|assumption)) (Nat.le_trans (Nat.mul_le_mul_right _ (of_decide_eq_true (by first|(with_reducible assumption)|assumption):ji22.toNat≤70368744177664)) (by omega)) (Below.refl _ _) (Nat.le_refl _) ?_;intro v191 w28 ho29 hb hg_ hnew_;clear hg_ hnew_;(first|rw [← Ny190.out] at ho29|(simp only [Int.reduceToNat] at ho29;rw [← Ny190.out] at ho29));have n0_:=Aside0.mk (Kd.R_elder' (by (with_reducible repeat (first|apply Kd.R_alloc|apply Kd.R_drewN|apply Kd.R_drew));exact HO0.out) (Kd.R_base ho29) hb);have n1_:=Aside0.mk (Kd.R_elder' (by (with_reducible repeat (first|apply Kd.R_alloc|apply Kd.R_drewN|apply Kd.R_drew));exact HO186.out) (Kd.R_base ho29) hb);have n2_:=Aside0.mk (Kd.R_elder' (by (with_reducible repeat (first|apply Kd.R_alloc|apply Kd.R_drewN|apply Kd.R_drew));exact HO189.out) (Kd.R_base ho29) hb);have n3_:=Aside0.mk (Kd.R_lower (Kd.R_new' (Kd.R_new' (Kd.R_new' (Kd.R_newM (M:=fun k_=>(P0_ k_∨w.heap.size≤k_)) ho29 (by first|exact HK.out.1|exact (show Kept w _ (fun k_=>P0_ k_) from by repeat (first|(with_reducible first|exact HK.out|apply Kept.alloc|apply Kept.drewN|apply Kept.drew)|exact HK.out)).1) (fun k_ h_=>.inr h_)) (Kd.R_lt (by (with_reducible repeat (first|apply Kd.R_alloc|apply Kd.R_drewN|apply Kd.R_drew));exact HO0.out))) (Kd.R_lt (by (with_reducible repeat (first|apply Kd.R_alloc|apply Kd.R_drewN|apply Kd.R_drew));exact HO186.out))) (Kd.R_lt (by (with_reducible repeat (first|apply Kd.R_alloc|apply Kd.R_drewN|apply Kd.R_drew));exact HO189.out))) (below_size (by repeat (first|(with_reducible first|exact HB.out|apply below_alloc|apply pw_below_drewN|apply below_drew1)|exact HB.out))));have n4_:=Aside0.mk (Kept.below (S:=(fun k_=>P0_ k_)) (by repeat (first|(with_reducible first|exact HK.out|apply Kept.alloc|apply Kept.drewN|apply Kept.drew)|exact HK.out)) hb);have n5_:=Aside0.mk (below_step (by repeat (first|(with_reducible first|exact HB.out|apply below_alloc|apply pw_below_drewN|apply below_drew1)|exact HB.out)) hb);clear HO0;clear HO186;clear HO189;clear HK;clear HB;have HO0:=n0_;have HO186:=n1_;have HO189:=n2_;have HO192:=n3_;have HK:=n4_;have HB:=n5_;clear n0_ n1_ n2_ n3_ n4_ n5_;clear hb ho29;obtain ⟨Ao30,co30,eo30⟩:=Kd.R_slice HO192.out;subst eo30))
       go_loopg [13] k (fun kq v13 w'=>∃ (x10_1:List Int) (x11_1:List Int) (x12_1:List Int) (x13_1:Int),v13 = .int .i64 x13_1∧Aside0 (natural_divide.l0 kq (l1.length:Int) (IntKind.u64.wrap (t183)) x10_1 x11_1 x12_1 x13_1=some (r1,r2))∧Aside0 (kq≤k)∧Aside0 (Kd.R (Kd.int .u32) 60 w' w0.heap.size (fun k_=>(P0_ k_∨w.heap.size≤k_)∧some k_≠(v188:Value).ownBlock∧some k_≠((.slice Ao30 y190.length co30):Value).ownBlock) v185 x10_1)∧Aside0 (Kd.R (Kd.int .u32) 60 w' w0.heap.size (fun k_=>(P0_ k_∨w.heap.size≤k_)∧some k_≠(v185:Value).ownBlock∧some k_≠((.slice Ao30 y190.length co30):Value).ownBlock) v188 x11_1)∧Aside0 (Kd.R (Kd.int .u32) 60 w' w0.heap.size (fun k_=>(P0_ k_∨w.heap.size≤k_)∧some k_≠(v185:Value).ownBlock∧some k_≠(v188:Value).ownBlock) (.slice Ao30 y190.length co30) x12_1)∧Aside0 (Kept w w' (fun k_=>P0_ k_))∧Aside0 (Below w0.heap.size w0 w'))
       case atStart=>exact ⟨(t184),(t187),(y190),(wrap64 ((y190.length:Int)-1)),(by first|rfl|(simp;done)|(simp [*];done)),H',⟨Nat.le_refl _⟩,⟨by (with_reducible repeat (first|apply Kd.R_alloc|apply Kd.R_drewN|apply Kd.R_drew));exact Kd.R_mono HO186.out (fun _ hk=>⟨hk.1.1.1.1,⟨hk.1.2,hk.2⟩⟩)⟩,⟨by (with_reducible repeat (first|apply Kd.R_alloc|apply Kd.R_drewN|apply Kd.R_drew));exact Kd.R_mono HO189.out (fun _ hk=>⟨hk.1.1.1.1,⟨hk.1.2,hk.2⟩⟩)⟩,⟨by (with_reducible repeat (first|apply Kd.R_alloc|apply Kd.R_drewN|apply Kd.R_drew));exact Kd.R_mono HO192.out (fun _ hk=>⟨hk.1.1.1.1,⟨hk.1.2,hk.2⟩⟩)⟩,⟨by repeat (first|(with_reducible first|exact HK.out|apply Kept.alloc|apply Kept.drewN|apply Kept.drew)|exact HK.out)⟩,⟨by repeat (first|(with_reducible first|exact HB.out|apply below_alloc|apply pw_below_drewN|apply below_drew1)|exact HB.out)⟩⟩
       case round=>
        clear H'
        try clear c1
        try clear p1
        try clear q1
        try clear hx1
        try clear qi1
        try clear c2
        try clear p2
        try clear c4
        try clear c4b0
        try clear c5
        try clear c6
        try clear c6b0
        try clear c6b1
        try clear p6
        try clear c7
        try clear c7b0
        try clear c7b1
        try clear c17
        try clear c17b0
        try clear p17
        try clear q17
        try clear hx17
        try clear qi17
        try clear c18
        try clear c18b0
        try clear p18
        try clear q18
        try clear hx18
        try clear c23
        try clear c23b0
        try clear c23b1
        try clear c24
        try clear c24b0
        try clear c24b1
        try clear hx171_0
        try clear hx182_0
        try clear p171
        try clear p182
        try clear q171
        try clear q182
        obtain ⟨x10_1,x11_1,x12_1,x13_1,rfl,HA,HK1,HO_10,HO_11,HO_12,HK,HB⟩:=hrel
        have hl12_1:=(Kd.R_reads' HO_12.out).1
        rw [hl12_1] at HO_12
        (try simp only [hl12_1])
        (try simp only [hl12_1] at HO_10)
        (try simp only [hl12_1] at HO_11)
        cases gk with
        | zero=>exact absurd HA.out (by simp [natural_divide.l0])
        | succ k1=>
         have H:=HA.out
         clear HA
         simp only [natural_divide.l0] at H
         by_cases c31:x13_1≥0
         ·rw [if_pos c31] at H
          have c31b0:decide (0≤x13_1)=true:=decide_eq_true c31
          clear c31
          replace H:=Option.bind_eq_some_iff.mp H
          obtain ⟨⟨t193,t194⟩,A320,H⟩:=H
          replace H:(if 0≤x13_1 then (if x13_1<(x12_1.length:Int) then (natural_divide.l0 k1 (l1.length:Int) (IntKind.u64.wrap (t183)) x10_1 t194 (x12_1.set (x13_1:Int).toNat t193) (wrap64 (x13_1-1))) else (none)) else (none))=some (r1,r2):=H
          have A32:=Aside0.mk A320
          clear A320
          by_cases c33:0≤x13_1
          ·rw [if_pos c33] at H
           have c33b0:decide (0≤x13_1)=true:=decide_eq_true c33
           clear c33
           by_cases c34:x13_1<(x12_1.length:Int)
           ·rw [if_pos c34] at H
            have c34b0:decide (x13_1<(x12_1.length:Int))=true:=decide_eq_true c34
            clear c34
            obtain ⟨y195,hy195⟩:∃ y_:List Int,y_=(x12_1.set (x13_1:Int).toNat t193):=⟨_,rfl⟩
            replace H:(natural_divide.l0 k1 (l1.length:Int) (IntKind.u64.wrap (t183)) x10_1 t194 y195 (wrap64 (x13_1-1)))=some (r1,r2):=by first|(rw [hy195];with_reducible exact H)|(have H2_:=(Option.bind_some _ _).symm.trans H;rw [hy195];with_reducible exact H2_)|(have H2_:=(Option.bind_some _ _).symm.trans H;with_reducible exact H2_)|with_reducible exact H|(rw [hy195];exact H)|exact H
            have Ny195:=Aside0.mk hy195
            clear hy195
            have H':=Aside0.mk H
            clear H
            obtain ⟨b0_,b1_,b2_⟩:=natural_stepAt.bound A32.out
            obtain ⟨gu_,co36,eu_,gbu_,glu_,clu_,HGu_⟩:=Kd.R_form HO_11.out (by omega)
            subst eu_
            have mx_:x11_1.length≤9223372036854775807:=(Kd.R_reads' HO_11.out).2.2.2.1
            have cx_:x11_1.length≤co36:=(Kd.R_reads' HO_11.out).2.1
            have n1_:l1.length≤9223372036854775807:=by omega
            obtain ⟨Ao37,co37,eo37⟩:=Kd.R_slice HO_10.out
            subst eo37
            go_wp2_with (first|((with_reducible refine gate_callee (f:=72) rfl ?_);refine goesL_ (some 77) rfl rfl Tryd.func72 (by kernel_rfl) rfl #[.slice (some ⟨gu_,x13_1.toNat,none⟩) ((x13_1+(l1.length:Int)+1).toNat-x13_1.toNat) (co36-x13_1.toNat),.slice Ao37 x10_1.length co37] rfl (by (try simp only [List.map_toArray,List.map_cons,List.map_nil]);first|done|rfl|(simp only [List.length_drop,List.length_take];rfl)) ?_;(rw [show (x13_1+(l1.length:Int)+1).toNat-x13_1.toNat=l1.length+1 from by omega]);(with_reducible refine (natural_stepAt.calls k1 l1.length (fun k_=>some k_=(.slice (some ⟨gu_,0,none⟩) x11_1.length co36:Value).ownBlock) gu_ co36 x11_1 x13_1 _ _ x10_1 t193 t194 w0 _ ?side1 ?side2 ?side3 ?side4 A32.out).mono ?_);(case side1=>repeat (first|(with_reducible first|exact HB.out|apply below_alloc|apply pw_below_drewN|apply below_drew1)|exact HB.out));(case side2=>exact Kd.R_tight rfl HO_11.out);(case side3=>exact Kd.C_kept_own (HO_10.out) (fun k_ hk_ hs_=>(hk_.2.1) hs_));(case side4=>exact (Kd.R_reads' HO_10.out).2.1);rintro e w38 ⟨rfl,hy0,hb,hkp⟩;refine ⟨_,rfl,?_⟩;have n0_:=Aside0.mk (Kd.R_mono (ok':=fun k_=>(P0_ k_∨w.heap.size≤k_)∧some k_≠(.slice (some ⟨gu_,0,none⟩) x11_1.length co36:Value).ownBlock∧some k_≠(.slice Ao30 x12_1.length co30:Value).ownBlock) (Kd.R_keptB (HO_10.out) hkp (fun k_ hk_ hs_=>(hk_.2.1) hs_)) (fun k_ hk_=>⟨hk_.1.1,hk_.1.2.1,hk_.1.2.2⟩));have n1_:=Aside0.mk (Kd.R_reok rfl hy0 (fun k_ e_=>HO_11.out.1 k_ e_));have n2_:=Aside0.mk (Kd.R_mono (ok':=fun k_=>(P0_ k_∨w.heap.size≤k_)∧some k_≠(.slice Ao37 x10_1.length co37:Value).ownBlock∧some k_≠(.slice (some ⟨gu_,0,none⟩) x11_1.length co36:Value).ownBlock) (Kd.R_keptB (HO_12.out) hkp (fun k_ hk_ hs_=>(hk_.2.2) hs_)) (fun k_ hk_=>⟨hk_.1.1,hk_.1.2.1,hk_.1.2.2⟩));have n3_:=Aside0.mk (Kept.then_ (S:=(fun k_=>P0_ k_)) (by repeat (first|(with_reducible first|exact HK.out|apply Kept.alloc|apply Kept.drewN|apply Kept.drew)|exact HK.out)) hkp (fun k_ hs_=>(fun e_=>(HO_11.out.1 k_ e_.symm).1) hs_));have n4_:=Aside0.mk (hb);clear HO_10;clear HO_11;clear HO_12;clear HK;clear HB;have HO_10:=n0_;have HO_11:=n1_;have HO_12:=n2_;have HK:=n3_;have HB:=n4_;clear n0_ n1_ n2_ n3_ n4_;(try clear hb);(try clear hkp);(try clear hy0);have p35:0≤(x13_1:Int):=of_decide_eq_true (by first|(with_reducible assumption)|assumption);have q35:(x13_1:Int)<((x12_1.length:Int):Int):=of_decide_eq_true (by first|(with_reducible assumption)|assumption);obtain ⟨go35,co35,eo35,gb35,gl35,cl35,HG35⟩:=Kd.R_form HO_12.out (by omega);(first|cases eo35|(injection eo35 with ea_ en_ ec_;(first|subst ea_|(injection ea_ with ea_;subst ea_));subst ec_;clear en_));have GB35:=Aside0.mk gb35;have GG35:=Aside0.mk HG35;clear gb35 gl35 HG35;have HMgo35:=Aside0.mk (show (P0_ go35∨w.heap.size≤go35) from (HO_12.out.1 _ rfl).1);obtain ⟨hx35_0,hf35_0⟩:=Kd.R_celln 0 HO_12.out (x13_1:Int) p35 q35;replace p35:=eq_true p35;replace q35:=eq_true q35;obtain ⟨hy39_,hz39_⟩:=Kd.R_celln 0 HO_12.out (x13_1:Int) (of_decide_eq_true (by first|(with_reducible assumption)|assumption)) (of_decide_eq_true (by first|(with_reducible assumption)|assumption));have HP39:=Kd.R_putg HO_12.out (x13_1:Int) t193)|((with_reducible refine gate_store (t:=60) (p:=78) rfl ?_);refine store_event (t:=60) (p:=78) (v:=?vo_w40) (w1:=(w38.setCell ⟨go35,(x13_1:Int).toNat,none⟩ (.int .u32 t193))) ?hg ?ho ?hn ?hr ?_;(case ho=>rfl);(case hg=>rfl);(case hn=>rfl);(case hr=>first|(go_simp;done)|(go_simp;rfl));intro w40 hw;have hg:w38.grownBy w40 (some go35):=(by rw [hw];exact HP39.2);have hp_:Kd.R (Kd.int .u32) 60 w40 w0.heap.size (fun k_=>(P0_ k_∨w.heap.size≤k_)∧some k_≠(.slice Ao37 x10_1.length co37:Value).ownBlock∧some k_≠(.slice (some ⟨gu_,0,none⟩) x11_1.length co36:Value).ownBlock) (.slice (some ⟨go35,0,none⟩) x12_1.length co30) y195:=(by rw [hw,Ny195.out];exact HP39.1);clear HP39;have n0_:=Aside0.mk (Kd.R_after (v:=(.slice (some ⟨go35,0,none⟩) x12_1.length co30)) (v1:=(.slice (some ⟨go35,0,none⟩) x12_1.length co30)) (ok:=(fun k_=>(P0_ k_∨w.heap.size≤k_)∧some k_≠(.slice (some ⟨gu_,0,none⟩) x11_1.length co36:Value).ownBlock)) (by (with_reducible repeat (first|apply Kd.R_alloc|apply Kd.R_drewN|apply Kd.R_drew));exact Kd.R_mono HO_10.out (fun _ hk=>⟨⟨hk.1,hk.2.1⟩,hk.2.2⟩)) hg (.inl rfl));have n1_:=Aside0.mk (Kd.R_after (v:=(.slice (some ⟨go35,0,none⟩) x12_1.length co30)) (v1:=(.slice (some ⟨go35,0,none⟩) x12_1.length co30)) (ok:=(fun k_=>(P0_ k_∨w.heap.size≤k_)∧some k_≠(.slice Ao37 x10_1.length co37:Value).ownBlock)) (by (with_reducible repeat (first|apply Kd.R_alloc|apply Kd.R_drewN|apply Kd.R_drew));exact Kd.R_mono HO_11.out (fun _ hk=>⟨⟨hk.1,hk.2.1⟩,hk.2.2⟩)) hg (.inl rfl));have n2_:=Aside0.mk (hp_);have n3_:=Aside0.mk ((by rw [hw];exact below_set (HB.out) GB35.out:Below w0.heap.size w0 w40));have n4_:=Aside0.mk (Kept.of_grown (S:=(fun k_=>P0_ k_)) hg (by repeat (first|(with_reducible first|exact HK.out|apply Kept.alloc|apply Kept.drewN|apply Kept.drew)|exact HK.out)) (fun k_ e_=>(HO_12.out.1 k_ e_).1));clear HO_10;clear HO_11;clear HO_12;clear HB;clear HK;have HO_10:=n0_;have HO_11:=n1_;have HO_12:=n2_;have HB:=n3_;have HK:=n4_;clear n0_ n1_ n2_ n3_ n4_;clear hg hw hp_))
            (try simp only [← hl12_1])
            go_roundg k1
            case measure=>have:=HK1.out;omega
            case rel=>exact ⟨(x10_1),(t194),(y195),(wrap64 (x13_1-1)),(by first|(rw [show wrap64 (x13_1-1)=x13_1-1 from by unfold wrap64;omega])|rfl|(simp;done)|(simp [*];done)),H',⟨by have:=HK1.out;omega⟩,⟨by (try simp only [hl12_1]);(with_reducible repeat (first|apply Kd.R_alloc|apply Kd.R_drewN|apply Kd.R_drew));exact Kd.R_mono HO_10.out (fun _ hk=>⟨hk.1.1,⟨hk.1.2,hk.2⟩⟩)⟩,⟨by (try simp only [hl12_1]);(with_reducible repeat (first|apply Kd.R_alloc|apply Kd.R_drewN|apply Kd.R_drew));exact Kd.R_mono HO_11.out (fun _ hk=>⟨hk.1.1,⟨hk.1.2,hk.2⟩⟩)⟩,⟨by (try simp only [hl12_1]);(with_reducible repeat (first|apply Kd.R_alloc|apply Kd.R_drewN|apply Kd.R_drew));exact HO_12.out⟩,⟨by repeat (first|(with_reducible first|exact HK.out|apply Kept.alloc|apply Kept.drewN|apply Kept.drew)|exact HK.out)⟩,⟨by repeat (first|(with_reducible first|exact HB.out|apply below_alloc|apply pw_below_drewN|apply below_drew1)|exact HB.out)⟩⟩
           ·rw [if_neg c34] at H
            exact absurd H (by simp)
          ·rw [if_neg c33] at H
           exact absurd H (by simp)
         ·rw [if_neg c31] at H
          have c31b0:decide (0≤x13_1)=false:=decide_eq_false c31
          clear c31
          replace H:=Option.bind_eq_some_iff.mp H
          obtain ⟨t196,A410,H⟩:=H
          replace H:((natural_unshiftAt.f k1 (l1.length:Int) x11_1 (IntKind.u64.wrap (t183))).bind fun t199=>(some (t196,t199)))=some (r1,r2):=H
          have A41:=Aside0.mk A410
          clear A410
          replace H:=Option.bind_eq_some_iff.mp H
          obtain ⟨t199,A420,H⟩:=H
          replace H:(some (t196,t199))=some (r1,r2):=H
          have A42:=Aside0.mk A420
          clear A420
          simp only [Option.some.injEq,Prod.mk.injEq] at H
          obtain ⟨rfl,rfl⟩:=H
          try go_wp2
          have n0_:=Aside0.mk (Kd.R_drew HO_10.out)
          have n1_:=Aside0.mk (Kd.R_drew HO_11.out)
          have n2_:=Aside0.mk (Kd.R_drew HO_12.out)
          have n3_:=Aside0.mk (Kept.drew HK.out)
          have n4_:=Aside0.mk (below_drew1 HB.out)
          clear HO_10
          clear HO_11
          clear HO_12
          clear HK
          clear HB
          have HO_10:=n0_
          have HO_11:=n1_
          have HO_12:=n2_
          have HK:=n3_
          have HB:=n4_
          clear n0_ n1_ n2_ n3_ n4_
          obtain ⟨b0_,b1_⟩:=natural_unshiftAt.bound A42.out
          have n2_:=HL_.out
          obtain ⟨gu_,co45,eu_,gbu_,glu_,clu_,HGu_⟩:=Kd.R_form HO_11.out (by omega)
          subst eu_
          have mx_:x11_1.length≤9223372036854775807:=(Kd.R_reads' HO_11.out).2.2.2.1
          have cx_:x11_1.length≤co45:=(Kd.R_reads' HO_11.out).2.1
          have n1_:l1.length≤co45:=by omega
          refine start_ (n:=9) (S:=fun w'=>True) (ds:=[]) #[false,false,false,false,false,false,false,false,false] (by kernel_rfl) rfl rfl trivial (fun hHeld=>?_);refine with_tabW natural_divide.tab15 natural_divide.bits15 (fun HT_ HW_=>?_)
          generalize wr.drew=w43 at HO_10 HO_11 HO_12 HK HB hHeld ⊢
          refine pure_ (i:=0) (N:=some 79) (v:=?_) (a':=?_) #[true,false,false,false,false,false,false,false,false] rfl rfl (any_of HT_.out (by kernel_rfl)) (fun _ _ _ h=>h) (Or.inl ⟨by rfl,?_⟩) ?_ ?_
          rotate_left
          ·intro w'
           go_simp
           with_reducible rfl
          rotate_left
          ·simp only [Act.put,List.setIfInBounds_toArray,List.set_cons_zero,List.set_cons_succ,i64_w,i32_w]
           rfl
          refine pure_ (i:=2) (N:=some 81) (v:=?_) (a':=?_) #[true,false,true,false,false,false,false,false,false] rfl rfl (any_of HT_.out (by kernel_rfl)) (fun _ _ _ h=>h) (Or.inl ⟨by rfl,?_⟩) ?_ ?_
          rotate_left
          ·intro w'
           go_simp
           with_reducible rfl
          rotate_left
          ·simp only [Act.put,List.setIfInBounds_toArray,List.set_cons_zero,List.set_cons_succ,i64_w,i32_w]
           rfl
          refine pure_ (i:=3) (N:=some 82) (v:=?_) (a':=?_) #[true,false,true,true,false,false,false,false,false] rfl rfl (any_of HT_.out (by kernel_rfl)) (fun _ _ _ h=>h) (Or.inl ⟨by rfl,?_⟩) ?_ ?_
          rotate_left
          ·intro w'
           go_simp
           with_reducible rfl
          rotate_left
          ·simp only [Act.put,List.setIfInBounds_toArray,List.set_cons_zero,List.set_cons_succ,i64_w,i32_w]
           rfl
          refine pure_ (i:=4) (N:=some 83) (v:=?_) (a':=?_) #[true,false,true,true,true,false,false,false,false] rfl rfl (any_of HT_.out (by kernel_rfl)) (fun _ _ _ h=>h) (Or.inl ⟨by rfl,?_⟩) ?_ ?_
          rotate_left
          ·intro w'
           go_simp
           with_reducible rfl
          rotate_left
          ·simp only [Act.put,List.setIfInBounds_toArray,List.set_cons_zero,List.set_cons_succ,i64_w,i32_w]
           rfl
          refine pure_ (i:=5) (N:=some 84) (v:=?_) (a':=?_) #[true,false,true,true,true,true,false,false,false] rfl rfl (any_of HT_.out (by kernel_rfl)) (fun _ _ _ h=>h) (Or.inl ⟨by rfl,?_⟩) ?_ ?_
          rotate_left
          ·intro w'
           go_simp
           with_reducible rfl
          rotate_left
          ·simp only [Act.put,List.setIfInBounds_toArray,List.set_cons_zero,List.set_cons_succ,i64_w,i32_w]
           rfl
          refine one_ (i:=1) (N:=some 80) #[true,true,true,true,true,true,false,false,false] rfl rfl (one_of HT_.out (by kernel_rfl)) (by decide) (fun K hK=>?_)
          refine goes_ Tryd.func53 (by kernel_rfl) rfl #[.slice Ao30 x12_1.length co30] (by rfl) rfl rfl (by (try simp only [List.map_toArray,List.map_cons,List.map_nil]);first|done|rfl|(simp only [List.length_drop,List.length_take];rfl)) ?_
          with_reducible refine (natural_limbs_trim.calls k1 (fun k_=>some k_=(.slice Ao30 x12_1.length co30:Value).ownBlock) (.slice Ao30 x12_1.length co30) x12_1 t196 w0 _ ?side1 ?side2 A41.out).mono ?_
          (case side1=>repeat (first|(with_reducible first|exact HB.out|apply below_alloc|apply pw_below_drewN|apply below_drew1)|exact HB.out))
          (case side2=>exact Kd.R_tight rfl HO_12.out)
          rintro e w44 ⟨v197,rfl,ho0,hb,hkp⟩
          refine ⟨_,rfl,?_⟩
          have n0_:=Aside0.mk (Kd.R_mono (ok':=fun k_=>(P0_ k_∨w.heap.size≤k_)∧some k_≠(.slice (some ⟨gu_,0,none⟩) x11_1.length co45:Value).ownBlock∧some k_≠(v197:Value).ownBlock) (Kd.R_keptB (HO_10.out) hkp (fun k_ hk_ hs_=>(hk_.2.2) hs_)) (fun k_ hk_=>⟨hk_.1.1,hk_.1.2.1,fun e_=>Or.elim (ho0.1 k_ e_.symm) (fun hs_=>hk_.2.1 hs_) (fun hn_=>Nat.not_le.2 hk_.2.2 hn_)⟩))
          have n1_:=Aside0.mk (Kd.R_mono (ok':=fun k_=>(P0_ k_∨w.heap.size≤k_)∧some k_≠(v185:Value).ownBlock∧some k_≠(v197:Value).ownBlock) (Kd.R_keptB (HO_11.out) hkp (fun k_ hk_ hs_=>(hk_.2.2) hs_)) (fun k_ hk_=>⟨hk_.1.1,hk_.1.2.1,fun e_=>Or.elim (ho0.1 k_ e_.symm) (fun hs_=>hk_.2.1 hs_) (fun hn_=>Nat.not_le.2 hk_.2.2 hn_)⟩))
          have n2_:=Aside0.mk (Kd.R_mono (ok':=fun k_=>(P0_ k_∨w.heap.size≤k_)∧some k_≠(v185:Value).ownBlock∧some k_≠(.slice (some ⟨gu_,0,none⟩) x11_1.length co45:Value).ownBlock) ho0 (fun k_ hk_=>⟨Or.elim hk_ (fun hs_=>(HO_12.out.1 k_ (hs_).symm).1) (fun hn_=>(.inr (Nat.le_trans (by first|exact HK.out.1|exact (show Kept w _ (fun k_=>P0_ k_) from by repeat (first|(with_reducible first|exact HK.out|apply Kept.alloc|apply Kept.drewN|apply Kept.drew)|exact HK.out)).1) hn_))),Or.elim hk_ (fun hs_=>fun e_=>(((HO_10.out).1 k_ e_.symm).2.2) hs_) (fun hn_=>(Kd.fresh' (Kd.R_lt (by (with_reducible repeat (first|apply Kd.R_alloc|apply Kd.R_drewN|apply Kd.R_drew));exact HO_10.out)) k_ hn_)),Or.elim hk_ (fun hs_=>fun e_=>(((HO_11.out).1 k_ e_.symm).2.2) hs_) (fun hn_=>(Kd.fresh' (Kd.R_lt (by (with_reducible repeat (first|apply Kd.R_alloc|apply Kd.R_drewN|apply Kd.R_drew));exact HO_11.out)) k_ hn_))⟩))
          have n3_:=Aside0.mk (Kept.then_ (S:=(fun k_=>P0_ k_)) (by repeat (first|(with_reducible first|exact HK.out|apply Kept.alloc|apply Kept.drewN|apply Kept.drew)|exact HK.out)) hkp (fun k_ hs_=>(fun e_=>(HO_12.out.1 k_ e_.symm).1) hs_))
          have n4_:=Aside0.mk (hb)
          clear HO_10
          clear HO_11
          clear HK
          clear HB
          clear HO_12
          have HO_10:=n0_
          have HO_11:=n1_
          have HO198:=n2_
          have HK:=n3_
          have HB:=n4_
          clear n0_ n1_ n2_ n3_ n4_
          (try clear hb)
          (try clear hkp)
          (try clear ho0)
          obtain ⟨Ao45,co45,eo45⟩:=Kd.R_slice HO_11.out
          (first|subst eo45|(injection eo45 with f1_ f2_ f3_;have f4_:=f1_.symm;have f5_:=f3_.symm;clear f1_ f2_ f3_;subst f4_;subst f5_))
          refine hK.out _ _ trivial (fun hHeld=>?_)
          clear hK K
          refine norm_ (a':=?_) ?_ ?_
          rotate_left
          ·show Act.put _ (some 80) _=_
           simp only [Act.put,List.setIfInBounds_toArray,List.set_cons_zero,List.set_cons_succ,i64_w,i32_w]
           rfl
          refine one_ (i:=6) (N:=some 85) #[true,true,true,true,true,true,true,false,false] rfl rfl (one_of HT_.out (by kernel_rfl)) (by decide) (fun K hK=>?_)
          refine goes_ Tryd.func73 (by kernel_rfl) rfl #[.slice (some ⟨gu_,0,none⟩) l1.length co45,.int .u64 (IntKind.u64.wrap (t183))] (by rfl) rfl rfl (by (try simp only [List.map_toArray,List.map_cons,List.map_nil]);first|done|rfl|(simp only [List.length_drop,List.length_take];rfl)) ?_
          with_reducible refine (natural_unshiftAt.calls k1 l1.length _ _ x11_1 (IntKind.u64.wrap (t183)) t199 _ ?side1 ?side2 A42.out).mono ?_
          (case side1=>repeat (first|exact (Kd.R_reads' HO_11.out).2.2|(with_reducible refine Kd.C_alloc ?_ _)|(with_reducible refine Kd.C_drewN ?_ _)|(with_reducible refine Kd.C_drew ?_)))
          (case side2=>exact (Kd.R_reads' HO_11.out).2.1)
          rintro e w46 ⟨v200,rfl,ho0,hb⟩
          refine ⟨_,rfl,?_⟩
          have n0_:=Aside0.mk (Kd.R_elder' (by (with_reducible repeat (first|apply Kd.R_alloc|apply Kd.R_drewN|apply Kd.R_drew));exact HO_10.out) (Kd.R_base ho0) hb)
          have n1_:=Aside0.mk (Kd.R_elder' (by (with_reducible repeat (first|apply Kd.R_alloc|apply Kd.R_drewN|apply Kd.R_drew));exact HO_11.out) (Kd.R_base ho0) hb)
          have n2_:=Aside0.mk (Kd.R_elder' (by (with_reducible repeat (first|apply Kd.R_alloc|apply Kd.R_drewN|apply Kd.R_drew));exact HO198.out) (Kd.R_base ho0) hb)
          have n3_:=Aside0.mk (Kd.R_lower (Kd.R_new' (Kd.R_new' (Kd.R_new' (Kd.R_newM (M:=fun k_=>(P0_ k_∨w.heap.size≤k_)) ho0 (by first|exact HK.out.1|exact (show Kept w _ (fun k_=>P0_ k_) from by repeat (first|(with_reducible first|exact HK.out|apply Kept.alloc|apply Kept.drewN|apply Kept.drew)|exact HK.out)).1) (fun k_ h_=>.inr h_)) (Kd.R_lt (by (with_reducible repeat (first|apply Kd.R_alloc|apply Kd.R_drewN|apply Kd.R_drew));exact HO_10.out))) (Kd.R_lt (by (with_reducible repeat (first|apply Kd.R_alloc|apply Kd.R_drewN|apply Kd.R_drew));exact HO_11.out))) (Kd.R_lt (by (with_reducible repeat (first|apply Kd.R_alloc|apply Kd.R_drewN|apply Kd.R_drew));exact HO198.out))) (below_size (by repeat (first|(with_reducible first|exact HB.out|apply below_alloc|apply pw_below_drewN|apply below_drew1)|exact HB.out))))
          have n4_:=Aside0.mk (Kept.below (S:=(fun k_=>P0_ k_)) (by repeat (first|(with_reducible first|exact HK.out|apply Kept.alloc|apply Kept.drewN|apply Kept.drew)|exact HK.out)) hb)
          have n5_:=Aside0.mk (below_step (by repeat (first|(with_reducible first|exact HB.out|apply below_alloc|apply pw_below_drewN|apply below_drew1)|exact HB.out)) hb)
          clear HO_10
          clear HO_11
          clear HO198
          clear HK
          clear HB
          have HO_10:=n0_
          have HO_11:=n1_
          have HO198:=n2_
          have HO201:=n3_
          have HK:=n4_
          have HB:=n5_
          clear n0_ n1_ n2_ n3_ n4_ n5_
          (try clear hb)
          (try clear hb2)
          (try clear hk)
          (try clear hi)
          (try clear ho0)
          refine hK.out _ _ trivial (fun hHeld=>?_)
          clear hK K
          refine norm_ (a':=?_) ?_ ?_
          rotate_left
          ·show Act.put _ (some 85) _=_
           simp only [Act.put,List.setIfInBounds_toArray,List.set_cons_zero,List.set_cons_succ,i64_w,i32_w]
           rfl
          refine pure_ (i:=7) (N:=some 4) (v:=?_) (a':=?_) #[true,true,true,true,true,true,true,true,false] rfl rfl (any_of HT_.out (by kernel_rfl)) (fun _ _ _ h=>h) (Or.inl ⟨by rfl,?_⟩) ?_ ?_
          rotate_left
          ·intro w'
           go_simp
           with_reducible rfl
          rotate_left
          ·simp only [Act.put,List.setIfInBounds_toArray,List.set_cons_zero,List.set_cons_succ,i64_w,i32_w]
           rfl
          refine pure_ (i:=8) (N:=some 5) (v:=?_) (a':=?_) #[true,true,true,true,true,true,true,true,true] rfl rfl (any_of HT_.out (by kernel_rfl)) (fun _ _ _ h=>h) (Or.inl ⟨by rfl,?_⟩) ?_ ?_
          rotate_left
          ·intro w'
           go_simp
           with_reducible rfl
          rotate_left
          ·simp only [Act.put,List.setIfInBounds_toArray,List.set_cons_zero,List.set_cons_succ,i64_w,i32_w]
           rfl
          refine done_ (done_of HT_.out (by kernel_rfl)) ?_
          try go_wp2
          go_ret2
          exact ⟨_,_,by first|rfl|(simp [errW_none,errW_some] <;> rfl)|(simp only [← hji16,← hji22];first|rfl|(simp [errW_none,errW_some] <;> rfl))|(simp [*,errW_none,errW_some] <;> rfl),by (with_reducible repeat (first|apply Kd.R_alloc|apply Kd.R_drewN|apply Kd.R_drew));exact Kd.R_mono HO198.out (fun _ hk=>⟨hk.1.1,hk.2⟩),by (with_reducible repeat (first|apply Kd.R_alloc|apply Kd.R_drewN|apply Kd.R_drew));exact Kd.R_mono HO201.out (fun _ hk=>⟨hk.1.1.1.1,hk.2⟩),by repeat (first|(with_reducible first|exact HB.out|apply below_alloc|apply pw_below_drewN|apply below_drew1)|exact HB.out),by repeat (first|(with_reducible first|exact HK.out|apply Kept.alloc|apply Kept.drewN|apply Kept.drew)|exact HK.out)⟩
      ·rw [if_neg c24] at H
       exact absurd H (by simp)
     ·rw [if_neg c23] at H
      exact absurd H (by simp)
    ·rw [if_neg c18] at H
     exact absurd H (by simp)
   ·rw [if_neg c17] at H
    exact absurd H (by simp)
end Go.Proofs.YtjaflmhdclmolaaDoor.F
end
section
namespace Go.Proofs.YtjaflmhdclmolaaDoor.F
open Go.RowKit Go.Proofs.YtjaflmhdclmolaaDoorW.PrintWords Go.Proofs.YtjaflmhdclmolaaDoorW.PrintLast Go.Proofs.YtjaflmhdclmolaaDoorW.PrintMore
attribute [local go_sem] max2_int min2_int max_two min_two max_three min_three max_four min_four   
set_option linter.unusedVariables false
set_option linter.unusedSimpArgs false
def natural_Divide.f (k:Nat) (a0:ByteArray) (a1:ByteArray):Option (ByteArray×ByteArray×Bool):=(natural_parse.f k a1).bind fun t209=>(if (t209.length:Int)=0 then (some ((⟨#[]⟩:ByteArray),(⟨#[]⟩:ByteArray),false)) else ((natural_parse.f k a0).bind fun t212=>((natural_divide.f k t212 t209).bind fun bt215=>((natural_limbs_text.f k bt215.1).bind fun t221=>((natural_limbs_text.f k bt215.2).bind fun t222=>(some (t221,t222,true)))))))
theorem natural_Divide.mono:∀ a0 a1 k,LeO (natural_Divide.f k a0 a1) (natural_Divide.f (k+1) a0 a1):=by
 intro a0 a1 k
 unfold natural_Divide.f
 repeat' first
  | (with_reducible exact natural_divide.mono _ _ _)
  | (with_reducible exact natural_limbs_text.mono _ _)
  | (with_reducible exact natural_parse.mono _ _)
  | (with_reducible exact LeO.refl _)
  | (with_reducible exact LeO.none _)
  | (with_reducible refine LeO.ite ?_ ?_)
  | (with_reducible refine LeO.bind ?_ (fun _=>?_))
  | exact natural_divide.mono _ _ _
  | exact natural_limbs_text.mono _ _
  | exact natural_parse.mono _ _
  | exact LeO.none _
  | refine LeO.ite ?_ ?_
  | refine LeO.bind ?_ (fun _=>?_)
set_option maxHeartbeats 8000000 in
set_option maxRecDepth 100000 in
theorem natural_Divide.calls (k:Nat) (a0:ByteArray) (a1:ByteArray) (r1:ByteArray) (r2:ByteArray) (r3:Bool) (w:World) (h:natural_Divide.f k a0 a1=some (r1,r2,r3)) :
 Calls Tryd.prog 21 #[.string a0,.string a1] w fun e w'=>e = .returned (.tuple #[.string r1,.string r2,.bool r3])∧Below w.heap.size w w':=by
 have HB:=Aside0.mk (Below.refl w.heap.size w)
 have H:((natural_parse.f k a1).bind fun t209=>(if (t209.length:Int)=0 then (some ((⟨#[]⟩:ByteArray),(⟨#[]⟩:ByteArray),false)) else ((natural_parse.f k a0).bind fun t212=>((natural_divide.f k t212 t209).bind fun bt215=>((natural_limbs_text.f k bt215.1).bind fun t221=>((natural_limbs_text.f k bt215.2).bind fun t222=>(some (t221,t222,true))))))))=some (r1,r2,r3):=h
 clear h
 replace H:=Option.bind_eq_some_iff.mp H
 obtain ⟨t209,A30,H⟩:=H
 replace H:(if (t209.length:Int)=0 then (some ((⟨#[]⟩:ByteArray),(⟨#[]⟩:ByteArray),false)) else ((natural_parse.f k a0).bind fun t212=>((natural_divide.f k t212 t209).bind fun bt215=>((natural_limbs_text.f k bt215.1).bind fun t221=>((natural_limbs_text.f k bt215.2).bind fun t222=>(some (t221,t222,true)))))))=some (r1,r2,r3):=H
 have A3:=Aside0.mk A30
 clear A30
 by_cases c4:(t209.length:Int)=0
 ·rw [if_pos c4] at H
  have c4b0:((t209.length:Int) == 0)=true:=beq_iff_eq.mpr c4
  have c4b1:((t209.length:Int) != 0)=false:=bne_eq_false_iff_eq.mpr c4
  clear c4
  simp only [Option.some.injEq,Prod.mk.injEq] at H
  obtain ⟨rfl,rfl,rfl⟩:=H
  go_enter Tryd.func21,Tryd.ntmps21
  go_wp2_with (first|((with_reducible refine gate_callee (f:=42) rfl ?_);refine goesL_ (some 11) rfl rfl Tryd.func42 (by kernel_rfl) rfl #[.string a1] rfl (by (try simp only [List.map_toArray,List.map_cons,List.map_nil]);first|done|rfl|(simp only [List.length_drop,List.length_take];rfl)) ?_;(with_reducible refine (natural_parse.calls k a1 t209 _ A3.out).mono ?_);rintro e w5 ⟨v210,rfl,ho0,hb⟩;refine ⟨_,rfl,?_⟩;have n0_:=Aside0.mk (Kd.R_lower ho0 (below_size (by repeat (first|(with_reducible first|exact HB.out|apply below_alloc|apply pw_below_drewN|apply below_drew1)|exact HB.out))));have n1_:=Aside0.mk (below_step (by repeat (first|(with_reducible first|exact HB.out|apply below_alloc|apply pw_below_drewN|apply below_drew1)|exact HB.out)) hb);clear HB;have HO211:=n0_;have HB:=n1_;clear n0_ n1_;(try clear hb);(try clear hb2);(try clear hk);(try clear hi);(try clear ho0);obtain ⟨Ao6,co6,eo6⟩:=Kd.R_slice HO211.out;subst eo6))
  go_ret3
  exact ⟨by first|rfl|(simp [errW_none,errW_some] <;> rfl)|(simp [*,errW_none,errW_some] <;> rfl),by repeat (first|(with_reducible first|exact HB.out|apply below_alloc|apply pw_below_drewN|apply below_drew1)|exact HB.out)⟩
 ·rw [if_neg c4] at H
  have c4b0:((t209.length:Int) == 0)=false:=beq_eq_false_iff_ne.mpr c4
  have c4b1:((t209.length:Int) != 0)=true:=bne_iff_ne.mpr c4
  have c4b2:¬ (t209=[]):=fun h_=>c4 (by rw [h_];rfl)
  replace H:=Option.bind_eq_some_iff.mp H
  obtain ⟨t212,A70,H⟩:=H
  replace H:((natural_divide.f k t212 t209).bind fun bt215=>((natural_limbs_text.f k bt215.1).bind fun t221=>((natural_limbs_text.f k bt215.2).bind fun t222=>(some (t221,t222,true)))))=some (r1,r2,r3):=H
  have A7:=Aside0.mk A70
  clear A70
  replace H:=Option.bind_eq_some_iff.mp H
  obtain ⟨⟨t215,t218⟩,A80,H⟩:=H
  replace H:((natural_limbs_text.f k t215).bind fun t221=>((natural_limbs_text.f k t218).bind fun t222=>(some (t221,t222,true))))=some (r1,r2,r3):=H
  have A8:=Aside0.mk A80
  clear A80
  replace H:=Option.bind_eq_some_iff.mp H
  obtain ⟨t221,A90,H⟩:=H
  replace H:((natural_limbs_text.f k t218).bind fun t222=>(some (t221,t222,true)))=some (r1,r2,r3):=H
  have A9:=Aside0.mk A90
  clear A90
  replace H:=Option.bind_eq_some_iff.mp H
  obtain ⟨t222,A100,H⟩:=H
  replace H:(some (t221,t222,true))=some (r1,r2,r3):=H
  have A10:=Aside0.mk A100
  clear A100
  simp only [Option.some.injEq,Prod.mk.injEq] at H
  obtain ⟨rfl,rfl,rfl⟩:=H
  go_enter Tryd.func21,Tryd.ntmps21
  go_wp2_with (first|((with_reducible refine gate_callee (f:=42) rfl ?_);refine goesL_ (some 11) rfl rfl Tryd.func42 (by kernel_rfl) rfl #[.string a1] rfl (by (try simp only [List.map_toArray,List.map_cons,List.map_nil]);first|done|rfl|(simp only [List.length_drop,List.length_take];rfl)) ?_;(with_reducible refine (natural_parse.calls k a1 t209 _ A3.out).mono ?_);rintro e w11 ⟨v210,rfl,ho0,hb⟩;refine ⟨_,rfl,?_⟩;have n0_:=Aside0.mk (Kd.R_lower ho0 (below_size (by repeat (first|(with_reducible first|exact HB.out|apply below_alloc|apply pw_below_drewN|apply below_drew1)|exact HB.out))));have n1_:=Aside0.mk (below_step (by repeat (first|(with_reducible first|exact HB.out|apply below_alloc|apply pw_below_drewN|apply below_drew1)|exact HB.out)) hb);clear HB;have HO211:=n0_;have HB:=n1_;clear n0_ n1_;(try clear hb);(try clear hb2);(try clear hk);(try clear hi);(try clear ho0);obtain ⟨Ao12,co12,eo12⟩:=Kd.R_slice HO211.out;subst eo12)|((with_reducible refine gate_callee (f:=42) rfl ?_);refine goesL_ (some 17) rfl rfl Tryd.func42 (by kernel_rfl) rfl #[.string a0] rfl (by (try simp only [List.map_toArray,List.map_cons,List.map_nil]);first|done|rfl|(simp only [List.length_drop,List.length_take];rfl)) ?_;(with_reducible refine (natural_parse.calls k a0 t212 _ A7.out).mono ?_);rintro e w13 ⟨v213,rfl,ho0,hb⟩;refine ⟨_,rfl,?_⟩;have n0_:=Aside0.mk (Kd.R_elder' (by (with_reducible repeat (first|apply Kd.R_alloc|apply Kd.R_drewN|apply Kd.R_drew));exact HO211.out) (Kd.R_base ho0) hb);have n1_:=Aside0.mk (Kd.R_lower (Kd.R_new' ho0 (Kd.R_lt (by (with_reducible repeat (first|apply Kd.R_alloc|apply Kd.R_drewN|apply Kd.R_drew));exact HO211.out))) (below_size (by repeat (first|(with_reducible first|exact HB.out|apply below_alloc|apply pw_below_drewN|apply below_drew1)|exact HB.out))));have n2_:=Aside0.mk (below_step (by repeat (first|(with_reducible first|exact HB.out|apply below_alloc|apply pw_below_drewN|apply below_drew1)|exact HB.out)) hb);clear HO211;clear HB;have HO211:=n0_;have HO214:=n1_;have HB:=n2_;clear n0_ n1_ n2_;(try clear hb);(try clear hb2);(try clear hk);(try clear hi);(try clear ho0);obtain ⟨Ao14,co14,eo14⟩:=Kd.R_slice HO214.out;subst eo14)|((with_reducible refine gate_callee (f:=43) rfl ?_);refine goesL_ (some 19) rfl rfl Tryd.func43 (by kernel_rfl) rfl #[.slice Ao14 t212.length co14,.slice Ao12 t209.length co12] rfl (by (try simp only [List.map_toArray,List.map_cons,List.map_nil]);first|done|rfl|(simp only [List.length_drop,List.length_take];rfl)) ?_;(with_reducible refine (natural_divide.calls k (fun k_=>some k_=(.slice Ao14 t212.length co14:Value).ownBlock) (.slice Ao14 t212.length co14) t212 _ _ t209 t215 t218 w _ ?side1 ?side2 ?side3 ?side4 A8.out).mono ?_);(case side1=>repeat (first|(with_reducible first|exact HB.out|apply below_alloc|apply pw_below_drewN|apply below_drew1)|exact HB.out));(case side2=>exact Kd.R_tight rfl HO214.out);(case side3=>exact Kd.C_kept_own (HO211.out) (fun k_ hk_ hs_=>(hk_.2) hs_));(case side4=>exact (Kd.R_reads' HO211.out).2.1);rintro e w15 ⟨v216,v219,rfl,ho0,ho1,hb,hkp⟩;refine ⟨_,rfl,?_⟩;have n0_:=Aside0.mk (Kd.R_mono (ok':=fun k_=>some k_≠(v216:Value).ownBlock∧some k_≠(v219:Value).ownBlock) (Kd.R_keptB (HO211.out) hkp (fun k_ hk_ hs_=>(hk_.2) hs_)) (fun k_ hk_=>⟨fun e_=>Or.elim (ho0.1 k_ e_.symm).1 (fun hs_=>hk_.2.1 hs_) (fun hn_=>Nat.not_le.2 hk_.2.2 hn_),fun e_=>Or.elim (ho1.1 k_ e_.symm).1 (fun hs_=>hk_.2.1 hs_) (fun hn_=>Nat.not_le.2 hk_.2.2 hn_)⟩));have n1_:=Aside0.mk (Kd.R_mono (ok':=fun k_=>some k_≠(v219:Value).ownBlock∧some k_≠(.slice Ao12 t209.length co12:Value).ownBlock) ho0 (fun k_ hk_=>⟨hk_.2,Or.elim hk_.1 (fun hs_=>fun e_=>(((HO211.out).1 k_ e_.symm).2) hs_) (fun hn_=>(Kd.fresh' (Kd.R_lt (by (with_reducible repeat (first|apply Kd.R_alloc|apply Kd.R_drewN|apply Kd.R_drew));exact HO211.out)) k_ hn_))⟩));have n2_:=Aside0.mk (Kd.R_mono (ok':=fun k_=>some k_≠(v216:Value).ownBlock∧some k_≠(.slice Ao12 t209.length co12:Value).ownBlock) ho1 (fun k_ hk_=>⟨hk_.2,Or.elim hk_.1 (fun hs_=>fun e_=>(((HO211.out).1 k_ e_.symm).2) hs_) (fun hn_=>(Kd.fresh' (Kd.R_lt (by (with_reducible repeat (first|apply Kd.R_alloc|apply Kd.R_drewN|apply Kd.R_drew));exact HO211.out)) k_ hn_))⟩));have n3_:=Aside0.mk (hb);clear HO211;clear HB;clear HO214;have HO211:=n0_;have HO217:=n1_;have HO220:=n2_;have HB:=n3_;clear n0_ n1_ n2_ n3_;(try clear hb);(try clear hkp);(try clear ho0);(try clear ho1);obtain ⟨Ao16,co16,eo16⟩:=Kd.R_slice HO217.out;subst eo16)|((with_reducible refine gate_callee (f:=44) rfl ?_);refine goesL_ (some 23) rfl rfl Tryd.func44 (by kernel_rfl) rfl #[.slice Ao16 t215.length co16] rfl (by (try simp only [List.map_toArray,List.map_cons,List.map_nil]);first|done|rfl|(simp only [List.length_drop,List.length_take];rfl)) ?_;(with_reducible refine (natural_limbs_text.calls k _ _ t215 t221 _ ?side1 ?side2 A9.out).mono ?_);(case side1=>repeat (first|exact (Kd.R_reads' HO217.out).2.2|(with_reducible refine Kd.C_alloc ?_ _)|(with_reducible refine Kd.C_drewN ?_ _)|(with_reducible refine Kd.C_drew ?_)));(case side2=>exact (Kd.R_reads' HO217.out).2.1);rintro e w17 ⟨rfl,hb⟩;refine ⟨_,rfl,?_⟩;have n0_:=Aside0.mk (Kd.R_below (by (with_reducible repeat (first|apply Kd.R_alloc|apply Kd.R_drewN|apply Kd.R_drew));exact HO211.out) hb);have n1_:=Aside0.mk (Kd.R_below (by (with_reducible repeat (first|apply Kd.R_alloc|apply Kd.R_drewN|apply Kd.R_drew));exact HO217.out) hb);have n2_:=Aside0.mk (Kd.R_below (by (with_reducible repeat (first|apply Kd.R_alloc|apply Kd.R_drewN|apply Kd.R_drew));exact HO220.out) hb);have n3_:=Aside0.mk (below_step (by repeat (first|(with_reducible first|exact HB.out|apply below_alloc|apply pw_below_drewN|apply below_drew1)|exact HB.out)) hb);clear HO211;clear HO217;clear HO220;clear HB;have HO211:=n0_;have HO217:=n1_;have HO220:=n2_;have HB:=n3_;clear n0_ n1_ n2_ n3_;(try clear hb);(try clear hb2);(try clear hk);(try clear hi);obtain ⟨Ao18,co18,eo18⟩:=Kd.R_slice HO220.out;subst eo18)|((with_reducible refine gate_callee (f:=44) rfl ?_);refine goesL_ (some 25) rfl rfl Tryd.func44 (by kernel_rfl) rfl #[.slice Ao18 t218.length co18] rfl (by (try simp only [List.map_toArray,List.map_cons,List.map_nil]);first|done|rfl|(simp only [List.length_drop,List.length_take];rfl)) ?_;(with_reducible refine (natural_limbs_text.calls k _ _ t218 t222 _ ?side1 ?side2 A10.out).mono ?_);(case side1=>repeat (first|exact (Kd.R_reads' HO220.out).2.2|(with_reducible refine Kd.C_alloc ?_ _)|(with_reducible refine Kd.C_drewN ?_ _)|(with_reducible refine Kd.C_drew ?_)));(case side2=>exact (Kd.R_reads' HO220.out).2.1);rintro e w19 ⟨rfl,hb⟩;refine ⟨_,rfl,?_⟩;have n0_:=Aside0.mk (Kd.R_below (by (with_reducible repeat (first|apply Kd.R_alloc|apply Kd.R_drewN|apply Kd.R_drew));exact HO211.out) hb);have n1_:=Aside0.mk (Kd.R_below (by (with_reducible repeat (first|apply Kd.R_alloc|apply Kd.R_drewN|apply Kd.R_drew));exact HO217.out) hb);have n2_:=Aside0.mk (Kd.R_below (by (with_reducible repeat (first|apply Kd.R_alloc|apply Kd.R_drewN|apply Kd.R_drew));exact HO220.out) hb);have n3_:=Aside0.mk (below_step (by repeat (first|(with_reducible first|exact HB.out|apply below_alloc|apply pw_below_drewN|apply below_drew1)|exact HB.out)) hb);clear HO211;clear HO217;clear HO220;clear HB;have HO211:=n0_;have HO217:=n1_;have HO220:=n2_;have HB:=n3_;clear n0_ n1_ n2_ n3_;(try clear hb);(try clear hb2);(try clear hk);(try clear hi)))
  go_ret3
  exact ⟨by first|rfl|(simp [errW_none,errW_some] <;> rfl)|(simp [*,errW_none,errW_some] <;> rfl),by repeat (first|(with_reducible first|exact HB.out|apply below_alloc|apply pw_below_drewN|apply below_drew1)|exact HB.out)⟩
end Go.Proofs.YtjaflmhdclmolaaDoor.F
end
section
namespace Go.Proofs.YtjaflmhdclmolaaDoor.F
open Go.RowKit Go.Proofs.YtjaflmhdclmolaaDoorW.PrintWords Go.Proofs.YtjaflmhdclmolaaDoorW.PrintLast Go.Proofs.YtjaflmhdclmolaaDoorW.PrintMore
attribute [local go_sem] max2_int min2_int max_two min_two max_three min_three max_four min_four   
set_option linter.unusedVariables false
set_option linter.unusedSimpArgs false
def slices_Reverse_byte_byte.l0:Nat→List Int→Int→Int→Option (List Int)
 | 0,_,_,_=>none
 | k+1,x0,x2,x3=>if x2<x3 then (if 0≤x3 then (if x3<(x0.length:Int) then (if 0≤x2 then (if x2<(x0.length:Int) then (slices_Reverse_byte_byte.l0 k ((x0.set (x2:Int).toNat (rd x0 x3)).set (x3:Int).toNat (rd x0 x2)) (wrap64 (x2+1)) (wrap64 (x3-1))) else (none)) else (none)) else (none)) else (none)) else (some x0)
def slices_Reverse_byte_byte.f (k:Nat) (l0:List Int):Option (List Int):=slices_Reverse_byte_byte.l0 k l0 0 (wrap64 ((l0.length:Int)-1))
theorem slices_Reverse_byte_byte.mono_l:∀ k,(∀ y0 y1 y2,LeO (slices_Reverse_byte_byte.l0 k y0 y1 y2) (slices_Reverse_byte_byte.l0 (k+1) y0 y1 y2))
 | 0=>fun _ _ _ r h=>by simp [slices_Reverse_byte_byte.l0] at h
 | k+1=>by
  have ih0:=slices_Reverse_byte_byte.mono_l k
  ·intro y0 y1 y2
   unfold slices_Reverse_byte_byte.l0
   repeat' first
   | (with_reducible exact ih0 _ _ _)
   | (with_reducible exact LeO.refl _)
   | (with_reducible exact LeO.none _)
   | (with_reducible refine LeO.ite ?_ ?_)
   | (with_reducible refine LeO.bind ?_ (fun _=>?_))
   | exact ih0 _ _ _
   | exact LeO.none _
   | refine LeO.ite ?_ ?_
   | refine LeO.bind ?_ (fun _=>?_)
theorem slices_Reverse_byte_byte.mono:∀ a0 k,LeO (slices_Reverse_byte_byte.f k a0) (slices_Reverse_byte_byte.f (k+1) a0):=by
 intro a0 k
 have ih0:=slices_Reverse_byte_byte.mono_l k
 unfold slices_Reverse_byte_byte.f
 repeat' first
  | (with_reducible exact ih0 _ _ _)
  | (with_reducible exact LeO.refl _)
  | (with_reducible exact LeO.none _)
  | (with_reducible refine LeO.ite ?_ ?_)
  | (with_reducible refine LeO.bind ?_ (fun _=>?_))
  | exact ih0 _ _ _
  | exact LeO.none _
  | refine LeO.ite ?_ ?_
  | refine LeO.bind ?_ (fun _=>?_)
def slices_Reverse_byte_byte.T3:Bool×List (List Nat×List Nat):=(true,[([],[]),([],[]),([],[]),([],[]),([],[]),([],[]),([4,5],[4,5]),([6],[6]),([],[]),([],[]),([8,9],[8,9]),([10],[10]),([0,1,0,1,4,5,6,7,11],[0,1]),([12,7,0,1,4,5,6,7,11],[7,12]),([2,3,0,1,2,3,4,5,6,7,8,9,10,11,12,13],[2,3]),([14,11,13,0,1,2,3,4,5,6,7,8,9,10,11,12,13],[11,14])])
def slices_Reverse_byte_byte.B3:List Nat:=[0,0,0,0,0,0,48,112,0,0,768,1792,4083,8179,16383,32767]
theorem slices_Reverse_byte_byte.tab3:rtab .any (opsOf Tryd.f57 3)=slices_Reverse_byte_byte.T3:=by kernel_rfl
theorem slices_Reverse_byte_byte.bits3:waitsOk slices_Reverse_byte_byte.T3.2 slices_Reverse_byte_byte.B3=true:=by kernel_rfl
set_option maxHeartbeats 8000000 in
set_option maxRecDepth 100000 in
theorem slices_Reverse_byte_byte.calls (k:Nat) (P0_:Nat→Prop) (u9000_:Value) (l0:List Int) (r:List Int) (w0 w:World) (hB:Below w0.heap.size w0 w) (ho0:Kd.R (Kd.int .u8) 5 w w0.heap.size P0_ u9000_ l0) (h:slices_Reverse_byte_byte.f k l0=some r) :
 Calls Tryd.prog 57 #[u9000_] w fun e w'=>e = .returned (.tuple #[])∧Kd.R (Kd.int .u8) 5 w' w0.heap.size (fun k_=>(P0_ k_∨w.heap.size≤k_)) u9000_ r∧Below w0.heap.size w0 w'∧Kept w w' (fun k_=>P0_ k_):=by
 have HO0:=Aside0.mk (show Kd.R (Kd.int .u8) 5 w w0.heap.size (fun k_=>(P0_ k_∨w.heap.size≤k_)) u9000_ l0 from Kd.R_mono ho0 (fun k_ hk=>(.inl hk)))
 have HK:=Aside0.mk (Kept.refl w (fun k_=>P0_ k_))
 have HW0:=Aside0.mk hB.size
 have HB:=Aside0.mk hB
 clear hB
 have H:(slices_Reverse_byte_byte.l0 k l0 0 (wrap64 ((l0.length:Int)-1)))=some r:=h
 clear h
 have H':=Aside0.mk H
 clear H
 obtain ⟨Ao2,co2,eo2⟩:=Kd.R_slice HO0.out
 subst eo2
 go_enter Tryd.func57,Tryd.ntmps57
 go_wp2
 go_loopg [2,3] k (fun kq v2 v3 w'=>∃ (x0_1:List Int) (x2_1:Int) (x3_1:Int),v2 = .int .i64 x2_1∧v3 = .int .i64 x3_1∧Aside0 (slices_Reverse_byte_byte.l0 kq x0_1 x2_1 x3_1=some r)∧Aside0 (kq≤k)∧Aside0 (Kd.R (Kd.int .u8) 5 w' w0.heap.size (fun k_=>(P0_ k_∨w.heap.size≤k_)) (.slice Ao2 l0.length co2) x0_1)∧Aside0 (Kept w w' (fun k_=>P0_ k_))∧Aside0 (Below w0.heap.size w0 w'))
 case atStart=>exact ⟨(l0),(0),(wrap64 ((l0.length:Int)-1)),(by first|rfl|(simp;done)|(simp [*];done)),(by first|rfl|(simp;done)|(simp [*];done)),H',⟨Nat.le_refl _⟩,⟨by (with_reducible repeat (first|apply Kd.R_alloc|apply Kd.R_drewN|apply Kd.R_drew));exact HO0.out⟩,⟨by repeat (first|(with_reducible first|exact HK.out|apply Kept.alloc|apply Kept.drewN|apply Kept.drew)|exact HK.out)⟩,⟨by repeat (first|(with_reducible first|exact HB.out|apply below_alloc|apply pw_below_drewN|apply below_drew1)|exact HB.out)⟩⟩
 case round=>
  clear H'
  try clear p2
  obtain ⟨x0_1,x2_1,x3_1,rfl,rfl,HA,HK1,HO_0,HK,HB⟩:=hrel
  have hl0_1:=(Kd.R_reads' HO_0.out).1
  rw [hl0_1] at HO_0
  (try simp only [hl0_1])
  cases gk with
  | zero=>exact absurd HA.out (by simp [slices_Reverse_byte_byte.l0])
  | succ k1=>
   have H:=HA.out
   clear HA
   simp only [slices_Reverse_byte_byte.l0] at H
   by_cases c3:x2_1<x3_1
   ·rw [if_pos c3] at H
    have c3b0:decide (x2_1<x3_1)=true:=decide_eq_true c3
    clear c3
    by_cases c4:0≤x3_1
    ·rw [if_pos c4] at H
     have c4b0:decide (0≤x3_1)=true:=decide_eq_true c4
     clear c4
     by_cases c5:x3_1<(x0_1.length:Int)
     ·rw [if_pos c5] at H
      have c5b0:decide (x3_1<(x0_1.length:Int))=true:=decide_eq_true c5
      clear c5
      by_cases c6:0≤x2_1
      ·rw [if_pos c6] at H
       have c6b0:decide (0≤x2_1)=true:=decide_eq_true c6
       clear c6
       by_cases c7:x2_1<(x0_1.length:Int)
       ·rw [if_pos c7] at H
        have c7b0:decide (x2_1<(x0_1.length:Int))=true:=decide_eq_true c7
        clear c7
        obtain ⟨y259,hy259⟩:∃ y_:List Int,y_=(x0_1.set (x2_1:Int).toNat (rd x0_1 x3_1)):=⟨_,rfl⟩
        replace H:(slices_Reverse_byte_byte.l0 k1 (y259.set (x3_1:Int).toNat (rd x0_1 x2_1)) (wrap64 (x2_1+1)) (wrap64 (x3_1-1)))=some r:=by first|(rw [hy259];with_reducible exact H)|(have H2_:=(Option.bind_some _ _).symm.trans H;rw [hy259];with_reducible exact H2_)|(have H2_:=(Option.bind_some _ _).symm.trans H;with_reducible exact H2_)|with_reducible exact H|(rw [hy259];exact H)|exact H
        have Ny259:=Aside0.mk hy259
        clear hy259
        obtain ⟨y260,hy260⟩:∃ y_:List Int,y_=(y259.set (x3_1:Int).toNat (rd x0_1 x2_1)):=⟨_,rfl⟩
        replace H:(slices_Reverse_byte_byte.l0 k1 y260 (wrap64 (x2_1+1)) (wrap64 (x3_1-1)))=some r:=by first|(rw [hy260];with_reducible exact H)|(have H2_:=(Option.bind_some _ _).symm.trans H;rw [hy260];with_reducible exact H2_)|(have H2_:=(Option.bind_some _ _).symm.trans H;with_reducible exact H2_)|with_reducible exact H|(rw [hy260];exact H)|exact H
        have Ny260:=Aside0.mk hy260
        clear hy260
        have H':=Aside0.mk H
        clear H
        try go_wp2
        have n0_:=Aside0.mk (Kd.R_drew HO_0.out)
        have n1_:=Aside0.mk (Kept.drew HK.out)
        have n2_:=Aside0.mk (below_drew1 HB.out)
        clear HO_0
        clear HK
        clear HB
        have HO_0:=n0_
        have HK:=n1_
        have HB:=n2_
        clear n0_ n1_ n2_
        have p257:0≤(x3_1:Int):=of_decide_eq_true (by first|(with_reducible assumption)|assumption)
        have q257:x3_1<(x0_1.length:Int):=of_decide_eq_true (by first|(with_reducible assumption)|assumption)
        obtain ⟨ad257,e257,hx257_0⟩:=Kd.at_int (Kd.R_reads' HO_0.out).2.2 x3_1 p257 q257
        cases e257
        replace p257:=eq_true p257
        replace q257:=eq_true q257
        have p258:0≤(x2_1:Int):=of_decide_eq_true (by first|(with_reducible assumption)|assumption)
        have q258:x2_1<(x0_1.length:Int):=of_decide_eq_true (by first|(with_reducible assumption)|assumption)
        obtain ⟨ad258,e258,hx258_0⟩:=Kd.at_int (Kd.R_reads' HO_0.out).2.2 x2_1 p258 q258
        obtain rfl:ad257=ad258:=(by injection e258)
        replace p258:=eq_true p258
        replace q258:=eq_true q258
        have p8:0≤(x2_1:Int):=of_decide_eq_true (by first|(with_reducible assumption)|assumption)
        have q8:(x2_1:Int)<((x0_1.length:Int):Int):=of_decide_eq_true (by first|(with_reducible assumption)|assumption)
        obtain ⟨go8,co8,eo8,gb8,gl8,cl8,HG8⟩:=Kd.R_form HO_0.out (by omega)
        (first|cases eo8|(injection eo8 with ea_ en_ ec_;(first|subst ea_|(injection ea_ with ea_;subst ea_));subst ec_;clear en_))
        have GB8:=Aside0.mk gb8
        have GG8:=Aside0.mk HG8
        clear gb8 gl8 HG8
        have HMgo8:=Aside0.mk (show (P0_ go8∨w.heap.size≤go8) from (HO_0.out.1 _ rfl))
        (first|simp only [add_plain] at hx257_0|skip)
        (first|simp only [add_plain] at hx258_0|skip)
        obtain ⟨hx8_0,hf8_0⟩:=Kd.R_celln 0 HO_0.out (x2_1:Int) p8 q8
        replace p8:=eq_true p8
        replace q8:=eq_true q8
        have HP11:=Kd.R_putn HO_0.out (x2_1:Int) (rd x0_1 x3_1)
        rw [← Ny259.out] at HP11
        have HQ11:=Aside0.mk HP11
        clear HP11
        have p9:0≤(x3_1:Int):=of_decide_eq_true (by first|(with_reducible assumption)|assumption)
        have q9:(x3_1:Int)<((x0_1.length:Int):Int):=of_decide_eq_true (by first|(with_reducible assumption)|assumption)
        obtain ⟨hx9_0,hf9_0⟩:=Kd.R_celln 0 HQ11.out (x3_1:Int) p9 q9
        replace p9:=eq_true p9
        replace q9:=eq_true q9
        have HP12:=Kd.R_putn HQ11.out (x3_1:Int) (rd x0_1 x2_1)
        rw [← Ny260.out] at HP12
        have HQ12:=Aside0.mk HP12
        clear HP12
        refine start_ (n:=16) (S:=fun w'=>w'.cell? ⟨go8,(x3_1).toNat,none⟩=some (.int .u8 (rd x0_1 x3_1))∧w'.cell? ⟨go8,(x2_1).toNat,none⟩=some (.int .u8 (rd x0_1 x2_1))) (ds:=[13,15]) #[false,false,false,false,false,false,false,false,false,false,false,false,false,false,false,false] (by kernel_rfl) rfl rfl ⟨hx257_0,hx258_0⟩ (fun hHeld=>?_);refine with_tabW slices_Reverse_byte_byte.tab3 slices_Reverse_byte_byte.bits3 (fun HT_ HW_=>?_)
        generalize wr.drew=w10 at HO_0 HK HB GG8 HQ11 HQ12 hf8_0 hf9_0 hx257_0 hx258_0 hx8_0 hx9_0 hHeld ⊢
        refine pure_ (i:=0) (N:=some 14) (v:=?_) (a':=?_) #[true,false,false,false,false,false,false,false,false,false,false,false,false,false,false,false] rfl rfl (any_of HT_.out (by kernel_rfl)) (fun _ _ _ h=>h) (Or.inl ⟨by rfl,?_⟩) ?_ ?_
        rotate_left
        ·intro w'
         go_simp
         with_reducible rfl
        rotate_left
        ·simp only [Act.put,List.setIfInBounds_toArray,List.set_cons_zero,List.set_cons_succ,i64_w,i32_w]
         rfl
        refine pure_ (i:=1) (N:=some 15) (v:=?_) (a':=?_) #[true,true,false,false,false,false,false,false,false,false,false,false,false,false,false,false] rfl rfl (any_of HT_.out (by kernel_rfl)) (fun _ _ _ h=>h) (Or.inl ⟨by rfl,?_⟩) ?_ ?_
        rotate_left
        ·intro w'
         go_simp
         with_reducible rfl
        rotate_left
        ·simp only [Act.put,List.setIfInBounds_toArray,List.set_cons_zero,List.set_cons_succ,i64_w,i32_w]
         rfl
        refine pure_ (i:=2) (N:=some 16) (v:=?_) (a':=?_) #[true,true,true,false,false,false,false,false,false,false,false,false,false,false,false,false] rfl rfl (any_of HT_.out (by kernel_rfl)) (fun _ _ _ h=>h) (Or.inl ⟨by rfl,?_⟩) ?_ ?_
        rotate_left
        ·intro w'
         go_simp
         with_reducible rfl
        rotate_left
        ·simp only [Act.put,List.setIfInBounds_toArray,List.set_cons_zero,List.set_cons_succ,i64_w,i32_w]
         rfl
        refine pure_ (i:=3) (N:=some 17) (v:=?_) (a':=?_) #[true,true,true,true,false,false,false,false,false,false,false,false,false,false,false,false] rfl rfl (any_of HT_.out (by kernel_rfl)) (fun _ _ _ h=>h) (Or.inl ⟨by rfl,?_⟩) ?_ ?_
        rotate_left
        ·intro w'
         go_simp
         with_reducible rfl
        rotate_left
        ·simp only [Act.put,List.setIfInBounds_toArray,List.set_cons_zero,List.set_cons_succ,i64_w,i32_w]
         rfl
        refine pure_ (i:=4) (N:=some 18) (v:=?_) (a':=?_) #[true,true,true,true,true,false,false,false,false,false,false,false,false,false,false,false] rfl rfl (any_of HT_.out (by kernel_rfl)) (fun _ _ _ h=>h) (Or.inl ⟨by rfl,?_⟩) ?_ ?_
        rotate_left
        ·intro w'
         go_simp
         with_reducible rfl
        rotate_left
        ·simp only [Act.put,List.setIfInBounds_toArray,List.set_cons_zero,List.set_cons_succ,i64_w,i32_w]
         rfl
        refine pure_ (i:=5) (N:=some 19) (v:=?_) (a':=?_) #[true,true,true,true,true,true,false,false,false,false,false,false,false,false,false,false] rfl rfl (any_of HT_.out (by kernel_rfl)) (fun _ _ _ h=>h) (Or.inl ⟨by rfl,?_⟩) ?_ ?_
        rotate_left
        ·intro w'
         go_simp
         with_reducible rfl
        rotate_left
        ·simp only [Act.put,List.setIfInBounds_toArray,List.set_cons_zero,List.set_cons_succ,i64_w,i32_w]
         rfl
        refine pure_ (i:=6) (N:=some 20) (v:=?_) (a':=?_) #[true,true,true,true,true,true,true,false,false,false,false,false,false,false,false,false] rfl rfl (any_of HT_.out (by kernel_rfl)) (fun _ _ _ h=>h) (Or.inl ⟨by rfl,?_⟩) ?_ ?_
        rotate_left
        ·intro w'
         go_simp
         with_reducible rfl
        rotate_left
        ·simp only [Act.put,List.setIfInBounds_toArray,List.set_cons_zero,List.set_cons_succ,i64_w,i32_w]
         rfl
        refine pure_ (i:=8) (N:=some 22) (v:=?_) (a':=?_) #[true,true,true,true,true,true,true,false,true,false,false,false,false,false,false,false] rfl rfl (any_of HT_.out (by kernel_rfl)) (fun _ _ _ h=>h) (Or.inl ⟨by rfl,?_⟩) ?_ ?_
        rotate_left
        ·intro w'
         go_simp
         with_reducible rfl
        rotate_left
        ·simp only [Act.put,List.setIfInBounds_toArray,List.set_cons_zero,List.set_cons_succ,i64_w,i32_w]
         rfl
        refine pure_ (i:=9) (N:=some 23) (v:=?_) (a':=?_) #[true,true,true,true,true,true,true,false,true,true,false,false,false,false,false,false] rfl rfl (any_of HT_.out (by kernel_rfl)) (fun _ _ _ h=>h) (Or.inl ⟨by rfl,?_⟩) ?_ ?_
        rotate_left
        ·intro w'
         go_simp
         with_reducible rfl
        rotate_left
        ·simp only [Act.put,List.setIfInBounds_toArray,List.set_cons_zero,List.set_cons_succ,i64_w,i32_w]
         rfl
        refine pure_ (i:=10) (N:=some 24) (v:=?_) (a':=?_) #[true,true,true,true,true,true,true,false,true,true,true,false,false,false,false,false] rfl rfl (any_of HT_.out (by kernel_rfl)) (fun _ _ _ h=>h) (Or.inl ⟨by rfl,?_⟩) ?_ ?_
        rotate_left
        ·intro w'
         go_simp
         with_reducible rfl
        rotate_left
        ·simp only [Act.put,List.setIfInBounds_toArray,List.set_cons_zero,List.set_cons_succ,i64_w,i32_w]
         rfl
        refine take_ (i:=7) (N:=some 21) (v:=?_) (a':=?_) #[true,true,true,true,true,true,true,true,true,true,true,false,false,false,false,false] rfl rfl (take_ofW HT_.out HW_.out (by kernel_rfl)) (fun _ _ _ h=>h) (Or.inl ⟨by rfl,?_⟩) hHeld ?_ ?_
        rotate_left
        ·rintro w' ⟨s0,s1⟩
         go_simp
         with_reducible rfl
        rotate_left
        ·simp only [Act.put,List.setIfInBounds_toArray,List.set_cons_zero,List.set_cons_succ,i64_w,i32_w]
         rfl
        refine take_ (i:=11) (N:=some 25) (v:=?_) (a':=?_) #[true,true,true,true,true,true,true,true,true,true,true,true,false,false,false,false] rfl rfl (take_ofW HT_.out HW_.out (by kernel_rfl)) (fun _ _ _ h=>h) (Or.inl ⟨by rfl,?_⟩) hHeld ?_ ?_
        rotate_left
        ·rintro w' ⟨s0,s1⟩
         go_simp
         with_reducible rfl
        rotate_left
        ·simp only [Act.put,List.setIfInBounds_toArray,List.set_cons_zero,List.set_cons_succ,i64_w,i32_w]
         rfl
        refine pure_ (i:=12) (N:=some 26) (v:=?_) (a':=?_) #[true,true,true,true,true,true,true,true,true,true,true,true,true,false,false,false] rfl rfl (any_of HT_.out (by kernel_rfl)) (fun _ _ _ h=>h) (Or.inl ⟨by rfl,?_⟩) ?_ ?_
        rotate_left
        ·intro w'
         go_simp
         with_reducible rfl
        rotate_left
        ·simp only [Act.put,List.setIfInBounds_toArray,List.set_cons_zero,List.set_cons_succ,i64_w,i32_w]
         rfl
        refine last_ (i:=13) (N:=none) #[true,true,true,true,true,true,true,true,true,true,true,true,true,true,false,false] rfl rfl (one_of HT_.out (by kernel_rfl)) (by decide) (fun K hK=>?_)
        refine skip_ (w1:=?_) (by rfl) rfl ?_ ?_
        rotate_left
        ·go_simp
         rfl
        refine hK.out _ _ ?_
        clear hK K
        refine pure_ (i:=14) (N:=some 27) (v:=?_) (a':=?_) #[true,true,true,true,true,true,true,true,true,true,true,true,true,true,true,false] rfl rfl (any_of HT_.out (by kernel_rfl)) (fun _ _ _ h=>h) (Or.inl ⟨by rfl,?_⟩) ?_ ?_
        rotate_left
        ·intro w'
         go_simp
         with_reducible rfl
        rotate_left
        ·simp only [Act.put,List.setIfInBounds_toArray,List.set_cons_zero,List.set_cons_succ,i64_w,i32_w]
         rfl
        refine last_ (i:=15) (N:=none) #[true,true,true,true,true,true,true,true,true,true,true,true,true,true,true,true] rfl rfl (one_of HT_.out (by kernel_rfl)) (by decide) (fun K hK=>?_)
        refine skip_ (w1:=?_) (by rfl) rfl ?_ ?_
        rotate_left
        ·go_simp
         rfl
        refine hK.out _ _ ?_
        clear hK K
        refine done_ (done_of HT_.out (by kernel_rfl)) ?_
        try go_wp2
        (try simp only [← hl0_1])
        go_roundg k1
        case measure=>have:=HK1.out;omega
        case rel=>exact ⟨(y260),(wrap64 (x2_1+1)),(wrap64 (x3_1-1)),(by first|rfl|(simp;done)|(simp [*];done)),(by first|rfl|(simp;done)|(simp [*];done)),H',⟨by have:=HK1.out;omega⟩,⟨by (try simp only [hl0_1]);(with_reducible repeat (first|apply Kd.R_alloc|apply Kd.R_drewN|apply Kd.R_drew));exact HQ12.out⟩,⟨by repeat (first|(with_reducible first|exact HK.out|apply Kept.alloc|apply Kept.drewN|apply Kept.drew|refine Kept.setCell ?_ HMgo8.out _|refine Kept.setCell ?_ HMgo8.out _)|exact HK.out)⟩,⟨by repeat (first|(with_reducible first|exact HB.out|apply below_alloc|apply pw_below_drewN|apply below_drew1|refine below_set ?_ GB8.out|refine below_set ?_ GB8.out)|exact HB.out)⟩⟩
       ·rw [if_neg c7] at H
        exact absurd H (by simp)
      ·rw [if_neg c6] at H
       exact absurd H (by simp)
     ·rw [if_neg c5] at H
      exact absurd H (by simp)
    ·rw [if_neg c4] at H
     exact absurd H (by simp)
   ·rw [if_neg c3] at H
    have c3b0:decide (x2_1<x3_1)=false:=decide_eq_false c3
    clear c3
    obtain rfl:=Option.some.inj H
    go_wp2
    first|go_end0|((try simp only [Exit.inBlock,Exit.then]);refine bodyPost_ret (results_none rfl _ _ _) rfl ?_)
    exact ⟨by first|rfl|(simp [errW_none,errW_some] <;> rfl)|(simp [*,errW_none,errW_some] <;> rfl),(by first|exact (by (with_reducible repeat (first|apply Kd.R_alloc|apply Kd.R_drewN|apply Kd.R_drew));exact HO_0.out)|(simp only [hl0_1];exact (by (with_reducible repeat (first|apply Kd.R_alloc|apply Kd.R_drewN|apply Kd.R_drew));exact HO_0.out))),by repeat (first|(with_reducible first|exact HB.out|apply below_alloc|apply pw_below_drewN|apply below_drew1)|exact HB.out),by repeat (first|(with_reducible first|exact HK.out|apply Kept.alloc|apply Kept.drewN|apply Kept.drew)|exact HK.out)⟩
end Go.Proofs.YtjaflmhdclmolaaDoor.F
end
section
namespace Go.Proofs.YtjaflmhdclmolaaDoor.F
open Go.RowKit Go.Proofs.YtjaflmhdclmolaaDoorW.PrintWords Go.Proofs.YtjaflmhdclmolaaDoorW.PrintLast Go.Proofs.YtjaflmhdclmolaaDoorW.PrintMore
attribute [local go_sem] max2_int min2_int max_two min_two max_three min_three max_four min_four   
set_option linter.unusedVariables false
set_option linter.unusedSimpArgs false
mutual
def natural_Format.l0:Nat→List Int→List Int→Option (ByteArray)
 | 0,_,_=>none
 | k+1,x3,x4=>if (x3.length:Int)>0 then ((natural_divideSmall.f k x3 1000000000).bind fun bt266=>(natural_Format.l1 k bt266.1 x4 bt266.2 0)) else ((slices_Reverse_byte_byte.f k x4).bind fun t264=>((strings_TrimLeft.f (strOfNums t264) (⟨#[48]⟩:ByteArray)).bind fun t265=>(some t265)))
def natural_Format.l1:Nat→List Int→List Int→Int→Int→Option (ByteArray)
 | 0,_,_,_,_=>none
 | k+1,x3,x4,x5,x19=>if x19<9 then (if x4.length<140737488355328 then (natural_Format.l1 k x3 (x4 ++ [((48+(Int.tmod x5 10))%4294967296)%256]) ((Int.tdiv x5 10)%4294967296) (wrap64 (x19+1))) else (none)) else (natural_Format.l0 k x3 x4)
end
def natural_Format.f (k:Nat) (a0:ByteArray):Option (ByteArray):=(natural_parse.f k a0).bind fun t261=>(if (t261.length:Int)=0 then (some (⟨#[48]⟩:ByteArray)) else (natural_Format.l0 k t261 ([]:List Int)))
theorem natural_Format.mono_l:∀ k,(∀ y0 y1,LeO (natural_Format.l0 k y0 y1) (natural_Format.l0 (k+1) y0 y1))∧(∀ y0 y1 y2 y3,LeO (natural_Format.l1 k y0 y1 y2 y3) (natural_Format.l1 (k+1) y0 y1 y2 y3))
 | 0=>⟨fun _ _ r h=>by simp [natural_Format.l0] at h,fun _ _ _ _ r h=>by simp [natural_Format.l1] at h⟩
 | k+1=>by
  obtain ⟨ih0,ih1⟩:=natural_Format.mono_l k
  refine ⟨?_,?_⟩
  ·intro y0 y1
   unfold natural_Format.l0
   repeat' first
   | (with_reducible exact ih0 _ _)
   | (with_reducible exact ih1 _ _ _ _)
   | (with_reducible exact natural_divideSmall.mono _ _ _)
   | (with_reducible exact natural_parse.mono _ _)
   | (with_reducible exact slices_Reverse_byte_byte.mono _ _)
   | (with_reducible exact LeO.refl _)
   | (with_reducible exact LeO.none _)
   | (with_reducible refine LeO.ite ?_ ?_)
   | (with_reducible refine LeO.bind ?_ (fun _=>?_))
   | exact ih0 _ _
   | exact ih1 _ _ _ _
   | exact natural_divideSmall.mono _ _ _
   | exact natural_parse.mono _ _
   | exact slices_Reverse_byte_byte.mono _ _
   | exact LeO.none _
   | refine LeO.ite ?_ ?_
   | refine LeO.bind ?_ (fun _=>?_)
  ·intro y0 y1 y2 y3
   unfold natural_Format.l1
   repeat' first
   | (with_reducible exact ih0 _ _)
   | (with_reducible exact ih1 _ _ _ _)
   | (with_reducible exact natural_divideSmall.mono _ _ _)
   | (with_reducible exact natural_parse.mono _ _)
   | (with_reducible exact slices_Reverse_byte_byte.mono _ _)
   | (with_reducible exact LeO.refl _)
   | (with_reducible exact LeO.none _)
   | (with_reducible refine LeO.ite ?_ ?_)
   | (with_reducible refine LeO.bind ?_ (fun _=>?_))
   | exact ih0 _ _
   | exact ih1 _ _ _ _
   | exact natural_divideSmall.mono _ _ _
   | exact natural_parse.mono _ _
   | exact slices_Reverse_byte_byte.mono _ _
   | exact LeO.none _
   | refine LeO.ite ?_ ?_
   | refine LeO.bind ?_ (fun _=>?_)
theorem natural_Format.mono:∀ a0 k,LeO (natural_Format.f k a0) (natural_Format.f (k+1) a0):=by
 intro a0 k
 obtain ⟨ih0,ih1⟩:=natural_Format.mono_l k
 unfold natural_Format.f
 repeat' first
  | (with_reducible exact ih0 _ _)
  | (with_reducible exact ih1 _ _ _ _)
  | (with_reducible exact natural_divideSmall.mono _ _ _)
  | (with_reducible exact natural_parse.mono _ _)
  | (with_reducible exact slices_Reverse_byte_byte.mono _ _)
  | (with_reducible exact LeO.refl _)
  | (with_reducible exact LeO.none _)
  | (with_reducible refine LeO.ite ?_ ?_)
  | (with_reducible refine LeO.bind ?_ (fun _=>?_))
  | exact ih0 _ _
  | exact ih1 _ _ _ _
  | exact natural_divideSmall.mono _ _ _
  | exact natural_parse.mono _ _
  | exact slices_Reverse_byte_byte.mono _ _
  | exact LeO.none _
  | refine LeO.ite ?_ ?_
  | refine LeO.bind ?_ (fun _=>?_)
set_option maxHeartbeats 8000000 in
set_option maxRecDepth 100000 in
theorem natural_Format.calls (k:Nat) (a0:ByteArray) (r:ByteArray) (w:World) (h:natural_Format.f k a0=some r) :
 Calls Tryd.prog 28 #[.string a0] w fun e w'=>e = .returned (.string r)∧Below w.heap.size w w':=by
 have HB:=Aside0.mk (Below.refl w.heap.size w)
 have H:((natural_parse.f k a0).bind fun t261=>(if (t261.length:Int)=0 then (some (⟨#[48]⟩:ByteArray)) else (natural_Format.l0 k t261 ([]:List Int))))=some r:=h
 clear h
 replace H:=Option.bind_eq_some_iff.mp H
 obtain ⟨t261,A20,H⟩:=H
 replace H:(if (t261.length:Int)=0 then (some (⟨#[48]⟩:ByteArray)) else (natural_Format.l0 k t261 ([]:List Int)))=some r:=H
 have A2:=Aside0.mk A20
 clear A20
 by_cases c3:(t261.length:Int)=0
 ·rw [if_pos c3] at H
  have c3b0:((t261.length:Int) == 0)=true:=beq_iff_eq.mpr c3
  have c3b1:((t261.length:Int) != 0)=false:=bne_eq_false_iff_eq.mpr c3
  clear c3
  obtain rfl:=Option.some.inj H
  go_enter Tryd.func28,Tryd.ntmps28
  go_wp2_with (first|((with_reducible refine gate_callee (f:=42) rfl ?_);refine goesL_ (some 7) rfl rfl Tryd.func42 (by kernel_rfl) rfl #[.string a0] rfl (by (try simp only [List.map_toArray,List.map_cons,List.map_nil]);first|done|rfl|(simp only [List.length_drop,List.length_take];rfl)) ?_;(with_reducible refine (natural_parse.calls k a0 t261 _ A2.out).mono ?_);rintro e w4 ⟨v262,rfl,ho0,hb⟩;refine ⟨_,rfl,?_⟩;have n0_:=Aside0.mk (Kd.R_lower ho0 (below_size (by repeat (first|(with_reducible first|exact HB.out|apply below_alloc|apply pw_below_drewN|apply below_drew1)|exact HB.out))));have n1_:=Aside0.mk (below_step (by repeat (first|(with_reducible first|exact HB.out|apply below_alloc|apply pw_below_drewN|apply below_drew1)|exact HB.out)) hb);clear HB;have HO263:=n0_;have HB:=n1_;clear n0_ n1_;(try clear hb);(try clear hb2);(try clear hk);(try clear hi);(try clear ho0);obtain ⟨Ao5,co5,eo5⟩:=Kd.R_slice HO263.out;subst eo5))
  go_ret
  exact ⟨by first|rfl|(simp [errW_none,errW_some] <;> rfl)|(simp [*,errW_none,errW_some] <;> rfl),by repeat (first|(with_reducible first|exact HB.out|apply below_alloc|apply pw_below_drewN|apply below_drew1)|exact HB.out)⟩
 ·rw [if_neg c3] at H
  have c3b0:((t261.length:Int) == 0)=false:=beq_eq_false_iff_ne.mpr c3
  have c3b1:((t261.length:Int) != 0)=true:=bne_iff_ne.mpr c3
  have c3b2:¬ (t261=[]):=fun h_=>c3 (by rw [h_];rfl)
  have H':=Aside0.mk H
  clear H
  go_enter Tryd.func28,Tryd.ntmps28
  go_wp2_with (first|((with_reducible refine gate_callee (f:=42) rfl ?_);refine goesL_ (some 7) rfl rfl Tryd.func42 (by kernel_rfl) rfl #[.string a0] rfl (by (try simp only [List.map_toArray,List.map_cons,List.map_nil]);first|done|rfl|(simp only [List.length_drop,List.length_take];rfl)) ?_;(with_reducible refine (natural_parse.calls k a0 t261 _ A2.out).mono ?_);rintro e w6 ⟨v262,rfl,ho0,hb⟩;refine ⟨_,rfl,?_⟩;have n0_:=Aside0.mk (Kd.R_lower ho0 (below_size (by repeat (first|(with_reducible first|exact HB.out|apply below_alloc|apply pw_below_drewN|apply below_drew1)|exact HB.out))));have n1_:=Aside0.mk (below_step (by repeat (first|(with_reducible first|exact HB.out|apply below_alloc|apply pw_below_drewN|apply below_drew1)|exact HB.out)) hb);clear HB;have HO263:=n0_;have HB:=n1_;clear n0_ n1_;(try clear hb);(try clear hb2);(try clear hk);(try clear hi);(try clear ho0);obtain ⟨Ao7,co7,eo7⟩:=Kd.R_slice HO263.out;subst eo7))
  go_loopg [3,4] k (fun kq v3 v4 w'=>∃ (x3_1:List Int) (x4_1:List Int),Aside0 (natural_Format.l0 kq x3_1 x4_1=some r)∧Aside0 (kq≤k)∧Aside0 (Kd.R (Kd.int .u32) 60 w' w.heap.size (fun _=>True) v3 x3_1)∧Aside0 (Kd.R (Kd.int .u8) 5 w' w.heap.size (fun _=>True) v4 x4_1)∧Aside0 (Below w.heap.size w w'))
  case atStart=>exact ⟨(t261),(([]:List Int)),H',⟨Nat.le_refl _⟩,⟨by (with_reducible repeat (first|apply Kd.R_alloc|apply Kd.R_drewN|apply Kd.R_drew));exact HO263.out⟩,⟨by first|exact Kd.R_nil _ _ _ _ _|exact Kd.N_nil _ _ _ _ _|exact Kd.V_nil _ _ _ _ _|exact Kd.Q_nil _ _ _ _ _|exact Kd.S_nil _ _ _ _ _⟩,⟨by repeat (first|(with_reducible first|exact HB.out|apply below_alloc|apply pw_below_drewN|apply below_drew1)|exact HB.out)⟩⟩
  case round=>
   clear H'
   try clear c2
   try clear p2
   try clear c3
   try clear c3b0
   try clear c3b1
   try clear c3b2
   try clear c4
   obtain ⟨x3_1,x4_1,HA,HK1,HO_3,HO_4,HB⟩:=hrel
   cases gk with
   | zero=>exact absurd HA.out (by simp [natural_Format.l0])
   | succ k1=>
    have H:=HA.out
    clear HA
    simp only [natural_Format.l0] at H
    by_cases c8:(x3_1.length:Int)>0
    ·rw [if_pos c8] at H
     have c8b0:decide (0<(x3_1.length:Int))=true:=decide_eq_true c8
     have c8b1:decide (0<x3_1.length)=true:=decide_eq_true (by omega)
     clear c8
     replace H:=Option.bind_eq_some_iff.mp H
     obtain ⟨⟨t266,t267⟩,A90,H⟩:=H
     replace H:(natural_Format.l1 k1 t266 x4_1 t267 0)=some r:=H
     have A9:=Aside0.mk A90
     clear A90
     have H':=Aside0.mk H
     clear H
     obtain ⟨Ao10,co10,eo10⟩:=Kd.R_slice HO_3.out
     subst eo10
     go_wp2_with (first|((with_reducible refine gate_callee (f:=56) rfl ?_);refine goesL_ (some 16) rfl rfl Tryd.func56 (by kernel_rfl) rfl #[.slice Ao10 x3_1.length co10,.int .u32 1000000000] rfl (by (try simp only [List.map_toArray,List.map_cons,List.map_nil]);first|done|rfl|(simp only [List.length_drop,List.length_take];rfl)) ?_;(with_reducible refine (natural_divideSmall.calls k1 _ _ x3_1 1000000000 t266 t267 _ ?side1 ?side2 A9.out).mono ?_);(case side1=>repeat (first|exact (Kd.R_reads' HO_3.out).2.2|(with_reducible refine Kd.C_alloc ?_ _)|(with_reducible refine Kd.C_drewN ?_ _)|(with_reducible refine Kd.C_drew ?_)));(case side2=>exact (Kd.R_reads' HO_3.out).2.1);rintro e w11 ⟨v268,rfl,ho0,hb⟩;refine ⟨_,rfl,?_⟩;have n0_:=Aside0.mk (Kd.R_elder' (by (with_reducible repeat (first|apply Kd.R_alloc|apply Kd.R_drewN|apply Kd.R_drew));exact HO_3.out) (Kd.R_base ho0) hb);have n1_:=Aside0.mk (Kd.R_below (by (with_reducible repeat (first|apply Kd.R_alloc|apply Kd.R_drewN|apply Kd.R_drew));exact HO_4.out) hb);have n2_:=Aside0.mk (Kd.R_lower (Kd.R_new' ho0 (Kd.R_lt (by (with_reducible repeat (first|apply Kd.R_alloc|apply Kd.R_drewN|apply Kd.R_drew));exact HO_3.out))) (below_size (by repeat (first|(with_reducible first|exact HB.out|apply below_alloc|apply pw_below_drewN|apply below_drew1)|exact HB.out))));have n3_:=Aside0.mk (below_step (by repeat (first|(with_reducible first|exact HB.out|apply below_alloc|apply pw_below_drewN|apply below_drew1)|exact HB.out)) hb);clear HO_3;clear HO_4;clear HB;have HO_3:=n0_;have HO_4:=n1_;have HO269:=n2_;have HB:=n3_;clear n0_ n1_ n2_ n3_;(try clear hb);(try clear hb2);(try clear hk);(try clear hi);(try clear ho0)))
     go_loopg [4,5,19] k1 (fun kq v4 v5 v19 w'=>∃ (x4_2:List Int) (x5_2:Int) (x19_2:Int),v5 = .int .u32 x5_2∧v19 = .int .i64 x19_2∧Aside0 (natural_Format.l1 kq t266 x4_2 x5_2 x19_2=some r)∧Aside0 (kq≤k1)∧Aside0 (Kd.R (Kd.int .u32) 60 w' w.heap.size (fun _=>True) v268 t266)∧Aside0 (Kd.R (Kd.int .u8) 5 w' w.heap.size (fun _=>True) v4 x4_2)∧Aside0 (Below w.heap.size w w'))
     case atStart=>exact ⟨(x4_1),(t267),(0),(by first|rfl|(simp;done)|(simp [*];done)),(by first|rfl|(simp;done)|(simp [*];done)),H',⟨Nat.le_refl _⟩,⟨by (with_reducible repeat (first|apply Kd.R_alloc|apply Kd.R_drewN|apply Kd.R_drew));exact Kd.R_mono HO269.out (fun _ hk=>trivial)⟩,⟨by (with_reducible repeat (first|apply Kd.R_alloc|apply Kd.R_drewN|apply Kd.R_drew));exact HO_4.out⟩,⟨by repeat (first|(with_reducible first|exact HB.out|apply below_alloc|apply pw_below_drewN|apply below_drew1)|exact HB.out)⟩⟩
     case round=>
      clear H'
      try clear c2
      try clear p2
      try clear c3
      try clear c3b0
      try clear c3b1
      try clear c3b2
      try clear c4
      try clear c5
      try clear c8
      try clear c8b0
      try clear c8b1
      try clear p2
      obtain ⟨x4_2,x5_2,x19_2,rfl,rfl,HA,HK2,HO_3,HO_4,HB⟩:=hrel
      cases gk with
      | zero=>exact absurd HA.out (by simp [natural_Format.l1])
      | succ k2=>
       have H:=HA.out
       clear HA
       simp only [natural_Format.l1] at H
       by_cases c12:x19_2<9
       ·rw [if_pos c12] at H
        have c12b0:decide (x19_2<9)=true:=decide_eq_true c12
        clear c12
        by_cases c13:x4_2.length<140737488355328
        ·rw [if_pos c13] at H
         have LMc13:=Aside0.mk c13
         clear c13
         obtain ⟨y270,hy270⟩:∃ y_:List Int,y_=(x4_2 ++ [((48+(Int.tmod x5_2 10))%4294967296)%256]):=⟨_,rfl⟩
         replace H:(natural_Format.l1 k2 t266 y270 ((Int.tdiv x5_2 10)%4294967296) (wrap64 (x19_2+1)))=some r:=by first|(rw [hy270];with_reducible exact H)|(have H2_:=(Option.bind_some _ _).symm.trans H;rw [hy270];with_reducible exact H2_)|(have H2_:=(Option.bind_some _ _).symm.trans H;with_reducible exact H2_)|with_reducible exact H|(rw [hy270];exact H)|exact H
         have Ny270:=Aside0.mk hy270
         clear hy270
         have H':=Aside0.mk H
         clear H
         go_wp2_with (first|((with_reducible refine gate_builtin (b:=.append) (xs:=#[.tmp 21,.tmp 26]) rfl ?_);at_builtin;refine Kd.R_append (Kd.int .u8) (w0:=w) w.heap.size rfl (.tmp 21) (.tmp 26) 37 5 (.int .u8 0) 1 rfl Tryd.underlying37 info5 rfl (by decide) (by omega) u4 x4_2 ((48+(Int.tmod x5_2 10))%256) [.int .u8 ((48+(Int.tmod x5_2 10))%256)] (fun _=>True) (fun _=>False) rfl rfl ?aP (fun _ hk=>hk.elim) ?aF ?aO ?aB ?aS ?aL ?_;(case aP=>exact rfl);(case aB=>exact (by repeat (first|(with_reducible first|exact HB.out|apply below_alloc|apply pw_below_drewN|apply below_drew1)|exact HB.out)));(case aF=>exact (fun _ _=>trivial));(case aO=>exact (by (with_reducible repeat (first|apply Kd.R_alloc|apply Kd.R_drewN|apply Kd.R_drew));exact HO_4.out));(case aS=>exact (below_size (by repeat (first|(with_reducible first|exact HB.out|apply below_alloc|apply pw_below_drewN|apply below_drew1)|exact HB.out))));(case aL=>have:=LMc13.out;omega);intro v271 w14 ho hb hg hat;have hN_:=Ny270.out;rw [Int.emod_emod_of_dvd _ (by decide)] at hN_;rw [← hN_] at ho;clear hN_;have n0_:=Aside0.mk (Kd.R_over' (by (with_reducible repeat (first|apply Kd.R_alloc|apply Kd.R_drewN|apply Kd.R_drew));exact HO_3.out) (Kd.R_typed (by (with_reducible repeat (first|apply Kd.R_alloc|apply Kd.R_drewN|apply Kd.R_drew));exact HO_4.out)) (by decide) hg);have n1_:=Aside0.mk (hb);have n2_:=Aside0.mk (ho);clear HO_3;clear HB;clear HO_4;have HO_3:=n0_;have HB:=n1_;have HO272:=n2_;clear n0_ n1_ n2_;clear ho hb hg hat))
         go_roundg k2
         case measure=>have:=HK1.out;have:=HK2.out;omega
         case rel=>exact ⟨(y270),((Int.tdiv x5_2 10)%4294967296),(wrap64 (x19_2+1)),(by first|rfl|(simp;done)|(simp [*];done)),(by first|rfl|(simp;done)|(simp [*];done)),H',⟨by have:=HK1.out;have:=HK2.out;omega⟩,⟨by (with_reducible repeat (first|apply Kd.R_alloc|apply Kd.R_drewN|apply Kd.R_drew));exact HO_3.out⟩,⟨by (with_reducible repeat (first|apply Kd.R_alloc|apply Kd.R_drewN|apply Kd.R_drew));exact HO272.out⟩,⟨by repeat (first|(with_reducible first|exact HB.out|apply below_alloc|apply pw_below_drewN|apply below_drew1)|exact HB.out)⟩⟩
        ·rw [if_neg c13] at H
         exact absurd H (by simp)
       ·rw [if_neg c12] at H
        have c12b0:decide (x19_2<9)=false:=decide_eq_false c12
        clear c12
        have H':=Aside0.mk H
        clear H
        go_wp2
        go_roundg k2
        case measure=>have:=HK1.out;have:=HK2.out;omega
        case rel=>exact ⟨(t266),(x4_2),H',⟨by have:=HK1.out;have:=HK2.out;omega⟩,⟨by (with_reducible repeat (first|apply Kd.R_alloc|apply Kd.R_drewN|apply Kd.R_drew));exact HO_3.out⟩,⟨by (with_reducible repeat (first|apply Kd.R_alloc|apply Kd.R_drewN|apply Kd.R_drew));exact HO_4.out⟩,⟨by repeat (first|(with_reducible first|exact HB.out|apply below_alloc|apply pw_below_drewN|apply below_drew1)|exact HB.out)⟩⟩
    ·rw [if_neg c8] at H
     have c8b0:decide (0<(x3_1.length:Int))=false:=decide_eq_false c8
     have c8b1:decide (0<x3_1.length)=false:=decide_eq_false (by omega)
     clear c8
     replace H:=Option.bind_eq_some_iff.mp H
     obtain ⟨t264,A150,H⟩:=H
     replace H:((strings_TrimLeft.f (strOfNums t264) (⟨#[48]⟩:ByteArray)).bind fun t265=>(some t265))=some r:=H
     have A15:=Aside0.mk A150
     clear A150
     replace H:=Option.bind_eq_some_iff.mp H
     obtain ⟨t265,A160,H⟩:=H
     replace H:(some t265)=some r:=H
     have A16:=Aside0.mk A160
     clear A160
     obtain rfl:=Option.some.inj H
     obtain ⟨Ao17,co17,eo17⟩:=Kd.R_slice HO_3.out
     subst eo17
     obtain ⟨Ao18,co18,eo18⟩:=Kd.R_slice HO_4.out
     subst eo18
     go_wp2_with (first|((with_reducible refine gate_callee (f:=57) rfl ?_);refine goesL_ (some 32) rfl rfl Tryd.func57 (by kernel_rfl) rfl #[.slice Ao18 x4_1.length co18] rfl (by (try simp only [List.map_toArray,List.map_cons,List.map_nil]);first|done|rfl|(simp only [List.length_drop,List.length_take];rfl)) ?_;(with_reducible refine (slices_Reverse_byte_byte.calls k1 (fun k_=>some k_=(.slice Ao18 x4_1.length co18:Value).ownBlock) (.slice Ao18 x4_1.length co18) x4_1 t264 w _ ?side1 ?side2 A15.out).mono ?_);(case side1=>repeat (first|(with_reducible first|exact HB.out|apply below_alloc|apply pw_below_drewN|apply below_drew1)|exact HB.out));(case side2=>exact Kd.R_tight rfl HO_4.out);rintro e w19 ⟨rfl,hy0,hb,hkp⟩;refine ⟨_,rfl,?_⟩;have n0_:=Aside0.mk (Kd.R_mono (ok':=fun k_=>True) (Kd.R_keptB ((Kd.R_apart' HO_3.out (Kd.R_typed HO_4.out) (by decide))) hkp (fun k_ hk_ hs_=>(hk_.2) hs_)) (fun k_ hk_=>trivial));have n1_:=Aside0.mk (Kd.R_reok rfl hy0 (fun k_ e_=>HO_4.out.1 k_ e_));have n2_:=Aside0.mk (hb);clear HO_3;clear HO_4;clear HB;have HO_3:=n0_;have HO_4:=n1_;have HB:=n2_;clear n0_ n1_ n2_;(try clear hb);(try clear hkp);(try clear hy0);have hcv20:=own_string (P:=Tryd.prog) Tryd.underlying37 Tryd.underlying5 Tryd.underlying9 (Kd.own_of_R HO_4.out))|((with_reducible refine gate_callee (f:=41) rfl ?_);refine goesL_ (some 35) rfl rfl Tryd.func41 (by kernel_rfl) rfl #[.string (strOfNums t264),.string (⟨#[48]⟩:ByteArray)] rfl (by (try simp only [List.map_toArray,List.map_cons,List.map_nil]);first|done|rfl|(simp only [List.length_drop,List.length_take];rfl)) ?_;(with_reducible refine (strings_TrimLeft.calls (strOfNums t264) (⟨#[48]⟩:ByteArray) t265 _ A16.out).mono ?_);rintro e w' ⟨rfl,⟨nd,rfl⟩⟩;refine ⟨_,rfl,?_⟩))
     go_ret
     exact ⟨by first|rfl|(simp [errW_none,errW_some] <;> rfl)|(simp [*,errW_none,errW_some] <;> rfl),by repeat (first|(with_reducible first|exact HB.out|apply below_alloc|apply pw_below_drewN|apply below_drew1)|exact HB.out)⟩
end Go.Proofs.YtjaflmhdclmolaaDoor.F
end
section
namespace Go.Proofs.YtjaflmhdclmolaaDoor.F
open Go.RowKit Go.Proofs.YtjaflmhdclmolaaDoorW.PrintWords Go.Proofs.YtjaflmhdclmolaaDoorW.PrintLast Go.Proofs.YtjaflmhdclmolaaDoorW.PrintMore
attribute [local go_sem] max2_int min2_int max_two min_two max_three min_three max_four min_four   
set_option linter.unusedVariables false
set_option linter.unusedSimpArgs false
def natural_multiplyAdd.l0:Nat→List Int→Int→Int→Int→Int→Option (List Int)
 | 0,_,_,_,_,_=>none
 | k+1,x0,x1,x7,x13,x14=>if x14<x13 then (if 0≤x14 then (if x14<(x0.length:Int) then (natural_multiplyAdd.l0 k (x0.set (x14:Int).toNat ((IntKind.u64.wrap ((IntKind.u64.wrap ((IntKind.u64.wrap (rd x0 x14))*(IntKind.u64.wrap (x1))))+x7))%4294967296)) x1 ((IntKind.u64.wrap ((IntKind.u64.wrap ((IntKind.u64.wrap (rd x0 x14))*(IntKind.u64.wrap (x1))))+x7))/4294967296) x13 (wrap64 (x14+1))) else (none)) else (none)) else (if x7>0 then (if x0.length<35184372088832 then (some (x0 ++ [(x7)%4294967296])) else (none)) else (some x0))
def natural_multiplyAdd.f (k:Nat) (l0:List Int) (a1:Int) (a2:Int):Option (List Int):=natural_multiplyAdd.l0 k l0 a1 (IntKind.u64.wrap (a2)) (l0.length:Int) 0
theorem natural_multiplyAdd.mono_l:∀ k,(∀ y0 y1 y2 y3 y4,LeO (natural_multiplyAdd.l0 k y0 y1 y2 y3 y4) (natural_multiplyAdd.l0 (k+1) y0 y1 y2 y3 y4))
 | 0=>fun _ _ _ _ _ r h=>by simp [natural_multiplyAdd.l0] at h
 | k+1=>by
  have ih0:=natural_multiplyAdd.mono_l k
  ·intro y0 y1 y2 y3 y4
   unfold natural_multiplyAdd.l0
   repeat' first
   | (with_reducible exact ih0 _ _ _ _ _)
   | (with_reducible exact LeO.refl _)
   | (with_reducible exact LeO.none _)
   | (with_reducible refine LeO.ite ?_ ?_)
   | (with_reducible refine LeO.bind ?_ (fun _=>?_))
   | exact ih0 _ _ _ _ _
   | exact LeO.none _
   | refine LeO.ite ?_ ?_
   | refine LeO.bind ?_ (fun _=>?_)
theorem natural_multiplyAdd.mono:∀ a0 a1 a2 k,LeO (natural_multiplyAdd.f k a0 a1 a2) (natural_multiplyAdd.f (k+1) a0 a1 a2):=by
 intro a0 a1 a2 k
 have ih0:=natural_multiplyAdd.mono_l k
 unfold natural_multiplyAdd.f
 repeat' first
  | (with_reducible exact ih0 _ _ _ _ _)
  | (with_reducible exact LeO.refl _)
  | (with_reducible exact LeO.none _)
  | (with_reducible refine LeO.ite ?_ ?_)
  | (with_reducible refine LeO.bind ?_ (fun _=>?_))
  | exact ih0 _ _ _ _ _
  | exact LeO.none _
  | refine LeO.ite ?_ ?_
  | refine LeO.bind ?_ (fun _=>?_)
set_option maxHeartbeats 8000000 in
set_option maxRecDepth 100000 in
theorem natural_multiplyAdd.calls (k:Nat) (P0_:Nat→Prop) (u9000_:Value) (l0:List Int) (a1:Int) (a2:Int) (r:List Int) (w0 w:World) (hB:Below w0.heap.size w0 w) (ho0:Kd.R (Kd.int .u32) 60 w w0.heap.size P0_ u9000_ l0) (h:natural_multiplyAdd.f k l0 a1 a2=some r) :
 Calls Tryd.prog 52 #[u9000_,.int .u32 a1,.int .u32 a2] w fun e w'=>∃ v0_:Value,e = .returned (v0_)∧Kd.R (Kd.int .u32) 60 w' w0.heap.size (fun k_=>(P0_ k_∨w.heap.size≤k_)) v0_ r∧Below w0.heap.size w0 w'∧Kept w w' (fun k_=>P0_ k_):=by
 have HO0:=Aside0.mk (show Kd.R (Kd.int .u32) 60 w w0.heap.size (fun k_=>(P0_ k_∨w.heap.size≤k_)) u9000_ l0 from Kd.R_mono ho0 (fun k_ hk=>(.inl hk)))
 have HK:=Aside0.mk (Kept.refl w (fun k_=>P0_ k_))
 have HW0:=Aside0.mk hB.size
 have HB:=Aside0.mk hB
 clear hB
 have H:(natural_multiplyAdd.l0 k l0 a1 (IntKind.u64.wrap (a2)) (l0.length:Int) 0)=some r:=h
 clear h
 have H':=Aside0.mk H
 clear H
 obtain ⟨Ao4,co4,eo4⟩:=Kd.R_slice HO0.out
 subst eo4
 go_enter Tryd.func52,Tryd.ntmps52
 go_wp2
 go_loopg [7,14] k (fun kq v7 v14 w'=>∃ (x0_1:List Int) (x7_1:Int) (x14_1:Int),v7 = .int .u64 x7_1∧v14 = .int .i64 x14_1∧Aside0 (natural_multiplyAdd.l0 kq x0_1 a1 x7_1 (l0.length:Int) x14_1=some r)∧Aside0 (kq≤k)∧Aside0 (Kd.R (Kd.int .u32) 60 w' w0.heap.size (fun k_=>(P0_ k_∨w.heap.size≤k_)) (.slice Ao4 l0.length co4) x0_1)∧Aside0 (Kept w w' (fun k_=>P0_ k_))∧Aside0 (Below w0.heap.size w0 w'))
 case atStart=>exact ⟨(l0),(IntKind.u64.wrap (a2)),(0),(by first|rfl|(simp;done)|(simp [*];done)),(by first|rfl|(simp;done)|(simp [*];done)),H',⟨Nat.le_refl _⟩,⟨by (with_reducible repeat (first|apply Kd.R_alloc|apply Kd.R_drewN|apply Kd.R_drew));exact HO0.out⟩,⟨by repeat (first|(with_reducible first|exact HK.out|apply Kept.alloc|apply Kept.drewN|apply Kept.drew)|exact HK.out)⟩,⟨by repeat (first|(with_reducible first|exact HB.out|apply below_alloc|apply pw_below_drewN|apply below_drew1)|exact HB.out)⟩⟩
 case round=>
  clear H'
  try clear p2
  obtain ⟨x0_1,x7_1,x14_1,rfl,rfl,HA,HK1,HO_0,HK,HB⟩:=hrel
  have hl0_1:=(Kd.R_reads' HO_0.out).1
  rw [hl0_1] at HO_0
  (try simp only [hl0_1])
  cases gk with
  | zero=>exact absurd HA.out (by simp [natural_multiplyAdd.l0])
  | succ k1=>
   have H:=HA.out
   clear HA
   simp only [natural_multiplyAdd.l0] at H
   by_cases c5:x14_1<(l0.length:Int)
   ·rw [if_pos c5] at H
    have c5b0:decide (x14_1<(l0.length:Int))=true:=decide_eq_true c5
    (try (have cX_:=c5b0;rw [hl0_1] at cX_))
    clear c5
    by_cases c6:0≤x14_1
    ·rw [if_pos c6] at H
     have c6b0:decide (0≤x14_1)=true:=decide_eq_true c6
     clear c6
     by_cases c7:x14_1<(x0_1.length:Int)
     ·rw [if_pos c7] at H
      have c7b0:decide (x14_1<(x0_1.length:Int))=true:=decide_eq_true c7
      (try (have cX_:=c7b0;rw [hl0_1] at cX_))
      clear c7
      obtain ⟨y244,hy244⟩:∃ y_:List Int,y_=(x0_1.set (x14_1:Int).toNat ((IntKind.u64.wrap ((IntKind.u64.wrap ((IntKind.u64.wrap (rd x0_1 x14_1))*(IntKind.u64.wrap (a1))))+x7_1))%4294967296)):=⟨_,rfl⟩
      replace H:(natural_multiplyAdd.l0 k1 y244 a1 ((IntKind.u64.wrap ((IntKind.u64.wrap ((IntKind.u64.wrap (rd x0_1 x14_1))*(IntKind.u64.wrap (a1))))+x7_1))/4294967296) (l0.length:Int) (wrap64 (x14_1+1)))=some r:=by first|(rw [hy244];with_reducible exact H)|(have H2_:=(Option.bind_some _ _).symm.trans H;rw [hy244];with_reducible exact H2_)|(have H2_:=(Option.bind_some _ _).symm.trans H;with_reducible exact H2_)|with_reducible exact H|(rw [hy244];exact H)|exact H
      have Ny244:=Aside0.mk hy244
      clear hy244
      have H':=Aside0.mk H
      clear H
      have p243:0≤(x14_1:Int):=of_decide_eq_true (by first|(with_reducible assumption)|assumption)
      have q243:x14_1<(x0_1.length:Int):=of_decide_eq_true (by first|(with_reducible assumption)|assumption)
      obtain ⟨ad243,e243,hx243_0⟩:=Kd.at_int (Kd.R_reads' HO_0.out).2.2 x14_1 p243 q243
      cases e243
      replace p243:=eq_true p243
      replace q243:=eq_true q243
      have p8:0≤(x14_1:Int):=of_decide_eq_true (by first|(with_reducible assumption)|assumption)
      have q8:(x14_1:Int)<((x0_1.length:Int):Int):=of_decide_eq_true (by first|(with_reducible assumption)|assumption)
      obtain ⟨go8,co8,eo8,gb8,gl8,cl8,HG8⟩:=Kd.R_form HO_0.out (by omega)
      (first|cases eo8|(injection eo8 with ea_ en_ ec_;(first|subst ea_|(injection ea_ with ea_;subst ea_));subst ec_;clear en_))
      have GB8:=Aside0.mk gb8
      have GG8:=Aside0.mk HG8
      clear gb8 gl8 HG8
      have HMgo8:=Aside0.mk (show (P0_ go8∨w.heap.size≤go8) from (HO_0.out.1 _ rfl))
      (first|simp only [add_plain] at hx243_0|skip)
      obtain ⟨hx8_0,hf8_0⟩:=Kd.R_celln 0 HO_0.out (x14_1:Int) p8 q8
      replace p8:=eq_true p8
      replace q8:=eq_true q8
      have HP9:=Kd.R_putg HO_0.out (x14_1:Int) ((IntKind.u64.wrap ((IntKind.u64.wrap ((IntKind.u64.wrap (rd x0_1 x14_1))*(IntKind.u64.wrap (a1))))+x7_1))%4294967296)
      go_wp2_with (first|((with_reducible refine gate_store (t:=60) (p:=31) rfl ?_);refine store_event (t:=60) (p:=31) (v:=?vo_w10) (w1:=(wr.setCell ⟨go8,(x14_1:Int).toNat,none⟩ (.int .u32 ((IntKind.u64.wrap ((IntKind.u64.wrap ((IntKind.u64.wrap (rd x0_1 x14_1))*(IntKind.u64.wrap (a1))))+x7_1))%4294967296)))) ?hg ?ho ?hn ?hr ?_;(case ho=>rfl);(case hg=>rfl);(case hn=>rfl);(case hr=>first|(go_simp;done)|(go_simp;rfl));intro w10 hw;have hg:wr.grownBy w10 (some go8):=(by rw [hw];exact HP9.2);have hp_:Kd.R (Kd.int .u32) 60 w10 w0.heap.size (fun k_=>(P0_ k_∨w.heap.size≤k_)) (.slice (some ⟨go8,0,none⟩) x0_1.length co4) y244:=(by rw [hw,Ny244.out];exact HP9.1);clear HP9;have n0_:=Aside0.mk (hp_);have n1_:=Aside0.mk ((by rw [hw];exact below_set (HB.out) GB8.out:Below w0.heap.size w0 w10));have n2_:=Aside0.mk (Kept.of_grown (S:=(fun k_=>P0_ k_)) hg (by repeat (first|(with_reducible first|exact HK.out|apply Kept.alloc|apply Kept.drewN|apply Kept.drew)|exact HK.out)) (fun k_ e_=>(HO_0.out.1 k_ e_)));clear HO_0;clear HB;clear HK;have HO_0:=n0_;have HB:=n1_;have HK:=n2_;clear n0_ n1_ n2_;clear hg hw hp_))
      (try simp only [← hl0_1])
      go_roundg k1
      case measure=>have:=HK1.out;omega
      case rel=>exact ⟨(y244),((IntKind.u64.wrap ((IntKind.u64.wrap ((IntKind.u64.wrap (rd x0_1 x14_1))*(IntKind.u64.wrap (a1))))+x7_1))/4294967296),(wrap64 (x14_1+1)),(by first|rfl|(simp;done)|(simp [*];done)),(by first|rfl|(simp;done)|(simp [*];done)),H',⟨by have:=HK1.out;omega⟩,⟨by (try simp only [hl0_1]);(with_reducible repeat (first|apply Kd.R_alloc|apply Kd.R_drewN|apply Kd.R_drew));exact HO_0.out⟩,⟨by repeat (first|(with_reducible first|exact HK.out|apply Kept.alloc|apply Kept.drewN|apply Kept.drew)|exact HK.out)⟩,⟨by repeat (first|(with_reducible first|exact HB.out|apply below_alloc|apply pw_below_drewN|apply below_drew1)|exact HB.out)⟩⟩
     ·rw [if_neg c7] at H
      exact absurd H (by simp)
    ·rw [if_neg c6] at H
     exact absurd H (by simp)
   ·rw [if_neg c5] at H
    have c5b0:decide (x14_1<(l0.length:Int))=false:=decide_eq_false c5
    (try (have cX_:=c5b0;rw [hl0_1] at cX_))
    clear c5
    by_cases c11:x7_1>0
    ·rw [if_pos c11] at H
     have c11b0:decide (0<x7_1)=true:=decide_eq_true c11
     clear c11
     by_cases c12:x0_1.length<35184372088832
     ·rw [if_pos c12] at H
      have LMc12:=Aside0.mk c12
      clear c12
      obtain ⟨y245,hy245⟩:∃ y_:List Int,y_=(x0_1 ++ [(x7_1)%4294967296]):=⟨_,rfl⟩
      replace H:(some y245)=some r:=by first|(rw [hy245];with_reducible exact H)|(have H2_:=(Option.bind_some _ _).symm.trans H;rw [hy245];with_reducible exact H2_)|(have H2_:=(Option.bind_some _ _).symm.trans H;with_reducible exact H2_)|with_reducible exact H|(rw [hy245];exact H)|exact H
      have Ny245:=Aside0.mk hy245
      clear hy245
      obtain rfl:=Option.some.inj H
      go_wp2_with (first|((with_reducible refine gate_builtin (b:=.append) (xs:=#[.tmp 37,.tmp 40]) rfl ?_);at_builtin;refine Kd.R_append (Kd.int .u32) (w0:=w0) w0.heap.size rfl (.tmp 37) (.tmp 40) 50 60 (.int .u32 0) 4 rfl Tryd.underlying50 info60 rfl (by decide) (by omega) (.slice Ao4 x0_1.length co4) x0_1 ((x7_1)%4294967296) [.int .u32 ((x7_1)%4294967296)] (fun k_=>(P0_ k_∨w.heap.size≤k_)) (fun _=>False) rfl rfl ?aP (fun _ hk=>hk.elim) ?aF ?aO ?aB ?aS ?aL ?_;(case aP=>exact rfl);(case aB=>exact (by repeat (first|(with_reducible first|exact HB.out|apply below_alloc|apply pw_below_drewN|apply below_drew1)|exact HB.out)));(case aF=>exact (fun k_ hk=>(.inr (Nat.le_trans (by first|exact HK.out.1|exact (show Kept w _ (fun k_=>P0_ k_) from by repeat (first|(with_reducible first|exact HK.out|apply Kept.alloc|apply Kept.drewN|apply Kept.drew)|exact HK.out)).1) hk))));(case aO=>exact (by (with_reducible repeat (first|apply Kd.R_alloc|apply Kd.R_drewN|apply Kd.R_drew));exact HO_0.out));(case aS=>exact (below_size (by repeat (first|(with_reducible first|exact HB.out|apply below_alloc|apply pw_below_drewN|apply below_drew1)|exact HB.out))));(case aL=>have:=LMc12.out;omega);intro v246 w13 ho hb hg hat;rw [← Ny245.out] at ho;have n0_:=Aside0.mk (hb);have n1_:=Aside0.mk (Kept.of_grown (S:=(fun k_=>P0_ k_)) hg (by repeat (first|(with_reducible first|exact HK.out|apply Kept.alloc|apply Kept.drewN|apply Kept.drew)|exact HK.out)) (fun k_ e_=>(HO_0.out.1 k_ e_)));have n2_:=Aside0.mk (ho);clear HB;clear HK;clear HO_0;have HB:=n0_;have HK:=n1_;have HO247:=n2_;clear n0_ n1_ n2_;clear ho hb hg hat))
      go_ret
      exact ⟨_,by first|rfl|(simp [errW_none,errW_some] <;> rfl)|(simp [*,errW_none,errW_some] <;> rfl),by (with_reducible repeat (first|apply Kd.R_alloc|apply Kd.R_drewN|apply Kd.R_drew));exact HO247.out,by repeat (first|(with_reducible first|exact HB.out|apply below_alloc|apply pw_below_drewN|apply below_drew1)|exact HB.out),by repeat (first|(with_reducible first|exact HK.out|apply Kept.alloc|apply Kept.drewN|apply Kept.drew)|exact HK.out)⟩
     ·rw [if_neg c12] at H
      exact absurd H (by simp)
    ·rw [if_neg c11] at H
     have c11b0:decide (0<x7_1)=false:=decide_eq_false c11
     clear c11
     obtain rfl:=Option.some.inj H
     go_wp2
     go_ret
     exact ⟨_,by first|rfl|(simp [errW_none,errW_some] <;> rfl)|(simp [*,errW_none,errW_some] <;> rfl),by (with_reducible repeat (first|apply Kd.R_alloc|apply Kd.R_drewN|apply Kd.R_drew));exact HO_0.out,by repeat (first|(with_reducible first|exact HB.out|apply below_alloc|apply pw_below_drewN|apply below_drew1)|exact HB.out),by repeat (first|(with_reducible first|exact HK.out|apply Kept.alloc|apply Kept.drewN|apply Kept.drew)|exact HK.out)⟩
end Go.Proofs.YtjaflmhdclmolaaDoor.F
end
section
namespace Go.Proofs.YtjaflmhdclmolaaDoor.F
open Go.RowKit Go.Proofs.YtjaflmhdclmolaaDoorW.PrintWords Go.Proofs.YtjaflmhdclmolaaDoorW.PrintLast Go.Proofs.YtjaflmhdclmolaaDoorW.PrintMore
attribute [local go_sem] max2_int min2_int max_two min_two max_three min_three max_four min_four   
set_option linter.unusedVariables false
set_option linter.unusedSimpArgs false
def strings_Trim.f (a0:ByteArray) (a1:ByteArray):Option (ByteArray):=if a0.size≤9223372036854775807 then (if a1.size<4294967281 then (if (a1.data.toList.all fun b=>decide (b.toNat<128))=true then (some (⟨(Lib.trimS a0.data.toList a1.data.toList).toArray⟩:ByteArray)) else (none)) else (none)) else (none)
theorem strings_Trim.calls (a0:ByteArray) (a1:ByteArray) (r:ByteArray) (w:World) (h:strings_Trim.f a0 a1=some r) :
 Calls Tryd.prog 51 #[.string a0,.string a1] w fun e w'=>e = .returned (.string r)∧Below w.heap.size w w':=by
 unfold strings_Trim.f at h
 by_cases h1:a0.size≤9223372036854775807
 ·rw [if_pos h1] at h
  by_cases h2:a1.size<4294967281
  ·rw [if_pos h2] at h
   by_cases h3:(a1.data.toList.all fun b=>decide (b.toNat<128))=true
   ·rw [if_pos h3] at h
    obtain rfl:=Option.some.inj h
    exact Tryd.strings_Trim_any a0 a1 w h1 h2 (ascii_of_all h3)
   ·rw [if_neg h3] at h
    exact absurd h (by simp)
  ·rw [if_neg h2] at h
   exact absurd h (by simp)
 ·rw [if_neg h1] at h
  exact absurd h (by simp)
end Go.Proofs.YtjaflmhdclmolaaDoor.F
end
section
namespace Go.Proofs.YtjaflmhdclmolaaDoor.F
open Go.RowKit Go.Proofs.YtjaflmhdclmolaaDoorW.PrintWords Go.Proofs.YtjaflmhdclmolaaDoorW.PrintLast Go.Proofs.YtjaflmhdclmolaaDoorW.PrintMore
attribute [local go_sem] max2_int min2_int max_two min_two max_three min_three max_four min_four   
set_option linter.unusedVariables false
set_option linter.unusedSimpArgs false
mutual
def natural_Parse.j0:Nat→ByteArray→Bool→Option (ByteArray×Int)
 | 0,_,_=>none
 | k+1,x0,x22=>if x22=true then (some ((⟨#[]⟩:ByteArray),3)) else (if (x0.size:Int)>2000 then (some ((⟨#[]⟩:ByteArray),2)) else (natural_Parse.l0 k x0 ([]:List Int) (x0.size:Int) 0))
def natural_Parse.l0:Nat→ByteArray→List Int→Int→Int→Option (ByteArray×Int)
 | 0,_,_,_,_=>none
 | k+1,x0,x4,x27,x28=>if x28<x27 then (if 0≤x28 then (if x28<(x0.size:Int) then ((natural_multiplyAdd.f k x4 10 (((bt x0 x28)-48)%256)).bind fun t250=>(natural_Parse.l0 k x0 t250 x27 (wrap64 (x28+1)))) else (none)) else (none)) else ((natural_limbs_trim.f k x4).bind fun t253=>((natural_limbs_text.f k t253).bind fun t256=>(some (t256,0))))
end
def natural_Parse.f (k:Nat) (a0:ByteArray):Option (ByteArray×Int):=if a0.toList=([]:List UInt8) then (natural_Parse.j0 k a0 true) else (if (a0.size:Int)>1 then (if 0<(a0.size:Int) then (if (bt a0 0)=48 then (natural_Parse.j0 k a0 true) else ((strings_Trim.f a0 (⟨#[48,49,50,51,52,53,54,55,56,57]⟩:ByteArray)).bind fun t248=>(natural_Parse.j0 k a0 (t248.toList != ([]:List UInt8))))) else (none)) else ((strings_Trim.f a0 (⟨#[48,49,50,51,52,53,54,55,56,57]⟩:ByteArray)).bind fun t249=>(natural_Parse.j0 k a0 (t249.toList != ([]:List UInt8)))))
theorem natural_Parse.mono_l:∀ k,(∀ y0 y1,LeO (natural_Parse.j0 k y0 y1) (natural_Parse.j0 (k+1) y0 y1))∧(∀ y0 y1 y2 y3,LeO (natural_Parse.l0 k y0 y1 y2 y3) (natural_Parse.l0 (k+1) y0 y1 y2 y3))
 | 0=>⟨fun _ _ r h=>by simp [natural_Parse.j0] at h,fun _ _ _ _ r h=>by simp [natural_Parse.l0] at h⟩
 | k+1=>by
  obtain ⟨ih0,ih1⟩:=natural_Parse.mono_l k
  refine ⟨?_,?_⟩
  ·intro y0 y1
   unfold natural_Parse.j0
   repeat' first
   | (with_reducible exact ih0 _ _)
   | (with_reducible exact ih1 _ _ _ _)
   | (with_reducible exact natural_limbs_text.mono _ _)
   | (with_reducible exact natural_limbs_trim.mono _ _)
   | (with_reducible exact natural_multiplyAdd.mono _ _ _ _)
   | (with_reducible exact LeO.refl _)
   | (with_reducible exact LeO.none _)
   | (with_reducible refine LeO.ite ?_ ?_)
   | (with_reducible refine LeO.bind ?_ (fun _=>?_))
   | exact ih0 _ _
   | exact ih1 _ _ _ _
   | exact natural_limbs_text.mono _ _
   | exact natural_limbs_trim.mono _ _
   | exact natural_multiplyAdd.mono _ _ _ _
   | exact LeO.none _
   | refine LeO.ite ?_ ?_
   | refine LeO.bind ?_ (fun _=>?_)
  ·intro y0 y1 y2 y3
   unfold natural_Parse.l0
   repeat' first
   | (with_reducible exact ih0 _ _)
   | (with_reducible exact ih1 _ _ _ _)
   | (with_reducible exact natural_limbs_text.mono _ _)
   | (with_reducible exact natural_limbs_trim.mono _ _)
   | (with_reducible exact natural_multiplyAdd.mono _ _ _ _)
   | (with_reducible exact LeO.refl _)
   | (with_reducible exact LeO.none _)
   | (with_reducible refine LeO.ite ?_ ?_)
   | (with_reducible refine LeO.bind ?_ (fun _=>?_))
   | exact ih0 _ _
   | exact ih1 _ _ _ _
   | exact natural_limbs_text.mono _ _
   | exact natural_limbs_trim.mono _ _
   | exact natural_multiplyAdd.mono _ _ _ _
   | exact LeO.none _
   | refine LeO.ite ?_ ?_
   | refine LeO.bind ?_ (fun _=>?_)
theorem natural_Parse.mono:∀ a0 k,LeO (natural_Parse.f k a0) (natural_Parse.f (k+1) a0):=by
 intro a0 k
 obtain ⟨ih0,ih1⟩:=natural_Parse.mono_l k
 unfold natural_Parse.f
 repeat' first
  | (with_reducible exact ih0 _ _)
  | (with_reducible exact ih1 _ _ _ _)
  | (with_reducible exact natural_limbs_text.mono _ _)
  | (with_reducible exact natural_limbs_trim.mono _ _)
  | (with_reducible exact natural_multiplyAdd.mono _ _ _ _)
  | (with_reducible exact LeO.refl _)
  | (with_reducible exact LeO.none _)
  | (with_reducible refine LeO.ite ?_ ?_)
  | (with_reducible refine LeO.bind ?_ (fun _=>?_))
  | exact ih0 _ _
  | exact ih1 _ _ _ _
  | exact natural_limbs_text.mono _ _
  | exact natural_limbs_trim.mono _ _
  | exact natural_multiplyAdd.mono _ _ _ _
  | exact LeO.none _
  | refine LeO.ite ?_ ?_
  | refine LeO.bind ?_ (fun _=>?_)
set_option maxHeartbeats 8000000 in
set_option maxRecDepth 100000 in
theorem natural_Parse.calls (k:Nat) (a0:ByteArray) (r1:ByteArray) (r2:Int) (w:World) (h:natural_Parse.f k a0=some (r1,r2)) :
 Calls Tryd.prog 26 #[.string a0] w fun e w'=>e = .returned (.tuple #[.string r1,.int .i64 r2])∧Below w.heap.size w w':=by
 have HB:=Aside0.mk (Below.refl w.heap.size w)
 have H:(if a0.toList=([]:List UInt8) then (natural_Parse.j0 k a0 true) else (if (a0.size:Int)>1 then (if 0<(a0.size:Int) then (if (bt a0 0)=48 then (natural_Parse.j0 k a0 true) else ((strings_Trim.f a0 (⟨#[48,49,50,51,52,53,54,55,56,57]⟩:ByteArray)).bind fun t248=>(natural_Parse.j0 k a0 (t248.toList != ([]:List UInt8))))) else (none)) else ((strings_Trim.f a0 (⟨#[48,49,50,51,52,53,54,55,56,57]⟩:ByteArray)).bind fun t249=>(natural_Parse.j0 k a0 (t249.toList != ([]:List UInt8))))))=some (r1,r2):=h
 clear h
 have HC2:=Aside0.mk H
 clear H
 go_enter Tryd.func26,Tryd.ntmps26
 go_upto_region 1 with (fail)
 go_cut [22] (fun v22 wc=>∃ (kq:Nat) (x22_1:Bool),v22 = .bool x22_1∧Aside0 (natural_Parse.j0 kq a0 x22_1=some (r1,r2))∧Aside0 (kq≤k)∧Aside0 (Below w.heap.size w wc))
 case first=>
  have H:=HC2.out
  clear HC2
  by_cases c3:a0.toList=([]:List UInt8)
  ·rw [if_pos c3] at H
   have c3b0:(a0.toList == ([]:List UInt8))=true:=beq_iff_eq.mpr c3
   have c3b1:(a0.toList != ([]:List UInt8))=false:=bne_eq_false_iff_eq.mpr c3
   clear c3
   (first|rw [c3b0]|(simp only [i64_w,i32_w];rw [c3b0])|skip)
   have H':=Aside0.mk H
   clear H
   go_wp2
   go_meet
   case rel=>exact ⟨_,(true),(by first|rfl|(simp;done)|(simp [*];done)),H',⟨by first|omega|exact Nat.le_refl _⟩,⟨by repeat (first|(with_reducible first|exact HB.out|apply below_alloc|apply pw_below_drewN|apply below_drew1)|exact HB.out)⟩⟩
  ·rw [if_neg c3] at H
   have c3b0:(a0.toList == ([]:List UInt8))=false:=beq_eq_false_iff_ne.mpr c3
   have c3b1:(a0.toList != ([]:List UInt8))=true:=bne_iff_ne.mpr c3
   (first|rw [c3b0]|(simp only [i64_w,i32_w];rw [c3b0])|skip)
   by_cases c4:(a0.size:Int)>1
   ·rw [if_pos c4] at H
    have c4b0:decide (1<(a0.size:Int))=true:=decide_eq_true c4
    have c4b1:decide (1<a0.size)=true:=decide_eq_true (by omega)
    clear c4
    by_cases c5:0<(a0.size:Int)
    ·rw [if_pos c5] at H
     have c5b0:decide (0<(a0.size:Int))=true:=decide_eq_true c5
     have c5b1:decide (0<a0.size)=true:=decide_eq_true (by omega)
     clear c5
     by_cases c7:(bt a0 0)=48
     ·rw [if_pos c7] at H
      have c7b0:((bt a0 0) == 48)=true:=beq_iff_eq.mpr c7
      have c7b1:((bt a0 0) != 48)=false:=bne_eq_false_iff_eq.mpr c7
      clear c7
      have H':=Aside0.mk H
      clear H
      have p6:0≤(0:Int):=(by omega)
      have q6:0<a0.size:=(by have:(0:Int)<(a0.size:Int):=of_decide_eq_true (by first|(with_reducible assumption)|assumption);omega)
      have hx6:∀ h:0<a0.size,((a0[0]'h).toNat:Int)=bt a0 0:=bt_at a0 0
      clear p6
      have qi6:(0<(a0.size:Int))=True:=eq_true (of_decide_eq_true (by first|(with_reducible assumption)|assumption))
      replace q6:=eq_true q6
      go_wp2
      go_meet
      case rel=>exact ⟨_,(true),(by first|rfl|(simp;done)|(simp [*];done)),H',⟨by first|omega|exact Nat.le_refl _⟩,⟨by repeat (first|(with_reducible first|exact HB.out|apply below_alloc|apply pw_below_drewN|apply below_drew1)|exact HB.out)⟩⟩
     ·rw [if_neg c7] at H
      have c7b0:((bt a0 0) == 48)=false:=beq_eq_false_iff_ne.mpr c7
      have c7b1:((bt a0 0) != 48)=true:=bne_iff_ne.mpr c7
      replace H:=Option.bind_eq_some_iff.mp H
      obtain ⟨t248,A80,H⟩:=H
      replace H:(natural_Parse.j0 k a0 (t248.toList != ([]:List UInt8)))=some (r1,r2):=H
      have A8:=Aside0.mk A80
      clear A80
      have H':=Aside0.mk H
      clear H
      have p6:0≤(0:Int):=(by omega)
      have q6:0<a0.size:=(by have:(0:Int)<(a0.size:Int):=of_decide_eq_true (by first|(with_reducible assumption)|assumption);omega)
      have hx6:∀ h:0<a0.size,((a0[0]'h).toNat:Int)=bt a0 0:=bt_at a0 0
      clear p6
      have qi6:(0<(a0.size:Int))=True:=eq_true (of_decide_eq_true (by first|(with_reducible assumption)|assumption))
      replace q6:=eq_true q6
      go_wp2_with (first|(go_at_call 51;(with_reducible refine (strings_Trim.calls a0 (⟨#[48,49,50,51,52,53,54,55,56,57]⟩:ByteArray) t248 _ A8.out).mono ?_);rintro e w9 ⟨rfl,hb⟩;have n0_:=Aside0.mk (below_step (by repeat (first|(with_reducible first|exact HB.out|apply below_alloc|apply pw_below_drewN|apply below_drew1)|exact HB.out)) hb);clear HB;have HB:=n0_;clear n0_;(try clear hb);(try clear hb2);(try clear hk);(try clear hi)))
      go_meet
      case rel=>exact ⟨_,((t248.toList != ([]:List UInt8))),(by first|rfl|(generalize t248.toList=q_;cases q_ <;> rfl)|(simp;done)|(simp [*];done)),H',⟨by first|omega|exact Nat.le_refl _⟩,⟨by repeat (first|(with_reducible first|exact HB.out|apply below_alloc|apply pw_below_drewN|apply below_drew1)|exact HB.out)⟩⟩
    ·rw [if_neg c5] at H
     exact absurd H (by simp)
   ·rw [if_neg c4] at H
    have c4b0:decide (1<(a0.size:Int))=false:=decide_eq_false c4
    have c4b1:decide (1<a0.size)=false:=decide_eq_false (by omega)
    clear c4
    replace H:=Option.bind_eq_some_iff.mp H
    obtain ⟨t249,A100,H⟩:=H
    replace H:(natural_Parse.j0 k a0 (t249.toList != ([]:List UInt8)))=some (r1,r2):=H
    have A10:=Aside0.mk A100
    clear A100
    have H':=Aside0.mk H
    clear H
    go_wp2_with (first|(go_at_call 51;(with_reducible refine (strings_Trim.calls a0 (⟨#[48,49,50,51,52,53,54,55,56,57]⟩:ByteArray) t249 _ A10.out).mono ?_);rintro e w11 ⟨rfl,hb⟩;have n0_:=Aside0.mk (below_step (by repeat (first|(with_reducible first|exact HB.out|apply below_alloc|apply pw_below_drewN|apply below_drew1)|exact HB.out)) hb);clear HB;have HB:=n0_;clear n0_;(try clear hb);(try clear hb2);(try clear hk);(try clear hi)))
    go_meet
    case rel=>exact ⟨_,((t249.toList != ([]:List UInt8))),(by first|rfl|(generalize t249.toList=q_;cases q_ <;> rfl)|(simp;done)|(simp [*];done)),H',⟨by first|omega|exact Nat.le_refl _⟩,⟨by repeat (first|(with_reducible first|exact HB.out|apply below_alloc|apply pw_below_drewN|apply below_drew1)|exact HB.out)⟩⟩
 case rest=>
  clear HC2
  try clear c2
  try clear p2
  try clear c3
  try clear c3b0
  try clear c3b1
  try clear c4
  try clear c4b0
  try clear c4b1
  try clear c5
  try clear c5b0
  try clear c5b1
  try clear p6
  try clear q6
  try clear hx6
  try clear qi6
  try clear c7
  try clear c7b0
  try clear c7b1
  try clear p6
  try clear q6
  obtain ⟨kq,x22_1,rfl,HA,HJ1,HB⟩:=hcut
  cases kq with
  | zero=>exact absurd HA.out (by simp [natural_Parse.j0])
  | succ kj1=>
   have H:=HA.out
   clear HA
   simp only [natural_Parse.j0] at H
   by_cases c12:x22_1=true
   ·subst c12
    have H1:(some ((⟨#[]⟩:ByteArray),3))=some (r1,r2):=by rw [if_pos rfl] at H;exact H
    clear H
    have H:=H1
    clear H1
    simp only [Option.some.injEq,Prod.mk.injEq] at H
    obtain ⟨rfl,rfl⟩:=H
    go_wp2
    go_ret2
    exact ⟨by first|rfl|(simp [errW_none,errW_some] <;> rfl)|(simp [*,errW_none,errW_some] <;> rfl),by repeat (first|(with_reducible first|exact HB.out|apply below_alloc|apply pw_below_drewN|apply below_drew1)|exact HB.out)⟩
   ·replace c12:=Bool.eq_false_iff.mpr c12
    subst c12
    have H1:(if (a0.size:Int)>2000 then (some ((⟨#[]⟩:ByteArray),2)) else (natural_Parse.l0 kj1 a0 ([]:List Int) (a0.size:Int) 0))=some (r1,r2):=by rw [if_neg (show ¬ (false=true) by decide)] at H;exact H
    clear H
    have H:=H1
    clear H1
    by_cases c13:(a0.size:Int)>2000
    ·rw [if_pos c13] at H
     have c13b0:decide (2000<(a0.size:Int))=true:=decide_eq_true c13
     have c13b1:decide (2000<a0.size)=true:=decide_eq_true (by omega)
     clear c13
     simp only [Option.some.injEq,Prod.mk.injEq] at H
     obtain ⟨rfl,rfl⟩:=H
     go_wp2
     go_ret2
     exact ⟨by first|rfl|(simp [errW_none,errW_some] <;> rfl)|(simp [*,errW_none,errW_some] <;> rfl),by repeat (first|(with_reducible first|exact HB.out|apply below_alloc|apply pw_below_drewN|apply below_drew1)|exact HB.out)⟩
    ·rw [if_neg c13] at H
     have c13b0:decide (2000<(a0.size:Int))=false:=decide_eq_false c13
     have c13b1:decide (2000<a0.size)=false:=decide_eq_false (by omega)
     clear c13
     have H':=Aside0.mk H
     clear H
     go_wp2
     go_loopg [4,28] kj1 (fun kq v4 v28 w'=>∃ (x4_2:List Int) (x28_2:Int),v28 = .int .i64 x28_2∧Aside0 (natural_Parse.l0 kq a0 x4_2 (a0.size:Int) x28_2=some (r1,r2))∧Aside0 (kq≤kj1)∧Aside0 (Kd.R (Kd.int .u32) 60 w' w.heap.size (fun _=>True) v4 x4_2)∧Aside0 (Below w.heap.size w w'))
     case atStart=>exact ⟨(([]:List Int)),(0),(by first|rfl|(simp;done)|(simp [*];done)),H',⟨Nat.le_refl _⟩,⟨by first|exact Kd.R_nil _ _ _ _ _|exact Kd.N_nil _ _ _ _ _|exact Kd.V_nil _ _ _ _ _|exact Kd.Q_nil _ _ _ _ _|exact Kd.S_nil _ _ _ _ _⟩,⟨by repeat (first|(with_reducible first|exact HB.out|apply below_alloc|apply pw_below_drewN|apply below_drew1)|exact HB.out)⟩⟩
     case round=>
      clear H'
      try clear c1
      try clear c2
      try clear p2
      try clear c3
      try clear c3b0
      try clear c3b1
      try clear c4
      try clear c4b0
      try clear c4b1
      try clear c5
      try clear c5b0
      try clear c5b1
      try clear p6
      try clear q6
      try clear hx6
      try clear qi6
      try clear c7
      try clear c7b0
      try clear c7b1
      try clear c12
      try clear c13
      try clear c13b0
      try clear c13b1
      try clear p2
      try clear p6
      try clear q6
      obtain ⟨x4_2,x28_2,rfl,HA,HK2,HO_4,HB⟩:=hrel
      cases gk with
      | zero=>exact absurd HA.out (by simp [natural_Parse.l0])
      | succ k2=>
       have H:=HA.out
       clear HA
       simp only [natural_Parse.l0] at H
       by_cases c14:x28_2<(a0.size:Int)
       ·rw [if_pos c14] at H
        have c14b0:decide (x28_2<(a0.size:Int))=true:=decide_eq_true c14
        clear c14
        by_cases c15:0≤x28_2
        ·rw [if_pos c15] at H
         have c15b0:decide (0≤x28_2)=true:=decide_eq_true c15
         clear c15
         by_cases c16:x28_2<(a0.size:Int)
         ·rw [if_pos c16] at H
          have c16b0:decide (x28_2<(a0.size:Int))=true:=decide_eq_true c16
          clear c16
          replace H:=Option.bind_eq_some_iff.mp H
          obtain ⟨t250,A180,H⟩:=H
          replace H:(natural_Parse.l0 k2 a0 t250 (a0.size:Int) (wrap64 (x28_2+1)))=some (r1,r2):=H
          have A18:=Aside0.mk A180
          clear A180
          have H':=Aside0.mk H
          clear H
          have p17:0≤(x28_2:Int):=of_decide_eq_true (by first|(with_reducible assumption)|assumption)
          have q17:x28_2<(a0.size:Int):=of_decide_eq_true (by first|(with_reducible assumption)|assumption)
          have hx17:=bt_at a0 x28_2
          replace p17:=eq_true p17
          replace q17:=eq_true q17
          obtain ⟨Ao19,co19,eo19⟩:=Kd.R_slice HO_4.out
          subst eo19
          go_wp2_with (first|((with_reducible refine gate_callee (f:=52) rfl ?_);refine goesL_ (some 37) rfl rfl Tryd.func52 (by kernel_rfl) rfl #[.slice Ao19 x4_2.length co19,.int .u32 10,.int .u32 (((bt a0 x28_2)-48)%256)] rfl (by (try simp only [List.map_toArray,List.map_cons,List.map_nil]);first|done|rfl|(simp only [List.length_drop,List.length_take];rfl)) ?_;(with_reducible refine (natural_multiplyAdd.calls k2 (fun k_=>some k_=(.slice Ao19 x4_2.length co19:Value).ownBlock) (.slice Ao19 x4_2.length co19) x4_2 10 (((bt a0 x28_2)-48)%256) t250 w _ ?side1 ?side2 A18.out).mono ?_);(case side1=>repeat (first|(with_reducible first|exact HB.out|apply below_alloc|apply pw_below_drewN|apply below_drew1)|exact HB.out));(case side2=>exact Kd.R_tight rfl HO_4.out);rintro e w20 ⟨v251,rfl,ho0,hb,hkp⟩;refine ⟨_,rfl,?_⟩;have n0_:=Aside0.mk (Kd.R_mono (ok':=fun k_=>True) ho0 (fun k_ hk_=>trivial));have n1_:=Aside0.mk (hb);clear HB;clear HO_4;have HO252:=n0_;have HB:=n1_;clear n0_ n1_;(try clear hb);(try clear hkp);(try clear ho0)))
          go_roundg k2
          case measure=>have:=HJ1.out;have:=HK2.out;omega
          case rel=>exact ⟨(t250),(wrap64 (x28_2+1)),(by first|rfl|(simp;done)|(simp [*];done)),H',⟨by have:=HJ1.out;have:=HK2.out;omega⟩,⟨by (with_reducible repeat (first|apply Kd.R_alloc|apply Kd.R_drewN|apply Kd.R_drew));exact HO252.out⟩,⟨by repeat (first|(with_reducible first|exact HB.out|apply below_alloc|apply pw_below_drewN|apply below_drew1)|exact HB.out)⟩⟩
         ·rw [if_neg c16] at H
          exact absurd H (by simp)
        ·rw [if_neg c15] at H
         exact absurd H (by simp)
       ·rw [if_neg c14] at H
        have c14b0:decide (x28_2<(a0.size:Int))=false:=decide_eq_false c14
        clear c14
        replace H:=Option.bind_eq_some_iff.mp H
        obtain ⟨t253,A210,H⟩:=H
        replace H:((natural_limbs_text.f k2 t253).bind fun t256=>(some (t256,0)))=some (r1,r2):=H
        have A21:=Aside0.mk A210
        clear A210
        replace H:=Option.bind_eq_some_iff.mp H
        obtain ⟨t256,A220,H⟩:=H
        replace H:(some (t256,0))=some (r1,r2):=H
        have A22:=Aside0.mk A220
        clear A220
        simp only [Option.some.injEq,Prod.mk.injEq] at H
        obtain ⟨rfl,rfl⟩:=H
        obtain ⟨Ao23,co23,eo23⟩:=Kd.R_slice HO_4.out
        subst eo23
        go_wp2_with (first|((with_reducible refine gate_callee (f:=53) rfl ?_);refine goesL_ (some 40) rfl rfl Tryd.func53 (by kernel_rfl) rfl #[.slice Ao23 x4_2.length co23] rfl (by (try simp only [List.map_toArray,List.map_cons,List.map_nil]);first|done|rfl|(simp only [List.length_drop,List.length_take];rfl)) ?_;(with_reducible refine (natural_limbs_trim.calls k2 (fun k_=>some k_=(.slice Ao23 x4_2.length co23:Value).ownBlock) (.slice Ao23 x4_2.length co23) x4_2 t253 w _ ?side1 ?side2 A21.out).mono ?_);(case side1=>repeat (first|(with_reducible first|exact HB.out|apply below_alloc|apply pw_below_drewN|apply below_drew1)|exact HB.out));(case side2=>exact Kd.R_tight rfl HO_4.out);rintro e w24 ⟨v254,rfl,ho0,hb,hkp⟩;refine ⟨_,rfl,?_⟩;have n0_:=Aside0.mk (Kd.R_mono (ok':=fun k_=>True) ho0 (fun k_ hk_=>trivial));have n1_:=Aside0.mk (hb);clear HB;clear HO_4;have HO255:=n0_;have HB:=n1_;clear n0_ n1_;(try clear hb);(try clear hkp);(try clear ho0);obtain ⟨Ao25,co25,eo25⟩:=Kd.R_slice HO255.out;subst eo25)|((with_reducible refine gate_callee (f:=44) rfl ?_);refine goesL_ (some 41) rfl rfl Tryd.func44 (by kernel_rfl) rfl #[.slice Ao25 t253.length co25] rfl (by (try simp only [List.map_toArray,List.map_cons,List.map_nil]);first|done|rfl|(simp only [List.length_drop,List.length_take];rfl)) ?_;(with_reducible refine (natural_limbs_text.calls k2 _ _ t253 t256 _ ?side1 ?side2 A22.out).mono ?_);(case side1=>repeat (first|exact (Kd.R_reads' HO255.out).2.2|(with_reducible refine Kd.C_alloc ?_ _)|(with_reducible refine Kd.C_drewN ?_ _)|(with_reducible refine Kd.C_drew ?_)));(case side2=>exact (Kd.R_reads' HO255.out).2.1);rintro e w26 ⟨rfl,hb⟩;refine ⟨_,rfl,?_⟩;have n0_:=Aside0.mk (Kd.R_below (by (with_reducible repeat (first|apply Kd.R_alloc|apply Kd.R_drewN|apply Kd.R_drew));exact HO255.out) hb);have n1_:=Aside0.mk (below_step (by repeat (first|(with_reducible first|exact HB.out|apply below_alloc|apply pw_below_drewN|apply below_drew1)|exact HB.out)) hb);clear HO255;clear HB;have HO255:=n0_;have HB:=n1_;clear n0_ n1_;(try clear hb);(try clear hb2);(try clear hk);(try clear hi)))
        go_ret2
        exact ⟨by first|rfl|(simp [errW_none,errW_some] <;> rfl)|(simp [*,errW_none,errW_some] <;> rfl),by repeat (first|(with_reducible first|exact HB.out|apply below_alloc|apply pw_below_drewN|apply below_drew1)|exact HB.out)⟩
end Go.Proofs.YtjaflmhdclmolaaDoor.F
end
section
namespace Go.Proofs.YtjaflmhdclmolaaDoor.F
open Go.RowKit Go.Proofs.YtjaflmhdclmolaaDoorW.PrintWords Go.Proofs.YtjaflmhdclmolaaDoorW.PrintLast Go.Proofs.YtjaflmhdclmolaaDoorW.PrintMore
attribute [local go_sem] max2_int min2_int max_two min_two max_three min_three max_four min_four   
set_option linter.unusedVariables false
set_option linter.unusedSimpArgs false
def insolvencylaw1_awake.f (k:Nat)  : Option (Bool):=(natural_Divide.f k (⟨#[3,232]⟩:ByteArray) (⟨#[7]⟩:ByteArray)).bind fun bt273=>((natural_Parse.f k (⟨#[48,48,55]⟩:ByteArray)).bind fun bt276=>((natural_Add.f k (⟨#[255]⟩:ByteArray) (⟨#[1]⟩:ByteArray)).bind fun t278=>(if t278.toList=([1,0]:List UInt8) then (if bt273.2.2=true then ((natural_Format.f k bt273.1).bind fun t279=>(if t279.toList=([49,52,50]:List UInt8) then ((natural_Format.f k bt273.2.1).bind fun t280=>(if t280.toList=([54]:List UInt8) then (some (bt276.2 == 3)) else (some false))) else (some false))) else (some false)) else (some false))))
theorem insolvencylaw1_awake.mono:∀ k,LeO (insolvencylaw1_awake.f k ) (insolvencylaw1_awake.f (k+1) ):=by
 intro  k
 unfold insolvencylaw1_awake.f
 repeat' first
  | (with_reducible exact natural_Add.mono _ _ _)
  | (with_reducible exact natural_Divide.mono _ _ _)
  | (with_reducible exact natural_Format.mono _ _)
  | (with_reducible exact natural_Parse.mono _ _)
  | (with_reducible exact LeO.refl _)
  | (with_reducible exact LeO.none _)
  | (with_reducible refine LeO.ite ?_ ?_)
  | (with_reducible refine LeO.bind ?_ (fun _=>?_))
  | exact natural_Add.mono _ _ _
  | exact natural_Divide.mono _ _ _
  | exact natural_Format.mono _ _
  | exact natural_Parse.mono _ _
  | exact LeO.none _
  | refine LeO.ite ?_ ?_
  | refine LeO.bind ?_ (fun _=>?_)
set_option maxHeartbeats 8000000 in
set_option maxRecDepth 100000 in
theorem insolvencylaw1_awake.calls (k:Nat)  (r:Bool) (w:World) (h:insolvencylaw1_awake.f k  = some r) :
 Calls Tryd.prog 17 #[] w fun e w'=>e = .returned (.bool r)∧Below w.heap.size w w':=by
 have HB:=Aside0.mk (Below.refl w.heap.size w)
 have H:((natural_Divide.f k (⟨#[3,232]⟩:ByteArray) (⟨#[7]⟩:ByteArray)).bind fun bt273=>((natural_Parse.f k (⟨#[48,48,55]⟩:ByteArray)).bind fun bt276=>((natural_Add.f k (⟨#[255]⟩:ByteArray) (⟨#[1]⟩:ByteArray)).bind fun t278=>(if t278.toList=([1,0]:List UInt8) then (if bt273.2.2=true then ((natural_Format.f k bt273.1).bind fun t279=>(if t279.toList=([49,52,50]:List UInt8) then ((natural_Format.f k bt273.2.1).bind fun t280=>(if t280.toList=([54]:List UInt8) then (some (bt276.2 == 3)) else (some false))) else (some false))) else (some false)) else (some false)))))=some r:=h
 clear h
 replace H:=Option.bind_eq_some_iff.mp H
 obtain ⟨⟨t273,t274,t275⟩,A10,H⟩:=H
 replace H:((natural_Parse.f k (⟨#[48,48,55]⟩:ByteArray)).bind fun bt276=>((natural_Add.f k (⟨#[255]⟩:ByteArray) (⟨#[1]⟩:ByteArray)).bind fun t278=>(if t278.toList=([1,0]:List UInt8) then (if t275=true then ((natural_Format.f k t273).bind fun t279=>(if t279.toList=([49,52,50]:List UInt8) then ((natural_Format.f k t274).bind fun t280=>(if t280.toList=([54]:List UInt8) then (some (bt276.2 == 3)) else (some false))) else (some false))) else (some false)) else (some false))))=some r:=H
 have A1:=Aside0.mk A10
 clear A10
 replace H:=Option.bind_eq_some_iff.mp H
 obtain ⟨⟨t276,t277⟩,A20,H⟩:=H
 replace H:((natural_Add.f k (⟨#[255]⟩:ByteArray) (⟨#[1]⟩:ByteArray)).bind fun t278=>(if t278.toList=([1,0]:List UInt8) then (if t275=true then ((natural_Format.f k t273).bind fun t279=>(if t279.toList=([49,52,50]:List UInt8) then ((natural_Format.f k t274).bind fun t280=>(if t280.toList=([54]:List UInt8) then (some (t277 == 3)) else (some false))) else (some false))) else (some false)) else (some false)))=some r:=H
 have A2:=Aside0.mk A20
 clear A20
 replace H:=Option.bind_eq_some_iff.mp H
 obtain ⟨t278,A30,H⟩:=H
 replace H:(if t278.toList=([1,0]:List UInt8) then (if t275=true then ((natural_Format.f k t273).bind fun t279=>(if t279.toList=([49,52,50]:List UInt8) then ((natural_Format.f k t274).bind fun t280=>(if t280.toList=([54]:List UInt8) then (some (t277 == 3)) else (some false))) else (some false))) else (some false)) else (some false))=some r:=H
 have A3:=Aside0.mk A30
 clear A30
 by_cases c4:t278.toList=([1,0]:List UInt8)
 ·rw [if_pos c4] at H
  have c4b0:(t278.toList == ([1,0]:List UInt8))=true:=beq_iff_eq.mpr c4
  have c4b1:(t278.toList != ([1,0]:List UInt8))=false:=bne_eq_false_iff_eq.mpr c4
  clear c4
  by_cases c5:t275=true
  ·subst c5
   have H1:((natural_Format.f k t273).bind fun t279=>(if t279.toList=([49,52,50]:List UInt8) then ((natural_Format.f k t274).bind fun t280=>(if t280.toList=([54]:List UInt8) then (some (t277 == 3)) else (some false))) else (some false)))=some r:=by rw [if_pos rfl] at H;exact H
   clear H
   have H:=H1
   clear H1
   replace H:=Option.bind_eq_some_iff.mp H
   obtain ⟨t279,A60,H⟩:=H
   replace H:(if t279.toList=([49,52,50]:List UInt8) then ((natural_Format.f k t274).bind fun t280=>(if t280.toList=([54]:List UInt8) then (some (t277 == 3)) else (some false))) else (some false))=some r:=H
   have A6:=Aside0.mk A60
   clear A60
   by_cases c7:t279.toList=([49,52,50]:List UInt8)
   ·rw [if_pos c7] at H
    have c7b0:(t279.toList == ([49,52,50]:List UInt8))=true:=beq_iff_eq.mpr c7
    have c7b1:(t279.toList != ([49,52,50]:List UInt8))=false:=bne_eq_false_iff_eq.mpr c7
    clear c7
    replace H:=Option.bind_eq_some_iff.mp H
    obtain ⟨t280,A80,H⟩:=H
    replace H:(if t280.toList=([54]:List UInt8) then (some (t277 == 3)) else (some false))=some r:=H
    have A8:=Aside0.mk A80
    clear A80
    by_cases c9:t280.toList=([54]:List UInt8)
    ·rw [if_pos c9] at H
     have c9b0:(t280.toList == ([54]:List UInt8))=true:=beq_iff_eq.mpr c9
     have c9b1:(t280.toList != ([54]:List UInt8))=false:=bne_eq_false_iff_eq.mpr c9
     clear c9
     obtain rfl:=Option.some.inj H
     go_enter Tryd.func17,Tryd.ntmps17
     go_wp2_with (first|((with_reducible refine gate_callee (f:=21) rfl ?_);refine goesL_ (some 7) rfl rfl Tryd.func21 (by kernel_rfl) rfl #[.string (⟨#[3,232]⟩:ByteArray),.string (⟨#[7]⟩:ByteArray)] rfl (by (try simp only [List.map_toArray,List.map_cons,List.map_nil]);first|done|rfl|(simp only [List.length_drop,List.length_take];rfl)) ?_;(with_reducible refine (natural_Divide.calls k (⟨#[3,232]⟩:ByteArray) (⟨#[7]⟩:ByteArray) t273 t274 true _ A1.out).mono ?_);rintro e w10 ⟨rfl,hb⟩;refine ⟨_,rfl,?_⟩;have n0_:=Aside0.mk (below_step (by repeat (first|(with_reducible first|exact HB.out|apply below_alloc|apply pw_below_drewN|apply below_drew1)|exact HB.out)) hb);clear HB;have HB:=n0_;clear n0_;(try clear hb);(try clear hb2);(try clear hk);(try clear hi))|((with_reducible refine gate_callee (f:=26) rfl ?_);refine goesL_ (some 12) rfl rfl Tryd.func26 (by kernel_rfl) rfl #[.string (⟨#[48,48,55]⟩:ByteArray)] rfl (by (try simp only [List.map_toArray,List.map_cons,List.map_nil]);first|done|rfl|(simp only [List.length_drop,List.length_take];rfl)) ?_;(with_reducible refine (natural_Parse.calls k (⟨#[48,48,55]⟩:ByteArray) t276 t277 _ A2.out).mono ?_);rintro e w11 ⟨rfl,hb⟩;refine ⟨_,rfl,?_⟩;have n0_:=Aside0.mk (below_step (by repeat (first|(with_reducible first|exact HB.out|apply below_alloc|apply pw_below_drewN|apply below_drew1)|exact HB.out)) hb);clear HB;have HB:=n0_;clear n0_;(try clear hb);(try clear hb2);(try clear hk);(try clear hi))|((with_reducible refine gate_callee (f:=24) rfl ?_);refine goesL_ (some 15) rfl rfl Tryd.func24 (by kernel_rfl) rfl #[.string (⟨#[255]⟩:ByteArray),.string (⟨#[1]⟩:ByteArray)] rfl (by (try simp only [List.map_toArray,List.map_cons,List.map_nil]);first|done|rfl|(simp only [List.length_drop,List.length_take];rfl)) ?_;(with_reducible refine (natural_Add.calls k (⟨#[255]⟩:ByteArray) (⟨#[1]⟩:ByteArray) t278 _ A3.out).mono ?_);rintro e w12 ⟨rfl,hb⟩;refine ⟨_,rfl,?_⟩;have n0_:=Aside0.mk (below_step (by repeat (first|(with_reducible first|exact HB.out|apply below_alloc|apply pw_below_drewN|apply below_drew1)|exact HB.out)) hb);clear HB;have HB:=n0_;clear n0_;(try clear hb);(try clear hb2);(try clear hk);(try clear hi))|(go_at_call 28;(with_reducible refine (natural_Format.calls k t273 t279 _ A6.out).mono ?_);rintro e w13 ⟨rfl,hb⟩;have n0_:=Aside0.mk (below_step (by repeat (first|(with_reducible first|exact HB.out|apply below_alloc|apply pw_below_drewN|apply below_drew1)|exact HB.out)) hb);clear HB;have HB:=n0_;clear n0_;(try clear hb);(try clear hb2);(try clear hk);(try clear hi))|(go_at_call 28;(with_reducible refine (natural_Format.calls k t274 t280 _ A8.out).mono ?_);rintro e w14 ⟨rfl,hb⟩;have n0_:=Aside0.mk (below_step (by repeat (first|(with_reducible first|exact HB.out|apply below_alloc|apply pw_below_drewN|apply below_drew1)|exact HB.out)) hb);clear HB;have HB:=n0_;clear n0_;(try clear hb);(try clear hb2);(try clear hk);(try clear hi)))
     go_ret
     exact ⟨by first|rfl|(simp [errW_none,errW_some] <;> rfl)|(simp [*,errW_none,errW_some] <;> rfl),by repeat (first|(with_reducible first|exact HB.out|apply below_alloc|apply pw_below_drewN|apply below_drew1)|exact HB.out)⟩
    ·rw [if_neg c9] at H
     have c9b0:(t280.toList == ([54]:List UInt8))=false:=beq_eq_false_iff_ne.mpr c9
     have c9b1:(t280.toList != ([54]:List UInt8))=true:=bne_iff_ne.mpr c9
     obtain rfl:=Option.some.inj H
     go_enter Tryd.func17,Tryd.ntmps17
     go_wp2_with (first|((with_reducible refine gate_callee (f:=21) rfl ?_);refine goesL_ (some 7) rfl rfl Tryd.func21 (by kernel_rfl) rfl #[.string (⟨#[3,232]⟩:ByteArray),.string (⟨#[7]⟩:ByteArray)] rfl (by (try simp only [List.map_toArray,List.map_cons,List.map_nil]);first|done|rfl|(simp only [List.length_drop,List.length_take];rfl)) ?_;(with_reducible refine (natural_Divide.calls k (⟨#[3,232]⟩:ByteArray) (⟨#[7]⟩:ByteArray) t273 t274 true _ A1.out).mono ?_);rintro e w15 ⟨rfl,hb⟩;refine ⟨_,rfl,?_⟩;have n0_:=Aside0.mk (below_step (by repeat (first|(with_reducible first|exact HB.out|apply below_alloc|apply pw_below_drewN|apply below_drew1)|exact HB.out)) hb);clear HB;have HB:=n0_;clear n0_;(try clear hb);(try clear hb2);(try clear hk);(try clear hi))|((with_reducible refine gate_callee (f:=26) rfl ?_);refine goesL_ (some 12) rfl rfl Tryd.func26 (by kernel_rfl) rfl #[.string (⟨#[48,48,55]⟩:ByteArray)] rfl (by (try simp only [List.map_toArray,List.map_cons,List.map_nil]);first|done|rfl|(simp only [List.length_drop,List.length_take];rfl)) ?_;(with_reducible refine (natural_Parse.calls k (⟨#[48,48,55]⟩:ByteArray) t276 t277 _ A2.out).mono ?_);rintro e w16 ⟨rfl,hb⟩;refine ⟨_,rfl,?_⟩;have n0_:=Aside0.mk (below_step (by repeat (first|(with_reducible first|exact HB.out|apply below_alloc|apply pw_below_drewN|apply below_drew1)|exact HB.out)) hb);clear HB;have HB:=n0_;clear n0_;(try clear hb);(try clear hb2);(try clear hk);(try clear hi))|((with_reducible refine gate_callee (f:=24) rfl ?_);refine goesL_ (some 15) rfl rfl Tryd.func24 (by kernel_rfl) rfl #[.string (⟨#[255]⟩:ByteArray),.string (⟨#[1]⟩:ByteArray)] rfl (by (try simp only [List.map_toArray,List.map_cons,List.map_nil]);first|done|rfl|(simp only [List.length_drop,List.length_take];rfl)) ?_;(with_reducible refine (natural_Add.calls k (⟨#[255]⟩:ByteArray) (⟨#[1]⟩:ByteArray) t278 _ A3.out).mono ?_);rintro e w17 ⟨rfl,hb⟩;refine ⟨_,rfl,?_⟩;have n0_:=Aside0.mk (below_step (by repeat (first|(with_reducible first|exact HB.out|apply below_alloc|apply pw_below_drewN|apply below_drew1)|exact HB.out)) hb);clear HB;have HB:=n0_;clear n0_;(try clear hb);(try clear hb2);(try clear hk);(try clear hi))|(go_at_call 28;(with_reducible refine (natural_Format.calls k t273 t279 _ A6.out).mono ?_);rintro e w18 ⟨rfl,hb⟩;have n0_:=Aside0.mk (below_step (by repeat (first|(with_reducible first|exact HB.out|apply below_alloc|apply pw_below_drewN|apply below_drew1)|exact HB.out)) hb);clear HB;have HB:=n0_;clear n0_;(try clear hb);(try clear hb2);(try clear hk);(try clear hi))|(go_at_call 28;(with_reducible refine (natural_Format.calls k t274 t280 _ A8.out).mono ?_);rintro e w19 ⟨rfl,hb⟩;have n0_:=Aside0.mk (below_step (by repeat (first|(with_reducible first|exact HB.out|apply below_alloc|apply pw_below_drewN|apply below_drew1)|exact HB.out)) hb);clear HB;have HB:=n0_;clear n0_;(try clear hb);(try clear hb2);(try clear hk);(try clear hi)))
     go_ret
     exact ⟨by first|rfl|(simp [errW_none,errW_some] <;> rfl)|(simp [*,errW_none,errW_some] <;> rfl),by repeat (first|(with_reducible first|exact HB.out|apply below_alloc|apply pw_below_drewN|apply below_drew1)|exact HB.out)⟩
   ·rw [if_neg c7] at H
    have c7b0:(t279.toList == ([49,52,50]:List UInt8))=false:=beq_eq_false_iff_ne.mpr c7
    have c7b1:(t279.toList != ([49,52,50]:List UInt8))=true:=bne_iff_ne.mpr c7
    obtain rfl:=Option.some.inj H
    go_enter Tryd.func17,Tryd.ntmps17
    go_wp2_with (first|((with_reducible refine gate_callee (f:=21) rfl ?_);refine goesL_ (some 7) rfl rfl Tryd.func21 (by kernel_rfl) rfl #[.string (⟨#[3,232]⟩:ByteArray),.string (⟨#[7]⟩:ByteArray)] rfl (by (try simp only [List.map_toArray,List.map_cons,List.map_nil]);first|done|rfl|(simp only [List.length_drop,List.length_take];rfl)) ?_;(with_reducible refine (natural_Divide.calls k (⟨#[3,232]⟩:ByteArray) (⟨#[7]⟩:ByteArray) t273 t274 true _ A1.out).mono ?_);rintro e w20 ⟨rfl,hb⟩;refine ⟨_,rfl,?_⟩;have n0_:=Aside0.mk (below_step (by repeat (first|(with_reducible first|exact HB.out|apply below_alloc|apply pw_below_drewN|apply below_drew1)|exact HB.out)) hb);clear HB;have HB:=n0_;clear n0_;(try clear hb);(try clear hb2);(try clear hk);(try clear hi))|((with_reducible refine gate_callee (f:=26) rfl ?_);refine goesL_ (some 12) rfl rfl Tryd.func26 (by kernel_rfl) rfl #[.string (⟨#[48,48,55]⟩:ByteArray)] rfl (by (try simp only [List.map_toArray,List.map_cons,List.map_nil]);first|done|rfl|(simp only [List.length_drop,List.length_take];rfl)) ?_;(with_reducible refine (natural_Parse.calls k (⟨#[48,48,55]⟩:ByteArray) t276 t277 _ A2.out).mono ?_);rintro e w21 ⟨rfl,hb⟩;refine ⟨_,rfl,?_⟩;have n0_:=Aside0.mk (below_step (by repeat (first|(with_reducible first|exact HB.out|apply below_alloc|apply pw_below_drewN|apply below_drew1)|exact HB.out)) hb);clear HB;have HB:=n0_;clear n0_;(try clear hb);(try clear hb2);(try clear hk);(try clear hi))|((with_reducible refine gate_callee (f:=24) rfl ?_);refine goesL_ (some 15) rfl rfl Tryd.func24 (by kernel_rfl) rfl #[.string (⟨#[255]⟩:ByteArray),.string (⟨#[1]⟩:ByteArray)] rfl (by (try simp only [List.map_toArray,List.map_cons,List.map_nil]);first|done|rfl|(simp only [List.length_drop,List.length_take];rfl)) ?_;(with_reducible refine (natural_Add.calls k (⟨#[255]⟩:ByteArray) (⟨#[1]⟩:ByteArray) t278 _ A3.out).mono ?_);rintro e w22 ⟨rfl,hb⟩;refine ⟨_,rfl,?_⟩;have n0_:=Aside0.mk (below_step (by repeat (first|(with_reducible first|exact HB.out|apply below_alloc|apply pw_below_drewN|apply below_drew1)|exact HB.out)) hb);clear HB;have HB:=n0_;clear n0_;(try clear hb);(try clear hb2);(try clear hk);(try clear hi))|(go_at_call 28;(with_reducible refine (natural_Format.calls k t273 t279 _ A6.out).mono ?_);rintro e w23 ⟨rfl,hb⟩;have n0_:=Aside0.mk (below_step (by repeat (first|(with_reducible first|exact HB.out|apply below_alloc|apply pw_below_drewN|apply below_drew1)|exact HB.out)) hb);clear HB;have HB:=n0_;clear n0_;(try clear hb);(try clear hb2);(try clear hk);(try clear hi)))
    go_ret
    exact ⟨by first|rfl|(simp [errW_none,errW_some] <;> rfl)|(simp [*,errW_none,errW_some] <;> rfl),by repeat (first|(with_reducible first|exact HB.out|apply below_alloc|apply pw_below_drewN|apply below_drew1)|exact HB.out)⟩
  ·replace c5:=Bool.eq_false_iff.mpr c5
   subst c5
   have H1:(some false)=some r:=by rw [if_neg (show ¬ (false=true) by decide)] at H;exact H
   clear H
   have H:=H1
   clear H1
   obtain rfl:=Option.some.inj H
   go_enter Tryd.func17,Tryd.ntmps17
   go_wp2_with (first|((with_reducible refine gate_callee (f:=21) rfl ?_);refine goesL_ (some 7) rfl rfl Tryd.func21 (by kernel_rfl) rfl #[.string (⟨#[3,232]⟩:ByteArray),.string (⟨#[7]⟩:ByteArray)] rfl (by (try simp only [List.map_toArray,List.map_cons,List.map_nil]);first|done|rfl|(simp only [List.length_drop,List.length_take];rfl)) ?_;(with_reducible refine (natural_Divide.calls k (⟨#[3,232]⟩:ByteArray) (⟨#[7]⟩:ByteArray) t273 t274 false _ A1.out).mono ?_);rintro e w24 ⟨rfl,hb⟩;refine ⟨_,rfl,?_⟩;have n0_:=Aside0.mk (below_step (by repeat (first|(with_reducible first|exact HB.out|apply below_alloc|apply pw_below_drewN|apply below_drew1)|exact HB.out)) hb);clear HB;have HB:=n0_;clear n0_;(try clear hb);(try clear hb2);(try clear hk);(try clear hi))|((with_reducible refine gate_callee (f:=26) rfl ?_);refine goesL_ (some 12) rfl rfl Tryd.func26 (by kernel_rfl) rfl #[.string (⟨#[48,48,55]⟩:ByteArray)] rfl (by (try simp only [List.map_toArray,List.map_cons,List.map_nil]);first|done|rfl|(simp only [List.length_drop,List.length_take];rfl)) ?_;(with_reducible refine (natural_Parse.calls k (⟨#[48,48,55]⟩:ByteArray) t276 t277 _ A2.out).mono ?_);rintro e w25 ⟨rfl,hb⟩;refine ⟨_,rfl,?_⟩;have n0_:=Aside0.mk (below_step (by repeat (first|(with_reducible first|exact HB.out|apply below_alloc|apply pw_below_drewN|apply below_drew1)|exact HB.out)) hb);clear HB;have HB:=n0_;clear n0_;(try clear hb);(try clear hb2);(try clear hk);(try clear hi))|((with_reducible refine gate_callee (f:=24) rfl ?_);refine goesL_ (some 15) rfl rfl Tryd.func24 (by kernel_rfl) rfl #[.string (⟨#[255]⟩:ByteArray),.string (⟨#[1]⟩:ByteArray)] rfl (by (try simp only [List.map_toArray,List.map_cons,List.map_nil]);first|done|rfl|(simp only [List.length_drop,List.length_take];rfl)) ?_;(with_reducible refine (natural_Add.calls k (⟨#[255]⟩:ByteArray) (⟨#[1]⟩:ByteArray) t278 _ A3.out).mono ?_);rintro e w26 ⟨rfl,hb⟩;refine ⟨_,rfl,?_⟩;have n0_:=Aside0.mk (below_step (by repeat (first|(with_reducible first|exact HB.out|apply below_alloc|apply pw_below_drewN|apply below_drew1)|exact HB.out)) hb);clear HB;have HB:=n0_;clear n0_;(try clear hb);(try clear hb2);(try clear hk);(try clear hi)))
   go_ret
   exact ⟨by first|rfl|(simp [errW_none,errW_some] <;> rfl)|(simp [*,errW_none,errW_some] <;> rfl),by repeat (first|(with_reducible first|exact HB.out|apply below_alloc|apply pw_below_drewN|apply below_drew1)|exact HB.out)⟩
 ·rw [if_neg c4] at H
  have c4b0:(t278.toList == ([1,0]:List UInt8))=false:=beq_eq_false_iff_ne.mpr c4
  have c4b1:(t278.toList != ([1,0]:List UInt8))=true:=bne_iff_ne.mpr c4
  obtain rfl:=Option.some.inj H
  go_enter Tryd.func17,Tryd.ntmps17
  go_wp2_with (first|((with_reducible refine gate_callee (f:=21) rfl ?_);refine goesL_ (some 7) rfl rfl Tryd.func21 (by kernel_rfl) rfl #[.string (⟨#[3,232]⟩:ByteArray),.string (⟨#[7]⟩:ByteArray)] rfl (by (try simp only [List.map_toArray,List.map_cons,List.map_nil]);first|done|rfl|(simp only [List.length_drop,List.length_take];rfl)) ?_;(with_reducible refine (natural_Divide.calls k (⟨#[3,232]⟩:ByteArray) (⟨#[7]⟩:ByteArray) t273 t274 t275 _ A1.out).mono ?_);rintro e w27 ⟨rfl,hb⟩;refine ⟨_,rfl,?_⟩;have n0_:=Aside0.mk (below_step (by repeat (first|(with_reducible first|exact HB.out|apply below_alloc|apply pw_below_drewN|apply below_drew1)|exact HB.out)) hb);clear HB;have HB:=n0_;clear n0_;(try clear hb);(try clear hb2);(try clear hk);(try clear hi))|((with_reducible refine gate_callee (f:=26) rfl ?_);refine goesL_ (some 12) rfl rfl Tryd.func26 (by kernel_rfl) rfl #[.string (⟨#[48,48,55]⟩:ByteArray)] rfl (by (try simp only [List.map_toArray,List.map_cons,List.map_nil]);first|done|rfl|(simp only [List.length_drop,List.length_take];rfl)) ?_;(with_reducible refine (natural_Parse.calls k (⟨#[48,48,55]⟩:ByteArray) t276 t277 _ A2.out).mono ?_);rintro e w28 ⟨rfl,hb⟩;refine ⟨_,rfl,?_⟩;have n0_:=Aside0.mk (below_step (by repeat (first|(with_reducible first|exact HB.out|apply below_alloc|apply pw_below_drewN|apply below_drew1)|exact HB.out)) hb);clear HB;have HB:=n0_;clear n0_;(try clear hb);(try clear hb2);(try clear hk);(try clear hi))|((with_reducible refine gate_callee (f:=24) rfl ?_);refine goesL_ (some 15) rfl rfl Tryd.func24 (by kernel_rfl) rfl #[.string (⟨#[255]⟩:ByteArray),.string (⟨#[1]⟩:ByteArray)] rfl (by (try simp only [List.map_toArray,List.map_cons,List.map_nil]);first|done|rfl|(simp only [List.length_drop,List.length_take];rfl)) ?_;(with_reducible refine (natural_Add.calls k (⟨#[255]⟩:ByteArray) (⟨#[1]⟩:ByteArray) t278 _ A3.out).mono ?_);rintro e w29 ⟨rfl,hb⟩;refine ⟨_,rfl,?_⟩;have n0_:=Aside0.mk (below_step (by repeat (first|(with_reducible first|exact HB.out|apply below_alloc|apply pw_below_drewN|apply below_drew1)|exact HB.out)) hb);clear HB;have HB:=n0_;clear n0_;(try clear hb);(try clear hb2);(try clear hk);(try clear hi)))
  go_ret
  exact ⟨by first|rfl|(simp [errW_none,errW_some] <;> rfl)|(simp [*,errW_none,errW_some] <;> rfl),by repeat (first|(with_reducible first|exact HB.out|apply below_alloc|apply pw_below_drewN|apply below_drew1)|exact HB.out)⟩
end Go.Proofs.YtjaflmhdclmolaaDoor.F
end
section
namespace Go.Proofs.YtjaflmhdclmolaaDoor.F
open Go.RowKit Go.Proofs.YtjaflmhdclmolaaDoorW.PrintWords Go.Proofs.YtjaflmhdclmolaaDoorW.PrintLast Go.Proofs.YtjaflmhdclmolaaDoorW.PrintMore
attribute [local go_sem] max2_int min2_int max_two min_two max_three min_three max_four min_four   
set_option linter.unusedVariables false
set_option linter.unusedSimpArgs false
def insolvencylaw1_few.l0:Nat→List ByteArray→Int→Int→Option (Bool)
 | 0,_,_,_=>none
 | k+1,x5,x6,x7=>if x7<x6 then (if 0≤x7 then (if x7<(x5.length:Int) then (if ((rdOf ByteArray.empty x5 x7).size:Int)>60 then (some false) else (insolvencylaw1_few.l0 k x5 x6 (wrap64 (x7+1)))) else (none)) else (none)) else (some true)
def insolvencylaw1_few.f (k:Nat) (l0:List ByteArray):Option (Bool):=insolvencylaw1_few.l0 k l0 (l0.length:Int) 0
theorem insolvencylaw1_few.mono_l:∀ k,(∀ y0 y1 y2,LeO (insolvencylaw1_few.l0 k y0 y1 y2) (insolvencylaw1_few.l0 (k+1) y0 y1 y2))
 | 0=>fun _ _ _ r h=>by simp [insolvencylaw1_few.l0] at h
 | k+1=>by
  have ih0:=insolvencylaw1_few.mono_l k
  ·intro y0 y1 y2
   unfold insolvencylaw1_few.l0
   repeat' first
   | (with_reducible exact ih0 _ _ _)
   | (with_reducible exact LeO.refl _)
   | (with_reducible exact LeO.none _)
   | (with_reducible refine LeO.ite ?_ ?_)
   | (with_reducible refine LeO.bind ?_ (fun _=>?_))
   | exact ih0 _ _ _
   | exact LeO.none _
   | refine LeO.ite ?_ ?_
   | refine LeO.bind ?_ (fun _=>?_)
theorem insolvencylaw1_few.mono:∀ a0 k,LeO (insolvencylaw1_few.f k a0) (insolvencylaw1_few.f (k+1) a0):=by
 intro a0 k
 have ih0:=insolvencylaw1_few.mono_l k
 unfold insolvencylaw1_few.f
 repeat' first
  | (with_reducible exact ih0 _ _ _)
  | (with_reducible exact LeO.refl _)
  | (with_reducible exact LeO.none _)
  | (with_reducible refine LeO.ite ?_ ?_)
  | (with_reducible refine LeO.bind ?_ (fun _=>?_))
  | exact ih0 _ _ _
  | exact LeO.none _
  | refine LeO.ite ?_ ?_
  | refine LeO.bind ?_ (fun _=>?_)
set_option maxHeartbeats 8000000 in
set_option maxRecDepth 100000 in
theorem insolvencylaw1_few.calls (k:Nat) (A0:Option Addr) (c0:Nat) (l0:List ByteArray) (r:Bool) (w:World) (hr0:Kd.C Kd.string w A0 l0.length l0) (hc0:l0.length≤c0) (h:insolvencylaw1_few.f k l0=some r) :
 Calls Tryd.prog 20 #[.slice A0 l0.length c0] w fun e w'=>e = .returned (.bool r)∧Drawn0 w w':=by
 have HR0:=Aside0.mk hr0
 have HC0:=Aside0.mk hc0
 clear hr0 hc0
 have H:(insolvencylaw1_few.l0 k l0 (l0.length:Int) 0)=some r:=h
 clear h
 have H':=Aside0.mk H
 clear H
 go_enter Tryd.func20,Tryd.ntmps20
 go_wp2
 go_loopg [7] k (fun kq v7 w'=>∃ (x7_1:Int),v7 = .int .i64 x7_1∧Aside0 (insolvencylaw1_few.l0 kq l0 (l0.length:Int) x7_1=some r)∧Aside0 (kq≤k)∧Drawn0 w w')
 case atStart=>exact ⟨(0),(by first|rfl|(simp;done)|(simp [*];done)),H',⟨Nat.le_refl _⟩,by repeat (first|exact Drawn0.refl _|apply Drawn0.step)⟩
 case round=>
  clear H'
  obtain ⟨x7_1,rfl,HA,HK1,⟨m1,rfl⟩⟩:=hrel
  cases gk with
  | zero=>exact absurd HA.out (by simp [insolvencylaw1_few.l0])
  | succ k1=>
   have H:=HA.out
   clear HA
   simp only [insolvencylaw1_few.l0] at H
   by_cases c2:x7_1<(l0.length:Int)
   ·rw [if_pos c2] at H
    have c2b0:decide (x7_1<(l0.length:Int))=true:=decide_eq_true c2
    clear c2
    by_cases c3:0≤x7_1
    ·rw [if_pos c3] at H
     have c3b0:decide (0≤x7_1)=true:=decide_eq_true c3
     clear c3
     by_cases c4:x7_1<(l0.length:Int)
     ·rw [if_pos c4] at H
      have c4b0:decide (x7_1<(l0.length:Int))=true:=decide_eq_true c4
      clear c4
      by_cases c5:((rdOf ByteArray.empty l0 x7_1).size:Int)>60
      ·rw [if_pos c5] at H
       have c5b0:decide (60<((rdOf ByteArray.empty l0 x7_1).size:Int))=true:=decide_eq_true c5
       have c5b1:decide (60<(rdOf ByteArray.empty l0 x7_1).size)=true:=decide_eq_true (by omega)
       clear c5
       obtain rfl:=Option.some.inj H
       have p285:0≤(x7_1:Int):=of_decide_eq_true (by first|(with_reducible assumption)|assumption)
       have q285:x7_1<(l0.length:Int):=of_decide_eq_true (by first|(with_reducible assumption)|assumption)
       obtain ⟨ad285,e285,hx285_0⟩:=Kd.at_string HR0.out x7_1 p285 q285
       cases e285
       replace p285:=eq_true p285
       replace q285:=eq_true q285
       go_wp2
       go_ret
       exact ⟨by first|rfl|(simp;done)|(simp [*];done),by repeat (first|exact Drawn0.refl _|apply Drawn0.step)⟩
      ·rw [if_neg c5] at H
       have c5b0:decide (60<((rdOf ByteArray.empty l0 x7_1).size:Int))=false:=decide_eq_false c5
       have c5b1:decide (60<(rdOf ByteArray.empty l0 x7_1).size)=false:=decide_eq_false (by omega)
       clear c5
       have H':=Aside0.mk H
       clear H
       have p285:0≤(x7_1:Int):=of_decide_eq_true (by first|(with_reducible assumption)|assumption)
       have q285:x7_1<(l0.length:Int):=of_decide_eq_true (by first|(with_reducible assumption)|assumption)
       obtain ⟨ad285,e285,hx285_0⟩:=Kd.at_string HR0.out x7_1 p285 q285
       cases e285
       replace p285:=eq_true p285
       replace q285:=eq_true q285
       go_wp2
       go_roundg k1
       case measure=>have:=HK1.out;omega
       case rel=>exact ⟨(wrap64 (x7_1+1)),(by first|rfl|(simp;done)|(simp [*];done)),H',⟨by have:=HK1.out;omega⟩,by repeat (first|exact Drawn0.refl _|apply Drawn0.step)⟩
     ·rw [if_neg c4] at H
      exact absurd H (by simp)
    ·rw [if_neg c3] at H
     exact absurd H (by simp)
   ·rw [if_neg c2] at H
    have c2b0:decide (x7_1<(l0.length:Int))=false:=decide_eq_false c2
    clear c2
    obtain rfl:=Option.some.inj H
    go_wp2
    go_ret
    exact ⟨by first|rfl|(simp;done)|(simp [*];done),by repeat (first|exact Drawn0.refl _|apply Drawn0.step)⟩
end Go.Proofs.YtjaflmhdclmolaaDoor.F
end
section
namespace Go.Proofs.YtjaflmhdclmolaaDoor.F
open Go.RowKit Go.Proofs.YtjaflmhdclmolaaDoorW.PrintWords Go.Proofs.YtjaflmhdclmolaaDoorW.PrintLast Go.Proofs.YtjaflmhdclmolaaDoorW.PrintMore
attribute [local go_sem] max2_int min2_int max_two min_two max_three min_three max_four min_four   
set_option linter.unusedVariables false
set_option linter.unusedSimpArgs false
def natural_GCD.l0:Nat→List Int→List Int→Option (ByteArray)
 | 0,_,_=>none
 | k+1,x5,x6=>if (x6.length:Int)>0 then ((natural_divide.f k x5 x6).bind fun bt511=>(natural_GCD.l0 k x6 bt511.2)) else ((natural_limbs_text.f k x5).bind fun t517=>(some t517))
def natural_GCD.f (k:Nat) (a0:ByteArray) (a1:ByteArray):Option (ByteArray):=(natural_parse.f k a0).bind fun t505=>((natural_parse.f k a1).bind fun t508=>(natural_GCD.l0 k t505 t508))
theorem natural_GCD.mono_l:∀ k,(∀ y0 y1,LeO (natural_GCD.l0 k y0 y1) (natural_GCD.l0 (k+1) y0 y1))
 | 0=>fun _ _ r h=>by simp [natural_GCD.l0] at h
 | k+1=>by
  have ih0:=natural_GCD.mono_l k
  ·intro y0 y1
   unfold natural_GCD.l0
   repeat' first
   | (with_reducible exact ih0 _ _)
   | (with_reducible exact natural_divide.mono _ _ _)
   | (with_reducible exact natural_limbs_text.mono _ _)
   | (with_reducible exact natural_parse.mono _ _)
   | (with_reducible exact LeO.refl _)
   | (with_reducible exact LeO.none _)
   | (with_reducible refine LeO.ite ?_ ?_)
   | (with_reducible refine LeO.bind ?_ (fun _=>?_))
   | exact ih0 _ _
   | exact natural_divide.mono _ _ _
   | exact natural_limbs_text.mono _ _
   | exact natural_parse.mono _ _
   | exact LeO.none _
   | refine LeO.ite ?_ ?_
   | refine LeO.bind ?_ (fun _=>?_)
theorem natural_GCD.mono:∀ a0 a1 k,LeO (natural_GCD.f k a0 a1) (natural_GCD.f (k+1) a0 a1):=by
 intro a0 a1 k
 have ih0:=natural_GCD.mono_l k
 unfold natural_GCD.f
 repeat' first
  | (with_reducible exact ih0 _ _)
  | (with_reducible exact natural_divide.mono _ _ _)
  | (with_reducible exact natural_limbs_text.mono _ _)
  | (with_reducible exact natural_parse.mono _ _)
  | (with_reducible exact LeO.refl _)
  | (with_reducible exact LeO.none _)
  | (with_reducible refine LeO.ite ?_ ?_)
  | (with_reducible refine LeO.bind ?_ (fun _=>?_))
  | exact ih0 _ _
  | exact natural_divide.mono _ _ _
  | exact natural_limbs_text.mono _ _
  | exact natural_parse.mono _ _
  | exact LeO.none _
  | refine LeO.ite ?_ ?_
  | refine LeO.bind ?_ (fun _=>?_)
set_option maxHeartbeats 8000000 in
set_option maxRecDepth 100000 in
theorem natural_GCD.calls (k:Nat) (a0:ByteArray) (a1:ByteArray) (r:ByteArray) (w:World) (h:natural_GCD.f k a0 a1=some r) :
 Calls Tryd.prog 30 #[.string a0,.string a1] w fun e w'=>e = .returned (.string r)∧Below w.heap.size w w':=by
 have HB:=Aside0.mk (Below.refl w.heap.size w)
 have H:((natural_parse.f k a0).bind fun t505=>((natural_parse.f k a1).bind fun t508=>(natural_GCD.l0 k t505 t508)))=some r:=h
 clear h
 replace H:=Option.bind_eq_some_iff.mp H
 obtain ⟨t505,A30,H⟩:=H
 replace H:((natural_parse.f k a1).bind fun t508=>(natural_GCD.l0 k t505 t508))=some r:=H
 have A3:=Aside0.mk A30
 clear A30
 replace H:=Option.bind_eq_some_iff.mp H
 obtain ⟨t508,A40,H⟩:=H
 replace H:(natural_GCD.l0 k t505 t508)=some r:=H
 have A4:=Aside0.mk A40
 clear A40
 have H':=Aside0.mk H
 clear H
 go_enter Tryd.func30,Tryd.ntmps30
 go_wp2_with (first|((with_reducible refine gate_callee (f:=42) rfl ?_);refine goesL_ (some 10) rfl rfl Tryd.func42 (by kernel_rfl) rfl #[.string a0] rfl (by (try simp only [List.map_toArray,List.map_cons,List.map_nil]);first|done|rfl|(simp only [List.length_drop,List.length_take];rfl)) ?_;(with_reducible refine (natural_parse.calls k a0 t505 _ A3.out).mono ?_);rintro e w5 ⟨v506,rfl,ho0,hb⟩;refine ⟨_,rfl,?_⟩;have n0_:=Aside0.mk (Kd.R_lower ho0 (below_size (by repeat (first|(with_reducible first|exact HB.out|apply below_alloc|apply pw_below_drewN|apply below_drew1)|exact HB.out))));have n1_:=Aside0.mk (below_step (by repeat (first|(with_reducible first|exact HB.out|apply below_alloc|apply pw_below_drewN|apply below_drew1)|exact HB.out)) hb);clear HB;have HO507:=n0_;have HB:=n1_;clear n0_ n1_;(try clear hb);(try clear hb2);(try clear hk);(try clear hi);(try clear ho0))|((with_reducible refine gate_callee (f:=42) rfl ?_);refine goesL_ (some 12) rfl rfl Tryd.func42 (by kernel_rfl) rfl #[.string a1] rfl (by (try simp only [List.map_toArray,List.map_cons,List.map_nil]);first|done|rfl|(simp only [List.length_drop,List.length_take];rfl)) ?_;(with_reducible refine (natural_parse.calls k a1 t508 _ A4.out).mono ?_);rintro e w6 ⟨v509,rfl,ho0,hb⟩;refine ⟨_,rfl,?_⟩;have n0_:=Aside0.mk (Kd.R_elder' (by (with_reducible repeat (first|apply Kd.R_alloc|apply Kd.R_drewN|apply Kd.R_drew));exact HO507.out) (Kd.R_base ho0) hb);have n1_:=Aside0.mk (Kd.R_lower (Kd.R_new' ho0 (Kd.R_lt (by (with_reducible repeat (first|apply Kd.R_alloc|apply Kd.R_drewN|apply Kd.R_drew));exact HO507.out))) (below_size (by repeat (first|(with_reducible first|exact HB.out|apply below_alloc|apply pw_below_drewN|apply below_drew1)|exact HB.out))));have n2_:=Aside0.mk (below_step (by repeat (first|(with_reducible first|exact HB.out|apply below_alloc|apply pw_below_drewN|apply below_drew1)|exact HB.out)) hb);clear HO507;clear HB;have HO507:=n0_;have HO510:=n1_;have HB:=n2_;clear n0_ n1_ n2_;(try clear hb);(try clear hb2);(try clear hk);(try clear hi);(try clear ho0)))
 go_loopg [5,6] k (fun kq v5 v6 w'=>∃ (x5_1:List Int) (x6_1:List Int),Aside0 (natural_GCD.l0 kq x5_1 x6_1=some r)∧Aside0 (kq≤k)∧Aside0 (Kd.R (Kd.int .u32) 60 w' w.heap.size (fun k_=>some k_≠(v6:Value).ownBlock) v5 x5_1)∧Aside0 (Kd.R (Kd.int .u32) 60 w' w.heap.size (fun k_=>some k_≠(v5:Value).ownBlock) v6 x6_1)∧Aside0 (Below w.heap.size w w'))
 case atStart=>exact ⟨(t505),(t508),H',⟨Nat.le_refl _⟩,⟨by (with_reducible repeat (first|apply Kd.R_alloc|apply Kd.R_drewN|apply Kd.R_drew));exact Kd.R_mono HO507.out (fun _ hk=>hk.2)⟩,⟨by (with_reducible repeat (first|apply Kd.R_alloc|apply Kd.R_drewN|apply Kd.R_drew));exact Kd.R_mono HO510.out (fun _ hk=>hk.2)⟩,⟨by repeat (first|(with_reducible first|exact HB.out|apply below_alloc|apply pw_below_drewN|apply below_drew1)|exact HB.out)⟩⟩
 case round=>
  clear H'
  try clear p2
  try clear c3
  try clear c4
  obtain ⟨x5_1,x6_1,HA,HK1,HO_5,HO_6,HB⟩:=hrel
  cases gk with
  | zero=>exact absurd HA.out (by simp [natural_GCD.l0])
  | succ k1=>
   have H:=HA.out
   clear HA
   simp only [natural_GCD.l0] at H
   by_cases c7:(x6_1.length:Int)>0
   ·rw [if_pos c7] at H
    have c7b0:decide (0<(x6_1.length:Int))=true:=decide_eq_true c7
    have c7b1:decide (0<x6_1.length)=true:=decide_eq_true (by omega)
    clear c7
    replace H:=Option.bind_eq_some_iff.mp H
    obtain ⟨⟨t511,t514⟩,A80,H⟩:=H
    replace H:(natural_GCD.l0 k1 x6_1 t514)=some r:=H
    have A8:=Aside0.mk A80
    clear A80
    have H':=Aside0.mk H
    clear H
    obtain ⟨Ao9,co9,eo9⟩:=Kd.R_slice HO_6.out
    subst eo9
    obtain ⟨Ao10,co10,eo10⟩:=Kd.R_slice HO_5.out
    subst eo10
    go_wp2_with (first|((with_reducible refine gate_callee (f:=43) rfl ?_);refine goesL_ (some 19) rfl rfl Tryd.func43 (by kernel_rfl) rfl #[.slice Ao10 x5_1.length co10,.slice Ao9 x6_1.length co9] rfl (by (try simp only [List.map_toArray,List.map_cons,List.map_nil]);first|done|rfl|(simp only [List.length_drop,List.length_take];rfl)) ?_;(with_reducible refine (natural_divide.calls k1 (fun k_=>some k_=(.slice Ao10 x5_1.length co10:Value).ownBlock) (.slice Ao10 x5_1.length co10) x5_1 _ _ x6_1 t511 t514 w _ ?side1 ?side2 ?side3 ?side4 A8.out).mono ?_);(case side1=>repeat (first|(with_reducible first|exact HB.out|apply below_alloc|apply pw_below_drewN|apply below_drew1)|exact HB.out));(case side2=>exact Kd.R_tight rfl HO_5.out);(case side3=>exact Kd.C_kept_own (HO_6.out) (fun k_ hk_ hs_=>(hk_) hs_));(case side4=>exact (Kd.R_reads' HO_6.out).2.1);rintro e w11 ⟨v512,v515,rfl,ho0,ho1,hb,hkp⟩;refine ⟨_,rfl,?_⟩;have n0_:=Aside0.mk (Kd.R_mono (ok':=fun k_=>some k_≠(v512:Value).ownBlock∧some k_≠(v515:Value).ownBlock) (Kd.R_keptB (HO_6.out) hkp (fun k_ hk_ hs_=>(hk_) hs_)) (fun k_ hk_=>⟨fun e_=>Or.elim (ho0.1 k_ e_.symm).1 (fun hs_=>hk_.2.1 hs_) (fun hn_=>Nat.not_le.2 hk_.2.2 hn_),fun e_=>Or.elim (ho1.1 k_ e_.symm).1 (fun hs_=>hk_.2.1 hs_) (fun hn_=>Nat.not_le.2 hk_.2.2 hn_)⟩));have n1_:=Aside0.mk (Kd.R_mono (ok':=fun k_=>some k_≠(v515:Value).ownBlock∧some k_≠(.slice Ao9 x6_1.length co9:Value).ownBlock) ho0 (fun k_ hk_=>⟨hk_.2,Or.elim hk_.1 (fun hs_=>fun e_=>(((HO_6.out).1 k_ e_.symm)) hs_) (fun hn_=>(Kd.fresh' (Kd.R_lt (by (with_reducible repeat (first|apply Kd.R_alloc|apply Kd.R_drewN|apply Kd.R_drew));exact HO_6.out)) k_ hn_))⟩));have n2_:=Aside0.mk (Kd.R_mono (ok':=fun k_=>some k_≠(v512:Value).ownBlock∧some k_≠(.slice Ao9 x6_1.length co9:Value).ownBlock) ho1 (fun k_ hk_=>⟨hk_.2,Or.elim hk_.1 (fun hs_=>fun e_=>(((HO_6.out).1 k_ e_.symm)) hs_) (fun hn_=>(Kd.fresh' (Kd.R_lt (by (with_reducible repeat (first|apply Kd.R_alloc|apply Kd.R_drewN|apply Kd.R_drew));exact HO_6.out)) k_ hn_))⟩));have n3_:=Aside0.mk (hb);clear HO_6;clear HB;clear HO_5;have HO_6:=n0_;have HO513:=n1_;have HO516:=n2_;have HB:=n3_;clear n0_ n1_ n2_ n3_;(try clear hb);(try clear hkp);(try clear ho0);(try clear ho1)))
    go_roundg k1
    case measure=>have:=HK1.out;omega
    case rel=>exact ⟨(x6_1),(t514),H',⟨by have:=HK1.out;omega⟩,⟨by (with_reducible repeat (first|apply Kd.R_alloc|apply Kd.R_drewN|apply Kd.R_drew));exact Kd.R_mono HO_6.out (fun _ hk=>hk.2)⟩,⟨by (with_reducible repeat (first|apply Kd.R_alloc|apply Kd.R_drewN|apply Kd.R_drew));exact Kd.R_mono HO516.out (fun _ hk=>hk.2)⟩,⟨by repeat (first|(with_reducible first|exact HB.out|apply below_alloc|apply pw_below_drewN|apply below_drew1)|exact HB.out)⟩⟩
   ·rw [if_neg c7] at H
    have c7b0:decide (0<(x6_1.length:Int))=false:=decide_eq_false c7
    have c7b1:decide (0<x6_1.length)=false:=decide_eq_false (by omega)
    clear c7
    replace H:=Option.bind_eq_some_iff.mp H
    obtain ⟨t517,A120,H⟩:=H
    replace H:(some t517)=some r:=H
    have A12:=Aside0.mk A120
    clear A120
    obtain rfl:=Option.some.inj H
    obtain ⟨Ao13,co13,eo13⟩:=Kd.R_slice HO_6.out
    subst eo13
    obtain ⟨Ao14,co14,eo14⟩:=Kd.R_slice HO_5.out
    subst eo14
    go_wp2_with (first|((with_reducible refine gate_callee (f:=44) rfl ?_);refine goesL_ (some 25) rfl rfl Tryd.func44 (by kernel_rfl) rfl #[.slice Ao14 x5_1.length co14] rfl (by (try simp only [List.map_toArray,List.map_cons,List.map_nil]);first|done|rfl|(simp only [List.length_drop,List.length_take];rfl)) ?_;(with_reducible refine (natural_limbs_text.calls k1 _ _ x5_1 t517 _ ?side1 ?side2 A12.out).mono ?_);(case side1=>repeat (first|exact (Kd.R_reads' HO_5.out).2.2|(with_reducible refine Kd.C_alloc ?_ _)|(with_reducible refine Kd.C_drewN ?_ _)|(with_reducible refine Kd.C_drew ?_)));(case side2=>exact (Kd.R_reads' HO_5.out).2.1);rintro e w15 ⟨rfl,hb⟩;refine ⟨_,rfl,?_⟩;have n0_:=Aside0.mk (Kd.R_below (by (with_reducible repeat (first|apply Kd.R_alloc|apply Kd.R_drewN|apply Kd.R_drew));exact HO_5.out) hb);have n1_:=Aside0.mk (Kd.R_below (by (with_reducible repeat (first|apply Kd.R_alloc|apply Kd.R_drewN|apply Kd.R_drew));exact HO_6.out) hb);have n2_:=Aside0.mk (below_step (by repeat (first|(with_reducible first|exact HB.out|apply below_alloc|apply pw_below_drewN|apply below_drew1)|exact HB.out)) hb);clear HO_5;clear HO_6;clear HB;have HO_5:=n0_;have HO_6:=n1_;have HB:=n2_;clear n0_ n1_ n2_;(try clear hb);(try clear hb2);(try clear hk);(try clear hi)))
    go_ret
    exact ⟨by first|rfl|(simp [errW_none,errW_some] <;> rfl)|(simp [*,errW_none,errW_some] <;> rfl),by repeat (first|(with_reducible first|exact HB.out|apply below_alloc|apply pw_below_drewN|apply below_drew1)|exact HB.out)⟩
end Go.Proofs.YtjaflmhdclmolaaDoor.F
end
section
namespace Go.Proofs.YtjaflmhdclmolaaDoor.F
open Go.RowKit Go.Proofs.YtjaflmhdclmolaaDoorW.PrintWords Go.Proofs.YtjaflmhdclmolaaDoorW.PrintLast Go.Proofs.YtjaflmhdclmolaaDoorW.PrintMore
attribute [local go_sem] max2_int min2_int max_two min_two max_three min_three max_four min_four   
set_option linter.unusedVariables false
set_option linter.unusedSimpArgs false
mutual
def natural_Multiply.l0:Nat→List Int→List Int→List Int→Int→Int→Option (ByteArray)
 | 0,_,_,_,_,_=>none
 | k+1,x6,x7,x24,x25,x26=>if x26<x25 then (if 0≤x26 then (if x26<(x24.length:Int) then (natural_Multiply.l1 k x6 x7 x26 (rd x24 x26) 0 x24 x25 x26 x6 (x6.length:Int) 0) else (none)) else (none)) else ((natural_limbs_text.f k x7).bind fun t434=>(some t434))
def natural_Multiply.l1:Nat→List Int→List Int→Int→Int→Int→List Int→Int→Int→List Int→Int→Int→Option (ByteArray)
 | 0,_,_,_,_,_,_,_,_,_,_,_=>none
 | k+1,x6,x7,x8,x9,x10,x24,x25,x26,x31,x32,x33=>if x33<x32 then (if 0≤x33 then (if x33<(x31.length:Int) then (if 0≤(wrap64 (x8+x33)) then (if (wrap64 (x8+x33))<(x7.length:Int) then (natural_Multiply.l1 k x6 (x7.set ((wrap64 (x8+x33)):Int).toNat ((IntKind.u64.wrap ((IntKind.u64.wrap ((IntKind.u64.wrap ((IntKind.u64.wrap (x9))*(IntKind.u64.wrap (rd x31 x33))))+(IntKind.u64.wrap (rd x7 (wrap64 (x8+x33))))))+x10))%4294967296)) x8 x9 ((IntKind.u64.wrap ((IntKind.u64.wrap ((IntKind.u64.wrap ((IntKind.u64.wrap (x9))*(IntKind.u64.wrap (rd x31 x33))))+(IntKind.u64.wrap (rd x7 (wrap64 (x8+x33))))))+x10))/4294967296) x24 x25 x26 x31 x32 (wrap64 (x33+1))) else (none)) else (none)) else (none)) else (none)) else (if 0≤(wrap64 (x8+(x6.length:Int))) then (if (wrap64 (x8+(x6.length:Int)))<(x7.length:Int) then (natural_Multiply.l0 k x6 (x7.set ((wrap64 (x8+(x6.length:Int))):Int).toNat ((x10)%4294967296)) x24 x25 (wrap64 (x26+1))) else (none)) else (none))
end
def natural_Multiply.f (k:Nat) (a0:ByteArray) (a1:ByteArray):Option (ByteArray):=(natural_parse.f k a0).bind fun t425=>((natural_parse.f k a1).bind fun t428=>(if 0≤(wrap64 ((t425.length:Int)+(t428.length:Int))) then (if (wrap64 ((t425.length:Int)+(t428.length:Int)):Int).toNat≤70368744177664 then (natural_Multiply.l0 k t428 (List.replicate (wrap64 ((t425.length:Int)+(t428.length:Int)):Int).toNat 0) t425 (t425.length:Int) 0) else (none)) else (none)))
theorem natural_Multiply.mono_l:∀ k,(∀ y0 y1 y2 y3 y4,LeO (natural_Multiply.l0 k y0 y1 y2 y3 y4) (natural_Multiply.l0 (k+1) y0 y1 y2 y3 y4))∧(∀ y0 y1 y2 y3 y4 y5 y6 y7 y8 y9 y10,LeO (natural_Multiply.l1 k y0 y1 y2 y3 y4 y5 y6 y7 y8 y9 y10) (natural_Multiply.l1 (k+1) y0 y1 y2 y3 y4 y5 y6 y7 y8 y9 y10))
 | 0=>⟨fun _ _ _ _ _ r h=>by simp [natural_Multiply.l0] at h,fun _ _ _ _ _ _ _ _ _ _ _ r h=>by simp [natural_Multiply.l1] at h⟩
 | k+1=>by
  obtain ⟨ih0,ih1⟩:=natural_Multiply.mono_l k
  refine ⟨?_,?_⟩
  ·intro y0 y1 y2 y3 y4
   unfold natural_Multiply.l0
   repeat' first
   | (with_reducible exact ih0 _ _ _ _ _)
   | (with_reducible exact ih1 _ _ _ _ _ _ _ _ _ _ _)
   | (with_reducible exact natural_limbs_text.mono _ _)
   | (with_reducible exact natural_parse.mono _ _)
   | (with_reducible exact LeO.refl _)
   | (with_reducible exact LeO.none _)
   | (with_reducible refine LeO.ite ?_ ?_)
   | (with_reducible refine LeO.bind ?_ (fun _=>?_))
   | exact ih0 _ _ _ _ _
   | exact ih1 _ _ _ _ _ _ _ _ _ _ _
   | exact natural_limbs_text.mono _ _
   | exact natural_parse.mono _ _
   | exact LeO.none _
   | refine LeO.ite ?_ ?_
   | refine LeO.bind ?_ (fun _=>?_)
  ·intro y0 y1 y2 y3 y4 y5 y6 y7 y8 y9 y10
   unfold natural_Multiply.l1
   repeat' first
   | (with_reducible exact ih0 _ _ _ _ _)
   | (with_reducible exact ih1 _ _ _ _ _ _ _ _ _ _ _)
   | (with_reducible exact natural_limbs_text.mono _ _)
   | (with_reducible exact natural_parse.mono _ _)
   | (with_reducible exact LeO.refl _)
   | (with_reducible exact LeO.none _)
   | (with_reducible refine LeO.ite ?_ ?_)
   | (with_reducible refine LeO.bind ?_ (fun _=>?_))
   | exact ih0 _ _ _ _ _
   | exact ih1 _ _ _ _ _ _ _ _ _ _ _
   | exact natural_limbs_text.mono _ _
   | exact natural_parse.mono _ _
   | exact LeO.none _
   | refine LeO.ite ?_ ?_
   | refine LeO.bind ?_ (fun _=>?_)
theorem natural_Multiply.mono:∀ a0 a1 k,LeO (natural_Multiply.f k a0 a1) (natural_Multiply.f (k+1) a0 a1):=by
 intro a0 a1 k
 obtain ⟨ih0,ih1⟩:=natural_Multiply.mono_l k
 unfold natural_Multiply.f
 repeat' first
  | (with_reducible exact ih0 _ _ _ _ _)
  | (with_reducible exact ih1 _ _ _ _ _ _ _ _ _ _ _)
  | (with_reducible exact natural_limbs_text.mono _ _)
  | (with_reducible exact natural_parse.mono _ _)
  | (with_reducible exact LeO.refl _)
  | (with_reducible exact LeO.none _)
  | (with_reducible refine LeO.ite ?_ ?_)
  | (with_reducible refine LeO.bind ?_ (fun _=>?_))
  | exact ih0 _ _ _ _ _
  | exact ih1 _ _ _ _ _ _ _ _ _ _ _
  | exact natural_limbs_text.mono _ _
  | exact natural_parse.mono _ _
  | exact LeO.none _
  | refine LeO.ite ?_ ?_
  | refine LeO.bind ?_ (fun _=>?_)
set_option maxHeartbeats 8000000 in
set_option maxRecDepth 100000 in
theorem natural_Multiply.calls (k:Nat) (a0:ByteArray) (a1:ByteArray) (r:ByteArray) (w:World) (h:natural_Multiply.f k a0 a1=some r) :
 Calls Tryd.prog 25 #[.string a0,.string a1] w fun e w'=>e = .returned (.string r)∧Below w.heap.size w w':=by
 have HB:=Aside0.mk (Below.refl w.heap.size w)
 have H:((natural_parse.f k a0).bind fun t425=>((natural_parse.f k a1).bind fun t428=>(if 0≤(wrap64 ((t425.length:Int)+(t428.length:Int))) then (if (wrap64 ((t425.length:Int)+(t428.length:Int)):Int).toNat≤70368744177664 then (natural_Multiply.l0 k t428 (List.replicate (wrap64 ((t425.length:Int)+(t428.length:Int)):Int).toNat 0) t425 (t425.length:Int) 0) else (none)) else (none))))=some r:=h
 clear h
 replace H:=Option.bind_eq_some_iff.mp H
 obtain ⟨t425,A30,H⟩:=H
 replace H:((natural_parse.f k a1).bind fun t428=>(if 0≤(wrap64 ((t425.length:Int)+(t428.length:Int))) then (if (wrap64 ((t425.length:Int)+(t428.length:Int)):Int).toNat≤70368744177664 then (natural_Multiply.l0 k t428 (List.replicate (wrap64 ((t425.length:Int)+(t428.length:Int)):Int).toNat 0) t425 (t425.length:Int) 0) else (none)) else (none)))=some r:=H
 have A3:=Aside0.mk A30
 clear A30
 replace H:=Option.bind_eq_some_iff.mp H
 obtain ⟨t428,A40,H⟩:=H
 replace H:(if 0≤(wrap64 ((t425.length:Int)+(t428.length:Int))) then (if (wrap64 ((t425.length:Int)+(t428.length:Int)):Int).toNat≤70368744177664 then (natural_Multiply.l0 k t428 (List.replicate (wrap64 ((t425.length:Int)+(t428.length:Int)):Int).toNat 0) t425 (t425.length:Int) 0) else (none)) else (none))=some r:=H
 have A4:=Aside0.mk A40
 clear A40
 obtain ⟨ji5,hji5⟩:∃ j_:Int,(wrap64 ((t425.length:Int)+(t428.length:Int)))=j_:=⟨_,rfl⟩
 replace H:(if 0≤(ji5) then (if (ji5:Int).toNat≤70368744177664 then (natural_Multiply.l0 k t428 (List.replicate (ji5:Int).toNat 0) t425 (t425.length:Int) 0) else (none)) else (none))=some r:=by first|(rw [hji5] at H;exact H)|(simp only [hji5] at H ⊢;exact H)
 (try rw [hji5] at A3)
 (try rw [hji5] at A4)
 have hji5w:(IntKind.i64.wrap ((t425.length:Int)+(t428.length:Int)))=ji5:=(i64_w _).trans hji5
 by_cases c6:0≤(ji5)
 ·rw [if_pos c6] at H
  have c6b0:=eq_true c6
  have c6b1:decide (0≤(ji5))=true:=decide_eq_true c6
  clear c6
  by_cases c7:(ji5:Int).toNat≤70368744177664
  ·rw [if_pos c7] at H
   have c7b0:=eq_true c7
   have c7b1:decide ((ji5:Int).toNat≤70368744177664)=true:=decide_eq_true c7
   clear c7
   obtain ⟨y431,hy431⟩:∃ y_:List Int,y_=(List.replicate (ji5:Int).toNat 0):=⟨_,rfl⟩
   replace H:(natural_Multiply.l0 k t428 y431 t425 (t425.length:Int) 0)=some r:=by first|(rw [hy431];with_reducible exact H)|(have H2_:=(Option.bind_some _ _).symm.trans H;rw [hy431];with_reducible exact H2_)|(have H2_:=(Option.bind_some _ _).symm.trans H;with_reducible exact H2_)|with_reducible exact H|(rw [hy431];exact H)|exact H
   have Ny431:=Aside0.mk hy431
   clear hy431
   have H':=Aside0.mk H
   clear H
   go_enter Tryd.func25,Tryd.ntmps25
   go_wp2_with (first|((with_reducible refine gate_callee (f:=42) rfl ?_);refine goesL_ (some 15) rfl rfl Tryd.func42 (by kernel_rfl) rfl #[.string a0] rfl (by (try simp only [List.map_toArray,List.map_cons,List.map_nil]);first|done|rfl|(simp only [List.length_drop,List.length_take];rfl)) ?_;(with_reducible refine (natural_parse.calls k a0 t425 _ A3.out).mono ?_);rintro e w8 ⟨v426,rfl,ho0,hb⟩;refine ⟨_,rfl,?_⟩;have n0_:=Aside0.mk (Kd.R_lower ho0 (below_size (by repeat (first|(with_reducible first|exact HB.out|apply below_alloc|apply pw_below_drewN|apply below_drew1)|exact HB.out))));have n1_:=Aside0.mk (below_step (by repeat (first|(with_reducible first|exact HB.out|apply below_alloc|apply pw_below_drewN|apply below_drew1)|exact HB.out)) hb);clear HB;have HO427:=n0_;have HB:=n1_;clear n0_ n1_;(try clear hb);(try clear hb2);(try clear hk);(try clear hi);(try clear ho0))|((with_reducible refine gate_callee (f:=42) rfl ?_);refine goesL_ (some 17) rfl rfl Tryd.func42 (by kernel_rfl) rfl #[.string a1] rfl (by (try simp only [List.map_toArray,List.map_cons,List.map_nil]);first|done|rfl|(simp only [List.length_drop,List.length_take];rfl)) ?_;(with_reducible refine (natural_parse.calls k a1 t428 _ A4.out).mono ?_);rintro e w9 ⟨v429,rfl,ho0,hb⟩;refine ⟨_,rfl,?_⟩;have n0_:=Aside0.mk (Kd.R_elder' (by (with_reducible repeat (first|apply Kd.R_alloc|apply Kd.R_drewN|apply Kd.R_drew));exact HO427.out) (Kd.R_base ho0) hb);have n1_:=Aside0.mk (Kd.R_lower (Kd.R_new' ho0 (Kd.R_lt (by (with_reducible repeat (first|apply Kd.R_alloc|apply Kd.R_drewN|apply Kd.R_drew));exact HO427.out))) (below_size (by repeat (first|(with_reducible first|exact HB.out|apply below_alloc|apply pw_below_drewN|apply below_drew1)|exact HB.out))));have n2_:=Aside0.mk (below_step (by repeat (first|(with_reducible first|exact HB.out|apply below_alloc|apply pw_below_drewN|apply below_drew1)|exact HB.out)) hb);clear HO427;clear HB;have HO427:=n0_;have HO430:=n1_;have HB:=n2_;clear n0_ n1_ n2_;(try clear hb);(try clear hb2);(try clear hk);(try clear hi);(try clear ho0);obtain ⟨Ao10,co10,eo10⟩:=Kd.R_slice HO427.out;subst eo10;obtain ⟨Ao11,co11,eo11⟩:=Kd.R_slice HO430.out;subst eo11)|((with_reducible refine gate_dst (N:=23) rfl ?_);refine Kd.R_make (Kd.int .u32) _ 60 rfl (N:=23) rfl 50 _ _ rfl ji5 rfl rfl Tryd.underlying50 (.int .u32 0) 4 info60 rfl (by decide) (by omega) 0 (ok:=fun _=>True) (okp:=fun _=>True) rfl (fun _ hk=>hk) trivial (of_decide_eq_true (by first|(with_reducible assumption)|assumption)) (Nat.le_trans (Nat.mul_le_mul_right _ (of_decide_eq_true (by first|(with_reducible assumption)|assumption):ji5.toNat≤70368744177664)) (by omega)) (Below.refl _ _) (Nat.le_refl _) ?_;intro v432 w12 ho13 hb hg_ hnew_;clear hg_ hnew_;(first|rw [← Ny431.out] at ho13|(simp only [Int.reduceToNat] at ho13;rw [← Ny431.out] at ho13));have n0_:=Aside0.mk (Kd.R_elder' (by (with_reducible repeat (first|apply Kd.R_alloc|apply Kd.R_drewN|apply Kd.R_drew));exact HO427.out) (Kd.R_base ho13) hb);have n1_:=Aside0.mk (Kd.R_elder' (by (with_reducible repeat (first|apply Kd.R_alloc|apply Kd.R_drewN|apply Kd.R_drew));exact HO430.out) (Kd.R_base ho13) hb);have n2_:=Aside0.mk (Kd.R_lower (Kd.R_new' (Kd.R_new' ho13 (Kd.R_lt (by (with_reducible repeat (first|apply Kd.R_alloc|apply Kd.R_drewN|apply Kd.R_drew));exact HO427.out))) (Kd.R_lt (by (with_reducible repeat (first|apply Kd.R_alloc|apply Kd.R_drewN|apply Kd.R_drew));exact HO430.out))) (below_size (by repeat (first|(with_reducible first|exact HB.out|apply below_alloc|apply pw_below_drewN|apply below_drew1)|exact HB.out))));have n3_:=Aside0.mk (below_step (by repeat (first|(with_reducible first|exact HB.out|apply below_alloc|apply pw_below_drewN|apply below_drew1)|exact HB.out)) hb);clear HO427;clear HO430;clear HB;have HO427:=n0_;have HO430:=n1_;have HO433:=n2_;have HB:=n3_;clear n0_ n1_ n2_ n3_;clear hb ho13))
   go_loopg [26] k (fun kq v26 w'=>∃ (x7_1:List Int) (x26_1:Int),v26 = .int .i64 x26_1∧Aside0 (natural_Multiply.l0 kq t428 x7_1 t425 (t425.length:Int) x26_1=some r)∧Aside0 (kq≤k)∧Aside0 (Kd.R (Kd.int .u32) 60 w' w.heap.size (fun k_=>some k_≠(v432:Value).ownBlock∧some k_≠((.slice Ao10 t425.length co10):Value).ownBlock) (.slice Ao11 t428.length co11) t428)∧Aside0 (Kd.R (Kd.int .u32) 60 w' w.heap.size (fun k_=>some k_≠((.slice Ao11 t428.length co11):Value).ownBlock∧some k_≠((.slice Ao10 t425.length co10):Value).ownBlock) v432 x7_1)∧Aside0 (Kd.R (Kd.int .u32) 60 w' w.heap.size (fun k_=>some k_≠((.slice Ao11 t428.length co11):Value).ownBlock∧some k_≠(v432:Value).ownBlock) (.slice Ao10 t425.length co10) t425)∧Aside0 (Below w.heap.size w w'))
   case atStart=>exact ⟨(y431),(0),(by first|rfl|(simp;done)|(simp [*];done)),H',⟨Nat.le_refl _⟩,⟨by (with_reducible repeat (first|apply Kd.R_alloc|apply Kd.R_drewN|apply Kd.R_drew));exact Kd.R_mono HO430.out (fun _ hk=>⟨hk.2,hk.1.2⟩)⟩,⟨by (with_reducible repeat (first|apply Kd.R_alloc|apply Kd.R_drewN|apply Kd.R_drew));exact Kd.R_mono HO433.out (fun _ hk=>⟨hk.2,hk.1.2⟩)⟩,⟨by (with_reducible repeat (first|apply Kd.R_alloc|apply Kd.R_drewN|apply Kd.R_drew));exact Kd.R_mono HO427.out (fun _ hk=>⟨hk.1.2,hk.2⟩)⟩,⟨by repeat (first|(with_reducible first|exact HB.out|apply below_alloc|apply pw_below_drewN|apply below_drew1)|exact HB.out)⟩⟩
   case round=>
    clear H'
    try clear c2
    try clear p2
    try clear c4
    try clear c6
    try clear c6b0
    try clear c6b1
    try clear p6
    try clear c7
    try clear c7b0
    try clear c7b1
    obtain ⟨x7_1,x26_1,rfl,HA,HK1,HO_6,HO_7,HO_24,HB⟩:=hrel
    cases gk with
    | zero=>exact absurd HA.out (by simp [natural_Multiply.l0])
    | succ k1=>
     have H:=HA.out
     clear HA
     simp only [natural_Multiply.l0] at H
     by_cases c14:x26_1<(t425.length:Int)
     ·rw [if_pos c14] at H
      have c14b0:decide (x26_1<(t425.length:Int))=true:=decide_eq_true c14
      clear c14
      by_cases c15:0≤x26_1
      ·rw [if_pos c15] at H
       have c15b0:decide (0≤x26_1)=true:=decide_eq_true c15
       clear c15
       by_cases c16:x26_1<(t425.length:Int)
       ·rw [if_pos c16] at H
        have c16b0:decide (x26_1<(t425.length:Int))=true:=decide_eq_true c16
        clear c16
        have H':=Aside0.mk H
        clear H
        have p435:0≤(x26_1:Int):=of_decide_eq_true (by first|(with_reducible assumption)|assumption)
        have q435:x26_1<(t425.length:Int):=of_decide_eq_true (by first|(with_reducible assumption)|assumption)
        obtain ⟨ad435,e435,hx435_0⟩:=Kd.at_int (Kd.R_reads' HO_24.out).2.2 x26_1 p435 q435
        cases e435
        replace p435:=eq_true p435
        replace q435:=eq_true q435
        go_wp2
        go_loopg [10,33] k1 (fun kq v10 v33 w'=>∃ (x7_2:List Int) (x10_2:Int) (x33_2:Int),v10 = .int .u64 x10_2∧v33 = .int .i64 x33_2∧Aside0 (natural_Multiply.l1 kq t428 x7_2 x26_1 (rd t425 x26_1) x10_2 t425 (t425.length:Int) x26_1 t428 (t428.length:Int) x33_2=some r)∧Aside0 (kq≤k1)∧Aside0 (Kd.R (Kd.int .u32) 60 w' w.heap.size (fun k_=>some k_≠(v432:Value).ownBlock∧some k_≠((.slice (some ad435) t425.length co10):Value).ownBlock) (.slice Ao11 t428.length co11) t428)∧Aside0 (Kd.R (Kd.int .u32) 60 w' w.heap.size (fun k_=>some k_≠((.slice Ao11 t428.length co11):Value).ownBlock∧some k_≠((.slice (some ad435) t425.length co10):Value).ownBlock∧some k_≠((.slice Ao11 t428.length co11):Value).ownBlock) v432 x7_2)∧Aside0 (Kd.R (Kd.int .u32) 60 w' w.heap.size (fun k_=>some k_≠((.slice Ao11 t428.length co11):Value).ownBlock∧some k_≠(v432:Value).ownBlock∧some k_≠((.slice Ao11 t428.length co11):Value).ownBlock) (.slice (some ad435) t425.length co10) t425)∧Aside0 (Kd.R (Kd.int .u32) 60 w' w.heap.size (fun k_=>some k_≠(v432:Value).ownBlock∧some k_≠((.slice (some ad435) t425.length co10):Value).ownBlock) (.slice Ao11 t428.length co11) t428)∧Aside0 (Below w.heap.size w w'))
        case atStart=>exact ⟨(x7_1),(0),(0),(by first|rfl|(simp;done)|(simp [*];done)),(by first|rfl|(simp;done)|(simp [*];done)),H',⟨Nat.le_refl _⟩,⟨by (with_reducible repeat (first|apply Kd.R_alloc|apply Kd.R_drewN|apply Kd.R_drew));exact HO_6.out⟩,⟨by (with_reducible repeat (first|apply Kd.R_alloc|apply Kd.R_drewN|apply Kd.R_drew));exact Kd.R_mono HO_7.out (fun _ hk=>⟨hk.1,⟨hk.2,hk.1⟩⟩)⟩,⟨by (with_reducible repeat (first|apply Kd.R_alloc|apply Kd.R_drewN|apply Kd.R_drew));exact Kd.R_mono HO_24.out (fun _ hk=>⟨hk.1,⟨hk.2,hk.1⟩⟩)⟩,⟨by (with_reducible repeat (first|apply Kd.R_alloc|apply Kd.R_drewN|apply Kd.R_drew));exact HO_6.out⟩,⟨by repeat (first|(with_reducible first|exact HB.out|apply below_alloc|apply pw_below_drewN|apply below_drew1)|exact HB.out)⟩⟩
        case round=>
         clear H'
         try clear c1
         try clear c2
         try clear p2
         try clear c4
         try clear p4
         try clear q4
         try clear hx4
         try clear c6
         try clear c6b0
         try clear c6b1
         try clear p6
         try clear c7
         try clear c7b0
         try clear c7b1
         try clear c14
         try clear c14b0
         try clear c15
         try clear c15b0
         try clear c16
         try clear c16b0
         try clear hx435_0
         try clear p2
         try clear p435
         try clear p6
         try clear q435
         obtain ⟨x7_2,x10_2,x33_2,rfl,rfl,HA,HK2,HO_6,HO_7,HO_24,HO_31,HB⟩:=hrel
         cases gk with
         | zero=>exact absurd HA.out (by simp [natural_Multiply.l1])
         | succ k2=>
          have H:=HA.out
          clear HA
          simp only [natural_Multiply.l1] at H
          by_cases c17:x33_2<(t428.length:Int)
          ·rw [if_pos c17] at H
           have c17b0:decide (x33_2<(t428.length:Int))=true:=decide_eq_true c17
           clear c17
           by_cases c18:0≤x33_2
           ·rw [if_pos c18] at H
            have c18b0:decide (0≤x33_2)=true:=decide_eq_true c18
            clear c18
            by_cases c19:x33_2<(t428.length:Int)
            ·rw [if_pos c19] at H
             have c19b0:decide (x33_2<(t428.length:Int))=true:=decide_eq_true c19
             clear c19
             obtain ⟨ji20,hji20⟩:∃ j_:Int,(wrap64 (x26_1+x33_2))=j_:=⟨_,rfl⟩
             replace H:(if 0≤(ji20) then (if (ji20)<(x7_2.length:Int) then (natural_Multiply.l1 k2 t428 (x7_2.set ((ji20):Int).toNat ((IntKind.u64.wrap ((IntKind.u64.wrap ((IntKind.u64.wrap ((IntKind.u64.wrap ((rd t425 x26_1)))*(IntKind.u64.wrap (rd t428 x33_2))))+(IntKind.u64.wrap (rd x7_2 (ji20)))))+x10_2))%4294967296)) x26_1 (rd t425 x26_1) ((IntKind.u64.wrap ((IntKind.u64.wrap ((IntKind.u64.wrap ((IntKind.u64.wrap ((rd t425 x26_1)))*(IntKind.u64.wrap (rd t428 x33_2))))+(IntKind.u64.wrap (rd x7_2 (ji20)))))+x10_2))/4294967296) t425 (t425.length:Int) x26_1 t428 (t428.length:Int) (wrap64 (x33_2+1))) else (none)) else (none))=some r:=by first|(rw [hji20] at H;exact H)|(simp only [hji20] at H ⊢;exact H)
             have hji20w:(IntKind.i64.wrap (x26_1+x33_2))=ji20:=(i64_w _).trans hji20
             by_cases c21:0≤(ji20)
             ·rw [if_pos c21] at H
              have c21b0:decide (0≤(ji20))=true:=decide_eq_true c21
              clear c21
              by_cases c22:(ji20)<(x7_2.length:Int)
              ·rw [if_pos c22] at H
               have c22b0:decide ((ji20)<(x7_2.length:Int))=true:=decide_eq_true c22
               clear c22
               obtain ⟨y438,hy438⟩:∃ y_:List Int,y_=(x7_2.set ((ji20):Int).toNat ((IntKind.u64.wrap ((IntKind.u64.wrap ((IntKind.u64.wrap ((IntKind.u64.wrap ((rd t425 x26_1)))*(IntKind.u64.wrap (rd t428 x33_2))))+(IntKind.u64.wrap (rd x7_2 (ji20)))))+x10_2))%4294967296)):=⟨_,rfl⟩
               replace H:(natural_Multiply.l1 k2 t428 y438 x26_1 (rd t425 x26_1) ((IntKind.u64.wrap ((IntKind.u64.wrap ((IntKind.u64.wrap ((IntKind.u64.wrap ((rd t425 x26_1)))*(IntKind.u64.wrap (rd t428 x33_2))))+(IntKind.u64.wrap (rd x7_2 (ji20)))))+x10_2))/4294967296) t425 (t425.length:Int) x26_1 t428 (t428.length:Int) (wrap64 (x33_2+1)))=some r:=by first|(rw [hy438];with_reducible exact H)|(have H2_:=(Option.bind_some _ _).symm.trans H;rw [hy438];with_reducible exact H2_)|(have H2_:=(Option.bind_some _ _).symm.trans H;with_reducible exact H2_)|with_reducible exact H|(rw [hy438];exact H)|exact H
               have Ny438:=Aside0.mk hy438
               clear hy438
               have H':=Aside0.mk H
               clear H
               have p436:0≤(x33_2:Int):=of_decide_eq_true (by first|(with_reducible assumption)|assumption)
               have q436:x33_2<(t428.length:Int):=of_decide_eq_true (by first|(with_reducible assumption)|assumption)
               obtain ⟨ad436,e436,hx436_0⟩:=Kd.at_int (Kd.R_reads' HO_31.out).2.2 x33_2 p436 q436
               cases e436
               replace p436:=eq_true p436
               replace q436:=eq_true q436
               obtain ⟨Ao24,co24,eo24⟩:=Kd.R_slice HO_7.out
               subst eo24
               have p437:0≤((ji20):Int):=of_decide_eq_true (by first|(with_reducible assumption)|assumption)
               have q437:(ji20)<(x7_2.length:Int):=of_decide_eq_true (by first|(with_reducible assumption)|assumption)
               obtain ⟨ad437,e437,hx437_0⟩:=Kd.at_int (Kd.R_reads' HO_7.out).2.2 (ji20) p437 q437
               cases e437
               replace p437:=eq_true p437
               replace q437:=eq_true q437
               have p23:0≤((ji20):Int):=of_decide_eq_true (by first|(with_reducible assumption)|assumption)
               have q23:((ji20):Int)<((x7_2.length:Int):Int):=of_decide_eq_true (by first|(with_reducible assumption)|assumption)
               obtain ⟨go23,co23,eo23,gb23,gl23,cl23,HG23⟩:=Kd.R_form HO_7.out (by omega)
               (first|cases eo23|(injection eo23 with ea_ en_ ec_;(first|subst ea_|(injection ea_ with ea_;subst ea_));subst ec_;clear en_))
               have GB23:=Aside0.mk gb23
               have GG23:=Aside0.mk HG23
               clear gb23 gl23 HG23
               (first|simp only [add_plain] at hx437_0|skip)
               obtain ⟨hx23_0,hf23_0⟩:=Kd.R_celln 0 HO_7.out ((ji20):Int) p23 q23
               replace p23:=eq_true p23
               replace q23:=eq_true q23
               have HP25:=Kd.R_putg HO_7.out ((ji20):Int) ((IntKind.u64.wrap ((IntKind.u64.wrap ((IntKind.u64.wrap ((IntKind.u64.wrap ((rd t425 x26_1)))*(IntKind.u64.wrap (rd t428 x33_2))))+(IntKind.u64.wrap (rd x7_2 (ji20)))))+x10_2))%4294967296)
               go_wp2_with (first|((with_reducible refine gate_store (t:=60) (p:=59) rfl ?_);refine store_event (t:=60) (p:=59) (v:=?vo_w26) (w1:=(wr.setCell ⟨go23,((ji20):Int).toNat,none⟩ (.int .u32 ((IntKind.u64.wrap ((IntKind.u64.wrap ((IntKind.u64.wrap ((IntKind.u64.wrap ((rd t425 x26_1)))*(IntKind.u64.wrap (rd t428 x33_2))))+(IntKind.u64.wrap (rd x7_2 (ji20)))))+x10_2))%4294967296)))) ?hg ?ho ?hn ?hr ?_;(case ho=>rfl);(case hg=>rfl);(case hn=>rfl);(case hr=>first|(go_simp;done)|(go_simp;rfl));intro w26 hw;have hg:wr.grownBy w26 (some go23):=(by rw [hw];exact HP25.2);have hp_:Kd.R (Kd.int .u32) 60 w26 w.heap.size (fun k_=>some k_≠(.slice (some ad436) t428.length co11:Value).ownBlock∧some k_≠(.slice (some ad435) t425.length co10:Value).ownBlock∧some k_≠(.slice (some ad436) t428.length co11:Value).ownBlock) (.slice (some ⟨go23,0,none⟩) x7_2.length co24) y438:=(by rw [hw,Ny438.out];exact HP25.1);clear HP25;have n0_:=Aside0.mk (Kd.R_after (v:=(.slice (some ⟨go23,0,none⟩) x7_2.length co24)) (v1:=(.slice (some ⟨go23,0,none⟩) x7_2.length co24)) (ok:=(fun k_=>some k_≠(.slice (some ad435) t425.length co10:Value).ownBlock)) (by (with_reducible repeat (first|apply Kd.R_alloc|apply Kd.R_drewN|apply Kd.R_drew));exact Kd.R_mono HO_6.out (fun _ hk=>⟨hk.2,hk.1⟩)) hg (.inl rfl));have n1_:=Aside0.mk (hp_);have n2_:=Aside0.mk (Kd.R_after (v:=(.slice (some ⟨go23,0,none⟩) x7_2.length co24)) (v1:=(.slice (some ⟨go23,0,none⟩) x7_2.length co24)) (ok:=(fun k_=>some k_≠(.slice (some ad436) t428.length co11:Value).ownBlock∧some k_≠(.slice (some ad436) t428.length co11:Value).ownBlock)) (by (with_reducible repeat (first|apply Kd.R_alloc|apply Kd.R_drewN|apply Kd.R_drew));exact Kd.R_mono HO_24.out (fun _ hk=>⟨⟨hk.1,hk.2.2⟩,hk.2.1⟩)) hg (.inl rfl));have n3_:=Aside0.mk (Kd.R_after (v:=(.slice (some ⟨go23,0,none⟩) x7_2.length co24)) (v1:=(.slice (some ⟨go23,0,none⟩) x7_2.length co24)) (ok:=(fun k_=>some k_≠(.slice (some ad435) t425.length co10:Value).ownBlock)) (by (with_reducible repeat (first|apply Kd.R_alloc|apply Kd.R_drewN|apply Kd.R_drew));exact Kd.R_mono HO_31.out (fun _ hk=>⟨hk.2,hk.1⟩)) hg (.inl rfl));have n4_:=Aside0.mk ((by rw [hw];exact below_set (HB.out) GB23.out:Below w.heap.size w w26));clear HO_6;clear HO_7;clear HO_24;clear HO_31;clear HB;have HO_6:=n0_;have HO_7:=n1_;have HO_24:=n2_;have HO_31:=n3_;have HB:=n4_;clear n0_ n1_ n2_ n3_ n4_;clear hg hw hp_))
               go_roundg k2
               case measure=>have:=HK1.out;have:=HK2.out;omega
               case rel=>exact ⟨(y438),((IntKind.u64.wrap ((IntKind.u64.wrap ((IntKind.u64.wrap ((IntKind.u64.wrap ((rd t425 x26_1)))*(IntKind.u64.wrap (rd t428 x33_2))))+(IntKind.u64.wrap (rd x7_2 (ji20)))))+x10_2))/4294967296),(wrap64 (x33_2+1)),(by first|rfl|(simp;done)|(simp only [← hji20] <;> (first|rfl|simp))|(simp [*];done)),(by first|rfl|(simp;done)|(simp [*];done)),H',⟨by have:=HK1.out;have:=HK2.out;omega⟩,⟨by (with_reducible repeat (first|apply Kd.R_alloc|apply Kd.R_drewN|apply Kd.R_drew));exact Kd.R_mono HO_6.out (fun _ hk=>⟨hk.2,hk.1⟩)⟩,⟨by (with_reducible repeat (first|apply Kd.R_alloc|apply Kd.R_drewN|apply Kd.R_drew));exact HO_7.out⟩,⟨by (with_reducible repeat (first|apply Kd.R_alloc|apply Kd.R_drewN|apply Kd.R_drew));exact Kd.R_mono HO_24.out (fun _ hk=>⟨hk.1.1,⟨hk.2,hk.1.2⟩⟩)⟩,⟨by (with_reducible repeat (first|apply Kd.R_alloc|apply Kd.R_drewN|apply Kd.R_drew));exact Kd.R_mono HO_31.out (fun _ hk=>⟨hk.2,hk.1⟩)⟩,⟨by repeat (first|(with_reducible first|exact HB.out|apply below_alloc|apply pw_below_drewN|apply below_drew1)|exact HB.out)⟩⟩
              ·rw [if_neg c22] at H
               exact absurd H (by simp)
             ·rw [if_neg c21] at H
              exact absurd H (by simp)
            ·rw [if_neg c19] at H
             exact absurd H (by simp)
           ·rw [if_neg c18] at H
            exact absurd H (by simp)
          ·rw [if_neg c17] at H
           have c17b0:decide (x33_2<(t428.length:Int))=false:=decide_eq_false c17
           clear c17
           obtain ⟨ji27,hji27⟩:∃ j_:Int,(wrap64 (x26_1+(t428.length:Int)))=j_:=⟨_,rfl⟩
           replace H:(if 0≤(ji27) then (if (ji27)<(x7_2.length:Int) then (natural_Multiply.l0 k2 t428 (x7_2.set ((ji27):Int).toNat ((x10_2)%4294967296)) t425 (t425.length:Int) (wrap64 (x26_1+1))) else (none)) else (none))=some r:=by first|(rw [hji27] at H;exact H)|(simp only [hji27] at H ⊢;exact H)
           have hji27w:(IntKind.i64.wrap (x26_1+(t428.length:Int)))=ji27:=(i64_w _).trans hji27
           by_cases c28:0≤(ji27)
           ·rw [if_pos c28] at H
            have c28b0:decide (0≤(ji27))=true:=decide_eq_true c28
            clear c28
            by_cases c29:(ji27)<(x7_2.length:Int)
            ·rw [if_pos c29] at H
             have c29b0:decide ((ji27)<(x7_2.length:Int))=true:=decide_eq_true c29
             clear c29
             obtain ⟨y439,hy439⟩:∃ y_:List Int,y_=(x7_2.set ((ji27):Int).toNat ((x10_2)%4294967296)):=⟨_,rfl⟩
             replace H:(natural_Multiply.l0 k2 t428 y439 t425 (t425.length:Int) (wrap64 (x26_1+1)))=some r:=by first|(rw [hy439];with_reducible exact H)|(have H2_:=(Option.bind_some _ _).symm.trans H;rw [hy439];with_reducible exact H2_)|(have H2_:=(Option.bind_some _ _).symm.trans H;with_reducible exact H2_)|with_reducible exact H|(rw [hy439];exact H)|exact H
             have Ny439:=Aside0.mk hy439
             clear hy439
             have H':=Aside0.mk H
             clear H
             have p30:0≤((ji27):Int):=of_decide_eq_true (by first|(with_reducible assumption)|assumption)
             have q30:((ji27):Int)<((x7_2.length:Int):Int):=of_decide_eq_true (by first|(with_reducible assumption)|assumption)
             obtain ⟨go30,co30,eo30,gb30,gl30,cl30,HG30⟩:=Kd.R_form HO_7.out (by omega)
             (first|cases eo30|(injection eo30 with ea_ en_ ec_;(first|subst ea_|(injection ea_ with ea_;subst ea_));subst ec_;clear en_))
             have GB30:=Aside0.mk gb30
             have GG30:=Aside0.mk HG30
             clear gb30 gl30 HG30
             obtain ⟨hx30_0,hf30_0⟩:=Kd.R_celln 0 HO_7.out ((ji27):Int) p30 q30
             replace p30:=eq_true p30
             replace q30:=eq_true q30
             have HP31:=Kd.R_putg HO_7.out ((ji27):Int) ((x10_2)%4294967296)
             go_wp2_with (first|((with_reducible refine gate_store (t:=60) (p:=70) rfl ?_);refine store_event (t:=60) (p:=70) (v:=?vo_w32) (w1:=(wr.setCell ⟨go30,((ji27):Int).toNat,none⟩ (.int .u32 ((x10_2)%4294967296)))) ?hg ?ho ?hn ?hr ?_;(case ho=>rfl);(case hg=>rfl);(case hn=>rfl);(case hr=>first|(go_simp;done)|(go_simp;rfl));intro w32 hw;have hg:wr.grownBy w32 (some go30):=(by rw [hw];exact HP31.2);have hp_:Kd.R (Kd.int .u32) 60 w32 w.heap.size (fun k_=>some k_≠(.slice Ao11 t428.length co11:Value).ownBlock∧some k_≠(.slice (some ad435) t425.length co10:Value).ownBlock∧some k_≠(.slice Ao11 t428.length co11:Value).ownBlock) (.slice (some ⟨go30,0,none⟩) x7_2.length co30) y439:=(by rw [hw,Ny439.out];exact HP31.1);clear HP31;have n0_:=Aside0.mk (Kd.R_after (v:=(.slice (some ⟨go30,0,none⟩) x7_2.length co30)) (v1:=(.slice (some ⟨go30,0,none⟩) x7_2.length co30)) (ok:=(fun k_=>some k_≠(.slice (some ad435) t425.length co10:Value).ownBlock)) (by (with_reducible repeat (first|apply Kd.R_alloc|apply Kd.R_drewN|apply Kd.R_drew));exact Kd.R_mono HO_6.out (fun _ hk=>⟨hk.2,hk.1⟩)) hg (.inl rfl));have n1_:=Aside0.mk (hp_);have n2_:=Aside0.mk (Kd.R_after (v:=(.slice (some ⟨go30,0,none⟩) x7_2.length co30)) (v1:=(.slice (some ⟨go30,0,none⟩) x7_2.length co30)) (ok:=(fun k_=>some k_≠(.slice Ao11 t428.length co11:Value).ownBlock∧some k_≠(.slice Ao11 t428.length co11:Value).ownBlock)) (by (with_reducible repeat (first|apply Kd.R_alloc|apply Kd.R_drewN|apply Kd.R_drew));exact Kd.R_mono HO_24.out (fun _ hk=>⟨⟨hk.1,hk.2.2⟩,hk.2.1⟩)) hg (.inl rfl));have n3_:=Aside0.mk (Kd.R_after (v:=(.slice (some ⟨go30,0,none⟩) x7_2.length co30)) (v1:=(.slice (some ⟨go30,0,none⟩) x7_2.length co30)) (ok:=(fun k_=>some k_≠(.slice (some ad435) t425.length co10:Value).ownBlock)) (by (with_reducible repeat (first|apply Kd.R_alloc|apply Kd.R_drewN|apply Kd.R_drew));exact Kd.R_mono HO_31.out (fun _ hk=>⟨hk.2,hk.1⟩)) hg (.inl rfl));have n4_:=Aside0.mk ((by rw [hw];exact below_set (HB.out) GB30.out:Below w.heap.size w w32));clear HO_6;clear HO_7;clear HO_24;clear HO_31;clear HB;have HO_6:=n0_;have HO_7:=n1_;have HO_24:=n2_;have HO_31:=n3_;have HB:=n4_;clear n0_ n1_ n2_ n3_ n4_;clear hg hw hp_))
             go_roundg k2
             case measure=>have:=HK1.out;have:=HK2.out;omega
             case rel=>exact ⟨(y439),(wrap64 (x26_1+1)),(by first|rfl|(simp;done)|(simp [*];done)),H',⟨by have:=HK1.out;have:=HK2.out;omega⟩,⟨by (with_reducible repeat (first|apply Kd.R_alloc|apply Kd.R_drewN|apply Kd.R_drew));exact Kd.R_mono HO_6.out (fun _ hk=>⟨hk.2,hk.1⟩)⟩,⟨by (with_reducible repeat (first|apply Kd.R_alloc|apply Kd.R_drewN|apply Kd.R_drew));exact Kd.R_mono HO_7.out (fun _ hk=>⟨hk.1,hk.2.1⟩)⟩,⟨by (with_reducible repeat (first|apply Kd.R_alloc|apply Kd.R_drewN|apply Kd.R_drew));exact Kd.R_mono HO_24.out (fun _ hk=>⟨hk.1.1,hk.2⟩)⟩,⟨by repeat (first|(with_reducible first|exact HB.out|apply below_alloc|apply pw_below_drewN|apply below_drew1)|exact HB.out)⟩⟩
            ·rw [if_neg c29] at H
             exact absurd H (by simp)
           ·rw [if_neg c28] at H
            exact absurd H (by simp)
       ·rw [if_neg c16] at H
        exact absurd H (by simp)
      ·rw [if_neg c15] at H
       exact absurd H (by simp)
     ·rw [if_neg c14] at H
      have c14b0:decide (x26_1<(t425.length:Int))=false:=decide_eq_false c14
      clear c14
      replace H:=Option.bind_eq_some_iff.mp H
      obtain ⟨t434,A330,H⟩:=H
      replace H:(some t434)=some r:=H
      have A33:=Aside0.mk A330
      clear A330
      obtain rfl:=Option.some.inj H
      obtain ⟨Ao34,co34,eo34⟩:=Kd.R_slice HO_7.out
      subst eo34
      go_wp2_with (first|((with_reducible refine gate_callee (f:=44) rfl ?_);refine goesL_ (some 73) rfl rfl Tryd.func44 (by kernel_rfl) rfl #[.slice Ao34 x7_1.length co34] rfl (by (try simp only [List.map_toArray,List.map_cons,List.map_nil]);first|done|rfl|(simp only [List.length_drop,List.length_take];rfl)) ?_;(with_reducible refine (natural_limbs_text.calls k1 _ _ x7_1 t434 _ ?side1 ?side2 A33.out).mono ?_);(case side1=>repeat (first|exact (Kd.R_reads' HO_7.out).2.2|(with_reducible refine Kd.C_alloc ?_ _)|(with_reducible refine Kd.C_drewN ?_ _)|(with_reducible refine Kd.C_drew ?_)));(case side2=>exact (Kd.R_reads' HO_7.out).2.1);rintro e w35 ⟨rfl,hb⟩;refine ⟨_,rfl,?_⟩;have n0_:=Aside0.mk (Kd.R_below (by (with_reducible repeat (first|apply Kd.R_alloc|apply Kd.R_drewN|apply Kd.R_drew));exact HO_6.out) hb);have n1_:=Aside0.mk (Kd.R_below (by (with_reducible repeat (first|apply Kd.R_alloc|apply Kd.R_drewN|apply Kd.R_drew));exact HO_7.out) hb);have n2_:=Aside0.mk (Kd.R_below (by (with_reducible repeat (first|apply Kd.R_alloc|apply Kd.R_drewN|apply Kd.R_drew));exact HO_24.out) hb);have n3_:=Aside0.mk (below_step (by repeat (first|(with_reducible first|exact HB.out|apply below_alloc|apply pw_below_drewN|apply below_drew1)|exact HB.out)) hb);clear HO_6;clear HO_7;clear HO_24;clear HB;have HO_6:=n0_;have HO_7:=n1_;have HO_24:=n2_;have HB:=n3_;clear n0_ n1_ n2_ n3_;(try clear hb);(try clear hb2);(try clear hk);(try clear hi)))
      go_ret
      exact ⟨by first|rfl|(simp [errW_none,errW_some] <;> rfl)|(simp only [← hji5];first|rfl|(simp [errW_none,errW_some] <;> rfl))|(simp [*,errW_none,errW_some] <;> rfl),by repeat (first|(with_reducible first|exact HB.out|apply below_alloc|apply pw_below_drewN|apply below_drew1)|exact HB.out)⟩
  ·rw [if_neg c7] at H
   exact absurd H (by simp)
 ·rw [if_neg c6] at H
  exact absurd H (by simp)
end Go.Proofs.YtjaflmhdclmolaaDoor.F
end
section
namespace Go.Proofs.YtjaflmhdclmolaaDoor.F
open Go.RowKit Go.Proofs.YtjaflmhdclmolaaDoorW.PrintWords Go.Proofs.YtjaflmhdclmolaaDoorW.PrintLast Go.Proofs.YtjaflmhdclmolaaDoorW.PrintMore
attribute [local go_sem] max2_int min2_int max_two min_two max_three min_three max_four min_four   
set_option linter.unusedVariables false
set_option linter.unusedSimpArgs false
def insolvencylaw1_NaturalDivisors.f (k:Nat) (a0:ByteArray) (a1:ByteArray) (a2:ByteArray):Option (Bool):=(insolvencylaw1_few.f k (([a0,a1,a2]:List ByteArray))).bind fun t731=>(if t731=true then ((natural_GCD.f k a0 a1).bind fun t733=>((natural_Divide.f k a0 t733).bind fun bt734=>((natural_Divide.f k a1 t733).bind fun bt737=>((insolvencylaw1_awake.f k).bind fun t740=>(if t740=true then (if bt734.2.1.toList=([]:List UInt8) then (if bt737.2.1.toList=([]:List UInt8) then ((natural_Multiply.f k a0 a2).bind fun t741=>((natural_Multiply.f k a1 a2).bind fun t742=>((natural_GCD.f k t741 t742).bind fun t743=>((natural_Multiply.f k t733 a2).bind fun t744=>(if t743.toList=t744.toList then ((natural_GCD.f k a1 a0).bind fun t745=>(some (t745.toList == t733.toList))) else (some false)))))) else (some false)) else (some false)) else (some false)))))) else ((insolvencylaw1_awake.f k).bind fun t732=>(some t732)))
theorem insolvencylaw1_NaturalDivisors.mono:∀ a0 a1 a2 k,LeO (insolvencylaw1_NaturalDivisors.f k a0 a1 a2) (insolvencylaw1_NaturalDivisors.f (k+1) a0 a1 a2):=by
 intro a0 a1 a2 k
 unfold insolvencylaw1_NaturalDivisors.f
 repeat' first
  | (with_reducible exact insolvencylaw1_awake.mono _)
  | (with_reducible exact insolvencylaw1_few.mono _ _)
  | (with_reducible exact natural_Divide.mono _ _ _)
  | (with_reducible exact natural_GCD.mono _ _ _)
  | (with_reducible exact natural_Multiply.mono _ _ _)
  | (with_reducible exact LeO.refl _)
  | (with_reducible exact LeO.none _)
  | (with_reducible refine LeO.ite ?_ ?_)
  | (with_reducible refine LeO.bind ?_ (fun _=>?_))
  | exact insolvencylaw1_awake.mono _
  | exact insolvencylaw1_few.mono _ _
  | exact natural_Divide.mono _ _ _
  | exact natural_GCD.mono _ _ _
  | exact natural_Multiply.mono _ _ _
  | exact LeO.none _
  | refine LeO.ite ?_ ?_
  | refine LeO.bind ?_ (fun _=>?_)
set_option maxHeartbeats 8000000 in
set_option maxRecDepth 100000 in
theorem insolvencylaw1_NaturalDivisors.calls (k:Nat) (a0:ByteArray) (a1:ByteArray) (a2:ByteArray) (r:Bool) (w:World) (h:insolvencylaw1_NaturalDivisors.f k a0 a1 a2=some r) :
 Calls Tryd.prog 16 #[.string a0,.string a1,.string a2] w fun e w'=>e = .returned (.bool r)∧Below w.heap.size w w':=by
 have HB:=Aside0.mk (Below.refl w.heap.size w)
 have H:((insolvencylaw1_few.f k (([a0,a1,a2]:List ByteArray))).bind fun t731=>(if t731=true then ((natural_GCD.f k a0 a1).bind fun t733=>((natural_Divide.f k a0 t733).bind fun bt734=>((natural_Divide.f k a1 t733).bind fun bt737=>((insolvencylaw1_awake.f k).bind fun t740=>(if t740=true then (if bt734.2.1.toList=([]:List UInt8) then (if bt737.2.1.toList=([]:List UInt8) then ((natural_Multiply.f k a0 a2).bind fun t741=>((natural_Multiply.f k a1 a2).bind fun t742=>((natural_GCD.f k t741 t742).bind fun t743=>((natural_Multiply.f k t733 a2).bind fun t744=>(if t743.toList=t744.toList then ((natural_GCD.f k a1 a0).bind fun t745=>(some (t745.toList == t733.toList))) else (some false)))))) else (some false)) else (some false)) else (some false)))))) else ((insolvencylaw1_awake.f k).bind fun t732=>(some t732))))=some r:=h
 clear h
 obtain ⟨y728,hy728⟩:∃ y_:List ByteArray,y_=(([a0,a1,a2]:List ByteArray)):=⟨_,rfl⟩
 replace H:((insolvencylaw1_few.f k y728).bind fun t731=>(if t731=true then ((natural_GCD.f k a0 a1).bind fun t733=>((natural_Divide.f k a0 t733).bind fun bt734=>((natural_Divide.f k a1 t733).bind fun bt737=>((insolvencylaw1_awake.f k).bind fun t740=>(if t740=true then (if bt734.2.1.toList=([]:List UInt8) then (if bt737.2.1.toList=([]:List UInt8) then ((natural_Multiply.f k a0 a2).bind fun t741=>((natural_Multiply.f k a1 a2).bind fun t742=>((natural_GCD.f k t741 t742).bind fun t743=>((natural_Multiply.f k t733 a2).bind fun t744=>(if t743.toList=t744.toList then ((natural_GCD.f k a1 a0).bind fun t745=>(some (t745.toList == t733.toList))) else (some false)))))) else (some false)) else (some false)) else (some false)))))) else ((insolvencylaw1_awake.f k).bind fun t732=>(some t732))))=some r:=by first|(rw [hy728];with_reducible exact H)|(have H2_:=(Option.bind_some _ _).symm.trans H;rw [hy728];with_reducible exact H2_)|(have H2_:=(Option.bind_some _ _).symm.trans H;with_reducible exact H2_)|with_reducible exact H|(rw [hy728];exact H)|exact H
 have Ny728:=Aside0.mk hy728
 clear hy728
 replace H:=Option.bind_eq_some_iff.mp H
 obtain ⟨t731,A40,H⟩:=H
 replace H:(if t731=true then ((natural_GCD.f k a0 a1).bind fun t733=>((natural_Divide.f k a0 t733).bind fun bt734=>((natural_Divide.f k a1 t733).bind fun bt737=>((insolvencylaw1_awake.f k).bind fun t740=>(if t740=true then (if bt734.2.1.toList=([]:List UInt8) then (if bt737.2.1.toList=([]:List UInt8) then ((natural_Multiply.f k a0 a2).bind fun t741=>((natural_Multiply.f k a1 a2).bind fun t742=>((natural_GCD.f k t741 t742).bind fun t743=>((natural_Multiply.f k t733 a2).bind fun t744=>(if t743.toList=t744.toList then ((natural_GCD.f k a1 a0).bind fun t745=>(some (t745.toList == t733.toList))) else (some false)))))) else (some false)) else (some false)) else (some false)))))) else ((insolvencylaw1_awake.f k).bind fun t732=>(some t732)))=some r:=H
 have A4:=Aside0.mk A40
 clear A40
 by_cases c5:t731=true
 ·subst c5
  have H1:((natural_GCD.f k a0 a1).bind fun t733=>((natural_Divide.f k a0 t733).bind fun bt734=>((natural_Divide.f k a1 t733).bind fun bt737=>((insolvencylaw1_awake.f k).bind fun t740=>(if t740=true then (if bt734.2.1.toList=([]:List UInt8) then (if bt737.2.1.toList=([]:List UInt8) then ((natural_Multiply.f k a0 a2).bind fun t741=>((natural_Multiply.f k a1 a2).bind fun t742=>((natural_GCD.f k t741 t742).bind fun t743=>((natural_Multiply.f k t733 a2).bind fun t744=>(if t743.toList=t744.toList then ((natural_GCD.f k a1 a0).bind fun t745=>(some (t745.toList == t733.toList))) else (some false)))))) else (some false)) else (some false)) else (some false))))))=some r:=by rw [if_pos rfl] at H;exact H
  clear H
  have H:=H1
  clear H1
  replace H:=Option.bind_eq_some_iff.mp H
  obtain ⟨t733,A60,H⟩:=H
  replace H:((natural_Divide.f k a0 t733).bind fun bt734=>((natural_Divide.f k a1 t733).bind fun bt737=>((insolvencylaw1_awake.f k).bind fun t740=>(if t740=true then (if bt734.2.1.toList=([]:List UInt8) then (if bt737.2.1.toList=([]:List UInt8) then ((natural_Multiply.f k a0 a2).bind fun t741=>((natural_Multiply.f k a1 a2).bind fun t742=>((natural_GCD.f k t741 t742).bind fun t743=>((natural_Multiply.f k t733 a2).bind fun t744=>(if t743.toList=t744.toList then ((natural_GCD.f k a1 a0).bind fun t745=>(some (t745.toList == t733.toList))) else (some false)))))) else (some false)) else (some false)) else (some false)))))=some r:=H
  have A6:=Aside0.mk A60
  clear A60
  replace H:=Option.bind_eq_some_iff.mp H
  obtain ⟨⟨t734,t735,t736⟩,A70,H⟩:=H
  replace H:((natural_Divide.f k a1 t733).bind fun bt737=>((insolvencylaw1_awake.f k).bind fun t740=>(if t740=true then (if t735.toList=([]:List UInt8) then (if bt737.2.1.toList=([]:List UInt8) then ((natural_Multiply.f k a0 a2).bind fun t741=>((natural_Multiply.f k a1 a2).bind fun t742=>((natural_GCD.f k t741 t742).bind fun t743=>((natural_Multiply.f k t733 a2).bind fun t744=>(if t743.toList=t744.toList then ((natural_GCD.f k a1 a0).bind fun t745=>(some (t745.toList == t733.toList))) else (some false)))))) else (some false)) else (some false)) else (some false))))=some r:=H
  have A7:=Aside0.mk A70
  clear A70
  replace H:=Option.bind_eq_some_iff.mp H
  obtain ⟨⟨t737,t738,t739⟩,A80,H⟩:=H
  replace H:((insolvencylaw1_awake.f k).bind fun t740=>(if t740=true then (if t735.toList=([]:List UInt8) then (if t738.toList=([]:List UInt8) then ((natural_Multiply.f k a0 a2).bind fun t741=>((natural_Multiply.f k a1 a2).bind fun t742=>((natural_GCD.f k t741 t742).bind fun t743=>((natural_Multiply.f k t733 a2).bind fun t744=>(if t743.toList=t744.toList then ((natural_GCD.f k a1 a0).bind fun t745=>(some (t745.toList == t733.toList))) else (some false)))))) else (some false)) else (some false)) else (some false)))=some r:=H
  have A8:=Aside0.mk A80
  clear A80
  replace H:=Option.bind_eq_some_iff.mp H
  obtain ⟨t740,A90,H⟩:=H
  replace H:(if t740=true then (if t735.toList=([]:List UInt8) then (if t738.toList=([]:List UInt8) then ((natural_Multiply.f k a0 a2).bind fun t741=>((natural_Multiply.f k a1 a2).bind fun t742=>((natural_GCD.f k t741 t742).bind fun t743=>((natural_Multiply.f k t733 a2).bind fun t744=>(if t743.toList=t744.toList then ((natural_GCD.f k a1 a0).bind fun t745=>(some (t745.toList == t733.toList))) else (some false)))))) else (some false)) else (some false)) else (some false))=some r:=H
  have A9:=Aside0.mk A90
  clear A90
  by_cases c10:t740=true
  ·subst c10
   have H1:(if t735.toList=([]:List UInt8) then (if t738.toList=([]:List UInt8) then ((natural_Multiply.f k a0 a2).bind fun t741=>((natural_Multiply.f k a1 a2).bind fun t742=>((natural_GCD.f k t741 t742).bind fun t743=>((natural_Multiply.f k t733 a2).bind fun t744=>(if t743.toList=t744.toList then ((natural_GCD.f k a1 a0).bind fun t745=>(some (t745.toList == t733.toList))) else (some false)))))) else (some false)) else (some false))=some r:=by rw [if_pos rfl] at H;exact H
   clear H
   have H:=H1
   clear H1
   by_cases c11:t735.toList=([]:List UInt8)
   ·rw [if_pos c11] at H
    have c11b0:(t735.toList == ([]:List UInt8))=true:=beq_iff_eq.mpr c11
    have c11b1:(t735.toList != ([]:List UInt8))=false:=bne_eq_false_iff_eq.mpr c11
    clear c11
    by_cases c12:t738.toList=([]:List UInt8)
    ·rw [if_pos c12] at H
     have c12b0:(t738.toList == ([]:List UInt8))=true:=beq_iff_eq.mpr c12
     have c12b1:(t738.toList != ([]:List UInt8))=false:=bne_eq_false_iff_eq.mpr c12
     clear c12
     replace H:=Option.bind_eq_some_iff.mp H
     obtain ⟨t741,A130,H⟩:=H
     replace H:((natural_Multiply.f k a1 a2).bind fun t742=>((natural_GCD.f k t741 t742).bind fun t743=>((natural_Multiply.f k t733 a2).bind fun t744=>(if t743.toList=t744.toList then ((natural_GCD.f k a1 a0).bind fun t745=>(some (t745.toList == t733.toList))) else (some false)))))=some r:=H
     have A13:=Aside0.mk A130
     clear A130
     replace H:=Option.bind_eq_some_iff.mp H
     obtain ⟨t742,A140,H⟩:=H
     replace H:((natural_GCD.f k t741 t742).bind fun t743=>((natural_Multiply.f k t733 a2).bind fun t744=>(if t743.toList=t744.toList then ((natural_GCD.f k a1 a0).bind fun t745=>(some (t745.toList == t733.toList))) else (some false))))=some r:=H
     have A14:=Aside0.mk A140
     clear A140
     replace H:=Option.bind_eq_some_iff.mp H
     obtain ⟨t743,A150,H⟩:=H
     replace H:((natural_Multiply.f k t733 a2).bind fun t744=>(if t743.toList=t744.toList then ((natural_GCD.f k a1 a0).bind fun t745=>(some (t745.toList == t733.toList))) else (some false)))=some r:=H
     have A15:=Aside0.mk A150
     clear A150
     replace H:=Option.bind_eq_some_iff.mp H
     obtain ⟨t744,A160,H⟩:=H
     replace H:(if t743.toList=t744.toList then ((natural_GCD.f k a1 a0).bind fun t745=>(some (t745.toList == t733.toList))) else (some false))=some r:=H
     have A16:=Aside0.mk A160
     clear A160
     by_cases c17:t743.toList=t744.toList
     ·rw [if_pos c17] at H
      have c17b0:(t743.toList == t744.toList)=true:=beq_iff_eq.mpr c17
      have c17b1:(t743.toList != t744.toList)=false:=bne_eq_false_iff_eq.mpr c17
      clear c17
      replace H:=Option.bind_eq_some_iff.mp H
      obtain ⟨t745,A180,H⟩:=H
      replace H:(some (t745.toList == t733.toList))=some r:=H
      have A18:=Aside0.mk A180
      clear A180
      obtain rfl:=Option.some.inj H
      go_enter Tryd.func16,Tryd.ntmps16
      go_wp2_with (first|((with_reducible refine gate_dst (N:=17) rfl ?_);refine Kd.R_lit Kd.string _ 9 ?hg (N:=17) ?hd (xs:=([a0,a1,a2]:List ByteArray)) (inner:=[.string a0,.string a1,.string a2]) (ok:=fun _=>True) (okp:=fun _=>True) ?hr ?hp (fun _ hk=>hk) trivial (Below.refl _ _) (Nat.le_refl _) (by simp) ?_;(case hd=>rfl);(case hg=>rfl);(case hr=>first|(go_simp;done)|(go_simp;rfl));(case hp=>exact (Reps.one (show Kd.M Kd.string _ _ _ a0 [.string a0] from rfl) (Reps.one (show Kd.M Kd.string _ _ _ a1 [.string a1] from rfl) (Reps.one (show Kd.M Kd.string _ _ _ a2 [.string a2] from rfl) (Reps.none _ _)))));intro v729 w19 ho20 hb hg_ hnew_;clear hg_ hnew_;(first|rw [← Ny728.out] at ho20|(simp only [Int.reduceToNat] at ho20;rw [← Ny728.out] at ho20));have n0_:=Aside0.mk (Kd.R_lower ho20 (below_size (by repeat (first|(with_reducible first|exact HB.out|apply below_alloc|apply pw_below_drewN|apply below_drew1)|exact HB.out))));have n1_:=Aside0.mk (below_step (by repeat (first|(with_reducible first|exact HB.out|apply below_alloc|apply pw_below_drewN|apply below_drew1)|exact HB.out)) hb);clear HB;have HO730:=n0_;have HB:=n1_;clear n0_ n1_;clear hb ho20;obtain ⟨Ao21,co21,eo21⟩:=Kd.R_slice HO730.out;subst eo21)|((with_reducible refine gate_callee (f:=20) rfl ?_);refine goesL_ (some 18) rfl rfl Tryd.func20 (by kernel_rfl) rfl #[.slice Ao21 y728.length co21] rfl (by (try simp only [List.map_toArray,List.map_cons,List.map_nil]);first|done|rfl|(simp only [List.length_drop,List.length_take];rfl)) ?_;(with_reducible refine (insolvencylaw1_few.calls k _ _ y728 true _ ?side1 ?side2 A4.out).mono ?_);(case side1=>repeat (first|exact (Kd.R_reads' HO730.out).2.2|(with_reducible refine Kd.C_alloc ?_ _)|(with_reducible refine Kd.C_drewN ?_ _)|(with_reducible refine Kd.C_drew ?_)));(case side2=>exact (Kd.R_reads' HO730.out).2.1);rintro e w' ⟨rfl,⟨nd,rfl⟩⟩;refine ⟨_,rfl,?_⟩)|((with_reducible refine gate_callee (f:=30) rfl ?_);refine goesL_ (some 23) rfl rfl Tryd.func30 (by kernel_rfl) rfl #[.string a0,.string a1] rfl (by (try simp only [List.map_toArray,List.map_cons,List.map_nil]);first|done|rfl|(simp only [List.length_drop,List.length_take];rfl)) ?_;(with_reducible refine (natural_GCD.calls k a0 a1 t733 _ A6.out).mono ?_);rintro e w22 ⟨rfl,hb⟩;refine ⟨_,rfl,?_⟩;have n0_:=Aside0.mk (Kd.R_below (by (with_reducible repeat (first|apply Kd.R_alloc|apply Kd.R_drewN|apply Kd.R_drew));exact HO730.out) hb);have n1_:=Aside0.mk (below_step (by repeat (first|(with_reducible first|exact HB.out|apply below_alloc|apply pw_below_drewN|apply below_drew1)|exact HB.out)) hb);clear HO730;clear HB;have HO730:=n0_;have HB:=n1_;clear n0_ n1_;(try clear hb);(try clear hb2);(try clear hk);(try clear hi))|((with_reducible refine gate_callee (f:=21) rfl ?_);refine goesL_ (some 27) rfl rfl Tryd.func21 (by kernel_rfl) rfl #[.string a0,.string t733] rfl (by (try simp only [List.map_toArray,List.map_cons,List.map_nil]);first|done|rfl|(simp only [List.length_drop,List.length_take];rfl)) ?_;(with_reducible refine (natural_Divide.calls k a0 t733 t734 t735 t736 _ A7.out).mono ?_);rintro e w23 ⟨rfl,hb⟩;refine ⟨_,rfl,?_⟩;have n0_:=Aside0.mk (Kd.R_below (by (with_reducible repeat (first|apply Kd.R_alloc|apply Kd.R_drewN|apply Kd.R_drew));exact HO730.out) hb);have n1_:=Aside0.mk (below_step (by repeat (first|(with_reducible first|exact HB.out|apply below_alloc|apply pw_below_drewN|apply below_drew1)|exact HB.out)) hb);clear HO730;clear HB;have HO730:=n0_;have HB:=n1_;clear n0_ n1_;(try clear hb);(try clear hb2);(try clear hk);(try clear hi))|((with_reducible refine gate_callee (f:=21) rfl ?_);refine goesL_ (some 34) rfl rfl Tryd.func21 (by kernel_rfl) rfl #[.string a1,.string t733] rfl (by (try simp only [List.map_toArray,List.map_cons,List.map_nil]);first|done|rfl|(simp only [List.length_drop,List.length_take];rfl)) ?_;(with_reducible refine (natural_Divide.calls k a1 t733 t737 t738 t739 _ A8.out).mono ?_);rintro e w24 ⟨rfl,hb⟩;refine ⟨_,rfl,?_⟩;have n0_:=Aside0.mk (Kd.R_below (by (with_reducible repeat (first|apply Kd.R_alloc|apply Kd.R_drewN|apply Kd.R_drew));exact HO730.out) hb);have n1_:=Aside0.mk (below_step (by repeat (first|(with_reducible first|exact HB.out|apply below_alloc|apply pw_below_drewN|apply below_drew1)|exact HB.out)) hb);clear HO730;clear HB;have HO730:=n0_;have HB:=n1_;clear n0_ n1_;(try clear hb);(try clear hb2);(try clear hk);(try clear hi))|((with_reducible refine gate_callee (f:=17) rfl ?_);refine goesL_ (some 38) rfl rfl Tryd.func17 (by kernel_rfl) rfl #[] rfl (by (try simp only [List.map_toArray,List.map_cons,List.map_nil]);first|done|rfl|(simp only [List.length_drop,List.length_take];rfl)) ?_;(with_reducible refine (insolvencylaw1_awake.calls k  true _ A9.out).mono ?_);rintro e w25 ⟨rfl,hb⟩;refine ⟨_,rfl,?_⟩;have n0_:=Aside0.mk (Kd.R_below (by (with_reducible repeat (first|apply Kd.R_alloc|apply Kd.R_drewN|apply Kd.R_drew));exact HO730.out) hb);have n1_:=Aside0.mk (below_step (by repeat (first|(with_reducible first|exact HB.out|apply below_alloc|apply pw_below_drewN|apply below_drew1)|exact HB.out)) hb);clear HO730;clear HB;have HO730:=n0_;have HB:=n1_;clear n0_ n1_;(try clear hb);(try clear hb2);(try clear hk);(try clear hi))|(go_at_call 25;(with_reducible refine (natural_Multiply.calls k a0 a2 t741 _ A13.out).mono ?_);rintro e w26 ⟨rfl,hb⟩;have n0_:=Aside0.mk (Kd.R_below (by (with_reducible repeat (first|apply Kd.R_alloc|apply Kd.R_drewN|apply Kd.R_drew));exact HO730.out) hb);have n1_:=Aside0.mk (below_step (by repeat (first|(with_reducible first|exact HB.out|apply below_alloc|apply pw_below_drewN|apply below_drew1)|exact HB.out)) hb);clear HO730;clear HB;have HO730:=n0_;have HB:=n1_;clear n0_ n1_;(try clear hb);(try clear hb2);(try clear hk);(try clear hi))|(go_at_call 25;(with_reducible refine (natural_Multiply.calls k a1 a2 t742 _ A14.out).mono ?_);rintro e w27 ⟨rfl,hb⟩;have n0_:=Aside0.mk (Kd.R_below (by (with_reducible repeat (first|apply Kd.R_alloc|apply Kd.R_drewN|apply Kd.R_drew));exact HO730.out) hb);have n1_:=Aside0.mk (below_step (by repeat (first|(with_reducible first|exact HB.out|apply below_alloc|apply pw_below_drewN|apply below_drew1)|exact HB.out)) hb);clear HO730;clear HB;have HO730:=n0_;have HB:=n1_;clear n0_ n1_;(try clear hb);(try clear hb2);(try clear hk);(try clear hi))|(go_at_call 30;(with_reducible refine (natural_GCD.calls k t741 t742 t743 _ A15.out).mono ?_);rintro e w28 ⟨rfl,hb⟩;have n0_:=Aside0.mk (Kd.R_below (by (with_reducible repeat (first|apply Kd.R_alloc|apply Kd.R_drewN|apply Kd.R_drew));exact HO730.out) hb);have n1_:=Aside0.mk (below_step (by repeat (first|(with_reducible first|exact HB.out|apply below_alloc|apply pw_below_drewN|apply below_drew1)|exact HB.out)) hb);clear HO730;clear HB;have HO730:=n0_;have HB:=n1_;clear n0_ n1_;(try clear hb);(try clear hb2);(try clear hk);(try clear hi))|(go_at_call 25;(with_reducible refine (natural_Multiply.calls k t733 a2 t744 _ A16.out).mono ?_);rintro e w29 ⟨rfl,hb⟩;have n0_:=Aside0.mk (Kd.R_below (by (with_reducible repeat (first|apply Kd.R_alloc|apply Kd.R_drewN|apply Kd.R_drew));exact HO730.out) hb);have n1_:=Aside0.mk (below_step (by repeat (first|(with_reducible first|exact HB.out|apply below_alloc|apply pw_below_drewN|apply below_drew1)|exact HB.out)) hb);clear HO730;clear HB;have HO730:=n0_;have HB:=n1_;clear n0_ n1_;(try clear hb);(try clear hb2);(try clear hk);(try clear hi))|(go_at_call 30;(with_reducible refine (natural_GCD.calls k a1 a0 t745 _ A18.out).mono ?_);rintro e w30 ⟨rfl,hb⟩;have n0_:=Aside0.mk (Kd.R_below (by (with_reducible repeat (first|apply Kd.R_alloc|apply Kd.R_drewN|apply Kd.R_drew));exact HO730.out) hb);have n1_:=Aside0.mk (below_step (by repeat (first|(with_reducible first|exact HB.out|apply below_alloc|apply pw_below_drewN|apply below_drew1)|exact HB.out)) hb);clear HO730;clear HB;have HO730:=n0_;have HB:=n1_;clear n0_ n1_;(try clear hb);(try clear hb2);(try clear hk);(try clear hi)))
      go_ret
      exact ⟨by first|rfl|(simp [errW_none,errW_some] <;> rfl)|(simp [*,errW_none,errW_some] <;> rfl),by repeat (first|(with_reducible first|exact HB.out|apply below_alloc|apply pw_below_drewN|apply below_drew1)|exact HB.out)⟩
     ·rw [if_neg c17] at H
      have c17b0:(t743.toList == t744.toList)=false:=beq_eq_false_iff_ne.mpr c17
      have c17b1:(t743.toList != t744.toList)=true:=bne_iff_ne.mpr c17
      obtain rfl:=Option.some.inj H
      go_enter Tryd.func16,Tryd.ntmps16
      go_wp2_with (first|((with_reducible refine gate_dst (N:=17) rfl ?_);refine Kd.R_lit Kd.string _ 9 ?hg (N:=17) ?hd (xs:=([a0,a1,a2]:List ByteArray)) (inner:=[.string a0,.string a1,.string a2]) (ok:=fun _=>True) (okp:=fun _=>True) ?hr ?hp (fun _ hk=>hk) trivial (Below.refl _ _) (Nat.le_refl _) (by simp) ?_;(case hd=>rfl);(case hg=>rfl);(case hr=>first|(go_simp;done)|(go_simp;rfl));(case hp=>exact (Reps.one (show Kd.M Kd.string _ _ _ a0 [.string a0] from rfl) (Reps.one (show Kd.M Kd.string _ _ _ a1 [.string a1] from rfl) (Reps.one (show Kd.M Kd.string _ _ _ a2 [.string a2] from rfl) (Reps.none _ _)))));intro v729 w31 ho32 hb hg_ hnew_;clear hg_ hnew_;(first|rw [← Ny728.out] at ho32|(simp only [Int.reduceToNat] at ho32;rw [← Ny728.out] at ho32));have n0_:=Aside0.mk (Kd.R_lower ho32 (below_size (by repeat (first|(with_reducible first|exact HB.out|apply below_alloc|apply pw_below_drewN|apply below_drew1)|exact HB.out))));have n1_:=Aside0.mk (below_step (by repeat (first|(with_reducible first|exact HB.out|apply below_alloc|apply pw_below_drewN|apply below_drew1)|exact HB.out)) hb);clear HB;have HO730:=n0_;have HB:=n1_;clear n0_ n1_;clear hb ho32;obtain ⟨Ao33,co33,eo33⟩:=Kd.R_slice HO730.out;subst eo33)|((with_reducible refine gate_callee (f:=20) rfl ?_);refine goesL_ (some 18) rfl rfl Tryd.func20 (by kernel_rfl) rfl #[.slice Ao33 y728.length co33] rfl (by (try simp only [List.map_toArray,List.map_cons,List.map_nil]);first|done|rfl|(simp only [List.length_drop,List.length_take];rfl)) ?_;(with_reducible refine (insolvencylaw1_few.calls k _ _ y728 true _ ?side1 ?side2 A4.out).mono ?_);(case side1=>repeat (first|exact (Kd.R_reads' HO730.out).2.2|(with_reducible refine Kd.C_alloc ?_ _)|(with_reducible refine Kd.C_drewN ?_ _)|(with_reducible refine Kd.C_drew ?_)));(case side2=>exact (Kd.R_reads' HO730.out).2.1);rintro e w' ⟨rfl,⟨nd,rfl⟩⟩;refine ⟨_,rfl,?_⟩)|((with_reducible refine gate_callee (f:=30) rfl ?_);refine goesL_ (some 23) rfl rfl Tryd.func30 (by kernel_rfl) rfl #[.string a0,.string a1] rfl (by (try simp only [List.map_toArray,List.map_cons,List.map_nil]);first|done|rfl|(simp only [List.length_drop,List.length_take];rfl)) ?_;(with_reducible refine (natural_GCD.calls k a0 a1 t733 _ A6.out).mono ?_);rintro e w34 ⟨rfl,hb⟩;refine ⟨_,rfl,?_⟩;have n0_:=Aside0.mk (Kd.R_below (by (with_reducible repeat (first|apply Kd.R_alloc|apply Kd.R_drewN|apply Kd.R_drew));exact HO730.out) hb);have n1_:=Aside0.mk (below_step (by repeat (first|(with_reducible first|exact HB.out|apply below_alloc|apply pw_below_drewN|apply below_drew1)|exact HB.out)) hb);clear HO730;clear HB;have HO730:=n0_;have HB:=n1_;clear n0_ n1_;(try clear hb);(try clear hb2);(try clear hk);(try clear hi))|((with_reducible refine gate_callee (f:=21) rfl ?_);refine goesL_ (some 27) rfl rfl Tryd.func21 (by kernel_rfl) rfl #[.string a0,.string t733] rfl (by (try simp only [List.map_toArray,List.map_cons,List.map_nil]);first|done|rfl|(simp only [List.length_drop,List.length_take];rfl)) ?_;(with_reducible refine (natural_Divide.calls k a0 t733 t734 t735 t736 _ A7.out).mono ?_);rintro e w35 ⟨rfl,hb⟩;refine ⟨_,rfl,?_⟩;have n0_:=Aside0.mk (Kd.R_below (by (with_reducible repeat (first|apply Kd.R_alloc|apply Kd.R_drewN|apply Kd.R_drew));exact HO730.out) hb);have n1_:=Aside0.mk (below_step (by repeat (first|(with_reducible first|exact HB.out|apply below_alloc|apply pw_below_drewN|apply below_drew1)|exact HB.out)) hb);clear HO730;clear HB;have HO730:=n0_;have HB:=n1_;clear n0_ n1_;(try clear hb);(try clear hb2);(try clear hk);(try clear hi))|((with_reducible refine gate_callee (f:=21) rfl ?_);refine goesL_ (some 34) rfl rfl Tryd.func21 (by kernel_rfl) rfl #[.string a1,.string t733] rfl (by (try simp only [List.map_toArray,List.map_cons,List.map_nil]);first|done|rfl|(simp only [List.length_drop,List.length_take];rfl)) ?_;(with_reducible refine (natural_Divide.calls k a1 t733 t737 t738 t739 _ A8.out).mono ?_);rintro e w36 ⟨rfl,hb⟩;refine ⟨_,rfl,?_⟩;have n0_:=Aside0.mk (Kd.R_below (by (with_reducible repeat (first|apply Kd.R_alloc|apply Kd.R_drewN|apply Kd.R_drew));exact HO730.out) hb);have n1_:=Aside0.mk (below_step (by repeat (first|(with_reducible first|exact HB.out|apply below_alloc|apply pw_below_drewN|apply below_drew1)|exact HB.out)) hb);clear HO730;clear HB;have HO730:=n0_;have HB:=n1_;clear n0_ n1_;(try clear hb);(try clear hb2);(try clear hk);(try clear hi))|((with_reducible refine gate_callee (f:=17) rfl ?_);refine goesL_ (some 38) rfl rfl Tryd.func17 (by kernel_rfl) rfl #[] rfl (by (try simp only [List.map_toArray,List.map_cons,List.map_nil]);first|done|rfl|(simp only [List.length_drop,List.length_take];rfl)) ?_;(with_reducible refine (insolvencylaw1_awake.calls k  true _ A9.out).mono ?_);rintro e w37 ⟨rfl,hb⟩;refine ⟨_,rfl,?_⟩;have n0_:=Aside0.mk (Kd.R_below (by (with_reducible repeat (first|apply Kd.R_alloc|apply Kd.R_drewN|apply Kd.R_drew));exact HO730.out) hb);have n1_:=Aside0.mk (below_step (by repeat (first|(with_reducible first|exact HB.out|apply below_alloc|apply pw_below_drewN|apply below_drew1)|exact HB.out)) hb);clear HO730;clear HB;have HO730:=n0_;have HB:=n1_;clear n0_ n1_;(try clear hb);(try clear hb2);(try clear hk);(try clear hi))|(go_at_call 25;(with_reducible refine (natural_Multiply.calls k a0 a2 t741 _ A13.out).mono ?_);rintro e w38 ⟨rfl,hb⟩;have n0_:=Aside0.mk (Kd.R_below (by (with_reducible repeat (first|apply Kd.R_alloc|apply Kd.R_drewN|apply Kd.R_drew));exact HO730.out) hb);have n1_:=Aside0.mk (below_step (by repeat (first|(with_reducible first|exact HB.out|apply below_alloc|apply pw_below_drewN|apply below_drew1)|exact HB.out)) hb);clear HO730;clear HB;have HO730:=n0_;have HB:=n1_;clear n0_ n1_;(try clear hb);(try clear hb2);(try clear hk);(try clear hi))|(go_at_call 25;(with_reducible refine (natural_Multiply.calls k a1 a2 t742 _ A14.out).mono ?_);rintro e w39 ⟨rfl,hb⟩;have n0_:=Aside0.mk (Kd.R_below (by (with_reducible repeat (first|apply Kd.R_alloc|apply Kd.R_drewN|apply Kd.R_drew));exact HO730.out) hb);have n1_:=Aside0.mk (below_step (by repeat (first|(with_reducible first|exact HB.out|apply below_alloc|apply pw_below_drewN|apply below_drew1)|exact HB.out)) hb);clear HO730;clear HB;have HO730:=n0_;have HB:=n1_;clear n0_ n1_;(try clear hb);(try clear hb2);(try clear hk);(try clear hi))|(go_at_call 30;(with_reducible refine (natural_GCD.calls k t741 t742 t743 _ A15.out).mono ?_);rintro e w40 ⟨rfl,hb⟩;have n0_:=Aside0.mk (Kd.R_below (by (with_reducible repeat (first|apply Kd.R_alloc|apply Kd.R_drewN|apply Kd.R_drew));exact HO730.out) hb);have n1_:=Aside0.mk (below_step (by repeat (first|(with_reducible first|exact HB.out|apply below_alloc|apply pw_below_drewN|apply below_drew1)|exact HB.out)) hb);clear HO730;clear HB;have HO730:=n0_;have HB:=n1_;clear n0_ n1_;(try clear hb);(try clear hb2);(try clear hk);(try clear hi))|(go_at_call 25;(with_reducible refine (natural_Multiply.calls k t733 a2 t744 _ A16.out).mono ?_);rintro e w41 ⟨rfl,hb⟩;have n0_:=Aside0.mk (Kd.R_below (by (with_reducible repeat (first|apply Kd.R_alloc|apply Kd.R_drewN|apply Kd.R_drew));exact HO730.out) hb);have n1_:=Aside0.mk (below_step (by repeat (first|(with_reducible first|exact HB.out|apply below_alloc|apply pw_below_drewN|apply below_drew1)|exact HB.out)) hb);clear HO730;clear HB;have HO730:=n0_;have HB:=n1_;clear n0_ n1_;(try clear hb);(try clear hb2);(try clear hk);(try clear hi)))
      go_ret
      exact ⟨by first|rfl|(simp [errW_none,errW_some] <;> rfl)|(simp [*,errW_none,errW_some] <;> rfl),by repeat (first|(with_reducible first|exact HB.out|apply below_alloc|apply pw_below_drewN|apply below_drew1)|exact HB.out)⟩
    ·rw [if_neg c12] at H
     have c12b0:(t738.toList == ([]:List UInt8))=false:=beq_eq_false_iff_ne.mpr c12
     have c12b1:(t738.toList != ([]:List UInt8))=true:=bne_iff_ne.mpr c12
     obtain rfl:=Option.some.inj H
     go_enter Tryd.func16,Tryd.ntmps16
     go_wp2_with (first|((with_reducible refine gate_dst (N:=17) rfl ?_);refine Kd.R_lit Kd.string _ 9 ?hg (N:=17) ?hd (xs:=([a0,a1,a2]:List ByteArray)) (inner:=[.string a0,.string a1,.string a2]) (ok:=fun _=>True) (okp:=fun _=>True) ?hr ?hp (fun _ hk=>hk) trivial (Below.refl _ _) (Nat.le_refl _) (by simp) ?_;(case hd=>rfl);(case hg=>rfl);(case hr=>first|(go_simp;done)|(go_simp;rfl));(case hp=>exact (Reps.one (show Kd.M Kd.string _ _ _ a0 [.string a0] from rfl) (Reps.one (show Kd.M Kd.string _ _ _ a1 [.string a1] from rfl) (Reps.one (show Kd.M Kd.string _ _ _ a2 [.string a2] from rfl) (Reps.none _ _)))));intro v729 w42 ho43 hb hg_ hnew_;clear hg_ hnew_;(first|rw [← Ny728.out] at ho43|(simp only [Int.reduceToNat] at ho43;rw [← Ny728.out] at ho43));have n0_:=Aside0.mk (Kd.R_lower ho43 (below_size (by repeat (first|(with_reducible first|exact HB.out|apply below_alloc|apply pw_below_drewN|apply below_drew1)|exact HB.out))));have n1_:=Aside0.mk (below_step (by repeat (first|(with_reducible first|exact HB.out|apply below_alloc|apply pw_below_drewN|apply below_drew1)|exact HB.out)) hb);clear HB;have HO730:=n0_;have HB:=n1_;clear n0_ n1_;clear hb ho43;obtain ⟨Ao44,co44,eo44⟩:=Kd.R_slice HO730.out;subst eo44)|((with_reducible refine gate_callee (f:=20) rfl ?_);refine goesL_ (some 18) rfl rfl Tryd.func20 (by kernel_rfl) rfl #[.slice Ao44 y728.length co44] rfl (by (try simp only [List.map_toArray,List.map_cons,List.map_nil]);first|done|rfl|(simp only [List.length_drop,List.length_take];rfl)) ?_;(with_reducible refine (insolvencylaw1_few.calls k _ _ y728 true _ ?side1 ?side2 A4.out).mono ?_);(case side1=>repeat (first|exact (Kd.R_reads' HO730.out).2.2|(with_reducible refine Kd.C_alloc ?_ _)|(with_reducible refine Kd.C_drewN ?_ _)|(with_reducible refine Kd.C_drew ?_)));(case side2=>exact (Kd.R_reads' HO730.out).2.1);rintro e w' ⟨rfl,⟨nd,rfl⟩⟩;refine ⟨_,rfl,?_⟩)|((with_reducible refine gate_callee (f:=30) rfl ?_);refine goesL_ (some 23) rfl rfl Tryd.func30 (by kernel_rfl) rfl #[.string a0,.string a1] rfl (by (try simp only [List.map_toArray,List.map_cons,List.map_nil]);first|done|rfl|(simp only [List.length_drop,List.length_take];rfl)) ?_;(with_reducible refine (natural_GCD.calls k a0 a1 t733 _ A6.out).mono ?_);rintro e w45 ⟨rfl,hb⟩;refine ⟨_,rfl,?_⟩;have n0_:=Aside0.mk (Kd.R_below (by (with_reducible repeat (first|apply Kd.R_alloc|apply Kd.R_drewN|apply Kd.R_drew));exact HO730.out) hb);have n1_:=Aside0.mk (below_step (by repeat (first|(with_reducible first|exact HB.out|apply below_alloc|apply pw_below_drewN|apply below_drew1)|exact HB.out)) hb);clear HO730;clear HB;have HO730:=n0_;have HB:=n1_;clear n0_ n1_;(try clear hb);(try clear hb2);(try clear hk);(try clear hi))|((with_reducible refine gate_callee (f:=21) rfl ?_);refine goesL_ (some 27) rfl rfl Tryd.func21 (by kernel_rfl) rfl #[.string a0,.string t733] rfl (by (try simp only [List.map_toArray,List.map_cons,List.map_nil]);first|done|rfl|(simp only [List.length_drop,List.length_take];rfl)) ?_;(with_reducible refine (natural_Divide.calls k a0 t733 t734 t735 t736 _ A7.out).mono ?_);rintro e w46 ⟨rfl,hb⟩;refine ⟨_,rfl,?_⟩;have n0_:=Aside0.mk (Kd.R_below (by (with_reducible repeat (first|apply Kd.R_alloc|apply Kd.R_drewN|apply Kd.R_drew));exact HO730.out) hb);have n1_:=Aside0.mk (below_step (by repeat (first|(with_reducible first|exact HB.out|apply below_alloc|apply pw_below_drewN|apply below_drew1)|exact HB.out)) hb);clear HO730;clear HB;have HO730:=n0_;have HB:=n1_;clear n0_ n1_;(try clear hb);(try clear hb2);(try clear hk);(try clear hi))|((with_reducible refine gate_callee (f:=21) rfl ?_);refine goesL_ (some 34) rfl rfl Tryd.func21 (by kernel_rfl) rfl #[.string a1,.string t733] rfl (by (try simp only [List.map_toArray,List.map_cons,List.map_nil]);first|done|rfl|(simp only [List.length_drop,List.length_take];rfl)) ?_;(with_reducible refine (natural_Divide.calls k a1 t733 t737 t738 t739 _ A8.out).mono ?_);rintro e w47 ⟨rfl,hb⟩;refine ⟨_,rfl,?_⟩;have n0_:=Aside0.mk (Kd.R_below (by (with_reducible repeat (first|apply Kd.R_alloc|apply Kd.R_drewN|apply Kd.R_drew));exact HO730.out) hb);have n1_:=Aside0.mk (below_step (by repeat (first|(with_reducible first|exact HB.out|apply below_alloc|apply pw_below_drewN|apply below_drew1)|exact HB.out)) hb);clear HO730;clear HB;have HO730:=n0_;have HB:=n1_;clear n0_ n1_;(try clear hb);(try clear hb2);(try clear hk);(try clear hi))|((with_reducible refine gate_callee (f:=17) rfl ?_);refine goesL_ (some 38) rfl rfl Tryd.func17 (by kernel_rfl) rfl #[] rfl (by (try simp only [List.map_toArray,List.map_cons,List.map_nil]);first|done|rfl|(simp only [List.length_drop,List.length_take];rfl)) ?_;(with_reducible refine (insolvencylaw1_awake.calls k  true _ A9.out).mono ?_);rintro e w48 ⟨rfl,hb⟩;refine ⟨_,rfl,?_⟩;have n0_:=Aside0.mk (Kd.R_below (by (with_reducible repeat (first|apply Kd.R_alloc|apply Kd.R_drewN|apply Kd.R_drew));exact HO730.out) hb);have n1_:=Aside0.mk (below_step (by repeat (first|(with_reducible first|exact HB.out|apply below_alloc|apply pw_below_drewN|apply below_drew1)|exact HB.out)) hb);clear HO730;clear HB;have HO730:=n0_;have HB:=n1_;clear n0_ n1_;(try clear hb);(try clear hb2);(try clear hk);(try clear hi)))
     go_ret
     exact ⟨by first|rfl|(simp [errW_none,errW_some] <;> rfl)|(simp [*,errW_none,errW_some] <;> rfl),by repeat (first|(with_reducible first|exact HB.out|apply below_alloc|apply pw_below_drewN|apply below_drew1)|exact HB.out)⟩
   ·rw [if_neg c11] at H
    have c11b0:(t735.toList == ([]:List UInt8))=false:=beq_eq_false_iff_ne.mpr c11
    have c11b1:(t735.toList != ([]:List UInt8))=true:=bne_iff_ne.mpr c11
    obtain rfl:=Option.some.inj H
    go_enter Tryd.func16,Tryd.ntmps16
    go_wp2_with (first|((with_reducible refine gate_dst (N:=17) rfl ?_);refine Kd.R_lit Kd.string _ 9 ?hg (N:=17) ?hd (xs:=([a0,a1,a2]:List ByteArray)) (inner:=[.string a0,.string a1,.string a2]) (ok:=fun _=>True) (okp:=fun _=>True) ?hr ?hp (fun _ hk=>hk) trivial (Below.refl _ _) (Nat.le_refl _) (by simp) ?_;(case hd=>rfl);(case hg=>rfl);(case hr=>first|(go_simp;done)|(go_simp;rfl));(case hp=>exact (Reps.one (show Kd.M Kd.string _ _ _ a0 [.string a0] from rfl) (Reps.one (show Kd.M Kd.string _ _ _ a1 [.string a1] from rfl) (Reps.one (show Kd.M Kd.string _ _ _ a2 [.string a2] from rfl) (Reps.none _ _)))));intro v729 w49 ho50 hb hg_ hnew_;clear hg_ hnew_;(first|rw [← Ny728.out] at ho50|(simp only [Int.reduceToNat] at ho50;rw [← Ny728.out] at ho50));have n0_:=Aside0.mk (Kd.R_lower ho50 (below_size (by repeat (first|(with_reducible first|exact HB.out|apply below_alloc|apply pw_below_drewN|apply below_drew1)|exact HB.out))));have n1_:=Aside0.mk (below_step (by repeat (first|(with_reducible first|exact HB.out|apply below_alloc|apply pw_below_drewN|apply below_drew1)|exact HB.out)) hb);clear HB;have HO730:=n0_;have HB:=n1_;clear n0_ n1_;clear hb ho50;obtain ⟨Ao51,co51,eo51⟩:=Kd.R_slice HO730.out;subst eo51)|((with_reducible refine gate_callee (f:=20) rfl ?_);refine goesL_ (some 18) rfl rfl Tryd.func20 (by kernel_rfl) rfl #[.slice Ao51 y728.length co51] rfl (by (try simp only [List.map_toArray,List.map_cons,List.map_nil]);first|done|rfl|(simp only [List.length_drop,List.length_take];rfl)) ?_;(with_reducible refine (insolvencylaw1_few.calls k _ _ y728 true _ ?side1 ?side2 A4.out).mono ?_);(case side1=>repeat (first|exact (Kd.R_reads' HO730.out).2.2|(with_reducible refine Kd.C_alloc ?_ _)|(with_reducible refine Kd.C_drewN ?_ _)|(with_reducible refine Kd.C_drew ?_)));(case side2=>exact (Kd.R_reads' HO730.out).2.1);rintro e w' ⟨rfl,⟨nd,rfl⟩⟩;refine ⟨_,rfl,?_⟩)|((with_reducible refine gate_callee (f:=30) rfl ?_);refine goesL_ (some 23) rfl rfl Tryd.func30 (by kernel_rfl) rfl #[.string a0,.string a1] rfl (by (try simp only [List.map_toArray,List.map_cons,List.map_nil]);first|done|rfl|(simp only [List.length_drop,List.length_take];rfl)) ?_;(with_reducible refine (natural_GCD.calls k a0 a1 t733 _ A6.out).mono ?_);rintro e w52 ⟨rfl,hb⟩;refine ⟨_,rfl,?_⟩;have n0_:=Aside0.mk (Kd.R_below (by (with_reducible repeat (first|apply Kd.R_alloc|apply Kd.R_drewN|apply Kd.R_drew));exact HO730.out) hb);have n1_:=Aside0.mk (below_step (by repeat (first|(with_reducible first|exact HB.out|apply below_alloc|apply pw_below_drewN|apply below_drew1)|exact HB.out)) hb);clear HO730;clear HB;have HO730:=n0_;have HB:=n1_;clear n0_ n1_;(try clear hb);(try clear hb2);(try clear hk);(try clear hi))|((with_reducible refine gate_callee (f:=21) rfl ?_);refine goesL_ (some 27) rfl rfl Tryd.func21 (by kernel_rfl) rfl #[.string a0,.string t733] rfl (by (try simp only [List.map_toArray,List.map_cons,List.map_nil]);first|done|rfl|(simp only [List.length_drop,List.length_take];rfl)) ?_;(with_reducible refine (natural_Divide.calls k a0 t733 t734 t735 t736 _ A7.out).mono ?_);rintro e w53 ⟨rfl,hb⟩;refine ⟨_,rfl,?_⟩;have n0_:=Aside0.mk (Kd.R_below (by (with_reducible repeat (first|apply Kd.R_alloc|apply Kd.R_drewN|apply Kd.R_drew));exact HO730.out) hb);have n1_:=Aside0.mk (below_step (by repeat (first|(with_reducible first|exact HB.out|apply below_alloc|apply pw_below_drewN|apply below_drew1)|exact HB.out)) hb);clear HO730;clear HB;have HO730:=n0_;have HB:=n1_;clear n0_ n1_;(try clear hb);(try clear hb2);(try clear hk);(try clear hi))|((with_reducible refine gate_callee (f:=21) rfl ?_);refine goesL_ (some 34) rfl rfl Tryd.func21 (by kernel_rfl) rfl #[.string a1,.string t733] rfl (by (try simp only [List.map_toArray,List.map_cons,List.map_nil]);first|done|rfl|(simp only [List.length_drop,List.length_take];rfl)) ?_;(with_reducible refine (natural_Divide.calls k a1 t733 t737 t738 t739 _ A8.out).mono ?_);rintro e w54 ⟨rfl,hb⟩;refine ⟨_,rfl,?_⟩;have n0_:=Aside0.mk (Kd.R_below (by (with_reducible repeat (first|apply Kd.R_alloc|apply Kd.R_drewN|apply Kd.R_drew));exact HO730.out) hb);have n1_:=Aside0.mk (below_step (by repeat (first|(with_reducible first|exact HB.out|apply below_alloc|apply pw_below_drewN|apply below_drew1)|exact HB.out)) hb);clear HO730;clear HB;have HO730:=n0_;have HB:=n1_;clear n0_ n1_;(try clear hb);(try clear hb2);(try clear hk);(try clear hi))|((with_reducible refine gate_callee (f:=17) rfl ?_);refine goesL_ (some 38) rfl rfl Tryd.func17 (by kernel_rfl) rfl #[] rfl (by (try simp only [List.map_toArray,List.map_cons,List.map_nil]);first|done|rfl|(simp only [List.length_drop,List.length_take];rfl)) ?_;(with_reducible refine (insolvencylaw1_awake.calls k  true _ A9.out).mono ?_);rintro e w55 ⟨rfl,hb⟩;refine ⟨_,rfl,?_⟩;have n0_:=Aside0.mk (Kd.R_below (by (with_reducible repeat (first|apply Kd.R_alloc|apply Kd.R_drewN|apply Kd.R_drew));exact HO730.out) hb);have n1_:=Aside0.mk (below_step (by repeat (first|(with_reducible first|exact HB.out|apply below_alloc|apply pw_below_drewN|apply below_drew1)|exact HB.out)) hb);clear HO730;clear HB;have HO730:=n0_;have HB:=n1_;clear n0_ n1_;(try clear hb);(try clear hb2);(try clear hk);(try clear hi)))
    go_ret
    exact ⟨by first|rfl|(simp [errW_none,errW_some] <;> rfl)|(simp [*,errW_none,errW_some] <;> rfl),by repeat (first|(with_reducible first|exact HB.out|apply below_alloc|apply pw_below_drewN|apply below_drew1)|exact HB.out)⟩
  ·replace c10:=Bool.eq_false_iff.mpr c10
   subst c10
   have H1:(some false)=some r:=by rw [if_neg (show ¬ (false=true) by decide)] at H;exact H
   clear H
   have H:=H1
   clear H1
   obtain rfl:=Option.some.inj H
   go_enter Tryd.func16,Tryd.ntmps16
   go_wp2_with (first|((with_reducible refine gate_dst (N:=17) rfl ?_);refine Kd.R_lit Kd.string _ 9 ?hg (N:=17) ?hd (xs:=([a0,a1,a2]:List ByteArray)) (inner:=[.string a0,.string a1,.string a2]) (ok:=fun _=>True) (okp:=fun _=>True) ?hr ?hp (fun _ hk=>hk) trivial (Below.refl _ _) (Nat.le_refl _) (by simp) ?_;(case hd=>rfl);(case hg=>rfl);(case hr=>first|(go_simp;done)|(go_simp;rfl));(case hp=>exact (Reps.one (show Kd.M Kd.string _ _ _ a0 [.string a0] from rfl) (Reps.one (show Kd.M Kd.string _ _ _ a1 [.string a1] from rfl) (Reps.one (show Kd.M Kd.string _ _ _ a2 [.string a2] from rfl) (Reps.none _ _)))));intro v729 w56 ho57 hb hg_ hnew_;clear hg_ hnew_;(first|rw [← Ny728.out] at ho57|(simp only [Int.reduceToNat] at ho57;rw [← Ny728.out] at ho57));have n0_:=Aside0.mk (Kd.R_lower ho57 (below_size (by repeat (first|(with_reducible first|exact HB.out|apply below_alloc|apply pw_below_drewN|apply below_drew1)|exact HB.out))));have n1_:=Aside0.mk (below_step (by repeat (first|(with_reducible first|exact HB.out|apply below_alloc|apply pw_below_drewN|apply below_drew1)|exact HB.out)) hb);clear HB;have HO730:=n0_;have HB:=n1_;clear n0_ n1_;clear hb ho57;obtain ⟨Ao58,co58,eo58⟩:=Kd.R_slice HO730.out;subst eo58)|((with_reducible refine gate_callee (f:=20) rfl ?_);refine goesL_ (some 18) rfl rfl Tryd.func20 (by kernel_rfl) rfl #[.slice Ao58 y728.length co58] rfl (by (try simp only [List.map_toArray,List.map_cons,List.map_nil]);first|done|rfl|(simp only [List.length_drop,List.length_take];rfl)) ?_;(with_reducible refine (insolvencylaw1_few.calls k _ _ y728 true _ ?side1 ?side2 A4.out).mono ?_);(case side1=>repeat (first|exact (Kd.R_reads' HO730.out).2.2|(with_reducible refine Kd.C_alloc ?_ _)|(with_reducible refine Kd.C_drewN ?_ _)|(with_reducible refine Kd.C_drew ?_)));(case side2=>exact (Kd.R_reads' HO730.out).2.1);rintro e w' ⟨rfl,⟨nd,rfl⟩⟩;refine ⟨_,rfl,?_⟩)|((with_reducible refine gate_callee (f:=30) rfl ?_);refine goesL_ (some 23) rfl rfl Tryd.func30 (by kernel_rfl) rfl #[.string a0,.string a1] rfl (by (try simp only [List.map_toArray,List.map_cons,List.map_nil]);first|done|rfl|(simp only [List.length_drop,List.length_take];rfl)) ?_;(with_reducible refine (natural_GCD.calls k a0 a1 t733 _ A6.out).mono ?_);rintro e w59 ⟨rfl,hb⟩;refine ⟨_,rfl,?_⟩;have n0_:=Aside0.mk (Kd.R_below (by (with_reducible repeat (first|apply Kd.R_alloc|apply Kd.R_drewN|apply Kd.R_drew));exact HO730.out) hb);have n1_:=Aside0.mk (below_step (by repeat (first|(with_reducible first|exact HB.out|apply below_alloc|apply pw_below_drewN|apply below_drew1)|exact HB.out)) hb);clear HO730;clear HB;have HO730:=n0_;have HB:=n1_;clear n0_ n1_;(try clear hb);(try clear hb2);(try clear hk);(try clear hi))|((with_reducible refine gate_callee (f:=21) rfl ?_);refine goesL_ (some 27) rfl rfl Tryd.func21 (by kernel_rfl) rfl #[.string a0,.string t733] rfl (by (try simp only [List.map_toArray,List.map_cons,List.map_nil]);first|done|rfl|(simp only [List.length_drop,List.length_take];rfl)) ?_;(with_reducible refine (natural_Divide.calls k a0 t733 t734 t735 t736 _ A7.out).mono ?_);rintro e w60 ⟨rfl,hb⟩;refine ⟨_,rfl,?_⟩;have n0_:=Aside0.mk (Kd.R_below (by (with_reducible repeat (first|apply Kd.R_alloc|apply Kd.R_drewN|apply Kd.R_drew));exact HO730.out) hb);have n1_:=Aside0.mk (below_step (by repeat (first|(with_reducible first|exact HB.out|apply below_alloc|apply pw_below_drewN|apply below_drew1)|exact HB.out)) hb);clear HO730;clear HB;have HO730:=n0_;have HB:=n1_;clear n0_ n1_;(try clear hb);(try clear hb2);(try clear hk);(try clear hi))|((with_reducible refine gate_callee (f:=21) rfl ?_);refine goesL_ (some 34) rfl rfl Tryd.func21 (by kernel_rfl) rfl #[.string a1,.string t733] rfl (by (try simp only [List.map_toArray,List.map_cons,List.map_nil]);first|done|rfl|(simp only [List.length_drop,List.length_take];rfl)) ?_;(with_reducible refine (natural_Divide.calls k a1 t733 t737 t738 t739 _ A8.out).mono ?_);rintro e w61 ⟨rfl,hb⟩;refine ⟨_,rfl,?_⟩;have n0_:=Aside0.mk (Kd.R_below (by (with_reducible repeat (first|apply Kd.R_alloc|apply Kd.R_drewN|apply Kd.R_drew));exact HO730.out) hb);have n1_:=Aside0.mk (below_step (by repeat (first|(with_reducible first|exact HB.out|apply below_alloc|apply pw_below_drewN|apply below_drew1)|exact HB.out)) hb);clear HO730;clear HB;have HO730:=n0_;have HB:=n1_;clear n0_ n1_;(try clear hb);(try clear hb2);(try clear hk);(try clear hi))|((with_reducible refine gate_callee (f:=17) rfl ?_);refine goesL_ (some 38) rfl rfl Tryd.func17 (by kernel_rfl) rfl #[] rfl (by (try simp only [List.map_toArray,List.map_cons,List.map_nil]);first|done|rfl|(simp only [List.length_drop,List.length_take];rfl)) ?_;(with_reducible refine (insolvencylaw1_awake.calls k  false _ A9.out).mono ?_);rintro e w62 ⟨rfl,hb⟩;refine ⟨_,rfl,?_⟩;have n0_:=Aside0.mk (Kd.R_below (by (with_reducible repeat (first|apply Kd.R_alloc|apply Kd.R_drewN|apply Kd.R_drew));exact HO730.out) hb);have n1_:=Aside0.mk (below_step (by repeat (first|(with_reducible first|exact HB.out|apply below_alloc|apply pw_below_drewN|apply below_drew1)|exact HB.out)) hb);clear HO730;clear HB;have HO730:=n0_;have HB:=n1_;clear n0_ n1_;(try clear hb);(try clear hb2);(try clear hk);(try clear hi)))
   go_ret
   exact ⟨by first|rfl|(simp [errW_none,errW_some] <;> rfl)|(simp [*,errW_none,errW_some] <;> rfl),by repeat (first|(with_reducible first|exact HB.out|apply below_alloc|apply pw_below_drewN|apply below_drew1)|exact HB.out)⟩
 ·replace c5:=Bool.eq_false_iff.mpr c5
  subst c5
  have H1:((insolvencylaw1_awake.f k).bind fun t732=>(some t732))=some r:=by rw [if_neg (show ¬ (false=true) by decide)] at H;exact H
  clear H
  have H:=H1
  clear H1
  replace H:=Option.bind_eq_some_iff.mp H
  obtain ⟨t732,A630,H⟩:=H
  replace H:(some t732)=some r:=H
  have A63:=Aside0.mk A630
  clear A630
  obtain rfl:=Option.some.inj H
  go_enter Tryd.func16,Tryd.ntmps16
  go_wp2_with (first|((with_reducible refine gate_dst (N:=17) rfl ?_);refine Kd.R_lit Kd.string _ 9 ?hg (N:=17) ?hd (xs:=([a0,a1,a2]:List ByteArray)) (inner:=[.string a0,.string a1,.string a2]) (ok:=fun _=>True) (okp:=fun _=>True) ?hr ?hp (fun _ hk=>hk) trivial (Below.refl _ _) (Nat.le_refl _) (by simp) ?_;(case hd=>rfl);(case hg=>rfl);(case hr=>first|(go_simp;done)|(go_simp;rfl));(case hp=>exact (Reps.one (show Kd.M Kd.string _ _ _ a0 [.string a0] from rfl) (Reps.one (show Kd.M Kd.string _ _ _ a1 [.string a1] from rfl) (Reps.one (show Kd.M Kd.string _ _ _ a2 [.string a2] from rfl) (Reps.none _ _)))));intro v729 w64 ho65 hb hg_ hnew_;clear hg_ hnew_;(first|rw [← Ny728.out] at ho65|(simp only [Int.reduceToNat] at ho65;rw [← Ny728.out] at ho65));have n0_:=Aside0.mk (Kd.R_lower ho65 (below_size (by repeat (first|(with_reducible first|exact HB.out|apply below_alloc|apply pw_below_drewN|apply below_drew1)|exact HB.out))));have n1_:=Aside0.mk (below_step (by repeat (first|(with_reducible first|exact HB.out|apply below_alloc|apply pw_below_drewN|apply below_drew1)|exact HB.out)) hb);clear HB;have HO730:=n0_;have HB:=n1_;clear n0_ n1_;clear hb ho65;obtain ⟨Ao66,co66,eo66⟩:=Kd.R_slice HO730.out;subst eo66)|((with_reducible refine gate_callee (f:=20) rfl ?_);refine goesL_ (some 18) rfl rfl Tryd.func20 (by kernel_rfl) rfl #[.slice Ao66 y728.length co66] rfl (by (try simp only [List.map_toArray,List.map_cons,List.map_nil]);first|done|rfl|(simp only [List.length_drop,List.length_take];rfl)) ?_;(with_reducible refine (insolvencylaw1_few.calls k _ _ y728 false _ ?side1 ?side2 A4.out).mono ?_);(case side1=>repeat (first|exact (Kd.R_reads' HO730.out).2.2|(with_reducible refine Kd.C_alloc ?_ _)|(with_reducible refine Kd.C_drewN ?_ _)|(with_reducible refine Kd.C_drew ?_)));(case side2=>exact (Kd.R_reads' HO730.out).2.1);rintro e w' ⟨rfl,⟨nd,rfl⟩⟩;refine ⟨_,rfl,?_⟩)|((with_reducible refine gate_callee (f:=17) rfl ?_);refine goesL_ (some 20) rfl rfl Tryd.func17 (by kernel_rfl) rfl #[] rfl (by (try simp only [List.map_toArray,List.map_cons,List.map_nil]);first|done|rfl|(simp only [List.length_drop,List.length_take];rfl)) ?_;(with_reducible refine (insolvencylaw1_awake.calls k  t732 _ A63.out).mono ?_);rintro e w67 ⟨rfl,hb⟩;refine ⟨_,rfl,?_⟩;have n0_:=Aside0.mk (Kd.R_below (by (with_reducible repeat (first|apply Kd.R_alloc|apply Kd.R_drewN|apply Kd.R_drew));exact HO730.out) hb);have n1_:=Aside0.mk (below_step (by repeat (first|(with_reducible first|exact HB.out|apply below_alloc|apply pw_below_drewN|apply below_drew1)|exact HB.out)) hb);clear HO730;clear HB;have HO730:=n0_;have HB:=n1_;clear n0_ n1_;(try clear hb);(try clear hb2);(try clear hk);(try clear hi)))
  go_ret
  exact ⟨by first|rfl|(simp [errW_none,errW_some] <;> rfl)|(simp [*,errW_none,errW_some] <;> rfl),by repeat (first|(with_reducible first|exact HB.out|apply below_alloc|apply pw_below_drewN|apply below_drew1)|exact HB.out)⟩
def insolvencylaw1_NaturalDivisors.Pure:Prop:=∀ (a0:ByteArray) (a1:ByteArray) (a2:ByteArray),a0.size≤140737488351232→a1.size≤140737488351232→a2.size≤140737488351232 → ∃ k,insolvencylaw1_NaturalDivisors.f k a0 a1 a2=some true
theorem insolvencylaw1_NaturalDivisors.walk (P:insolvencylaw1_NaturalDivisors.Pure) (a0:ByteArray) (a1:ByteArray) (a2:ByteArray) (w:World) (w0:a0.size≤140737488351232) (w1:a1.size≤140737488351232) (w2:a2.size≤140737488351232) :
 Calls Tryd.prog 16 #[.string a0,.string a1,.string a2] w fun e w'=>e = .returned (.bool true)∧Below w.heap.size w w':=by
 obtain ⟨k,h⟩:=P a0 a1 a2 w0 w1 w2
 refine (insolvencylaw1_NaturalDivisors.calls k a0 a1 a2 true w h).mono ?_
 rintro e w' ⟨rfl,hd⟩
 exact ⟨rfl,hd⟩
end Go.Proofs.YtjaflmhdclmolaaDoor.F
end
