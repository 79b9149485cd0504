/- Part 10 of the proof of NaturalDivisors: the functions' walks and what they compute, in the order of the calls; each holds for all arguments that its row allows. -/
import Derived.Test.YtjaflmhdclmolaaDoorMNaturalDivisors9
import Derived.Test.YtjaflmhdclmolaaDoorMNaturalDivisors7
import Derived.Test.YtjaflmhdclmolaaDoorMNaturalDivisors8
import Derived.KernelRfl
import Derived.Test.YtjaflmhdclmolaaDoorMNaturalDivisors6
import Derived.Lib.ItoaNum
section
namespace Go.Proofs.YtjaflmhdclmolaaDoor.Num
open Go.RowKit Go.Proofs.YtjaflmhdclmolaaDoorW.PrintWords Go.Proofs.YtjaflmhdclmolaaDoorW.PrintLast Go.Proofs.YtjaflmhdclmolaaDoorW.PrintMore Go.Proofs.YtjaflmhdclmolaaDoor.F
set_option linter.unusedVariables false
theorem drop_cons {l:List Int} {i:Nat} {x:Int} {r:List Int} (h:l.drop i=x :: r):i<l.length∧rd l (i:Int)=x∧l.drop (i+1)=r∧x ∈ l:=by
 have hlt:i<l.length:=by
  rcases Nat.lt_or_ge i l.length with q|q
  ·exact q
  ·rw [List.drop_of_length_le q] at h;cases h
 obtain ⟨y,_,hr,_,hd⟩:=drop_split hlt
 rw [hd] at h
 have h1:=(List.cons.inj h).1
 have h2:=(List.cons.inj h).2
 refine ⟨hlt,by rw [hr,h1],h2,?_⟩
 have:x ∈ l.drop i:=by rw [hd,h1];exact List.mem_cons_self
 exact List.mem_of_mem_drop this
theorem drop_nil {l:List Int} {i:Nat} (h:l.drop i=[]):l.length≤i:=by
 have:=congrArg List.length h
 rw [List.length_drop,List.length_nil] at this
 omega
theorem drop_len {l:List Int} {i:Nat} {r:List Int} (h:l.drop i=r):r.length=l.length-i:=by rw [← h,List.length_drop]
theorem vsnoc (o:List Int) (d r:Int):val (o ++ [d])+4294967296 ^ (o ++ [d]).length*r=val o+4294967296 ^ o.length*(d+4294967296*r):=by
 rw [val_app,List.length_append,List.length_singleton,Int.pow_succ]
 simp only [val,Int.mul_zero,Int.add_zero,Int.mul_add,← Int.mul_assoc]
 omega
theorem snoc_len (o:List Int) (d:Int):(o ++ [d]).length=o.length+1:=by rw [List.length_append,List.length_singleton]
theorem snoc_dig {o:List Int} {d:Int} (h:Dig o) (h0:0≤d) (h1:d<4294967296):Dig (o ++ [d]):=h.app (Dig.cons h0 h1 Dig.nil)
theorem set_snoc (o:List Int) (d x:Int) (r:List Int):(o ++ x :: r).set o.length d=(o ++ [d]) ++ r:=by
 have:=set_at o x d r (o.length:Int) rfl
 rw [Int.toNat_natCast] at this
 rw [this,List.append_assoc,List.singleton_append]
theorem add32_eq {a b c:Int} (ha0:0≤a) (ha:a<4294967296) (hb0:0≤b) (hb:b<4294967296) (hc0:0≤c) (hc:c≤1):bits_Add32.f a b c=some ((a+b+c)%4294967296,(a+b+c)/4294967296):=by
 unfold bits_Add32.f
 rw [wu (n:=a) (by omega) (by omega),wu (n:=b) (by omega) (by omega),wu (n:=c) (by omega) (by omega),wu (n:=a+b) (by omega) (by omega),wu (by omega) (by omega),Int.emod_eq_of_lt (a:=(a+b+c)/4294967296) (by omega) (by omega)]
theorem sub32_eq {a b c:Int} (ha0:0≤a) (ha:a<4294967296) (hb0:0≤b) (hb:b<4294967296) (hc0:0≤c) (hc:c≤1):bits_Sub32.f a b c=some ((a-b-c)%4294967296,-((a-b-c)/4294967296)):=by
 unfold bits_Sub32.f
 rw [if_pos ⟨ha0,ha,hb0,hb,hc0,hc⟩]
 have:(if a<b+c then (1:Int) else 0) = -((a-b-c)/4294967296):=by split <;> omega
 rw [this]
theorem mul_le {u v:Int} (hu0:0≤u) (hu:u<4294967296) (hv0:0≤v) (hv:v<4294967296):0≤u*v∧u*v≤18446744065119617025:=by
 have h1:=Int.mul_nonneg hu0 hv0
 have h2:=Int.mul_le_mul_of_nonneg_right (show u≤4294967295 by omega) hv0
 omega
theorem mul_row (y:List Int) (hy:Dig y) (hly:y.length≤400000) (x:List Int) (N:Int) (i:Int) (u:Int) (hu0:0≤u) (hu:u<4294967296) (o z:List Int) (hi:i=o.length) (ho:o.length≤400000) (r:ByteArray) (ms:List Int):∀ (ys p:List Int) (c:Int),y.drop p.length=ys→ys.length=ms.length→p.length≤y.length→Dig p→Dig ms→0≤c→c<4294967296 →
 (∀ p' c',Dig p'→0≤c'→c'<4294967296→p'.length=y.length→val p'+4294967296 ^ p'.length*c'=val p+4294967296 ^ p.length*(c+val ms+u*val ys)→Ev (fun k=>natural_Multiply.l0 k y (o ++ (p' ++ c' :: z)) x N (wrap64 (i+1))) r) →
 Ev (fun k=>natural_Multiply.l1 k y (o ++ (p ++ (ms ++ 0 :: z))) i u c x N i y (y.length:Int) (p.length:Int)) r:=by
 induction ms with
 | nil=>
  intro ys p c h1 h2 h3 hp hms c0 c1 hcont
  have e2:ys=[]:=List.eq_nil_of_length_eq_zero (by simpa using h2)
  rw [e2] at h1 hcont
  have e1:=drop_nil h1
  have g:=hcont p c hp c0 c1 (by omega) (by simp [val])
  refine Ev.step (fun k=>?_) g
  simp only [natural_Multiply.l1]
  have hw:wrap64 (i+(y.length:Int))=((o ++ p).length:Int):=by rw [w64 (by omega) (by omega),List.length_append];omega
  have hs:(o ++ (p ++ ([] ++ 0 :: z))).set (o ++ p).length (c%4294967296)=o ++ (p ++ c :: z):=by
   rw [List.nil_append,← List.append_assoc]
   have:=set_at (o ++ p) 0 (c%4294967296) z ((o ++ p).length:Int) rfl
   rw [Int.toNat_natCast] at this
   rw [this,List.append_assoc,Int.emod_eq_of_lt c0 c1]
  rw [if_neg (by omega),hw,if_pos (by omega),if_pos (by simp only [List.length_append,List.length_cons,List.length_nil];omega),Int.toNat_natCast,hs]
 | cons m ms ih=>
  intro ys p c h1 h2 h3 hp hms c0 c1 hcont
  cases ys with
  | nil=>simp at h2
  | cons v ys=>
   obtain ⟨i1,r1,d1,m1⟩:=drop_cons h1
   have bv:=hy v m1
   have bm:=hms.head
   have bp:=mul_le hu0 hu bv.1 bv.2
   have hq:∀ q:Int,0≤q→q≤18446744065119617025+8589934590→0≤q%4294967296∧q%4294967296<4294967296∧0≤q/4294967296∧q/4294967296<4294967296:=fun q _ _=>by omega
   have bt:=hq (u*v+m+c) (by omega) (by omega)
   have ih:=ih ys (p ++ [(u*v+m+c)%4294967296]) ((u*v+m+c)/4294967296) (by rw [snoc_len];exact d1) (by simpa using h2) (by rw [snoc_len];omega) (snoc_dig hp bt.1 bt.2.1) hms.tail bt.2.2.1 bt.2.2.2 (by
    intro p' c' a1 a2 a3 a4 a5
    refine hcont p' c' a1 a2 a3 a4 ?_
    rw [a5,vsnoc]
    congr 2
    simp only [val,Int.mul_add]
    rw [Int.mul_left_comm u 4294967296]
    generalize u*v=q1
    generalize u*val ys=q2
    omega)
   rw [snoc_len] at ih
   refine Ev.step (fun k=>?_) ih
   simp only [natural_Multiply.l1]
   have hw:wrap64 (i+(p.length:Int))=((o ++ p).length:Int):=by rw [w64 (by omega) (by omega),List.length_append];omega
   have he:o ++ (p ++ (m :: ms ++ 0 :: z))=(o ++ p) ++ m :: (ms ++ 0 :: z):=by rw [List.append_assoc,List.cons_append]
   have hr:rd (o ++ (p ++ (m :: ms ++ 0 :: z))) ((o ++ p).length:Int)=m:=by rw [he];exact rd_at _ _ _ _ rfl
   have hs:∀ d,(o ++ (p ++ (m :: ms ++ 0 :: z))).set (o ++ p).length d=o ++ (p ++ [d] ++ (ms ++ 0 :: z)):=fun d=>by
    rw [he,set_snoc]
    simp only [List.append_assoc]
   rw [if_pos (by omega),hw,r1,hr,if_pos (by omega),if_pos (by omega),if_pos (by omega),if_pos (by simp only [List.length_append,List.length_cons];omega),wu (n:=u) (by omega) (by omega),wu (n:=v) (by omega) (by omega),wu (n:=u*v) (by omega) (by omega),wu (n:=m) (by omega) (by omega),wu (n:=u*v+m) (by omega) (by omega),wu (by omega) (by omega),Int.toNat_natCast,hs,winc (by omega)]
theorem head_app (p:List Int) (c:Int):∃ h t,p ++ [c]=h :: t∧t.length=p.length:=by
 cases p with
 | nil=>exact ⟨c,[],rfl,rfl⟩
 | cons a p=>exact ⟨a,p ++ [c],rfl,by rw [snoc_len];rfl⟩
theorem mul_outer (y:List Int) (hy:Dig y) (hly:y.length≤400000) (x:List Int) (hx:Dig x) (hlx:x.length≤400000) (xs:List Int):∀ (o m:List Int),x.drop o.length=xs→o.length≤x.length→Dig o→Dig m→m.length=y.length →
 Ev (fun k=>natural_Multiply.l0 k y (o ++ (m ++ List.replicate xs.length 0)) x (x.length:Int) (o.length:Int)) (S (val o+4294967296 ^ o.length*(val m+val xs*val y))):=by
 induction xs with
 | nil=>
  intro o m h1 h2 ho hm hml
  have e1:=drop_nil h1
  have ht:=text_ev (ho.app hm) (by rw [List.length_append];omega)
  rw [val_app] at ht
  refine Ev.step (f:=fun k=>(natural_limbs_text.f k (o ++ m)).bind fun t=>some t) (fun k=>?_) ?_
  ·simp only [natural_Multiply.l0]
   rw [if_neg (by omega),List.length_nil,List.replicate_zero,List.append_nil]
  ·simp only [val,Int.zero_mul,Int.add_zero]
   exact Ev.bind ht (Ev.now _)
 | cons u xs ih=>
  intro o m h1 h2 ho hm hml
  obtain ⟨i1,r1,d1,m1⟩:=drop_cons h1
  have bu:=hx u m1
  have g:=mul_row y hy hly x (x.length:Int) (o.length:Int) u bu.1 bu.2 o (List.replicate xs.length 0) rfl (by omega) (S (val o+4294967296 ^ o.length*(val m+val (u :: xs)*val y))) m y [] 0 rfl hml.symm (Nat.zero_le _) Dig.nil hm (Int.le_refl _) (by decide) (by
   intro p c hp c0 c1 hpl hv
   obtain ⟨h,t,e1,e2⟩:=head_app p c
   have hdt:Dig (h :: t):=by rw [← e1];exact snoc_dig hp c0 c1
   have hval:h+4294967296*val t=val m+u*val y:=by
    have q1:val (p ++ [c])=val p+4294967296 ^ p.length*c:=by rw [val_app];simp [val]
    rw [e1] at q1
    have q2:val []+4294967296 ^ ([]:List Int).length*(0+val m+u*val y)=val m+u*val y:=by simp [val]
    rw [q2,← q1] at hv
    simp only [val] at hv
    exact hv
   have ih:=ih (o ++ [h]) t (by rw [snoc_len];exact d1) (by rw [snoc_len];omega) (snoc_dig ho hdt.head.1 hdt.head.2) hdt.tail (by omega)
   have e3:o ++ (p ++ c :: List.replicate xs.length 0)=o ++ [h] ++ (t ++ List.replicate xs.length 0):=by
    rw [show p ++ c :: List.replicate xs.length 0=(p ++ [c]) ++ List.replicate xs.length 0 by rw [List.append_assoc,List.singleton_append],e1,List.append_assoc,List.cons_append,List.singleton_append]
   rw [vsnoc,show h+4294967296*(val t+val xs*val y)=val m+val (u :: xs)*val y by
    simp only [val,Int.add_mul,Int.mul_add,Int.mul_assoc]
    omega] at ih
   rw [e3,winc (by omega),← snoc_len o h]
   exact ih)
  refine Ev.step (fun k=>?_) g
  simp only [natural_Multiply.l0]
  rw [if_pos (by omega),if_pos (by omega),if_pos (by omega),r1]
  rfl
theorem Multiply_ev (a b:ByteArray) (ha:a.size≤1600000) (hb:b.size≤1600000):Ev (fun k=>natural_Multiply.f k a b) (S (B a*B b)):=by
 have h1:=B_nonneg a
 have h2:=B_nonneg b
 have l1:=B_small (s:=a) (m:=400000) (by omega)
 have l2:=B_small (s:=b) (m:=400000) (by omega)
 refine Ev.bind (parse_ev a (by omega)) ?_
 refine Ev.bind (parse_ev b (by omega)) ?_
 have g:=mul_outer (L (B b)) (L_dig h2) l2 (L (B a)) (L_dig h1) l1 (L (B a)) [] (List.replicate (L (B b)).length 0) rfl (Nat.zero_le _) Dig.nil (Dig.zeros _) List.length_replicate
 rw [L_val h1,L_val h2,val_zeros,show val []+4294967296 ^ ([]:List Int).length*(0+B a*B b)=B a*B b by simp [val]] at g
 have hw:wrap64 (((L (B a)).length:Int)+((L (B b)).length:Int))=(((L (B b)).length+(L (B a)).length:Nat):Int):=by rw [w64 (by omega) (by omega)];omega
 refine Ev.congr (fun k=>?_) g
 rw [hw,Int.toNat_natCast,if_pos (by omega),if_pos (by omega),List.nil_append,List.replicate_append_replicate]
 rfl
end Go.Proofs.YtjaflmhdclmolaaDoor.Num
end
section
namespace Go.Proofs.YtjaflmhdclmolaaDoor.Num
open Go.RowKit Go.Proofs.YtjaflmhdclmolaaDoorW.PrintWords Go.Proofs.YtjaflmhdclmolaaDoorW.PrintLast Go.Proofs.YtjaflmhdclmolaaDoorW.PrintMore Go.Proofs.YtjaflmhdclmolaaDoor.F
set_option maxRecDepth 100000 in
theorem awake_div:natural_Divide.f 40 ⟨#[3,232]⟩ ⟨#[7]⟩=some (⟨#[142]⟩,⟨#[6]⟩,true):=by kernel_rfl
set_option maxRecDepth 100000 in
theorem awake_parse:natural_Parse.f 40 ⟨#[48,48,55]⟩=some (⟨#[]⟩,3):=by kernel_rfl
set_option maxRecDepth 100000 in
theorem awake_add:natural_Add.f 40 ⟨#[255]⟩ ⟨#[1]⟩=some ⟨#[1,0]⟩:=by kernel_rfl
set_option maxRecDepth 100000 in
theorem awake_fmt1:natural_Format.f 40 ⟨#[142]⟩=some ⟨#[49,52,50]⟩:=by kernel_rfl
set_option maxRecDepth 100000 in
theorem awake_fmt2:natural_Format.f 40 ⟨#[6]⟩=some ⟨#[54]⟩:=by kernel_rfl
theorem awake_ev:Ev (fun k=>insolvencylaw1_awake.f k) true:=by
 refine Ev.of (fun k=>insolvencylaw1_awake.mono k) (k:=40) ?_
 unfold insolvencylaw1_awake.f
 rw [awake_div,Option.bind_some,awake_parse,Option.bind_some,awake_add,Option.bind_some,if_pos (by rw [Lib.toList_data]),if_pos rfl,awake_fmt1,Option.bind_some,if_pos (by rw [Lib.toList_data]),awake_fmt2,Option.bind_some,if_pos (by rw [Lib.toList_data])]
 rfl
end Go.Proofs.YtjaflmhdclmolaaDoor.Num
end
section
namespace Go.Proofs.YtjaflmhdclmolaaDoor.Num
open Go.RowKit Go.Proofs.YtjaflmhdclmolaaDoorW.PrintWords Go.Proofs.YtjaflmhdclmolaaDoorW.PrintLast Go.Proofs.YtjaflmhdclmolaaDoorW.PrintMore Go.Proofs.YtjaflmhdclmolaaDoor.F
theorem with_few {l:List ByteArray} (hl:l.length≤1000) {X:Nat→Option Bool} (h:(∀ s ∈ l,s.size≤60)→Ev X true):Ev (fun k=>(insolvencylaw1_few.f k l).bind fun t=>if t=true then X k else (insolvencylaw1_awake.f k).bind fun t=>some t) true:=by
 refine Ev.bind (few_ev l hl) ?_
 by_cases hf:(l.all fun s=>decide (s.size≤60))=true
 ·rw [hf]
  refine Ev.ite rfl (h fun s hs=>?_)
  have:=List.all_eq_true.1 hf s hs
  simpa using this
 ·rw [Bool.not_eq_true] at hf
  rw [hf]
  refine Ev.ite_not (by decide) ?_
  exact Ev.bind awake_ev (Ev.now _)
theorem some_of {g:Nat→Option Bool} (h:Ev g true):∃ k,g k=some true:=h.elim fun K hK=>⟨K,hK K (Nat.le_refl _)⟩
theorem sz_lt {a:Int} (ha:0≤a) {p:Nat} (h:(S a).size≤p):a<256 ^ p:=by
 have h1:=B_lt (S a)
 rw [B_S ha] at h1
 have e1:((256 ^ (S a).size:Nat):Int)=(256:Int) ^ (S a).size:=Int.natCast_pow 256 _
 have e2:((256 ^ p:Nat):Int)=(256:Int) ^ p:=Int.natCast_pow 256 _
 rw [← e1] at h1
 rw [← e2]
 exact Int.lt_of_lt_of_le h1 (Int.ofNat_le.2 (Nat.pow_le_pow_right (by decide) h))
theorem sz_B {s:ByteArray} {p:Nat} (h:s.size≤p):(S (B s)).size≤p:=Nat.le_trans (S_size (B_lt s)) h
theorem sz_mul {a b:Int} (ha:0≤a) (hb:0≤b) {p q:Nat} (h1:(S a).size≤p) (h2:(S b).size≤q):(S (a*b)).size≤p+q:=by
 refine S_size ?_
 rw [Int.pow_add]
 have g1:=sz_lt ha h1
 have g2:=sz_lt hb h2
 generalize (256:Int) ^ p=x at *
 generalize (256:Int) ^ q=y at *
 have h5:=Int.mul_le_mul_of_nonneg_right (show a≤x-1 by omega) hb
 have h6:=Int.mul_le_mul_of_nonneg_left (show b≤y-1 by omega) (show 0≤x-1 by omega)
 simp only [Int.sub_mul,Int.mul_sub,Int.one_mul,Int.mul_one] at h5 h6
 omega
theorem sz_le {a b:Int} (hb:0≤b) {p:Nat} (h:a≤b) (h2:(S b).size≤p):(S a).size≤p:=Nat.le_trans (S_mono hb h) h2
end Go.Proofs.YtjaflmhdclmolaaDoor.Num
end
section
namespace Go.Proofs.YtjaflmhdclmolaaDoor.Num
set_option linter.unusedVariables false
theorem divmod {n d q r:Int} (h:n=q*d+r) (h0:0≤r) (h1:r<d):n/d=q∧n%d=r:=
 (Int.ediv_emod_unique (by omega)).2 ⟨by rw [h,Int.mul_comm];omega,h0,h1⟩
theorem divmod_eq (n d:Int):n=(n/d)*d+n%d:=by
 have:=Int.emod_add_mul_ediv n d
 rw [Int.mul_comm (n/d)]
 omega
structure Kn (D U B dl ul v1 v2 u0 u1 u2 q:Int):Prop where
 hD:D=(v1*4294967296+v2)*B+dl
 hU:U=((u0*4294967296+u1)*4294967296+u2)*B+ul
 hB:0<B
 dl0:0≤dl
 dl1:dl<B
 ul0:0≤ul
 ul1:ul<B
 v10:2147483648≤v1
 v11:v1<4294967296
 v20:0≤v2
 v21:v2<4294967296
 u00:0≤u0
 u01:u0<4294967296
 u10:0≤u1
 u11:u1<4294967296
 u20:0≤u2
 u21:u2<4294967296
 q0:0≤q
 q1:q*D≤U
 q2:U<q*D+D
 hlt:U<4294967296*D
section
variable {D U B dl ul v1 v2 u0 u1 u2 q:Int}
theorem Kn.top (h:Kn D U B dl ul v1 v2 u0 u1 u2 q):q*(v1*4294967296+v2)≤(u0*4294967296+u1)*4294967296+u2:=by
 have e1:q*D=q*(v1*4294967296+v2)*B+q*dl:=by rw [h.hD,Int.mul_add,Int.mul_assoc]
 have e2:=Int.mul_nonneg h.q0 h.dl0
 have e3:=h.q1
 have e4:=h.hU
 have e5:q*(v1*4294967296+v2)*B<((u0*4294967296+u1)*4294967296+u2+1)*B:=by
  rw [Int.add_mul _ 1 B,Int.one_mul]
  have:=h.ul1
  omega
 have:=Int.lt_of_mul_lt_mul_right e5 (Int.le_of_lt h.hB)
 omega
theorem Kn.dpos (h:Kn D U B dl ul v1 v2 u0 u1 u2 q):4294967296*B≤D:=by
 have h1:=h.hD
 have h2:=h.dl0
 have h3:4294967296*B≤(v1*4294967296+v2)*B:=Int.mul_le_mul_of_nonneg_right (by have:=h.v10;have:=h.v20;omega) (Int.le_of_lt h.hB)
 omega
theorem Kn.qlt (h:Kn D U B dl ul v1 v2 u0 u1 u2 q):q<4294967296:=by
 have h1:=h.dpos
 have h2:=h.hB
 exact Int.lt_of_mul_lt_mul_right (Int.lt_of_le_of_lt h.q1 h.hlt) (by omega)
theorem Kn.uv (h:Kn D U B dl ul v1 v2 u0 u1 u2 q):u0≤v1:=by
 have h1:=h.hlt
 rw [h.hU,h.hD] at h1
 have h2:(u0*18446744073709551616)*B<((v1+1)*18446744073709551616)*B:=by
  have a1:(u0*18446744073709551616)*B≤((u0*4294967296+u1)*4294967296+u2)*B:=Int.mul_le_mul_of_nonneg_right (by have:=h.u10;have:=h.u20;omega) (Int.le_of_lt h.hB)
  have a2:(v1*4294967296+v2+1)*B≤(v1*4294967296+4294967296)*B:=Int.mul_le_mul_of_nonneg_right (by have:=h.v21;omega) (Int.le_of_lt h.hB)
  have a3:(v1*4294967296+v2+1)*B=(v1*4294967296+v2)*B+B:=by rw [Int.add_mul _ 1 B,Int.one_mul]
  have a4:((v1+1)*18446744073709551616)*B=4294967296*((v1*4294967296+4294967296)*B):=by rw [← Int.mul_assoc];congr 1;omega
  rw [a4]
  have:=h.dl1
  have:=h.ul0
  omega
 have:=Int.lt_of_mul_lt_mul_right h2 (Int.le_of_lt h.hB)
 omega
structure Gs (v1 u0 u1 q g r:Int):Prop where
 eq:g*v1+r=u0*4294967296+u1
 le:q≤g
 r0:0≤r
theorem Kn.start (h:Kn D U B dl ul v1 v2 u0 u1 u2 q):Gs v1 u0 u1 q ((u0*4294967296+u1)/v1) ((u0*4294967296+u1)%v1):=by
 have hv:=h.v10
 refine ⟨(divmod_eq _ _).symm,?_,Int.emod_nonneg _ (by omega)⟩
 refine (Int.le_ediv_iff_mul_le (by omega)).2 ?_
 have h1:=h.top
 have h2:(q*v1)*4294967296≤q*(v1*4294967296+v2):=by
  rw [Int.mul_add,Int.mul_assoc]
  have:=Int.mul_nonneg h.q0 h.v20
  omega
 have:=h.u21
 omega
theorem Gs.g0 (h:Kn D U B dl ul v1 v2 u0 u1 u2 q) {g r:Int} (a:Gs v1 u0 u1 q g r):0≤g:=by have:=a.le;have:=h.q0;omega
theorem Gs.next (h:Kn D U B dl ul v1 v2 u0 u1 u2 q) {g r:Int} (a:Gs v1 u0 u1 q g r) (c:4294967296≤g∨r*4294967296+u2<g*v2):Gs v1 u0 u1 q (g-1) (r+v1):=by
 have h1:=a.eq
 have h2:=a.le
 refine ⟨by rw [Int.sub_mul];omega,?_,by have:=a.r0;have:=h.v10;omega⟩
 have h3:q≠g:=by
  intro e
  rcases c with c|c
  ·have:=h.qlt;omega
  ·have h4:=h.top
   rw [e,Int.mul_add,← Int.mul_assoc,← h1] at h4
   omega
 omega
theorem Gs.done (h:Kn D U B dl ul v1 v2 u0 u1 u2 q) {g r:Int} (a:Gs v1 u0 u1 q g r) (c1:g<4294967296) (c2:g*v2≤r*4294967296+u2):g≤q+1:=by
 have h1:=a.eq
 have g0:=a.g0 h
 have e1:g*D=g*(v1*4294967296+v2)*B+g*dl:=by rw [h.hD,Int.mul_add,Int.mul_assoc]
 have e2:g*(v1*4294967296+v2)≤(u0*4294967296+u1)*4294967296+u2:=by
  rw [Int.mul_add,← Int.mul_assoc,← h1];omega
 have e3:=Int.mul_le_mul_of_nonneg_right e2 (Int.le_of_lt h.hB)
 have e4:g*dl≤4294967296*dl:=Int.mul_le_mul_of_nonneg_right (by omega) h.dl0
 have e5:=h.dpos
 have e6:=h.hU
 have e7:=h.dl1
 have e8:=h.ul0
 have e9:=h.q2
 have hlt:g*D<(q+2)*D:=by
  rw [Int.add_mul]
  omega
 have:=Int.lt_of_mul_lt_mul_right hlt (by have:=h.hB;omega)
 omega
theorem Gs.brk (h:Kn D U B dl ul v1 v2 u0 u1 u2 q) {g r:Int} (a:Gs v1 u0 u1 q g r) (c:4294967296≤r):g<4294967296∧g*v2≤r*4294967296+u2:=by
 have h1:=a.eq
 have g0:=a.g0 h
 have hu:=h.uv
 have hv:=h.v10
 have e1:g*v1<4294967296*v1:=by have:=h.u11;omega
 have e2:g<4294967296:=Int.lt_of_mul_lt_mul_right e1 (by omega)
 refine ⟨e2,?_⟩
 have e3:=Int.mul_le_mul_of_nonneg_right (show g≤4294967296 by omega) h.v20
 have:=h.v21
 have:=h.u20
 omega
theorem Kn.fix {D U q g W X bo:Int} (hD:0<D) (q1:q*D≤U) (q2:U<q*D+D) (hle:q≤g) (hge:g≤q+1) (hX0:0≤X) (hX1:X<W) (b0:0≤bo) (b1:bo≤1) (e:X+g*D=U+W*bo) :
 (bo=0→g=q∧X=U-q*D)∧(bo=1→g=q+1∧X+D-W=U-q*D):=by
 have hg:g=q∨g=q+1:=by omega
 constructor
 ·intro hb
  rw [hb,Int.mul_zero] at e
  rcases hg with rfl|rfl
  ·exact ⟨rfl,by omega⟩
  ·rw [Int.add_mul,Int.one_mul] at e;omega
 ·intro hb
  rw [hb,Int.mul_one] at e
  rcases hg with rfl|rfl
  ·omega
  ·rw [Int.add_mul,Int.one_mul] at e
   exact ⟨rfl,by omega⟩
end
end Go.Proofs.YtjaflmhdclmolaaDoor.Num
end
section
namespace Go.Proofs.YtjaflmhdclmolaaDoor.F
open Go.RowKit Go.Proofs.YtjaflmhdclmolaaDoorW.PrintWords Go.Proofs.YtjaflmhdclmolaaDoorW.PrintLast Go.Proofs.YtjaflmhdclmolaaDoorW.PrintMore
attribute [local go_sem] max2_int min2_int max_two min_two max_three min_three max_four min_four   
set_option linter.unusedVariables false
set_option linter.unusedSimpArgs false
def insolvencyref1_short.l0:Nat→List Int→Int→List Int→Int→Int→Option (List Int×Int)
 | 0,_,_,_,_,_=>none
 | k+1,x0,x1,x6,x7,x8=>if x8≥0 then (if 0≤x8 then (if x8<(x0.length:Int) then (if (IntKind.u64.wrap (x1))=0 then (none) else (if x8<(x6.length:Int) then (insolvencyref1_short.l0 k x0 x1 (x6.set (x8:Int).toNat ((IntKind.u64.wrap (Int.tdiv (Go.bits .or .u64 (IntKind.u64.wrap (x7*4294967296)) (IntKind.u64.wrap (rd x0 x8))) (IntKind.u64.wrap (x1))))%4294967296)) (Int.tmod (Go.bits .or .u64 (IntKind.u64.wrap (x7*4294967296)) (IntKind.u64.wrap (rd x0 x8))) (IntKind.u64.wrap (x1))) (wrap64 (x8-1))) else (none))) else (none)) else (none)) else ((insolvencyref1_strip.f k x6).bind fun t308=>(some (t308,(x7)%4294967296)))
def insolvencyref1_short.f (k:Nat) (l0:List Int) (a1:Int):Option (List Int×Int):=if 0≤(l0.length:Int) then (if ((l0.length:Int):Int).toNat≤70368744177664 then (insolvencyref1_short.l0 k l0 a1 (List.replicate ((l0.length:Int):Int).toNat 0) 0 (wrap64 ((l0.length:Int)-1))) else (none)) else (none)
theorem insolvencyref1_short.mono_l:∀ k,(∀ y0 y1 y2 y3 y4,LeO (insolvencyref1_short.l0 k y0 y1 y2 y3 y4) (insolvencyref1_short.l0 (k+1) y0 y1 y2 y3 y4))
 | 0=>fun _ _ _ _ _ r h=>by simp [insolvencyref1_short.l0] at h
 | k+1=>by
  have ih0:=insolvencyref1_short.mono_l k
  ·intro y0 y1 y2 y3 y4
   unfold insolvencyref1_short.l0
   repeat' first
   | (with_reducible exact ih0 _ _ _ _ _)
   | (with_reducible exact insolvencyref1_strip.mono _ _)
   | (with_reducible exact LeO.refl _)
   | (with_reducible exact LeO.none _)
   | (with_reducible refine LeO.ite ?_ ?_)
   | (with_reducible refine LeO.bind ?_ (fun _=>?_))
   | exact ih0 _ _ _ _ _
   | exact insolvencyref1_strip.mono _ _
   | exact LeO.none _
   | refine LeO.ite ?_ ?_
   | refine LeO.bind ?_ (fun _=>?_)
theorem insolvencyref1_short.mono:∀ a0 a1 k,LeO (insolvencyref1_short.f k a0 a1) (insolvencyref1_short.f (k+1) a0 a1):=by
 intro a0 a1 k
 have ih0:=insolvencyref1_short.mono_l k
 unfold insolvencyref1_short.f
 repeat' first
  | (with_reducible exact ih0 _ _ _ _ _)
  | (with_reducible exact insolvencyref1_strip.mono _ _)
  | (with_reducible exact LeO.refl _)
  | (with_reducible exact LeO.none _)
  | (with_reducible refine LeO.ite ?_ ?_)
  | (with_reducible refine LeO.bind ?_ (fun _=>?_))
  | exact ih0 _ _ _ _ _
  | exact insolvencyref1_strip.mono _ _
  | exact LeO.none _
  | refine LeO.ite ?_ ?_
  | refine LeO.bind ?_ (fun _=>?_)
set_option maxHeartbeats 8000000 in
set_option maxRecDepth 100000 in
theorem insolvencyref1_short.calls (k:Nat) (A0:Option Addr) (c0:Nat) (l0:List Int) (a1:Int) (r1:List Int) (r2:Int) (w:World) (hr0:Kd.C (Kd.int .u32) w A0 l0.length l0) (hc0:l0.length≤c0) (h:insolvencyref1_short.f k l0 a1=some (r1,r2)) :
 Calls Tryd.prog 74 #[.slice A0 l0.length c0,.int .u32 a1] w fun e w'=>∃ v0_:Value,e = .returned (.tuple #[v0_,.int .u32 r2])∧Kd.R (Kd.int .u32) 60 w' w.heap.size (fun _=>True) v0_ r1∧Below w.heap.size w w':=by
 have HR0:=Aside0.mk hr0
 have HC0:=Aside0.mk hc0
 clear hr0 hc0
 have HB:=Aside0.mk (Below.refl w.heap.size w)
 have H:(if 0≤(l0.length:Int) then (if ((l0.length:Int):Int).toNat≤70368744177664 then (insolvencyref1_short.l0 k l0 a1 (List.replicate ((l0.length:Int):Int).toNat 0) 0 (wrap64 ((l0.length:Int)-1))) else (none)) else (none))=some (r1,r2):=h
 clear h
 by_cases c3:0≤(l0.length:Int)
 ·rw [if_pos c3] at H
  have c3b0:=eq_true c3
  have c3b1:decide (0≤(l0.length:Int))=true:=decide_eq_true c3
  clear c3
  by_cases c4:((l0.length:Int):Int).toNat≤70368744177664
  ·rw [if_pos c4] at H
   have c4b0:=eq_true c4
   have c4b1:decide (((l0.length:Int):Int).toNat≤70368744177664)=true:=decide_eq_true c4
   clear c4
   obtain ⟨y303,hy303⟩:∃ y_:List Int,y_=(List.replicate ((l0.length:Int):Int).toNat 0):=⟨_,rfl⟩
   replace H:(insolvencyref1_short.l0 k l0 a1 y303 0 (wrap64 ((l0.length:Int)-1)))=some (r1,r2):=by first|(rw [hy303];with_reducible exact H)|(have H2_:=(Option.bind_some _ _).symm.trans H;rw [hy303];with_reducible exact H2_)|(have H2_:=(Option.bind_some _ _).symm.trans H;with_reducible exact H2_)|with_reducible exact H|(rw [hy303];exact H)|exact H
   have Ny303:=Aside0.mk hy303
   clear hy303
   have H':=Aside0.mk H
   clear H
   go_enter Tryd.func74,Tryd.ntmps74
   go_wp2_with (first|((with_reducible refine gate_dst (N:=11) rfl ?_);refine Kd.R_make (Kd.int .u32) _ 60 rfl (N:=11) rfl 49 _ _ rfl (l0.length:Int) rfl rfl Tryd.underlying49 (.int .u32 0) 4 info60 rfl (by decide) (by omega) 0 (ok:=fun _=>True) (okp:=fun _=>True) rfl (fun _ hk=>hk) trivial (of_decide_eq_true (by first|(with_reducible assumption)|assumption)) (Nat.le_trans (Nat.mul_le_mul_right _ (of_decide_eq_true (by first|(with_reducible assumption)|assumption):(l0.length:Int).toNat≤70368744177664)) (by omega)) (Below.refl _ _) (Nat.le_refl _) ?_;intro v304 w5 ho6 hb hg_ hnew_;clear hg_ hnew_;(first|rw [← Ny303.out] at ho6|(simp only [Int.reduceToNat] at ho6;rw [← Ny303.out] at ho6));have n0_:=Aside0.mk (Kd.R_lower ho6 (below_size (by repeat (first|(with_reducible first|exact HB.out|apply below_alloc|apply pw_below_drewN|apply below_drew1)|exact HB.out))));have n1_:=Aside0.mk (below_step (by repeat (first|(with_reducible first|exact HB.out|apply below_alloc|apply pw_below_drewN|apply below_drew1)|exact HB.out)) hb);clear HB;have HO305:=n0_;have HB:=n1_;clear n0_ n1_;clear hb ho6))
   go_loopg [7,8] k (fun kq v7 v8 w'=>∃ (x6_1:List Int) (x7_1:Int) (x8_1:Int),v7 = .int .u64 x7_1∧v8 = .int .i64 x8_1∧Aside0 (insolvencyref1_short.l0 kq l0 a1 x6_1 x7_1 x8_1=some (r1,r2))∧Aside0 (kq≤k)∧Aside0 (Kd.R (Kd.int .u32) 60 w' w.heap.size (fun _=>True) v304 x6_1)∧Aside0 (Below w.heap.size w w'))
   case atStart=>exact ⟨(y303),(0),(wrap64 ((l0.length:Int)-1)),(by first|rfl|(simp;done)|(simp [*];done)),(by first|rfl|(simp;done)|(simp [*];done)),H',⟨Nat.le_refl _⟩,⟨by (with_reducible repeat (first|apply Kd.R_alloc|apply Kd.R_drewN|apply Kd.R_drew));exact HO305.out⟩,⟨by repeat (first|(with_reducible first|exact HB.out|apply below_alloc|apply pw_below_drewN|apply below_drew1)|exact HB.out)⟩⟩
   case round=>
    clear H'
    try clear p2
    try clear c3
    try clear c3b0
    try clear c3b1
    try clear c4
    try clear c4b0
    try clear c4b1
    try clear p6
    obtain ⟨x6_1,x7_1,x8_1,rfl,rfl,HA,HK1,HO_6,HB⟩:=hrel
    cases gk with
    | zero=>exact absurd HA.out (by simp [insolvencyref1_short.l0])
    | succ k1=>
     have H:=HA.out
     clear HA
     simp only [insolvencyref1_short.l0] at H
     by_cases c7:x8_1≥0
     ·rw [if_pos c7] at H
      have c7b0:decide (0≤x8_1)=true:=decide_eq_true c7
      clear c7
      by_cases c8:0≤x8_1
      ·rw [if_pos c8] at H
       have c8b0:decide (0≤x8_1)=true:=decide_eq_true c8
       clear c8
       by_cases c9:x8_1<(l0.length:Int)
       ·rw [if_pos c9] at H
        have c9b0:decide (x8_1<(l0.length:Int))=true:=decide_eq_true c9
        clear c9
        by_cases c10:(IntKind.u64.wrap (a1))=0
        ·rw [if_pos c10] at H
         exact absurd H (by simp)
        ·rw [if_neg c10] at H
         have c10b0:((IntKind.u64.wrap (a1)) == 0)=false:=beq_eq_false_iff_ne.mpr c10
         have c10b1:((IntKind.u64.wrap (a1)) != 0)=true:=bne_iff_ne.mpr c10
         by_cases c11:x8_1<(x6_1.length:Int)
         ·rw [if_pos c11] at H
          have c11b0:decide (x8_1<(x6_1.length:Int))=true:=decide_eq_true c11
          clear c11
          obtain ⟨y307,hy307⟩:∃ y_:List Int,y_=(x6_1.set (x8_1:Int).toNat ((IntKind.u64.wrap (Int.tdiv (Go.bits .or .u64 (IntKind.u64.wrap (x7_1*4294967296)) (IntKind.u64.wrap (rd l0 x8_1))) (IntKind.u64.wrap (a1))))%4294967296)):=⟨_,rfl⟩
          replace H:(insolvencyref1_short.l0 k1 l0 a1 y307 (Int.tmod (Go.bits .or .u64 (IntKind.u64.wrap (x7_1*4294967296)) (IntKind.u64.wrap (rd l0 x8_1))) (IntKind.u64.wrap (a1))) (wrap64 (x8_1-1)))=some (r1,r2):=by first|(rw [hy307];with_reducible exact H)|(have H2_:=(Option.bind_some _ _).symm.trans H;rw [hy307];with_reducible exact H2_)|(have H2_:=(Option.bind_some _ _).symm.trans H;with_reducible exact H2_)|with_reducible exact H|(rw [hy307];exact H)|exact H
          have Ny307:=Aside0.mk hy307
          clear hy307
          have H':=Aside0.mk H
          clear H
          have p306:0≤(x8_1:Int):=of_decide_eq_true (by first|(with_reducible assumption)|assumption)
          have q306:x8_1<(l0.length:Int):=of_decide_eq_true (by first|(with_reducible assumption)|assumption)
          obtain ⟨ad306,e306,hx306_0⟩:=Kd.at_int HR0.out x8_1 p306 q306
          cases e306
          replace hx306_0:=(HB.out.cell (World.block_lt_of_cell? w _ hx306_0)).trans hx306_0
          replace p306:=eq_true p306
          replace q306:=eq_true q306
          have p12:0≤(x8_1:Int):=of_decide_eq_true (by first|(with_reducible assumption)|assumption)
          have q12:(x8_1:Int)<((x6_1.length:Int):Int):=of_decide_eq_true (by first|(with_reducible assumption)|assumption)
          obtain ⟨go12,co12,eo12,gb12,gl12,cl12,HG12⟩:=Kd.R_form HO_6.out (by omega)
          (first|cases eo12|(injection eo12 with ea_ en_ ec_;(first|subst ea_|(injection ea_ with ea_;subst ea_));subst ec_;clear en_))
          have GB12:=Aside0.mk gb12
          have GG12:=Aside0.mk HG12
          clear gb12 gl12 HG12
          obtain ⟨hx12_0,hf12_0⟩:=Kd.R_celln 0 HO_6.out (x8_1:Int) p12 q12
          replace p12:=eq_true p12
          replace q12:=eq_true q12
          have HP13:=Kd.R_putg HO_6.out (x8_1:Int) ((IntKind.u64.wrap (Int.tdiv (Go.bits .or .u64 (IntKind.u64.wrap (x7_1*4294967296)) (IntKind.u64.wrap (rd l0 x8_1))) (IntKind.u64.wrap (a1))))%4294967296)
          go_wp2_with (first|((with_reducible refine gate_store (t:=60) (p:=34) rfl ?_);refine store_event (t:=60) (p:=34) (v:=?vo_w14) (w1:=(wr.setCell ⟨go12,(x8_1:Int).toNat,none⟩ (.int .u32 ((IntKind.u64.wrap (Int.tdiv (Go.bits .or .u64 (IntKind.u64.wrap (x7_1*4294967296)) (IntKind.u64.wrap (rd l0 x8_1))) (IntKind.u64.wrap (a1))))%4294967296)))) ?hg ?ho ?hn ?hr ?_;(case ho=>rfl);(case hg=>rfl);(case hn=>rfl);(case hr=>first|(go_simp;done)|(go_simp;rfl));intro w14 hw;have hg:wr.grownBy w14 (some go12):=(by rw [hw];exact HP13.2);have hp_:Kd.R (Kd.int .u32) 60 w14 w.heap.size (fun _=>True) (.slice (some ⟨go12,0,none⟩) x6_1.length co12) y307:=(by rw [hw,Ny307.out];exact HP13.1);clear HP13;have n0_:=Aside0.mk (hp_);have n1_:=Aside0.mk ((by rw [hw];exact below_set (HB.out) GB12.out:Below w.heap.size w w14));clear HO_6;clear HB;have HO_6:=n0_;have HB:=n1_;clear n0_ n1_;clear hg hw hp_))
          go_roundg k1
          case measure=>have:=HK1.out;omega
          case rel=>exact ⟨(y307),(Int.tmod (Go.bits .or .u64 (IntKind.u64.wrap (x7_1*4294967296)) (IntKind.u64.wrap (rd l0 x8_1))) (IntKind.u64.wrap (a1))),(wrap64 (x8_1-1)),(by first|rfl|(simp;done)|(simp [*];done)),(by first|rfl|(simp;done)|(simp [*];done)),H',⟨by have:=HK1.out;omega⟩,⟨by (with_reducible repeat (first|apply Kd.R_alloc|apply Kd.R_drewN|apply Kd.R_drew));exact HO_6.out⟩,⟨by repeat (first|(with_reducible first|exact HB.out|apply below_alloc|apply pw_below_drewN|apply below_drew1)|exact HB.out)⟩⟩
         ·rw [if_neg c11] at H
          exact absurd H (by simp)
       ·rw [if_neg c9] at H
        exact absurd H (by simp)
      ·rw [if_neg c8] at H
       exact absurd H (by simp)
     ·rw [if_neg c7] at H
      have c7b0:decide (0≤x8_1)=false:=decide_eq_false c7
      clear c7
      replace H:=Option.bind_eq_some_iff.mp H
      obtain ⟨t308,A150,H⟩:=H
      replace H:(some (t308,(x7_1)%4294967296))=some (r1,r2):=H
      have A15:=Aside0.mk A150
      clear A150
      simp only [Option.some.injEq,Prod.mk.injEq] at H
      obtain ⟨rfl,rfl⟩:=H
      obtain ⟨Ao16,co16,eo16⟩:=Kd.R_slice HO_6.out
      subst eo16
      go_wp2_with (first|((with_reducible refine gate_callee (f:=75) rfl ?_);refine goesL_ (some 40) rfl rfl Tryd.func75 (by kernel_rfl) rfl #[.slice Ao16 x6_1.length co16] rfl (by (try simp only [List.map_toArray,List.map_cons,List.map_nil]);first|done|rfl|(simp only [List.length_drop,List.length_take];rfl)) ?_;(with_reducible refine (insolvencyref1_strip.calls k1 (fun k_=>some k_=(.slice Ao16 x6_1.length co16:Value).ownBlock) (.slice Ao16 x6_1.length co16) x6_1 t308 w _ ?side1 ?side2 A15.out).mono ?_);(case side1=>repeat (first|(with_reducible first|exact HB.out|apply below_alloc|apply pw_below_drewN|apply below_drew1)|exact HB.out));(case side2=>exact Kd.R_tight rfl HO_6.out);rintro e w17 ⟨v309,rfl,ho0,hb,hkp⟩;refine ⟨_,rfl,?_⟩;have n0_:=Aside0.mk (Kd.R_mono (ok':=fun k_=>True) ho0 (fun k_ hk_=>trivial));have n1_:=Aside0.mk (hb);clear HB;clear HO_6;have HO310:=n0_;have HB:=n1_;clear n0_ n1_;(try clear hb);(try clear hkp);(try clear ho0)))
      go_ret2
      exact ⟨_,by first|rfl|(simp [errW_none,errW_some] <;> rfl)|(simp [*,errW_none,errW_some] <;> rfl),by (with_reducible repeat (first|apply Kd.R_alloc|apply Kd.R_drewN|apply Kd.R_drew));exact HO310.out,by repeat (first|(with_reducible first|exact HB.out|apply below_alloc|apply pw_below_drewN|apply below_drew1)|exact HB.out)⟩
  ·rw [if_neg c4] at H
   exact absurd H (by simp)
 ·rw [if_neg c3] at H
  exact absurd H (by simp)
end Go.Proofs.YtjaflmhdclmolaaDoor.F
end
section
namespace Go.Proofs.YtjaflmhdclmolaaDoor.F
open Go.RowKit Go.Proofs.YtjaflmhdclmolaaDoorW.PrintWords Go.Proofs.YtjaflmhdclmolaaDoorW.PrintLast Go.Proofs.YtjaflmhdclmolaaDoorW.PrintMore
attribute [local go_sem] max2_int min2_int max_two min_two max_three min_three max_four min_four   
set_option linter.unusedVariables false
set_option linter.unusedSimpArgs false
def insolvencyref1_shifted.l0:Nat→List Int→Int→List Int→Int→Option (List Int)
 | 0,_,_,_,_=>none
 | k+1,x0,x1,x5,x6=>if x6<(x0.length:Int) then (if 0≤x6 then (if 0≤x1 then (if x6<(x5.length:Int) then (if 0≤(wrap64 (x6+1)) then (if (wrap64 (x6+1))<(x5.length:Int) then (insolvencyref1_shifted.l0 k x0 x1 ((x5.set (x6:Int).toNat (Go.bits .or .u32 (rd x5 x6) ((shl .u64 (IntKind.u64.wrap (rd x0 x6)) x1)%4294967296))).set ((wrap64 (x6+1)):Int).toNat (((shl .u64 (IntKind.u64.wrap (rd x0 x6)) x1)/4294967296)%4294967296)) (wrap64 (x6+1))) else (none)) else (none)) else (none)) else (none)) else (none)) else (some x5)
def insolvencyref1_shifted.f (k:Nat) (l0:List Int) (a1:Int):Option (List Int):=if 0≤(wrap64 ((l0.length:Int)+1)) then (if (wrap64 ((l0.length:Int)+1):Int).toNat≤70368744177664 then (insolvencyref1_shifted.l0 k l0 a1 (List.replicate (wrap64 ((l0.length:Int)+1):Int).toNat 0) 0) else (none)) else (none)
theorem insolvencyref1_shifted.mono_l:∀ k,(∀ y0 y1 y2 y3,LeO (insolvencyref1_shifted.l0 k y0 y1 y2 y3) (insolvencyref1_shifted.l0 (k+1) y0 y1 y2 y3))
 | 0=>fun _ _ _ _ r h=>by simp [insolvencyref1_shifted.l0] at h
 | k+1=>by
  have ih0:=insolvencyref1_shifted.mono_l k
  ·intro y0 y1 y2 y3
   unfold insolvencyref1_shifted.l0
   repeat' first
   | (with_reducible exact ih0 _ _ _ _)
   | (with_reducible exact LeO.refl _)
   | (with_reducible exact LeO.none _)
   | (with_reducible refine LeO.ite ?_ ?_)
   | (with_reducible refine LeO.bind ?_ (fun _=>?_))
   | exact ih0 _ _ _ _
   | exact LeO.none _
   | refine LeO.ite ?_ ?_
   | refine LeO.bind ?_ (fun _=>?_)
theorem insolvencyref1_shifted.mono:∀ a0 a1 k,LeO (insolvencyref1_shifted.f k a0 a1) (insolvencyref1_shifted.f (k+1) a0 a1):=by
 intro a0 a1 k
 have ih0:=insolvencyref1_shifted.mono_l k
 unfold insolvencyref1_shifted.f
 repeat' first
  | (with_reducible exact ih0 _ _ _ _)
  | (with_reducible exact LeO.refl _)
  | (with_reducible exact LeO.none _)
  | (with_reducible refine LeO.ite ?_ ?_)
  | (with_reducible refine LeO.bind ?_ (fun _=>?_))
  | exact ih0 _ _ _ _
  | exact LeO.none _
  | refine LeO.ite ?_ ?_
  | refine LeO.bind ?_ (fun _=>?_)
set_option maxHeartbeats 8000000 in
set_option maxRecDepth 100000 in
theorem insolvencyref1_shifted.calls (k:Nat) (A0:Option Addr) (c0:Nat) (l0:List Int) (a1:Int) (r:List Int) (w:World) (hr0:Kd.C (Kd.int .u32) w A0 l0.length l0) (hc0:l0.length≤c0) (h:insolvencyref1_shifted.f k l0 a1=some r) :
 Calls Tryd.prog 86 #[.slice A0 l0.length c0,.int .u64 a1] w fun e w'=>∃ v0_:Value,e = .returned (v0_)∧Kd.R (Kd.int .u32) 60 w' w.heap.size (fun _=>True) v0_ r∧Below w.heap.size w w':=by
 have HR0:=Aside0.mk hr0
 have HC0:=Aside0.mk hc0
 clear hr0 hc0
 have HB:=Aside0.mk (Below.refl w.heap.size w)
 have H:(if 0≤(wrap64 ((l0.length:Int)+1)) then (if (wrap64 ((l0.length:Int)+1):Int).toNat≤70368744177664 then (insolvencyref1_shifted.l0 k l0 a1 (List.replicate (wrap64 ((l0.length:Int)+1):Int).toNat 0) 0) else (none)) else (none))=some r:=h
 clear h
 obtain ⟨ji3,hji3⟩:∃ j_:Int,(wrap64 ((l0.length:Int)+1))=j_:=⟨_,rfl⟩
 replace H:(if 0≤(ji3) then (if (ji3:Int).toNat≤70368744177664 then (insolvencyref1_shifted.l0 k l0 a1 (List.replicate (ji3:Int).toNat 0) 0) else (none)) else (none))=some r:=by first|(rw [hji3] at H;exact H)|(simp only [hji3] at H ⊢;exact H)
 have hji3w:(IntKind.i64.wrap ((l0.length:Int)+1))=ji3:=(i64_w _).trans hji3
 by_cases c4:0≤(ji3)
 ·rw [if_pos c4] at H
  have c4b0:=eq_true c4
  have c4b1:decide (0≤(ji3))=true:=decide_eq_true c4
  clear c4
  by_cases c5:(ji3:Int).toNat≤70368744177664
  ·rw [if_pos c5] at H
   have c5b0:=eq_true c5
   have c5b1:decide ((ji3:Int).toNat≤70368744177664)=true:=decide_eq_true c5
   clear c5
   obtain ⟨y311,hy311⟩:∃ y_:List Int,y_=(List.replicate (ji3:Int).toNat 0):=⟨_,rfl⟩
   replace H:(insolvencyref1_shifted.l0 k l0 a1 y311 0)=some r:=by first|(rw [hy311];with_reducible exact H)|(have H2_:=(Option.bind_some _ _).symm.trans H;rw [hy311];with_reducible exact H2_)|(have H2_:=(Option.bind_some _ _).symm.trans H;with_reducible exact H2_)|with_reducible exact H|(rw [hy311];exact H)|exact H
   have Ny311:=Aside0.mk hy311
   clear hy311
   have H':=Aside0.mk H
   clear H
   go_enter Tryd.func86,Tryd.ntmps86
   go_wp2_with (first|((with_reducible refine gate_dst (N:=11) rfl ?_);refine Kd.R_make (Kd.int .u32) _ 60 rfl (N:=11) rfl 49 _ _ rfl ji3 rfl rfl Tryd.underlying49 (.int .u32 0) 4 info60 rfl (by decide) (by omega) 0 (ok:=fun _=>True) (okp:=fun _=>True) rfl (fun _ hk=>hk) trivial (of_decide_eq_true (by first|(with_reducible assumption)|assumption)) (Nat.le_trans (Nat.mul_le_mul_right _ (of_decide_eq_true (by first|(with_reducible assumption)|assumption):ji3.toNat≤70368744177664)) (by omega)) (Below.refl _ _) (Nat.le_refl _) ?_;intro v312 w6 ho7 hb hg_ hnew_;clear hg_ hnew_;(first|rw [← Ny311.out] at ho7|(simp only [Int.reduceToNat] at ho7;rw [← Ny311.out] at ho7));have n0_:=Aside0.mk (Kd.R_lower ho7 (below_size (by repeat (first|(with_reducible first|exact HB.out|apply below_alloc|apply pw_below_drewN|apply below_drew1)|exact HB.out))));have n1_:=Aside0.mk (below_step (by repeat (first|(with_reducible first|exact HB.out|apply below_alloc|apply pw_below_drewN|apply below_drew1)|exact HB.out)) hb);clear HB;have HO313:=n0_;have HB:=n1_;clear n0_ n1_;clear hb ho7))
   go_loopg [6] k (fun kq v6 w'=>∃ (x5_1:List Int) (x6_1:Int),v6 = .int .i64 x6_1∧Aside0 (insolvencyref1_shifted.l0 kq l0 a1 x5_1 x6_1=some r)∧Aside0 (kq≤k)∧Aside0 (Kd.R (Kd.int .u32) 60 w' w.heap.size (fun _=>True) v312 x5_1)∧Aside0 (Below w.heap.size w w'))
   case atStart=>exact ⟨(y311),(0),(by first|rfl|(simp;done)|(simp [*];done)),H',⟨Nat.le_refl _⟩,⟨by (with_reducible repeat (first|apply Kd.R_alloc|apply Kd.R_drewN|apply Kd.R_drew));exact HO313.out⟩,⟨by repeat (first|(with_reducible first|exact HB.out|apply below_alloc|apply pw_below_drewN|apply below_drew1)|exact HB.out)⟩⟩
   case round=>
    clear H'
    try clear p2
    try clear c4
    try clear c4b0
    try clear c4b1
    try clear c5
    try clear c5b0
    try clear c5b1
    try clear p6
    obtain ⟨x5_1,x6_1,rfl,HA,HK1,HO_5,HB⟩:=hrel
    cases gk with
    | zero=>exact absurd HA.out (by simp [insolvencyref1_shifted.l0])
    | succ k1=>
     have H:=HA.out
     clear HA
     simp only [insolvencyref1_shifted.l0] at H
     by_cases c8:x6_1<(l0.length:Int)
     ·rw [if_pos c8] at H
      have c8b0:decide (x6_1<(l0.length:Int))=true:=decide_eq_true c8
      clear c8
      by_cases c9:0≤x6_1
      ·rw [if_pos c9] at H
       have c9b0:decide (0≤x6_1)=true:=decide_eq_true c9
       clear c9
       by_cases c10:0≤a1
       ·rw [if_pos c10] at H
        have c10b0:=eq_true c10
        have c10b1:decide (0≤a1)=true:=decide_eq_true c10
        clear c10
        obtain ⟨ji11,hji11⟩:∃ j_:Int,(shl .u64 (IntKind.u64.wrap (rd l0 x6_1)) a1)=j_:=⟨_,rfl⟩
        replace H:(if x6_1<(x5_1.length:Int) then (if 0≤(wrap64 (x6_1+1)) then (if (wrap64 (x6_1+1))<(x5_1.length:Int) then (insolvencyref1_shifted.l0 k1 l0 a1 ((x5_1.set (x6_1:Int).toNat (Go.bits .or .u32 (rd x5_1 x6_1) ((ji11)%4294967296))).set ((wrap64 (x6_1+1)):Int).toNat (((ji11)/4294967296)%4294967296)) (wrap64 (x6_1+1))) else (none)) else (none)) else (none))=some r:=by first|(rw [hji11] at H;exact H)|(simp only [hji11] at H ⊢;exact H)
        have hji11_:(IntKind.u64.wrap ((IntKind.u64.wrap (rd l0 x6_1))*2 ^ min a1.toNat 64))=ji11:=hji11
        have hji11z:a1≤64→(IntKind.u64.wrap ((IntKind.u64.wrap (rd l0 x6_1))*2 ^ a1.toNat))=ji11:=shl_small hji11
        by_cases c12:x6_1<(x5_1.length:Int)
        ·rw [if_pos c12] at H
         have c12b0:decide (x6_1<(x5_1.length:Int))=true:=decide_eq_true c12
         clear c12
         obtain ⟨y316,hy316⟩:∃ y_:List Int,y_=(x5_1.set (x6_1:Int).toNat (Go.bits .or .u32 (rd x5_1 x6_1) ((ji11)%4294967296))):=⟨_,rfl⟩
         replace H:(if 0≤(wrap64 (x6_1+1)) then (if (wrap64 (x6_1+1))<(x5_1.length:Int) then (insolvencyref1_shifted.l0 k1 l0 a1 (y316.set ((wrap64 (x6_1+1)):Int).toNat (((ji11)/4294967296)%4294967296)) (wrap64 (x6_1+1))) else (none)) else (none))=some r:=by first|(rw [hy316];with_reducible exact H)|(have H2_:=(Option.bind_some _ _).symm.trans H;rw [hy316];with_reducible exact H2_)|(have H2_:=(Option.bind_some _ _).symm.trans H;with_reducible exact H2_)|with_reducible exact H|(rw [hy316];exact H)|exact H
         have Ny316:=Aside0.mk hy316
         clear hy316
         obtain ⟨ji14,hji14⟩:∃ j_:Int,(wrap64 (x6_1+1))=j_:=⟨_,rfl⟩
         replace H:(if 0≤(ji14) then (if (ji14)<(x5_1.length:Int) then (insolvencyref1_shifted.l0 k1 l0 a1 (y316.set ((ji14):Int).toNat (((ji11)/4294967296)%4294967296)) ji14) else (none)) else (none))=some r:=by first|(rw [hji14] at H;exact H)|(simp only [hji14] at H ⊢;exact H)
         have hji14w:(IntKind.i64.wrap (x6_1+1))=ji14:=(i64_w _).trans hji14
         by_cases c15:0≤(ji14)
         ·rw [if_pos c15] at H
          have c15b0:decide (0≤(ji14))=true:=decide_eq_true c15
          clear c15
          by_cases c16:(ji14)<(x5_1.length:Int)
          ·rw [if_pos c16] at H
           have c16b0:decide ((ji14)<(x5_1.length:Int))=true:=decide_eq_true c16
           clear c16
           obtain ⟨y317,hy317⟩:∃ y_:List Int,y_=(y316.set ((ji14):Int).toNat (((ji11)/4294967296)%4294967296)):=⟨_,rfl⟩
           replace H:(insolvencyref1_shifted.l0 k1 l0 a1 y317 ji14)=some r:=by first|(rw [hy317];with_reducible exact H)|(have H2_:=(Option.bind_some _ _).symm.trans H;rw [hy317];with_reducible exact H2_)|(have H2_:=(Option.bind_some _ _).symm.trans H;with_reducible exact H2_)|with_reducible exact H|(rw [hy317];exact H)|exact H
           have Ny317:=Aside0.mk hy317
           clear hy317
           have H':=Aside0.mk H
           clear H
           have p314:0≤(x6_1:Int):=of_decide_eq_true (by first|(with_reducible assumption)|assumption)
           have q314:x6_1<(l0.length:Int):=of_decide_eq_true (by first|(with_reducible assumption)|assumption)
           obtain ⟨ad314,e314,hx314_0⟩:=Kd.at_int HR0.out x6_1 p314 q314
           cases e314
           replace hx314_0:=(HB.out.cell (World.block_lt_of_cell? w _ hx314_0)).trans hx314_0
           replace p314:=eq_true p314
           replace q314:=eq_true q314
           obtain ⟨Ao18,co18,eo18⟩:=Kd.R_slice HO_5.out
           subst eo18
           have p315:0≤(x6_1:Int):=of_decide_eq_true (by first|(with_reducible assumption)|assumption)
           have q315:x6_1<(x5_1.length:Int):=of_decide_eq_true (by first|(with_reducible assumption)|assumption)
           obtain ⟨ad315,e315,hx315_0⟩:=Kd.at_int (Kd.R_reads' HO_5.out).2.2 x6_1 p315 q315
           cases e315
           replace p315:=eq_true p315
           replace q315:=eq_true q315
           have p13:0≤(x6_1:Int):=of_decide_eq_true (by first|(with_reducible assumption)|assumption)
           have q13:(x6_1:Int)<((x5_1.length:Int):Int):=of_decide_eq_true (by first|(with_reducible assumption)|assumption)
           obtain ⟨go13,co13,eo13,gb13,gl13,cl13,HG13⟩:=Kd.R_form HO_5.out (by omega)
           (first|cases eo13|(injection eo13 with ea_ en_ ec_;(first|subst ea_|(injection ea_ with ea_;subst ea_));subst ec_;clear en_))
           have GB13:=Aside0.mk gb13
           have GG13:=Aside0.mk HG13
           clear gb13 gl13 HG13
           (first|simp only [add_plain] at hx315_0|skip)
           obtain ⟨hx13_0,hf13_0⟩:=Kd.R_celln 0 HO_5.out (x6_1:Int) p13 q13
           replace p13:=eq_true p13
           replace q13:=eq_true q13
           have HP19:=Kd.R_putg HO_5.out (x6_1:Int) (Go.bits .or .u32 (rd x5_1 x6_1) ((ji11)%4294967296))
           go_wp2_with (first|((with_reducible refine gate_store (t:=60) (p:=34) rfl ?_);refine store_event (t:=60) (p:=34) (v:=?vo_w20) (w1:=(wr.setCell ⟨go13,(x6_1:Int).toNat,none⟩ (.int .u32 (Go.bits .or .u32 (rd x5_1 x6_1) ((ji11)%4294967296))))) ?hg ?ho ?hn ?hr ?_;(case ho=>rfl);(case hg=>rfl);(case hn=>rfl);(case hr=>first|(go_simp;done)|(go_simp;rfl));intro w20 hw;have hg:wr.grownBy w20 (some go13):=(by rw [hw];exact HP19.2);have hp_:Kd.R (Kd.int .u32) 60 w20 w.heap.size (fun _=>True) (.slice (some ⟨go13,0,none⟩) x5_1.length co18) y316:=(by rw [hw,Ny316.out];exact HP19.1);clear HP19;have n0_:=Aside0.mk (hp_);have n1_:=Aside0.mk ((by rw [hw];exact below_set (HB.out) GB13.out:Below w.heap.size w w20));clear HO_5;clear HB;have HO_5:=n0_;have HB:=n1_;clear n0_ n1_;clear hg hw hp_;have p17:0≤((ji14):Int):=of_decide_eq_true (by first|(with_reducible assumption)|assumption);have q17:((ji14):Int)<((x5_1.length:Int):Int):=of_decide_eq_true (by first|(with_reducible assumption)|assumption);obtain ⟨hx17_0,hf17_0⟩:=Kd.R_celln 0 HO_5.out ((ji14):Int) p17 q17;replace p17:=eq_true p17;replace q17:=eq_true q17;obtain ⟨hy21_,hz21_⟩:=Kd.R_celln 0 HO_5.out ((ji14):Int) (of_decide_eq_true (by first|(with_reducible assumption)|assumption)) (of_decide_eq_true (by first|(with_reducible assumption)|assumption));have HP21:=Kd.R_putg HO_5.out ((ji14):Int) (((ji11)/4294967296)%4294967296))|((with_reducible refine gate_store (t:=60) (p:=41) rfl ?_);refine store_event (t:=60) (p:=41) (v:=?vo_w22) (w1:=(w20.setCell ⟨go13,((ji14):Int).toNat,none⟩ (.int .u32 (((ji11)/4294967296)%4294967296)))) ?hg ?ho ?hn ?hr ?_;(case ho=>rfl);(case hg=>rfl);(case hn=>rfl);(case hr=>first|(go_simp;done)|(go_simp;rfl));intro w22 hw;have hg:w20.grownBy w22 (some go13):=(by rw [hw];exact HP21.2);have hp_:Kd.R (Kd.int .u32) 60 w22 w.heap.size (fun _=>True) (.slice (some ⟨go13,0,none⟩) x5_1.length co18) y317:=(by rw [hw,Ny317.out];exact HP21.1);clear HP21;have n0_:=Aside0.mk (hp_);have n1_:=Aside0.mk ((by rw [hw];exact below_set (HB.out) GB13.out:Below w.heap.size w w22));clear HO_5;clear HB;have HO_5:=n0_;have HB:=n1_;clear n0_ n1_;clear hg hw hp_))
           go_roundg k1
           case measure=>have:=HK1.out;omega
           case rel=>exact ⟨(y317),(ji14),(by first|rfl|(simp;done)|(simp only [← hji14] <;> (first|rfl|simp))|(simp [*];done)),H',⟨by have:=HK1.out;omega⟩,⟨by (with_reducible repeat (first|apply Kd.R_alloc|apply Kd.R_drewN|apply Kd.R_drew));exact HO_5.out⟩,⟨by repeat (first|(with_reducible first|exact HB.out|apply below_alloc|apply pw_below_drewN|apply below_drew1)|exact HB.out)⟩⟩
          ·rw [if_neg c16] at H
           exact absurd H (by simp)
         ·rw [if_neg c15] at H
          exact absurd H (by simp)
        ·rw [if_neg c12] at H
         exact absurd H (by simp)
       ·rw [if_neg c10] at H
        exact absurd H (by simp)
      ·rw [if_neg c9] at H
       exact absurd H (by simp)
     ·rw [if_neg c8] at H
      have c8b0:decide (x6_1<(l0.length:Int))=false:=decide_eq_false c8
      clear c8
      obtain rfl:=Option.some.inj H
      go_wp2
      go_ret
      exact ⟨_,by first|rfl|(simp [errW_none,errW_some] <;> rfl)|(simp only [← hji3];first|rfl|(simp [errW_none,errW_some] <;> rfl))|(simp [*,errW_none,errW_some] <;> rfl),by (with_reducible repeat (first|apply Kd.R_alloc|apply Kd.R_drewN|apply Kd.R_drew));exact HO_5.out,by repeat (first|(with_reducible first|exact HB.out|apply below_alloc|apply pw_below_drewN|apply below_drew1)|exact HB.out)⟩
  ·rw [if_neg c5] at H
   exact absurd H (by simp)
 ·rw [if_neg c4] at H
  exact absurd H (by simp)
end Go.Proofs.YtjaflmhdclmolaaDoor.F
end
section
namespace Go.Proofs.YtjaflmhdclmolaaDoor.Num
open Go.RowKit Go.Proofs.YtjaflmhdclmolaaDoorW.PrintWords Go.Proofs.YtjaflmhdclmolaaDoorW.PrintLast Go.Proofs.YtjaflmhdclmolaaDoorW.PrintMore Go.Proofs.YtjaflmhdclmolaaDoor.F
set_option linter.unusedVariables false
theorem small_round {r a d:Int} (h0:0<d) (h1:d<4294967296) (r0:0≤r) (r1:r<d) (a0:0≤a) (a1:a<4294967296) :
 0≤(r*4294967296+a)/d∧(r*4294967296+a)/d<4294967296∧0≤(r*4294967296+a)%d∧(r*4294967296+a)%d<d:=by
 refine ⟨Int.ediv_nonneg (by omega) (by omega),?_,Int.emod_nonneg _ (by omega),Int.emod_lt_of_pos _ h0⟩
 exact Int.ediv_lt_of_lt_mul h0 (by omega)
theorem small_bits {r a:Int} (r0:0≤r) (r1:r<4294967296) (a0:0≤a) (a1:a<4294967296):Go.bits .or .u64 (IntKind.u64.wrap (r*4294967296)) (IntKind.u64.wrap a)=r*4294967296+a:=by
 rw [wu (by omega) (by omega),wu (by omega) (by omega),orHi r0 r1 a0 a1]
theorem small_val {t a d r q v:Int} (e1:t=r*4294967296+a) (e2:v=q*d+r):a+4294967296*v=(t/d+4294967296*q)*d+t%d:=by
 have h:=divmod_eq t d
 rw [e2,Int.add_mul,Int.mul_assoc,Int.mul_add]
 omega
theorem set_rep (i:Nat) (d:Int) (q:List Int):(List.replicate (i+1) 0 ++ q).set i d=List.replicate i 0 ++ d :: q:=by
 rw [List.replicate_succ',List.append_assoc,List.singleton_append]
 have:=set_at (List.replicate i 0) 0 d q (i:Int) (by rw [List.length_replicate])
 rwa [Int.toNat_natCast] at this
theorem divideSmall_loop (x:List Int) (hx:Dig x) (hl:x.length≤400000) (d:Int) (h0:0<d) (h1:d<4294967296) (i:Nat):∀ (q:List Int) (r:Int),i≤x.length→Dig q→i+q.length=x.length→0≤r→r<d→val (x.drop i)=val q*d+r →
 Ev (fun k=>natural_divideSmall.l0 k x d (List.replicate i 0 ++ q) r ((i:Int)-1)) (L (val x/d),val x%d):=by
 induction i with
 | zero=>
  intro q r hi hq hql r0 r1 hv
  obtain ⟨e1,e2⟩:=divmod hv r0 r1
  rw [List.drop_zero] at e1 e2
  refine Ev.step (f:=fun k=>(natural_limbs_trim.f k q).bind fun t=>some (t,r%4294967296)) (fun k=>?_) ?_
  ·simp only [natural_divideSmall.l0]
   rw [if_neg (by omega),List.replicate_zero,List.nil_append]
  ·refine Ev.bind (trim_ev q (by omega)) ?_
   rw [tr_L hq,e1,e2,Int.emod_eq_of_lt r0 (by omega)]
   exact Ev.now _
 | succ i ih=>
  intro q r hi hq hql r0 r1 hv
  obtain ⟨a,ea,ra,la,da⟩:=drop_split (l:=x) (i:=i) (by omega)
  have ba:0≤a∧a<4294967296:=by rw [← ra];exact hx.at _
  obtain ⟨t0,t1,t2,t3⟩:=small_round h0 h1 r0 r1 ba.1 ba.2
  have hb:=small_bits r0 (by omega) ba.1 ba.2
  have ht0:0≤r*4294967296+a:=by omega
  have ih:=ih ((r*4294967296+a)/d :: q) ((r*4294967296+a)%d) (by omega) (Dig.cons t0 t1 hq) (by rw [List.length_cons];omega) t2 t3 (by
   rw [da,val,val]
   exact small_val rfl hv)
  refine Ev.step (fun k=>?_) ih
  simp only [natural_divideSmall.l0]
  have hlen:(List.replicate (i+1) (0:Int) ++ q).length=x.length:=by rw [List.length_append,List.length_replicate];omega
  rw [show ((i+1:Nat):Int)-1=(i:Int) by omega,ra,hb,wu (n:=d) (by omega) (by omega),hlen,Int.tdiv_eq_ediv_of_nonneg ht0,Int.tmod_eq_emod_of_nonneg ht0,if_pos (by omega),if_pos (by omega),if_pos (by omega),if_neg (by omega),if_pos (by omega),Int.toNat_natCast,set_rep,w64 (by omega) (by omega),wu t0 (by omega),Int.emod_eq_of_lt t0 t1]
theorem divideSmall_ev (x:List Int) (hx:Dig x) (hl:x.length≤400000) (d:Int) (h0:0<d) (h1:d<4294967296):Ev (fun k=>natural_divideSmall.f k x d) (L (val x/d),val x%d):=by
 have g:=divideSmall_loop x hx hl d h0 h1 x.length [] 0 (Nat.le_refl _) Dig.nil rfl (Int.le_refl _) h0 (by rw [List.drop_length];simp [val])
 rw [List.append_nil] at g
 refine Ev.congr (fun k=>?_) g
 simp only [natural_divideSmall.f]
 rw [Int.toNat_natCast,if_pos (by omega),if_pos (by omega),w64 (by omega) (by omega)]
theorem shl64 {a:Int} {s:Nat} (a0:0≤a) (a1:a<4294967296) (hs:s<32):shl .u64 (IntKind.u64.wrap a) (s:Int)=a*2 ^ s∧0≤a*2 ^ s∧a*2 ^ s<4294967296*2 ^ s:=by
 have h1:(0:Int)<2 ^ s:=Int.pow_pos (by decide)
 have h2:(2:Int) ^ s≤2147483648:=by
  have e:((2 ^ s:Nat):Int)=(2:Int) ^ s:=Int.natCast_pow 2 s
  rw [← e]
  have:=Nat.pow_le_pow_right (show 0<2 by decide) (show s≤31 by omega)
  omega
 have h3:=Int.mul_nonneg a0 (Int.le_of_lt h1)
 have h4:=Int.mul_le_mul_of_nonneg_right (show a≤4294967295 by omega) (Int.le_of_lt h1)
 refine ⟨?_,h3,by omega⟩
 unfold shl
 rw [Int.toNat_natCast,show min s IntKind.u64.bits=s from Nat.min_eq_left (by show s≤64;omega),wu (n:=a) (by omega) (by omega),wu h3 (by omega)]
theorem pow32 {s:Nat} (hs:s<32):(0:Int)<2 ^ s∧(2:Int) ^ s≤2147483648∧(2:Int) ^ s*2 ^ (32-s)=4294967296∧(0:Int)<2 ^ (32-s):=by
 refine ⟨Int.pow_pos (by decide),?_,?_,Int.pow_pos (by decide)⟩
 ·have e:((2 ^ s:Nat):Int)=(2:Int) ^ s:=Int.natCast_pow 2 s
  rw [← e]
  have:=Nat.pow_le_pow_right (show 0<2 by decide) (show s≤31 by omega)
  omega
 ·rw [← Int.pow_add,show s+(32-s)=32 by omega];rfl
theorem shlow {a:Int} {s:Nat} (hs:s<32):a*2 ^ s%4294967296%2 ^ s=0∧a*2 ^ s%4294967296+(2:Int) ^ s≤4294967296:=by
 obtain ⟨p0,p1,p2,p3⟩:=pow32 hs
 have h1:a*2 ^ s%4294967296%2 ^ s=0:=by
  rw [Int.emod_emod_of_dvd _ ⟨2 ^ (32-s),p2.symm⟩,Int.mul_emod_left]
 refine ⟨h1,?_⟩
 have h2:=Int.emod_lt_of_pos (a*2 ^ s) (show (0:Int)<4294967296 by decide)
 have h3:=divmod_eq (a*2 ^ s%4294967296) (2 ^ s)
 rw [h1,Int.add_zero] at h3
 generalize a*2 ^ s%4294967296=y at *
 have h4:y/2 ^ s<2 ^ (32-s):=Int.ediv_lt_of_lt_mul p0 (by rw [Int.mul_comm,p2];exact h2)
 have h5:=Int.mul_le_mul_of_nonneg_right (show y/2 ^ s+1≤2 ^ (32-s) by omega) (Int.le_of_lt p0)
 rw [Int.mul_comm (2 ^ (32-s)),p2,Int.add_mul,← h3] at h5
 omega
theorem or_low {c y:Int} {s:Nat} (hs:s<32) (c0:0≤c) (c1:c<2 ^ s) (y0:0≤y) (y1:y<4294967296) (hy:y%2 ^ s=0):Go.bits .or .u32 c y=c+y:=by
 obtain ⟨p0,p1,p2,p3⟩:=pow32 hs
 rw [bitor_comm,bits_join .u32 32 (by decide) u32_in s y c y0 hy (by omega) c0 c1 (by omega)]
 omega
theorem or_zero {y:Int} (y0:0≤y) (y1:y<4294967296):Go.bits .or .u32 0 y=y:=by
 rw [bits_join .u32 32 (by decide) u32_in 32 0 y (by omega) (by omega) (by omega) y0 (by omega) (by omega)]
 omega
theorem shhigh {a:Int} {s:Nat} (a0:0≤a) (a1:a<4294967296) (hs:s<32):0≤a*2 ^ s/4294967296∧a*2 ^ s/4294967296<2 ^ s:=by
 obtain ⟨h1,h2,h3⟩:=shl64 a0 a1 hs
 exact ⟨Int.ediv_nonneg h2 (by decide),Int.ediv_lt_of_lt_mul (by decide) (by rw [Int.mul_comm (2 ^ s)];exact h3)⟩
theorem shift_loop (x:List Int) (hx:Dig x) (hl:x.length≤400000) (s:Nat) (hs:s<32) (n:Nat) (hn:n=x.length∨n=x.length+1) (xs:List Int):∀ (o:List Int) (c:Int),x.drop o.length=xs→o.length≤x.length→Dig o→0≤c→c<2 ^ s→(n=x.length→val xs*2 ^ s+c<4294967296 ^ xs.length) →
 ∃ l,Dig l∧l.length=n∧val l=val o+4294967296 ^ o.length*(c+val xs*2 ^ s)∧Ev (fun k=>natural_shift.l0 k (s:Int) (n:Int) (o ++ (if o.length<n then [c] else []) ++ List.replicate (n-o.length-1) 0) x (x.length:Int) (o.length:Int)) l:=by
 obtain ⟨p0,p1,p2,p3⟩:=pow32 hs
 induction xs with
 | nil=>
  intro o c h1 h2 ho c0 c1 hfit
  have e1:=drop_nil h1
  rcases hn with hn|hn
  ·have hc:=hfit hn
   simp only [val,List.length_nil,Int.zero_mul,Int.zero_add,Int.pow_zero] at hc
   refine ⟨o,ho,by omega,by simp only [val];rw [show c=0 by omega];simp,?_⟩
   refine Ev.step (f:=fun _=>some o) (fun k=>?_) (Ev.now _)
   simp only [natural_shift.l0]
   rw [if_neg (by omega),if_neg (by omega),show n-o.length-1=0 by omega]
   simp
  ·refine ⟨o ++ [c],snoc_dig ho c0 (by omega),by rw [snoc_len];omega,by rw [val_app];simp [val],?_⟩
   refine Ev.step (f:=fun _=>some (o ++ [c])) (fun k=>?_) (Ev.now _)
   simp only [natural_shift.l0]
   rw [if_neg (by omega),if_pos (by omega),show n-o.length-1=0 by omega]
   simp
 | cons a xs ih=>
  intro o c h1 h2 ho c0 c1 hfit
  obtain ⟨i1,r1,d1,m1⟩:=drop_cons h1
  have ba:=hx a m1
  obtain ⟨s1,s2,s3⟩:=shl64 ba.1 ba.2 hs
  obtain ⟨l1,l2⟩:=shlow (a:=a) hs
  obtain ⟨g1,g2⟩:=shhigh ba.1 ba.2 hs
  have y0:=Int.emod_nonneg (a*2 ^ s) (show (4294967296:Int)≠0 by decide)
  have y1:=Int.emod_lt_of_pos (a*2 ^ s) (show (0:Int)<4294967296 by decide)
  have hor:=or_low hs c0 c1 y0 y1 l1
  have hz:a*2 ^ s=4294967296*(a*2 ^ s/4294967296)+a*2 ^ s%4294967296:=by omega
  have hxl:=drop_len d1
  have hval:(c+a*2 ^ s%4294967296)+4294967296*(a*2 ^ s/4294967296+val xs*2 ^ s)=c+val (a :: xs)*2 ^ s:=by
   rw [val,Int.add_mul,Int.mul_assoc]
   omega
  have hsplit:o ++ (if o.length<n then [c] else []) ++ List.replicate (n-o.length-1) 0=o ++ c :: List.replicate (n-o.length-1) 0:=by
   rw [if_pos (by omega),List.append_assoc,List.singleton_append]
  have hrd:rd (o ++ c :: List.replicate (n-o.length-1) 0) (o.length:Int)=c:=rd_at _ _ _ _ rfl
  have hd1:=snoc_dig (d:=c+a*2 ^ s%4294967296) ho (by omega) (by omega)
  have hlen1:(o ++ c :: List.replicate (n-o.length-1) 0).length=n:=by
   rw [List.length_append,List.length_cons,List.length_replicate];omega
  obtain ⟨l,q1,q2,q3,q4⟩:=ih (o ++ [c+a*2 ^ s%4294967296]) (a*2 ^ s/4294967296) (by rw [snoc_len];exact d1) (by rw [snoc_len];omega) hd1 g1 g2 (by
   intro e
   have h5:=hfit e
   rw [← Int.add_comm c,← hval,List.length_cons,Int.pow_succ] at h5
   generalize (4294967296:Int) ^ xs.length=P at *
   omega)
  rw [vsnoc,hval] at q3
  refine ⟨l,q1,q2,q3,?_⟩
  rw [hsplit]
  refine Ev.step (fun k=>?_) q4
  simp only [natural_shift.l0]
  by_cases hlast:o.length+1<n
  ·obtain ⟨w,hw⟩:∃ w,n-o.length-1=w+1:=⟨n-o.length-2,by omega⟩
   have e2:o ++ [c+a*2 ^ s%4294967296] ++ List.replicate (n-o.length-1) 0=(o ++ [c+a*2 ^ s%4294967296]) ++ 0 :: List.replicate w 0:=by rw [hw,List.replicate_succ]
   have e3:rd ((o ++ [c+a*2 ^ s%4294967296]) ++ 0 :: List.replicate w 0) ((o.length+1:Nat):Int)=0:=rd_at _ _ _ _ (by rw [snoc_len])
   have e4:∀ d,((o ++ [c+a*2 ^ s%4294967296]) ++ 0 :: List.replicate w 0).set (o.length+1) d=o ++ [c+a*2 ^ s%4294967296] ++ [d] ++ List.replicate w 0:=fun d=>by
    have:=set_snoc (o ++ [c+a*2 ^ s%4294967296]) d 0 (List.replicate w 0)
    rwa [snoc_len] at this
   rw [hlen1,r1,s1,hrd,hor,if_pos (by omega),if_pos (by omega),if_pos (by omega),if_pos (by omega),if_pos (by omega),Option.bind_some,winc (by omega),if_pos (by omega),if_pos (by omega),Int.toNat_natCast,Int.toNat_natCast,set_snoc,e2,if_pos (by omega),e3,Int.emod_eq_of_lt g1 (by omega),or_zero g1 (by omega),e4,snoc_len,if_pos (by omega),show n-(o.length+1)-1=w by omega]
  ·rw [hlen1,r1,s1,hrd,hor,if_pos (by omega),if_pos (by omega),if_pos (by omega),if_pos (by omega),if_pos (by omega),Option.bind_some,winc (by omega),if_neg (by omega),Int.toNat_natCast,set_snoc,snoc_len,if_neg (by omega),show n-o.length-1=0 by omega,show n-(o.length+1)-1=0 by omega]
   simp only [List.replicate_zero,List.append_nil]
theorem shift_ev (x:List Int) (hx:Dig x) (hl:x.length≤400000) (s:Nat) (hs:s<32) (n:Nat) (hn:n=x.length∨n=x.length+1) (hfit:n=x.length→val x*2 ^ s<4294967296 ^ x.length) :
 ∃ l,Dig l∧l.length=n∧val l=val x*2 ^ s∧Ev (fun k=>natural_shift.f k x (s:Int) (n:Int)) l:=by
 obtain ⟨p0,p1,p2,p3⟩:=pow32 hs
 obtain ⟨l,q1,q2,q3,q4⟩:=shift_loop x hx hl s hs n hn x [] 0 rfl (Nat.zero_le _) Dig.nil (Int.le_refl _) p0 (fun e=>by have:=hfit e;omega)
 refine ⟨l,q1,q2,by rw [q3];simp [val],?_⟩
 refine Ev.congr (fun k=>?_) q4
 simp only [natural_shift.f]
 rw [Int.toNat_natCast,if_pos (by omega),if_pos (by omega)]
 by_cases h:n=0
 ·rw [h];rfl
 ·obtain ⟨m,rfl⟩:∃ m,n=m+1:=⟨n-1,by omega⟩
  rw [List.length_nil,if_pos (by omega),List.nil_append,List.replicate_succ]
  rfl
end Go.Proofs.YtjaflmhdclmolaaDoor.Num
end
section
namespace Go.Proofs.YtjaflmhdclmolaaDoor.Num
open Go.RowKit Go.Proofs.YtjaflmhdclmolaaDoorW.PrintWords Go.Proofs.YtjaflmhdclmolaaDoorW.PrintLast Go.Proofs.YtjaflmhdclmolaaDoorW.PrintMore Go.Proofs.YtjaflmhdclmolaaDoor.F
set_option linter.unusedVariables false
theorem drop_rd {l:List Int} {i:Nat} (h:i<l.length):l.drop i=rd l (i:Int) :: l.drop (i+1):=by
 obtain ⟨x,_,h2,_,h4⟩:=drop_split h
 rw [h4,h2]
theorem val_top2 {l:List Int} {m:Nat} (h:l.length=m+2):val l=(rd l ((m+1:Nat):Int)*4294967296+rd l (m:Int))*4294967296 ^ m+val (l.take m):=by
 have e:l=l.take m ++ [rd l (m:Int),rd l ((m+1:Nat):Int)]:=by
  rw [← List.take_append_drop m l]
  conv=>lhs;rw [drop_rd (show m<l.length by omega),drop_rd (show m+1<l.length by omega),List.drop_of_length_le (show l.length≤m+1+1 by omega)]
  rw [List.take_append_drop]
 have hm:(l.take m).length=m:=by rw [List.length_take];omega
 conv=>lhs;rw [e]
 rw [val_app,hm]
 simp only [val,Int.mul_zero,Int.add_zero]
 rw [Int.mul_comm (4294967296 ^ m),Int.mul_comm 4294967296 (rd l ((m+1:Nat):Int)),Int.add_comm (rd l (m:Int))]
 omega
theorem val_top3 {l:List Int} {m:Nat} (h:l.length=m+3):val l=((rd l ((m+2:Nat):Int)*4294967296+rd l ((m+1:Nat):Int))*4294967296+rd l (m:Int))*4294967296 ^ m+val (l.take m):=by
 have e:l=l.take m ++ [rd l (m:Int),rd l ((m+1:Nat):Int),rd l ((m+2:Nat):Int)]:=by
  rw [← List.take_append_drop m l]
  conv=>lhs;rw [drop_rd (show m<l.length by omega),drop_rd (show m+1<l.length by omega),drop_rd (show m+1+1<l.length by omega),List.drop_of_length_le (show l.length≤m+1+1+1 by omega)]
  rw [List.take_append_drop]
 have hm:(l.take m).length=m:=by rw [List.length_take];omega
 conv=>lhs;rw [e]
 rw [val_app,hm]
 simp only [val,Int.mul_zero,Int.add_zero]
 rw [Int.mul_comm (4294967296 ^ m)]
 rw [show rd l (m:Int)+4294967296*(rd l ((m+1:Nat):Int)+4294967296*rd l ((m+2:Nat):Int))=(rd l ((m+2:Nat):Int)*4294967296+rd l ((m+1:Nat):Int))*4294967296+rd l (m:Int) by omega]
 omega
theorem kn_of {u d:List Int} {m:Nat} (hu:Dig u) (hd:Dig d) (hul:u.length=m+3) (hdl:d.length=m+2) (hv:2147483648≤rd d ((m+1:Nat):Int)) (hlt:val u<4294967296*val d) :
 Kn (val d) (val u) (4294967296 ^ m) (val (d.take m)) (val (u.take m)) (rd d ((m+1:Nat):Int)) (rd d (m:Int)) (rd u ((m+2:Nat):Int)) (rd u ((m+1:Nat):Int)) (rd u (m:Int)) (val u/val d):=by
 have hD:=val_top2 hdl
 have hB:=pw m
 have dl0:=val_nonneg (hd.take m)
 have dl1:=val_lt (hd.take m)
 have ul1:=val_lt (hu.take m)
 rw [List.length_take,Nat.min_eq_left (by omega)] at dl1 ul1
 have v1:=hd.at ((m+1:Nat):Int)
 have v2:=hd.at (m:Int)
 have hpos:0<val d:=by
  rw [hD]
  have:=Int.mul_pos (show 0<rd d ((m+1:Nat):Int)*4294967296+rd d (m:Int) by omega) hB
  omega
 have hq:=divmod_eq (val u) (val d)
 have r0:=Int.emod_nonneg (val u) (show val d≠0 by omega)
 have r1:=Int.emod_lt_of_pos (val u) hpos
 exact { hD:=hD,hU:=val_top3 hul,hB:=hB,dl0:=dl0,dl1:=dl1,ul0:=val_nonneg (hu.take m),ul1:=ul1,v10:=hv,v11:=v1.2,v20:=v2.1,v21:=v2.2,u00:=(hu.at _).1,u01:=(hu.at _).2,u10:=(hu.at _).1,u11:=(hu.at _).2,u20:=(hu.at _).1,u21:=(hu.at _).2,q0:=Int.ediv_nonneg (val_nonneg hu) (val_nonneg hd),q1:=by omega,q2:=by omega,hlt:=hlt }
section
variable {D U B dl ul v1 v2 u0 u1 u2 q:Int}
theorem Gs.gle (h:Kn D U B dl ul v1 v2 u0 u1 u2 q) {g r:Int} (a:Gs v1 u0 u1 q g r):0≤g∧g≤8589934592:=by
 have g0:=a.g0 h
 have h1:=a.eq
 have h2:=Int.mul_le_mul_of_nonneg_left h.v10 g0
 have:=h.u01
 have:=h.u11
 have:=a.r0
 omega
end
theorem guess_loop {u d:List Int} {m:Nat} {D U B dl ul q:Int} (hul:u.length=m+3) (hdl:d.length=m+2) (hm:m≤400000)
 (h:Kn D U B dl ul (rd d ((m+1:Nat):Int)) (rd d (m:Int)) (rd u ((m+2:Nat):Int)) (rd u ((m+1:Nat):Int)) (rd u (m:Int)) q) {R:Int×List Int}
 (hc:∀ g,0≤g→g<4294967296→q≤g→g≤q+1→Ev (fun k=>natural_step.j2 k u d ((m+2:Nat):Int) g) R) (f:Nat):∀ g r:Int,Gs (rd d ((m+1:Nat):Int)) (rd u ((m+2:Nat):Int)) (rd u ((m+1:Nat):Int)) q g r→r<4294967296→4294967296≤r+f*2147483648 →
 Ev (fun k=>natural_step.l0 k u d ((m+2:Nat):Int) g r) R:=by
 induction f with
 | zero=>intro g r a h1 h2;omega
 | succ f ih=>
  intro g r a h1 h2
  obtain ⟨g0,g1⟩:=a.gle h
  have r0:=a.r0
  have hv10:=h.v10
  have hv11:=h.v11
  have hv20:=h.v20
  have hv21:=h.v21
  have w1:wrap64 (((m+2:Nat):Int)-1)=((m+1:Nat):Int):=by rw [w64 (by omega) (by omega)];omega
  have w2:wrap64 (((m+2:Nat):Int)-2)=(m:Int):=by rw [w64 (by omega) (by omega)];omega
  have yes:(4294967296≤g∨r*4294967296+rd u (m:Int)<g*rd d (m:Int))→Ev (fun k=>natural_step.j1 k u d ((m+2:Nat):Int) g r true) R:=fun c=>by
   have a2:=a.next h c
   have b1:=a2.g0 h
   by_cases hb:4294967296≤r+rd d ((m+1:Nat):Int)
   ·obtain ⟨c1,c2⟩:=a2.brk h hb
    have g:=hc (g-1) b1 c1 a2.le (a2.done h c1 c2)
    refine Ev.step (fun k=>?_) g
    simp only [natural_step.j1]
    rw [if_pos trivial,w1,wu (n:=rd d ((m+1:Nat):Int)) (by omega) (by omega),wu (n:=r+rd d ((m+1:Nat):Int)) (by omega) (by omega),if_pos (by omega),if_pos (by omega),if_pos (by omega),wu (by omega) (by omega)]
   ·have g:=ih (g-1) (r+rd d ((m+1:Nat):Int)) a2 (by omega) (by omega)
    refine Ev.step (fun k=>?_) g
    simp only [natural_step.j1]
    rw [if_pos trivial,w1,wu (n:=rd d ((m+1:Nat):Int)) (by omega) (by omega),wu (n:=r+rd d ((m+1:Nat):Int)) (by omega) (by omega),if_pos (by omega),if_pos (by omega),if_neg (by omega),wu (by omega) (by omega)]
  by_cases hg:4294967296≤g
  ·refine Ev.step (fun k=>?_) (yes (.inl hg))
   simp only [natural_step.l0]
   rw [if_pos (by omega)]
  ·have hp:=mul_le g0 (show g<4294967296 by omega) hv20 hv21
   have ho:=small_bits r0 h1 h.u20 h.u21
   by_cases ht:r*4294967296+rd u (m:Int)<g*rd d (m:Int)
   ·refine Ev.step (fun k=>?_) (yes (.inr ht))
    simp only [natural_step.l0]
    rw [if_neg (by omega),w2,ho,wu (n:=rd d (m:Int)) (by omega) (by omega),wu (n:=g*rd d (m:Int)) (by omega) (by omega),decide_eq_true (show g*rd d (m:Int)>r*4294967296+rd u (m:Int) from ht),if_pos (by omega),if_pos (by omega),if_pos (by omega)]
   ·have g2:=hc g g0 (by omega) a.le (a.done h (by omega) (by omega))
    refine Ev.step (f:=fun k=>natural_step.j1 k u d ((m+2:Nat):Int) g r false) (fun k=>?_) (Ev.step (fun k=>?_) g2)
    ·simp only [natural_step.l0]
     rw [if_neg (by omega),w2,ho,wu (n:=rd d (m:Int)) (by omega) (by omega),wu (n:=g*rd d (m:Int)) (by omega) (by omega),decide_eq_false (show ¬ g*rd d (m:Int)>r*4294967296+rd u (m:Int) from ht),if_pos (by omega),if_pos (by omega),if_pos (by omega)]
    ·simp only [natural_step.j1]
     rw [if_neg (by decide)]
theorem mulsub_loop (d:List Int) (hd:Dig d) (hdl:d.length≤400002) (n g t:Int) (g0:0≤g) (g1:g<4294967296) (R:Int×List Int) (us:List Int):∀ (ys p:List Int) (c b:Int),d.drop p.length=ys→ys.length=us.length→p.length≤d.length→Dig p→Dig us→0≤c→c<4294967296→0≤b→b≤1 →
 (∀ p' c' b',Dig p'→p'.length=d.length→0≤c'→c'<4294967296→0≤b'→b'≤1→val p'+4294967296 ^ p.length*(g*val ys+c+b)=val p+4294967296 ^ p.length*val us+4294967296 ^ p'.length*(c'+b')→Ev (fun k=>natural_step.l1 k (p' ++ [t]) d n g c' b' d (d.length:Int) (d.length:Int)) R) →
 Ev (fun k=>natural_step.l1 k (p ++ (us ++ [t])) d n g c b d (d.length:Int) (p.length:Int)) R:=by
 induction us with
 | nil=>
  intro ys p c b h1 h2 h3 hp hus c0 c1 b0 b1 hcont
  have e2:ys=[]:=List.eq_nil_of_length_eq_zero (by simpa using h2)
  rw [e2] at h1 hcont
  have e1:=drop_nil h1
  have e3:p.length=d.length:=by omega
  have g2:=hcont p c b hp e3 c0 c1 b0 b1 (by simp [val])
  rw [List.nil_append,e3]
  exact g2
 | cons a us ih=>
  intro ys p c b h1 h2 h3 hp hus c0 c1 b0 b1 hcont
  cases ys with
  | nil=>simp at h2
  | cons v ys=>
   obtain ⟨i1,r1,d1,m1⟩:=drop_cons h1
   have bv:=hd v m1
   have ba:=hus.head
   have bp:=mul_le g0 g1 bv.1 bv.2
   have hq:∀ t:Int,0≤t→t≤18446744065119617025+4294967295→0≤t%4294967296∧t%4294967296<4294967296∧0≤t/4294967296∧t/4294967296<4294967296:=fun t _ _=>by omega
   have bt:=hq (g*v+c) (by omega) (by omega)
   have hs:=sub32_eq ba.1 ba.2 bt.1 bt.2.1 b0 b1
   have hb:∀ x y:Int,0≤x→x<4294967296→0≤y→y<4294967296→0≤(x-y-b)%4294967296∧(x-y-b)%4294967296<4294967296∧0 ≤ -((x-y-b)/4294967296) ∧ -((x-y-b)/4294967296)≤1:=fun x y _ _ _ _=>by omega
   have bb:=hb a ((g*v+c)%4294967296) ba.1 ba.2 bt.1 bt.2.1
   have ih:=ih ys (p ++ [(a-(g*v+c)%4294967296-b)%4294967296]) ((g*v+c)/4294967296) (-((a-(g*v+c)%4294967296-b)/4294967296)) (by rw [snoc_len];exact d1) (by simpa using h2) (by rw [snoc_len];omega) (snoc_dig hp bb.1 bb.2.1) hus.tail bt.2.2.1 bt.2.2.2 bb.2.2.1 bb.2.2.2 (by
    intro p' c' b' a1 a2 a3 a4 a5 a6 a7
    refine hcont p' c' b' a1 a2 a3 a4 a5 a6 ?_
    have s1:=vsnoc p ((a-(g*v+c)%4294967296-b)%4294967296) (val us)
    rw [snoc_len] at s1 a7
    have e5:val p+4294967296 ^ p.length*((a-(g*v+c)%4294967296-b)%4294967296+4294967296*val us)=val p+4294967296 ^ p.length*(val (a :: us))-4294967296 ^ p.length*(g*val (v :: ys)+c+b)+4294967296 ^ p.length*(4294967296*(g*val ys+(g*v+c)/4294967296 + -((a-(g*v+c)%4294967296-b)/4294967296))):=by
     rw [Int.add_sub_assoc,← Int.mul_sub,Int.add_assoc,← Int.mul_add]
     congr 2
     simp only [val,Int.mul_add]
     rw [Int.mul_left_comm g 4294967296]
     generalize g*v=q1
     generalize g*val ys=q2
     omega
    have e6:(4294967296:Int) ^ (p.length+1)*(g*val ys+(g*v+c)/4294967296 + -((a-(g*v+c)%4294967296-b)/4294967296))=4294967296 ^ p.length*(4294967296*(g*val ys+(g*v+c)/4294967296 + -((a-(g*v+c)%4294967296-b)/4294967296))):=by
     rw [Int.pow_succ,Int.mul_assoc]
    rw [e6,s1,e5] at a7
    omega)
   rw [snoc_len] at ih
   refine Ev.step (fun k=>?_) ih
   simp only [natural_step.l1]
   have hr:rd (p ++ (a :: us ++ [t])) (p.length:Int)=a:=rd_at _ _ _ _ rfl
   have he:∀ x,(p ++ (a :: us ++ [t])).set p.length x=(p ++ [x]) ++ (us ++ [t]):=fun x=>set_snoc p x a (us ++ [t])
   have hln:(p ++ (a :: us ++ [t])).length=p.length+us.length+2:=by simp only [List.length_append,List.length_cons,List.length_nil];omega
   rw [if_pos (by omega),r1,hr,hln,wu (n:=v) (by omega) (by omega),wu (n:=g*v) (by omega) (by omega),wu (n:=g*v+c) (by omega) (by omega),hs,Option.bind_some,if_pos (by omega),if_pos (by omega),if_pos (by omega),Int.toNat_natCast,he,winc (by omega)]
theorem addback_loop (d:List Int) (hd:Dig d) (hdl:d.length≤400002) (n g t:Int) (hn:n=(d.length:Int)) (g0:1≤g) (g1:g<4294967296) (us:List Int):∀ (ys p:List Int) (c:Int),d.drop p.length=ys→ys.length=us.length→p.length≤d.length→Dig p→Dig us→0≤c→c≤1 →
 ∃ p' c',Dig p'∧p'.length=d.length∧0≤c'∧c'≤1∧val p'+4294967296 ^ p'.length*c'=val p+4294967296 ^ p.length*(c+val us+val ys)∧Ev (fun k=>natural_step.l2 k (p ++ (us ++ [t])) n g c d (d.length:Int) (p.length:Int)) (g-1,p' ++ [(t+c')%4294967296]):=by
 induction us with
 | nil=>
  intro ys p c h1 h2 h3 hp hus c0 c1
  have e2:ys=[]:=List.eq_nil_of_length_eq_zero (by simpa using h2)
  rw [e2] at h1 ⊢
  have e1:=drop_nil h1
  have e3:p.length=d.length:=by omega
  refine ⟨p,c,hp,e3,c0,c1,by simp [val],?_⟩
  refine Ev.step (f:=fun _=>some (g-1,p ++ [(t+c)%4294967296])) (fun k=>?_) (Ev.now _)
  simp only [natural_step.l2]
  have hr:rd (p ++ ([] ++ [t])) n=t:=rd_at p t [] n (by omega)
  have he:∀ x,(p ++ ([] ++ [t])).set n.toNat x=p ++ [x]:=fun x=>by
   rw [show n.toNat=p.length by omega]
   exact (set_snoc p x t []).trans (List.append_nil _)
  have hln:(p ++ ([] ++ [t])).length=p.length+1:=by simp
  rw [if_neg (by omega),hr,he,hln,if_pos (by omega),if_pos (by omega),wu (by omega) (by omega),Int.emod_eq_of_lt (by omega) (by omega)]
 | cons a us ih=>
  intro ys p c h1 h2 h3 hp hus c0 c1
  cases ys with
  | nil=>simp at h2
  | cons v ys=>
   obtain ⟨i1,r1,d1,m1⟩:=drop_cons h1
   have bv:=hd v m1
   have ba:=hus.head
   have hs:=add32_eq ba.1 ba.2 bv.1 bv.2 c0 c1
   obtain ⟨p',c',q1,q2,q3,q4,q5,q6⟩:=ih ys (p ++ [(a+v+c)%4294967296]) ((a+v+c)/4294967296) (by rw [snoc_len];exact d1) (by simpa using h2) (by rw [snoc_len];omega) (snoc_dig hp (by omega) (by omega)) hus.tail (by omega) (by omega)
   rw [vsnoc,show (a+v+c)%4294967296+4294967296*((a+v+c)/4294967296+val us+val ys)=c+val (a :: us)+val (v :: ys) by simp only [val];omega] at q5
   refine ⟨p',c',q1,q2,q3,q4,q5,?_⟩
   rw [snoc_len] at q6
   refine Ev.step (fun k=>?_) q6
   simp only [natural_step.l2]
   have hr:rd (p ++ (a :: us ++ [t])) (p.length:Int)=a:=rd_at _ _ _ _ rfl
   have he:∀ x,(p ++ (a :: us ++ [t])).set p.length x=(p ++ [x]) ++ (us ++ [t]):=fun x=>set_snoc p x a (us ++ [t])
   have hln:(p ++ (a :: us ++ [t])).length=p.length+us.length+2:=by simp only [List.length_append,List.length_cons,List.length_nil];omega
   rw [if_pos (by omega),r1,hr,hln,hs,Option.bind_some,if_pos (by omega),if_pos (by omega),if_pos (by omega),Int.toNat_natCast,he,winc (by omega)]
theorem step_ev {u d:List Int} {m:Nat} (hu:Dig u) (hd:Dig d) (hul:u.length=m+3) (hdl:d.length=m+2) (hm:m≤400000) (hv:2147483648≤rd d ((m+1:Nat):Int)) (hlt:val u<4294967296*val d) :
 ∃ w,Dig w∧w.length=u.length∧val w=val u%val d∧Ev (fun k=>natural_step.f k u d) (val u/val d,w):=by
 have h:=kn_of hu hd hul hdl hv hlt
 have hD0:0<val d:=by have:=h.dpos;have:=h.hB;omega
 have hDlt:=val_lt hd
 have hPn:=pw d.length
 obtain ⟨w,w1,w2,w3,w4⟩:∃ w,Dig w∧w.length=u.length∧val w=val u%val d ∧ ∀ g,0≤g→g<4294967296→val u/val d≤g→g≤val u/val d+1→Ev (fun k=>natural_step.j2 k u d ((m+2:Nat):Int) g) (val u/val d,w):=by
  have hr0:=Int.emod_nonneg (val u) (show val d≠0 by omega)
  have hr1:=Int.emod_lt_of_pos (val u) hD0
  have hqr:=divmod_eq (val u) (val d)
  have huniq:∀ a b:List Int,Dig a→Dig b→a.length=b.length→val a=val b→a=b:=by
   intro a
   induction a with
   | nil=>intro b _ _ hl _;exact (List.eq_nil_of_length_eq_zero hl.symm).symm
   | cons x a ih=>
    intro b ha hb hl hv
    cases b with
    | nil=>simp at hl
    | cons y b=>
     have a0:=ha.head
     have b0:=hb.head
     simp only [val] at hv
     rw [show x=y by omega,ih b ha.tail hb.tail (by simpa using hl) (by omega)]
  refine ⟨L (val u%val d) ++ List.replicate (u.length-(L (val u%val d)).length) 0,(L_dig hr0).app (Dig.zeros _),?_,?_,?_⟩
  ·have:(L (val u%val d)).length≤d.length:=L_len hr0 (by omega)
   rw [List.length_append,List.length_replicate];omega
  ·rw [val_app,val_zeros,Int.mul_zero,Int.add_zero,L_val hr0]
  ·have hwlen:(L (val u%val d) ++ List.replicate (u.length-(L (val u%val d)).length) 0).length=u.length:=by
    have:(L (val u%val d)).length≤d.length:=L_len hr0 (by omega)
    rw [List.length_append,List.length_replicate];omega
   have hwval:val (L (val u%val d) ++ List.replicate (u.length-(L (val u%val d)).length) 0)=val u%val d:=by
    rw [val_app,val_zeros,Int.mul_zero,Int.add_zero,L_val hr0]
   have hwdig:Dig (L (val u%val d) ++ List.replicate (u.length-(L (val u%val d)).length) 0):=(L_dig hr0).app (Dig.zeros _)
   generalize L (val u%val d) ++ List.replicate (u.length-(L (val u%val d)).length) 0=w at hwlen hwval hwdig
   intro g g0 g1 gq gq1
   have hsp:u=u.take (m+2) ++ [rd u ((m+2:Nat):Int)]:=by
    conv=>lhs;rw [← List.take_append_drop (m+2) u,drop_rd (show m+2<u.length by omega),List.drop_of_length_le (show u.length≤m+2+1 by omega)]
   have ht:=hu.at ((m+2:Nat):Int)
   have hus:=hu.take (m+2)
   have husl:(u.take (m+2)).length=m+2:=by rw [List.length_take];omega
   have hUv:val u=val (u.take (m+2))+4294967296 ^ (m+2)*rd u ((m+2:Nat):Int):=by
    conv=>lhs;rw [hsp,val_app,husl]
    simp [val]
   generalize u.take (m+2)=us at hsp hus husl hUv
   generalize rd u ((m+2:Nat):Int)=t at hsp ht hUv
   have key:=mulsub_loop d hd (by omega) ((m+2:Nat):Int) g t g0 g1 (val u/val d,w) us d [] 0 0 rfl (by omega) (Nat.zero_le _) Dig.nil hus (Int.le_refl _) (by decide) (Int.le_refl _) (by decide) (by
    intro p c b hp hpl c0 c1 b0 b1 he
    have he:val p+g*val d=val us+4294967296 ^ (m+2)*(c+b):=by
     rw [hpl,hdl] at he
     simp only [List.length_nil,Int.pow_zero,Int.one_mul,Int.add_zero,val,Int.zero_add] at he
     exact he
    have hs:=sub32_eq ht.1 ht.2 c0 c1 b0 b1
    have hx0:=Int.emod_nonneg (t-c-b) (show (4294967296:Int)≠0 by decide)
    have hx1:=Int.emod_lt_of_pos (t-c-b) (show (0:Int)<4294967296 by decide)
    have hb2:0 ≤ -((t-c-b)/4294967296) ∧ -((t-c-b)/4294967296)≤1:=by omega
    have hz:(t-c-b)%4294967296=t-c-b+4294967296 * -((t-c-b)/4294967296):=by omega
    generalize (t-c-b)%4294967296=t2 at hs hx0 hx1 hz
    generalize -((t-c-b)/4294967296)=bo at hs hb2 hz
    have hXv:val (p ++ [t2])=val p+4294967296 ^ (m+2)*t2:=by rw [val_app,hpl,hdl];simp [val]
    have hXd:Dig (p ++ [t2]):=snoc_dig hp hx0 hx1
    have hXl:(p ++ [t2]).length=m+3:=by rw [snoc_len,hpl,hdl]
    have hXlt:=val_lt hXd
    rw [hXl] at hXlt
    have hP:(4294967296:Int) ^ (m+3)=4294967296 ^ (m+2)*4294967296:=Int.pow_succ ..
    have hfix:=Kn.fix (W:=4294967296 ^ (m+3)) (X:=val (p ++ [t2])) hD0 h.q1 h.q2 gq gq1 (val_nonneg hXd) hXlt hb2.1 hb2.2 (by
     rw [hXv,hUv,hP,hz]
     simp only [Int.mul_add,Int.mul_sub,Int.mul_assoc] at he ⊢
     omega)
    have hrd:rd (p ++ [t]) ((m+2:Nat):Int)=t:=rd_at p t [] _ (by omega)
    have hset:∀ x,(p ++ [t]).set (m+2) x=p ++ [x]:=fun x=>by
     have:=set_snoc p x t []
     rw [hpl,hdl,List.append_nil] at this
     exact this
    by_cases hbo:bo=0
    ·obtain ⟨f1,f2⟩:=hfix.1 hbo
     have e1:p ++ [t2]=w:=huniq _ _ hXd hwdig (by omega) (by rw [f2,hwval];omega)
     refine Ev.step (f:=fun _=>some (val u/val d,w)) (fun k=>?_) (Ev.now _)
     simp only [natural_step.l1]
     rw [if_neg (by omega),hrd,Int.emod_eq_of_lt c0 c1,hs,Option.bind_some,if_pos (by omega),if_pos (by rw [snoc_len];omega),Option.bind_some,if_pos hbo,Int.toNat_natCast,hset,e1,Int.emod_eq_of_lt g0 g1,f1]
    ·have hbo1:bo=1:=by omega
     obtain ⟨f1,f2⟩:=hfix.2 hbo1
     have hq0:=h.q0
     obtain ⟨p2,c2,q1,q2,q3,q4,q5,q6⟩:=addback_loop d hd (by omega) ((m+2:Nat):Int) g t2 (by omega) (by omega) g1 p d [] 0 rfl (by omega) (Nat.zero_le _) Dig.nil hp (Int.le_refl _) (by decide)
     have q5:val p2+4294967296 ^ (m+2)*c2=val p+val d:=by
      rw [q2,hdl] at q5
      simp only [List.length_nil,Int.pow_zero,Int.one_mul,val,Int.zero_add] at q5
      exact q5
     have hp2:=val_lt q1
     rw [q2,hdl] at hp2
     have hp20:=val_nonneg q1
     have hsum:val p2+4294967296 ^ (m+2)*(c2+t2)=val (p ++ [t2])+val d:=by
      rw [hXv,Int.mul_add];omega
     have hc2:c2+t2=4294967296:=by
      have hcase:c2+t2≤4294967295∨c2+t2=4294967296:=by omega
      rcases hcase with hcase|hcase
      ·have e2:=Int.mul_le_mul_of_nonneg_left hcase (Int.le_of_lt (pw (m+2)))
       have e3:val u%val d=val u-val u/val d*val d:=by omega
       rw [hP] at f2
       omega
      ·exact hcase
     rw [show (t2+c2)%4294967296=0 by omega] at q6
     have e1:p2 ++ [0]=w:=by
      refine huniq _ _ (snoc_dig q1 (by decide) (by decide)) hwdig (by rw [snoc_len];omega) ?_
      rw [hwval,val_app]
      rw [hc2] at hsum
      rw [hP] at f2
      simp only [val,Int.mul_zero,Int.add_zero]
      omega
     rw [e1,show g-1=val u/val d by omega] at q6
     refine Ev.step (fun k=>?_) q6
     simp only [natural_step.l1]
     rw [if_neg (by omega),hrd,Int.emod_eq_of_lt c0 c1,hs,Option.bind_some,if_pos (by omega),if_pos (by rw [snoc_len];omega),Option.bind_some,if_neg hbo,Int.toNat_natCast,hset,List.nil_append,List.length_nil]
     rfl)
   refine Ev.step (fun k=>?_) key
   simp only [natural_step.j2]
   rw [← hsp]
   rfl
 refine ⟨w,w1,w2,w3,?_⟩
 have hT:=kn_of hu hd hul hdl hv hlt
 have hu0:=hT.u00
 have hu01:=hT.u01
 have hst:=hT.start
 have hr1:=Int.emod_lt_of_pos (rd u ((m+2:Nat):Int)*4294967296+rd u ((m+1:Nat):Int)) (show 0<rd d ((m+1:Nat):Int) by omega)
 have hv11:=hT.v11
 have g:=guess_loop hul hdl hm hT w4 2 _ _ hst (by omega) (by have:=hst.r0;omega)
 have w5:wrap64 ((d.length:Int)-1)=((m+1:Nat):Int):=by rw [w64 (by omega) (by omega)];omega
 have hbits:=small_bits hu0 hu01 hT.u10 hT.u11
 have hnn:0≤rd u ((m+2:Nat):Int)*4294967296+rd u ((m+1:Nat):Int):=by have:=hT.u10;omega
 obtain ⟨gl0,gl1⟩:=hst.gle hT
 refine Ev.congr (fun k=>?_) g
 simp only [natural_step.f]
 rw [w5,hdl,wu (n:=rd u ((m+2:Nat):Int)) (by omega) (by omega),hbits,wu (n:=rd d ((m+1:Nat):Int)) (by omega) (by omega),Int.tdiv_eq_ediv_of_nonneg hnn,Int.tmod_eq_emod_of_nonneg hnn,wu gl0 (by omega),if_pos (by omega),if_pos (by omega),if_pos (by omega),if_pos (by omega),if_pos (by omega),if_neg (by omega)]
end Go.Proofs.YtjaflmhdclmolaaDoor.Num
end
section
namespace Go.Proofs.YtjaflmhdclmolaaDoor.Num
open Go.RowKit Go.Proofs.YtjaflmhdclmolaaDoorW.PrintWords Go.Proofs.YtjaflmhdclmolaaDoorW.PrintLast Go.Proofs.YtjaflmhdclmolaaDoorW.PrintMore Go.Proofs.YtjaflmhdclmolaaDoor.F
set_option linter.unusedVariables false
theorem shr64 {t:Int} {s:Nat} (hs:s<32):shr .u64 t (s:Int)=t/2 ^ s:=by
 unfold shr
 rw [Int.toNat_natCast,show min s IntKind.u64.bits=s from Nat.min_eq_left (by show s≤64;omega)]
theorem unshift_digit {x y v:Int} {s:Nat} (hs:s<32) (x0:0≤x) (x1:x<4294967296):(x+4294967296*(y+4294967296*v))/2 ^ s=(x+4294967296*y)/2 ^ s%4294967296+4294967296*((y+4294967296*v)/2 ^ s):=by
 obtain ⟨p0,p1,p2,p3⟩:=pow32 hs
 have e1:x+4294967296*(y+4294967296*v)=x+4294967296*y+2 ^ s*(2 ^ (32-s)*4294967296*v):=by
  rw [← Int.mul_assoc,← Int.mul_assoc,p2,Int.mul_assoc];omega
 have e2:(x+4294967296*(y+4294967296*v))/2 ^ s=(x+4294967296*y)/2 ^ s+2 ^ (32-s)*4294967296*v:=by
  rw [e1,Int.add_mul_ediv_left _ _ (by omega)]
 have e3:(x+4294967296*(y+4294967296*v))/2 ^ s%4294967296=(x+4294967296*y)/2 ^ s%4294967296:=by
  rw [e2,show (2:Int) ^ (32-s)*4294967296*v=4294967296*(2 ^ (32-s)*v) by rw [Int.mul_comm (2 ^ (32-s)),Int.mul_assoc],Int.add_mul_emod_self_left]
 have e4:(x+4294967296*(y+4294967296*v))/2 ^ s/4294967296=(y+4294967296*v)/2 ^ s:=by
  rw [Int.ediv_ediv_of_nonneg (by omega),Int.mul_comm (2 ^ s),← Int.ediv_ediv_of_nonneg (by decide),Int.add_mul_ediv_left _ _ (by decide),Int.ediv_eq_zero_of_lt x0 x1,Int.zero_add]
 have hq:=divmod_eq ((x+4294967296*(y+4294967296*v))/2 ^ s) 4294967296
 rw [e3,e4] at hq
 omega
theorem unshift_bits {x y:Int} (x0:0≤x) (x1:x<4294967296) (y0:0≤y) (y1:y<4294967296):Go.bits .or .u64 (IntKind.u64.wrap x) (IntKind.u64.wrap (IntKind.u64.wrap y*4294967296))=x+4294967296*y:=by
 rw [wu (n:=x) (by omega) (by omega),wu (n:=y) (by omega) (by omega),wu (by omega) (by omega),bitor_comm,orHi y0 y1 x0 x1]
 omega
theorem unshift_loop (x:List Int) (hx:Dig x) (hl:x.length≤400001) (s:Nat) (hs:s<32) (xs:List Int):∀ (o:List Int),x.drop o.length=xs→o.length≤x.length→Dig o →
 Ev (fun k=>natural_unshift.l0 k x (s:Int) (o ++ List.replicate xs.length 0) (x.length:Int) (o.length:Int)) (L (val o+4294967296 ^ o.length*(val xs/2 ^ s))):=by
 obtain ⟨p0,p1,p2,p3⟩:=pow32 hs
 induction xs with
 | nil=>
  intro o h1 h2 ho
  have e1:=drop_nil h1
  refine Ev.step (f:=fun k=>(natural_limbs_trim.f k o).bind fun t=>some t) (fun k=>?_) ?_
  ·simp only [natural_unshift.l0]
   rw [if_neg (by omega),List.length_nil,List.replicate_zero,List.append_nil]
  ·refine Ev.bind (trim_ev o (by omega)) ?_
   rw [tr_L ho]
   simp only [val,Int.zero_ediv,Int.mul_zero,Int.add_zero]
   exact Ev.now _
 | cons a xs ih=>
  intro o h1 h2 ho
  obtain ⟨i1,r1,d1,m1⟩:=drop_cons h1
  have ba:=hx a m1
  have hset:∀ d,(o ++ List.replicate (a :: xs).length 0).set o.length d=(o ++ [d]) ++ List.replicate xs.length 0:=fun d=>by
   rw [List.length_cons,List.replicate_succ]
   exact set_snoc o d 0 _
  have hlen:(o ++ List.replicate (a :: xs).length (0:Int)).length=o.length+xs.length+1:=by rw [List.length_append,List.length_replicate,List.length_cons];omega
  have key:∀ q,0≤q→q<4294967296→val (a :: xs)/2 ^ s=q+4294967296*(val xs/2 ^ s)→Ev (fun k=>natural_unshift.l0 k x (s:Int) (o ++ [q] ++ List.replicate xs.length 0) (x.length:Int) ((o.length+1:Nat):Int)) (L (val o+4294967296 ^ o.length*(val (a :: xs)/2 ^ s))):=fun q q0 q1 e=>by
   have ih:=ih (o ++ [q]) (by rw [snoc_len];exact d1) (by rw [snoc_len];omega) (snoc_dig ho q0 q1)
   rw [vsnoc,← e,snoc_len] at ih
   exact ih
  cases xs with
  | nil=>
   have e1:=drop_nil d1
   have hb:0≤a/2 ^ s∧a/2 ^ s<4294967296:=⟨Int.ediv_nonneg ba.1 (by omega),Int.lt_of_le_of_lt (Int.ediv_le_self _ ba.1) ba.2⟩
   refine Ev.step (fun k=>?_) (key (a/2 ^ s) hb.1 hb.2 (by simp [val]))
   simp only [natural_unshift.l0]
   rw [hlen,winc (by omega),if_pos (by omega),if_pos (by omega),if_pos (by omega),if_neg (by omega),if_pos (by omega),if_pos (by omega),r1,Int.toNat_natCast,hset,wu (n:=a) (by omega) (by omega),shr64 hs,Int.emod_eq_of_lt hb.1 hb.2]
  | cons y ys=>
   obtain ⟨i2,r2,d2,m2⟩:=drop_cons d1
   have by':=hx y m2
   have hub:=unshift_bits ba.1 ba.2 by'.1 by'.2
   refine Ev.step (fun k=>?_) (key ((a+4294967296*y)/2 ^ s%4294967296) (Int.emod_nonneg _ (by decide)) (Int.emod_lt_of_pos _ (by decide)) (by simp only [val];exact unshift_digit hs ba.1 ba.2))
   simp only [natural_unshift.l0]
   rw [hlen,winc (by omega),if_pos (by omega),if_pos (by omega),if_pos (by omega),if_pos (by omega),if_pos (by omega),if_pos (by omega),if_pos (by omega),r1,r2,hub,Int.toNat_natCast,hset,shr64 hs]
theorem unshift_ev (x:List Int) (hx:Dig x) (hl:x.length≤400001) (s:Nat) (hs:s<32):Ev (fun k=>natural_unshift.f k x (s:Int)) (L (val x/2 ^ s)):=by
 have g:=unshift_loop x hx hl s hs x [] rfl (Nat.zero_le _) Dig.nil
 rw [show val []+4294967296 ^ ([]:List Int).length*(val x/2 ^ s)=val x/2 ^ s by simp [val]] at g
 refine Ev.congr (fun k=>?_) g
 simp only [natural_unshift.f]
 rw [Int.toNat_natCast,if_pos (by omega),if_pos (by omega)]
 rfl
theorem val_take_drop (l:List Int) (i:Nat) (h:i≤l.length):val l=val (l.take i)+4294967296 ^ i*val (l.drop i):=by
 conv=>lhs;rw [← List.take_append_drop i l]
 rw [val_app,List.length_take,Nat.min_eq_left h]
theorem divide_loop {d:List Int} {m:Nat} (hd:Dig d) (hdl:d.length=m+2) (hm:m≤200000) (hv:2147483648≤rd d ((m+1:Nat):Int)) (A:Int) (s:Nat) (hs:s<32) (i:Nat):∀ (u qd:List Int),Dig u→Dig qd→i+qd.length+(m+2)=u.length→u.length≤400001→val (u.drop i)<val d→A=(val qd*4294967296 ^ i)*val d+val u →
 Ev (fun k=>natural_divide.l0 k ((m+2:Nat):Int) (s:Int) d u (List.replicate i 0 ++ qd) ((i:Int)-1)) (L (A/val d),L ((A%val d)/2 ^ s)):=by
 have hDlt:=val_lt hd
 induction i with
 | zero=>
  intro u qd hu hq hlen hul hlt hA
  rw [List.drop_zero] at hlt
  rw [Int.pow_zero,Int.mul_one] at hA
  obtain ⟨e1,e2⟩:=divmod hA (val_nonneg hu) hlt
  have ht:=val_take_drop u (m+2) (by omega)
  have hz:val (u.drop (m+2))=0:=by
   have h0:=val_nonneg (hu.drop (m+2))
   rcases Int.lt_or_le 0 (val (u.drop (m+2))) with h1|h1
   ·have h2:=Int.mul_le_mul_of_nonneg_left (show 1≤val (u.drop (m+2)) by omega) (Int.le_of_lt (pw (m+2)))
    have h3:=val_nonneg (hu.take (m+2))
    rw [hdl] at hDlt
    omega
   ·omega
  rw [hz,Int.mul_zero,Int.add_zero] at ht
  refine Ev.step (f:=fun k=>(natural_limbs_trim.f k qd).bind fun t=>(natural_unshiftAt.f k ((m+2:Nat):Int) u (s:Int)).bind fun t2=>some (t,t2)) (fun k=>?_) ?_
  ·simp only [natural_divide.l0]
   rw [if_neg (by omega),List.replicate_zero,List.nil_append]
  ·refine Ev.bind (trim_ev qd (by omega)) ?_
   have g:=unshift_ev (u.take (m+2)) (hu.take _) (by rw [List.length_take];omega) s hs
   rw [← ht] at g
   have g2:Ev (fun k=>natural_unshiftAt.f k ((m+2:Nat):Int) u (s:Int)) (L (val u/2 ^ s)):=by
    refine Ev.congr (fun k=>?_) g
    simp only [natural_unshiftAt.f]
    rw [if_pos ⟨by omega,by omega⟩,Int.toNat_natCast]
   refine Ev.bind g2 ?_
   rw [tr_L hq,e1,e2]
   exact Ev.now _
 | succ i ih=>
  intro u qd hu hq hlen hul hlt hA
  have hx:=drop_rd (l:=u) (i:=i) (by omega)
  have hxb:=hu.at (i:Int)
  have hdd:=val_take_drop (u.drop i) (m+3) (by rw [List.length_drop];omega)
  have hwd:Dig ((u.drop i).take (m+3)):=(hu.drop i).take _
  have hwl:((u.drop i).take (m+3)).length=m+3:=by rw [List.length_take,List.length_drop];omega
  have hhid:Dig ((u.drop i).drop (m+3)):=(hu.drop i).drop _
  have hD0:0≤val d:=val_nonneg hd
  have hvi:val (u.drop i)=rd u (i:Int)+4294967296*val (u.drop (i+1)):=by rw [hx,val]
  have hvlt:val (u.drop i)<4294967296*val d:=by omega
  have hhi:val ((u.drop i).drop (m+3))=0:=by
   have h0:=val_nonneg hhid
   rcases Int.lt_or_le 0 (val ((u.drop i).drop (m+3))) with h1|h1
   ·have h2:=Int.mul_le_mul_of_nonneg_left (show 1≤val ((u.drop i).drop (m+3)) by omega) (Int.le_of_lt (pw (m+3)))
    have h3:=val_nonneg hwd
    rw [hdl] at hDlt
    have h4:(4294967296:Int) ^ (m+3)=4294967296 ^ (m+2)*4294967296:=Int.pow_succ ..
    omega
   ·omega
  rw [hhi,Int.mul_zero,Int.add_zero] at hdd
  obtain ⟨w,w1,w2,w3,w4⟩:=step_ev hwd hd hwl hdl (by omega) hv (by omega)
  have hsp:u.take i ++ w ++ (u.drop i).drop (m+3)=u.take i ++ (w ++ (u.drop i).drop (m+3)):=List.append_assoc ..
  have htl:(u.take i).length=i:=by rw [List.length_take];omega
  have hu2d:Dig (u.take i ++ w ++ (u.drop i).drop (m+3)):=((hu.take i).app w1).app hhid
  have hu2l:(u.take i ++ w ++ (u.drop i).drop (m+3)).length=u.length:=by
   rw [List.length_append,List.length_append,htl,w2,hwl,List.length_drop,List.length_drop];omega
  have hu2v:val (u.take i ++ w ++ (u.drop i).drop (m+3))=val (u.take i)+4294967296 ^ i*(val ((u.drop i).take (m+3))%val d):=by
   rw [hsp,val_app,htl,val_app,hhi,Int.mul_zero,Int.add_zero,w3]
  have hu2t:val ((u.take i ++ w ++ (u.drop i).drop (m+3)).drop i)=val ((u.drop i).take (m+3))%val d:=by
   rw [hsp,List.drop_append,htl,Nat.sub_self,List.drop_zero,List.drop_of_length_le (by omega),List.nil_append,val_app,hhi,Int.mul_zero,Int.add_zero,w3]
  have hkn:=kn_of hwd hd hwl hdl hv (by omega)
  have hq0:=hkn.q0
  have hq1:=hkn.qlt
  have hDp:0<val d:=by have:=hkn.dpos;have:=hkn.hB;omega
  have hr1:=Int.emod_lt_of_pos (val ((u.drop i).take (m+3))) hDp
  have hqr:=divmod_eq (val ((u.drop i).take (m+3))) (val d)
  have hut:=val_take_drop u i (by omega)
  rw [hdd] at hut
  generalize val ((u.drop i).take (m+3))/val d=q at *
  generalize val ((u.drop i).take (m+3))%val d=r at *
  have ih:=ih (u.take i ++ w ++ (u.drop i).drop (m+3)) (q :: qd) hu2d (Dig.cons hq0 hq1 hq) (by rw [hu2l,List.length_cons];omega) (by omega) (by rw [hu2t];exact hr1) (by
   rw [hu2v,hA,hut,hqr,val,Int.pow_succ]
   simp only [Int.mul_add,Int.mul_assoc,Int.mul_comm,Int.mul_left_comm]
   omega)
  have hstep:Ev (fun k=>natural_stepAt.f k ((m+2:Nat):Int) u (i:Int) d) (q,u.take i ++ w ++ (u.drop i).drop (m+3)):=by
   unfold natural_stepAt.f
   refine Ev.ite ⟨by omega,by omega,by omega⟩ ?_
   rw [Int.toNat_natCast,Int.toNat_natCast]
   refine Ev.bind w4 ?_
   rw [List.drop_drop]
   exact Ev.now _
  refine Ev.step (f:=fun k=>(natural_stepAt.f k ((m+2:Nat):Int) u (i:Int) d).bind fun bt=>natural_divide.l0 k ((m+2:Nat):Int) (s:Int) d bt.2 (List.replicate i 0 ++ bt.1 :: qd) ((i:Int)-1)) (fun k=>?_) (Ev.bind hstep ih)
  simp only [natural_divide.l0]
  have hrl:(List.replicate (i+1) (0:Int) ++ qd).length=i+1+qd.length:=by rw [List.length_append,List.length_replicate]
  rw [show ((i+1:Nat):Int)-1=(i:Int) by omega,if_pos (by omega),hrl,Int.toNat_natCast,w64 (by omega) (by omega)]
  congr 1
  funext bt
  rw [if_pos (by omega),if_pos (by omega),set_rep]
end Go.Proofs.YtjaflmhdclmolaaDoor.Num
end
section
namespace Go.Proofs.YtjaflmhdclmolaaDoor.Num
open Go.RowKit Go.Proofs.YtjaflmhdclmolaaDoorW.PrintWords Go.Proofs.YtjaflmhdclmolaaDoorW.PrintLast Go.Proofs.YtjaflmhdclmolaaDoorW.PrintMore Go.Proofs.YtjaflmhdclmolaaDoor.F
set_option linter.unusedVariables false
theorem val_top1 {l:List Int} {m:Nat} (h:l.length=m+1):val l=val (l.take m)+4294967296 ^ m*rd l (m:Int):=by
 have h1:=val_take_drop l m (by omega)
 rw [drop_rd (show m<l.length by omega),List.drop_of_length_le (show l.length≤m+1 by omega)] at h1
 simp only [val,Int.mul_zero,Int.add_zero] at h1
 exact h1
theorem nz_top {l:List Int} : ∀ {m:Nat},Nz l→l.length=m+1→rd l (m:Int)≠0:=by
 induction l with
 | nil=>intro m _ h;simp at h
 | cons x r ih=>
  intro m hz h
  cases r with
  | nil=>
   have:m=0:=by simpa using h.symm
   rw [this]
   exact hz
  | cons y r=>
   obtain ⟨j,rfl⟩:∃ j,m=j+1:=⟨m-1,by simp at h;omega⟩
   rw [rd_cons_succ]
   exact ih hz.tail (by simpa using h)
theorem lead {v:Int} (h0:0<v) (h1:v<4294967296):∃ s:Nat,s<32∧bits_LeadingZeros32.f v=some (s:Int)∧2147483648≤v*2 ^ s∧(v+1)*2 ^ s≤4294967296:=by
 obtain ⟨n,rfl⟩:=Int.eq_ofNat_of_zero_le (Int.le_of_lt h0)
 obtain ⟨hb1,b2,b1⟩:=Lib.bitLenAux_bounds 64 n (by omega) (by omega)
 have hbl:Lib.bitLenAux 64 n=Lib.bitLen n:=rfl
 rw [hbl] at hb1 b1 b2
 have hb2:Lib.bitLen n≤32:=by
  rcases Nat.lt_or_ge 32 (Lib.bitLen n) with q|q
  ·have:=Nat.pow_le_pow_right (show 0<2 by decide) (show 32≤Lib.bitLen n-1 by omega)
   omega
  ·exact q
 have heq:bits_LeadingZeros32.f (n:Int)=some (((32-Lib.bitLen n:Nat):Nat):Int):=by
  unfold bits_LeadingZeros32.f
  rw [if_pos ⟨by omega,by omega⟩,Int.toNat_natCast]
  congr 1
  omega
 refine ⟨32-Lib.bitLen n,by omega,heq,?_,?_⟩
 ·have e:2 ^ (Lib.bitLen n-1)*2 ^ (32-Lib.bitLen n)=2147483648:=by rw [← Nat.pow_add,show Lib.bitLen n-1+(32-Lib.bitLen n)=31 by omega]
  have h2:=Nat.mul_le_mul_right (2 ^ (32-Lib.bitLen n)) b2
  rw [e] at h2
  have h3:((n*2 ^ (32-Lib.bitLen n):Nat):Int)=(n:Int)*2 ^ (32-Lib.bitLen n):=by rw [Int.natCast_mul,Int.natCast_pow];rfl
  omega
 ·have e:2 ^ Lib.bitLen n*2 ^ (32-Lib.bitLen n)=4294967296:=by rw [← Nat.pow_add,show Lib.bitLen n+(32-Lib.bitLen n)=32 by omega]
  have h2:=Nat.mul_le_mul_right (2 ^ (32-Lib.bitLen n)) (show n+1≤2 ^ Lib.bitLen n from b1)
  rw [e] at h2
  have h3:(((n+1)*2 ^ (32-Lib.bitLen n):Nat):Int)=((n:Int)+1)*2 ^ (32-Lib.bitLen n):=by rw [Int.natCast_mul,Int.natCast_pow];rfl
  omega
theorem scaled {a b:Int} {s:Nat} (hb:0<b):a*2 ^ s/(b*2 ^ s)=a/b∧a*2 ^ s%(b*2 ^ s)/2 ^ s=a%b:=by
 have p0:(0:Int)<2 ^ s:=Int.pow_pos (by decide)
 have h1:=divmod_eq a b
 have h2:=Int.emod_nonneg a (show b≠0 by omega)
 have h3:=Int.emod_lt_of_pos a hb
 have h4:a*2 ^ s=(a/b)*(b*2 ^ s)+(a%b)*2 ^ s:=by
  conv=>lhs;rw [h1]
  rw [Int.add_mul,Int.mul_assoc]
 obtain ⟨e1,e2⟩:=divmod h4 (Int.mul_nonneg h2 (Int.le_of_lt p0)) (Int.mul_lt_mul_of_pos_right h3 p0)
 rw [e1,e2]
 exact ⟨rfl,Int.mul_ediv_cancel _ (by omega)⟩
theorem one_L {r:Int} (h0:0≤r) (h1:r<4294967296):tr [r]=L r:=by
 have hd:Dig [r]:=Dig.cons h0 h1 Dig.nil
 rw [tr_L hd]
 simp [val]
theorem norm_facts {b:Int} {m:Nat} (hb:0<b) (hl:(L b).length=m+2):0<rd (L b) ((m+1:Nat):Int)∧rd (L b) ((m+1:Nat):Int)<4294967296 ∧
 ∀ s:Nat,2147483648≤rd (L b) ((m+1:Nat):Int)*2 ^ s→(rd (L b) ((m+1:Nat):Int)+1)*2 ^ s≤4294967296→b*2 ^ s<4294967296 ^ (m+2)∧2147483648*4294967296 ^ (m+1)≤b*2 ^ s:=by
 have hi:=L_is (Int.le_of_lt hb)
 have hv:=hi.1.at ((m+1:Nat):Int)
 have hn:=nz_top hi.2.1 hl
 refine ⟨by omega,hv.2,fun s h1 h2=>?_⟩
 have ht:=val_top1 (l:=L b) (m:=m+1) hl
 rw [hi.2.2] at ht
 have lo:=val_nonneg (hi.1.take (m+1))
 have hi':=val_lt (hi.1.take (m+1))
 rw [List.length_take,Nat.min_eq_left (by omega)] at hi'
 have p0:(0:Int)<2 ^ s:=Int.pow_pos (by decide)
 have hP:=pw (m+1)
 have e2:(4294967296:Int) ^ (m+2)=4294967296 ^ (m+1)*4294967296:=Int.pow_succ ..
 generalize rd (L b) ((m+1:Nat):Int)=v at *
 generalize (4294967296:Int) ^ (m+1)=P at *
 have h3:=Int.mul_le_mul_of_nonneg_left h1 (Int.le_of_lt hP)
 have h4:=Int.mul_le_mul_of_nonneg_left h2 (Int.le_of_lt hP)
 have h5:P*v*2 ^ s≤b*2 ^ s:=Int.mul_le_mul_of_nonneg_right (by omega) (Int.le_of_lt p0)
 have h6:b*2 ^ s<(P*v+P)*2 ^ s:=Int.mul_lt_mul_of_pos_right (by omega) p0
 rw [Int.mul_assoc] at h5
 rw [Int.add_mul,Int.mul_assoc] at h6
 rw [Int.add_mul,Int.one_mul,Int.mul_add] at h4
 rw [e2]
 constructor <;> omega
theorem top_bit {d:List Int} {m:Nat} (hd:Dig d) (hl:d.length=m+2) (h:2147483648*4294967296 ^ (m+1)≤val d):2147483648≤rd d ((m+1:Nat):Int):=by
 have ht:=val_top1 (l:=d) (m:=m+1) hl
 have hi':=val_lt (hd.take (m+1))
 rw [List.length_take,Nat.min_eq_left (by omega)] at hi'
 have hP:=pw (m+1)
 have h2:2147483648*4294967296 ^ (m+1)<(rd d ((m+1:Nat):Int)+1)*4294967296 ^ (m+1):=by
  rw [Int.add_mul,Int.one_mul,Int.mul_comm (rd d ((m+1:Nat):Int))]
  omega
 have:=Int.lt_of_mul_lt_mul_right h2 (Int.le_of_lt hP)
 omega
theorem first_small {u:List Int} {m c:Nat} {b a:Int} {s:Nat} (hu:Dig u) (hs:s<32) (hlen:c+(m+2)=u.length) (hv:val u=a*2 ^ s) (ha:a<4294967296 ^ (c+m+1)) (hb:2147483648*4294967296 ^ (m+1)≤b):val (u.drop c)<b:=by
 obtain ⟨p0,p1,p2,p3⟩:=pow32 hs
 have h1:=val_take_drop u c (by omega)
 have h2:=val_nonneg (hu.take c)
 have h3:=val_nonneg (hu.drop c)
 have e1:(4294967296:Int) ^ (c+m+1)=4294967296 ^ c*4294967296 ^ (m+1):=by rw [← Int.pow_add];rfl
 have hP:=pw c
 have hQ:=pw (m+1)
 have h4:a*2 ^ s<4294967296 ^ c*4294967296 ^ (m+1)*2 ^ s:=by rw [← e1];exact Int.mul_lt_mul_of_pos_right ha p0
 have h5:(4294967296:Int) ^ c*val (u.drop c)<4294967296 ^ c*(4294967296 ^ (m+1)*2 ^ s):=by
  rw [← Int.mul_assoc];omega
 have h6:=Int.lt_of_mul_lt_mul_left h5 (Int.le_of_lt hP)
 have h7:=Int.mul_le_mul_of_nonneg_left p1 (Int.le_of_lt hQ)
 omega
theorem ndivide_ev {a b:Int} (ha:0≤a) (hb:0<b) (hla:(L a).length≤200000) (hlb:(L b).length≤200000):Ev (fun k=>natural_divide.f k (L a) (L b)) (L (a/b),L (a%b)):=by
 unfold natural_divide.f
 refine Ev.bind (compare_ev ha (Int.le_of_lt hb) (by omega) (by omega)) ?_
 by_cases hlt:a<b
 ·refine Ev.ite (sgn_lt.2 hlt) ?_
  rw [Int.ediv_eq_zero_of_lt ha hlt,Int.emod_eq_of_lt ha hlt,L_zero]
  exact Ev.now _
 ·refine Ev.ite_not (fun q=>hlt (sgn_lt.1 q)) ?_
  have hbl:(L b).length≠0:=fun e=>L_ne hb (List.eq_nil_of_length_eq_zero e)
  have hab:=L_mono (Int.le_of_lt hb) (show b≤a by omega)
  by_cases h1:(L b).length=1
  ·refine Ev.ite (by omega) (Ev.ite (by omega) ?_)
   obtain ⟨d,hd⟩:∃ d,L b=[d]:=by
    cases hL:L b with
    | nil=>rw [hL] at h1;simp at h1
    | cons x r=>
     rw [hL] at h1
     exact ⟨x,by rw [List.eq_nil_of_length_eq_zero (show r.length=0 by simpa using h1)]⟩
   have hdb:d=b:=by have:=L_val (Int.le_of_lt hb);rw [hd] at this;simpa [val] using this
   have hdd:=(L_dig (Int.le_of_lt hb)) d (by rw [hd];exact List.mem_cons_self)
   have hr:rd (L b) 0=b:=by rw [hd,← hdb];rfl
   rw [hr]
   have g:=divideSmall_ev (L a) (L_dig ha) (by omega) b hb (by omega)
   rw [L_val ha] at g
   refine Ev.bind g ?_
   have r0:=Int.emod_nonneg a (show b≠0 by omega)
   have r1:=Int.emod_lt_of_pos a hb
   refine Ev.bind (trim_ev _ (by simp)) ?_
   rw [one_L r0 (by omega)]
   exact Ev.now _
  ·obtain ⟨m,hm⟩:∃ m,(L b).length=m+2:=⟨(L b).length-2,by omega⟩
   refine Ev.ite_not (by omega) ?_
   obtain ⟨v0,v1,hnf⟩:=norm_facts hb hm
   obtain ⟨s,hs,hlead,hs1,hs2⟩:=lead v0 v1
   obtain ⟨n1,n2⟩:=hnf s hs1 hs2
   have w1:wrap64 (((L b).length:Int)-1)=((m+1:Nat):Int):=by rw [w64 (by omega) (by omega)];omega
   rw [w1]
   refine Ev.ite (by omega) (Ev.ite (by omega) ?_)
   rw [hlead]
   simp only [Option.bind_some]
   rw [wu (n:=(s:Int)) (by omega) (by omega)]
   obtain ⟨d,d1,d2,d3,d4⟩:=shift_ev (L b) (L_dig (Int.le_of_lt hb)) (by omega) s hs (L b).length (.inl rfl) (fun _=>by rw [L_val (Int.le_of_lt hb),hm];exact n1)
   obtain ⟨u,u1,u2,u3,u4⟩:=shift_ev (L a) (L_dig ha) (by omega) s hs ((L a).length+1) (.inr rfl) (fun e=>by omega)
   rw [L_val (Int.le_of_lt hb)] at d3
   rw [L_val ha] at u3
   refine Ev.bind d4 ?_
   rw [winc (by omega)]
   refine Ev.bind u4 ?_
   have hc:wrap64 (wrap64 (((L a).length:Int)-((L b).length:Int))+1)=(((L a).length-(L b).length+1:Nat):Int):=by
    rw [w64 (n:=((L a).length:Int)-((L b).length:Int)) (by omega) (by omega),w64 (by omega) (by omega)];omega
   rw [hc,Int.toNat_natCast]
   refine Ev.ite (by omega) (Ev.ite (by omega) ?_)
   have hdl:d.length=m+2:=by omega
   have hv:=top_bit d1 hdl (by rw [d3];exact n2)
   have ha2:=L_lt ha
   have hfs:=first_small (c:=(L a).length-(L b).length+1) (m:=m) (b:=val d) u1 hs (by omega) u3 (by rw [show (L a).length-(L b).length+1+m+1=(L a).length by omega];exact ha2) (by rw [d3];exact n2)
   have g:=divide_loop d1 hdl (by omega) hv (a*2 ^ s) s hs ((L a).length-(L b).length+1) u [] u1 Dig.nil (by rw [List.length_nil];omega) (by omega) hfs (by rw [u3];simp [val])
   obtain ⟨e1,e2⟩:=scaled (a:=a) (s:=s) hb
   rw [d3,e1,e2,List.append_nil] at g
   refine Ev.congr (fun k=>?_) g
   rw [List.length_replicate,hm,w64 (by omega) (by omega)]
def divOf (a b:ByteArray):ByteArray×ByteArray×Bool:=if B b=0 then (⟨#[]⟩,⟨#[]⟩,false) else (S (B a/B b),S (B a%B b),true)
theorem div_len {a b:Int} (ha:0≤a) (hb:0<b):0≤a/b∧(L (a/b)).length≤(L a).length∧0≤a%b∧(L (a%b)).length≤(L a).length∧a%b<b:=by
 have h1:=Int.ediv_nonneg ha (Int.le_of_lt hb)
 have h2:=Int.emod_nonneg a (show b≠0 by omega)
 have h3:=Int.ediv_le_self b ha
 have h4:=Int.emod_lt_of_pos a hb
 have h5:a%b≤a:=by
  have h6:=divmod_eq a b
  have:=Int.mul_nonneg h1 (Int.le_of_lt hb)
  omega
 exact ⟨h1,L_mono h1 h3,h2,L_mono h2 h5,h4⟩
theorem Divide_ev (a b:ByteArray) (ha:a.size≤800000) (hb:b.size≤800000):Ev (fun k=>natural_Divide.f k a b) (divOf a b):=by
 have h1:=B_nonneg a
 have h2:=B_nonneg b
 have l1:=B_small (s:=a) (m:=200000) (by omega)
 have l2:=B_small (s:=b) (m:=200000) (by omega)
 refine Ev.bind (parse_ev b (by omega)) ?_
 unfold divOf
 by_cases h:B b=0
 ·rw [if_pos h,h,L_zero]
  exact Ev.ite rfl (Ev.now _)
 ·rw [if_neg h]
  have hb0:0<B b:=by omega
  refine Ev.ite_not (fun e=>L_ne hb0 (List.eq_nil_of_length_eq_zero (by omega))) ?_
  refine Ev.bind (parse_ev a (by omega)) ?_
  refine Ev.bind (ndivide_ev h1 hb0 l1 l2) ?_
  obtain ⟨q1,q2,q3,q4,q5⟩:=div_len h1 hb0
  refine Ev.bind (text_L q1 (by omega)) ?_
  refine Ev.bind (text_L q3 (by omega)) ?_
  exact Ev.now _
theorem ngcd_loop (n:Nat):∀ a b:Nat,b≤n→(L (a:Int)).length≤200000→(L (b:Int)).length≤200000→Ev (fun k=>natural_GCD.l0 k (L (a:Int)) (L (b:Int))) (S ((Nat.gcd a b:Nat):Int)):=by
 induction n with
 | zero=>
  intro a b hn ha hb
  rw [show b=0 by omega,Nat.gcd_zero_right]
  refine Ev.step (f:=fun k=>(natural_limbs_text.f k (L (a:Int))).bind fun t=>some t) (fun k=>?_) (Ev.bind (text_L (by omega) (by omega)) (Ev.now _))
  simp only [natural_GCD.l0]
  rw [show ((0:Nat):Int)=0 from rfl,L_zero,if_neg (by simp)]
 | succ n ih=>
  intro a b hn ha hb
  by_cases h:b=0
  ·exact ih a b (by omega) ha hb
  ·have hb0:(0:Int)<(b:Int):=by omega
   have hm:=Nat.mod_lt a (show b>0 by omega)
   have hc:((a%b:Nat):Int)=(a:Int)%(b:Int):=Int.natCast_emod a b
   obtain ⟨q1,q2,q3,q4,q5⟩:=div_len (a:=(a:Int)) (by omega) hb0
   have ih:=ih b (a%b) (by omega) hb (by rw [hc];omega)
   rw [show Nat.gcd b (a%b)=Nat.gcd a b by rw [Nat.gcd_comm a b,Nat.gcd_rec b a,Nat.gcd_comm]] at ih
   have hne:(L (b:Int)).length≠0:=fun e=>L_ne hb0 (List.eq_nil_of_length_eq_zero e)
   rw [hc] at ih
   refine Ev.step (f:=fun k=>(natural_divide.f k (L (a:Int)) (L (b:Int))).bind fun bt=>natural_GCD.l0 k (L (b:Int)) bt.2) (fun k=>?_) (Ev.bind (ndivide_ev (by omega) hb0 ha hb) ih)
   simp only [natural_GCD.l0]
   rw [if_pos (by omega)]
def gcdOf (a b:ByteArray):ByteArray:=S ((Nat.gcd (B a).toNat (B b).toNat:Nat):Int)
theorem GCD_ev (a b:ByteArray) (ha:a.size≤800000) (hb:b.size≤800000):Ev (fun k=>natural_GCD.f k a b) (gcdOf a b):=by
 have h1:=B_nonneg a
 have h2:=B_nonneg b
 have l1:=B_small (s:=a) (m:=200000) (by omega)
 have l2:=B_small (s:=b) (m:=200000) (by omega)
 refine Ev.bind (parse_ev a (by omega)) ?_
 refine Ev.bind (parse_ev b (by omega)) ?_
 have g:=ngcd_loop (B b).toNat (B a).toNat (B b).toNat (Nat.le_refl _)
 rw [Int.toNat_of_nonneg h1,Int.toNat_of_nonneg h2] at g
 exact g l1 l2
end Go.Proofs.YtjaflmhdclmolaaDoor.Num
end
section
namespace Go.Proofs.YtjaflmhdclmolaaDoor.F
open Go.RowKit Go.Proofs.YtjaflmhdclmolaaDoorW.PrintWords Go.Proofs.YtjaflmhdclmolaaDoorW.PrintLast Go.Proofs.YtjaflmhdclmolaaDoorW.PrintMore
attribute [local go_sem] max2_int min2_int max_two min_two max_three min_three max_four min_four   
set_option linter.unusedVariables false
set_option linter.unusedSimpArgs false
def insolvencylaw1_NaturalDivision.f (k:Nat) (a0:ByteArray) (a1:ByteArray):Option (Bool):=(insolvencylaw1_few.f k (([a0,a1]:List ByteArray))).bind fun t443=>(if t443=true then ((natural_Divide.f k a0 a1).bind fun bt445=>((natural_Normalize.f a1).bind fun t448=>(if t448.toList=([]:List UInt8) then ((insolvencylaw1_awake.f k).bind fun t449=>(if t449=true then (if bt445.2.2=true then (some false) else (if bt445.1.toList=([]:List UInt8) then (some (bt445.2.1.toList == ([]:List UInt8))) else (some false))) else (some false))) else ((insolvencylaw1_awake.f k).bind fun t450=>(if t450=true then (if bt445.2.2=true then ((natural_Compare.f bt445.2.1 a1).bind fun t451=>(if t451<0 then ((natural_Multiply.f k bt445.1 a1).bind fun t452=>((natural_Add.f k t452 bt445.2.1).bind fun t453=>((natural_Normalize.f a0).bind fun t454=>(some (t453.toList == t454.toList))))) else (some false))) else (some false)) else (some false)))))) else ((insolvencylaw1_awake.f k).bind fun t444=>(some t444)))
theorem insolvencylaw1_NaturalDivision.mono:∀ a0 a1 k,LeO (insolvencylaw1_NaturalDivision.f k a0 a1) (insolvencylaw1_NaturalDivision.f (k+1) a0 a1):=by
 intro a0 a1 k
 unfold insolvencylaw1_NaturalDivision.f
 repeat' first
  | (with_reducible exact insolvencylaw1_awake.mono _)
  | (with_reducible exact insolvencylaw1_few.mono _ _)
  | (with_reducible exact natural_Add.mono _ _ _)
  | (with_reducible exact natural_Divide.mono _ _ _)
  | (with_reducible exact natural_Multiply.mono _ _ _)
  | (with_reducible exact LeO.refl _)
  | (with_reducible exact LeO.none _)
  | (with_reducible refine LeO.ite ?_ ?_)
  | (with_reducible refine LeO.bind ?_ (fun _=>?_))
  | exact insolvencylaw1_awake.mono _
  | exact insolvencylaw1_few.mono _ _
  | exact natural_Add.mono _ _ _
  | exact natural_Divide.mono _ _ _
  | exact natural_Multiply.mono _ _ _
  | exact LeO.none _
  | refine LeO.ite ?_ ?_
  | refine LeO.bind ?_ (fun _=>?_)
set_option maxHeartbeats 8000000 in
set_option maxRecDepth 100000 in
theorem insolvencylaw1_NaturalDivision.calls (k:Nat) (a0:ByteArray) (a1:ByteArray) (r:Bool) (w:World) (h:insolvencylaw1_NaturalDivision.f k a0 a1=some r) :
 Calls Tryd.prog 5 #[.string a0,.string a1] w fun e w'=>e = .returned (.bool r)∧Below w.heap.size w w':=by
 have HB:=Aside0.mk (Below.refl w.heap.size w)
 have H:((insolvencylaw1_few.f k (([a0,a1]:List ByteArray))).bind fun t443=>(if t443=true then ((natural_Divide.f k a0 a1).bind fun bt445=>((natural_Normalize.f a1).bind fun t448=>(if t448.toList=([]:List UInt8) then ((insolvencylaw1_awake.f k).bind fun t449=>(if t449=true then (if bt445.2.2=true then (some false) else (if bt445.1.toList=([]:List UInt8) then (some (bt445.2.1.toList == ([]:List UInt8))) else (some false))) else (some false))) else ((insolvencylaw1_awake.f k).bind fun t450=>(if t450=true then (if bt445.2.2=true then ((natural_Compare.f bt445.2.1 a1).bind fun t451=>(if t451<0 then ((natural_Multiply.f k bt445.1 a1).bind fun t452=>((natural_Add.f k t452 bt445.2.1).bind fun t453=>((natural_Normalize.f a0).bind fun t454=>(some (t453.toList == t454.toList))))) else (some false))) else (some false)) else (some false)))))) else ((insolvencylaw1_awake.f k).bind fun t444=>(some t444))))=some r:=h
 clear h
 obtain ⟨y440,hy440⟩:∃ y_:List ByteArray,y_=(([a0,a1]:List ByteArray)):=⟨_,rfl⟩
 replace H:((insolvencylaw1_few.f k y440).bind fun t443=>(if t443=true then ((natural_Divide.f k a0 a1).bind fun bt445=>((natural_Normalize.f a1).bind fun t448=>(if t448.toList=([]:List UInt8) then ((insolvencylaw1_awake.f k).bind fun t449=>(if t449=true then (if bt445.2.2=true then (some false) else (if bt445.1.toList=([]:List UInt8) then (some (bt445.2.1.toList == ([]:List UInt8))) else (some false))) else (some false))) else ((insolvencylaw1_awake.f k).bind fun t450=>(if t450=true then (if bt445.2.2=true then ((natural_Compare.f bt445.2.1 a1).bind fun t451=>(if t451<0 then ((natural_Multiply.f k bt445.1 a1).bind fun t452=>((natural_Add.f k t452 bt445.2.1).bind fun t453=>((natural_Normalize.f a0).bind fun t454=>(some (t453.toList == t454.toList))))) else (some false))) else (some false)) else (some false)))))) else ((insolvencylaw1_awake.f k).bind fun t444=>(some t444))))=some r:=by first|(rw [hy440];with_reducible exact H)|(have H2_:=(Option.bind_some _ _).symm.trans H;rw [hy440];with_reducible exact H2_)|(have H2_:=(Option.bind_some _ _).symm.trans H;with_reducible exact H2_)|with_reducible exact H|(rw [hy440];exact H)|exact H
 have Ny440:=Aside0.mk hy440
 clear hy440
 replace H:=Option.bind_eq_some_iff.mp H
 obtain ⟨t443,A30,H⟩:=H
 replace H:(if t443=true then ((natural_Divide.f k a0 a1).bind fun bt445=>((natural_Normalize.f a1).bind fun t448=>(if t448.toList=([]:List UInt8) then ((insolvencylaw1_awake.f k).bind fun t449=>(if t449=true then (if bt445.2.2=true then (some false) else (if bt445.1.toList=([]:List UInt8) then (some (bt445.2.1.toList == ([]:List UInt8))) else (some false))) else (some false))) else ((insolvencylaw1_awake.f k).bind fun t450=>(if t450=true then (if bt445.2.2=true then ((natural_Compare.f bt445.2.1 a1).bind fun t451=>(if t451<0 then ((natural_Multiply.f k bt445.1 a1).bind fun t452=>((natural_Add.f k t452 bt445.2.1).bind fun t453=>((natural_Normalize.f a0).bind fun t454=>(some (t453.toList == t454.toList))))) else (some false))) else (some false)) else (some false)))))) else ((insolvencylaw1_awake.f k).bind fun t444=>(some t444)))=some r:=H
 have A3:=Aside0.mk A30
 clear A30
 by_cases c4:t443=true
 ·subst c4
  have H1:((natural_Divide.f k a0 a1).bind fun bt445=>((natural_Normalize.f a1).bind fun t448=>(if t448.toList=([]:List UInt8) then ((insolvencylaw1_awake.f k).bind fun t449=>(if t449=true then (if bt445.2.2=true then (some false) else (if bt445.1.toList=([]:List UInt8) then (some (bt445.2.1.toList == ([]:List UInt8))) else (some false))) else (some false))) else ((insolvencylaw1_awake.f k).bind fun t450=>(if t450=true then (if bt445.2.2=true then ((natural_Compare.f bt445.2.1 a1).bind fun t451=>(if t451<0 then ((natural_Multiply.f k bt445.1 a1).bind fun t452=>((natural_Add.f k t452 bt445.2.1).bind fun t453=>((natural_Normalize.f a0).bind fun t454=>(some (t453.toList == t454.toList))))) else (some false))) else (some false)) else (some false))))))=some r:=by rw [if_pos rfl] at H;exact H
  clear H
  have H:=H1
  clear H1
  replace H:=Option.bind_eq_some_iff.mp H
  obtain ⟨⟨t445,t446,t447⟩,A50,H⟩:=H
  replace H:((natural_Normalize.f a1).bind fun t448=>(if t448.toList=([]:List UInt8) then ((insolvencylaw1_awake.f k).bind fun t449=>(if t449=true then (if t447=true then (some false) else (if t445.toList=([]:List UInt8) then (some (t446.toList == ([]:List UInt8))) else (some false))) else (some false))) else ((insolvencylaw1_awake.f k).bind fun t450=>(if t450=true then (if t447=true then ((natural_Compare.f t446 a1).bind fun t451=>(if t451<0 then ((natural_Multiply.f k t445 a1).bind fun t452=>((natural_Add.f k t452 t446).bind fun t453=>((natural_Normalize.f a0).bind fun t454=>(some (t453.toList == t454.toList))))) else (some false))) else (some false)) else (some false)))))=some r:=H
  have A5:=Aside0.mk A50
  clear A50
  replace H:=Option.bind_eq_some_iff.mp H
  obtain ⟨t448,A60,H⟩:=H
  replace H:(if t448.toList=([]:List UInt8) then ((insolvencylaw1_awake.f k).bind fun t449=>(if t449=true then (if t447=true then (some false) else (if t445.toList=([]:List UInt8) then (some (t446.toList == ([]:List UInt8))) else (some false))) else (some false))) else ((insolvencylaw1_awake.f k).bind fun t450=>(if t450=true then (if t447=true then ((natural_Compare.f t446 a1).bind fun t451=>(if t451<0 then ((natural_Multiply.f k t445 a1).bind fun t452=>((natural_Add.f k t452 t446).bind fun t453=>((natural_Normalize.f a0).bind fun t454=>(some (t453.toList == t454.toList))))) else (some false))) else (some false)) else (some false))))=some r:=H
  have A6:=Aside0.mk A60
  clear A60
  by_cases c7:t448.toList=([]:List UInt8)
  ·rw [if_pos c7] at H
   have c7b0:(t448.toList == ([]:List UInt8))=true:=beq_iff_eq.mpr c7
   have c7b1:(t448.toList != ([]:List UInt8))=false:=bne_eq_false_iff_eq.mpr c7
   clear c7
   replace H:=Option.bind_eq_some_iff.mp H
   obtain ⟨t449,A80,H⟩:=H
   replace H:(if t449=true then (if t447=true then (some false) else (if t445.toList=([]:List UInt8) then (some (t446.toList == ([]:List UInt8))) else (some false))) else (some false))=some r:=H
   have A8:=Aside0.mk A80
   clear A80
   by_cases c9:t449=true
   ·subst c9
    have H1:(if t447=true then (some false) else (if t445.toList=([]:List UInt8) then (some (t446.toList == ([]:List UInt8))) else (some false)))=some r:=by rw [if_pos rfl] at H;exact H
    clear H
    have H:=H1
    clear H1
    by_cases c10:t447=true
    ·subst c10
     have H1:(some false)=some r:=by rw [if_pos rfl] at H;exact H
     clear H
     have H:=H1
     clear H1
     obtain rfl:=Option.some.inj H
     go_enter Tryd.func5,Tryd.ntmps5
     go_wp2_with (first|((with_reducible refine gate_dst (N:=10) rfl ?_);refine Kd.R_lit Kd.string _ 9 ?hg (N:=10) ?hd (xs:=([a0,a1]:List ByteArray)) (inner:=[.string a0,.string a1]) (ok:=fun _=>True) (okp:=fun _=>True) ?hr ?hp (fun _ hk=>hk) trivial (Below.refl _ _) (Nat.le_refl _) (by simp) ?_;(case hd=>rfl);(case hg=>rfl);(case hr=>first|(go_simp;done)|(go_simp;rfl));(case hp=>exact (Reps.one (show Kd.M Kd.string _ _ _ a0 [.string a0] from rfl) (Reps.one (show Kd.M Kd.string _ _ _ a1 [.string a1] from rfl) (Reps.none _ _))));intro v441 w11 ho12 hb hg_ hnew_;clear hg_ hnew_;(first|rw [← Ny440.out] at ho12|(simp only [Int.reduceToNat] at ho12;rw [← Ny440.out] at ho12));have n0_:=Aside0.mk (Kd.R_lower ho12 (below_size (by repeat (first|(with_reducible first|exact HB.out|apply below_alloc|apply pw_below_drewN|apply below_drew1)|exact HB.out))));have n1_:=Aside0.mk (below_step (by repeat (first|(with_reducible first|exact HB.out|apply below_alloc|apply pw_below_drewN|apply below_drew1)|exact HB.out)) hb);clear HB;have HO442:=n0_;have HB:=n1_;clear n0_ n1_;clear hb ho12;obtain ⟨Ao13,co13,eo13⟩:=Kd.R_slice HO442.out;subst eo13)|((with_reducible refine gate_callee (f:=20) rfl ?_);refine goesL_ (some 11) rfl rfl Tryd.func20 (by kernel_rfl) rfl #[.slice Ao13 y440.length co13] rfl (by (try simp only [List.map_toArray,List.map_cons,List.map_nil]);first|done|rfl|(simp only [List.length_drop,List.length_take];rfl)) ?_;(with_reducible refine (insolvencylaw1_few.calls k _ _ y440 true _ ?side1 ?side2 A3.out).mono ?_);(case side1=>repeat (first|exact (Kd.R_reads' HO442.out).2.2|(with_reducible refine Kd.C_alloc ?_ _)|(with_reducible refine Kd.C_drewN ?_ _)|(with_reducible refine Kd.C_drew ?_)));(case side2=>exact (Kd.R_reads' HO442.out).2.1);rintro e w' ⟨rfl,⟨nd,rfl⟩⟩;refine ⟨_,rfl,?_⟩)|((with_reducible refine gate_callee (f:=21) rfl ?_);refine goesL_ (some 17) rfl rfl Tryd.func21 (by kernel_rfl) rfl #[.string a0,.string a1] rfl (by (try simp only [List.map_toArray,List.map_cons,List.map_nil]);first|done|rfl|(simp only [List.length_drop,List.length_take];rfl)) ?_;(with_reducible refine (natural_Divide.calls k a0 a1 t445 t446 true _ A5.out).mono ?_);rintro e w14 ⟨rfl,hb⟩;refine ⟨_,rfl,?_⟩;have n0_:=Aside0.mk (Kd.R_below (by (with_reducible repeat (first|apply Kd.R_alloc|apply Kd.R_drewN|apply Kd.R_drew));exact HO442.out) hb);have n1_:=Aside0.mk (below_step (by repeat (first|(with_reducible first|exact HB.out|apply below_alloc|apply pw_below_drewN|apply below_drew1)|exact HB.out)) hb);clear HO442;clear HB;have HO442:=n0_;have HB:=n1_;clear n0_ n1_;(try clear hb);(try clear hb2);(try clear hk);(try clear hi))|((with_reducible refine gate_callee (f:=18) rfl ?_);refine goesL_ (some 22) rfl rfl Tryd.func18 (by kernel_rfl) rfl #[.string a1] rfl (by (try simp only [List.map_toArray,List.map_cons,List.map_nil]);first|done|rfl|(simp only [List.length_drop,List.length_take];rfl)) ?_;(with_reducible refine (natural_Normalize.calls a1 t448 _ A6.out).mono ?_);rintro e w' ⟨rfl,⟨nd,rfl⟩⟩;refine ⟨_,rfl,?_⟩)|((with_reducible refine gate_callee (f:=17) rfl ?_);refine goesL_ (some 24) rfl rfl Tryd.func17 (by kernel_rfl) rfl #[] rfl (by (try simp only [List.map_toArray,List.map_cons,List.map_nil]);first|done|rfl|(simp only [List.length_drop,List.length_take];rfl)) ?_;(with_reducible refine (insolvencylaw1_awake.calls k  true _ A8.out).mono ?_);rintro e w15 ⟨rfl,hb⟩;refine ⟨_,rfl,?_⟩;have n0_:=Aside0.mk (Kd.R_below (by (with_reducible repeat (first|apply Kd.R_alloc|apply Kd.R_drewN|apply Kd.R_drew));exact HO442.out) hb);have n1_:=Aside0.mk (below_step (by repeat (first|(with_reducible first|exact HB.out|apply below_alloc|apply pw_below_drewN|apply below_drew1)|exact HB.out)) hb);clear HO442;clear HB;have HO442:=n0_;have HB:=n1_;clear n0_ n1_;(try clear hb);(try clear hb2);(try clear hk);(try clear hi)))
     go_ret
     exact ⟨by first|rfl|(simp [errW_none,errW_some] <;> rfl)|(simp [*,errW_none,errW_some] <;> rfl),by repeat (first|(with_reducible first|exact HB.out|apply below_alloc|apply pw_below_drewN|apply below_drew1)|exact HB.out)⟩
    ·replace c10:=Bool.eq_false_iff.mpr c10
     subst c10
     have H1:(if t445.toList=([]:List UInt8) then (some (t446.toList == ([]:List UInt8))) else (some false))=some r:=by rw [if_neg (show ¬ (false=true) by decide)] at H;exact H
     clear H
     have H:=H1
     clear H1
     by_cases c16:t445.toList=([]:List UInt8)
     ·rw [if_pos c16] at H
      have c16b0:(t445.toList == ([]:List UInt8))=true:=beq_iff_eq.mpr c16
      have c16b1:(t445.toList != ([]:List UInt8))=false:=bne_eq_false_iff_eq.mpr c16
      clear c16
      obtain rfl:=Option.some.inj H
      go_enter Tryd.func5,Tryd.ntmps5
      go_wp2_with (first|((with_reducible refine gate_dst (N:=10) rfl ?_);refine Kd.R_lit Kd.string _ 9 ?hg (N:=10) ?hd (xs:=([a0,a1]:List ByteArray)) (inner:=[.string a0,.string a1]) (ok:=fun _=>True) (okp:=fun _=>True) ?hr ?hp (fun _ hk=>hk) trivial (Below.refl _ _) (Nat.le_refl _) (by simp) ?_;(case hd=>rfl);(case hg=>rfl);(case hr=>first|(go_simp;done)|(go_simp;rfl));(case hp=>exact (Reps.one (show Kd.M Kd.string _ _ _ a0 [.string a0] from rfl) (Reps.one (show Kd.M Kd.string _ _ _ a1 [.string a1] from rfl) (Reps.none _ _))));intro v441 w17 ho18 hb hg_ hnew_;clear hg_ hnew_;(first|rw [← Ny440.out] at ho18|(simp only [Int.reduceToNat] at ho18;rw [← Ny440.out] at ho18));have n0_:=Aside0.mk (Kd.R_lower ho18 (below_size (by repeat (first|(with_reducible first|exact HB.out|apply below_alloc|apply pw_below_drewN|apply below_drew1)|exact HB.out))));have n1_:=Aside0.mk (below_step (by repeat (first|(with_reducible first|exact HB.out|apply below_alloc|apply pw_below_drewN|apply below_drew1)|exact HB.out)) hb);clear HB;have HO442:=n0_;have HB:=n1_;clear n0_ n1_;clear hb ho18;obtain ⟨Ao19,co19,eo19⟩:=Kd.R_slice HO442.out;subst eo19)|((with_reducible refine gate_callee (f:=20) rfl ?_);refine goesL_ (some 11) rfl rfl Tryd.func20 (by kernel_rfl) rfl #[.slice Ao19 y440.length co19] rfl (by (try simp only [List.map_toArray,List.map_cons,List.map_nil]);first|done|rfl|(simp only [List.length_drop,List.length_take];rfl)) ?_;(with_reducible refine (insolvencylaw1_few.calls k _ _ y440 true _ ?side1 ?side2 A3.out).mono ?_);(case side1=>repeat (first|exact (Kd.R_reads' HO442.out).2.2|(with_reducible refine Kd.C_alloc ?_ _)|(with_reducible refine Kd.C_drewN ?_ _)|(with_reducible refine Kd.C_drew ?_)));(case side2=>exact (Kd.R_reads' HO442.out).2.1);rintro e w' ⟨rfl,⟨nd,rfl⟩⟩;refine ⟨_,rfl,?_⟩)|((with_reducible refine gate_callee (f:=21) rfl ?_);refine goesL_ (some 17) rfl rfl Tryd.func21 (by kernel_rfl) rfl #[.string a0,.string a1] rfl (by (try simp only [List.map_toArray,List.map_cons,List.map_nil]);first|done|rfl|(simp only [List.length_drop,List.length_take];rfl)) ?_;(with_reducible refine (natural_Divide.calls k a0 a1 t445 t446 false _ A5.out).mono ?_);rintro e w20 ⟨rfl,hb⟩;refine ⟨_,rfl,?_⟩;have n0_:=Aside0.mk (Kd.R_below (by (with_reducible repeat (first|apply Kd.R_alloc|apply Kd.R_drewN|apply Kd.R_drew));exact HO442.out) hb);have n1_:=Aside0.mk (below_step (by repeat (first|(with_reducible first|exact HB.out|apply below_alloc|apply pw_below_drewN|apply below_drew1)|exact HB.out)) hb);clear HO442;clear HB;have HO442:=n0_;have HB:=n1_;clear n0_ n1_;(try clear hb);(try clear hb2);(try clear hk);(try clear hi))|((with_reducible refine gate_callee (f:=18) rfl ?_);refine goesL_ (some 22) rfl rfl Tryd.func18 (by kernel_rfl) rfl #[.string a1] rfl (by (try simp only [List.map_toArray,List.map_cons,List.map_nil]);first|done|rfl|(simp only [List.length_drop,List.length_take];rfl)) ?_;(with_reducible refine (natural_Normalize.calls a1 t448 _ A6.out).mono ?_);rintro e w' ⟨rfl,⟨nd,rfl⟩⟩;refine ⟨_,rfl,?_⟩)|((with_reducible refine gate_callee (f:=17) rfl ?_);refine goesL_ (some 24) rfl rfl Tryd.func17 (by kernel_rfl) rfl #[] rfl (by (try simp only [List.map_toArray,List.map_cons,List.map_nil]);first|done|rfl|(simp only [List.length_drop,List.length_take];rfl)) ?_;(with_reducible refine (insolvencylaw1_awake.calls k  true _ A8.out).mono ?_);rintro e w21 ⟨rfl,hb⟩;refine ⟨_,rfl,?_⟩;have n0_:=Aside0.mk (Kd.R_below (by (with_reducible repeat (first|apply Kd.R_alloc|apply Kd.R_drewN|apply Kd.R_drew));exact HO442.out) hb);have n1_:=Aside0.mk (below_step (by repeat (first|(with_reducible first|exact HB.out|apply below_alloc|apply pw_below_drewN|apply below_drew1)|exact HB.out)) hb);clear HO442;clear HB;have HO442:=n0_;have HB:=n1_;clear n0_ n1_;(try clear hb);(try clear hb2);(try clear hk);(try clear hi)))
      go_ret
      exact ⟨by first|rfl|(simp [errW_none,errW_some] <;> rfl)|(simp [*,errW_none,errW_some] <;> rfl),by repeat (first|(with_reducible first|exact HB.out|apply below_alloc|apply pw_below_drewN|apply below_drew1)|exact HB.out)⟩
     ·rw [if_neg c16] at H
      have c16b0:(t445.toList == ([]:List UInt8))=false:=beq_eq_false_iff_ne.mpr c16
      have c16b1:(t445.toList != ([]:List UInt8))=true:=bne_iff_ne.mpr c16
      obtain rfl:=Option.some.inj H
      go_enter Tryd.func5,Tryd.ntmps5
      go_wp2_with (first|((with_reducible refine gate_dst (N:=10) rfl ?_);refine Kd.R_lit Kd.string _ 9 ?hg (N:=10) ?hd (xs:=([a0,a1]:List ByteArray)) (inner:=[.string a0,.string a1]) (ok:=fun _=>True) (okp:=fun _=>True) ?hr ?hp (fun _ hk=>hk) trivial (Below.refl _ _) (Nat.le_refl _) (by simp) ?_;(case hd=>rfl);(case hg=>rfl);(case hr=>first|(go_simp;done)|(go_simp;rfl));(case hp=>exact (Reps.one (show Kd.M Kd.string _ _ _ a0 [.string a0] from rfl) (Reps.one (show Kd.M Kd.string _ _ _ a1 [.string a1] from rfl) (Reps.none _ _))));intro v441 w22 ho23 hb hg_ hnew_;clear hg_ hnew_;(first|rw [← Ny440.out] at ho23|(simp only [Int.reduceToNat] at ho23;rw [← Ny440.out] at ho23));have n0_:=Aside0.mk (Kd.R_lower ho23 (below_size (by repeat (first|(with_reducible first|exact HB.out|apply below_alloc|apply pw_below_drewN|apply below_drew1)|exact HB.out))));have n1_:=Aside0.mk (below_step (by repeat (first|(with_reducible first|exact HB.out|apply below_alloc|apply pw_below_drewN|apply below_drew1)|exact HB.out)) hb);clear HB;have HO442:=n0_;have HB:=n1_;clear n0_ n1_;clear hb ho23;obtain ⟨Ao24,co24,eo24⟩:=Kd.R_slice HO442.out;subst eo24)|((with_reducible refine gate_callee (f:=20) rfl ?_);refine goesL_ (some 11) rfl rfl Tryd.func20 (by kernel_rfl) rfl #[.slice Ao24 y440.length co24] rfl (by (try simp only [List.map_toArray,List.map_cons,List.map_nil]);first|done|rfl|(simp only [List.length_drop,List.length_take];rfl)) ?_;(with_reducible refine (insolvencylaw1_few.calls k _ _ y440 true _ ?side1 ?side2 A3.out).mono ?_);(case side1=>repeat (first|exact (Kd.R_reads' HO442.out).2.2|(with_reducible refine Kd.C_alloc ?_ _)|(with_reducible refine Kd.C_drewN ?_ _)|(with_reducible refine Kd.C_drew ?_)));(case side2=>exact (Kd.R_reads' HO442.out).2.1);rintro e w' ⟨rfl,⟨nd,rfl⟩⟩;refine ⟨_,rfl,?_⟩)|((with_reducible refine gate_callee (f:=21) rfl ?_);refine goesL_ (some 17) rfl rfl Tryd.func21 (by kernel_rfl) rfl #[.string a0,.string a1] rfl (by (try simp only [List.map_toArray,List.map_cons,List.map_nil]);first|done|rfl|(simp only [List.length_drop,List.length_take];rfl)) ?_;(with_reducible refine (natural_Divide.calls k a0 a1 t445 t446 false _ A5.out).mono ?_);rintro e w25 ⟨rfl,hb⟩;refine ⟨_,rfl,?_⟩;have n0_:=Aside0.mk (Kd.R_below (by (with_reducible repeat (first|apply Kd.R_alloc|apply Kd.R_drewN|apply Kd.R_drew));exact HO442.out) hb);have n1_:=Aside0.mk (below_step (by repeat (first|(with_reducible first|exact HB.out|apply below_alloc|apply pw_below_drewN|apply below_drew1)|exact HB.out)) hb);clear HO442;clear HB;have HO442:=n0_;have HB:=n1_;clear n0_ n1_;(try clear hb);(try clear hb2);(try clear hk);(try clear hi))|((with_reducible refine gate_callee (f:=18) rfl ?_);refine goesL_ (some 22) rfl rfl Tryd.func18 (by kernel_rfl) rfl #[.string a1] rfl (by (try simp only [List.map_toArray,List.map_cons,List.map_nil]);first|done|rfl|(simp only [List.length_drop,List.length_take];rfl)) ?_;(with_reducible refine (natural_Normalize.calls a1 t448 _ A6.out).mono ?_);rintro e w' ⟨rfl,⟨nd,rfl⟩⟩;refine ⟨_,rfl,?_⟩)|((with_reducible refine gate_callee (f:=17) rfl ?_);refine goesL_ (some 24) rfl rfl Tryd.func17 (by kernel_rfl) rfl #[] rfl (by (try simp only [List.map_toArray,List.map_cons,List.map_nil]);first|done|rfl|(simp only [List.length_drop,List.length_take];rfl)) ?_;(with_reducible refine (insolvencylaw1_awake.calls k  true _ A8.out).mono ?_);rintro e w26 ⟨rfl,hb⟩;refine ⟨_,rfl,?_⟩;have n0_:=Aside0.mk (Kd.R_below (by (with_reducible repeat (first|apply Kd.R_alloc|apply Kd.R_drewN|apply Kd.R_drew));exact HO442.out) hb);have n1_:=Aside0.mk (below_step (by repeat (first|(with_reducible first|exact HB.out|apply below_alloc|apply pw_below_drewN|apply below_drew1)|exact HB.out)) hb);clear HO442;clear HB;have HO442:=n0_;have HB:=n1_;clear n0_ n1_;(try clear hb);(try clear hb2);(try clear hk);(try clear hi)))
      go_ret
      exact ⟨by first|rfl|(simp [errW_none,errW_some] <;> rfl)|(simp [*,errW_none,errW_some] <;> rfl),by repeat (first|(with_reducible first|exact HB.out|apply below_alloc|apply pw_below_drewN|apply below_drew1)|exact HB.out)⟩
   ·replace c9:=Bool.eq_false_iff.mpr c9
    subst c9
    have H1:(some false)=some r:=by rw [if_neg (show ¬ (false=true) by decide)] at H;exact H
    clear H
    have H:=H1
    clear H1
    obtain rfl:=Option.some.inj H
    go_enter Tryd.func5,Tryd.ntmps5
    go_wp2_with (first|((with_reducible refine gate_dst (N:=10) rfl ?_);refine Kd.R_lit Kd.string _ 9 ?hg (N:=10) ?hd (xs:=([a0,a1]:List ByteArray)) (inner:=[.string a0,.string a1]) (ok:=fun _=>True) (okp:=fun _=>True) ?hr ?hp (fun _ hk=>hk) trivial (Below.refl _ _) (Nat.le_refl _) (by simp) ?_;(case hd=>rfl);(case hg=>rfl);(case hr=>first|(go_simp;done)|(go_simp;rfl));(case hp=>exact (Reps.one (show Kd.M Kd.string _ _ _ a0 [.string a0] from rfl) (Reps.one (show Kd.M Kd.string _ _ _ a1 [.string a1] from rfl) (Reps.none _ _))));intro v441 w27 ho28 hb hg_ hnew_;clear hg_ hnew_;(first|rw [← Ny440.out] at ho28|(simp only [Int.reduceToNat] at ho28;rw [← Ny440.out] at ho28));have n0_:=Aside0.mk (Kd.R_lower ho28 (below_size (by repeat (first|(with_reducible first|exact HB.out|apply below_alloc|apply pw_below_drewN|apply below_drew1)|exact HB.out))));have n1_:=Aside0.mk (below_step (by repeat (first|(with_reducible first|exact HB.out|apply below_alloc|apply pw_below_drewN|apply below_drew1)|exact HB.out)) hb);clear HB;have HO442:=n0_;have HB:=n1_;clear n0_ n1_;clear hb ho28;obtain ⟨Ao29,co29,eo29⟩:=Kd.R_slice HO442.out;subst eo29)|((with_reducible refine gate_callee (f:=20) rfl ?_);refine goesL_ (some 11) rfl rfl Tryd.func20 (by kernel_rfl) rfl #[.slice Ao29 y440.length co29] rfl (by (try simp only [List.map_toArray,List.map_cons,List.map_nil]);first|done|rfl|(simp only [List.length_drop,List.length_take];rfl)) ?_;(with_reducible refine (insolvencylaw1_few.calls k _ _ y440 true _ ?side1 ?side2 A3.out).mono ?_);(case side1=>repeat (first|exact (Kd.R_reads' HO442.out).2.2|(with_reducible refine Kd.C_alloc ?_ _)|(with_reducible refine Kd.C_drewN ?_ _)|(with_reducible refine Kd.C_drew ?_)));(case side2=>exact (Kd.R_reads' HO442.out).2.1);rintro e w' ⟨rfl,⟨nd,rfl⟩⟩;refine ⟨_,rfl,?_⟩)|((with_reducible refine gate_callee (f:=21) rfl ?_);refine goesL_ (some 17) rfl rfl Tryd.func21 (by kernel_rfl) rfl #[.string a0,.string a1] rfl (by (try simp only [List.map_toArray,List.map_cons,List.map_nil]);first|done|rfl|(simp only [List.length_drop,List.length_take];rfl)) ?_;(with_reducible refine (natural_Divide.calls k a0 a1 t445 t446 t447 _ A5.out).mono ?_);rintro e w30 ⟨rfl,hb⟩;refine ⟨_,rfl,?_⟩;have n0_:=Aside0.mk (Kd.R_below (by (with_reducible repeat (first|apply Kd.R_alloc|apply Kd.R_drewN|apply Kd.R_drew));exact HO442.out) hb);have n1_:=Aside0.mk (below_step (by repeat (first|(with_reducible first|exact HB.out|apply below_alloc|apply pw_below_drewN|apply below_drew1)|exact HB.out)) hb);clear HO442;clear HB;have HO442:=n0_;have HB:=n1_;clear n0_ n1_;(try clear hb);(try clear hb2);(try clear hk);(try clear hi))|((with_reducible refine gate_callee (f:=18) rfl ?_);refine goesL_ (some 22) rfl rfl Tryd.func18 (by kernel_rfl) rfl #[.string a1] rfl (by (try simp only [List.map_toArray,List.map_cons,List.map_nil]);first|done|rfl|(simp only [List.length_drop,List.length_take];rfl)) ?_;(with_reducible refine (natural_Normalize.calls a1 t448 _ A6.out).mono ?_);rintro e w' ⟨rfl,⟨nd,rfl⟩⟩;refine ⟨_,rfl,?_⟩)|((with_reducible refine gate_callee (f:=17) rfl ?_);refine goesL_ (some 24) rfl rfl Tryd.func17 (by kernel_rfl) rfl #[] rfl (by (try simp only [List.map_toArray,List.map_cons,List.map_nil]);first|done|rfl|(simp only [List.length_drop,List.length_take];rfl)) ?_;(with_reducible refine (insolvencylaw1_awake.calls k  false _ A8.out).mono ?_);rintro e w31 ⟨rfl,hb⟩;refine ⟨_,rfl,?_⟩;have n0_:=Aside0.mk (Kd.R_below (by (with_reducible repeat (first|apply Kd.R_alloc|apply Kd.R_drewN|apply Kd.R_drew));exact HO442.out) hb);have n1_:=Aside0.mk (below_step (by repeat (first|(with_reducible first|exact HB.out|apply below_alloc|apply pw_below_drewN|apply below_drew1)|exact HB.out)) hb);clear HO442;clear HB;have HO442:=n0_;have HB:=n1_;clear n0_ n1_;(try clear hb);(try clear hb2);(try clear hk);(try clear hi)))
    go_ret
    exact ⟨by first|rfl|(simp [errW_none,errW_some] <;> rfl)|(simp [*,errW_none,errW_some] <;> rfl),by repeat (first|(with_reducible first|exact HB.out|apply below_alloc|apply pw_below_drewN|apply below_drew1)|exact HB.out)⟩
  ·rw [if_neg c7] at H
   have c7b0:(t448.toList == ([]:List UInt8))=false:=beq_eq_false_iff_ne.mpr c7
   have c7b1:(t448.toList != ([]:List UInt8))=true:=bne_iff_ne.mpr c7
   replace H:=Option.bind_eq_some_iff.mp H
   obtain ⟨t450,A320,H⟩:=H
   replace H:(if t450=true then (if t447=true then ((natural_Compare.f t446 a1).bind fun t451=>(if t451<0 then ((natural_Multiply.f k t445 a1).bind fun t452=>((natural_Add.f k t452 t446).bind fun t453=>((natural_Normalize.f a0).bind fun t454=>(some (t453.toList == t454.toList))))) else (some false))) else (some false)) else (some false))=some r:=H
   have A32:=Aside0.mk A320
   clear A320
   by_cases c33:t450=true
   ·subst c33
    have H1:(if t447=true then ((natural_Compare.f t446 a1).bind fun t451=>(if t451<0 then ((natural_Multiply.f k t445 a1).bind fun t452=>((natural_Add.f k t452 t446).bind fun t453=>((natural_Normalize.f a0).bind fun t454=>(some (t453.toList == t454.toList))))) else (some false))) else (some false))=some r:=by rw [if_pos rfl] at H;exact H
    clear H
    have H:=H1
    clear H1
    by_cases c34:t447=true
    ·subst c34
     have H1:((natural_Compare.f t446 a1).bind fun t451=>(if t451<0 then ((natural_Multiply.f k t445 a1).bind fun t452=>((natural_Add.f k t452 t446).bind fun t453=>((natural_Normalize.f a0).bind fun t454=>(some (t453.toList == t454.toList))))) else (some false)))=some r:=by rw [if_pos rfl] at H;exact H
     clear H
     have H:=H1
     clear H1
     replace H:=Option.bind_eq_some_iff.mp H
     obtain ⟨t451,A350,H⟩:=H
     replace H:(if t451<0 then ((natural_Multiply.f k t445 a1).bind fun t452=>((natural_Add.f k t452 t446).bind fun t453=>((natural_Normalize.f a0).bind fun t454=>(some (t453.toList == t454.toList))))) else (some false))=some r:=H
     have A35:=Aside0.mk A350
     clear A350
     by_cases c36:t451<0
     ·rw [if_pos c36] at H
      have c36b0:decide (t451<0)=true:=decide_eq_true c36
      clear c36
      replace H:=Option.bind_eq_some_iff.mp H
      obtain ⟨t452,A370,H⟩:=H
      replace H:((natural_Add.f k t452 t446).bind fun t453=>((natural_Normalize.f a0).bind fun t454=>(some (t453.toList == t454.toList))))=some r:=H
      have A37:=Aside0.mk A370
      clear A370
      replace H:=Option.bind_eq_some_iff.mp H
      obtain ⟨t453,A380,H⟩:=H
      replace H:((natural_Normalize.f a0).bind fun t454=>(some (t453.toList == t454.toList)))=some r:=H
      have A38:=Aside0.mk A380
      clear A380
      replace H:=Option.bind_eq_some_iff.mp H
      obtain ⟨t454,A390,H⟩:=H
      replace H:(some (t453.toList == t454.toList))=some r:=H
      have A39:=Aside0.mk A390
      clear A390
      obtain rfl:=Option.some.inj H
      go_enter Tryd.func5,Tryd.ntmps5
      go_wp2_with (first|((with_reducible refine gate_dst (N:=10) rfl ?_);refine Kd.R_lit Kd.string _ 9 ?hg (N:=10) ?hd (xs:=([a0,a1]:List ByteArray)) (inner:=[.string a0,.string a1]) (ok:=fun _=>True) (okp:=fun _=>True) ?hr ?hp (fun _ hk=>hk) trivial (Below.refl _ _) (Nat.le_refl _) (by simp) ?_;(case hd=>rfl);(case hg=>rfl);(case hr=>first|(go_simp;done)|(go_simp;rfl));(case hp=>exact (Reps.one (show Kd.M Kd.string _ _ _ a0 [.string a0] from rfl) (Reps.one (show Kd.M Kd.string _ _ _ a1 [.string a1] from rfl) (Reps.none _ _))));intro v441 w40 ho41 hb hg_ hnew_;clear hg_ hnew_;(first|rw [← Ny440.out] at ho41|(simp only [Int.reduceToNat] at ho41;rw [← Ny440.out] at ho41));have n0_:=Aside0.mk (Kd.R_lower ho41 (below_size (by repeat (first|(with_reducible first|exact HB.out|apply below_alloc|apply pw_below_drewN|apply below_drew1)|exact HB.out))));have n1_:=Aside0.mk (below_step (by repeat (first|(with_reducible first|exact HB.out|apply below_alloc|apply pw_below_drewN|apply below_drew1)|exact HB.out)) hb);clear HB;have HO442:=n0_;have HB:=n1_;clear n0_ n1_;clear hb ho41;obtain ⟨Ao42,co42,eo42⟩:=Kd.R_slice HO442.out;subst eo42)|((with_reducible refine gate_callee (f:=20) rfl ?_);refine goesL_ (some 11) rfl rfl Tryd.func20 (by kernel_rfl) rfl #[.slice Ao42 y440.length co42] rfl (by (try simp only [List.map_toArray,List.map_cons,List.map_nil]);first|done|rfl|(simp only [List.length_drop,List.length_take];rfl)) ?_;(with_reducible refine (insolvencylaw1_few.calls k _ _ y440 true _ ?side1 ?side2 A3.out).mono ?_);(case side1=>repeat (first|exact (Kd.R_reads' HO442.out).2.2|(with_reducible refine Kd.C_alloc ?_ _)|(with_reducible refine Kd.C_drewN ?_ _)|(with_reducible refine Kd.C_drew ?_)));(case side2=>exact (Kd.R_reads' HO442.out).2.1);rintro e w' ⟨rfl,⟨nd,rfl⟩⟩;refine ⟨_,rfl,?_⟩)|((with_reducible refine gate_callee (f:=21) rfl ?_);refine goesL_ (some 17) rfl rfl Tryd.func21 (by kernel_rfl) rfl #[.string a0,.string a1] rfl (by (try simp only [List.map_toArray,List.map_cons,List.map_nil]);first|done|rfl|(simp only [List.length_drop,List.length_take];rfl)) ?_;(with_reducible refine (natural_Divide.calls k a0 a1 t445 t446 true _ A5.out).mono ?_);rintro e w43 ⟨rfl,hb⟩;refine ⟨_,rfl,?_⟩;have n0_:=Aside0.mk (Kd.R_below (by (with_reducible repeat (first|apply Kd.R_alloc|apply Kd.R_drewN|apply Kd.R_drew));exact HO442.out) hb);have n1_:=Aside0.mk (below_step (by repeat (first|(with_reducible first|exact HB.out|apply below_alloc|apply pw_below_drewN|apply below_drew1)|exact HB.out)) hb);clear HO442;clear HB;have HO442:=n0_;have HB:=n1_;clear n0_ n1_;(try clear hb);(try clear hb2);(try clear hk);(try clear hi))|((with_reducible refine gate_callee (f:=18) rfl ?_);refine goesL_ (some 22) rfl rfl Tryd.func18 (by kernel_rfl) rfl #[.string a1] rfl (by (try simp only [List.map_toArray,List.map_cons,List.map_nil]);first|done|rfl|(simp only [List.length_drop,List.length_take];rfl)) ?_;(with_reducible refine (natural_Normalize.calls a1 t448 _ A6.out).mono ?_);rintro e w' ⟨rfl,⟨nd,rfl⟩⟩;refine ⟨_,rfl,?_⟩)|((with_reducible refine gate_callee (f:=17) rfl ?_);refine goesL_ (some 37) rfl rfl Tryd.func17 (by kernel_rfl) rfl #[] rfl (by (try simp only [List.map_toArray,List.map_cons,List.map_nil]);first|done|rfl|(simp only [List.length_drop,List.length_take];rfl)) ?_;(with_reducible refine (insolvencylaw1_awake.calls k  true _ A32.out).mono ?_);rintro e w44 ⟨rfl,hb⟩;refine ⟨_,rfl,?_⟩;have n0_:=Aside0.mk (Kd.R_below (by (with_reducible repeat (first|apply Kd.R_alloc|apply Kd.R_drewN|apply Kd.R_drew));exact HO442.out) hb);have n1_:=Aside0.mk (below_step (by repeat (first|(with_reducible first|exact HB.out|apply below_alloc|apply pw_below_drewN|apply below_drew1)|exact HB.out)) hb);clear HO442;clear HB;have HO442:=n0_;have HB:=n1_;clear n0_ n1_;(try clear hb);(try clear hb2);(try clear hk);(try clear hi))|(go_at_call 23;(with_reducible refine (natural_Compare.calls t446 a1 t451 _ A35.out).mono ?_);rintro e w' ⟨rfl,⟨nd,rfl⟩⟩)|(go_at_call 25;(with_reducible refine (natural_Multiply.calls k t445 a1 t452 _ A37.out).mono ?_);rintro e w45 ⟨rfl,hb⟩;have n0_:=Aside0.mk (Kd.R_below (by (with_reducible repeat (first|apply Kd.R_alloc|apply Kd.R_drewN|apply Kd.R_drew));exact HO442.out) hb);have n1_:=Aside0.mk (below_step (by repeat (first|(with_reducible first|exact HB.out|apply below_alloc|apply pw_below_drewN|apply below_drew1)|exact HB.out)) hb);clear HO442;clear HB;have HO442:=n0_;have HB:=n1_;clear n0_ n1_;(try clear hb);(try clear hb2);(try clear hk);(try clear hi))|(go_at_call 24;(with_reducible refine (natural_Add.calls k t452 t446 t453 _ A38.out).mono ?_);rintro e w46 ⟨rfl,hb⟩;have n0_:=Aside0.mk (Kd.R_below (by (with_reducible repeat (first|apply Kd.R_alloc|apply Kd.R_drewN|apply Kd.R_drew));exact HO442.out) hb);have n1_:=Aside0.mk (below_step (by repeat (first|(with_reducible first|exact HB.out|apply below_alloc|apply pw_below_drewN|apply below_drew1)|exact HB.out)) hb);clear HO442;clear HB;have HO442:=n0_;have HB:=n1_;clear n0_ n1_;(try clear hb);(try clear hb2);(try clear hk);(try clear hi))|(go_at_call 18;(with_reducible refine (natural_Normalize.calls a0 t454 _ A39.out).mono ?_);rintro e w' ⟨rfl,⟨nd,rfl⟩⟩))
      go_ret
      exact ⟨by first|rfl|(simp [errW_none,errW_some] <;> rfl)|(simp [*,errW_none,errW_some] <;> rfl),by repeat (first|(with_reducible first|exact HB.out|apply below_alloc|apply pw_below_drewN|apply below_drew1)|exact HB.out)⟩
     ·rw [if_neg c36] at H
      have c36b0:decide (t451<0)=false:=decide_eq_false c36
      clear c36
      obtain rfl:=Option.some.inj H
      go_enter Tryd.func5,Tryd.ntmps5
      go_wp2_with (first|((with_reducible refine gate_dst (N:=10) rfl ?_);refine Kd.R_lit Kd.string _ 9 ?hg (N:=10) ?hd (xs:=([a0,a1]:List ByteArray)) (inner:=[.string a0,.string a1]) (ok:=fun _=>True) (okp:=fun _=>True) ?hr ?hp (fun _ hk=>hk) trivial (Below.refl _ _) (Nat.le_refl _) (by simp) ?_;(case hd=>rfl);(case hg=>rfl);(case hr=>first|(go_simp;done)|(go_simp;rfl));(case hp=>exact (Reps.one (show Kd.M Kd.string _ _ _ a0 [.string a0] from rfl) (Reps.one (show Kd.M Kd.string _ _ _ a1 [.string a1] from rfl) (Reps.none _ _))));intro v441 w47 ho48 hb hg_ hnew_;clear hg_ hnew_;(first|rw [← Ny440.out] at ho48|(simp only [Int.reduceToNat] at ho48;rw [← Ny440.out] at ho48));have n0_:=Aside0.mk (Kd.R_lower ho48 (below_size (by repeat (first|(with_reducible first|exact HB.out|apply below_alloc|apply pw_below_drewN|apply below_drew1)|exact HB.out))));have n1_:=Aside0.mk (below_step (by repeat (first|(with_reducible first|exact HB.out|apply below_alloc|apply pw_below_drewN|apply below_drew1)|exact HB.out)) hb);clear HB;have HO442:=n0_;have HB:=n1_;clear n0_ n1_;clear hb ho48;obtain ⟨Ao49,co49,eo49⟩:=Kd.R_slice HO442.out;subst eo49)|((with_reducible refine gate_callee (f:=20) rfl ?_);refine goesL_ (some 11) rfl rfl Tryd.func20 (by kernel_rfl) rfl #[.slice Ao49 y440.length co49] rfl (by (try simp only [List.map_toArray,List.map_cons,List.map_nil]);first|done|rfl|(simp only [List.length_drop,List.length_take];rfl)) ?_;(with_reducible refine (insolvencylaw1_few.calls k _ _ y440 true _ ?side1 ?side2 A3.out).mono ?_);(case side1=>repeat (first|exact (Kd.R_reads' HO442.out).2.2|(with_reducible refine Kd.C_alloc ?_ _)|(with_reducible refine Kd.C_drewN ?_ _)|(with_reducible refine Kd.C_drew ?_)));(case side2=>exact (Kd.R_reads' HO442.out).2.1);rintro e w' ⟨rfl,⟨nd,rfl⟩⟩;refine ⟨_,rfl,?_⟩)|((with_reducible refine gate_callee (f:=21) rfl ?_);refine goesL_ (some 17) rfl rfl Tryd.func21 (by kernel_rfl) rfl #[.string a0,.string a1] rfl (by (try simp only [List.map_toArray,List.map_cons,List.map_nil]);first|done|rfl|(simp only [List.length_drop,List.length_take];rfl)) ?_;(with_reducible refine (natural_Divide.calls k a0 a1 t445 t446 true _ A5.out).mono ?_);rintro e w50 ⟨rfl,hb⟩;refine ⟨_,rfl,?_⟩;have n0_:=Aside0.mk (Kd.R_below (by (with_reducible repeat (first|apply Kd.R_alloc|apply Kd.R_drewN|apply Kd.R_drew));exact HO442.out) hb);have n1_:=Aside0.mk (below_step (by repeat (first|(with_reducible first|exact HB.out|apply below_alloc|apply pw_below_drewN|apply below_drew1)|exact HB.out)) hb);clear HO442;clear HB;have HO442:=n0_;have HB:=n1_;clear n0_ n1_;(try clear hb);(try clear hb2);(try clear hk);(try clear hi))|((with_reducible refine gate_callee (f:=18) rfl ?_);refine goesL_ (some 22) rfl rfl Tryd.func18 (by kernel_rfl) rfl #[.string a1] rfl (by (try simp only [List.map_toArray,List.map_cons,List.map_nil]);first|done|rfl|(simp only [List.length_drop,List.length_take];rfl)) ?_;(with_reducible refine (natural_Normalize.calls a1 t448 _ A6.out).mono ?_);rintro e w' ⟨rfl,⟨nd,rfl⟩⟩;refine ⟨_,rfl,?_⟩)|((with_reducible refine gate_callee (f:=17) rfl ?_);refine goesL_ (some 37) rfl rfl Tryd.func17 (by kernel_rfl) rfl #[] rfl (by (try simp only [List.map_toArray,List.map_cons,List.map_nil]);first|done|rfl|(simp only [List.length_drop,List.length_take];rfl)) ?_;(with_reducible refine (insolvencylaw1_awake.calls k  true _ A32.out).mono ?_);rintro e w51 ⟨rfl,hb⟩;refine ⟨_,rfl,?_⟩;have n0_:=Aside0.mk (Kd.R_below (by (with_reducible repeat (first|apply Kd.R_alloc|apply Kd.R_drewN|apply Kd.R_drew));exact HO442.out) hb);have n1_:=Aside0.mk (below_step (by repeat (first|(with_reducible first|exact HB.out|apply below_alloc|apply pw_below_drewN|apply below_drew1)|exact HB.out)) hb);clear HO442;clear HB;have HO442:=n0_;have HB:=n1_;clear n0_ n1_;(try clear hb);(try clear hb2);(try clear hk);(try clear hi))|(go_at_call 23;(with_reducible refine (natural_Compare.calls t446 a1 t451 _ A35.out).mono ?_);rintro e w' ⟨rfl,⟨nd,rfl⟩⟩))
      go_ret
      exact ⟨by first|rfl|(simp [errW_none,errW_some] <;> rfl)|(simp [*,errW_none,errW_some] <;> rfl),by repeat (first|(with_reducible first|exact HB.out|apply below_alloc|apply pw_below_drewN|apply below_drew1)|exact HB.out)⟩
    ·replace c34:=Bool.eq_false_iff.mpr c34
     subst c34
     have H1:(some false)=some r:=by rw [if_neg (show ¬ (false=true) by decide)] at H;exact H
     clear H
     have H:=H1
     clear H1
     obtain rfl:=Option.some.inj H
     go_enter Tryd.func5,Tryd.ntmps5
     go_wp2_with (first|((with_reducible refine gate_dst (N:=10) rfl ?_);refine Kd.R_lit Kd.string _ 9 ?hg (N:=10) ?hd (xs:=([a0,a1]:List ByteArray)) (inner:=[.string a0,.string a1]) (ok:=fun _=>True) (okp:=fun _=>True) ?hr ?hp (fun _ hk=>hk) trivial (Below.refl _ _) (Nat.le_refl _) (by simp) ?_;(case hd=>rfl);(case hg=>rfl);(case hr=>first|(go_simp;done)|(go_simp;rfl));(case hp=>exact (Reps.one (show Kd.M Kd.string _ _ _ a0 [.string a0] from rfl) (Reps.one (show Kd.M Kd.string _ _ _ a1 [.string a1] from rfl) (Reps.none _ _))));intro v441 w52 ho53 hb hg_ hnew_;clear hg_ hnew_;(first|rw [← Ny440.out] at ho53|(simp only [Int.reduceToNat] at ho53;rw [← Ny440.out] at ho53));have n0_:=Aside0.mk (Kd.R_lower ho53 (below_size (by repeat (first|(with_reducible first|exact HB.out|apply below_alloc|apply pw_below_drewN|apply below_drew1)|exact HB.out))));have n1_:=Aside0.mk (below_step (by repeat (first|(with_reducible first|exact HB.out|apply below_alloc|apply pw_below_drewN|apply below_drew1)|exact HB.out)) hb);clear HB;have HO442:=n0_;have HB:=n1_;clear n0_ n1_;clear hb ho53;obtain ⟨Ao54,co54,eo54⟩:=Kd.R_slice HO442.out;subst eo54)|((with_reducible refine gate_callee (f:=20) rfl ?_);refine goesL_ (some 11) rfl rfl Tryd.func20 (by kernel_rfl) rfl #[.slice Ao54 y440.length co54] rfl (by (try simp only [List.map_toArray,List.map_cons,List.map_nil]);first|done|rfl|(simp only [List.length_drop,List.length_take];rfl)) ?_;(with_reducible refine (insolvencylaw1_few.calls k _ _ y440 true _ ?side1 ?side2 A3.out).mono ?_);(case side1=>repeat (first|exact (Kd.R_reads' HO442.out).2.2|(with_reducible refine Kd.C_alloc ?_ _)|(with_reducible refine Kd.C_drewN ?_ _)|(with_reducible refine Kd.C_drew ?_)));(case side2=>exact (Kd.R_reads' HO442.out).2.1);rintro e w' ⟨rfl,⟨nd,rfl⟩⟩;refine ⟨_,rfl,?_⟩)|((with_reducible refine gate_callee (f:=21) rfl ?_);refine goesL_ (some 17) rfl rfl Tryd.func21 (by kernel_rfl) rfl #[.string a0,.string a1] rfl (by (try simp only [List.map_toArray,List.map_cons,List.map_nil]);first|done|rfl|(simp only [List.length_drop,List.length_take];rfl)) ?_;(with_reducible refine (natural_Divide.calls k a0 a1 t445 t446 false _ A5.out).mono ?_);rintro e w55 ⟨rfl,hb⟩;refine ⟨_,rfl,?_⟩;have n0_:=Aside0.mk (Kd.R_below (by (with_reducible repeat (first|apply Kd.R_alloc|apply Kd.R_drewN|apply Kd.R_drew));exact HO442.out) hb);have n1_:=Aside0.mk (below_step (by repeat (first|(with_reducible first|exact HB.out|apply below_alloc|apply pw_below_drewN|apply below_drew1)|exact HB.out)) hb);clear HO442;clear HB;have HO442:=n0_;have HB:=n1_;clear n0_ n1_;(try clear hb);(try clear hb2);(try clear hk);(try clear hi))|((with_reducible refine gate_callee (f:=18) rfl ?_);refine goesL_ (some 22) rfl rfl Tryd.func18 (by kernel_rfl) rfl #[.string a1] rfl (by (try simp only [List.map_toArray,List.map_cons,List.map_nil]);first|done|rfl|(simp only [List.length_drop,List.length_take];rfl)) ?_;(with_reducible refine (natural_Normalize.calls a1 t448 _ A6.out).mono ?_);rintro e w' ⟨rfl,⟨nd,rfl⟩⟩;refine ⟨_,rfl,?_⟩)|((with_reducible refine gate_callee (f:=17) rfl ?_);refine goesL_ (some 37) rfl rfl Tryd.func17 (by kernel_rfl) rfl #[] rfl (by (try simp only [List.map_toArray,List.map_cons,List.map_nil]);first|done|rfl|(simp only [List.length_drop,List.length_take];rfl)) ?_;(with_reducible refine (insolvencylaw1_awake.calls k  true _ A32.out).mono ?_);rintro e w56 ⟨rfl,hb⟩;refine ⟨_,rfl,?_⟩;have n0_:=Aside0.mk (Kd.R_below (by (with_reducible repeat (first|apply Kd.R_alloc|apply Kd.R_drewN|apply Kd.R_drew));exact HO442.out) hb);have n1_:=Aside0.mk (below_step (by repeat (first|(with_reducible first|exact HB.out|apply below_alloc|apply pw_below_drewN|apply below_drew1)|exact HB.out)) hb);clear HO442;clear HB;have HO442:=n0_;have HB:=n1_;clear n0_ n1_;(try clear hb);(try clear hb2);(try clear hk);(try clear hi)))
     go_ret
     exact ⟨by first|rfl|(simp [errW_none,errW_some] <;> rfl)|(simp [*,errW_none,errW_some] <;> rfl),by repeat (first|(with_reducible first|exact HB.out|apply below_alloc|apply pw_below_drewN|apply below_drew1)|exact HB.out)⟩
   ·replace c33:=Bool.eq_false_iff.mpr c33
    subst c33
    have H1:(some false)=some r:=by rw [if_neg (show ¬ (false=true) by decide)] at H;exact H
    clear H
    have H:=H1
    clear H1
    obtain rfl:=Option.some.inj H
    go_enter Tryd.func5,Tryd.ntmps5
    go_wp2_with (first|((with_reducible refine gate_dst (N:=10) rfl ?_);refine Kd.R_lit Kd.string _ 9 ?hg (N:=10) ?hd (xs:=([a0,a1]:List ByteArray)) (inner:=[.string a0,.string a1]) (ok:=fun _=>True) (okp:=fun _=>True) ?hr ?hp (fun _ hk=>hk) trivial (Below.refl _ _) (Nat.le_refl _) (by simp) ?_;(case hd=>rfl);(case hg=>rfl);(case hr=>first|(go_simp;done)|(go_simp;rfl));(case hp=>exact (Reps.one (show Kd.M Kd.string _ _ _ a0 [.string a0] from rfl) (Reps.one (show Kd.M Kd.string _ _ _ a1 [.string a1] from rfl) (Reps.none _ _))));intro v441 w57 ho58 hb hg_ hnew_;clear hg_ hnew_;(first|rw [← Ny440.out] at ho58|(simp only [Int.reduceToNat] at ho58;rw [← Ny440.out] at ho58));have n0_:=Aside0.mk (Kd.R_lower ho58 (below_size (by repeat (first|(with_reducible first|exact HB.out|apply below_alloc|apply pw_below_drewN|apply below_drew1)|exact HB.out))));have n1_:=Aside0.mk (below_step (by repeat (first|(with_reducible first|exact HB.out|apply below_alloc|apply pw_below_drewN|apply below_drew1)|exact HB.out)) hb);clear HB;have HO442:=n0_;have HB:=n1_;clear n0_ n1_;clear hb ho58;obtain ⟨Ao59,co59,eo59⟩:=Kd.R_slice HO442.out;subst eo59)|((with_reducible refine gate_callee (f:=20) rfl ?_);refine goesL_ (some 11) rfl rfl Tryd.func20 (by kernel_rfl) rfl #[.slice Ao59 y440.length co59] rfl (by (try simp only [List.map_toArray,List.map_cons,List.map_nil]);first|done|rfl|(simp only [List.length_drop,List.length_take];rfl)) ?_;(with_reducible refine (insolvencylaw1_few.calls k _ _ y440 true _ ?side1 ?side2 A3.out).mono ?_);(case side1=>repeat (first|exact (Kd.R_reads' HO442.out).2.2|(with_reducible refine Kd.C_alloc ?_ _)|(with_reducible refine Kd.C_drewN ?_ _)|(with_reducible refine Kd.C_drew ?_)));(case side2=>exact (Kd.R_reads' HO442.out).2.1);rintro e w' ⟨rfl,⟨nd,rfl⟩⟩;refine ⟨_,rfl,?_⟩)|((with_reducible refine gate_callee (f:=21) rfl ?_);refine goesL_ (some 17) rfl rfl Tryd.func21 (by kernel_rfl) rfl #[.string a0,.string a1] rfl (by (try simp only [List.map_toArray,List.map_cons,List.map_nil]);first|done|rfl|(simp only [List.length_drop,List.length_take];rfl)) ?_;(with_reducible refine (natural_Divide.calls k a0 a1 t445 t446 t447 _ A5.out).mono ?_);rintro e w60 ⟨rfl,hb⟩;refine ⟨_,rfl,?_⟩;have n0_:=Aside0.mk (Kd.R_below (by (with_reducible repeat (first|apply Kd.R_alloc|apply Kd.R_drewN|apply Kd.R_drew));exact HO442.out) hb);have n1_:=Aside0.mk (below_step (by repeat (first|(with_reducible first|exact HB.out|apply below_alloc|apply pw_below_drewN|apply below_drew1)|exact HB.out)) hb);clear HO442;clear HB;have HO442:=n0_;have HB:=n1_;clear n0_ n1_;(try clear hb);(try clear hb2);(try clear hk);(try clear hi))|((with_reducible refine gate_callee (f:=18) rfl ?_);refine goesL_ (some 22) rfl rfl Tryd.func18 (by kernel_rfl) rfl #[.string a1] rfl (by (try simp only [List.map_toArray,List.map_cons,List.map_nil]);first|done|rfl|(simp only [List.length_drop,List.length_take];rfl)) ?_;(with_reducible refine (natural_Normalize.calls a1 t448 _ A6.out).mono ?_);rintro e w' ⟨rfl,⟨nd,rfl⟩⟩;refine ⟨_,rfl,?_⟩)|((with_reducible refine gate_callee (f:=17) rfl ?_);refine goesL_ (some 37) rfl rfl Tryd.func17 (by kernel_rfl) rfl #[] rfl (by (try simp only [List.map_toArray,List.map_cons,List.map_nil]);first|done|rfl|(simp only [List.length_drop,List.length_take];rfl)) ?_;(with_reducible refine (insolvencylaw1_awake.calls k  false _ A32.out).mono ?_);rintro e w61 ⟨rfl,hb⟩;refine ⟨_,rfl,?_⟩;have n0_:=Aside0.mk (Kd.R_below (by (with_reducible repeat (first|apply Kd.R_alloc|apply Kd.R_drewN|apply Kd.R_drew));exact HO442.out) hb);have n1_:=Aside0.mk (below_step (by repeat (first|(with_reducible first|exact HB.out|apply below_alloc|apply pw_below_drewN|apply below_drew1)|exact HB.out)) hb);clear HO442;clear HB;have HO442:=n0_;have HB:=n1_;clear n0_ n1_;(try clear hb);(try clear hb2);(try clear hk);(try clear hi)))
    go_ret
    exact ⟨by first|rfl|(simp [errW_none,errW_some] <;> rfl)|(simp [*,errW_none,errW_some] <;> rfl),by repeat (first|(with_reducible first|exact HB.out|apply below_alloc|apply pw_below_drewN|apply below_drew1)|exact HB.out)⟩
 ·replace c4:=Bool.eq_false_iff.mpr c4
  subst c4
  have H1:((insolvencylaw1_awake.f k).bind fun t444=>(some t444))=some r:=by rw [if_neg (show ¬ (false=true) by decide)] at H;exact H
  clear H
  have H:=H1
  clear H1
  replace H:=Option.bind_eq_some_iff.mp H
  obtain ⟨t444,A620,H⟩:=H
  replace H:(some t444)=some r:=H
  have A62:=Aside0.mk A620
  clear A620
  obtain rfl:=Option.some.inj H
  go_enter Tryd.func5,Tryd.ntmps5
  go_wp2_with (first|((with_reducible refine gate_dst (N:=10) rfl ?_);refine Kd.R_lit Kd.string _ 9 ?hg (N:=10) ?hd (xs:=([a0,a1]:List ByteArray)) (inner:=[.string a0,.string a1]) (ok:=fun _=>True) (okp:=fun _=>True) ?hr ?hp (fun _ hk=>hk) trivial (Below.refl _ _) (Nat.le_refl _) (by simp) ?_;(case hd=>rfl);(case hg=>rfl);(case hr=>first|(go_simp;done)|(go_simp;rfl));(case hp=>exact (Reps.one (show Kd.M Kd.string _ _ _ a0 [.string a0] from rfl) (Reps.one (show Kd.M Kd.string _ _ _ a1 [.string a1] from rfl) (Reps.none _ _))));intro v441 w63 ho64 hb hg_ hnew_;clear hg_ hnew_;(first|rw [← Ny440.out] at ho64|(simp only [Int.reduceToNat] at ho64;rw [← Ny440.out] at ho64));have n0_:=Aside0.mk (Kd.R_lower ho64 (below_size (by repeat (first|(with_reducible first|exact HB.out|apply below_alloc|apply pw_below_drewN|apply below_drew1)|exact HB.out))));have n1_:=Aside0.mk (below_step (by repeat (first|(with_reducible first|exact HB.out|apply below_alloc|apply pw_below_drewN|apply below_drew1)|exact HB.out)) hb);clear HB;have HO442:=n0_;have HB:=n1_;clear n0_ n1_;clear hb ho64;obtain ⟨Ao65,co65,eo65⟩:=Kd.R_slice HO442.out;subst eo65)|((with_reducible refine gate_callee (f:=20) rfl ?_);refine goesL_ (some 11) rfl rfl Tryd.func20 (by kernel_rfl) rfl #[.slice Ao65 y440.length co65] rfl (by (try simp only [List.map_toArray,List.map_cons,List.map_nil]);first|done|rfl|(simp only [List.length_drop,List.length_take];rfl)) ?_;(with_reducible refine (insolvencylaw1_few.calls k _ _ y440 false _ ?side1 ?side2 A3.out).mono ?_);(case side1=>repeat (first|exact (Kd.R_reads' HO442.out).2.2|(with_reducible refine Kd.C_alloc ?_ _)|(with_reducible refine Kd.C_drewN ?_ _)|(with_reducible refine Kd.C_drew ?_)));(case side2=>exact (Kd.R_reads' HO442.out).2.1);rintro e w' ⟨rfl,⟨nd,rfl⟩⟩;refine ⟨_,rfl,?_⟩)|((with_reducible refine gate_callee (f:=17) rfl ?_);refine goesL_ (some 13) rfl rfl Tryd.func17 (by kernel_rfl) rfl #[] rfl (by (try simp only [List.map_toArray,List.map_cons,List.map_nil]);first|done|rfl|(simp only [List.length_drop,List.length_take];rfl)) ?_;(with_reducible refine (insolvencylaw1_awake.calls k  t444 _ A62.out).mono ?_);rintro e w66 ⟨rfl,hb⟩;refine ⟨_,rfl,?_⟩;have n0_:=Aside0.mk (Kd.R_below (by (with_reducible repeat (first|apply Kd.R_alloc|apply Kd.R_drewN|apply Kd.R_drew));exact HO442.out) hb);have n1_:=Aside0.mk (below_step (by repeat (first|(with_reducible first|exact HB.out|apply below_alloc|apply pw_below_drewN|apply below_drew1)|exact HB.out)) hb);clear HO442;clear HB;have HO442:=n0_;have HB:=n1_;clear n0_ n1_;(try clear hb);(try clear hb2);(try clear hk);(try clear hi)))
  go_ret
  exact ⟨by first|rfl|(simp [errW_none,errW_some] <;> rfl)|(simp [*,errW_none,errW_some] <;> rfl),by repeat (first|(with_reducible first|exact HB.out|apply below_alloc|apply pw_below_drewN|apply below_drew1)|exact HB.out)⟩
def insolvencylaw1_NaturalDivision.Pure:Prop:=∀ (a0:ByteArray) (a1:ByteArray),a0.size≤140737488351232→a1.size≤140737488351232 → ∃ k,insolvencylaw1_NaturalDivision.f k a0 a1=some true
theorem insolvencylaw1_NaturalDivision.walk (P:insolvencylaw1_NaturalDivision.Pure) (a0:ByteArray) (a1:ByteArray) (w:World) (w0:a0.size≤140737488351232) (w1:a1.size≤140737488351232) :
 Calls Tryd.prog 5 #[.string a0,.string a1] w fun e w'=>e = .returned (.bool true)∧Below w.heap.size w w':=by
 obtain ⟨k,h⟩:=P a0 a1 w0 w1
 refine (insolvencylaw1_NaturalDivision.calls k a0 a1 true w h).mono ?_
 rintro e w' ⟨rfl,hd⟩
 exact ⟨rfl,hd⟩
end Go.Proofs.YtjaflmhdclmolaaDoor.F
end
section
namespace Go.Proofs.YtjaflmhdclmolaaDoor.Num
theorem S_nil {n:Int} (h0:0≤n):(S n).toList=([]:List UInt8)↔n=0:=by
 rw [S_toList]
 constructor
 ·intro h
  rcases Int.lt_or_le 0 n with q|q
  ·rw [digs_pos (by omega)] at h;simp at h
  ·omega
 ·intro h
  rw [h,show (0:Int).toNat=0 from rfl,digs_zero]
end Go.Proofs.YtjaflmhdclmolaaDoor.Num
namespace Go.Proofs.YtjaflmhdclmolaaDoor.Pure
open Go.RowKit Go.Proofs.YtjaflmhdclmolaaDoor.F Go.Proofs.YtjaflmhdclmolaaDoorW.PrintWords Go.Proofs.YtjaflmhdclmolaaDoorW.PrintLast
open Go.Proofs.YtjaflmhdclmolaaDoor.Num
end Go.Proofs.YtjaflmhdclmolaaDoor.Pure
end
section
namespace Go.Proofs.YtjaflmhdclmolaaDoor.Num
open Go.RowKit Go.Proofs.YtjaflmhdclmolaaDoorW.PrintWords Go.Proofs.YtjaflmhdclmolaaDoorW.PrintLast Go.Proofs.YtjaflmhdclmolaaDoorW.PrintMore Go.Proofs.YtjaflmhdclmolaaDoor.F
theorem divOf_dvd {a g:ByteArray} (h:(B g).toNat ∣ (B a).toNat):(divOf a g).2.1=⟨#[]⟩:=by
 have n0:=B_nonneg a
 have n1:=B_nonneg g
 unfold divOf
 by_cases hb:B g=0
 ·rw [if_pos hb]
 ·rw [if_neg hb]
  have h2:B a%B g=0:=by
   have h3:=Nat.mod_eq_zero_of_dvd h
   have h4:(((B a).toNat%(B g).toNat:Nat):Int)=B a%B g:=by rw [Int.natCast_emod,Int.toNat_of_nonneg n0,Int.toNat_of_nonneg n1]
   rw [← h4,h3];rfl
  show S (B a%B g)=_
  rw [h2,S_zero]
theorem gcd_sz {a b:ByteArray} {p:Nat} (ha:(S (B a)).size≤p) (hb:(S (B b)).size≤p):(gcdOf a b).size≤p:=by
 have n0:=B_nonneg a
 have n1:=B_nonneg b
 unfold gcdOf
 by_cases h:(B b).toNat=0
 ·rw [h,Nat.gcd_zero_right,Int.toNat_of_nonneg n0];exact ha
 ·have:=Nat.le_of_dvd (by omega) (Nat.gcd_dvd_right (B a).toNat (B b).toNat)
  exact sz_le n1 (by omega) hb
theorem B_gcdOf (a b:ByteArray):B (gcdOf a b)=((Nat.gcd (B a).toNat (B b).toNat:Nat):Int):=B_S (by omega)
end Go.Proofs.YtjaflmhdclmolaaDoor.Num
namespace Go.Proofs.YtjaflmhdclmolaaDoor.Pure
open Go.RowKit Go.Proofs.YtjaflmhdclmolaaDoor.F Go.Proofs.YtjaflmhdclmolaaDoorW.PrintWords Go.Proofs.YtjaflmhdclmolaaDoorW.PrintLast
open Go.Proofs.YtjaflmhdclmolaaDoor.Num
theorem NaturalDivisors:insolvencylaw1_NaturalDivisors.Pure:=by
 intro a b c h0 h1 h2
 refine some_of (with_few (by simp) fun hf=>?_)
 have s0:=hf a (by simp)
 have s1:=hf b (by simp)
 have s2:=hf c (by simp)
 have n0:=B_nonneg a
 have n1:=B_nonneg b
 have n2:=B_nonneg c
 have z0:=sz_B s0
 have z1:=sz_B s1
 have z2:=sz_B s2
 have zg:=gcd_sz z0 z1
 have zac:=sz_mul n0 n2 z0 z2
 have zbc:=sz_mul n1 n2 z1 z2
 have m02:=Int.mul_nonneg n0 n2
 have m12:=Int.mul_nonneg n1 n2
 have hg:=B_gcdOf a b
 refine Ev.bind (GCD_ev a b (by omega) (by omega)) ?_
 refine Ev.bind (Divide_ev a _ (by omega) (by omega)) ?_
 refine Ev.bind (Divide_ev b _ (by omega) (by omega)) ?_
 refine Ev.bind awake_ev ?_
 refine Ev.ite rfl ?_
 have hz:(⟨#[]⟩:ByteArray).toList=([]:List UInt8):=by rw [Lib.toList_data]
 have d1:(B (gcdOf a b)).toNat ∣ (B a).toNat:=by rw [hg,Int.toNat_natCast];exact Nat.gcd_dvd_left _ _
 have d2:(B (gcdOf a b)).toNat ∣ (B b).toNat:=by rw [hg,Int.toNat_natCast];exact Nat.gcd_dvd_right _ _
 refine Ev.ite (by rw [divOf_dvd d1,hz]) ?_
 refine Ev.ite (by rw [divOf_dvd d2,hz]) ?_
 refine Ev.bind (Multiply_ev a c (by omega) (by omega)) ?_
 refine Ev.bind (Multiply_ev b c (by omega) (by omega)) ?_
 refine Ev.bind (GCD_ev _ _ (by omega) (by omega)) ?_
 refine Ev.bind (Multiply_ev _ c (by omega) (by omega)) ?_
 have e1:gcdOf (S (B a*B c)) (S (B b*B c))=S (B (gcdOf a b)*B c):=by
  rw [hg]
  unfold gcdOf
  rw [B_S m02,B_S m12]
  congr 1
  obtain ⟨x,hx⟩:=Int.eq_ofNat_of_zero_le n0
  obtain ⟨y,hy⟩:=Int.eq_ofNat_of_zero_le n1
  obtain ⟨z,hzz⟩:=Int.eq_ofNat_of_zero_le n2
  rw [hx,hy,hzz,← Int.natCast_mul,← Int.natCast_mul]
  simp only [Int.toNat_natCast]
  rw [Nat.gcd_mul_right,Int.natCast_mul]
 refine Ev.ite (by rw [e1]) ?_
 refine Ev.bind (GCD_ev b a (by omega) (by omega)) ?_
 have e2:gcdOf b a=gcdOf a b:=by unfold gcdOf;rw [Nat.gcd_comm]
 rw [e2,BEq.rfl]
 exact Ev.now _
end Go.Proofs.YtjaflmhdclmolaaDoor.Pure
end
