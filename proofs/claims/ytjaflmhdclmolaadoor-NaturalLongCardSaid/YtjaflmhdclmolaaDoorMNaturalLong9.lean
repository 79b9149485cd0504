/- Part 9 of the proof of NaturalLong: the functions' walks and what they compute, in the order of the calls; each holds for all arguments that its row allows. -/
import Derived.Test.YtjaflmhdclmolaaDoorMNaturalLong6
import Derived.Test.YtjaflmhdclmolaaDoorMNaturalLong8
import Derived.Test.YtjaflmhdclmolaaDoorMNaturalLong7
section
namespace Go.Proofs.YtjaflmhdclmolaaDoor.F
open Go.RowKit Go.Proofs.YtjaflmhdclmolaaDoorW.PrintWords Go.Proofs.YtjaflmhdclmolaaDoorW.PrintLast Go.Proofs.YtjaflmhdclmolaaDoorW.PrintMore
attribute [local go_sem] max2_int min2_int max_two min_two max_three min_three max_four min_four   
set_option linter.unusedVariables false
set_option linter.unusedSimpArgs false
def insolvencyref1_limbs.l0:Nat→ByteArray→List Int→Int→Option (List Int)
 | 0,_,_,_=>none
 | k+1,x0,x3,x4=>if x4<(x0.size:Int) then (if 0≤(wrap64 (Int.tdiv x4 4)) then (if (wrap64 (Int.tdiv x4 4))<(x3.length:Int) then (if 0≤(wrap64 ((wrap64 ((x0.size:Int)-1))-x4)) then (if (wrap64 ((wrap64 ((x0.size:Int)-1))-x4))<(x0.size:Int) then (if 0≤(IntKind.u64.wrap (wrap64 (8*(Int.tmod x4 4)))) then (insolvencyref1_limbs.l0 k x0 (x3.set ((wrap64 (Int.tdiv x4 4)):Int).toNat (Go.bits .or .u32 (rd x3 (wrap64 (Int.tdiv x4 4))) (shl .u32 ((bt x0 (wrap64 ((wrap64 ((x0.size:Int)-1))-x4)))%4294967296) (IntKind.u64.wrap (wrap64 (8*(Int.tmod x4 4))))))) (wrap64 (x4+1))) else (none)) else (none)) else (none)) else (none)) else (none)) else (some x3)
def insolvencyref1_limbs.f (k:Nat) (a0:ByteArray):Option (List Int):=(insolvencyref1_Normalize.f k a0).bind fun t286=>(if 0≤(wrap64 (Int.tdiv (wrap64 ((t286.size:Int)+3)) 4)) then (if (wrap64 (Int.tdiv (wrap64 ((t286.size:Int)+3)) 4):Int).toNat≤70368744177664 then (insolvencyref1_limbs.l0 k t286 (List.replicate (wrap64 (Int.tdiv (wrap64 ((t286.size:Int)+3)) 4):Int).toNat 0) 0) else (none)) else (none))
theorem insolvencyref1_limbs.mono_l:∀ k,(∀ y0 y1 y2,LeO (insolvencyref1_limbs.l0 k y0 y1 y2) (insolvencyref1_limbs.l0 (k+1) y0 y1 y2))
 | 0=>fun _ _ _ r h=>by simp [insolvencyref1_limbs.l0] at h
 | k+1=>by
  have ih0:=insolvencyref1_limbs.mono_l k
  ·intro y0 y1 y2
   unfold insolvencyref1_limbs.l0
   repeat' first
   | (with_reducible exact ih0 _ _ _)
   | (with_reducible exact insolvencyref1_Normalize.mono _ _)
   | (with_reducible exact LeO.refl _)
   | (with_reducible exact LeO.none _)
   | (with_reducible refine LeO.ite ?_ ?_)
   | (with_reducible refine LeO.bind ?_ (fun _=>?_))
   | exact ih0 _ _ _
   | exact insolvencyref1_Normalize.mono _ _
   | exact LeO.none _
   | refine LeO.ite ?_ ?_
   | refine LeO.bind ?_ (fun _=>?_)
theorem insolvencyref1_limbs.mono:∀ a0 k,LeO (insolvencyref1_limbs.f k a0) (insolvencyref1_limbs.f (k+1) a0):=by
 intro a0 k
 have ih0:=insolvencyref1_limbs.mono_l k
 unfold insolvencyref1_limbs.f
 repeat' first
  | (with_reducible exact ih0 _ _ _)
  | (with_reducible exact insolvencyref1_Normalize.mono _ _)
  | (with_reducible exact LeO.refl _)
  | (with_reducible exact LeO.none _)
  | (with_reducible refine LeO.ite ?_ ?_)
  | (with_reducible refine LeO.bind ?_ (fun _=>?_))
  | exact ih0 _ _ _
  | exact insolvencyref1_Normalize.mono _ _
  | exact LeO.none _
  | refine LeO.ite ?_ ?_
  | refine LeO.bind ?_ (fun _=>?_)
def insolvencyref1_limbs.T6:Bool×List (List Nat×List Nat):=(true,[([],[]),([],[]),([1],[1]),([],[]),([],[]),([4],[4]),([3,5],[3,5]),([6],[6]),([],[]),([],[]),([9],[9]),([10],[10]),([],[]),([11,12],[11,12]),([8,13],[8,13]),([14],[14]),([],[]),([16],[16]),([17],[17]),([18],[18]),([15,19],[15,19]),([7,20],[7,20]),([0,2,0,1,2,3,4,5,6,7,8,9,10,11,12,13,14,15,16,17,18,19,20,21],[0,2]),([22,21,0,1,2,3,4,5,6,7,8,9,10,11,12,13,14,15,16,17,18,19,20,21],[21,22])])
def insolvencyref1_limbs.B6:List Nat:=[0,0,2,0,0,16,56,120,0,0,512,1536,0,7680,16128,32512,0,65536,196608,458752,1048320,2097144,4194303,8388607]
theorem insolvencyref1_limbs.tab6:rtab .any (opsOf Tryd.f45 6)=insolvencyref1_limbs.T6:=by kernel_rfl
theorem insolvencyref1_limbs.bits6:waitsOk insolvencyref1_limbs.T6.2 insolvencyref1_limbs.B6=true:=by kernel_rfl
set_option maxHeartbeats 8000000 in
set_option maxRecDepth 100000 in
theorem insolvencyref1_limbs.calls (k:Nat) (a0:ByteArray) (r:List Int) (w:World) (h:insolvencyref1_limbs.f k a0=some r) :
 Calls Tryd.prog 45 #[.string a0] w fun e w'=>∃ v0_:Value,e = .returned (v0_)∧Kd.R (Kd.int .u32) 60 w' w.heap.size (fun _=>True) v0_ r∧Below w.heap.size w w':=by
 have HB:=Aside0.mk (Below.refl w.heap.size w)
 have H:((insolvencyref1_Normalize.f k a0).bind fun t286=>(if 0≤(wrap64 (Int.tdiv (wrap64 ((t286.size:Int)+3)) 4)) then (if (wrap64 (Int.tdiv (wrap64 ((t286.size:Int)+3)) 4):Int).toNat≤70368744177664 then (insolvencyref1_limbs.l0 k t286 (List.replicate (wrap64 (Int.tdiv (wrap64 ((t286.size:Int)+3)) 4):Int).toNat 0) 0) else (none)) else (none)))=some r:=h
 clear h
 replace H:=Option.bind_eq_some_iff.mp H
 obtain ⟨t286,A20,H⟩:=H
 replace H:(if 0≤(wrap64 (Int.tdiv (wrap64 ((t286.size:Int)+3)) 4)) then (if (wrap64 (Int.tdiv (wrap64 ((t286.size:Int)+3)) 4):Int).toNat≤70368744177664 then (insolvencyref1_limbs.l0 k t286 (List.replicate (wrap64 (Int.tdiv (wrap64 ((t286.size:Int)+3)) 4):Int).toNat 0) 0) else (none)) else (none))=some r:=H
 have A2:=Aside0.mk A20
 clear A20
 obtain ⟨ji3,hji3⟩:∃ j_:Int,(wrap64 (Int.tdiv (wrap64 ((t286.size:Int)+3)) 4))=j_:=⟨_,rfl⟩
 replace H:(if 0≤(ji3) then (if (ji3:Int).toNat≤70368744177664 then (insolvencyref1_limbs.l0 k t286 (List.replicate (ji3:Int).toNat 0) 0) else (none)) else (none))=some r:=by first|(rw [hji3] at H;exact H)|(simp only [hji3] at H ⊢;exact H)
 (try rw [hji3] at A2)
 have hji3w:(IntKind.i64.wrap (Int.tdiv (wrap64 ((t286.size:Int)+3)) 4))=ji3:=(i64_w _).trans hji3
 by_cases c4:0≤(ji3)
 ·rw [if_pos c4] at H
  have c4b0:=eq_true c4
  have c4b1:decide (0≤(ji3))=true:=decide_eq_true c4
  clear c4
  by_cases c5:(ji3:Int).toNat≤70368744177664
  ·rw [if_pos c5] at H
   have c5b0:=eq_true c5
   have c5b1:decide ((ji3:Int).toNat≤70368744177664)=true:=decide_eq_true c5
   clear c5
   obtain ⟨y287,hy287⟩:∃ y_:List Int,y_=(List.replicate (ji3:Int).toNat 0):=⟨_,rfl⟩
   replace H:(insolvencyref1_limbs.l0 k t286 y287 0)=some r:=by first|(rw [hy287];with_reducible exact H)|(have H2_:=(Option.bind_some _ _).symm.trans H;rw [hy287];with_reducible exact H2_)|(have H2_:=(Option.bind_some _ _).symm.trans H;with_reducible exact H2_)|with_reducible exact H|(rw [hy287];exact H)|exact H
   have Ny287:=Aside0.mk hy287
   clear hy287
   have H':=Aside0.mk H
   clear H
   go_enter Tryd.func45,Tryd.ntmps45
   go_wp2_with (first|((with_reducible refine gate_callee (f:=19) rfl ?_);refine goesL_ (some 6) rfl rfl Tryd.func19 (by kernel_rfl) rfl #[.string a0] rfl (by (try simp only [List.map_toArray,List.map_cons,List.map_nil]);first|done|rfl|(simp only [List.length_drop,List.length_take];rfl)) ?_;(with_reducible refine (insolvencyref1_Normalize.calls k a0 t286 _ A2.out).mono ?_);rintro e w' ⟨rfl,⟨nd,rfl⟩⟩;refine ⟨_,rfl,?_⟩)|((with_reducible refine gate_dst (N:=11) rfl ?_);refine Kd.R_make (Kd.int .u32) _ 60 rfl (N:=11) rfl 49 _ _ rfl ji3 rfl rfl Tryd.underlying49 (.int .u32 0) 4 info60 rfl (by decide) (by omega) 0 (ok:=fun _=>True) (okp:=fun _=>True) rfl (fun _ hk=>hk) trivial (of_decide_eq_true (by first|(with_reducible assumption)|assumption)) (Nat.le_trans (Nat.mul_le_mul_right _ (of_decide_eq_true (by first|(with_reducible assumption)|assumption):ji3.toNat≤70368744177664)) (by omega)) (Below.refl _ _) (Nat.le_refl _) ?_;intro v288 w6 ho7 hb hg_ hnew_;clear hg_ hnew_;(first|rw [← Ny287.out] at ho7|(simp only [Int.reduceToNat] at ho7;rw [← Ny287.out] at ho7));have n0_:=Aside0.mk (Kd.R_lower ho7 (below_size (by repeat (first|(with_reducible first|exact HB.out|apply below_alloc|apply pw_below_drewN|apply below_drew1)|exact HB.out))));have n1_:=Aside0.mk (below_step (by repeat (first|(with_reducible first|exact HB.out|apply below_alloc|apply pw_below_drewN|apply below_drew1)|exact HB.out)) hb);clear HB;have HO289:=n0_;have HB:=n1_;clear n0_ n1_;clear hb ho7))
   go_loopg [4] k (fun kq v4 w'=>∃ (x3_1:List Int) (x4_1:Int),v4 = .int .i64 x4_1∧Aside0 (insolvencyref1_limbs.l0 kq t286 x3_1 x4_1=some r)∧Aside0 (kq≤k)∧Aside0 (Kd.R (Kd.int .u32) 60 w' w.heap.size (fun _=>True) v288 x3_1)∧Aside0 (Below w.heap.size w w'))
   case atStart=>exact ⟨(y287),(0),(by first|rfl|(simp;done)|(simp [*];done)),H',⟨Nat.le_refl _⟩,⟨by (with_reducible repeat (first|apply Kd.R_alloc|apply Kd.R_drewN|apply Kd.R_drew));exact HO289.out⟩,⟨by repeat (first|(with_reducible first|exact HB.out|apply below_alloc|apply pw_below_drewN|apply below_drew1)|exact HB.out)⟩⟩
   case round=>
    clear H'
    try clear c1
    try clear p2
    try clear c4
    try clear c4b0
    try clear c4b1
    try clear c5
    try clear c5b0
    try clear c5b1
    try clear p6
    obtain ⟨x3_1,x4_1,rfl,HA,HK1,HO_3,HB⟩:=hrel
    cases gk with
    | zero=>exact absurd HA.out (by simp [insolvencyref1_limbs.l0])
    | succ k1=>
     have H:=HA.out
     clear HA
     simp only [insolvencyref1_limbs.l0] at H
     by_cases c8:x4_1<(t286.size:Int)
     ·rw [if_pos c8] at H
      have c8b0:decide (x4_1<(t286.size:Int))=true:=decide_eq_true c8
      clear c8
      obtain ⟨ji9,hji9⟩:∃ j_:Int,(wrap64 (Int.tdiv x4_1 4))=j_:=⟨_,rfl⟩
      replace H:(if 0≤(ji9) then (if (ji9)<(x3_1.length:Int) then (if 0≤(wrap64 ((wrap64 ((t286.size:Int)-1))-x4_1)) then (if (wrap64 ((wrap64 ((t286.size:Int)-1))-x4_1))<(t286.size:Int) then (if 0≤(IntKind.u64.wrap (wrap64 (8*(Int.tmod x4_1 4)))) then (insolvencyref1_limbs.l0 k1 t286 (x3_1.set ((ji9):Int).toNat (Go.bits .or .u32 (rd x3_1 (ji9)) (shl .u32 ((bt t286 (wrap64 ((wrap64 ((t286.size:Int)-1))-x4_1)))%4294967296) (IntKind.u64.wrap (wrap64 (8*(Int.tmod x4_1 4))))))) (wrap64 (x4_1+1))) else (none)) else (none)) else (none)) else (none)) else (none))=some r:=by first|(rw [hji9] at H;exact H)|(simp only [hji9] at H ⊢;exact H)
      have hji9w:(IntKind.i64.wrap (Int.tdiv x4_1 4))=ji9:=(i64_w _).trans hji9
      by_cases c10:0≤(ji9)
      ·rw [if_pos c10] at H
       have c10b0:decide (0≤(ji9))=true:=decide_eq_true c10
       clear c10
       by_cases c11:(ji9)<(x3_1.length:Int)
       ·rw [if_pos c11] at H
        have c11b0:decide ((ji9)<(x3_1.length:Int))=true:=decide_eq_true c11
        clear c11
        obtain ⟨ji12,hji12⟩:∃ j_:Int,(wrap64 ((wrap64 ((t286.size:Int)-1))-x4_1))=j_:=⟨_,rfl⟩
        replace H:(if 0≤(ji12) then (if (ji12)<(t286.size:Int) then (if 0≤(IntKind.u64.wrap (wrap64 (8*(Int.tmod x4_1 4)))) then (insolvencyref1_limbs.l0 k1 t286 (x3_1.set ((ji9):Int).toNat (Go.bits .or .u32 (rd x3_1 (ji9)) (shl .u32 ((bt t286 (ji12))%4294967296) (IntKind.u64.wrap (wrap64 (8*(Int.tmod x4_1 4))))))) (wrap64 (x4_1+1))) else (none)) else (none)) else (none))=some r:=by first|(rw [hji12] at H;exact H)|(simp only [hji12] at H ⊢;exact H)
        have hji12w:(IntKind.i64.wrap ((wrap64 ((t286.size:Int)-1))-x4_1))=ji12:=(i64_w _).trans hji12
        by_cases c13:0≤(ji12)
        ·rw [if_pos c13] at H
         have c13b0:decide (0≤(ji12))=true:=decide_eq_true c13
         clear c13
         by_cases c14:(ji12)<(t286.size:Int)
         ·rw [if_pos c14] at H
          have c14b0:decide ((ji12)<(t286.size:Int))=true:=decide_eq_true c14
          clear c14
          obtain ⟨ji16,hji16⟩:∃ j_:Int,(IntKind.u64.wrap (wrap64 (8*(Int.tmod x4_1 4))))=j_:=⟨_,rfl⟩
          replace H:(if 0≤(ji16) then (insolvencyref1_limbs.l0 k1 t286 (x3_1.set ((ji9):Int).toNat (Go.bits .or .u32 (rd x3_1 (ji9)) (shl .u32 ((bt t286 (ji12))%4294967296) (ji16)))) (wrap64 (x4_1+1))) else (none))=some r:=by first|(rw [hji16] at H;exact H)|(simp only [hji16] at H ⊢;exact H)
          by_cases c17:0≤(ji16)
          ·rw [if_pos c17] at H
           have c17b0:=eq_true c17
           have c17b1:decide (0≤(ji16))=true:=decide_eq_true c17
           clear c17
           obtain ⟨ji18,hji18⟩:∃ j_:Int,(shl .u32 ((bt t286 (ji12))%4294967296) (ji16))=j_:=⟨_,rfl⟩
           replace H:(insolvencyref1_limbs.l0 k1 t286 (x3_1.set ((ji9):Int).toNat (Go.bits .or .u32 (rd x3_1 (ji9)) (ji18))) (wrap64 (x4_1+1)))=some r:=by first|(rw [hji18] at H;exact H)|(simp only [hji18] at H ⊢;exact H)
           have hji18_:(IntKind.u32.wrap (((bt t286 (ji12))%4294967296)*2 ^ min (ji16).toNat 32))=ji18:=hji18
           have hji18z:(ji16)≤32→(IntKind.u32.wrap (((bt t286 (ji12))%4294967296)*2 ^ (ji16).toNat))=ji18:=shl_small hji18
           obtain ⟨y291,hy291⟩:∃ y_:List Int,y_=(x3_1.set ((ji9):Int).toNat (Go.bits .or .u32 (rd x3_1 (ji9)) (ji18))):=⟨_,rfl⟩
           replace H:(insolvencyref1_limbs.l0 k1 t286 y291 (wrap64 (x4_1+1)))=some r:=by first|(rw [hy291];with_reducible exact H)|(have H2_:=(Option.bind_some _ _).symm.trans H;rw [hy291];with_reducible exact H2_)|(have H2_:=(Option.bind_some _ _).symm.trans H;with_reducible exact H2_)|with_reducible exact H|(rw [hy291];exact H)|exact H
           have Ny291:=Aside0.mk hy291
           clear hy291
           have H':=Aside0.mk H
           clear H
           try go_wp2
           have n0_:=Aside0.mk (Kd.R_drew HO_3.out)
           have n1_:=Aside0.mk (below_drew1 HB.out)
           clear HO_3
           clear HB
           have HO_3:=n0_
           have HB:=n1_
           clear n0_ n1_
           obtain ⟨Ao21,co21,eo21⟩:=Kd.R_slice HO_3.out
           (first|subst eo21|(injection eo21 with f1_ f2_ f3_;have f4_:=f1_.symm;have f5_:=f3_.symm;clear f1_ f2_ f3_;subst f4_;subst f5_))
           have p290:0≤((ji9):Int):=of_decide_eq_true (by first|(with_reducible assumption)|assumption)
           have q290:(ji9)<(x3_1.length:Int):=of_decide_eq_true (by first|(with_reducible assumption)|assumption)
           obtain ⟨ad290,e290,hx290_0⟩:=Kd.at_int (Kd.R_reads' HO_3.out).2.2 (ji9) p290 q290
           cases e290
           replace p290:=eq_true p290
           replace q290:=eq_true q290
           have p15:0≤((ji12):Int):=of_decide_eq_true (by first|(with_reducible assumption)|assumption)
           have q15:(ji12)<(t286.size:Int):=of_decide_eq_true (by first|(with_reducible assumption)|assumption)
           have hx15:=bt_at t286 (ji12)
           replace p15:=eq_true p15
           replace q15:=eq_true q15
           have p19:0≤((ji9):Int):=of_decide_eq_true (by first|(with_reducible assumption)|assumption)
           have q19:((ji9):Int)<((x3_1.length:Int):Int):=of_decide_eq_true (by first|(with_reducible assumption)|assumption)
           obtain ⟨go19,co19,eo19,gb19,gl19,cl19,HG19⟩:=Kd.R_form HO_3.out (by omega)
           (first|cases eo19|(injection eo19 with ea_ en_ ec_;(first|subst ea_|(injection ea_ with ea_;subst ea_));subst ec_;clear en_))
           have GB19:=Aside0.mk gb19
           have GG19:=Aside0.mk HG19
           clear gb19 gl19 HG19
           (first|simp only [add_plain] at hx290_0|skip)
           obtain ⟨hx19_0,hf19_0⟩:=Kd.R_celln 0 HO_3.out ((ji9):Int) p19 q19
           replace p19:=eq_true p19
           replace q19:=eq_true q19
           have HP22:=Kd.R_putn HO_3.out ((ji9):Int) (Go.bits .or .u32 (rd x3_1 (ji9)) (ji18))
           rw [← Ny291.out] at HP22
           have HQ22:=Aside0.mk HP22
           clear HP22
           refine start_ (n:=24) (S:=fun w'=>w'.cell? ⟨go19,((ji9)).toNat,none⟩=some (.int .u32 (rd x3_1 (ji9)))) (ds:=[23]) #[false,false,false,false,false,false,false,false,false,false,false,false,false,false,false,false,false,false,false,false,false,false,false,false] (by kernel_rfl) rfl rfl (hx290_0) (fun hHeld=>?_);refine with_tabW insolvencyref1_limbs.tab6 insolvencyref1_limbs.bits6 (fun HT_ HW_=>?_)
           generalize wr.drew=w20 at HO_3 HB GG19 HQ22 hf19_0 hx19_0 hx290_0 hHeld ⊢
           refine pure_ (i:=0) (N:=some 18) (v:=?_) (a':=?_) #[true,false,false,false,false,false,false,false,false,false,false,false,false,false,false,false,false,false,false,false,false,false,false,false] rfl rfl (any_of HT_.out (by kernel_rfl)) (fun _ _ _ h=>h) (Or.inl ⟨by rfl,?_⟩) ?_ ?_
           rotate_left
           ·intro w'
            go_simp
            with_reducible rfl
           rotate_left
           ·simp only [Act.put,List.setIfInBounds_toArray,List.set_cons_zero,List.set_cons_succ,i64_w,i32_w]
            rfl
           refine pure_ (i:=1) (N:=some 19) (v:=?_) (a':=?_) #[true,true,false,false,false,false,false,false,false,false,false,false,false,false,false,false,false,false,false,false,false,false,false,false] rfl rfl (any_of HT_.out (by kernel_rfl)) (fun _ _ _ h=>h) (Or.inl ⟨by rfl,?_⟩) ?_ ?_
           rotate_left
           ·intro w'
            go_simp
            with_reducible rfl
           rotate_left
           ·simp only [Act.put,List.setIfInBounds_toArray,List.set_cons_zero,List.set_cons_succ,i64_w,i32_w]
            rfl
           refine pure_ (i:=2) (N:=some 20) (v:=?_) (a':=?_) #[true,true,true,false,false,false,false,false,false,false,false,false,false,false,false,false,false,false,false,false,false,false,false,false] rfl rfl (any_of HT_.out (by kernel_rfl)) (fun _ _ _ h=>h) (Or.inl ⟨by rfl,?_⟩) ?_ ?_
           rotate_left
           ·intro w'
            go_simp
            with_reducible rfl
           rotate_left
           ·simp only [Act.put,List.setIfInBounds_toArray,List.set_cons_zero,List.set_cons_succ,i64_w,i32_w]
            rfl
           refine pure_ (i:=3) (N:=some 21) (v:=?_) (a':=?_) #[true,true,true,true,false,false,false,false,false,false,false,false,false,false,false,false,false,false,false,false,false,false,false,false] rfl rfl (any_of HT_.out (by kernel_rfl)) (fun _ _ _ h=>h) (Or.inl ⟨by rfl,?_⟩) ?_ ?_
           rotate_left
           ·intro w'
            go_simp
            with_reducible rfl
           rotate_left
           ·simp only [Act.put,List.setIfInBounds_toArray,List.set_cons_zero,List.set_cons_succ,i64_w,i32_w]
            rfl
           refine pure_ (i:=4) (N:=some 22) (v:=?_) (a':=?_) #[true,true,true,true,true,false,false,false,false,false,false,false,false,false,false,false,false,false,false,false,false,false,false,false] rfl rfl (any_of HT_.out (by kernel_rfl)) (fun _ _ _ h=>h) (Or.inl ⟨by rfl,?_⟩) ?_ ?_
           rotate_left
           ·intro w'
            go_simp
            with_reducible rfl
           rotate_left
           ·simp only [Act.put,List.setIfInBounds_toArray,List.set_cons_zero,List.set_cons_succ,i64_w,i32_w]
            rfl
           refine pure_ (i:=5) (N:=some 23) (v:=?_) (a':=?_) #[true,true,true,true,true,true,false,false,false,false,false,false,false,false,false,false,false,false,false,false,false,false,false,false] rfl rfl (any_of HT_.out (by kernel_rfl)) (fun _ _ _ h=>h) (Or.inl ⟨by rfl,?_⟩) ?_ ?_
           rotate_left
           ·intro w'
            go_simp
            with_reducible rfl
           rotate_left
           ·simp only [Act.put,List.setIfInBounds_toArray,List.set_cons_zero,List.set_cons_succ,i64_w,i32_w]
            rfl
           refine pure_ (i:=6) (N:=some 24) (v:=?_) (a':=?_) #[true,true,true,true,true,true,true,false,false,false,false,false,false,false,false,false,false,false,false,false,false,false,false,false] rfl rfl (any_of HT_.out (by kernel_rfl)) (fun _ _ _ h=>h) (Or.inl ⟨by rfl,?_⟩) ?_ ?_
           rotate_left
           ·intro w'
            go_simp
            with_reducible rfl
           rotate_left
           ·simp only [Act.put,List.setIfInBounds_toArray,List.set_cons_zero,List.set_cons_succ,i64_w,i32_w]
            rfl
           refine pure_ (i:=8) (N:=some 26) (v:=?_) (a':=?_) #[true,true,true,true,true,true,true,false,true,false,false,false,false,false,false,false,false,false,false,false,false,false,false,false] rfl rfl (any_of HT_.out (by kernel_rfl)) (fun _ _ _ h=>h) (Or.inl ⟨by rfl,?_⟩) ?_ ?_
           rotate_left
           ·intro w'
            go_simp
            with_reducible rfl
           rotate_left
           ·simp only [Act.put,List.setIfInBounds_toArray,List.set_cons_zero,List.set_cons_succ,i64_w,i32_w]
            rfl
           refine pure_ (i:=9) (N:=some 27) (v:=?_) (a':=?_) #[true,true,true,true,true,true,true,false,true,true,false,false,false,false,false,false,false,false,false,false,false,false,false,false] rfl rfl (any_of HT_.out (by kernel_rfl)) (fun _ _ _ h=>h) (Or.inl ⟨by rfl,?_⟩) ?_ ?_
           rotate_left
           ·intro w'
            go_simp
            with_reducible rfl
           rotate_left
           ·simp only [Act.put,List.setIfInBounds_toArray,List.set_cons_zero,List.set_cons_succ,i64_w,i32_w]
            rfl
           refine pure_ (i:=10) (N:=some 28) (v:=?_) (a':=?_) #[true,true,true,true,true,true,true,false,true,true,true,false,false,false,false,false,false,false,false,false,false,false,false,false] rfl rfl (any_of HT_.out (by kernel_rfl)) (fun _ _ _ h=>h) (Or.inl ⟨by rfl,?_⟩) ?_ ?_
           rotate_left
           ·intro w'
            go_simp
            with_reducible rfl
           rotate_left
           ·simp only [Act.put,List.setIfInBounds_toArray,List.set_cons_zero,List.set_cons_succ,i64_w,i32_w]
            rfl
           refine pure_ (i:=11) (N:=some 29) (v:=?_) (a':=?_) #[true,true,true,true,true,true,true,false,true,true,true,true,false,false,false,false,false,false,false,false,false,false,false,false] rfl rfl (any_of HT_.out (by kernel_rfl)) (fun _ _ _ h=>h) (Or.inl ⟨by rfl,?_⟩) ?_ ?_
           rotate_left
           ·intro w'
            go_simp
            with_reducible rfl
           rotate_left
           ·simp only [Act.put,List.setIfInBounds_toArray,List.set_cons_zero,List.set_cons_succ,i64_w,i32_w]
            rfl
           refine pure_ (i:=12) (N:=some 30) (v:=?_) (a':=?_) #[true,true,true,true,true,true,true,false,true,true,true,true,true,false,false,false,false,false,false,false,false,false,false,false] rfl rfl (any_of HT_.out (by kernel_rfl)) (fun _ _ _ h=>h) (Or.inl ⟨by rfl,?_⟩) ?_ ?_
           rotate_left
           ·intro w'
            go_simp
            with_reducible rfl
           rotate_left
           ·simp only [Act.put,List.setIfInBounds_toArray,List.set_cons_zero,List.set_cons_succ,i64_w,i32_w]
            rfl
           refine pure_ (i:=13) (N:=some 31) (v:=?_) (a':=?_) #[true,true,true,true,true,true,true,false,true,true,true,true,true,true,false,false,false,false,false,false,false,false,false,false] rfl rfl (any_of HT_.out (by kernel_rfl)) (fun _ _ _ h=>h) (Or.inl ⟨by rfl,?_⟩) ?_ ?_
           rotate_left
           ·intro w'
            go_simp
            with_reducible rfl
           rotate_left
           ·simp only [Act.put,List.setIfInBounds_toArray,List.set_cons_zero,List.set_cons_succ,i64_w,i32_w]
            rfl
           refine pure_ (i:=16) (N:=some 34) (v:=?_) (a':=?_) #[true,true,true,true,true,true,true,false,true,true,true,true,true,true,false,false,true,false,false,false,false,false,false,false] rfl rfl (any_of HT_.out (by kernel_rfl)) (fun _ _ _ h=>h) (Or.inl ⟨by rfl,?_⟩) ?_ ?_
           rotate_left
           ·intro w'
            go_simp
            with_reducible rfl
           rotate_left
           ·simp only [Act.put,List.setIfInBounds_toArray,List.set_cons_zero,List.set_cons_succ,i64_w,i32_w]
            rfl
           refine pure_ (i:=17) (N:=some 35) (v:=?_) (a':=?_) #[true,true,true,true,true,true,true,false,true,true,true,true,true,true,false,false,true,true,false,false,false,false,false,false] rfl rfl (any_of HT_.out (by kernel_rfl)) (fun _ _ _ h=>h) (Or.inl ⟨by rfl,?_⟩) ?_ ?_
           rotate_left
           ·intro w'
            go_simp
            with_reducible rfl
           rotate_left
           ·simp only [Act.put,List.setIfInBounds_toArray,List.set_cons_zero,List.set_cons_succ,i64_w,i32_w]
            rfl
           refine pure_ (i:=18) (N:=some 36) (v:=?_) (a':=?_) #[true,true,true,true,true,true,true,false,true,true,true,true,true,true,false,false,true,true,true,false,false,false,false,false] rfl rfl (any_of HT_.out (by kernel_rfl)) (fun _ _ _ h=>h) (Or.inl ⟨by rfl,?_⟩) ?_ ?_
           rotate_left
           ·intro w'
            go_simp
            with_reducible rfl
           rotate_left
           ·simp only [Act.put,List.setIfInBounds_toArray,List.set_cons_zero,List.set_cons_succ,i64_w,i32_w]
            rfl
           refine pure_ (i:=19) (N:=some 37) (v:=?_) (a':=?_) #[true,true,true,true,true,true,true,false,true,true,true,true,true,true,false,false,true,true,true,true,false,false,false,false] rfl rfl (any_of HT_.out (by kernel_rfl)) (fun _ _ _ h=>h) (Or.inl ⟨by rfl,?_⟩) ?_ ?_
           rotate_left
           ·intro w'
            go_simp
            with_reducible rfl
           rotate_left
           ·simp only [Act.put,List.setIfInBounds_toArray,List.set_cons_zero,List.set_cons_succ,i64_w,i32_w]
            rfl
           refine take_ (i:=7) (N:=some 25) (v:=?_) (a':=?_) #[true,true,true,true,true,true,true,true,true,true,true,true,true,true,false,false,true,true,true,true,false,false,false,false] rfl rfl (take_ofW HT_.out HW_.out (by kernel_rfl)) (fun _ _ _ h=>h) (Or.inl ⟨by rfl,?_⟩) hHeld ?_ ?_
           rotate_left
           ·intro w' s0
            go_simp
            with_reducible rfl
           rotate_left
           ·simp only [Act.put,List.setIfInBounds_toArray,List.set_cons_zero,List.set_cons_succ,i64_w,i32_w]
            rfl
           refine take_ (i:=14) (N:=some 32) (v:=?_) (a':=?_) #[true,true,true,true,true,true,true,true,true,true,true,true,true,true,true,false,true,true,true,true,false,false,false,false] rfl rfl (take_ofW HT_.out HW_.out (by kernel_rfl)) (fun _ _ _ h=>h) (Or.inl ⟨by rfl,?_⟩) hHeld ?_ ?_
           rotate_left
           ·intro w' s0
            go_simp
            with_reducible rfl
           rotate_left
           ·simp only [Act.put,List.setIfInBounds_toArray,List.set_cons_zero,List.set_cons_succ,i64_w,i32_w]
            rfl
           refine pure_ (i:=15) (N:=some 33) (v:=?_) (a':=?_) #[true,true,true,true,true,true,true,true,true,true,true,true,true,true,true,true,true,true,true,true,false,false,false,false] rfl rfl (any_of HT_.out (by kernel_rfl)) (fun _ _ _ h=>h) (Or.inl ⟨by rfl,?_⟩) ?_ ?_
           rotate_left
           ·intro w'
            go_simp
            with_reducible rfl
           rotate_left
           ·simp only [Act.put,List.setIfInBounds_toArray,List.set_cons_zero,List.set_cons_succ,i64_w,i32_w]
            rfl
           refine pure_ (i:=20) (N:=some 38) (v:=?_) (a':=?_) #[true,true,true,true,true,true,true,true,true,true,true,true,true,true,true,true,true,true,true,true,true,false,false,false] rfl rfl (any_of HT_.out (by kernel_rfl)) (fun _ _ _ h=>h) (Or.inl ⟨by rfl,?_⟩) ?_ ?_
           rotate_left
           ·intro w'
            go_simp
            with_reducible rfl
           rotate_left
           ·simp only [Act.put,List.setIfInBounds_toArray,List.set_cons_zero,List.set_cons_succ,i64_w,i32_w]
            rfl
           refine pure_ (i:=21) (N:=some 39) (v:=?_) (a':=?_) #[true,true,true,true,true,true,true,true,true,true,true,true,true,true,true,true,true,true,true,true,true,true,false,false] rfl rfl (any_of HT_.out (by kernel_rfl)) (fun _ _ _ h=>h) (Or.inl ⟨by rfl,?_⟩) ?_ ?_
           rotate_left
           ·intro w'
            go_simp
            with_reducible rfl
           rotate_left
           ·simp only [Act.put,List.setIfInBounds_toArray,List.set_cons_zero,List.set_cons_succ,i64_w,i32_w]
            rfl
           refine pure_ (i:=22) (N:=some 40) (v:=?_) (a':=?_) #[true,true,true,true,true,true,true,true,true,true,true,true,true,true,true,true,true,true,true,true,true,true,true,false] rfl rfl (any_of HT_.out (by kernel_rfl)) (fun _ _ _ h=>h) (Or.inl ⟨by rfl,?_⟩) ?_ ?_
           rotate_left
           ·intro w'
            go_simp
            with_reducible rfl
           rotate_left
           ·simp only [Act.put,List.setIfInBounds_toArray,List.set_cons_zero,List.set_cons_succ,i64_w,i32_w]
            rfl
           refine last_ (i:=23) (N:=none) #[true,true,true,true,true,true,true,true,true,true,true,true,true,true,true,true,true,true,true,true,true,true,true,true] rfl rfl (one_of HT_.out (by kernel_rfl)) (by decide) (fun K hK=>?_)
           refine skip_ (w1:=?_) (by rfl) rfl ?_ ?_
           rotate_left
           ·go_simp
            rfl
           refine hK.out _ _ ?_
           clear hK K
           refine done_ (done_of HT_.out (by kernel_rfl)) ?_
           try go_wp2
           go_roundg k1
           case measure=>have:=HK1.out;omega
           case rel=>exact ⟨(y291),(wrap64 (x4_1+1)),(by first|rfl|(simp;done)|(simp [*];done)),H',⟨by have:=HK1.out;omega⟩,⟨by (with_reducible repeat (first|apply Kd.R_alloc|apply Kd.R_drewN|apply Kd.R_drew));first|exact HQ22.out|(subst_vars;exact HQ22.out)⟩,⟨by repeat (first|(with_reducible first|exact HB.out|apply below_alloc|apply pw_below_drewN|apply below_drew1|refine below_set ?_ GB19.out)|exact HB.out)⟩⟩
          ·rw [if_neg c17] at H
           exact absurd H (by simp)
         ·rw [if_neg c14] at H
          exact absurd H (by simp)
        ·rw [if_neg c13] at H
         exact absurd H (by simp)
       ·rw [if_neg c11] at H
        exact absurd H (by simp)
      ·rw [if_neg c10] at H
       exact absurd H (by simp)
     ·rw [if_neg c8] at H
      have c8b0:decide (x4_1<(t286.size:Int))=false:=decide_eq_false c8
      clear c8
      obtain rfl:=Option.some.inj H
      go_wp2
      go_ret
      exact ⟨_,by first|rfl|(simp [errW_none,errW_some] <;> rfl)|(simp only [← hji3];first|rfl|(simp [errW_none,errW_some] <;> rfl))|(simp [*,errW_none,errW_some] <;> rfl),by (with_reducible repeat (first|apply Kd.R_alloc|apply Kd.R_drewN|apply Kd.R_drew));exact HO_3.out,by repeat (first|(with_reducible first|exact HB.out|apply below_alloc|apply pw_below_drewN|apply below_drew1)|exact HB.out)⟩
  ·rw [if_neg c5] at H
   exact absurd H (by simp)
 ·rw [if_neg c4] at H
  exact absurd H (by simp)
end Go.Proofs.YtjaflmhdclmolaaDoor.F
end
section
namespace Go.Proofs.YtjaflmhdclmolaaDoor.F
open Go.RowKit Go.Proofs.YtjaflmhdclmolaaDoorW.PrintWords Go.Proofs.YtjaflmhdclmolaaDoorW.PrintLast Go.Proofs.YtjaflmhdclmolaaDoorW.PrintMore
attribute [local go_sem] max2_int min2_int max_two min_two max_three min_three max_four min_four   
set_option linter.unusedVariables false
set_option linter.unusedSimpArgs false
def insolvencyref1_order.l0:Nat→List Int→List Int→Int→Option (Int)
 | 0,_,_,_=>none
 | k+1,x0,x1,x5=>if x5≥0 then (if 0≤x5 then (if x5<(x0.length:Int) then (if x5<(x1.length:Int) then (if (rd x0 x5)=(rd x1 x5) then (insolvencyref1_order.l0 k x0 x1 (wrap64 (x5-1))) else (if (rd x0 x5)<(rd x1 x5) then (some (-1)) else (some 1))) else (none)) else (none)) else (none)) else (some 0)
def insolvencyref1_order.f (k:Nat) (l0:List Int) (l1:List Int):Option (Int):=if (l0.length:Int)=(l1.length:Int) then (insolvencyref1_order.l0 k l0 l1 (wrap64 ((l0.length:Int)-1))) else (if (l0.length:Int)<(l1.length:Int) then (some (-1)) else (some 1))
theorem insolvencyref1_order.mono_l:∀ k,(∀ y0 y1 y2,LeO (insolvencyref1_order.l0 k y0 y1 y2) (insolvencyref1_order.l0 (k+1) y0 y1 y2))
 | 0=>fun _ _ _ r h=>by simp [insolvencyref1_order.l0] at h
 | k+1=>by
  have ih0:=insolvencyref1_order.mono_l k
  ·intro y0 y1 y2
   unfold insolvencyref1_order.l0
   repeat' first
   | (with_reducible exact ih0 _ _ _)
   | (with_reducible exact LeO.refl _)
   | (with_reducible exact LeO.none _)
   | (with_reducible refine LeO.ite ?_ ?_)
   | (with_reducible refine LeO.bind ?_ (fun _=>?_))
   | exact ih0 _ _ _
   | exact LeO.none _
   | refine LeO.ite ?_ ?_
   | refine LeO.bind ?_ (fun _=>?_)
theorem insolvencyref1_order.mono:∀ a0 a1 k,LeO (insolvencyref1_order.f k a0 a1) (insolvencyref1_order.f (k+1) a0 a1):=by
 intro a0 a1 k
 have ih0:=insolvencyref1_order.mono_l k
 unfold insolvencyref1_order.f
 repeat' first
  | (with_reducible exact ih0 _ _ _)
  | (with_reducible exact LeO.refl _)
  | (with_reducible exact LeO.none _)
  | (with_reducible refine LeO.ite ?_ ?_)
  | (with_reducible refine LeO.bind ?_ (fun _=>?_))
  | exact ih0 _ _ _
  | exact LeO.none _
  | refine LeO.ite ?_ ?_
  | refine LeO.bind ?_ (fun _=>?_)
set_option maxHeartbeats 8000000 in
set_option maxRecDepth 100000 in
theorem insolvencyref1_order.calls (k:Nat) (A0:Option Addr) (c0:Nat) (l0:List Int) (A1:Option Addr) (c1:Nat) (l1:List Int) (r:Int) (w:World) (hr0:Kd.C (Kd.int .u32) w A0 l0.length l0) (hc0:l0.length≤c0) (hr1:Kd.C (Kd.int .u32) w A1 l1.length l1) (hc1:l1.length≤c1) (h:insolvencyref1_order.f k l0 l1=some r) :
 Calls Tryd.prog 60 #[.slice A0 l0.length c0,.slice A1 l1.length c1] w fun e w'=>e = .returned (.int .i64 r)∧Drawn0 w w':=by
 have HR0:=Aside0.mk hr0
 have HC0:=Aside0.mk hc0
 clear hr0 hc0
 have HR1:=Aside0.mk hr1
 have HC1:=Aside0.mk hc1
 clear hr1 hc1
 have H:(if (l0.length:Int)=(l1.length:Int) then (insolvencyref1_order.l0 k l0 l1 (wrap64 ((l0.length:Int)-1))) else (if (l0.length:Int)<(l1.length:Int) then (some (-1)) else (some 1)))=some r:=h
 clear h
 by_cases c3:(l0.length:Int)=(l1.length:Int)
 ·rw [if_pos c3] at H
  have c3b0:((l0.length:Int) == (l1.length:Int))=true:=beq_iff_eq.mpr c3
  have c3b1:((l0.length:Int) != (l1.length:Int))=false:=bne_eq_false_iff_eq.mpr c3
  have c3b2:(l0.length == l1.length)=true:=by first|simpa using c3|(simp at c3 ⊢;omega)
  clear c3
  have H':=Aside0.mk H
  clear H
  go_enter Tryd.func60,Tryd.ntmps60
  go_wp2
  repeat (go_quiet (fail);try go_wp2)
  go_loopg [5] k (fun kq v5 w'=>∃ (x5_1:Int),v5 = .int .i64 x5_1∧Aside0 (insolvencyref1_order.l0 kq l0 l1 x5_1=some r)∧Aside0 (kq≤k)∧Drawn0 w w')
  case atStart=>exact ⟨(wrap64 ((l0.length:Int)-1)),(by first|rfl|(simp;done)|(simp [*];done)),H',⟨Nat.le_refl _⟩,by repeat (first|exact Drawn0.refl _|apply Drawn0.step)⟩
  case round=>
   clear H'
   try clear c1
   try clear p2
   try clear c3
   try clear c3b0
   try clear c3b1
   try clear c3b2
   obtain ⟨x5_1,rfl,HA,HK1,⟨m1,rfl⟩⟩:=hrel
   cases gk with
   | zero=>exact absurd HA.out (by simp [insolvencyref1_order.l0])
   | succ k1=>
    have H:=HA.out
    clear HA
    simp only [insolvencyref1_order.l0] at H
    by_cases c4:x5_1≥0
    ·rw [if_pos c4] at H
     have c4b0:decide (0≤x5_1)=true:=decide_eq_true c4
     clear c4
     by_cases c5:0≤x5_1
     ·rw [if_pos c5] at H
      have c5b0:decide (0≤x5_1)=true:=decide_eq_true c5
      clear c5
      by_cases c6:x5_1<(l0.length:Int)
      ·rw [if_pos c6] at H
       have c6b0:decide (x5_1<(l0.length:Int))=true:=decide_eq_true c6
       clear c6
       by_cases c7:x5_1<(l1.length:Int)
       ·rw [if_pos c7] at H
        have c7b0:decide (x5_1<(l1.length:Int))=true:=decide_eq_true c7
        clear c7
        by_cases c8:(rd l0 x5_1)=(rd l1 x5_1)
        ·rw [if_pos c8] at H
         have c8b0:((rd l0 x5_1) == (rd l1 x5_1))=true:=beq_iff_eq.mpr c8
         have c8b1:((rd l0 x5_1) != (rd l1 x5_1))=false:=bne_eq_false_iff_eq.mpr c8
         clear c8
         have H':=Aside0.mk H
         clear H
         have p292:0≤(x5_1:Int):=of_decide_eq_true (by first|(with_reducible assumption)|assumption)
         have q292:x5_1<(l0.length:Int):=of_decide_eq_true (by first|(with_reducible assumption)|assumption)
         obtain ⟨ad292,e292,hx292_0⟩:=Kd.at_int HR0.out x5_1 p292 q292
         cases e292
         replace p292:=eq_true p292
         replace q292:=eq_true q292
         have p293:0≤(x5_1:Int):=of_decide_eq_true (by first|(with_reducible assumption)|assumption)
         have q293:x5_1<(l1.length:Int):=of_decide_eq_true (by first|(with_reducible assumption)|assumption)
         obtain ⟨ad293,e293,hx293_0⟩:=Kd.at_int HR1.out x5_1 p293 q293
         cases e293
         replace p293:=eq_true p293
         replace q293:=eq_true q293
         go_wp2
         repeat (go_quiet (fail);try go_wp2)
         go_roundg k1
         case measure=>have:=HK1.out;omega
         case rel=>exact ⟨(wrap64 (x5_1-1)),(by first|rfl|(simp;done)|(simp [*];done)),H',⟨by have:=HK1.out;omega⟩,by repeat (first|exact Drawn0.refl _|apply Drawn0.step)⟩
        ·rw [if_neg c8] at H
         have c8b0:((rd l0 x5_1) == (rd l1 x5_1))=false:=beq_eq_false_iff_ne.mpr c8
         have c8b1:((rd l0 x5_1) != (rd l1 x5_1))=true:=bne_iff_ne.mpr c8
         by_cases c9:(rd l0 x5_1)<(rd l1 x5_1)
         ·rw [if_pos c9] at H
          have c9b0:decide ((rd l0 x5_1)<(rd l1 x5_1))=true:=decide_eq_true c9
          clear c9
          obtain rfl:=Option.some.inj H
          have p292:0≤(x5_1:Int):=of_decide_eq_true (by first|(with_reducible assumption)|assumption)
          have q292:x5_1<(l0.length:Int):=of_decide_eq_true (by first|(with_reducible assumption)|assumption)
          obtain ⟨ad292,e292,hx292_0⟩:=Kd.at_int HR0.out x5_1 p292 q292
          cases e292
          replace p292:=eq_true p292
          replace q292:=eq_true q292
          have p293:0≤(x5_1:Int):=of_decide_eq_true (by first|(with_reducible assumption)|assumption)
          have q293:x5_1<(l1.length:Int):=of_decide_eq_true (by first|(with_reducible assumption)|assumption)
          obtain ⟨ad293,e293,hx293_0⟩:=Kd.at_int HR1.out x5_1 p293 q293
          cases e293
          replace p293:=eq_true p293
          replace q293:=eq_true q293
          have p294:0≤(x5_1:Int):=of_decide_eq_true (by first|(with_reducible assumption)|assumption)
          have q294:x5_1<(l0.length:Int):=of_decide_eq_true (by first|(with_reducible assumption)|assumption)
          obtain ⟨ad294,e294,hx294_0⟩:=Kd.at_int HR0.out x5_1 p294 q294
          obtain rfl:ad292=ad294:=(by injection e294)
          replace p294:=eq_true p294
          replace q294:=eq_true q294
          have p295:0≤(x5_1:Int):=of_decide_eq_true (by first|(with_reducible assumption)|assumption)
          have q295:x5_1<(l1.length:Int):=of_decide_eq_true (by first|(with_reducible assumption)|assumption)
          obtain ⟨ad295,e295,hx295_0⟩:=Kd.at_int HR1.out x5_1 p295 q295
          obtain rfl:ad293=ad295:=(by injection e295)
          replace p295:=eq_true p295
          replace q295:=eq_true q295
          go_wp2
          repeat (go_quiet (fail);try go_wp2)
          go_ret
          exact ⟨by first|rfl|(simp;done)|(simp [*];done),by repeat (first|exact Drawn0.refl _|apply Drawn0.step)⟩
         ·rw [if_neg c9] at H
          have c9b0:decide ((rd l0 x5_1)<(rd l1 x5_1))=false:=decide_eq_false c9
          clear c9
          obtain rfl:=Option.some.inj H
          have p292:0≤(x5_1:Int):=of_decide_eq_true (by first|(with_reducible assumption)|assumption)
          have q292:x5_1<(l0.length:Int):=of_decide_eq_true (by first|(with_reducible assumption)|assumption)
          obtain ⟨ad292,e292,hx292_0⟩:=Kd.at_int HR0.out x5_1 p292 q292
          cases e292
          replace p292:=eq_true p292
          replace q292:=eq_true q292
          have p293:0≤(x5_1:Int):=of_decide_eq_true (by first|(with_reducible assumption)|assumption)
          have q293:x5_1<(l1.length:Int):=of_decide_eq_true (by first|(with_reducible assumption)|assumption)
          obtain ⟨ad293,e293,hx293_0⟩:=Kd.at_int HR1.out x5_1 p293 q293
          cases e293
          replace p293:=eq_true p293
          replace q293:=eq_true q293
          have p294:0≤(x5_1:Int):=of_decide_eq_true (by first|(with_reducible assumption)|assumption)
          have q294:x5_1<(l0.length:Int):=of_decide_eq_true (by first|(with_reducible assumption)|assumption)
          obtain ⟨ad294,e294,hx294_0⟩:=Kd.at_int HR0.out x5_1 p294 q294
          obtain rfl:ad292=ad294:=(by injection e294)
          replace p294:=eq_true p294
          replace q294:=eq_true q294
          have p295:0≤(x5_1:Int):=of_decide_eq_true (by first|(with_reducible assumption)|assumption)
          have q295:x5_1<(l1.length:Int):=of_decide_eq_true (by first|(with_reducible assumption)|assumption)
          obtain ⟨ad295,e295,hx295_0⟩:=Kd.at_int HR1.out x5_1 p295 q295
          obtain rfl:ad293=ad295:=(by injection e295)
          replace p295:=eq_true p295
          replace q295:=eq_true q295
          go_wp2
          repeat (go_quiet (fail);try go_wp2)
          go_ret
          exact ⟨by first|rfl|(simp;done)|(simp [*];done),by repeat (first|exact Drawn0.refl _|apply Drawn0.step)⟩
       ·rw [if_neg c7] at H
        exact absurd H (by simp)
      ·rw [if_neg c6] at H
       exact absurd H (by simp)
     ·rw [if_neg c5] at H
      exact absurd H (by simp)
    ·rw [if_neg c4] at H
     have c4b0:decide (0≤x5_1)=false:=decide_eq_false c4
     clear c4
     obtain rfl:=Option.some.inj H
     go_wp2
     repeat (go_quiet (fail);try go_wp2)
     go_ret
     exact ⟨by first|rfl|(simp;done)|(simp [*];done),by repeat (first|exact Drawn0.refl _|apply Drawn0.step)⟩
 ·rw [if_neg c3] at H
  have c3b0:((l0.length:Int) == (l1.length:Int))=false:=beq_eq_false_iff_ne.mpr c3
  have c3b1:((l0.length:Int) != (l1.length:Int))=true:=bne_iff_ne.mpr c3
  have c3b2:(l0.length == l1.length)=false:=by first|simpa using c3|(simp at c3 ⊢;omega)
  by_cases c10:(l0.length:Int)<(l1.length:Int)
  ·rw [if_pos c10] at H
   have c10b0:decide ((l0.length:Int)<(l1.length:Int))=true:=decide_eq_true c10
   have c10b1:decide (l0.length<l1.length)=true:=decide_eq_true (Int.ofNat_lt.mp c10)
   clear c10
   obtain rfl:=Option.some.inj H
   go_enter Tryd.func60,Tryd.ntmps60
   go_wp2
   repeat (go_quiet (fail);try go_wp2)
   go_ret
   exact ⟨by first|rfl|(simp;done)|(simp [*];done),by repeat (first|exact Drawn0.refl _|apply Drawn0.step)⟩
  ·rw [if_neg c10] at H
   have c10b0:decide ((l0.length:Int)<(l1.length:Int))=false:=decide_eq_false c10
   have c10b1:decide (l0.length<l1.length)=false:=decide_eq_false (fun h=>c10 (Int.ofNat_lt.mpr h))
   clear c10
   obtain rfl:=Option.some.inj H
   go_enter Tryd.func60,Tryd.ntmps60
   go_wp2
   repeat (go_quiet (fail);try go_wp2)
   go_ret
   exact ⟨by first|rfl|(simp;done)|(simp [*];done),by repeat (first|exact Drawn0.refl _|apply Drawn0.step)⟩
end Go.Proofs.YtjaflmhdclmolaaDoor.F
end
section
namespace Go.Proofs.YtjaflmhdclmolaaDoor.Num
open Go.RowKit Go.Proofs.YtjaflmhdclmolaaDoorW.PrintWords Go.Proofs.YtjaflmhdclmolaaDoorW.PrintLast Go.Proofs.YtjaflmhdclmolaaDoorW.PrintMore Go.Proofs.YtjaflmhdclmolaaDoor.F
set_option linter.unusedVariables false
theorem normalize_eq (s:ByteArray):natural_Normalize.f s=some (S (B s)):=by
 unfold natural_Normalize.f strings_TrimLeft.f
 rw [if_pos (show (⟨#[0]⟩:ByteArray).size=1 from rfl),if_pos (show bt ⟨#[0]⟩ 0<128 by decide)]
 show some _=some _
 rw [show (⟨#[0]⟩:ByteArray).data.toList=[0] from rfl,Lib.trimLeftS_one,← norm_eq]
 rfl
theorem trim_loop (l:List Int) (hl:l.length≤1000000000) (n:Nat) (hn:n≤l.length):Ev (fun k=>natural_limbs_trim.l0 k l (n:Int)) (tr (l.take n)):=by
 induction n with
 | zero=>
  refine Ev.step (f:=fun _=>some (tr (l.take 0))) (fun k=>?_) (Ev.now _)
  simp only [natural_limbs_trim.l0]
  rw [if_neg (by omega),if_pos (by omega),if_pos (by omega)]
  rfl
 | succ n ih=>
  have ih:=ih (by omega)
  obtain ⟨d,x,r,hdx,hd⟩:=split_at l n (by omega)
  have ht:l.take (n+1)=d ++ [x]:=by
   rw [hdx,← hd]
   rw [List.take_append,List.take_of_length_le (by omega)]
   simp
  have ht0:l.take n=d:=by
   rw [hdx,← hd,List.take_left]
  have hw:wrap64 (((n+1:Nat):Int)-1)=(n:Int):=by rw [w64 (by omega) (by omega)];omega
  have hr:rd l (n:Int)=x:=by rw [hdx];exact rd_at d x r _ (by omega)
  by_cases hx:x=0
  ·rw [ht0] at ih
   rw [ht,hx,tr_app_zero]
   refine Ev.step (fun k=>?_) ih
   simp only [natural_limbs_trim.l0]
   rw [if_pos (by omega),hw,if_pos (by omega),if_pos (by omega),if_pos (by rw [hr,hx])]
  ·rw [ht,tr_app_ne hx,← ht]
   refine Ev.step (f:=fun _=>some (l.take (n+1))) (fun k=>?_) (Ev.now _)
   simp only [natural_limbs_trim.l0]
   rw [if_pos (by omega),hw,if_pos (by omega),if_pos (by omega),if_neg (by rw [hr];exact hx),if_pos (by omega),if_pos (by omega),Int.toNat_natCast]
theorem trim_ev (l:List Int) (hl:l.length≤1000000000):Ev (fun k=>natural_limbs_trim.f k l) (tr l):=by
 have h:=trim_loop l hl l.length (Nat.le_refl _)
 rw [List.take_length] at h
 exact h
theorem bt_get (s:ByteArray) (i:Nat) (h:i<s.size):bt s (i:Int)=((s.data.toList[i]'(by rw [Array.length_toList];exact h)).toNat:Int):=by
 unfold bt
 rw [dif_pos (by rw [Int.toNat_natCast];exact h)]
 rfl
end Go.Proofs.YtjaflmhdclmolaaDoor.Num
end
section
namespace Go.Proofs.YtjaflmhdclmolaaDoor.Num
set_option linter.unusedVariables false
def dval (l:List UInt8):Nat:=l.foldl (fun a b=>a*10+(b.toNat-48)) 0
theorem dval_nil:dval []=0:=rfl
theorem dval_snoc (l:List UInt8) (b:UInt8):dval (l ++ [b])=dval l*10+(b.toNat-48):=by
 unfold dval;rw [List.foldl_append];rfl
def dec (n:Nat):List UInt8:=if _h:n=0 then [] else dec (n/10) ++ [UInt8.ofNat (48+n%10)]
termination_by n
theorem dec_zero:dec 0=[]:=by rw [dec];rfl
theorem dec_pos {n:Nat} (h:n≠0):dec n=dec (n/10) ++ [UInt8.ofNat (48+n%10)]:=by rw [dec];rw [dif_neg h]
def Ds (l:List UInt8):Prop:=∀ b ∈ l,48≤b.toNat∧b.toNat≤57
theorem Ds.left {a b:List UInt8} (h:Ds (a ++ b)):Ds a:=fun x hx=>h x (List.mem_append_left _ hx)
theorem Ds.last {a:List UInt8} {x:UInt8} (h:Ds (a ++ [x])):48≤x.toNat∧x.toNat≤57:=h x (List.mem_append_right _ List.mem_cons_self)
theorem Ds.snoc {a:List UInt8} {x:UInt8} (h:Ds a) (h0:48≤x.toNat) (h1:x.toNat≤57):Ds (a ++ [x]):=by
 intro y hy
 rcases List.mem_append.1 hy with q|q
 ·exact h y q
 ·rw [List.mem_singleton.1 q];exact ⟨h0,h1⟩
theorem Ds.nil:Ds []:=fun _ h=>by cases h
theorem dcanon (l:List UInt8):Ds l→l.dropWhile (fun b=>b == 48)=dec (dval l):=by
 refine snoc_ind (P:=fun l=>Ds l→l.dropWhile (fun b=>b == 48)=dec (dval l)) ?_ ?_ l.length l rfl
 ·intro _
  rw [dval_nil,dec_zero];rfl
 ·intro a x ih hd
  have hx:=hd.last
  rw [dval_snoc,List.dropWhile_append,ih hd.left]
  by_cases hv:dval a=0
  ·rw [hv,dec_zero]
   simp only [List.isEmpty_nil,if_true,Nat.zero_mul,Nat.zero_add]
   by_cases h:x.toNat=48
   ·have hx0:x=48:=UInt8.toNat_inj.1 h
    rw [h,dec_zero,hx0]
    rfl
   ·have hne:(x == 48)=false:=by
     rw [beq_eq_false_iff_ne]
     intro e
     rw [e] at h
     exact h rfl
    have hn:x.toNat-48≠0:=by omega
    have e2:UInt8.ofNat (48+(x.toNat-48)%10)=x:=by
     apply UInt8.toNat_inj.1
     rw [UInt8.toNat_ofNat']
     omega
    rw [dec_pos hn,Nat.div_eq_of_lt (by omega),dec_zero,e2]
    simp [List.dropWhile,hne]
  ·have hn:dval a*10+(x.toNat-48)≠0:=by omega
   have hne:(dec (dval a)).isEmpty=false:=by rw [dec_pos hv];simp
   rw [hne,dec_pos hn]
   have e1:(dval a*10+(x.toNat-48))/10=dval a:=by omega
   have e2:UInt8.ofNat (48+(dval a*10+(x.toNat-48))%10)=x:=by
    apply UInt8.toNat_inj.1
    rw [UInt8.toNat_ofNat']
    omega
   rw [e1,e2]
   rfl
theorem dval_lt (l:List UInt8):Ds l→dval l<10 ^ l.length:=by
 refine snoc_ind (P:=fun l=>Ds l→dval l<10 ^ l.length) ?_ ?_ l.length l rfl
 ·intro _;decide
 ·intro a x ih hd
  have:=ih hd.left
  have hx:=hd.last
  rw [dval_snoc,List.length_append,List.length_singleton,Nat.pow_succ]
  omega
theorem dec_of {l:List UInt8} (h:Ds l) (h0:∀ b r,l=b :: r→b≠48):dec (dval l)=l:=by
 rw [← dcanon l h]
 cases l with
 | nil=>rfl
 | cons b r=>exact List.dropWhile_cons_of_neg (by simpa using h0 b r rfl)
def ldec:List Int→Int
 | []=>0
 | x :: r=>(x-48)+10*ldec r
def Dg (l:List Int):Prop:=∀ x ∈ l,48≤x∧x≤57
theorem Dg.nil:Dg []:=fun _ h=>by cases h
theorem Dg.app {a b:List Int} (h:Dg a) (h2:Dg b):Dg (a ++ b):=fun x hx=>(List.mem_append.1 hx).elim (h x) (h2 x)
theorem Dg.one {x:Int} (h0:48≤x) (h1:x≤57):Dg [x]:=fun y hy=>by rw [List.mem_singleton.1 hy];exact ⟨h0,h1⟩
theorem ldec_app (a b:List Int):ldec (a ++ b)=ldec a+10 ^ a.length*ldec b:=by
 induction a with
 | nil=>simp [ldec]
 | cons x r ih=>
  simp only [List.cons_append,ldec,List.length_cons,ih,Int.pow_succ]
  rw [Int.mul_add,Int.add_assoc,← Int.mul_assoc,Int.mul_comm 10 (10 ^ r.length)]
theorem dval_nums (l:List Int) (h:Dg l):(dval (l.reverse.map fun n=>UInt8.ofNat n.toNat):Int)=ldec l:=by
 induction l with
 | nil=>rfl
 | cons x r ih=>
  have h0:=h x List.mem_cons_self
  rw [List.reverse_cons,List.map_append,List.map_cons,List.map_nil,dval_snoc,ldec]
  have:=ih (fun y hy=>h y (List.mem_cons_of_mem _ hy))
  rw [UInt8.toNat_ofNat']
  omega
theorem ds_nums (l:List Int) (h:Dg l):Ds (l.reverse.map fun n=>UInt8.ofNat n.toNat):=by
 intro b hb
 obtain ⟨x,hx,rfl⟩:=List.mem_map.1 hb
 have:=h x (List.mem_reverse.1 hx)
 rw [UInt8.toNat_ofNat']
 omega
end Go.Proofs.YtjaflmhdclmolaaDoor.Num
end
section
namespace Go.Proofs.YtjaflmhdclmolaaDoor.Num
open Go.RowKit Go.Proofs.YtjaflmhdclmolaaDoorW.PrintWords Go.Proofs.YtjaflmhdclmolaaDoorW.PrintLast Go.Proofs.YtjaflmhdclmolaaDoorW.PrintMore Go.Proofs.YtjaflmhdclmolaaDoor.F
set_option linter.unusedVariables false
def Ln (n:Nat):List Int:=if _h:n=0 then [] else ((n%4294967296:Nat):Int) :: Ln (n/4294967296)
termination_by n
def L (n:Int):List Int:=Ln n.toNat
theorem Ln_zero:Ln 0=[]:=by rw [Ln];rfl
theorem Ln_pos {n:Nat} (h:n≠0):Ln n=((n%4294967296:Nat):Int) :: Ln (n/4294967296):=by rw [Ln];rw [dif_neg h]
theorem Nz.cons {x:Int} {r:List Int} (h:Nz r) (hx:r=[]→x≠0):Nz (x :: r):=by
 cases r with
 | nil=>exact hx rfl
 | cons y r=>exact h
theorem Ln_is (n:Nat):Is (Ln n) (n:Int):=by
 induction n using Nat.strongRecOn with
 | _ n ih=>
  by_cases h:n=0
  ·rw [h,Ln_zero];exact Is.nil
  ·rw [Ln_pos h]
   have ih:=ih (n/4294967296) (by omega)
   refine ⟨Dig.cons (by omega) (by omega) ih.1,Nz.cons ih.2.1 (fun e=>?_),?_⟩
   ·have h2:=ih.2.2
    rw [e] at h2
    simp only [val] at h2
    omega
   ·simp only [val];rw [ih.2.2];omega
theorem L_is {n:Int} (h:0≤n):Is (L n) n:=by
 have:=Ln_is n.toNat
 rw [Int.toNat_of_nonneg h] at this
 exact this
theorem Is.eq {l:List Int} {n:Int} (h:Is l n):l=L n:=h.unique (L_is h.nonneg)
theorem L_dig {n:Int} (h:0≤n):Dig (L n):=(L_is h).1
theorem L_val {n:Int} (h:0≤n):val (L n)=n:=(L_is h).2.2
theorem L_zero:L 0=[]:=Ln_zero
theorem tr_L {l:List Int} (h:Dig l):tr l=L (val l):=(tr_is h).eq
theorem L_ne {n:Int} (h:0<n):L n≠[]:=fun e=>by have:=L_val (n:=n) (by omega);rw [e] at this;simp only [val] at this;omega
theorem len_le {l:List Int} : ∀ {n:Int} {m:Nat},Is l n→n<4294967296 ^ m→l.length≤m:=by
 induction l with
 | nil=>intro n m _ _;exact Nat.zero_le _
 | cons x r ih=>
  intro n m h hn
  have h0:=h.1.head
  have h2:=h.2.2
  simp only [val] at h2
  have hv:=val_nonneg h.1.tail
  cases m with
  | zero=>
   have:=h.pos (by simp)
   simp at hn
   omega
  | succ m=>
   have:=ih (m:=m) ⟨h.1.tail,h.2.1.tail,rfl⟩ (by rw [Int.pow_succ] at hn;generalize (4294967296:Int) ^ m=q at hn ⊢;omega)
   simp only [List.length_cons];omega
theorem L_len {n:Int} {m:Nat} (h0:0≤n) (h:n<4294967296 ^ m):(L n).length≤m:=len_le (L_is h0) h
theorem L_lt {n:Int} (h0:0≤n):n<4294967296 ^ (L n).length:=by
 have:=val_lt (L_dig h0)
 rw [L_val h0] at this
 exact this
theorem L_mono {a b:Int} (h0:0≤a) (h:a≤b):(L a).length≤(L b).length:=L_len h0 (Int.lt_of_le_of_lt h (L_lt (by omega)))
def bts (s:ByteArray):List Int:=s.data.toList.reverse.map fun b=>(b.toNat:Int)
theorem bts_len (s:ByteArray):(bts s).length=s.size:=by unfold bts;rw [List.length_map,List.length_reverse,Array.length_toList];rfl
theorem bts_byt (s:ByteArray):Byt (bts s):=by
 intro x hx
 obtain ⟨b,_,rfl⟩:=List.mem_map.1 hx
 have:=b.toNat_lt
 omega
theorem lev_bev (l:List UInt8):lev (l.reverse.map fun b=>(b.toNat:Int))=(bev l:Int):=by
 refine snoc_ind (P:=fun l=>lev (l.reverse.map fun b=>(b.toNat:Int))=(bev l:Int)) ?_ ?_ l.length l rfl
 ·rfl
 ·intro a x ih
  rw [List.reverse_append,List.reverse_singleton,List.singleton_append,List.map_cons,lev,ih,bev_snoc]
  omega
theorem bts_lev (s:ByteArray):lev (bts s)=B s:=lev_bev _
theorem bts_at (s:ByteArray) (i:Nat) (b:Int) (r:List Int) (h:(bts s).drop i=b :: r):i<s.size∧bt s (((s.size-1-i:Nat):Int))=b∧0≤b∧b<256∧(bts s).drop (i+1)=r:=by
 have hl:=bts_len s
 have hi:i<(bts s).length:=by
  rcases Nat.lt_or_ge i (bts s).length with h1|h1
  ·exact h1
  ·rw [List.drop_of_length_le h1] at h;cases h
 have hs:i<s.size:=by omega
 rw [← List.getElem_cons_drop hi] at h
 have h1:=(List.cons.inj h).1
 have h2:=(List.cons.inj h).2
 have hm:b ∈ bts s:=h1 ▸ List.getElem_mem hi
 have hb:=bts_byt s b hm
 refine ⟨hs,?_,hb.1,hb.2,h2⟩
 rw [bt_get s _ (by omega),← h1]
 simp only [bts,List.getElem_map,List.getElem_reverse,Array.length_toList]
 rfl
theorem bitor_comm (k:IntKind) (x y:Int):Go.bits .or k x y=Go.bits .or k y x:=by
 simp only [bits]
 rw [BitVec.or_comm]
theorem u32_in (n:Int) (h0:0≤n) (h1:n<2 ^ 32):IntKind.u32.wrap n=n:=by rw [IntKind.wrap_u32];omega
theorem or8 (j:Nat) (hj:j<4) (x b y:Int) (hx0:0≤x) (hx:x<256 ^ j) (hb0:0≤b) (hb:b<256) (hy:y=8*(j:Int)):Go.bits .or .u32 x (shl .u32 (b%4294967296) y)=x+b*256 ^ j:=by
 subst hy
 have hbm:b%4294967296=b:=by omega
 rw [hbm,bitor_comm]
 have:j=0∨j=1∨j=2∨j=3:=by omega
 rcases this with rfl|rfl|rfl|rfl
 ·have e:shl .u32 b (8*((0:Nat):Int))=b:=by unfold shl;rw [show b*2 ^ min (8*((0:Nat):Int)).toNat IntKind.u32.bits=b by show b*1=b;omega];exact u32_in b hb0 (by omega)
  have hx1:x=0:=by simp at hx;omega
  rw [e,hx1,bits_join .u32 32 (by decide) u32_in 0 b 0 hb0 (by omega) (by omega) (by omega) (by omega) (by omega)]
  omega
 ·have e:shl .u32 b (8*((1:Nat):Int))=b*256:=by unfold shl;exact u32_in (b*256) (by omega) (by omega)
  rw [e,bits_join .u32 32 (by decide) u32_in 8 (b*256) x (by omega) (by omega) (by omega) (by omega) (by omega) (by omega)]
  omega
 ·have e:shl .u32 b (8*((2:Nat):Int))=b*65536:=by unfold shl;exact u32_in (b*65536) (by omega) (by omega)
  rw [e,bits_join .u32 32 (by decide) u32_in 16 (b*65536) x (by omega) (by omega) (by omega) (by omega) (by omega) (by omega)]
  omega
 ·have e:shl .u32 b (8*((3:Nat):Int))=b*16777216:=by unfold shl;exact u32_in (b*16777216) (by omega) (by omega)
  rw [e,bits_join .u32 32 (by decide) u32_in 24 (b*16777216) x (by omega) (by omega) (by omega) (by omega) (by omega) (by omega)]
  omega
theorem wdiv4 {i:Nat} (h:i≤4000000000):wrap64 (Int.tdiv (i:Int) 4)=((i/4:Nat):Int):=by
 rw [Int.tdiv_eq_ediv_of_nonneg (by omega),w64 (by omega) (by omega)];omega
theorem wmod4 {i:Nat} (h:i≤4000000000):wrap64 (8*Int.tmod (i:Int) 4)=8*((i%4:Nat):Int):=by
 rw [Int.tmod_eq_emod_of_nonneg (by omega),w64 (by omega) (by omega)];omega
theorem wsub1 {n i:Nat} (h:i<n) (hn:n≤4000000000):wrap64 (wrap64 ((n:Int)-1)-(i:Int))=((n-1-i:Nat):Int):=by
 rw [w64 (n:=(n:Int)-1) (by omega) (by omega),w64 (by omega) (by omega)];omega
theorem winc {i:Nat} (h:i≤4000000000):wrap64 ((i:Int)+1)=((i+1:Nat):Int):=by rw [w64 (by omega) (by omega)];omega
structure Pk (out:List Int) (i:Nat) (n:Int):Prop where
 st:∃ d x m,out ++ [0]=d ++ x :: List.replicate m 0∧d.length=i/4∧Dig d∧0≤x∧x<256 ^ (i%4)∧n=val d+4294967296 ^ d.length*x
theorem Pk.start (m:Nat):Pk (List.replicate m 0) 0 0:=⟨[],0,m,by
 rw [List.nil_append,← List.replicate_succ',List.replicate_succ],rfl,Dig.nil,by decide,by decide,by simp [val]⟩
theorem p256 (i:Nat):(256:Int) ^ (i%4)*4294967296 ^ (i/4)=256 ^ i:=by
 have h1:(4294967296:Int)=256 ^ 4:=by decide
 rw [h1,← Int.pow_mul,← Int.pow_add]
 congr 1
 omega
theorem Pk.next {out:List Int} {i:Nat} {n:Int} (h:Pk out i n) (hi:i/4<out.length) (b:Int) (hb0:0≤b) (hb:b<256) :
 Pk (out.set (i/4) (Go.bits .or .u32 (rd out ((i/4:Nat):Int)) (shl .u32 (b%4294967296) (8*((i%4:Nat):Int))))) (i+1) (n+256 ^ i*b):=by
 obtain ⟨d,x,m,he,hd,hdd,hx0,hx,hn⟩:=h.st
 have hlen:=congrArg List.length he
 simp only [List.length_append,List.length_cons,List.length_replicate,List.length_nil] at hlen
 obtain ⟨m,rfl⟩:∃ q,m=q+1:=⟨m-1,by omega⟩
 have ho:out=d ++ x :: List.replicate m 0:=by
  rw [List.replicate_succ',← List.cons_append,← List.append_assoc] at he
  exact List.append_cancel_right he
 have hor:=or8 (i%4) (by omega) x b (8*((i%4:Nat):Int)) hx0 hx hb0 hb rfl
 have hr:rd out ((i/4:Nat):Int)=x:=by rw [ho];exact rd_at _ _ _ _ (by omega)
 have hs:∀ y,out.set (i/4) y=d ++ y :: List.replicate m 0:=fun y=>by
  rw [ho]
  have:=set_at d x y (List.replicate m 0) ((i/4:Nat):Int) (by omega)
  rwa [Int.toNat_natCast] at this
 rw [hr,hor,hs]
 have hp:=p256 i
 have hnew:val d+4294967296 ^ d.length*(x+b*256 ^ (i%4))=n+256 ^ i*b:=by
  rw [hn,← hp,hd,Int.mul_add]
  rw [show (4294967296:Int) ^ (i/4)*(b*256 ^ (i%4))=256 ^ (i%4)*4294967296 ^ (i/4)*b by
   rw [Int.mul_comm b,← Int.mul_assoc,Int.mul_comm (4294967296 ^ (i/4))]]
  omega
 have hlt:x+b*256 ^ (i%4)<256 ^ (i%4+1):=by
  rw [Int.pow_succ]
  have:(0:Int)<256 ^ (i%4):=Int.pow_pos (by decide)
  have h2:b*256 ^ (i%4)≤255*256 ^ (i%4):=Int.mul_le_mul_of_nonneg_right (by omega) (by omega)
  omega
 have hge:0≤x+b*256 ^ (i%4):=by
  have:(0:Int)<256 ^ (i%4):=Int.pow_pos (by decide)
  have h2:0≤b*256 ^ (i%4):=Int.mul_nonneg hb0 (by omega)
  omega
 generalize x+b*256 ^ (i%4)=y at *
 by_cases h3:i%4=3
 ·refine ⟨d ++ [y],0,m,?_,?_,?_,by decide,Int.pow_pos (by decide),?_⟩
  ·simp only [List.append_assoc,List.cons_append,List.nil_append]
   rw [← List.replicate_succ',List.replicate_succ]
  ·rw [List.length_append,List.length_singleton];omega
  ·rw [h3] at hlt
   have h256:(256:Int) ^ (3+1)=4294967296:=by decide
   exact hdd.app (Dig.cons hge (by omega) Dig.nil)
  ·rw [val_app,← hnew]
   simp [val]
 ·refine ⟨d,y,m+1,?_,?_,hdd,hge,?_,hnew.symm⟩
  ·rw [List.replicate_succ',← List.cons_append,List.append_assoc]
  ·omega
  ·rw [show (i+1)%4=i%4+1 by omega];exact hlt
theorem Pk.dig {out:List Int} {i:Nat} {n:Int} (h:Pk out i n):Dig out∧val out=n:=by
 obtain ⟨d,x,m,he,hd,hdd,hx0,hx,hn⟩:=h.st
 have hxl:x<4294967296:=by
  have:i%4=0∨i%4=1∨i%4=2∨i%4=3:=by omega
  rcases this with h|h|h|h <;> rw [h] at hx <;> simp at hx <;> omega
 have h1:Dig (out ++ [0]):=by rw [he];exact hdd.app (Dig.cons hx0 hxl (Dig.zeros m))
 refine ⟨h1.left,?_⟩
 have h2:val (out ++ [0])=val out:=by rw [val_app];simp [val]
 rw [← h2,he,val_app,hn]
 simp only [val,val_zeros]
 rw [Int.mul_zero,Int.add_zero]
theorem parse_loop (s:ByteArray) (hs:s.size≤1000000000) (r:List Int):∀ (i:Nat) (out:List Int) (n:Int),(bts s).drop i=r→i≤s.size→out.length=(s.size+3)/4→Pk out i n →
 Ev (fun k=>natural_parse.l0 k s out (s.size:Int) (i:Int)) (L (n+256 ^ i*lev r)):=by
 induction r with
 | nil=>
  intro i out n hr hi hl hp
  have hi2:i=s.size:=by
   have:=congrArg List.length hr
   rw [List.length_drop,bts_len] at this
   simp at this;omega
  obtain ⟨hd,hv⟩:=hp.dig
  refine Ev.step (f:=fun k=>(natural_limbs_trim.f k out).bind fun t=>some t) (fun k=>?_) ?_
  ·simp only [natural_parse.l0]
   rw [if_neg (by omega)]
  ·refine Ev.bind (trim_ev out (by omega)) ?_
   rw [tr_L hd,hv]
   simp only [lev,Int.mul_zero,Int.add_zero]
   exact Ev.now _
 | cons b r ih=>
  intro i out n hr hi hl hp
  obtain ⟨h1,h2,h3,h4,h5⟩:=bts_at s i b r hr
  have hn:=hp.next (by omega) b h3 h4
  have ih:=ih (i+1) _ _ h5 (by omega) (by rw [List.length_set];exact hl) hn
  have e:n+256 ^ i*lev (b :: r)=n+256 ^ i*b+256 ^ (i+1)*lev r:=by
   rw [lev,Int.pow_succ,Int.mul_add,← Int.mul_assoc]
   omega
  rw [e]
  clear e hn
  refine Ev.step (fun k=>?_) ih
  simp only [natural_parse.l0]
  rw [wdiv4 (by omega),wmod4 (by omega),wsub1 (by omega) (by omega),winc (by omega),h2,Int.toNat_natCast,if_pos (by omega),if_pos (by omega),if_pos (by omega),if_pos (by omega),if_pos (by omega),if_pos (by omega)]
theorem parse_ev (s:ByteArray) (hs:s.size≤1000000000):Ev (fun k=>natural_parse.f k s) (L (B s)):=by
 have e:wrap64 (Int.tdiv (wrap64 (wrap64 ((s.size:Int)+4)-1)) 4)=(((s.size+3)/4:Nat):Int):=by
  rw [w64 (n:=(s.size:Int)+4) (by omega) (by omega),w64 (n:=(s.size:Int)+4-1) (by omega) (by omega),Int.tdiv_eq_ediv_of_nonneg (by omega),w64 (by omega) (by omega)];omega
 have h:=parse_loop s hs (bts s) 0 (List.replicate ((s.size+3)/4) 0) 0 rfl (Nat.zero_le _) List.length_replicate (Pk.start _)
 rw [bts_lev] at h
 have e2:(0:Int)+256 ^ 0*B s=B s:=by simp
 rw [e2] at h
 refine Ev.congr (fun k=>?_) h
 simp only [natural_parse.f]
 rw [e,Int.toNat_natCast,if_pos (by omega),if_pos (by omega)]
 rfl
end Go.Proofs.YtjaflmhdclmolaaDoor.Num
end
section
namespace Go.Proofs.YtjaflmhdclmolaaDoor.F
open Go.RowKit Go.Proofs.YtjaflmhdclmolaaDoorW.PrintWords Go.Proofs.YtjaflmhdclmolaaDoorW.PrintLast Go.Proofs.YtjaflmhdclmolaaDoorW.PrintMore
attribute [local go_sem] max2_int min2_int max_two min_two max_three min_three max_four min_four   
set_option linter.unusedVariables false
set_option linter.unusedSimpArgs false
def strings_Compare.f (a0:ByteArray) (a1:ByteArray):Option (Int):=some (Lib.compareBytes a0.data.toList a1.data.toList)
theorem strings_Compare.calls (a0:ByteArray) (a1:ByteArray) (r:Int) (w:World) (h:strings_Compare.f a0 a1=some r) :
 Calls Tryd.prog 49 #[.string a0,.string a1] w fun e w'=>e = .returned (.int .i64 r)∧Drawn0 w w':=by
 obtain rfl:=Option.some.inj h
 refine (Tryd.strings_Compare a0 a1 w).mono ?_
 rintro e w' ⟨rfl,rfl⟩
 exact ⟨rfl,Drawn0.refl _⟩
end Go.Proofs.YtjaflmhdclmolaaDoor.F
end
section
namespace Go.Proofs.YtjaflmhdclmolaaDoor.F
open Go.RowKit Go.Proofs.YtjaflmhdclmolaaDoorW.PrintWords Go.Proofs.YtjaflmhdclmolaaDoorW.PrintLast Go.Proofs.YtjaflmhdclmolaaDoorW.PrintMore
attribute [local go_sem] max2_int min2_int max_two min_two max_three min_three max_four min_four   
set_option linter.unusedVariables false
set_option linter.unusedSimpArgs false
def natural_Compare.f (a0:ByteArray) (a1:ByteArray):Option (Int):=(natural_Normalize.f a0).bind fun t421=>((natural_Normalize.f a1).bind fun t422=>(if (t421.size:Int)=(t422.size:Int) then ((strings_Compare.f t421 t422).bind fun t423=>(some t423)) else ((natural_sign.f (wrap64 ((t421.size:Int)-(t422.size:Int)))).bind fun t424=>(some t424))))
set_option maxHeartbeats 8000000 in
set_option maxRecDepth 100000 in
theorem natural_Compare.calls (a0:ByteArray) (a1:ByteArray) (r:Int) (w:World) (h:natural_Compare.f a0 a1=some r) :
 Calls Tryd.prog 23 #[.string a0,.string a1] w fun e w'=>e = .returned (.int .i64 r)∧Drawn0 w w':=by
 have H:((natural_Normalize.f a0).bind fun t421=>((natural_Normalize.f a1).bind fun t422=>(if (t421.size:Int)=(t422.size:Int) then ((strings_Compare.f t421 t422).bind fun t423=>(some t423)) else ((natural_sign.f (wrap64 ((t421.size:Int)-(t422.size:Int)))).bind fun t424=>(some t424)))))=some r:=h
 clear h
 replace H:=Option.bind_eq_some_iff.mp H
 obtain ⟨t421,A30,H⟩:=H
 replace H:((natural_Normalize.f a1).bind fun t422=>(if (t421.size:Int)=(t422.size:Int) then ((strings_Compare.f t421 t422).bind fun t423=>(some t423)) else ((natural_sign.f (wrap64 ((t421.size:Int)-(t422.size:Int)))).bind fun t424=>(some t424))))=some r:=H
 have A3:=Aside0.mk A30
 clear A30
 replace H:=Option.bind_eq_some_iff.mp H
 obtain ⟨t422,A40,H⟩:=H
 replace H:(if (t421.size:Int)=(t422.size:Int) then ((strings_Compare.f t421 t422).bind fun t423=>(some t423)) else ((natural_sign.f (wrap64 ((t421.size:Int)-(t422.size:Int)))).bind fun t424=>(some t424)))=some r:=H
 have A4:=Aside0.mk A40
 clear A40
 by_cases c5:(t421.size:Int)=(t422.size:Int)
 ·rw [if_pos c5] at H
  have c5b0:((t421.size:Int) == (t422.size:Int))=true:=beq_iff_eq.mpr c5
  have c5b1:((t421.size:Int) != (t422.size:Int))=false:=bne_eq_false_iff_eq.mpr c5
  have c5b2:(t421.size == t422.size)=true:=by first|simpa using c5|(simp at c5 ⊢;omega)
  clear c5
  replace H:=Option.bind_eq_some_iff.mp H
  obtain ⟨t423,A60,H⟩:=H
  replace H:(some t423)=some r:=H
  have A6:=Aside0.mk A60
  clear A60
  obtain rfl:=Option.some.inj H
  go_enter Tryd.func23,Tryd.ntmps23
  go_wp2_with (first|((with_reducible refine gate_callee (f:=18) rfl ?_);refine goesL_ (some 6) rfl rfl Tryd.func18 (by kernel_rfl) rfl #[.string a0] rfl (by (try simp only [List.map_toArray,List.map_cons,List.map_nil]);first|done|rfl|(simp only [List.length_drop,List.length_take];rfl)) ?_;(with_reducible refine (natural_Normalize.calls a0 t421 _ A3.out).mono ?_);rintro e w' ⟨rfl,⟨nd,rfl⟩⟩;refine ⟨_,rfl,?_⟩)|((with_reducible refine gate_callee (f:=18) rfl ?_);refine goesL_ (some 8) rfl rfl Tryd.func18 (by kernel_rfl) rfl #[.string a1] rfl (by (try simp only [List.map_toArray,List.map_cons,List.map_nil]);first|done|rfl|(simp only [List.length_drop,List.length_take];rfl)) ?_;(with_reducible refine (natural_Normalize.calls a1 t422 _ A4.out).mono ?_);rintro e w' ⟨rfl,⟨nd,rfl⟩⟩;refine ⟨_,rfl,?_⟩)|((with_reducible refine gate_callee (f:=49) rfl ?_);refine goesL_ (some 22) rfl rfl Tryd.func49 (by kernel_rfl) rfl #[.string t421,.string t422] rfl (by (try simp only [List.map_toArray,List.map_cons,List.map_nil]);first|done|rfl|(simp only [List.length_drop,List.length_take];rfl)) ?_;(with_reducible refine (strings_Compare.calls t421 t422 t423 _ A6.out).mono ?_);rintro e w' ⟨rfl,⟨nd,rfl⟩⟩;refine ⟨_,rfl,?_⟩))
  go_ret
  exact ⟨by first|rfl|(simp;done)|(simp [*];done),by repeat (first|exact Drawn0.refl _|apply Drawn0.step)⟩
 ·rw [if_neg c5] at H
  have c5b0:((t421.size:Int) == (t422.size:Int))=false:=beq_eq_false_iff_ne.mpr c5
  have c5b1:((t421.size:Int) != (t422.size:Int))=true:=bne_iff_ne.mpr c5
  have c5b2:(t421.size == t422.size)=false:=by first|simpa using c5|(simp at c5 ⊢;omega)
  replace H:=Option.bind_eq_some_iff.mp H
  obtain ⟨t424,A70,H⟩:=H
  replace H:(some t424)=some r:=H
  have A7:=Aside0.mk A70
  clear A70
  obtain rfl:=Option.some.inj H
  go_enter Tryd.func23,Tryd.ntmps23
  go_wp2_with (first|((with_reducible refine gate_callee (f:=18) rfl ?_);refine goesL_ (some 6) rfl rfl Tryd.func18 (by kernel_rfl) rfl #[.string a0] rfl (by (try simp only [List.map_toArray,List.map_cons,List.map_nil]);first|done|rfl|(simp only [List.length_drop,List.length_take];rfl)) ?_;(with_reducible refine (natural_Normalize.calls a0 t421 _ A3.out).mono ?_);rintro e w' ⟨rfl,⟨nd,rfl⟩⟩;refine ⟨_,rfl,?_⟩)|((with_reducible refine gate_callee (f:=18) rfl ?_);refine goesL_ (some 8) rfl rfl Tryd.func18 (by kernel_rfl) rfl #[.string a1] rfl (by (try simp only [List.map_toArray,List.map_cons,List.map_nil]);first|done|rfl|(simp only [List.length_drop,List.length_take];rfl)) ?_;(with_reducible refine (natural_Normalize.calls a1 t422 _ A4.out).mono ?_);rintro e w' ⟨rfl,⟨nd,rfl⟩⟩;refine ⟨_,rfl,?_⟩)|((with_reducible refine gate_callee (f:=48) rfl ?_);refine goesL_ (some 19) rfl rfl Tryd.func48 (by kernel_rfl) rfl #[.int .i64 (wrap64 ((t421.size:Int)-(t422.size:Int)))] rfl (by (try simp only [List.map_toArray,List.map_cons,List.map_nil]);first|done|rfl|(simp only [List.length_drop,List.length_take];rfl)) ?_;(with_reducible refine (natural_sign.calls (wrap64 ((t421.size:Int)-(t422.size:Int))) t424 _ A7.out).mono ?_);rintro e w' ⟨rfl,⟨nd,rfl⟩⟩;refine ⟨_,rfl,?_⟩))
  go_ret
  exact ⟨by first|rfl|(simp;done)|(simp [*];done),by repeat (first|exact Drawn0.refl _|apply Drawn0.step)⟩
end Go.Proofs.YtjaflmhdclmolaaDoor.F
end
section
namespace Go.Proofs.YtjaflmhdclmolaaDoor.F
open Go.RowKit Go.Proofs.YtjaflmhdclmolaaDoorW.PrintWords Go.Proofs.YtjaflmhdclmolaaDoorW.PrintLast Go.Proofs.YtjaflmhdclmolaaDoorW.PrintMore
attribute [local go_sem] max2_int min2_int max_two min_two max_three min_three max_four min_four   
set_option linter.unusedVariables false
set_option linter.unusedSimpArgs false
def insolvencyref1_NatCompare.f (k:Nat) (a0:ByteArray) (a1:ByteArray):Option (Int):=(insolvencyref1_limbs.f k a0).bind fun t542=>((insolvencyref1_limbs.f k a1).bind fun t545=>((insolvencyref1_order.f k t542 t545).bind fun t548=>(some t548)))
theorem insolvencyref1_NatCompare.mono:∀ a0 a1 k,LeO (insolvencyref1_NatCompare.f k a0 a1) (insolvencyref1_NatCompare.f (k+1) a0 a1):=by
 intro a0 a1 k
 unfold insolvencyref1_NatCompare.f
 repeat' first
  | (with_reducible exact insolvencyref1_limbs.mono _ _)
  | (with_reducible exact insolvencyref1_order.mono _ _ _)
  | (with_reducible exact LeO.refl _)
  | (with_reducible exact LeO.none _)
  | (with_reducible refine LeO.ite ?_ ?_)
  | (with_reducible refine LeO.bind ?_ (fun _=>?_))
  | exact insolvencyref1_limbs.mono _ _
  | exact insolvencyref1_order.mono _ _ _
  | exact LeO.none _
  | refine LeO.ite ?_ ?_
  | refine LeO.bind ?_ (fun _=>?_)
set_option maxHeartbeats 8000000 in
set_option maxRecDepth 100000 in
theorem insolvencyref1_NatCompare.calls (k:Nat) (a0:ByteArray) (a1:ByteArray) (r:Int) (w:World) (h:insolvencyref1_NatCompare.f k a0 a1=some r) :
 Calls Tryd.prog 32 #[.string a0,.string a1] w fun e w'=>e = .returned (.int .i64 r)∧Below w.heap.size w w':=by
 have HB:=Aside0.mk (Below.refl w.heap.size w)
 have H:((insolvencyref1_limbs.f k a0).bind fun t542=>((insolvencyref1_limbs.f k a1).bind fun t545=>((insolvencyref1_order.f k t542 t545).bind fun t548=>(some t548))))=some r:=h
 clear h
 replace H:=Option.bind_eq_some_iff.mp H
 obtain ⟨t542,A30,H⟩:=H
 replace H:((insolvencyref1_limbs.f k a1).bind fun t545=>((insolvencyref1_order.f k t542 t545).bind fun t548=>(some t548)))=some r:=H
 have A3:=Aside0.mk A30
 clear A30
 replace H:=Option.bind_eq_some_iff.mp H
 obtain ⟨t545,A40,H⟩:=H
 replace H:((insolvencyref1_order.f k t542 t545).bind fun t548=>(some t548))=some r:=H
 have A4:=Aside0.mk A40
 clear A40
 replace H:=Option.bind_eq_some_iff.mp H
 obtain ⟨t548,A50,H⟩:=H
 replace H:(some t548)=some r:=H
 have A5:=Aside0.mk A50
 clear A50
 obtain rfl:=Option.some.inj H
 go_enter Tryd.func32,Tryd.ntmps32
 go_wp2_with (first|((with_reducible refine gate_callee (f:=45) rfl ?_);refine goesL_ (some 6) rfl rfl Tryd.func45 (by kernel_rfl) rfl #[.string a0] rfl (by (try simp only [List.map_toArray,List.map_cons,List.map_nil]);first|done|rfl|(simp only [List.length_drop,List.length_take];rfl)) ?_;(with_reducible refine (insolvencyref1_limbs.calls k a0 t542 _ A3.out).mono ?_);rintro e w6 ⟨v543,rfl,ho0,hb⟩;refine ⟨_,rfl,?_⟩;have n0_:=Aside0.mk (Kd.R_lower ho0 (below_size (by repeat (first|(with_reducible first|exact HB.out|apply below_alloc|apply pw_below_drewN|apply below_drew1)|exact HB.out))));have n1_:=Aside0.mk (below_step (by repeat (first|(with_reducible first|exact HB.out|apply below_alloc|apply pw_below_drewN|apply below_drew1)|exact HB.out)) hb);clear HB;have HO544:=n0_;have HB:=n1_;clear n0_ n1_;(try clear hb);(try clear hb2);(try clear hk);(try clear hi);(try clear ho0))|((with_reducible refine gate_callee (f:=45) rfl ?_);refine goesL_ (some 8) rfl rfl Tryd.func45 (by kernel_rfl) rfl #[.string a1] rfl (by (try simp only [List.map_toArray,List.map_cons,List.map_nil]);first|done|rfl|(simp only [List.length_drop,List.length_take];rfl)) ?_;(with_reducible refine (insolvencyref1_limbs.calls k a1 t545 _ A4.out).mono ?_);rintro e w7 ⟨v546,rfl,ho0,hb⟩;refine ⟨_,rfl,?_⟩;have n0_:=Aside0.mk (Kd.R_elder' (by (with_reducible repeat (first|apply Kd.R_alloc|apply Kd.R_drewN|apply Kd.R_drew));exact HO544.out) (Kd.R_base ho0) hb);have n1_:=Aside0.mk (Kd.R_lower (Kd.R_new' ho0 (Kd.R_lt (by (with_reducible repeat (first|apply Kd.R_alloc|apply Kd.R_drewN|apply Kd.R_drew));exact HO544.out))) (below_size (by repeat (first|(with_reducible first|exact HB.out|apply below_alloc|apply pw_below_drewN|apply below_drew1)|exact HB.out))));have n2_:=Aside0.mk (below_step (by repeat (first|(with_reducible first|exact HB.out|apply below_alloc|apply pw_below_drewN|apply below_drew1)|exact HB.out)) hb);clear HO544;clear HB;have HO544:=n0_;have HO547:=n1_;have HB:=n2_;clear n0_ n1_ n2_;(try clear hb);(try clear hb2);(try clear hk);(try clear hi);(try clear ho0);obtain ⟨Ao8,co8,eo8⟩:=Kd.R_slice HO544.out;subst eo8;obtain ⟨Ao9,co9,eo9⟩:=Kd.R_slice HO547.out;subst eo9)|((with_reducible refine gate_callee (f:=60) rfl ?_);refine goesL_ (some 9) rfl rfl Tryd.func60 (by kernel_rfl) rfl #[.slice Ao8 t542.length co8,.slice Ao9 t545.length co9] rfl (by (try simp only [List.map_toArray,List.map_cons,List.map_nil]);first|done|rfl|(simp only [List.length_drop,List.length_take];rfl)) ?_;(with_reducible refine (insolvencyref1_order.calls k _ _ t542 _ _ t545 t548 _ ?side1 ?side2 ?side3 ?side4 A5.out).mono ?_);(case side1=>repeat (first|exact (Kd.R_reads' HO544.out).2.2|(with_reducible refine Kd.C_alloc ?_ _)|(with_reducible refine Kd.C_drewN ?_ _)|(with_reducible refine Kd.C_drew ?_)));(case side2=>exact (Kd.R_reads' HO544.out).2.1);(case side3=>repeat (first|exact (Kd.R_reads' HO547.out).2.2|(with_reducible refine Kd.C_alloc ?_ _)|(with_reducible refine Kd.C_drewN ?_ _)|(with_reducible refine Kd.C_drew ?_)));(case side4=>exact (Kd.R_reads' HO547.out).2.1);rintro e w' ⟨rfl,⟨nd,rfl⟩⟩;refine ⟨_,rfl,?_⟩))
 go_ret
 exact ⟨by first|rfl|(simp [errW_none,errW_some] <;> rfl)|(simp [*,errW_none,errW_some] <;> rfl),by repeat (first|(with_reducible first|exact HB.out|apply below_alloc|apply pw_below_drewN|apply below_drew1)|exact HB.out)⟩
end Go.Proofs.YtjaflmhdclmolaaDoor.F
end
section
namespace Go.Proofs.YtjaflmhdclmolaaDoor.F
open Go.RowKit Go.Proofs.YtjaflmhdclmolaaDoorW.PrintWords Go.Proofs.YtjaflmhdclmolaaDoorW.PrintLast Go.Proofs.YtjaflmhdclmolaaDoorW.PrintMore
attribute [local go_sem] max2_int min2_int max_two min_two max_three min_three max_four min_four   
set_option linter.unusedVariables false
set_option linter.unusedSimpArgs false
def insolvencylaw1_few.l0:Nat→List ByteArray→Int→Int→Option (Bool)
 | 0,_,_,_=>none
 | k+1,x5,x6,x7=>if x7<x6 then (if 0≤x7 then (if x7<(x5.length:Int) then (if ((rdOf ByteArray.empty x5 x7).size:Int)>60 then (some false) else (insolvencylaw1_few.l0 k x5 x6 (wrap64 (x7+1)))) else (none)) else (none)) else (some true)
def insolvencylaw1_few.f (k:Nat) (l0:List ByteArray):Option (Bool):=insolvencylaw1_few.l0 k l0 (l0.length:Int) 0
theorem insolvencylaw1_few.mono_l:∀ k,(∀ y0 y1 y2,LeO (insolvencylaw1_few.l0 k y0 y1 y2) (insolvencylaw1_few.l0 (k+1) y0 y1 y2))
 | 0=>fun _ _ _ r h=>by simp [insolvencylaw1_few.l0] at h
 | k+1=>by
  have ih0:=insolvencylaw1_few.mono_l k
  ·intro y0 y1 y2
   unfold insolvencylaw1_few.l0
   repeat' first
   | (with_reducible exact ih0 _ _ _)
   | (with_reducible exact LeO.refl _)
   | (with_reducible exact LeO.none _)
   | (with_reducible refine LeO.ite ?_ ?_)
   | (with_reducible refine LeO.bind ?_ (fun _=>?_))
   | exact ih0 _ _ _
   | exact LeO.none _
   | refine LeO.ite ?_ ?_
   | refine LeO.bind ?_ (fun _=>?_)
theorem insolvencylaw1_few.mono:∀ a0 k,LeO (insolvencylaw1_few.f k a0) (insolvencylaw1_few.f (k+1) a0):=by
 intro a0 k
 have ih0:=insolvencylaw1_few.mono_l k
 unfold insolvencylaw1_few.f
 repeat' first
  | (with_reducible exact ih0 _ _ _)
  | (with_reducible exact LeO.refl _)
  | (with_reducible exact LeO.none _)
  | (with_reducible refine LeO.ite ?_ ?_)
  | (with_reducible refine LeO.bind ?_ (fun _=>?_))
  | exact ih0 _ _ _
  | exact LeO.none _
  | refine LeO.ite ?_ ?_
  | refine LeO.bind ?_ (fun _=>?_)
set_option maxHeartbeats 8000000 in
set_option maxRecDepth 100000 in
theorem insolvencylaw1_few.calls (k:Nat) (A0:Option Addr) (c0:Nat) (l0:List ByteArray) (r:Bool) (w:World) (hr0:Kd.C Kd.string w A0 l0.length l0) (hc0:l0.length≤c0) (h:insolvencylaw1_few.f k l0=some r) :
 Calls Tryd.prog 20 #[.slice A0 l0.length c0] w fun e w'=>e = .returned (.bool r)∧Drawn0 w w':=by
 have HR0:=Aside0.mk hr0
 have HC0:=Aside0.mk hc0
 clear hr0 hc0
 have H:(insolvencylaw1_few.l0 k l0 (l0.length:Int) 0)=some r:=h
 clear h
 have H':=Aside0.mk H
 clear H
 go_enter Tryd.func20,Tryd.ntmps20
 go_wp2
 go_loopg [7] k (fun kq v7 w'=>∃ (x7_1:Int),v7 = .int .i64 x7_1∧Aside0 (insolvencylaw1_few.l0 kq l0 (l0.length:Int) x7_1=some r)∧Aside0 (kq≤k)∧Drawn0 w w')
 case atStart=>exact ⟨(0),(by first|rfl|(simp;done)|(simp [*];done)),H',⟨Nat.le_refl _⟩,by repeat (first|exact Drawn0.refl _|apply Drawn0.step)⟩
 case round=>
  clear H'
  obtain ⟨x7_1,rfl,HA,HK1,⟨m1,rfl⟩⟩:=hrel
  cases gk with
  | zero=>exact absurd HA.out (by simp [insolvencylaw1_few.l0])
  | succ k1=>
   have H:=HA.out
   clear HA
   simp only [insolvencylaw1_few.l0] at H
   by_cases c2:x7_1<(l0.length:Int)
   ·rw [if_pos c2] at H
    have c2b0:decide (x7_1<(l0.length:Int))=true:=decide_eq_true c2
    clear c2
    by_cases c3:0≤x7_1
    ·rw [if_pos c3] at H
     have c3b0:decide (0≤x7_1)=true:=decide_eq_true c3
     clear c3
     by_cases c4:x7_1<(l0.length:Int)
     ·rw [if_pos c4] at H
      have c4b0:decide (x7_1<(l0.length:Int))=true:=decide_eq_true c4
      clear c4
      by_cases c5:((rdOf ByteArray.empty l0 x7_1).size:Int)>60
      ·rw [if_pos c5] at H
       have c5b0:decide (60<((rdOf ByteArray.empty l0 x7_1).size:Int))=true:=decide_eq_true c5
       have c5b1:decide (60<(rdOf ByteArray.empty l0 x7_1).size)=true:=decide_eq_true (by omega)
       clear c5
       obtain rfl:=Option.some.inj H
       have p285:0≤(x7_1:Int):=of_decide_eq_true (by first|(with_reducible assumption)|assumption)
       have q285:x7_1<(l0.length:Int):=of_decide_eq_true (by first|(with_reducible assumption)|assumption)
       obtain ⟨ad285,e285,hx285_0⟩:=Kd.at_string HR0.out x7_1 p285 q285
       cases e285
       replace p285:=eq_true p285
       replace q285:=eq_true q285
       go_wp2
       go_ret
       exact ⟨by first|rfl|(simp;done)|(simp [*];done),by repeat (first|exact Drawn0.refl _|apply Drawn0.step)⟩
      ·rw [if_neg c5] at H
       have c5b0:decide (60<((rdOf ByteArray.empty l0 x7_1).size:Int))=false:=decide_eq_false c5
       have c5b1:decide (60<(rdOf ByteArray.empty l0 x7_1).size)=false:=decide_eq_false (by omega)
       clear c5
       have H':=Aside0.mk H
       clear H
       have p285:0≤(x7_1:Int):=of_decide_eq_true (by first|(with_reducible assumption)|assumption)
       have q285:x7_1<(l0.length:Int):=of_decide_eq_true (by first|(with_reducible assumption)|assumption)
       obtain ⟨ad285,e285,hx285_0⟩:=Kd.at_string HR0.out x7_1 p285 q285
       cases e285
       replace p285:=eq_true p285
       replace q285:=eq_true q285
       go_wp2
       go_roundg k1
       case measure=>have:=HK1.out;omega
       case rel=>exact ⟨(wrap64 (x7_1+1)),(by first|rfl|(simp;done)|(simp [*];done)),H',⟨by have:=HK1.out;omega⟩,by repeat (first|exact Drawn0.refl _|apply Drawn0.step)⟩
     ·rw [if_neg c4] at H
      exact absurd H (by simp)
    ·rw [if_neg c3] at H
     exact absurd H (by simp)
   ·rw [if_neg c2] at H
    have c2b0:decide (x7_1<(l0.length:Int))=false:=decide_eq_false c2
    clear c2
    obtain rfl:=Option.some.inj H
    go_wp2
    go_ret
    exact ⟨by first|rfl|(simp;done)|(simp [*];done),by repeat (first|exact Drawn0.refl _|apply Drawn0.step)⟩
end Go.Proofs.YtjaflmhdclmolaaDoor.F
end
section
namespace Go.Proofs.YtjaflmhdclmolaaDoor.Num
open Go.RowKit Go.Proofs.YtjaflmhdclmolaaDoorW.PrintWords Go.Proofs.YtjaflmhdclmolaaDoorW.PrintLast Go.Proofs.YtjaflmhdclmolaaDoorW.PrintMore Go.Proofs.YtjaflmhdclmolaaDoor.F
set_option linter.unusedVariables false
theorem rd_cons_succ (x:Int) (l:List Int) (i:Nat):rd (x :: l) ((i+1:Nat):Int)=rd l (i:Int):=by
 unfold rd
 rw [Int.toNat_natCast,Int.toNat_natCast]
 rfl
theorem leb_at (l:List Int):∀ (i:Nat) (y:Int) (r:List Int),(leb l).drop i=y :: r→shr .u32 (rd l ((i/4:Nat):Int)) (8*((i%4:Nat):Int))%256=y∧i<4*l.length:=by
 induction l with
 | nil=>intro i y r h;simp [leb] at h
 | cons x l ih=>
  intro i y r h
  by_cases h4:4≤i
  ·obtain ⟨j,rfl⟩:∃ j,i=j+4:=⟨i-4,by omega⟩
   have h2:(leb l).drop j=y :: r:=h
   obtain ⟨h3,h5⟩:=ih j y r h2
   refine ⟨?_,by simp only [List.length_cons];omega⟩
   rw [show (j+4)/4=j/4+1 by omega,show (j+4)%4=j%4 by omega,rd_cons_succ]
   exact h3
  ·have:i=0∨i=1∨i=2∨i=3:=by omega
   refine ⟨?_,by simp only [List.length_cons];omega⟩
   rcases this with rfl|rfl|rfl|rfl
   ·have h2:x%256=y:=(List.cons.inj h).1
    show x/1%256=y
    rw [Int.ediv_one];exact h2
   ·exact (List.cons.inj h).1
   ·exact (List.cons.inj h).1
   ·exact (List.cons.inj h).1
theorem text_loop (l:List Int) (hd:Dig l) (hl:l.length≤1000000) (r:List Int):∀ (i:Nat) (b:List Int),(leb l).drop i=r→i≤4*l.length →
 Ev (fun k=>natural_limbs_text.l0 k l (List.replicate r.length 0 ++ ((leb l).take i).reverse) ((4*l.length:Nat):Int) (i:Int)) (S (val l)):=by
 induction r with
 | nil=>
  intro i b hr hi
  have hlen:=leb_len l
  have h2:=congrArg List.length hr
  rw [List.length_drop] at h2
  simp only [List.length_nil] at h2
  refine Ev.step (f:=fun k=>(natural_Normalize.f (strOfNums (leb l).reverse)).bind fun t=>some t) (fun k=>?_) ?_
  ·simp only [natural_limbs_text.l0]
   rw [if_neg (by omega),List.take_of_length_le (by omega)]
   rfl
  ·rw [normalize_eq,B_nums (leb_byt l),leb_lev hd]
   exact Ev.now _
 | cons y r ih=>
  intro i b hr hi
  have hlen:=leb_len l
  obtain ⟨h1,h2⟩:=leb_at l i y r hr
  have hi2:i<(leb l).length:=by omega
  have h3:=hr
  rw [← List.getElem_cons_drop hi2] at h3
  have h4:=(List.cons.inj h3).1
  have h5:=(List.cons.inj h3).2
  have h6:(leb l).take (i+1)=(leb l).take i ++ [y]:=by rw [List.take_succ_eq_append_getElem hi2,h4]
  have h7:=congrArg List.length h5
  rw [List.length_drop,hlen] at h7
  have ih:=ih (i+1) b h5 (by omega)
  refine Ev.step (fun k=>?_) ih
  have hX:(List.replicate (y :: r).length (0:Int) ++ ((leb l).take i).reverse).length=4*l.length:=by
   rw [List.length_append,List.length_replicate,List.length_reverse,List.length_take,List.length_cons];omega
  have hS:(List.replicate (y :: r).length (0:Int) ++ ((leb l).take i).reverse).set r.length y=List.replicate r.length 0 ++ ((leb l).take (i+1)).reverse:=by
   rw [List.length_cons,List.replicate_succ',List.append_assoc,List.singleton_append]
   have:=set_at (List.replicate r.length 0) 0 y ((leb l).take i).reverse (r.length:Int) (by rw [List.length_replicate])
   rw [Int.toNat_natCast] at this
   rw [this,h6,List.reverse_append,List.reverse_singleton,List.singleton_append]
  simp only [natural_limbs_text.l0]
  rw [hX,wdiv4 (by omega),wmod4 (by omega),wsub1 (by omega) (by omega),winc (by omega),Int.toNat_natCast,h1,show 4*l.length-1-i=r.length by omega,hS]
  clear hS hX h6 h3 h4 h5 hr h1
  rw [if_pos (by omega),if_pos (by omega),if_pos (by omega),if_pos (by omega),if_pos (by omega),if_pos (by omega)]
theorem text_ev {l:List Int} (hd:Dig l) (hl:l.length≤1000000):Ev (fun k=>natural_limbs_text.f k l) (S (val l)):=by
 have h:=text_loop l hd hl (leb l) 0 [] rfl (Nat.zero_le _)
 have e:wrap64 ((l.length:Int)*4)=((4*l.length:Nat):Int):=by rw [w64 (by omega) (by omega)];omega
 rw [leb_len,List.take_zero,List.reverse_nil,List.append_nil] at h
 refine Ev.congr (fun k=>?_) h
 simp only [natural_limbs_text.f]
 rw [e,Int.toNat_natCast,if_pos (by omega),if_pos (by omega),Option.bind_some,List.length_replicate]
 rfl
theorem drop_split {l:List Int} {i:Nat} (h:i<l.length):∃ x,l=l.take i ++ x :: l.drop (i+1)∧rd l (i:Int)=x∧(l.take i).length=i∧l.drop i=x :: l.drop (i+1):=by
 have h1:l.drop i=l[i] :: l.drop (i+1):=(List.getElem_cons_drop h).symm
 refine ⟨l[i],by rw [← h1,List.take_append_drop],?_,by rw [List.length_take];omega,h1⟩
 unfold rd
 rw [Int.toNat_natCast,List.getD_eq_getElem?_getD,List.getElem?_eq_getElem h]
 rfl
theorem B_small {s:ByteArray} {m:Nat} (h:s.size≤4*m):(L (B s)).length≤m:=by
 refine L_len (B_nonneg s) (Int.lt_of_lt_of_le (B_lt s) ?_)
 rw [show (4294967296:Int)=256 ^ 4 by decide,← Int.pow_mul]
 have e1:((256 ^ s.size:Nat):Int)=(256:Int) ^ s.size:=Int.natCast_pow 256 _
 have e2:((256 ^ (4*m):Nat):Int)=(256:Int) ^ (4*m):=Int.natCast_pow 256 _
 rw [← e1,← e2]
 exact Int.ofNat_le.2 (Nat.pow_le_pow_right (by decide) h)
end Go.Proofs.YtjaflmhdclmolaaDoor.Num
end
section
namespace Go.Proofs.YtjaflmhdclmolaaDoor.F
open Go.RowKit Go.Proofs.YtjaflmhdclmolaaDoorW.PrintWords Go.Proofs.YtjaflmhdclmolaaDoorW.PrintLast Go.Proofs.YtjaflmhdclmolaaDoorW.PrintMore
attribute [local go_sem] max2_int min2_int max_two min_two max_three min_three max_four min_four   
set_option linter.unusedVariables false
set_option linter.unusedSimpArgs false
def natural_subtract.l0:Nat→List Int→List Int→List Int→Int→Int→Int→Option (List Int)
 | 0,_,_,_,_,_,_=>none
 | k+1,x0,x1,x5,x6,x13,x14=>if x14<x13 then (if x14<(x1.length:Int) then (if 0≤x14 then (if x14<(x0.length:Int) then ((bits_Sub32.f (rd x0 x14) (rd x1 x14) x6).bind fun bt632=>(if x14<(x5.length:Int) then (natural_subtract.l0 k x0 x1 (x5.set (x14:Int).toNat bt632.1) bt632.2 x13 (wrap64 (x14+1))) else (none))) else (none)) else (none)) else (if 0≤x14 then (if x14<(x0.length:Int) then ((bits_Sub32.f (rd x0 x14) 0 x6).bind fun bt636=>(if x14<(x5.length:Int) then (natural_subtract.l0 k x0 x1 (x5.set (x14:Int).toNat bt636.1) bt636.2 x13 (wrap64 (x14+1))) else (none))) else (none)) else (none))) else ((natural_limbs_trim.f k x5).bind fun t639=>(some t639))
def natural_subtract.f (k:Nat) (l0:List Int) (l1:List Int):Option (List Int):=if 0≤(l0.length:Int) then (if ((l0.length:Int):Int).toNat≤70368744177664 then (natural_subtract.l0 k l0 l1 (List.replicate ((l0.length:Int):Int).toNat 0) 0 (l0.length:Int) 0) else (none)) else (none)
theorem natural_subtract.mono_l:∀ k,(∀ y0 y1 y2 y3 y4 y5,LeO (natural_subtract.l0 k y0 y1 y2 y3 y4 y5) (natural_subtract.l0 (k+1) y0 y1 y2 y3 y4 y5))
 | 0=>fun _ _ _ _ _ _ r h=>by simp [natural_subtract.l0] at h
 | k+1=>by
  have ih0:=natural_subtract.mono_l k
  ·intro y0 y1 y2 y3 y4 y5
   unfold natural_subtract.l0
   repeat' first
   | (with_reducible exact ih0 _ _ _ _ _ _)
   | (with_reducible exact natural_limbs_trim.mono _ _)
   | (with_reducible exact LeO.refl _)
   | (with_reducible exact LeO.none _)
   | (with_reducible refine LeO.ite ?_ ?_)
   | (with_reducible refine LeO.bind ?_ (fun _=>?_))
   | exact ih0 _ _ _ _ _ _
   | exact natural_limbs_trim.mono _ _
   | exact LeO.none _
   | refine LeO.ite ?_ ?_
   | refine LeO.bind ?_ (fun _=>?_)
theorem natural_subtract.mono:∀ a0 a1 k,LeO (natural_subtract.f k a0 a1) (natural_subtract.f (k+1) a0 a1):=by
 intro a0 a1 k
 have ih0:=natural_subtract.mono_l k
 unfold natural_subtract.f
 repeat' first
  | (with_reducible exact ih0 _ _ _ _ _ _)
  | (with_reducible exact natural_limbs_trim.mono _ _)
  | (with_reducible exact LeO.refl _)
  | (with_reducible exact LeO.none _)
  | (with_reducible refine LeO.ite ?_ ?_)
  | (with_reducible refine LeO.bind ?_ (fun _=>?_))
  | exact ih0 _ _ _ _ _ _
  | exact natural_limbs_trim.mono _ _
  | exact LeO.none _
  | refine LeO.ite ?_ ?_
  | refine LeO.bind ?_ (fun _=>?_)
set_option maxHeartbeats 8000000 in
set_option maxRecDepth 100000 in
theorem natural_subtract.calls (k:Nat) (A0:Option Addr) (c0:Nat) (l0:List Int) (A1:Option Addr) (c1:Nat) (l1:List Int) (r:List Int) (w:World) (hr0:Kd.C (Kd.int .u32) w A0 l0.length l0) (hc0:l0.length≤c0) (hr1:Kd.C (Kd.int .u32) w A1 l1.length l1) (hc1:l1.length≤c1) (h:natural_subtract.f k l0 l1=some r) :
 Calls Tryd.prog 63 #[.slice A0 l0.length c0,.slice A1 l1.length c1] w fun e w'=>∃ v0_:Value,e = .returned (v0_)∧Kd.R (Kd.int .u32) 60 w' w.heap.size (fun _=>True) v0_ r∧Below w.heap.size w w':=by
 have HR0:=Aside0.mk hr0
 have HC0:=Aside0.mk hc0
 clear hr0 hc0
 have HR1:=Aside0.mk hr1
 have HC1:=Aside0.mk hc1
 clear hr1 hc1
 have HB:=Aside0.mk (Below.refl w.heap.size w)
 have H:(if 0≤(l0.length:Int) then (if ((l0.length:Int):Int).toNat≤70368744177664 then (natural_subtract.l0 k l0 l1 (List.replicate ((l0.length:Int):Int).toNat 0) 0 (l0.length:Int) 0) else (none)) else (none))=some r:=h
 clear h
 by_cases c3:0≤(l0.length:Int)
 ·rw [if_pos c3] at H
  have c3b0:=eq_true c3
  have c3b1:decide (0≤(l0.length:Int))=true:=decide_eq_true c3
  clear c3
  by_cases c4:((l0.length:Int):Int).toNat≤70368744177664
  ·rw [if_pos c4] at H
   have c4b0:=eq_true c4
   have c4b1:decide (((l0.length:Int):Int).toNat≤70368744177664)=true:=decide_eq_true c4
   clear c4
   obtain ⟨y627,hy627⟩:∃ y_:List Int,y_=(List.replicate ((l0.length:Int):Int).toNat 0):=⟨_,rfl⟩
   replace H:(natural_subtract.l0 k l0 l1 y627 0 (l0.length:Int) 0)=some r:=by first|(rw [hy627];with_reducible exact H)|(have H2_:=(Option.bind_some _ _).symm.trans H;rw [hy627];with_reducible exact H2_)|(have H2_:=(Option.bind_some _ _).symm.trans H;with_reducible exact H2_)|with_reducible exact H|(rw [hy627];exact H)|exact H
   have Ny627:=Aside0.mk hy627
   clear hy627
   have H':=Aside0.mk H
   clear H
   go_enter Tryd.func63,Tryd.ntmps63
   go_wp2_with (first|((with_reducible refine gate_dst (N:=11) rfl ?_);refine Kd.R_make (Kd.int .u32) _ 60 rfl (N:=11) rfl 50 _ _ rfl (l0.length:Int) rfl rfl Tryd.underlying50 (.int .u32 0) 4 info60 rfl (by decide) (by omega) 0 (ok:=fun _=>True) (okp:=fun _=>True) rfl (fun _ hk=>hk) trivial (of_decide_eq_true (by first|(with_reducible assumption)|assumption)) (Nat.le_trans (Nat.mul_le_mul_right _ (of_decide_eq_true (by first|(with_reducible assumption)|assumption):(l0.length:Int).toNat≤70368744177664)) (by omega)) (Below.refl _ _) (Nat.le_refl _) ?_;intro v628 w5 ho6 hb hg_ hnew_;clear hg_ hnew_;(first|rw [← Ny627.out] at ho6|(simp only [Int.reduceToNat] at ho6;rw [← Ny627.out] at ho6));have n0_:=Aside0.mk (Kd.R_lower ho6 (below_size (by repeat (first|(with_reducible first|exact HB.out|apply below_alloc|apply pw_below_drewN|apply below_drew1)|exact HB.out))));have n1_:=Aside0.mk (below_step (by repeat (first|(with_reducible first|exact HB.out|apply below_alloc|apply pw_below_drewN|apply below_drew1)|exact HB.out)) hb);clear HB;have HO629:=n0_;have HB:=n1_;clear n0_ n1_;clear hb ho6))
   go_loopg [6,14] k (fun kq v6 v14 w'=>∃ (x5_1:List Int) (x6_1:Int) (x14_1:Int),v6 = .int .u32 x6_1∧v14 = .int .i64 x14_1∧Aside0 (natural_subtract.l0 kq l0 l1 x5_1 x6_1 (l0.length:Int) x14_1=some r)∧Aside0 (kq≤k)∧Aside0 (Kd.R (Kd.int .u32) 60 w' w.heap.size (fun _=>True) v628 x5_1)∧Aside0 (Below w.heap.size w w'))
   case atStart=>exact ⟨(y627),(0),(0),(by first|rfl|(simp;done)|(simp [*];done)),(by first|rfl|(simp;done)|(simp [*];done)),H',⟨Nat.le_refl _⟩,⟨by (with_reducible repeat (first|apply Kd.R_alloc|apply Kd.R_drewN|apply Kd.R_drew));exact HO629.out⟩,⟨by repeat (first|(with_reducible first|exact HB.out|apply below_alloc|apply pw_below_drewN|apply below_drew1)|exact HB.out)⟩⟩
   case round=>
    clear H'
    try clear c1
    try clear p2
    try clear c3
    try clear c3b0
    try clear c3b1
    try clear c4
    try clear c4b0
    try clear c4b1
    try clear c6
    obtain ⟨x5_1,x6_1,x14_1,rfl,rfl,HA,HK1,HO_5,HB⟩:=hrel
    cases gk with
    | zero=>exact absurd HA.out (by simp [natural_subtract.l0])
    | succ k1=>
     have H:=HA.out
     clear HA
     simp only [natural_subtract.l0] at H
     by_cases c7:x14_1<(l0.length:Int)
     ·rw [if_pos c7] at H
      have c7b0:decide (x14_1<(l0.length:Int))=true:=decide_eq_true c7
      clear c7
      by_cases c8:x14_1<(l1.length:Int)
      ·rw [if_pos c8] at H
       have c8b0:decide (x14_1<(l1.length:Int))=true:=decide_eq_true c8
       clear c8
       by_cases c9:0≤x14_1
       ·rw [if_pos c9] at H
        have c9b0:decide (0≤x14_1)=true:=decide_eq_true c9
        clear c9
        by_cases c10:x14_1<(l0.length:Int)
        ·rw [if_pos c10] at H
         have c10b0:decide (x14_1<(l0.length:Int))=true:=decide_eq_true c10
         clear c10
         replace H:=Option.bind_eq_some_iff.mp H
         obtain ⟨⟨t632,t633⟩,A110,H⟩:=H
         replace H:(if x14_1<(x5_1.length:Int) then (natural_subtract.l0 k1 l0 l1 (x5_1.set (x14_1:Int).toNat t632) t633 (l0.length:Int) (wrap64 (x14_1+1))) else (none))=some r:=H
         have A11:=Aside0.mk A110
         clear A110
         by_cases c12:x14_1<(x5_1.length:Int)
         ·rw [if_pos c12] at H
          have c12b0:decide (x14_1<(x5_1.length:Int))=true:=decide_eq_true c12
          clear c12
          obtain ⟨y634,hy634⟩:∃ y_:List Int,y_=(x5_1.set (x14_1:Int).toNat t632):=⟨_,rfl⟩
          replace H:(natural_subtract.l0 k1 l0 l1 y634 t633 (l0.length:Int) (wrap64 (x14_1+1)))=some r:=by first|(rw [hy634];with_reducible exact H)|(have H2_:=(Option.bind_some _ _).symm.trans H;rw [hy634];with_reducible exact H2_)|(have H2_:=(Option.bind_some _ _).symm.trans H;with_reducible exact H2_)|with_reducible exact H|(rw [hy634];exact H)|exact H
          have Ny634:=Aside0.mk hy634
          clear hy634
          have H':=Aside0.mk H
          clear H
          have p630:0≤(x14_1:Int):=of_decide_eq_true (by first|(with_reducible assumption)|assumption)
          have q630:x14_1<(l1.length:Int):=of_decide_eq_true (by first|(with_reducible assumption)|assumption)
          obtain ⟨ad630,e630,hx630_0⟩:=Kd.at_int HR1.out x14_1 p630 q630
          cases e630
          replace hx630_0:=(HB.out.cell (World.block_lt_of_cell? w _ hx630_0)).trans hx630_0
          replace p630:=eq_true p630
          replace q630:=eq_true q630
          have p631:0≤(x14_1:Int):=of_decide_eq_true (by first|(with_reducible assumption)|assumption)
          have q631:x14_1<(l0.length:Int):=of_decide_eq_true (by first|(with_reducible assumption)|assumption)
          obtain ⟨ad631,e631,hx631_0⟩:=Kd.at_int HR0.out x14_1 p631 q631
          cases e631
          replace hx631_0:=(HB.out.cell (World.block_lt_of_cell? w _ hx631_0)).trans hx631_0
          replace p631:=eq_true p631
          replace q631:=eq_true q631
          go_wp2_with (first|((with_reducible refine gate_callee (f:=81) rfl ?_);refine goesL_ (some 34) rfl rfl Tryd.func81 (by kernel_rfl) rfl #[.int .u32 (rd l0 x14_1),.int .u32 (rd l1 x14_1),.int .u32 x6_1] rfl (by (try simp only [List.map_toArray,List.map_cons,List.map_nil]);first|done|rfl|(simp only [List.length_drop,List.length_take];rfl)) ?_;(with_reducible refine (bits_Sub32.calls (rd l0 x14_1) (rd l1 x14_1) x6_1 t632 t633 _ A11.out).mono ?_);rintro e w' ⟨rfl,⟨nd,rfl⟩⟩;refine ⟨_,rfl,?_⟩;(try (rw [drewN_self wr];generalize hq_:World.drewN wr _=wr;have n0_:Aside0 (Kd.R (Kd.int .u32) 60 wr w.heap.size (fun _=>True) v628 x5_1):=⟨by rw [← hq_];exact (by (with_reducible repeat (first|apply Kd.R_alloc|apply Kd.R_drewN|apply Kd.R_drew));exact HO_5.out)⟩;have n1_:Aside0 (Below w.heap.size w wr):=⟨by rw [← hq_];exact (by repeat (first|(with_reducible first|exact HB.out|apply below_alloc|apply pw_below_drewN|apply below_drew1)|exact HB.out))⟩;clear HO_5 HB hq_;have HO_5:=n0_;have HB:=n1_;clear n0_ n1_));have p13:0≤(x14_1:Int):=of_decide_eq_true (by first|(with_reducible assumption)|assumption);have q13:(x14_1:Int)<((x5_1.length:Int):Int):=of_decide_eq_true (by first|(with_reducible assumption)|assumption);obtain ⟨go13,co13,eo13,gb13,gl13,cl13,HG13⟩:=Kd.R_form HO_5.out (by omega);(first|cases eo13|(injection eo13 with ea_ en_ ec_;(first|subst ea_|(injection ea_ with ea_;subst ea_));subst ec_;clear en_));have GB13:=Aside0.mk gb13;have GG13:=Aside0.mk HG13;clear gb13 gl13 HG13;obtain ⟨hx13_0,hf13_0⟩:=Kd.R_celln 0 HO_5.out (x14_1:Int) p13 q13;replace p13:=eq_true p13;replace q13:=eq_true q13;obtain ⟨hy14_,hz14_⟩:=Kd.R_celln 0 HO_5.out (x14_1:Int) (of_decide_eq_true (by first|(with_reducible assumption)|assumption)) (of_decide_eq_true (by first|(with_reducible assumption)|assumption));have HP14:=Kd.R_putg HO_5.out (x14_1:Int) t632)|((with_reducible refine gate_store (t:=60) (p:=37) rfl ?_);refine store_event (t:=60) (p:=37) (v:=?vo_w15) (w1:=(wr.setCell ⟨go13,(x14_1:Int).toNat,none⟩ (.int .u32 t632))) ?hg ?ho ?hn ?hr ?_;(case ho=>rfl);(case hg=>rfl);(case hn=>rfl);(case hr=>first|(go_simp;done)|(go_simp;rfl));intro w15 hw;have hg:wr.grownBy w15 (some go13):=(by rw [hw];exact HP14.2);have hp_:Kd.R (Kd.int .u32) 60 w15 w.heap.size (fun _=>True) (.slice (some ⟨go13,0,none⟩) x5_1.length co13) y634:=(by rw [hw,Ny634.out];exact HP14.1);clear HP14;have n0_:=Aside0.mk (hp_);have n1_:=Aside0.mk ((by rw [hw];exact below_set (HB.out) GB13.out:Below w.heap.size w w15));clear HO_5;clear HB;have HO_5:=n0_;have HB:=n1_;clear n0_ n1_;clear hg hw hp_))
          go_roundg k1
          case measure=>have:=HK1.out;omega
          case rel=>exact ⟨(y634),(t633),(wrap64 (x14_1+1)),(by first|rfl|(simp;done)|(simp [*];done)),(by first|rfl|(simp;done)|(simp [*];done)),H',⟨by have:=HK1.out;omega⟩,⟨by (with_reducible repeat (first|apply Kd.R_alloc|apply Kd.R_drewN|apply Kd.R_drew));exact HO_5.out⟩,⟨by repeat (first|(with_reducible first|exact HB.out|apply below_alloc|apply pw_below_drewN|apply below_drew1)|exact HB.out)⟩⟩
         ·rw [if_neg c12] at H
          exact absurd H (by simp)
        ·rw [if_neg c10] at H
         exact absurd H (by simp)
       ·rw [if_neg c9] at H
        exact absurd H (by simp)
      ·rw [if_neg c8] at H
       have c8b0:decide (x14_1<(l1.length:Int))=false:=decide_eq_false c8
       clear c8
       by_cases c16:0≤x14_1
       ·rw [if_pos c16] at H
        have c16b0:decide (0≤x14_1)=true:=decide_eq_true c16
        clear c16
        by_cases c17:x14_1<(l0.length:Int)
        ·rw [if_pos c17] at H
         have c17b0:decide (x14_1<(l0.length:Int))=true:=decide_eq_true c17
         clear c17
         replace H:=Option.bind_eq_some_iff.mp H
         obtain ⟨⟨t636,t637⟩,A180,H⟩:=H
         replace H:(if x14_1<(x5_1.length:Int) then (natural_subtract.l0 k1 l0 l1 (x5_1.set (x14_1:Int).toNat t636) t637 (l0.length:Int) (wrap64 (x14_1+1))) else (none))=some r:=H
         have A18:=Aside0.mk A180
         clear A180
         by_cases c19:x14_1<(x5_1.length:Int)
         ·rw [if_pos c19] at H
          have c19b0:decide (x14_1<(x5_1.length:Int))=true:=decide_eq_true c19
          clear c19
          obtain ⟨y638,hy638⟩:∃ y_:List Int,y_=(x5_1.set (x14_1:Int).toNat t636):=⟨_,rfl⟩
          replace H:(natural_subtract.l0 k1 l0 l1 y638 t637 (l0.length:Int) (wrap64 (x14_1+1)))=some r:=by first|(rw [hy638];with_reducible exact H)|(have H2_:=(Option.bind_some _ _).symm.trans H;rw [hy638];with_reducible exact H2_)|(have H2_:=(Option.bind_some _ _).symm.trans H;with_reducible exact H2_)|with_reducible exact H|(rw [hy638];exact H)|exact H
          have Ny638:=Aside0.mk hy638
          clear hy638
          have H':=Aside0.mk H
          clear H
          have p635:0≤(x14_1:Int):=of_decide_eq_true (by first|(with_reducible assumption)|assumption)
          have q635:x14_1<(l0.length:Int):=of_decide_eq_true (by first|(with_reducible assumption)|assumption)
          obtain ⟨ad635,e635,hx635_0⟩:=Kd.at_int HR0.out x14_1 p635 q635
          cases e635
          replace hx635_0:=(HB.out.cell (World.block_lt_of_cell? w _ hx635_0)).trans hx635_0
          replace p635:=eq_true p635
          replace q635:=eq_true q635
          go_wp2_with (first|((with_reducible refine gate_callee (f:=81) rfl ?_);refine goesL_ (some 34) rfl rfl Tryd.func81 (by kernel_rfl) rfl #[.int .u32 (rd l0 x14_1),.int .u32 0,.int .u32 x6_1] rfl (by (try simp only [List.map_toArray,List.map_cons,List.map_nil]);first|done|rfl|(simp only [List.length_drop,List.length_take];rfl)) ?_;(with_reducible refine (bits_Sub32.calls (rd l0 x14_1) 0 x6_1 t636 t637 _ A18.out).mono ?_);rintro e w' ⟨rfl,⟨nd,rfl⟩⟩;refine ⟨_,rfl,?_⟩;(try (rw [drewN_self wr];generalize hq_:World.drewN wr _=wr;have n0_:Aside0 (Kd.R (Kd.int .u32) 60 wr w.heap.size (fun _=>True) v628 x5_1):=⟨by rw [← hq_];exact (by (with_reducible repeat (first|apply Kd.R_alloc|apply Kd.R_drewN|apply Kd.R_drew));exact HO_5.out)⟩;have n1_:Aside0 (Below w.heap.size w wr):=⟨by rw [← hq_];exact (by repeat (first|(with_reducible first|exact HB.out|apply below_alloc|apply pw_below_drewN|apply below_drew1)|exact HB.out))⟩;clear HO_5 HB hq_;have HO_5:=n0_;have HB:=n1_;clear n0_ n1_));have p20:0≤(x14_1:Int):=of_decide_eq_true (by first|(with_reducible assumption)|assumption);have q20:(x14_1:Int)<((x5_1.length:Int):Int):=of_decide_eq_true (by first|(with_reducible assumption)|assumption);obtain ⟨go20,co20,eo20,gb20,gl20,cl20,HG20⟩:=Kd.R_form HO_5.out (by omega);(first|cases eo20|(injection eo20 with ea_ en_ ec_;(first|subst ea_|(injection ea_ with ea_;subst ea_));subst ec_;clear en_));have GB20:=Aside0.mk gb20;have GG20:=Aside0.mk HG20;clear gb20 gl20 HG20;obtain ⟨hx20_0,hf20_0⟩:=Kd.R_celln 0 HO_5.out (x14_1:Int) p20 q20;replace p20:=eq_true p20;replace q20:=eq_true q20;obtain ⟨hy21_,hz21_⟩:=Kd.R_celln 0 HO_5.out (x14_1:Int) (of_decide_eq_true (by first|(with_reducible assumption)|assumption)) (of_decide_eq_true (by first|(with_reducible assumption)|assumption));have HP21:=Kd.R_putg HO_5.out (x14_1:Int) t636)|((with_reducible refine gate_store (t:=60) (p:=37) rfl ?_);refine store_event (t:=60) (p:=37) (v:=?vo_w22) (w1:=(wr.setCell ⟨go20,(x14_1:Int).toNat,none⟩ (.int .u32 t636))) ?hg ?ho ?hn ?hr ?_;(case ho=>rfl);(case hg=>rfl);(case hn=>rfl);(case hr=>first|(go_simp;done)|(go_simp;rfl));intro w22 hw;have hg:wr.grownBy w22 (some go20):=(by rw [hw];exact HP21.2);have hp_:Kd.R (Kd.int .u32) 60 w22 w.heap.size (fun _=>True) (.slice (some ⟨go20,0,none⟩) x5_1.length co20) y638:=(by rw [hw,Ny638.out];exact HP21.1);clear HP21;have n0_:=Aside0.mk (hp_);have n1_:=Aside0.mk ((by rw [hw];exact below_set (HB.out) GB20.out:Below w.heap.size w w22));clear HO_5;clear HB;have HO_5:=n0_;have HB:=n1_;clear n0_ n1_;clear hg hw hp_))
          go_roundg k1
          case measure=>have:=HK1.out;omega
          case rel=>exact ⟨(y638),(t637),(wrap64 (x14_1+1)),(by first|rfl|(simp;done)|(simp [*];done)),(by first|rfl|(simp;done)|(simp [*];done)),H',⟨by have:=HK1.out;omega⟩,⟨by (with_reducible repeat (first|apply Kd.R_alloc|apply Kd.R_drewN|apply Kd.R_drew));exact HO_5.out⟩,⟨by repeat (first|(with_reducible first|exact HB.out|apply below_alloc|apply pw_below_drewN|apply below_drew1)|exact HB.out)⟩⟩
         ·rw [if_neg c19] at H
          exact absurd H (by simp)
        ·rw [if_neg c17] at H
         exact absurd H (by simp)
       ·rw [if_neg c16] at H
        exact absurd H (by simp)
     ·rw [if_neg c7] at H
      have c7b0:decide (x14_1<(l0.length:Int))=false:=decide_eq_false c7
      clear c7
      replace H:=Option.bind_eq_some_iff.mp H
      obtain ⟨t639,A230,H⟩:=H
      replace H:(some t639)=some r:=H
      have A23:=Aside0.mk A230
      clear A230
      obtain rfl:=Option.some.inj H
      obtain ⟨Ao24,co24,eo24⟩:=Kd.R_slice HO_5.out
      subst eo24
      go_wp2_with (first|((with_reducible refine gate_callee (f:=53) rfl ?_);refine goesL_ (some 40) rfl rfl Tryd.func53 (by kernel_rfl) rfl #[.slice Ao24 x5_1.length co24] rfl (by (try simp only [List.map_toArray,List.map_cons,List.map_nil]);first|done|rfl|(simp only [List.length_drop,List.length_take];rfl)) ?_;(with_reducible refine (natural_limbs_trim.calls k1 (fun k_=>some k_=(.slice Ao24 x5_1.length co24:Value).ownBlock) (.slice Ao24 x5_1.length co24) x5_1 t639 w _ ?side1 ?side2 A23.out).mono ?_);(case side1=>repeat (first|(with_reducible first|exact HB.out|apply below_alloc|apply pw_below_drewN|apply below_drew1)|exact HB.out));(case side2=>exact Kd.R_tight rfl HO_5.out);rintro e w25 ⟨v640,rfl,ho0,hb,hkp⟩;refine ⟨_,rfl,?_⟩;have n0_:=Aside0.mk (Kd.R_mono (ok':=fun k_=>True) ho0 (fun k_ hk_=>trivial));have n1_:=Aside0.mk (hb);clear HB;clear HO_5;have HO641:=n0_;have HB:=n1_;clear n0_ n1_;(try clear hb);(try clear hkp);(try clear ho0)))
      go_ret
      exact ⟨_,by first|rfl|(simp [errW_none,errW_some] <;> rfl)|(simp [*,errW_none,errW_some] <;> rfl),by (with_reducible repeat (first|apply Kd.R_alloc|apply Kd.R_drewN|apply Kd.R_drew));exact HO641.out,by repeat (first|(with_reducible first|exact HB.out|apply below_alloc|apply pw_below_drewN|apply below_drew1)|exact HB.out)⟩
  ·rw [if_neg c4] at H
   exact absurd H (by simp)
 ·rw [if_neg c3] at H
  exact absurd H (by simp)
end Go.Proofs.YtjaflmhdclmolaaDoor.F
end
section
namespace Go.Proofs.YtjaflmhdclmolaaDoor.F
open Go.RowKit Go.Proofs.YtjaflmhdclmolaaDoorW.PrintWords Go.Proofs.YtjaflmhdclmolaaDoorW.PrintLast Go.Proofs.YtjaflmhdclmolaaDoorW.PrintMore
attribute [local go_sem] max2_int min2_int max_two min_two max_three min_three max_four min_four   
set_option linter.unusedVariables false
set_option linter.unusedSimpArgs false
def natural_Subtract.f (k:Nat) (a0:ByteArray) (a1:ByteArray):Option (ByteArray×Bool):=(natural_parse.f k a0).bind fun t642=>((natural_parse.f k a1).bind fun t645=>((natural_compare.f k t642 t645).bind fun t648=>(if t648<0 then (some ((⟨#[]⟩:ByteArray),false)) else ((natural_subtract.f k t642 t645).bind fun t649=>((natural_limbs_text.f k t649).bind fun t652=>(some (t652,true)))))))
theorem natural_Subtract.mono:∀ a0 a1 k,LeO (natural_Subtract.f k a0 a1) (natural_Subtract.f (k+1) a0 a1):=by
 intro a0 a1 k
 unfold natural_Subtract.f
 repeat' first
  | (with_reducible exact natural_compare.mono _ _ _)
  | (with_reducible exact natural_limbs_text.mono _ _)
  | (with_reducible exact natural_parse.mono _ _)
  | (with_reducible exact natural_subtract.mono _ _ _)
  | (with_reducible exact LeO.refl _)
  | (with_reducible exact LeO.none _)
  | (with_reducible refine LeO.ite ?_ ?_)
  | (with_reducible refine LeO.bind ?_ (fun _=>?_))
  | exact natural_compare.mono _ _ _
  | exact natural_limbs_text.mono _ _
  | exact natural_parse.mono _ _
  | exact natural_subtract.mono _ _ _
  | exact LeO.none _
  | refine LeO.ite ?_ ?_
  | refine LeO.bind ?_ (fun _=>?_)
set_option maxHeartbeats 8000000 in
set_option maxRecDepth 100000 in
theorem natural_Subtract.calls (k:Nat) (a0:ByteArray) (a1:ByteArray) (r1:ByteArray) (r2:Bool) (w:World) (h:natural_Subtract.f k a0 a1=some (r1,r2)) :
 Calls Tryd.prog 38 #[.string a0,.string a1] w fun e w'=>e = .returned (.tuple #[.string r1,.bool r2])∧Below w.heap.size w w':=by
 have HB:=Aside0.mk (Below.refl w.heap.size w)
 have H:((natural_parse.f k a0).bind fun t642=>((natural_parse.f k a1).bind fun t645=>((natural_compare.f k t642 t645).bind fun t648=>(if t648<0 then (some ((⟨#[]⟩:ByteArray),false)) else ((natural_subtract.f k t642 t645).bind fun t649=>((natural_limbs_text.f k t649).bind fun t652=>(some (t652,true))))))))=some (r1,r2):=h
 clear h
 replace H:=Option.bind_eq_some_iff.mp H
 obtain ⟨t642,A30,H⟩:=H
 replace H:((natural_parse.f k a1).bind fun t645=>((natural_compare.f k t642 t645).bind fun t648=>(if t648<0 then (some ((⟨#[]⟩:ByteArray),false)) else ((natural_subtract.f k t642 t645).bind fun t649=>((natural_limbs_text.f k t649).bind fun t652=>(some (t652,true)))))))=some (r1,r2):=H
 have A3:=Aside0.mk A30
 clear A30
 replace H:=Option.bind_eq_some_iff.mp H
 obtain ⟨t645,A40,H⟩:=H
 replace H:((natural_compare.f k t642 t645).bind fun t648=>(if t648<0 then (some ((⟨#[]⟩:ByteArray),false)) else ((natural_subtract.f k t642 t645).bind fun t649=>((natural_limbs_text.f k t649).bind fun t652=>(some (t652,true))))))=some (r1,r2):=H
 have A4:=Aside0.mk A40
 clear A40
 replace H:=Option.bind_eq_some_iff.mp H
 obtain ⟨t648,A50,H⟩:=H
 replace H:(if t648<0 then (some ((⟨#[]⟩:ByteArray),false)) else ((natural_subtract.f k t642 t645).bind fun t649=>((natural_limbs_text.f k t649).bind fun t652=>(some (t652,true)))))=some (r1,r2):=H
 have A5:=Aside0.mk A50
 clear A50
 by_cases c6:t648<0
 ·rw [if_pos c6] at H
  have c6b0:decide (t648<0)=true:=decide_eq_true c6
  clear c6
  simp only [Option.some.injEq,Prod.mk.injEq] at H
  obtain ⟨rfl,rfl⟩:=H
  go_enter Tryd.func38,Tryd.ntmps38
  go_wp2_with (first|((with_reducible refine gate_callee (f:=42) rfl ?_);refine goesL_ (some 9) rfl rfl Tryd.func42 (by kernel_rfl) rfl #[.string a0] rfl (by (try simp only [List.map_toArray,List.map_cons,List.map_nil]);first|done|rfl|(simp only [List.length_drop,List.length_take];rfl)) ?_;(with_reducible refine (natural_parse.calls k a0 t642 _ A3.out).mono ?_);rintro e w7 ⟨v643,rfl,ho0,hb⟩;refine ⟨_,rfl,?_⟩;have n0_:=Aside0.mk (Kd.R_lower ho0 (below_size (by repeat (first|(with_reducible first|exact HB.out|apply below_alloc|apply pw_below_drewN|apply below_drew1)|exact HB.out))));have n1_:=Aside0.mk (below_step (by repeat (first|(with_reducible first|exact HB.out|apply below_alloc|apply pw_below_drewN|apply below_drew1)|exact HB.out)) hb);clear HB;have HO644:=n0_;have HB:=n1_;clear n0_ n1_;(try clear hb);(try clear hb2);(try clear hk);(try clear hi);(try clear ho0))|((with_reducible refine gate_callee (f:=42) rfl ?_);refine goesL_ (some 11) rfl rfl Tryd.func42 (by kernel_rfl) rfl #[.string a1] rfl (by (try simp only [List.map_toArray,List.map_cons,List.map_nil]);first|done|rfl|(simp only [List.length_drop,List.length_take];rfl)) ?_;(with_reducible refine (natural_parse.calls k a1 t645 _ A4.out).mono ?_);rintro e w8 ⟨v646,rfl,ho0,hb⟩;refine ⟨_,rfl,?_⟩;have n0_:=Aside0.mk (Kd.R_elder' (by (with_reducible repeat (first|apply Kd.R_alloc|apply Kd.R_drewN|apply Kd.R_drew));exact HO644.out) (Kd.R_base ho0) hb);have n1_:=Aside0.mk (Kd.R_lower (Kd.R_new' ho0 (Kd.R_lt (by (with_reducible repeat (first|apply Kd.R_alloc|apply Kd.R_drewN|apply Kd.R_drew));exact HO644.out))) (below_size (by repeat (first|(with_reducible first|exact HB.out|apply below_alloc|apply pw_below_drewN|apply below_drew1)|exact HB.out))));have n2_:=Aside0.mk (below_step (by repeat (first|(with_reducible first|exact HB.out|apply below_alloc|apply pw_below_drewN|apply below_drew1)|exact HB.out)) hb);clear HO644;clear HB;have HO644:=n0_;have HO647:=n1_;have HB:=n2_;clear n0_ n1_ n2_;(try clear hb);(try clear hb2);(try clear hk);(try clear hi);(try clear ho0);obtain ⟨Ao9,co9,eo9⟩:=Kd.R_slice HO644.out;subst eo9;obtain ⟨Ao10,co10,eo10⟩:=Kd.R_slice HO647.out;subst eo10)|((with_reducible refine gate_callee (f:=62) rfl ?_);refine goesL_ (some 14) rfl rfl Tryd.func62 (by kernel_rfl) rfl #[.slice Ao9 t642.length co9,.slice Ao10 t645.length co10] rfl (by (try simp only [List.map_toArray,List.map_cons,List.map_nil]);first|done|rfl|(simp only [List.length_drop,List.length_take];rfl)) ?_;(with_reducible refine (natural_compare.calls k _ _ t642 _ _ t645 t648 _ ?side1 ?side2 ?side3 ?side4 A5.out).mono ?_);(case side1=>repeat (first|exact (Kd.R_reads' HO644.out).2.2|(with_reducible refine Kd.C_alloc ?_ _)|(with_reducible refine Kd.C_drewN ?_ _)|(with_reducible refine Kd.C_drew ?_)));(case side2=>exact (Kd.R_reads' HO644.out).2.1);(case side3=>repeat (first|exact (Kd.R_reads' HO647.out).2.2|(with_reducible refine Kd.C_alloc ?_ _)|(with_reducible refine Kd.C_drewN ?_ _)|(with_reducible refine Kd.C_drew ?_)));(case side4=>exact (Kd.R_reads' HO647.out).2.1);rintro e w' ⟨rfl,⟨nd,rfl⟩⟩;refine ⟨_,rfl,?_⟩))
  go_ret2
  exact ⟨by first|rfl|(simp [errW_none,errW_some] <;> rfl)|(simp [*,errW_none,errW_some] <;> rfl),by repeat (first|(with_reducible first|exact HB.out|apply below_alloc|apply pw_below_drewN|apply below_drew1)|exact HB.out)⟩
 ·rw [if_neg c6] at H
  have c6b0:decide (t648<0)=false:=decide_eq_false c6
  clear c6
  replace H:=Option.bind_eq_some_iff.mp H
  obtain ⟨t649,A110,H⟩:=H
  replace H:((natural_limbs_text.f k t649).bind fun t652=>(some (t652,true)))=some (r1,r2):=H
  have A11:=Aside0.mk A110
  clear A110
  replace H:=Option.bind_eq_some_iff.mp H
  obtain ⟨t652,A120,H⟩:=H
  replace H:(some (t652,true))=some (r1,r2):=H
  have A12:=Aside0.mk A120
  clear A120
  simp only [Option.some.injEq,Prod.mk.injEq] at H
  obtain ⟨rfl,rfl⟩:=H
  go_enter Tryd.func38,Tryd.ntmps38
  go_wp2_with (first|((with_reducible refine gate_callee (f:=42) rfl ?_);refine goesL_ (some 9) rfl rfl Tryd.func42 (by kernel_rfl) rfl #[.string a0] rfl (by (try simp only [List.map_toArray,List.map_cons,List.map_nil]);first|done|rfl|(simp only [List.length_drop,List.length_take];rfl)) ?_;(with_reducible refine (natural_parse.calls k a0 t642 _ A3.out).mono ?_);rintro e w13 ⟨v643,rfl,ho0,hb⟩;refine ⟨_,rfl,?_⟩;have n0_:=Aside0.mk (Kd.R_lower ho0 (below_size (by repeat (first|(with_reducible first|exact HB.out|apply below_alloc|apply pw_below_drewN|apply below_drew1)|exact HB.out))));have n1_:=Aside0.mk (below_step (by repeat (first|(with_reducible first|exact HB.out|apply below_alloc|apply pw_below_drewN|apply below_drew1)|exact HB.out)) hb);clear HB;have HO644:=n0_;have HB:=n1_;clear n0_ n1_;(try clear hb);(try clear hb2);(try clear hk);(try clear hi);(try clear ho0))|((with_reducible refine gate_callee (f:=42) rfl ?_);refine goesL_ (some 11) rfl rfl Tryd.func42 (by kernel_rfl) rfl #[.string a1] rfl (by (try simp only [List.map_toArray,List.map_cons,List.map_nil]);first|done|rfl|(simp only [List.length_drop,List.length_take];rfl)) ?_;(with_reducible refine (natural_parse.calls k a1 t645 _ A4.out).mono ?_);rintro e w14 ⟨v646,rfl,ho0,hb⟩;refine ⟨_,rfl,?_⟩;have n0_:=Aside0.mk (Kd.R_elder' (by (with_reducible repeat (first|apply Kd.R_alloc|apply Kd.R_drewN|apply Kd.R_drew));exact HO644.out) (Kd.R_base ho0) hb);have n1_:=Aside0.mk (Kd.R_lower (Kd.R_new' ho0 (Kd.R_lt (by (with_reducible repeat (first|apply Kd.R_alloc|apply Kd.R_drewN|apply Kd.R_drew));exact HO644.out))) (below_size (by repeat (first|(with_reducible first|exact HB.out|apply below_alloc|apply pw_below_drewN|apply below_drew1)|exact HB.out))));have n2_:=Aside0.mk (below_step (by repeat (first|(with_reducible first|exact HB.out|apply below_alloc|apply pw_below_drewN|apply below_drew1)|exact HB.out)) hb);clear HO644;clear HB;have HO644:=n0_;have HO647:=n1_;have HB:=n2_;clear n0_ n1_ n2_;(try clear hb);(try clear hb2);(try clear hk);(try clear hi);(try clear ho0);obtain ⟨Ao15,co15,eo15⟩:=Kd.R_slice HO644.out;subst eo15;obtain ⟨Ao16,co16,eo16⟩:=Kd.R_slice HO647.out;subst eo16)|((with_reducible refine gate_callee (f:=62) rfl ?_);refine goesL_ (some 14) rfl rfl Tryd.func62 (by kernel_rfl) rfl #[.slice Ao15 t642.length co15,.slice Ao16 t645.length co16] rfl (by (try simp only [List.map_toArray,List.map_cons,List.map_nil]);first|done|rfl|(simp only [List.length_drop,List.length_take];rfl)) ?_;(with_reducible refine (natural_compare.calls k _ _ t642 _ _ t645 t648 _ ?side1 ?side2 ?side3 ?side4 A5.out).mono ?_);(case side1=>repeat (first|exact (Kd.R_reads' HO644.out).2.2|(with_reducible refine Kd.C_alloc ?_ _)|(with_reducible refine Kd.C_drewN ?_ _)|(with_reducible refine Kd.C_drew ?_)));(case side2=>exact (Kd.R_reads' HO644.out).2.1);(case side3=>repeat (first|exact (Kd.R_reads' HO647.out).2.2|(with_reducible refine Kd.C_alloc ?_ _)|(with_reducible refine Kd.C_drewN ?_ _)|(with_reducible refine Kd.C_drew ?_)));(case side4=>exact (Kd.R_reads' HO647.out).2.1);rintro e w' ⟨rfl,⟨nd,rfl⟩⟩;refine ⟨_,rfl,?_⟩)|((with_reducible refine gate_callee (f:=63) rfl ?_);refine goesL_ (some 18) rfl rfl Tryd.func63 (by kernel_rfl) rfl #[.slice Ao15 t642.length co15,.slice Ao16 t645.length co16] rfl (by (try simp only [List.map_toArray,List.map_cons,List.map_nil]);first|done|rfl|(simp only [List.length_drop,List.length_take];rfl)) ?_;(with_reducible refine (natural_subtract.calls k _ _ t642 _ _ t645 t649 _ ?side1 ?side2 ?side3 ?side4 A11.out).mono ?_);(case side1=>repeat (first|exact (Kd.R_reads' HO644.out).2.2|(with_reducible refine Kd.C_alloc ?_ _)|(with_reducible refine Kd.C_drewN ?_ _)|(with_reducible refine Kd.C_drew ?_)));(case side2=>exact (Kd.R_reads' HO644.out).2.1);(case side3=>repeat (first|exact (Kd.R_reads' HO647.out).2.2|(with_reducible refine Kd.C_alloc ?_ _)|(with_reducible refine Kd.C_drewN ?_ _)|(with_reducible refine Kd.C_drew ?_)));(case side4=>exact (Kd.R_reads' HO647.out).2.1);rintro e w17 ⟨v650,rfl,ho0,hb⟩;refine ⟨_,rfl,?_⟩;have n0_:=Aside0.mk (Kd.R_elder' (by (with_reducible repeat (first|apply Kd.R_alloc|apply Kd.R_drewN|apply Kd.R_drew));exact HO644.out) (Kd.R_base ho0) hb);have n1_:=Aside0.mk (Kd.R_elder' (by (with_reducible repeat (first|apply Kd.R_alloc|apply Kd.R_drewN|apply Kd.R_drew));exact HO647.out) (Kd.R_base ho0) hb);have n2_:=Aside0.mk (Kd.R_lower (Kd.R_new' (Kd.R_new' ho0 (Kd.R_lt (by (with_reducible repeat (first|apply Kd.R_alloc|apply Kd.R_drewN|apply Kd.R_drew));exact HO644.out))) (Kd.R_lt (by (with_reducible repeat (first|apply Kd.R_alloc|apply Kd.R_drewN|apply Kd.R_drew));exact HO647.out))) (below_size (by repeat (first|(with_reducible first|exact HB.out|apply below_alloc|apply pw_below_drewN|apply below_drew1)|exact HB.out))));have n3_:=Aside0.mk (below_step (by repeat (first|(with_reducible first|exact HB.out|apply below_alloc|apply pw_below_drewN|apply below_drew1)|exact HB.out)) hb);clear HO644;clear HO647;clear HB;have HO644:=n0_;have HO647:=n1_;have HO651:=n2_;have HB:=n3_;clear n0_ n1_ n2_ n3_;(try clear hb);(try clear hb2);(try clear hk);(try clear hi);(try clear ho0);obtain ⟨Ao18,co18,eo18⟩:=Kd.R_slice HO651.out;subst eo18)|((with_reducible refine gate_callee (f:=44) rfl ?_);refine goesL_ (some 19) rfl rfl Tryd.func44 (by kernel_rfl) rfl #[.slice Ao18 t649.length co18] rfl (by (try simp only [List.map_toArray,List.map_cons,List.map_nil]);first|done|rfl|(simp only [List.length_drop,List.length_take];rfl)) ?_;(with_reducible refine (natural_limbs_text.calls k _ _ t649 t652 _ ?side1 ?side2 A12.out).mono ?_);(case side1=>repeat (first|exact (Kd.R_reads' HO651.out).2.2|(with_reducible refine Kd.C_alloc ?_ _)|(with_reducible refine Kd.C_drewN ?_ _)|(with_reducible refine Kd.C_drew ?_)));(case side2=>exact (Kd.R_reads' HO651.out).2.1);rintro e w19 ⟨rfl,hb⟩;refine ⟨_,rfl,?_⟩;have n0_:=Aside0.mk (Kd.R_below (by (with_reducible repeat (first|apply Kd.R_alloc|apply Kd.R_drewN|apply Kd.R_drew));exact HO644.out) hb);have n1_:=Aside0.mk (Kd.R_below (by (with_reducible repeat (first|apply Kd.R_alloc|apply Kd.R_drewN|apply Kd.R_drew));exact HO647.out) hb);have n2_:=Aside0.mk (Kd.R_below (by (with_reducible repeat (first|apply Kd.R_alloc|apply Kd.R_drewN|apply Kd.R_drew));exact HO651.out) hb);have n3_:=Aside0.mk (below_step (by repeat (first|(with_reducible first|exact HB.out|apply below_alloc|apply pw_below_drewN|apply below_drew1)|exact HB.out)) hb);clear HO644;clear HO647;clear HO651;clear HB;have HO644:=n0_;have HO647:=n1_;have HO651:=n2_;have HB:=n3_;clear n0_ n1_ n2_ n3_;(try clear hb);(try clear hb2);(try clear hk);(try clear hi)))
  go_ret2
  exact ⟨by first|rfl|(simp [errW_none,errW_some] <;> rfl)|(simp [*,errW_none,errW_some] <;> rfl),by repeat (first|(with_reducible first|exact HB.out|apply below_alloc|apply pw_below_drewN|apply below_drew1)|exact HB.out)⟩
end Go.Proofs.YtjaflmhdclmolaaDoor.F
end
section
namespace Go.Proofs.YtjaflmhdclmolaaDoor.F
open Go.RowKit Go.Proofs.YtjaflmhdclmolaaDoorW.PrintWords Go.Proofs.YtjaflmhdclmolaaDoorW.PrintLast Go.Proofs.YtjaflmhdclmolaaDoorW.PrintMore
attribute [local go_sem] max2_int min2_int max_two min_two max_three min_three max_four min_four   
set_option linter.unusedVariables false
set_option linter.unusedSimpArgs false
mutual
def natural_Multiply.l0:Nat→List Int→List Int→List Int→Int→Int→Option (ByteArray)
 | 0,_,_,_,_,_=>none
 | k+1,x6,x7,x24,x25,x26=>if x26<x25 then (if 0≤x26 then (if x26<(x24.length:Int) then (natural_Multiply.l1 k x6 x7 x26 (rd x24 x26) 0 x24 x25 x26 x6 (x6.length:Int) 0) else (none)) else (none)) else ((natural_limbs_text.f k x7).bind fun t434=>(some t434))
def natural_Multiply.l1:Nat→List Int→List Int→Int→Int→Int→List Int→Int→Int→List Int→Int→Int→Option (ByteArray)
 | 0,_,_,_,_,_,_,_,_,_,_,_=>none
 | k+1,x6,x7,x8,x9,x10,x24,x25,x26,x31,x32,x33=>if x33<x32 then (if 0≤x33 then (if x33<(x31.length:Int) then (if 0≤(wrap64 (x8+x33)) then (if (wrap64 (x8+x33))<(x7.length:Int) then (natural_Multiply.l1 k x6 (x7.set ((wrap64 (x8+x33)):Int).toNat ((IntKind.u64.wrap ((IntKind.u64.wrap ((IntKind.u64.wrap ((IntKind.u64.wrap (x9))*(IntKind.u64.wrap (rd x31 x33))))+(IntKind.u64.wrap (rd x7 (wrap64 (x8+x33))))))+x10))%4294967296)) x8 x9 ((IntKind.u64.wrap ((IntKind.u64.wrap ((IntKind.u64.wrap ((IntKind.u64.wrap (x9))*(IntKind.u64.wrap (rd x31 x33))))+(IntKind.u64.wrap (rd x7 (wrap64 (x8+x33))))))+x10))/4294967296) x24 x25 x26 x31 x32 (wrap64 (x33+1))) else (none)) else (none)) else (none)) else (none)) else (if 0≤(wrap64 (x8+(x6.length:Int))) then (if (wrap64 (x8+(x6.length:Int)))<(x7.length:Int) then (natural_Multiply.l0 k x6 (x7.set ((wrap64 (x8+(x6.length:Int))):Int).toNat ((x10)%4294967296)) x24 x25 (wrap64 (x26+1))) else (none)) else (none))
end
def natural_Multiply.f (k:Nat) (a0:ByteArray) (a1:ByteArray):Option (ByteArray):=(natural_parse.f k a0).bind fun t425=>((natural_parse.f k a1).bind fun t428=>(if 0≤(wrap64 ((t425.length:Int)+(t428.length:Int))) then (if (wrap64 ((t425.length:Int)+(t428.length:Int)):Int).toNat≤70368744177664 then (natural_Multiply.l0 k t428 (List.replicate (wrap64 ((t425.length:Int)+(t428.length:Int)):Int).toNat 0) t425 (t425.length:Int) 0) else (none)) else (none)))
theorem natural_Multiply.mono_l:∀ k,(∀ y0 y1 y2 y3 y4,LeO (natural_Multiply.l0 k y0 y1 y2 y3 y4) (natural_Multiply.l0 (k+1) y0 y1 y2 y3 y4))∧(∀ y0 y1 y2 y3 y4 y5 y6 y7 y8 y9 y10,LeO (natural_Multiply.l1 k y0 y1 y2 y3 y4 y5 y6 y7 y8 y9 y10) (natural_Multiply.l1 (k+1) y0 y1 y2 y3 y4 y5 y6 y7 y8 y9 y10))
 | 0=>⟨fun _ _ _ _ _ r h=>by simp [natural_Multiply.l0] at h,fun _ _ _ _ _ _ _ _ _ _ _ r h=>by simp [natural_Multiply.l1] at h⟩
 | k+1=>by
  obtain ⟨ih0,ih1⟩:=natural_Multiply.mono_l k
  refine ⟨?_,?_⟩
  ·intro y0 y1 y2 y3 y4
   unfold natural_Multiply.l0
   repeat' first
   | (with_reducible exact ih0 _ _ _ _ _)
   | (with_reducible exact ih1 _ _ _ _ _ _ _ _ _ _ _)
   | (with_reducible exact natural_limbs_text.mono _ _)
   | (with_reducible exact natural_parse.mono _ _)
   | (with_reducible exact LeO.refl _)
   | (with_reducible exact LeO.none _)
   | (with_reducible refine LeO.ite ?_ ?_)
   | (with_reducible refine LeO.bind ?_ (fun _=>?_))
   | exact ih0 _ _ _ _ _
   | exact ih1 _ _ _ _ _ _ _ _ _ _ _
   | exact natural_limbs_text.mono _ _
   | exact natural_parse.mono _ _
   | exact LeO.none _
   | refine LeO.ite ?_ ?_
   | refine LeO.bind ?_ (fun _=>?_)
  ·intro y0 y1 y2 y3 y4 y5 y6 y7 y8 y9 y10
   unfold natural_Multiply.l1
   repeat' first
   | (with_reducible exact ih0 _ _ _ _ _)
   | (with_reducible exact ih1 _ _ _ _ _ _ _ _ _ _ _)
   | (with_reducible exact natural_limbs_text.mono _ _)
   | (with_reducible exact natural_parse.mono _ _)
   | (with_reducible exact LeO.refl _)
   | (with_reducible exact LeO.none _)
   | (with_reducible refine LeO.ite ?_ ?_)
   | (with_reducible refine LeO.bind ?_ (fun _=>?_))
   | exact ih0 _ _ _ _ _
   | exact ih1 _ _ _ _ _ _ _ _ _ _ _
   | exact natural_limbs_text.mono _ _
   | exact natural_parse.mono _ _
   | exact LeO.none _
   | refine LeO.ite ?_ ?_
   | refine LeO.bind ?_ (fun _=>?_)
theorem natural_Multiply.mono:∀ a0 a1 k,LeO (natural_Multiply.f k a0 a1) (natural_Multiply.f (k+1) a0 a1):=by
 intro a0 a1 k
 obtain ⟨ih0,ih1⟩:=natural_Multiply.mono_l k
 unfold natural_Multiply.f
 repeat' first
  | (with_reducible exact ih0 _ _ _ _ _)
  | (with_reducible exact ih1 _ _ _ _ _ _ _ _ _ _ _)
  | (with_reducible exact natural_limbs_text.mono _ _)
  | (with_reducible exact natural_parse.mono _ _)
  | (with_reducible exact LeO.refl _)
  | (with_reducible exact LeO.none _)
  | (with_reducible refine LeO.ite ?_ ?_)
  | (with_reducible refine LeO.bind ?_ (fun _=>?_))
  | exact ih0 _ _ _ _ _
  | exact ih1 _ _ _ _ _ _ _ _ _ _ _
  | exact natural_limbs_text.mono _ _
  | exact natural_parse.mono _ _
  | exact LeO.none _
  | refine LeO.ite ?_ ?_
  | refine LeO.bind ?_ (fun _=>?_)
set_option maxHeartbeats 8000000 in
set_option maxRecDepth 100000 in
theorem natural_Multiply.calls (k:Nat) (a0:ByteArray) (a1:ByteArray) (r:ByteArray) (w:World) (h:natural_Multiply.f k a0 a1=some r) :
 Calls Tryd.prog 25 #[.string a0,.string a1] w fun e w'=>e = .returned (.string r)∧Below w.heap.size w w':=by
 have HB:=Aside0.mk (Below.refl w.heap.size w)
 have H:((natural_parse.f k a0).bind fun t425=>((natural_parse.f k a1).bind fun t428=>(if 0≤(wrap64 ((t425.length:Int)+(t428.length:Int))) then (if (wrap64 ((t425.length:Int)+(t428.length:Int)):Int).toNat≤70368744177664 then (natural_Multiply.l0 k t428 (List.replicate (wrap64 ((t425.length:Int)+(t428.length:Int)):Int).toNat 0) t425 (t425.length:Int) 0) else (none)) else (none))))=some r:=h
 clear h
 replace H:=Option.bind_eq_some_iff.mp H
 obtain ⟨t425,A30,H⟩:=H
 replace H:((natural_parse.f k a1).bind fun t428=>(if 0≤(wrap64 ((t425.length:Int)+(t428.length:Int))) then (if (wrap64 ((t425.length:Int)+(t428.length:Int)):Int).toNat≤70368744177664 then (natural_Multiply.l0 k t428 (List.replicate (wrap64 ((t425.length:Int)+(t428.length:Int)):Int).toNat 0) t425 (t425.length:Int) 0) else (none)) else (none)))=some r:=H
 have A3:=Aside0.mk A30
 clear A30
 replace H:=Option.bind_eq_some_iff.mp H
 obtain ⟨t428,A40,H⟩:=H
 replace H:(if 0≤(wrap64 ((t425.length:Int)+(t428.length:Int))) then (if (wrap64 ((t425.length:Int)+(t428.length:Int)):Int).toNat≤70368744177664 then (natural_Multiply.l0 k t428 (List.replicate (wrap64 ((t425.length:Int)+(t428.length:Int)):Int).toNat 0) t425 (t425.length:Int) 0) else (none)) else (none))=some r:=H
 have A4:=Aside0.mk A40
 clear A40
 obtain ⟨ji5,hji5⟩:∃ j_:Int,(wrap64 ((t425.length:Int)+(t428.length:Int)))=j_:=⟨_,rfl⟩
 replace H:(if 0≤(ji5) then (if (ji5:Int).toNat≤70368744177664 then (natural_Multiply.l0 k t428 (List.replicate (ji5:Int).toNat 0) t425 (t425.length:Int) 0) else (none)) else (none))=some r:=by first|(rw [hji5] at H;exact H)|(simp only [hji5] at H ⊢;exact H)
 (try rw [hji5] at A3)
 (try rw [hji5] at A4)
 have hji5w:(IntKind.i64.wrap ((t425.length:Int)+(t428.length:Int)))=ji5:=(i64_w _).trans hji5
 by_cases c6:0≤(ji5)
 ·rw [if_pos c6] at H
  have c6b0:=eq_true c6
  have c6b1:decide (0≤(ji5))=true:=decide_eq_true c6
  clear c6
  by_cases c7:(ji5:Int).toNat≤70368744177664
  ·rw [if_pos c7] at H
   have c7b0:=eq_true c7
   have c7b1:decide ((ji5:Int).toNat≤70368744177664)=true:=decide_eq_true c7
   clear c7
   obtain ⟨y431,hy431⟩:∃ y_:List Int,y_=(List.replicate (ji5:Int).toNat 0):=⟨_,rfl⟩
   replace H:(natural_Multiply.l0 k t428 y431 t425 (t425.length:Int) 0)=some r:=by first|(rw [hy431];with_reducible exact H)|(have H2_:=(Option.bind_some _ _).symm.trans H;rw [hy431];with_reducible exact H2_)|(have H2_:=(Option.bind_some _ _).symm.trans H;with_reducible exact H2_)|with_reducible exact H|(rw [hy431];exact H)|exact H
   have Ny431:=Aside0.mk hy431
   clear hy431
   have H':=Aside0.mk H
   clear H
   go_enter Tryd.func25,Tryd.ntmps25
   go_wp2_with (first|((with_reducible refine gate_callee (f:=42) rfl ?_);refine goesL_ (some 15) rfl rfl Tryd.func42 (by kernel_rfl) rfl #[.string a0] rfl (by (try simp only [List.map_toArray,List.map_cons,List.map_nil]);first|done|rfl|(simp only [List.length_drop,List.length_take];rfl)) ?_;(with_reducible refine (natural_parse.calls k a0 t425 _ A3.out).mono ?_);rintro e w8 ⟨v426,rfl,ho0,hb⟩;refine ⟨_,rfl,?_⟩;have n0_:=Aside0.mk (Kd.R_lower ho0 (below_size (by repeat (first|(with_reducible first|exact HB.out|apply below_alloc|apply pw_below_drewN|apply below_drew1)|exact HB.out))));have n1_:=Aside0.mk (below_step (by repeat (first|(with_reducible first|exact HB.out|apply below_alloc|apply pw_below_drewN|apply below_drew1)|exact HB.out)) hb);clear HB;have HO427:=n0_;have HB:=n1_;clear n0_ n1_;(try clear hb);(try clear hb2);(try clear hk);(try clear hi);(try clear ho0))|((with_reducible refine gate_callee (f:=42) rfl ?_);refine goesL_ (some 17) rfl rfl Tryd.func42 (by kernel_rfl) rfl #[.string a1] rfl (by (try simp only [List.map_toArray,List.map_cons,List.map_nil]);first|done|rfl|(simp only [List.length_drop,List.length_take];rfl)) ?_;(with_reducible refine (natural_parse.calls k a1 t428 _ A4.out).mono ?_);rintro e w9 ⟨v429,rfl,ho0,hb⟩;refine ⟨_,rfl,?_⟩;have n0_:=Aside0.mk (Kd.R_elder' (by (with_reducible repeat (first|apply Kd.R_alloc|apply Kd.R_drewN|apply Kd.R_drew));exact HO427.out) (Kd.R_base ho0) hb);have n1_:=Aside0.mk (Kd.R_lower (Kd.R_new' ho0 (Kd.R_lt (by (with_reducible repeat (first|apply Kd.R_alloc|apply Kd.R_drewN|apply Kd.R_drew));exact HO427.out))) (below_size (by repeat (first|(with_reducible first|exact HB.out|apply below_alloc|apply pw_below_drewN|apply below_drew1)|exact HB.out))));have n2_:=Aside0.mk (below_step (by repeat (first|(with_reducible first|exact HB.out|apply below_alloc|apply pw_below_drewN|apply below_drew1)|exact HB.out)) hb);clear HO427;clear HB;have HO427:=n0_;have HO430:=n1_;have HB:=n2_;clear n0_ n1_ n2_;(try clear hb);(try clear hb2);(try clear hk);(try clear hi);(try clear ho0);obtain ⟨Ao10,co10,eo10⟩:=Kd.R_slice HO427.out;subst eo10;obtain ⟨Ao11,co11,eo11⟩:=Kd.R_slice HO430.out;subst eo11)|((with_reducible refine gate_dst (N:=23) rfl ?_);refine Kd.R_make (Kd.int .u32) _ 60 rfl (N:=23) rfl 50 _ _ rfl ji5 rfl rfl Tryd.underlying50 (.int .u32 0) 4 info60 rfl (by decide) (by omega) 0 (ok:=fun _=>True) (okp:=fun _=>True) rfl (fun _ hk=>hk) trivial (of_decide_eq_true (by first|(with_reducible assumption)|assumption)) (Nat.le_trans (Nat.mul_le_mul_right _ (of_decide_eq_true (by first|(with_reducible assumption)|assumption):ji5.toNat≤70368744177664)) (by omega)) (Below.refl _ _) (Nat.le_refl _) ?_;intro v432 w12 ho13 hb hg_ hnew_;clear hg_ hnew_;(first|rw [← Ny431.out] at ho13|(simp only [Int.reduceToNat] at ho13;rw [← Ny431.out] at ho13));have n0_:=Aside0.mk (Kd.R_elder' (by (with_reducible repeat (first|apply Kd.R_alloc|apply Kd.R_drewN|apply Kd.R_drew));exact HO427.out) (Kd.R_base ho13) hb);have n1_:=Aside0.mk (Kd.R_elder' (by (with_reducible repeat (first|apply Kd.R_alloc|apply Kd.R_drewN|apply Kd.R_drew));exact HO430.out) (Kd.R_base ho13) hb);have n2_:=Aside0.mk (Kd.R_lower (Kd.R_new' (Kd.R_new' ho13 (Kd.R_lt (by (with_reducible repeat (first|apply Kd.R_alloc|apply Kd.R_drewN|apply Kd.R_drew));exact HO427.out))) (Kd.R_lt (by (with_reducible repeat (first|apply Kd.R_alloc|apply Kd.R_drewN|apply Kd.R_drew));exact HO430.out))) (below_size (by repeat (first|(with_reducible first|exact HB.out|apply below_alloc|apply pw_below_drewN|apply below_drew1)|exact HB.out))));have n3_:=Aside0.mk (below_step (by repeat (first|(with_reducible first|exact HB.out|apply below_alloc|apply pw_below_drewN|apply below_drew1)|exact HB.out)) hb);clear HO427;clear HO430;clear HB;have HO427:=n0_;have HO430:=n1_;have HO433:=n2_;have HB:=n3_;clear n0_ n1_ n2_ n3_;clear hb ho13))
   go_loopg [26] k (fun kq v26 w'=>∃ (x7_1:List Int) (x26_1:Int),v26 = .int .i64 x26_1∧Aside0 (natural_Multiply.l0 kq t428 x7_1 t425 (t425.length:Int) x26_1=some r)∧Aside0 (kq≤k)∧Aside0 (Kd.R (Kd.int .u32) 60 w' w.heap.size (fun k_=>some k_≠(v432:Value).ownBlock∧some k_≠((.slice Ao10 t425.length co10):Value).ownBlock) (.slice Ao11 t428.length co11) t428)∧Aside0 (Kd.R (Kd.int .u32) 60 w' w.heap.size (fun k_=>some k_≠((.slice Ao11 t428.length co11):Value).ownBlock∧some k_≠((.slice Ao10 t425.length co10):Value).ownBlock) v432 x7_1)∧Aside0 (Kd.R (Kd.int .u32) 60 w' w.heap.size (fun k_=>some k_≠((.slice Ao11 t428.length co11):Value).ownBlock∧some k_≠(v432:Value).ownBlock) (.slice Ao10 t425.length co10) t425)∧Aside0 (Below w.heap.size w w'))
   case atStart=>exact ⟨(y431),(0),(by first|rfl|(simp;done)|(simp [*];done)),H',⟨Nat.le_refl _⟩,⟨by (with_reducible repeat (first|apply Kd.R_alloc|apply Kd.R_drewN|apply Kd.R_drew));exact Kd.R_mono HO430.out (fun _ hk=>⟨hk.2,hk.1.2⟩)⟩,⟨by (with_reducible repeat (first|apply Kd.R_alloc|apply Kd.R_drewN|apply Kd.R_drew));exact Kd.R_mono HO433.out (fun _ hk=>⟨hk.2,hk.1.2⟩)⟩,⟨by (with_reducible repeat (first|apply Kd.R_alloc|apply Kd.R_drewN|apply Kd.R_drew));exact Kd.R_mono HO427.out (fun _ hk=>⟨hk.1.2,hk.2⟩)⟩,⟨by repeat (first|(with_reducible first|exact HB.out|apply below_alloc|apply pw_below_drewN|apply below_drew1)|exact HB.out)⟩⟩
   case round=>
    clear H'
    try clear c2
    try clear p2
    try clear c4
    try clear c6
    try clear c6b0
    try clear c6b1
    try clear p6
    try clear c7
    try clear c7b0
    try clear c7b1
    obtain ⟨x7_1,x26_1,rfl,HA,HK1,HO_6,HO_7,HO_24,HB⟩:=hrel
    cases gk with
    | zero=>exact absurd HA.out (by simp [natural_Multiply.l0])
    | succ k1=>
     have H:=HA.out
     clear HA
     simp only [natural_Multiply.l0] at H
     by_cases c14:x26_1<(t425.length:Int)
     ·rw [if_pos c14] at H
      have c14b0:decide (x26_1<(t425.length:Int))=true:=decide_eq_true c14
      clear c14
      by_cases c15:0≤x26_1
      ·rw [if_pos c15] at H
       have c15b0:decide (0≤x26_1)=true:=decide_eq_true c15
       clear c15
       by_cases c16:x26_1<(t425.length:Int)
       ·rw [if_pos c16] at H
        have c16b0:decide (x26_1<(t425.length:Int))=true:=decide_eq_true c16
        clear c16
        have H':=Aside0.mk H
        clear H
        have p435:0≤(x26_1:Int):=of_decide_eq_true (by first|(with_reducible assumption)|assumption)
        have q435:x26_1<(t425.length:Int):=of_decide_eq_true (by first|(with_reducible assumption)|assumption)
        obtain ⟨ad435,e435,hx435_0⟩:=Kd.at_int (Kd.R_reads' HO_24.out).2.2 x26_1 p435 q435
        cases e435
        replace p435:=eq_true p435
        replace q435:=eq_true q435
        go_wp2
        go_loopg [10,33] k1 (fun kq v10 v33 w'=>∃ (x7_2:List Int) (x10_2:Int) (x33_2:Int),v10 = .int .u64 x10_2∧v33 = .int .i64 x33_2∧Aside0 (natural_Multiply.l1 kq t428 x7_2 x26_1 (rd t425 x26_1) x10_2 t425 (t425.length:Int) x26_1 t428 (t428.length:Int) x33_2=some r)∧Aside0 (kq≤k1)∧Aside0 (Kd.R (Kd.int .u32) 60 w' w.heap.size (fun k_=>some k_≠(v432:Value).ownBlock∧some k_≠((.slice (some ad435) t425.length co10):Value).ownBlock) (.slice Ao11 t428.length co11) t428)∧Aside0 (Kd.R (Kd.int .u32) 60 w' w.heap.size (fun k_=>some k_≠((.slice Ao11 t428.length co11):Value).ownBlock∧some k_≠((.slice (some ad435) t425.length co10):Value).ownBlock∧some k_≠((.slice Ao11 t428.length co11):Value).ownBlock) v432 x7_2)∧Aside0 (Kd.R (Kd.int .u32) 60 w' w.heap.size (fun k_=>some k_≠((.slice Ao11 t428.length co11):Value).ownBlock∧some k_≠(v432:Value).ownBlock∧some k_≠((.slice Ao11 t428.length co11):Value).ownBlock) (.slice (some ad435) t425.length co10) t425)∧Aside0 (Kd.R (Kd.int .u32) 60 w' w.heap.size (fun k_=>some k_≠(v432:Value).ownBlock∧some k_≠((.slice (some ad435) t425.length co10):Value).ownBlock) (.slice Ao11 t428.length co11) t428)∧Aside0 (Below w.heap.size w w'))
        case atStart=>exact ⟨(x7_1),(0),(0),(by first|rfl|(simp;done)|(simp [*];done)),(by first|rfl|(simp;done)|(simp [*];done)),H',⟨Nat.le_refl _⟩,⟨by (with_reducible repeat (first|apply Kd.R_alloc|apply Kd.R_drewN|apply Kd.R_drew));exact HO_6.out⟩,⟨by (with_reducible repeat (first|apply Kd.R_alloc|apply Kd.R_drewN|apply Kd.R_drew));exact Kd.R_mono HO_7.out (fun _ hk=>⟨hk.1,⟨hk.2,hk.1⟩⟩)⟩,⟨by (with_reducible repeat (first|apply Kd.R_alloc|apply Kd.R_drewN|apply Kd.R_drew));exact Kd.R_mono HO_24.out (fun _ hk=>⟨hk.1,⟨hk.2,hk.1⟩⟩)⟩,⟨by (with_reducible repeat (first|apply Kd.R_alloc|apply Kd.R_drewN|apply Kd.R_drew));exact HO_6.out⟩,⟨by repeat (first|(with_reducible first|exact HB.out|apply below_alloc|apply pw_below_drewN|apply below_drew1)|exact HB.out)⟩⟩
        case round=>
         clear H'
         try clear c1
         try clear c2
         try clear p2
         try clear c4
         try clear p4
         try clear q4
         try clear hx4
         try clear c6
         try clear c6b0
         try clear c6b1
         try clear p6
         try clear c7
         try clear c7b0
         try clear c7b1
         try clear c14
         try clear c14b0
         try clear c15
         try clear c15b0
         try clear c16
         try clear c16b0
         try clear hx435_0
         try clear p2
         try clear p435
         try clear p6
         try clear q435
         obtain ⟨x7_2,x10_2,x33_2,rfl,rfl,HA,HK2,HO_6,HO_7,HO_24,HO_31,HB⟩:=hrel
         cases gk with
         | zero=>exact absurd HA.out (by simp [natural_Multiply.l1])
         | succ k2=>
          have H:=HA.out
          clear HA
          simp only [natural_Multiply.l1] at H
          by_cases c17:x33_2<(t428.length:Int)
          ·rw [if_pos c17] at H
           have c17b0:decide (x33_2<(t428.length:Int))=true:=decide_eq_true c17
           clear c17
           by_cases c18:0≤x33_2
           ·rw [if_pos c18] at H
            have c18b0:decide (0≤x33_2)=true:=decide_eq_true c18
            clear c18
            by_cases c19:x33_2<(t428.length:Int)
            ·rw [if_pos c19] at H
             have c19b0:decide (x33_2<(t428.length:Int))=true:=decide_eq_true c19
             clear c19
             obtain ⟨ji20,hji20⟩:∃ j_:Int,(wrap64 (x26_1+x33_2))=j_:=⟨_,rfl⟩
             replace H:(if 0≤(ji20) then (if (ji20)<(x7_2.length:Int) then (natural_Multiply.l1 k2 t428 (x7_2.set ((ji20):Int).toNat ((IntKind.u64.wrap ((IntKind.u64.wrap ((IntKind.u64.wrap ((IntKind.u64.wrap ((rd t425 x26_1)))*(IntKind.u64.wrap (rd t428 x33_2))))+(IntKind.u64.wrap (rd x7_2 (ji20)))))+x10_2))%4294967296)) x26_1 (rd t425 x26_1) ((IntKind.u64.wrap ((IntKind.u64.wrap ((IntKind.u64.wrap ((IntKind.u64.wrap ((rd t425 x26_1)))*(IntKind.u64.wrap (rd t428 x33_2))))+(IntKind.u64.wrap (rd x7_2 (ji20)))))+x10_2))/4294967296) t425 (t425.length:Int) x26_1 t428 (t428.length:Int) (wrap64 (x33_2+1))) else (none)) else (none))=some r:=by first|(rw [hji20] at H;exact H)|(simp only [hji20] at H ⊢;exact H)
             have hji20w:(IntKind.i64.wrap (x26_1+x33_2))=ji20:=(i64_w _).trans hji20
             by_cases c21:0≤(ji20)
             ·rw [if_pos c21] at H
              have c21b0:decide (0≤(ji20))=true:=decide_eq_true c21
              clear c21
              by_cases c22:(ji20)<(x7_2.length:Int)
              ·rw [if_pos c22] at H
               have c22b0:decide ((ji20)<(x7_2.length:Int))=true:=decide_eq_true c22
               clear c22
               obtain ⟨y438,hy438⟩:∃ y_:List Int,y_=(x7_2.set ((ji20):Int).toNat ((IntKind.u64.wrap ((IntKind.u64.wrap ((IntKind.u64.wrap ((IntKind.u64.wrap ((rd t425 x26_1)))*(IntKind.u64.wrap (rd t428 x33_2))))+(IntKind.u64.wrap (rd x7_2 (ji20)))))+x10_2))%4294967296)):=⟨_,rfl⟩
               replace H:(natural_Multiply.l1 k2 t428 y438 x26_1 (rd t425 x26_1) ((IntKind.u64.wrap ((IntKind.u64.wrap ((IntKind.u64.wrap ((IntKind.u64.wrap ((rd t425 x26_1)))*(IntKind.u64.wrap (rd t428 x33_2))))+(IntKind.u64.wrap (rd x7_2 (ji20)))))+x10_2))/4294967296) t425 (t425.length:Int) x26_1 t428 (t428.length:Int) (wrap64 (x33_2+1)))=some r:=by first|(rw [hy438];with_reducible exact H)|(have H2_:=(Option.bind_some _ _).symm.trans H;rw [hy438];with_reducible exact H2_)|(have H2_:=(Option.bind_some _ _).symm.trans H;with_reducible exact H2_)|with_reducible exact H|(rw [hy438];exact H)|exact H
               have Ny438:=Aside0.mk hy438
               clear hy438
               have H':=Aside0.mk H
               clear H
               have p436:0≤(x33_2:Int):=of_decide_eq_true (by first|(with_reducible assumption)|assumption)
               have q436:x33_2<(t428.length:Int):=of_decide_eq_true (by first|(with_reducible assumption)|assumption)
               obtain ⟨ad436,e436,hx436_0⟩:=Kd.at_int (Kd.R_reads' HO_31.out).2.2 x33_2 p436 q436
               cases e436
               replace p436:=eq_true p436
               replace q436:=eq_true q436
               obtain ⟨Ao24,co24,eo24⟩:=Kd.R_slice HO_7.out
               subst eo24
               have p437:0≤((ji20):Int):=of_decide_eq_true (by first|(with_reducible assumption)|assumption)
               have q437:(ji20)<(x7_2.length:Int):=of_decide_eq_true (by first|(with_reducible assumption)|assumption)
               obtain ⟨ad437,e437,hx437_0⟩:=Kd.at_int (Kd.R_reads' HO_7.out).2.2 (ji20) p437 q437
               cases e437
               replace p437:=eq_true p437
               replace q437:=eq_true q437
               have p23:0≤((ji20):Int):=of_decide_eq_true (by first|(with_reducible assumption)|assumption)
               have q23:((ji20):Int)<((x7_2.length:Int):Int):=of_decide_eq_true (by first|(with_reducible assumption)|assumption)
               obtain ⟨go23,co23,eo23,gb23,gl23,cl23,HG23⟩:=Kd.R_form HO_7.out (by omega)
               (first|cases eo23|(injection eo23 with ea_ en_ ec_;(first|subst ea_|(injection ea_ with ea_;subst ea_));subst ec_;clear en_))
               have GB23:=Aside0.mk gb23
               have GG23:=Aside0.mk HG23
               clear gb23 gl23 HG23
               (first|simp only [add_plain] at hx437_0|skip)
               obtain ⟨hx23_0,hf23_0⟩:=Kd.R_celln 0 HO_7.out ((ji20):Int) p23 q23
               replace p23:=eq_true p23
               replace q23:=eq_true q23
               have HP25:=Kd.R_putg HO_7.out ((ji20):Int) ((IntKind.u64.wrap ((IntKind.u64.wrap ((IntKind.u64.wrap ((IntKind.u64.wrap ((rd t425 x26_1)))*(IntKind.u64.wrap (rd t428 x33_2))))+(IntKind.u64.wrap (rd x7_2 (ji20)))))+x10_2))%4294967296)
               go_wp2_with (first|((with_reducible refine gate_store (t:=60) (p:=59) rfl ?_);refine store_event (t:=60) (p:=59) (v:=?vo_w26) (w1:=(wr.setCell ⟨go23,((ji20):Int).toNat,none⟩ (.int .u32 ((IntKind.u64.wrap ((IntKind.u64.wrap ((IntKind.u64.wrap ((IntKind.u64.wrap ((rd t425 x26_1)))*(IntKind.u64.wrap (rd t428 x33_2))))+(IntKind.u64.wrap (rd x7_2 (ji20)))))+x10_2))%4294967296)))) ?hg ?ho ?hn ?hr ?_;(case ho=>rfl);(case hg=>rfl);(case hn=>rfl);(case hr=>first|(go_simp;done)|(go_simp;rfl));intro w26 hw;have hg:wr.grownBy w26 (some go23):=(by rw [hw];exact HP25.2);have hp_:Kd.R (Kd.int .u32) 60 w26 w.heap.size (fun k_=>some k_≠(.slice (some ad436) t428.length co11:Value).ownBlock∧some k_≠(.slice (some ad435) t425.length co10:Value).ownBlock∧some k_≠(.slice (some ad436) t428.length co11:Value).ownBlock) (.slice (some ⟨go23,0,none⟩) x7_2.length co24) y438:=(by rw [hw,Ny438.out];exact HP25.1);clear HP25;have n0_:=Aside0.mk (Kd.R_after (v:=(.slice (some ⟨go23,0,none⟩) x7_2.length co24)) (v1:=(.slice (some ⟨go23,0,none⟩) x7_2.length co24)) (ok:=(fun k_=>some k_≠(.slice (some ad435) t425.length co10:Value).ownBlock)) (by (with_reducible repeat (first|apply Kd.R_alloc|apply Kd.R_drewN|apply Kd.R_drew));exact Kd.R_mono HO_6.out (fun _ hk=>⟨hk.2,hk.1⟩)) hg (.inl rfl));have n1_:=Aside0.mk (hp_);have n2_:=Aside0.mk (Kd.R_after (v:=(.slice (some ⟨go23,0,none⟩) x7_2.length co24)) (v1:=(.slice (some ⟨go23,0,none⟩) x7_2.length co24)) (ok:=(fun k_=>some k_≠(.slice (some ad436) t428.length co11:Value).ownBlock∧some k_≠(.slice (some ad436) t428.length co11:Value).ownBlock)) (by (with_reducible repeat (first|apply Kd.R_alloc|apply Kd.R_drewN|apply Kd.R_drew));exact Kd.R_mono HO_24.out (fun _ hk=>⟨⟨hk.1,hk.2.2⟩,hk.2.1⟩)) hg (.inl rfl));have n3_:=Aside0.mk (Kd.R_after (v:=(.slice (some ⟨go23,0,none⟩) x7_2.length co24)) (v1:=(.slice (some ⟨go23,0,none⟩) x7_2.length co24)) (ok:=(fun k_=>some k_≠(.slice (some ad435) t425.length co10:Value).ownBlock)) (by (with_reducible repeat (first|apply Kd.R_alloc|apply Kd.R_drewN|apply Kd.R_drew));exact Kd.R_mono HO_31.out (fun _ hk=>⟨hk.2,hk.1⟩)) hg (.inl rfl));have n4_:=Aside0.mk ((by rw [hw];exact below_set (HB.out) GB23.out:Below w.heap.size w w26));clear HO_6;clear HO_7;clear HO_24;clear HO_31;clear HB;have HO_6:=n0_;have HO_7:=n1_;have HO_24:=n2_;have HO_31:=n3_;have HB:=n4_;clear n0_ n1_ n2_ n3_ n4_;clear hg hw hp_))
               go_roundg k2
               case measure=>have:=HK1.out;have:=HK2.out;omega
               case rel=>exact ⟨(y438),((IntKind.u64.wrap ((IntKind.u64.wrap ((IntKind.u64.wrap ((IntKind.u64.wrap ((rd t425 x26_1)))*(IntKind.u64.wrap (rd t428 x33_2))))+(IntKind.u64.wrap (rd x7_2 (ji20)))))+x10_2))/4294967296),(wrap64 (x33_2+1)),(by first|rfl|(simp;done)|(simp only [← hji20] <;> (first|rfl|simp))|(simp [*];done)),(by first|rfl|(simp;done)|(simp [*];done)),H',⟨by have:=HK1.out;have:=HK2.out;omega⟩,⟨by (with_reducible repeat (first|apply Kd.R_alloc|apply Kd.R_drewN|apply Kd.R_drew));exact Kd.R_mono HO_6.out (fun _ hk=>⟨hk.2,hk.1⟩)⟩,⟨by (with_reducible repeat (first|apply Kd.R_alloc|apply Kd.R_drewN|apply Kd.R_drew));exact HO_7.out⟩,⟨by (with_reducible repeat (first|apply Kd.R_alloc|apply Kd.R_drewN|apply Kd.R_drew));exact Kd.R_mono HO_24.out (fun _ hk=>⟨hk.1.1,⟨hk.2,hk.1.2⟩⟩)⟩,⟨by (with_reducible repeat (first|apply Kd.R_alloc|apply Kd.R_drewN|apply Kd.R_drew));exact Kd.R_mono HO_31.out (fun _ hk=>⟨hk.2,hk.1⟩)⟩,⟨by repeat (first|(with_reducible first|exact HB.out|apply below_alloc|apply pw_below_drewN|apply below_drew1)|exact HB.out)⟩⟩
              ·rw [if_neg c22] at H
               exact absurd H (by simp)
             ·rw [if_neg c21] at H
              exact absurd H (by simp)
            ·rw [if_neg c19] at H
             exact absurd H (by simp)
           ·rw [if_neg c18] at H
            exact absurd H (by simp)
          ·rw [if_neg c17] at H
           have c17b0:decide (x33_2<(t428.length:Int))=false:=decide_eq_false c17
           clear c17
           obtain ⟨ji27,hji27⟩:∃ j_:Int,(wrap64 (x26_1+(t428.length:Int)))=j_:=⟨_,rfl⟩
           replace H:(if 0≤(ji27) then (if (ji27)<(x7_2.length:Int) then (natural_Multiply.l0 k2 t428 (x7_2.set ((ji27):Int).toNat ((x10_2)%4294967296)) t425 (t425.length:Int) (wrap64 (x26_1+1))) else (none)) else (none))=some r:=by first|(rw [hji27] at H;exact H)|(simp only [hji27] at H ⊢;exact H)
           have hji27w:(IntKind.i64.wrap (x26_1+(t428.length:Int)))=ji27:=(i64_w _).trans hji27
           by_cases c28:0≤(ji27)
           ·rw [if_pos c28] at H
            have c28b0:decide (0≤(ji27))=true:=decide_eq_true c28
            clear c28
            by_cases c29:(ji27)<(x7_2.length:Int)
            ·rw [if_pos c29] at H
             have c29b0:decide ((ji27)<(x7_2.length:Int))=true:=decide_eq_true c29
             clear c29
             obtain ⟨y439,hy439⟩:∃ y_:List Int,y_=(x7_2.set ((ji27):Int).toNat ((x10_2)%4294967296)):=⟨_,rfl⟩
             replace H:(natural_Multiply.l0 k2 t428 y439 t425 (t425.length:Int) (wrap64 (x26_1+1)))=some r:=by first|(rw [hy439];with_reducible exact H)|(have H2_:=(Option.bind_some _ _).symm.trans H;rw [hy439];with_reducible exact H2_)|(have H2_:=(Option.bind_some _ _).symm.trans H;with_reducible exact H2_)|with_reducible exact H|(rw [hy439];exact H)|exact H
             have Ny439:=Aside0.mk hy439
             clear hy439
             have H':=Aside0.mk H
             clear H
             have p30:0≤((ji27):Int):=of_decide_eq_true (by first|(with_reducible assumption)|assumption)
             have q30:((ji27):Int)<((x7_2.length:Int):Int):=of_decide_eq_true (by first|(with_reducible assumption)|assumption)
             obtain ⟨go30,co30,eo30,gb30,gl30,cl30,HG30⟩:=Kd.R_form HO_7.out (by omega)
             (first|cases eo30|(injection eo30 with ea_ en_ ec_;(first|subst ea_|(injection ea_ with ea_;subst ea_));subst ec_;clear en_))
             have GB30:=Aside0.mk gb30
             have GG30:=Aside0.mk HG30
             clear gb30 gl30 HG30
             obtain ⟨hx30_0,hf30_0⟩:=Kd.R_celln 0 HO_7.out ((ji27):Int) p30 q30
             replace p30:=eq_true p30
             replace q30:=eq_true q30
             have HP31:=Kd.R_putg HO_7.out ((ji27):Int) ((x10_2)%4294967296)
             go_wp2_with (first|((with_reducible refine gate_store (t:=60) (p:=70) rfl ?_);refine store_event (t:=60) (p:=70) (v:=?vo_w32) (w1:=(wr.setCell ⟨go30,((ji27):Int).toNat,none⟩ (.int .u32 ((x10_2)%4294967296)))) ?hg ?ho ?hn ?hr ?_;(case ho=>rfl);(case hg=>rfl);(case hn=>rfl);(case hr=>first|(go_simp;done)|(go_simp;rfl));intro w32 hw;have hg:wr.grownBy w32 (some go30):=(by rw [hw];exact HP31.2);have hp_:Kd.R (Kd.int .u32) 60 w32 w.heap.size (fun k_=>some k_≠(.slice Ao11 t428.length co11:Value).ownBlock∧some k_≠(.slice (some ad435) t425.length co10:Value).ownBlock∧some k_≠(.slice Ao11 t428.length co11:Value).ownBlock) (.slice (some ⟨go30,0,none⟩) x7_2.length co30) y439:=(by rw [hw,Ny439.out];exact HP31.1);clear HP31;have n0_:=Aside0.mk (Kd.R_after (v:=(.slice (some ⟨go30,0,none⟩) x7_2.length co30)) (v1:=(.slice (some ⟨go30,0,none⟩) x7_2.length co30)) (ok:=(fun k_=>some k_≠(.slice (some ad435) t425.length co10:Value).ownBlock)) (by (with_reducible repeat (first|apply Kd.R_alloc|apply Kd.R_drewN|apply Kd.R_drew));exact Kd.R_mono HO_6.out (fun _ hk=>⟨hk.2,hk.1⟩)) hg (.inl rfl));have n1_:=Aside0.mk (hp_);have n2_:=Aside0.mk (Kd.R_after (v:=(.slice (some ⟨go30,0,none⟩) x7_2.length co30)) (v1:=(.slice (some ⟨go30,0,none⟩) x7_2.length co30)) (ok:=(fun k_=>some k_≠(.slice Ao11 t428.length co11:Value).ownBlock∧some k_≠(.slice Ao11 t428.length co11:Value).ownBlock)) (by (with_reducible repeat (first|apply Kd.R_alloc|apply Kd.R_drewN|apply Kd.R_drew));exact Kd.R_mono HO_24.out (fun _ hk=>⟨⟨hk.1,hk.2.2⟩,hk.2.1⟩)) hg (.inl rfl));have n3_:=Aside0.mk (Kd.R_after (v:=(.slice (some ⟨go30,0,none⟩) x7_2.length co30)) (v1:=(.slice (some ⟨go30,0,none⟩) x7_2.length co30)) (ok:=(fun k_=>some k_≠(.slice (some ad435) t425.length co10:Value).ownBlock)) (by (with_reducible repeat (first|apply Kd.R_alloc|apply Kd.R_drewN|apply Kd.R_drew));exact Kd.R_mono HO_31.out (fun _ hk=>⟨hk.2,hk.1⟩)) hg (.inl rfl));have n4_:=Aside0.mk ((by rw [hw];exact below_set (HB.out) GB30.out:Below w.heap.size w w32));clear HO_6;clear HO_7;clear HO_24;clear HO_31;clear HB;have HO_6:=n0_;have HO_7:=n1_;have HO_24:=n2_;have HO_31:=n3_;have HB:=n4_;clear n0_ n1_ n2_ n3_ n4_;clear hg hw hp_))
             go_roundg k2
             case measure=>have:=HK1.out;have:=HK2.out;omega
             case rel=>exact ⟨(y439),(wrap64 (x26_1+1)),(by first|rfl|(simp;done)|(simp [*];done)),H',⟨by have:=HK1.out;have:=HK2.out;omega⟩,⟨by (with_reducible repeat (first|apply Kd.R_alloc|apply Kd.R_drewN|apply Kd.R_drew));exact Kd.R_mono HO_6.out (fun _ hk=>⟨hk.2,hk.1⟩)⟩,⟨by (with_reducible repeat (first|apply Kd.R_alloc|apply Kd.R_drewN|apply Kd.R_drew));exact Kd.R_mono HO_7.out (fun _ hk=>⟨hk.1,hk.2.1⟩)⟩,⟨by (with_reducible repeat (first|apply Kd.R_alloc|apply Kd.R_drewN|apply Kd.R_drew));exact Kd.R_mono HO_24.out (fun _ hk=>⟨hk.1.1,hk.2⟩)⟩,⟨by repeat (first|(with_reducible first|exact HB.out|apply below_alloc|apply pw_below_drewN|apply below_drew1)|exact HB.out)⟩⟩
            ·rw [if_neg c29] at H
             exact absurd H (by simp)
           ·rw [if_neg c28] at H
            exact absurd H (by simp)
       ·rw [if_neg c16] at H
        exact absurd H (by simp)
      ·rw [if_neg c15] at H
       exact absurd H (by simp)
     ·rw [if_neg c14] at H
      have c14b0:decide (x26_1<(t425.length:Int))=false:=decide_eq_false c14
      clear c14
      replace H:=Option.bind_eq_some_iff.mp H
      obtain ⟨t434,A330,H⟩:=H
      replace H:(some t434)=some r:=H
      have A33:=Aside0.mk A330
      clear A330
      obtain rfl:=Option.some.inj H
      obtain ⟨Ao34,co34,eo34⟩:=Kd.R_slice HO_7.out
      subst eo34
      go_wp2_with (first|((with_reducible refine gate_callee (f:=44) rfl ?_);refine goesL_ (some 73) rfl rfl Tryd.func44 (by kernel_rfl) rfl #[.slice Ao34 x7_1.length co34] rfl (by (try simp only [List.map_toArray,List.map_cons,List.map_nil]);first|done|rfl|(simp only [List.length_drop,List.length_take];rfl)) ?_;(with_reducible refine (natural_limbs_text.calls k1 _ _ x7_1 t434 _ ?side1 ?side2 A33.out).mono ?_);(case side1=>repeat (first|exact (Kd.R_reads' HO_7.out).2.2|(with_reducible refine Kd.C_alloc ?_ _)|(with_reducible refine Kd.C_drewN ?_ _)|(with_reducible refine Kd.C_drew ?_)));(case side2=>exact (Kd.R_reads' HO_7.out).2.1);rintro e w35 ⟨rfl,hb⟩;refine ⟨_,rfl,?_⟩;have n0_:=Aside0.mk (Kd.R_below (by (with_reducible repeat (first|apply Kd.R_alloc|apply Kd.R_drewN|apply Kd.R_drew));exact HO_6.out) hb);have n1_:=Aside0.mk (Kd.R_below (by (with_reducible repeat (first|apply Kd.R_alloc|apply Kd.R_drewN|apply Kd.R_drew));exact HO_7.out) hb);have n2_:=Aside0.mk (Kd.R_below (by (with_reducible repeat (first|apply Kd.R_alloc|apply Kd.R_drewN|apply Kd.R_drew));exact HO_24.out) hb);have n3_:=Aside0.mk (below_step (by repeat (first|(with_reducible first|exact HB.out|apply below_alloc|apply pw_below_drewN|apply below_drew1)|exact HB.out)) hb);clear HO_6;clear HO_7;clear HO_24;clear HB;have HO_6:=n0_;have HO_7:=n1_;have HO_24:=n2_;have HB:=n3_;clear n0_ n1_ n2_ n3_;(try clear hb);(try clear hb2);(try clear hk);(try clear hi)))
      go_ret
      exact ⟨by first|rfl|(simp [errW_none,errW_some] <;> rfl)|(simp only [← hji5];first|rfl|(simp [errW_none,errW_some] <;> rfl))|(simp [*,errW_none,errW_some] <;> rfl),by repeat (first|(with_reducible first|exact HB.out|apply below_alloc|apply pw_below_drewN|apply below_drew1)|exact HB.out)⟩
  ·rw [if_neg c7] at H
   exact absurd H (by simp)
 ·rw [if_neg c6] at H
  exact absurd H (by simp)
end Go.Proofs.YtjaflmhdclmolaaDoor.F
end
section
namespace Go.Proofs.YtjaflmhdclmolaaDoor.F
open Go.RowKit Go.Proofs.YtjaflmhdclmolaaDoorW.PrintWords Go.Proofs.YtjaflmhdclmolaaDoorW.PrintLast Go.Proofs.YtjaflmhdclmolaaDoorW.PrintMore
attribute [local go_sem] max2_int min2_int max_two min_two max_three min_three max_four min_four   
set_option linter.unusedVariables false
set_option linter.unusedSimpArgs false
mutual
def insolvencyref1_plus.l0:Nat→List Int→List Int→List Int→Int→Int→Option (List Int)
 | 0,_,_,_,_,_=>none
 | k+1,x0,x1,x5,x6,x7=>if x7<(x0.length:Int) then (insolvencyref1_plus.j1 k x0 x1 x5 x6 x7 true) else (if x7<(x1.length:Int) then (insolvencyref1_plus.j1 k x0 x1 x5 x6 x7 true) else (insolvencyref1_plus.j1 k x0 x1 x5 x6 x7 (decide (x6>0))))
def insolvencyref1_plus.j1:Nat→List Int→List Int→List Int→Int→Int→Bool→Option (List Int)
 | 0,_,_,_,_,_,_=>none
 | k+1,x0,x1,x5,x6,x7,x21=>if x21=true then (if x7<(x0.length:Int) then (if 0≤x7 then (if x7<(x1.length:Int) then (if x5.length<35184372088832 then (insolvencyref1_plus.l0 k x0 x1 (x5 ++ [(IntKind.u64.wrap ((IntKind.u64.wrap (x6+(IntKind.u64.wrap (rd x0 x7))))+(IntKind.u64.wrap (rd x1 x7))))%4294967296]) ((IntKind.u64.wrap ((IntKind.u64.wrap (x6+(IntKind.u64.wrap (rd x0 x7))))+(IntKind.u64.wrap (rd x1 x7))))/4294967296) (wrap64 (x7+1))) else (none)) else (if x5.length<35184372088832 then (insolvencyref1_plus.l0 k x0 x1 (x5 ++ [(IntKind.u64.wrap (x6+(IntKind.u64.wrap (rd x0 x7))))%4294967296]) ((IntKind.u64.wrap (x6+(IntKind.u64.wrap (rd x0 x7))))/4294967296) (wrap64 (x7+1))) else (none))) else (none)) else (if x7<(x1.length:Int) then (if 0≤x7 then (if x5.length<35184372088832 then (insolvencyref1_plus.l0 k x0 x1 (x5 ++ [(IntKind.u64.wrap (x6+(IntKind.u64.wrap (rd x1 x7))))%4294967296]) ((IntKind.u64.wrap (x6+(IntKind.u64.wrap (rd x1 x7))))/4294967296) (wrap64 (x7+1))) else (none)) else (none)) else (if x5.length<35184372088832 then (insolvencyref1_plus.l0 k x0 x1 (x5 ++ [(x6)%4294967296]) (x6/4294967296) (wrap64 (x7+1))) else (none)))) else (some x5)
end
def insolvencyref1_plus.f (k:Nat) (l0:List Int) (l1:List Int):Option (List Int):=insolvencyref1_plus.l0 k l0 l1 ([]:List Int) 0 0
theorem insolvencyref1_plus.mono_l:∀ k,(∀ y0 y1 y2 y3 y4,LeO (insolvencyref1_plus.l0 k y0 y1 y2 y3 y4) (insolvencyref1_plus.l0 (k+1) y0 y1 y2 y3 y4))∧(∀ y0 y1 y2 y3 y4 y5,LeO (insolvencyref1_plus.j1 k y0 y1 y2 y3 y4 y5) (insolvencyref1_plus.j1 (k+1) y0 y1 y2 y3 y4 y5))
 | 0=>⟨fun _ _ _ _ _ r h=>by simp [insolvencyref1_plus.l0] at h,fun _ _ _ _ _ _ r h=>by simp [insolvencyref1_plus.j1] at h⟩
 | k+1=>by
  obtain ⟨ih0,ih1⟩:=insolvencyref1_plus.mono_l k
  refine ⟨?_,?_⟩
  ·intro y0 y1 y2 y3 y4
   unfold insolvencyref1_plus.l0
   repeat' first
   | (with_reducible exact ih0 _ _ _ _ _)
   | (with_reducible exact ih1 _ _ _ _ _ _)
   | (with_reducible exact LeO.refl _)
   | (with_reducible exact LeO.none _)
   | (with_reducible refine LeO.ite ?_ ?_)
   | (with_reducible refine LeO.bind ?_ (fun _=>?_))
   | exact ih0 _ _ _ _ _
   | exact ih1 _ _ _ _ _ _
   | exact LeO.none _
   | refine LeO.ite ?_ ?_
   | refine LeO.bind ?_ (fun _=>?_)
  ·intro y0 y1 y2 y3 y4 y5
   unfold insolvencyref1_plus.j1
   repeat' first
   | (with_reducible exact ih0 _ _ _ _ _)
   | (with_reducible exact ih1 _ _ _ _ _ _)
   | (with_reducible exact LeO.refl _)
   | (with_reducible exact LeO.none _)
   | (with_reducible refine LeO.ite ?_ ?_)
   | (with_reducible refine LeO.bind ?_ (fun _=>?_))
   | exact ih0 _ _ _ _ _
   | exact ih1 _ _ _ _ _ _
   | exact LeO.none _
   | refine LeO.ite ?_ ?_
   | refine LeO.bind ?_ (fun _=>?_)
theorem insolvencyref1_plus.mono:∀ a0 a1 k,LeO (insolvencyref1_plus.f k a0 a1) (insolvencyref1_plus.f (k+1) a0 a1):=by
 intro a0 a1 k
 obtain ⟨ih0,ih1⟩:=insolvencyref1_plus.mono_l k
 unfold insolvencyref1_plus.f
 repeat' first
  | (with_reducible exact ih0 _ _ _ _ _)
  | (with_reducible exact ih1 _ _ _ _ _ _)
  | (with_reducible exact LeO.refl _)
  | (with_reducible exact LeO.none _)
  | (with_reducible refine LeO.ite ?_ ?_)
  | (with_reducible refine LeO.bind ?_ (fun _=>?_))
  | exact ih0 _ _ _ _ _
  | exact ih1 _ _ _ _ _ _
  | exact LeO.none _
  | refine LeO.ite ?_ ?_
  | refine LeO.bind ?_ (fun _=>?_)
set_option maxHeartbeats 8000000 in
set_option maxRecDepth 100000 in
theorem insolvencyref1_plus.calls (k:Nat) (A0:Option Addr) (c0:Nat) (l0:List Int) (A1:Option Addr) (c1:Nat) (l1:List Int) (r:List Int) (w:World) (hr0:Kd.C (Kd.int .u32) w A0 l0.length l0) (hc0:l0.length≤c0) (hr1:Kd.C (Kd.int .u32) w A1 l1.length l1) (hc1:l1.length≤c1) (h:insolvencyref1_plus.f k l0 l1=some r) :
 Calls Tryd.prog 65 #[.slice A0 l0.length c0,.slice A1 l1.length c1] w fun e w'=>∃ v0_:Value,e = .returned (v0_)∧Kd.R (Kd.int .u32) 60 w' w.heap.size (fun _=>True) v0_ r∧Below w.heap.size w w':=by
 have HR0:=Aside0.mk hr0
 have HC0:=Aside0.mk hc0
 clear hr0 hc0
 have HR1:=Aside0.mk hr1
 have HC1:=Aside0.mk hc1
 clear hr1 hc1
 have HB:=Aside0.mk (Below.refl w.heap.size w)
 have H:(insolvencyref1_plus.l0 k l0 l1 ([]:List Int) 0 0)=some r:=h
 clear h
 have H':=Aside0.mk H
 clear H
 go_enter Tryd.func65,Tryd.ntmps65
 go_wp2
 go_loopg [5,6,7] k (fun kq v5 v6 v7 w'=>∃ (x5_1:List Int) (x6_1:Int) (x7_1:Int),v6 = .int .u64 x6_1∧v7 = .int .i64 x7_1∧Aside0 (insolvencyref1_plus.l0 kq l0 l1 x5_1 x6_1 x7_1=some r)∧Aside0 (kq≤k)∧Aside0 (Kd.R (Kd.int .u32) 60 w' w.heap.size (fun _=>True) v5 x5_1)∧Aside0 (Below w.heap.size w w'))
 case atStart=>exact ⟨(([]:List Int)),(0),(0),(by first|rfl|(simp;done)|(simp [*];done)),(by first|rfl|(simp;done)|(simp [*];done)),H',⟨Nat.le_refl _⟩,⟨by first|exact Kd.R_nil _ _ _ _ _|exact Kd.N_nil _ _ _ _ _|exact Kd.V_nil _ _ _ _ _|exact Kd.Q_nil _ _ _ _ _|exact Kd.S_nil _ _ _ _ _⟩,⟨by repeat (first|(with_reducible first|exact HB.out|apply below_alloc|apply pw_below_drewN|apply below_drew1)|exact HB.out)⟩⟩
 case round=>
  clear H'
  try clear c1
  try clear p2
  obtain ⟨x5_1,x6_1,x7_1,rfl,rfl,HA,HK1,HO_5,HB⟩:=hrel
  cases gk with
  | zero=>exact absurd HA.out (by simp [insolvencyref1_plus.l0])
  | succ k1=>
   have H:=HA.out
   clear HA
   simp only [insolvencyref1_plus.l0] at H
   have HC3:=Aside0.mk H
   clear H
   go_upto_region 4 with (fail)
   go_cut [21] (fun v21 wc=>∃ (kq:Nat) (x21_2:Bool),v21 = .bool x21_2∧Aside0 (insolvencyref1_plus.j1 kq l0 l1 x5_1 x6_1 x7_1 x21_2=some r)∧Aside0 (kq≤k1)∧Aside0 (Kd.R (Kd.int .u32) 60 wc w.heap.size (fun _=>True) u5 x5_1)∧Aside0 (Below w.heap.size w wc))
   case first=>
    have H:=HC3.out
    clear HC3
    by_cases c4:x7_1<(l0.length:Int)
    ·rw [if_pos c4] at H
     have c4b0:decide (x7_1<(l0.length:Int))=true:=decide_eq_true c4
     clear c4
     (first|rw [c4b0]|(simp only [i64_w,i32_w];rw [c4b0])|skip)
     have H':=Aside0.mk H
     clear H
     go_wp2
     go_meet
     case rel=>exact ⟨_,(true),(by first|rfl|(simp;done)|(simp [*];done)),H',⟨by have:=HK1.out;first|omega|exact Nat.le_refl _⟩,⟨by (with_reducible repeat (first|apply Kd.R_alloc|apply Kd.R_drewN|apply Kd.R_drew));exact HO_5.out⟩,⟨by repeat (first|(with_reducible first|exact HB.out|apply below_alloc|apply pw_below_drewN|apply below_drew1)|exact HB.out)⟩⟩
    ·rw [if_neg c4] at H
     have c4b0:decide (x7_1<(l0.length:Int))=false:=decide_eq_false c4
     clear c4
     (first|rw [c4b0]|(simp only [i64_w,i32_w];rw [c4b0])|skip)
     by_cases c5:x7_1<(l1.length:Int)
     ·rw [if_pos c5] at H
      have c5b0:decide (x7_1<(l1.length:Int))=true:=decide_eq_true c5
      clear c5
      have H':=Aside0.mk H
      clear H
      go_wp2
      go_meet
      case rel=>exact ⟨_,(true),(by first|rfl|(simp;done)|(simp [*];done)),H',⟨by have:=HK1.out;first|omega|exact Nat.le_refl _⟩,⟨by (with_reducible repeat (first|apply Kd.R_alloc|apply Kd.R_drewN|apply Kd.R_drew));exact HO_5.out⟩,⟨by repeat (first|(with_reducible first|exact HB.out|apply below_alloc|apply pw_below_drewN|apply below_drew1)|exact HB.out)⟩⟩
     ·rw [if_neg c5] at H
      have c5b0:decide (x7_1<(l1.length:Int))=false:=decide_eq_false c5
      clear c5
      have H':=Aside0.mk H
      clear H
      go_wp2
      go_meet
      case rel=>exact ⟨_,(decide (x6_1>0)),(by first|rfl|(simp;done)|(simp [*];done)),H',⟨by have:=HK1.out;first|omega|exact Nat.le_refl _⟩,⟨by (with_reducible repeat (first|apply Kd.R_alloc|apply Kd.R_drewN|apply Kd.R_drew));exact HO_5.out⟩,⟨by repeat (first|(with_reducible first|exact HB.out|apply below_alloc|apply pw_below_drewN|apply below_drew1)|exact HB.out)⟩⟩
   case rest=>
    clear HC3
    try clear c1
    try clear p2
    try clear c4
    try clear c4b0
    try clear c5
    try clear c5b0
    try clear p2
    obtain ⟨kq,x21_2,rfl,HA,HJ2,HO_5,HB⟩:=hcut
    cases kq with
    | zero=>exact absurd HA.out (by simp [insolvencyref1_plus.j1])
    | succ kj2=>
     have H:=HA.out
     clear HA
     simp only [insolvencyref1_plus.j1] at H
     by_cases c6:x21_2=true
     ·subst c6
      have H1:(if x7_1<(l0.length:Int) then (if 0≤x7_1 then (if x7_1<(l1.length:Int) then (if x5_1.length<35184372088832 then (insolvencyref1_plus.l0 kj2 l0 l1 (x5_1 ++ [(IntKind.u64.wrap ((IntKind.u64.wrap (x6_1+(IntKind.u64.wrap (rd l0 x7_1))))+(IntKind.u64.wrap (rd l1 x7_1))))%4294967296]) ((IntKind.u64.wrap ((IntKind.u64.wrap (x6_1+(IntKind.u64.wrap (rd l0 x7_1))))+(IntKind.u64.wrap (rd l1 x7_1))))/4294967296) (wrap64 (x7_1+1))) else (none)) else (if x5_1.length<35184372088832 then (insolvencyref1_plus.l0 kj2 l0 l1 (x5_1 ++ [(IntKind.u64.wrap (x6_1+(IntKind.u64.wrap (rd l0 x7_1))))%4294967296]) ((IntKind.u64.wrap (x6_1+(IntKind.u64.wrap (rd l0 x7_1))))/4294967296) (wrap64 (x7_1+1))) else (none))) else (none)) else (if x7_1<(l1.length:Int) then (if 0≤x7_1 then (if x5_1.length<35184372088832 then (insolvencyref1_plus.l0 kj2 l0 l1 (x5_1 ++ [(IntKind.u64.wrap (x6_1+(IntKind.u64.wrap (rd l1 x7_1))))%4294967296]) ((IntKind.u64.wrap (x6_1+(IntKind.u64.wrap (rd l1 x7_1))))/4294967296) (wrap64 (x7_1+1))) else (none)) else (none)) else (if x5_1.length<35184372088832 then (insolvencyref1_plus.l0 kj2 l0 l1 (x5_1 ++ [(x6_1)%4294967296]) (x6_1/4294967296) (wrap64 (x7_1+1))) else (none))))=some r:=by rw [if_pos rfl] at H;exact H
      clear H
      have H:=H1
      clear H1
      by_cases c7:x7_1<(l0.length:Int)
      ·rw [if_pos c7] at H
       have c7b0:decide (x7_1<(l0.length:Int))=true:=decide_eq_true c7
       clear c7
       by_cases c8:0≤x7_1
       ·rw [if_pos c8] at H
        have c8b0:decide (0≤x7_1)=true:=decide_eq_true c8
        clear c8
        by_cases c9:x7_1<(l1.length:Int)
        ·rw [if_pos c9] at H
         have c9b0:decide (x7_1<(l1.length:Int))=true:=decide_eq_true c9
         clear c9
         by_cases c10:x5_1.length<35184372088832
         ·rw [if_pos c10] at H
          have LMc10:=Aside0.mk c10
          clear c10
          obtain ⟨y679,hy679⟩:∃ y_:List Int,y_=(x5_1 ++ [(IntKind.u64.wrap ((IntKind.u64.wrap (x6_1+(IntKind.u64.wrap (rd l0 x7_1))))+(IntKind.u64.wrap (rd l1 x7_1))))%4294967296]):=⟨_,rfl⟩
          replace H:(insolvencyref1_plus.l0 kj2 l0 l1 y679 ((IntKind.u64.wrap ((IntKind.u64.wrap (x6_1+(IntKind.u64.wrap (rd l0 x7_1))))+(IntKind.u64.wrap (rd l1 x7_1))))/4294967296) (wrap64 (x7_1+1)))=some r:=by first|(rw [hy679];with_reducible exact H)|(have H2_:=(Option.bind_some _ _).symm.trans H;rw [hy679];with_reducible exact H2_)|(have H2_:=(Option.bind_some _ _).symm.trans H;with_reducible exact H2_)|with_reducible exact H|(rw [hy679];exact H)|exact H
          have Ny679:=Aside0.mk hy679
          clear hy679
          have H':=Aside0.mk H
          clear H
          have p677:0≤(x7_1:Int):=of_decide_eq_true (by first|(with_reducible assumption)|assumption)
          have q677:x7_1<(l0.length:Int):=of_decide_eq_true (by first|(with_reducible assumption)|assumption)
          obtain ⟨ad677,e677,hx677_0⟩:=Kd.at_int HR0.out x7_1 p677 q677
          cases e677
          replace hx677_0:=(HB.out.cell (World.block_lt_of_cell? w _ hx677_0)).trans hx677_0
          replace p677:=eq_true p677
          replace q677:=eq_true q677
          have p678:0≤(x7_1:Int):=of_decide_eq_true (by first|(with_reducible assumption)|assumption)
          have q678:x7_1<(l1.length:Int):=of_decide_eq_true (by first|(with_reducible assumption)|assumption)
          obtain ⟨ad678,e678,hx678_0⟩:=Kd.at_int HR1.out x7_1 p678 q678
          cases e678
          replace hx678_0:=(HB.out.cell (World.block_lt_of_cell? w _ hx678_0)).trans hx678_0
          replace p678:=eq_true p678
          replace q678:=eq_true q678
          go_wp2_with (first|((with_reducible refine gate_builtin (b:=.append) (xs:=#[.tmp 46,.tmp 49]) rfl ?_);(try (refine gate_guard (by rfl) ?_;dsimp only));at_builtin;refine Kd.R_append (Kd.int .u32) (w0:=w) w.heap.size rfl (.tmp 46) (.tmp 49) 49 60 (.int .u32 0) 4 rfl Tryd.underlying49 info60 rfl (by decide) (by omega) u5 x5_1 ((IntKind.u64.wrap ((IntKind.u64.wrap (x6_1+(IntKind.u64.wrap (rd l0 x7_1))))+(IntKind.u64.wrap (rd l1 x7_1))))%4294967296) [.int .u32 ((IntKind.u64.wrap ((IntKind.u64.wrap (x6_1+(IntKind.u64.wrap (rd l0 x7_1))))+(IntKind.u64.wrap (rd l1 x7_1))))%4294967296)] (fun _=>True) (fun _=>False) rfl rfl ?aP (fun _ hk=>hk.elim) ?aF ?aO ?aB ?aS ?aL ?_;(case aP=>exact rfl);(case aB=>exact (by repeat (first|(with_reducible first|exact HB.out|apply below_alloc|apply pw_below_drewN|apply below_drew1)|exact HB.out)));(case aF=>exact (fun _ _=>trivial));(case aO=>exact (by (with_reducible repeat (first|apply Kd.R_alloc|apply Kd.R_drewN|apply Kd.R_drew));exact HO_5.out));(case aS=>exact (below_size (by repeat (first|(with_reducible first|exact HB.out|apply below_alloc|apply pw_below_drewN|apply below_drew1)|exact HB.out))));(case aL=>have:=LMc10.out;omega);intro v680 w11 ho hb hg hat;rw [← Ny679.out] at ho;have n0_:=Aside0.mk (hb);have n1_:=Aside0.mk (ho);clear HB;clear HO_5;have HB:=n0_;have HO681:=n1_;clear n0_ n1_;clear ho hb hg hat))
          go_roundg kj2
          case measure=>have:=HK1.out;have:=HJ2.out;omega
          case rel=>exact ⟨(y679),((IntKind.u64.wrap ((IntKind.u64.wrap (x6_1+(IntKind.u64.wrap (rd l0 x7_1))))+(IntKind.u64.wrap (rd l1 x7_1))))/4294967296),(wrap64 (x7_1+1)),(by first|rfl|(simp;done)|(simp [*];done)),(by first|rfl|(simp;done)|(simp [*];done)),H',⟨by have:=HK1.out;have:=HJ2.out;omega⟩,⟨by (with_reducible repeat (first|apply Kd.R_alloc|apply Kd.R_drewN|apply Kd.R_drew));exact HO681.out⟩,⟨by repeat (first|(with_reducible first|exact HB.out|apply below_alloc|apply pw_below_drewN|apply below_drew1)|exact HB.out)⟩⟩
         ·rw [if_neg c10] at H
          exact absurd H (by simp)
        ·rw [if_neg c9] at H
         have c9b0:decide (x7_1<(l1.length:Int))=false:=decide_eq_false c9
         clear c9
         by_cases c12:x5_1.length<35184372088832
         ·rw [if_pos c12] at H
          have LMc12:=Aside0.mk c12
          clear c12
          obtain ⟨y682,hy682⟩:∃ y_:List Int,y_=(x5_1 ++ [(IntKind.u64.wrap (x6_1+(IntKind.u64.wrap (rd l0 x7_1))))%4294967296]):=⟨_,rfl⟩
          replace H:(insolvencyref1_plus.l0 kj2 l0 l1 y682 ((IntKind.u64.wrap (x6_1+(IntKind.u64.wrap (rd l0 x7_1))))/4294967296) (wrap64 (x7_1+1)))=some r:=by first|(rw [hy682];with_reducible exact H)|(have H2_:=(Option.bind_some _ _).symm.trans H;rw [hy682];with_reducible exact H2_)|(have H2_:=(Option.bind_some _ _).symm.trans H;with_reducible exact H2_)|with_reducible exact H|(rw [hy682];exact H)|exact H
          have Ny682:=Aside0.mk hy682
          clear hy682
          have H':=Aside0.mk H
          clear H
          have p677:0≤(x7_1:Int):=of_decide_eq_true (by first|(with_reducible assumption)|assumption)
          have q677:x7_1<(l0.length:Int):=of_decide_eq_true (by first|(with_reducible assumption)|assumption)
          obtain ⟨ad677,e677,hx677_0⟩:=Kd.at_int HR0.out x7_1 p677 q677
          cases e677
          replace hx677_0:=(HB.out.cell (World.block_lt_of_cell? w _ hx677_0)).trans hx677_0
          replace p677:=eq_true p677
          replace q677:=eq_true q677
          go_wp2_with (first|((with_reducible refine gate_builtin (b:=.append) (xs:=#[.tmp 46,.tmp 49]) rfl ?_);(try (refine gate_guard (by rfl) ?_;dsimp only));at_builtin;refine Kd.R_append (Kd.int .u32) (w0:=w) w.heap.size rfl (.tmp 46) (.tmp 49) 49 60 (.int .u32 0) 4 rfl Tryd.underlying49 info60 rfl (by decide) (by omega) u5 x5_1 ((IntKind.u64.wrap (x6_1+(IntKind.u64.wrap (rd l0 x7_1))))%4294967296) [.int .u32 ((IntKind.u64.wrap (x6_1+(IntKind.u64.wrap (rd l0 x7_1))))%4294967296)] (fun _=>True) (fun _=>False) rfl rfl ?aP (fun _ hk=>hk.elim) ?aF ?aO ?aB ?aS ?aL ?_;(case aP=>exact rfl);(case aB=>exact (by repeat (first|(with_reducible first|exact HB.out|apply below_alloc|apply pw_below_drewN|apply below_drew1)|exact HB.out)));(case aF=>exact (fun _ _=>trivial));(case aO=>exact (by (with_reducible repeat (first|apply Kd.R_alloc|apply Kd.R_drewN|apply Kd.R_drew));exact HO_5.out));(case aS=>exact (below_size (by repeat (first|(with_reducible first|exact HB.out|apply below_alloc|apply pw_below_drewN|apply below_drew1)|exact HB.out))));(case aL=>have:=LMc12.out;omega);intro v683 w13 ho hb hg hat;rw [← Ny682.out] at ho;have n0_:=Aside0.mk (hb);have n1_:=Aside0.mk (ho);clear HB;clear HO_5;have HB:=n0_;have HO684:=n1_;clear n0_ n1_;clear ho hb hg hat))
          go_roundg kj2
          case measure=>have:=HK1.out;have:=HJ2.out;omega
          case rel=>exact ⟨(y682),((IntKind.u64.wrap (x6_1+(IntKind.u64.wrap (rd l0 x7_1))))/4294967296),(wrap64 (x7_1+1)),(by first|rfl|(simp;done)|(simp [*];done)),(by first|rfl|(simp;done)|(simp [*];done)),H',⟨by have:=HK1.out;have:=HJ2.out;omega⟩,⟨by (with_reducible repeat (first|apply Kd.R_alloc|apply Kd.R_drewN|apply Kd.R_drew));exact HO684.out⟩,⟨by repeat (first|(with_reducible first|exact HB.out|apply below_alloc|apply pw_below_drewN|apply below_drew1)|exact HB.out)⟩⟩
         ·rw [if_neg c12] at H
          exact absurd H (by simp)
       ·rw [if_neg c8] at H
        exact absurd H (by simp)
      ·rw [if_neg c7] at H
       have c7b0:decide (x7_1<(l0.length:Int))=false:=decide_eq_false c7
       clear c7
       by_cases c14:x7_1<(l1.length:Int)
       ·rw [if_pos c14] at H
        have c14b0:decide (x7_1<(l1.length:Int))=true:=decide_eq_true c14
        clear c14
        by_cases c15:0≤x7_1
        ·rw [if_pos c15] at H
         have c15b0:decide (0≤x7_1)=true:=decide_eq_true c15
         clear c15
         by_cases c16:x5_1.length<35184372088832
         ·rw [if_pos c16] at H
          have LMc16:=Aside0.mk c16
          clear c16
          obtain ⟨y686,hy686⟩:∃ y_:List Int,y_=(x5_1 ++ [(IntKind.u64.wrap (x6_1+(IntKind.u64.wrap (rd l1 x7_1))))%4294967296]):=⟨_,rfl⟩
          replace H:(insolvencyref1_plus.l0 kj2 l0 l1 y686 ((IntKind.u64.wrap (x6_1+(IntKind.u64.wrap (rd l1 x7_1))))/4294967296) (wrap64 (x7_1+1)))=some r:=by first|(rw [hy686];with_reducible exact H)|(have H2_:=(Option.bind_some _ _).symm.trans H;rw [hy686];with_reducible exact H2_)|(have H2_:=(Option.bind_some _ _).symm.trans H;with_reducible exact H2_)|with_reducible exact H|(rw [hy686];exact H)|exact H
          have Ny686:=Aside0.mk hy686
          clear hy686
          have H':=Aside0.mk H
          clear H
          have p685:0≤(x7_1:Int):=of_decide_eq_true (by first|(with_reducible assumption)|assumption)
          have q685:x7_1<(l1.length:Int):=of_decide_eq_true (by first|(with_reducible assumption)|assumption)
          obtain ⟨ad685,e685,hx685_0⟩:=Kd.at_int HR1.out x7_1 p685 q685
          cases e685
          replace hx685_0:=(HB.out.cell (World.block_lt_of_cell? w _ hx685_0)).trans hx685_0
          replace p685:=eq_true p685
          replace q685:=eq_true q685
          go_wp2_with (first|((with_reducible refine gate_builtin (b:=.append) (xs:=#[.tmp 46,.tmp 49]) rfl ?_);(try (refine gate_guard (by rfl) ?_;dsimp only));at_builtin;refine Kd.R_append (Kd.int .u32) (w0:=w) w.heap.size rfl (.tmp 46) (.tmp 49) 49 60 (.int .u32 0) 4 rfl Tryd.underlying49 info60 rfl (by decide) (by omega) u5 x5_1 ((IntKind.u64.wrap (x6_1+(IntKind.u64.wrap (rd l1 x7_1))))%4294967296) [.int .u32 ((IntKind.u64.wrap (x6_1+(IntKind.u64.wrap (rd l1 x7_1))))%4294967296)] (fun _=>True) (fun _=>False) rfl rfl ?aP (fun _ hk=>hk.elim) ?aF ?aO ?aB ?aS ?aL ?_;(case aP=>exact rfl);(case aB=>exact (by repeat (first|(with_reducible first|exact HB.out|apply below_alloc|apply pw_below_drewN|apply below_drew1)|exact HB.out)));(case aF=>exact (fun _ _=>trivial));(case aO=>exact (by (with_reducible repeat (first|apply Kd.R_alloc|apply Kd.R_drewN|apply Kd.R_drew));exact HO_5.out));(case aS=>exact (below_size (by repeat (first|(with_reducible first|exact HB.out|apply below_alloc|apply pw_below_drewN|apply below_drew1)|exact HB.out))));(case aL=>have:=LMc16.out;omega);intro v687 w17 ho hb hg hat;rw [← Ny686.out] at ho;have n0_:=Aside0.mk (hb);have n1_:=Aside0.mk (ho);clear HB;clear HO_5;have HB:=n0_;have HO688:=n1_;clear n0_ n1_;clear ho hb hg hat))
          go_roundg kj2
          case measure=>have:=HK1.out;have:=HJ2.out;omega
          case rel=>exact ⟨(y686),((IntKind.u64.wrap (x6_1+(IntKind.u64.wrap (rd l1 x7_1))))/4294967296),(wrap64 (x7_1+1)),(by first|rfl|(simp;done)|(simp [*];done)),(by first|rfl|(simp;done)|(simp [*];done)),H',⟨by have:=HK1.out;have:=HJ2.out;omega⟩,⟨by (with_reducible repeat (first|apply Kd.R_alloc|apply Kd.R_drewN|apply Kd.R_drew));exact HO688.out⟩,⟨by repeat (first|(with_reducible first|exact HB.out|apply below_alloc|apply pw_below_drewN|apply below_drew1)|exact HB.out)⟩⟩
         ·rw [if_neg c16] at H
          exact absurd H (by simp)
        ·rw [if_neg c15] at H
         exact absurd H (by simp)
       ·rw [if_neg c14] at H
        have c14b0:decide (x7_1<(l1.length:Int))=false:=decide_eq_false c14
        clear c14
        by_cases c18:x5_1.length<35184372088832
        ·rw [if_pos c18] at H
         have LMc18:=Aside0.mk c18
         clear c18
         obtain ⟨y689,hy689⟩:∃ y_:List Int,y_=(x5_1 ++ [(x6_1)%4294967296]):=⟨_,rfl⟩
         replace H:(insolvencyref1_plus.l0 kj2 l0 l1 y689 (x6_1/4294967296) (wrap64 (x7_1+1)))=some r:=by first|(rw [hy689];with_reducible exact H)|(have H2_:=(Option.bind_some _ _).symm.trans H;rw [hy689];with_reducible exact H2_)|(have H2_:=(Option.bind_some _ _).symm.trans H;with_reducible exact H2_)|with_reducible exact H|(rw [hy689];exact H)|exact H
         have Ny689:=Aside0.mk hy689
         clear hy689
         have H':=Aside0.mk H
         clear H
         go_wp2_with (first|((with_reducible refine gate_builtin (b:=.append) (xs:=#[.tmp 46,.tmp 49]) rfl ?_);(try (refine gate_guard (by rfl) ?_;dsimp only));at_builtin;refine Kd.R_append (Kd.int .u32) (w0:=w) w.heap.size rfl (.tmp 46) (.tmp 49) 49 60 (.int .u32 0) 4 rfl Tryd.underlying49 info60 rfl (by decide) (by omega) u5 x5_1 ((x6_1)%4294967296) [.int .u32 ((x6_1)%4294967296)] (fun _=>True) (fun _=>False) rfl rfl ?aP (fun _ hk=>hk.elim) ?aF ?aO ?aB ?aS ?aL ?_;(case aP=>exact rfl);(case aB=>exact (by repeat (first|(with_reducible first|exact HB.out|apply below_alloc|apply pw_below_drewN|apply below_drew1)|exact HB.out)));(case aF=>exact (fun _ _=>trivial));(case aO=>exact (by (with_reducible repeat (first|apply Kd.R_alloc|apply Kd.R_drewN|apply Kd.R_drew));exact HO_5.out));(case aS=>exact (below_size (by repeat (first|(with_reducible first|exact HB.out|apply below_alloc|apply pw_below_drewN|apply below_drew1)|exact HB.out))));(case aL=>have:=LMc18.out;omega);intro v690 w19 ho hb hg hat;rw [← Ny689.out] at ho;have n0_:=Aside0.mk (hb);have n1_:=Aside0.mk (ho);clear HB;clear HO_5;have HB:=n0_;have HO691:=n1_;clear n0_ n1_;clear ho hb hg hat))
         go_roundg kj2
         case measure=>have:=HK1.out;have:=HJ2.out;omega
         case rel=>exact ⟨(y689),(x6_1/4294967296),(wrap64 (x7_1+1)),(by first|rfl|(simp;done)|(simp [*];done)),(by first|rfl|(simp;done)|(simp [*];done)),H',⟨by have:=HK1.out;have:=HJ2.out;omega⟩,⟨by (with_reducible repeat (first|apply Kd.R_alloc|apply Kd.R_drewN|apply Kd.R_drew));exact HO691.out⟩,⟨by repeat (first|(with_reducible first|exact HB.out|apply below_alloc|apply pw_below_drewN|apply below_drew1)|exact HB.out)⟩⟩
        ·rw [if_neg c18] at H
         exact absurd H (by simp)
     ·replace c6:=Bool.eq_false_iff.mpr c6
      subst c6
      have H1:(some x5_1)=some r:=by rw [if_neg (show ¬ (false=true) by decide)] at H;exact H
      clear H
      have H:=H1
      clear H1
      obtain rfl:=Option.some.inj H
      go_wp2
      go_ret
      exact ⟨_,by first|rfl|(simp [errW_none,errW_some] <;> rfl)|(simp [*,errW_none,errW_some] <;> rfl),by (with_reducible repeat (first|apply Kd.R_alloc|apply Kd.R_drewN|apply Kd.R_drew));exact HO_5.out,by repeat (first|(with_reducible first|exact HB.out|apply below_alloc|apply pw_below_drewN|apply below_drew1)|exact HB.out)⟩
end Go.Proofs.YtjaflmhdclmolaaDoor.F
end
section
namespace Go.Proofs.YtjaflmhdclmolaaDoor.F
open Go.RowKit Go.Proofs.YtjaflmhdclmolaaDoorW.PrintWords Go.Proofs.YtjaflmhdclmolaaDoorW.PrintLast Go.Proofs.YtjaflmhdclmolaaDoorW.PrintMore
attribute [local go_sem] max2_int min2_int max_two min_two max_three min_three max_four min_four   
set_option linter.unusedVariables false
set_option linter.unusedSimpArgs false
def insolvencyref1_NatAdd.f (k:Nat) (a0:ByteArray) (a1:ByteArray):Option (ByteArray):=(insolvencyref1_limbs.f k a0).bind fun t692=>((insolvencyref1_limbs.f k a1).bind fun t695=>((insolvencyref1_plus.f k t692 t695).bind fun t698=>((insolvencyref1_text.f k t698).bind fun t701=>(some t701))))
theorem insolvencyref1_NatAdd.mono:∀ a0 a1 k,LeO (insolvencyref1_NatAdd.f k a0 a1) (insolvencyref1_NatAdd.f (k+1) a0 a1):=by
 intro a0 a1 k
 unfold insolvencyref1_NatAdd.f
 repeat' first
  | (with_reducible exact insolvencyref1_limbs.mono _ _)
  | (with_reducible exact insolvencyref1_plus.mono _ _ _)
  | (with_reducible exact insolvencyref1_text.mono _ _)
  | (with_reducible exact LeO.refl _)
  | (with_reducible exact LeO.none _)
  | (with_reducible refine LeO.ite ?_ ?_)
  | (with_reducible refine LeO.bind ?_ (fun _=>?_))
  | exact insolvencyref1_limbs.mono _ _
  | exact insolvencyref1_plus.mono _ _ _
  | exact insolvencyref1_text.mono _ _
  | exact LeO.none _
  | refine LeO.ite ?_ ?_
  | refine LeO.bind ?_ (fun _=>?_)
set_option maxHeartbeats 8000000 in
set_option maxRecDepth 100000 in
theorem insolvencyref1_NatAdd.calls (k:Nat) (a0:ByteArray) (a1:ByteArray) (r:ByteArray) (w:World) (h:insolvencyref1_NatAdd.f k a0 a1=some r) :
 Calls Tryd.prog 40 #[.string a0,.string a1] w fun e w'=>e = .returned (.string r)∧Below w.heap.size w w':=by
 have HB:=Aside0.mk (Below.refl w.heap.size w)
 have H:((insolvencyref1_limbs.f k a0).bind fun t692=>((insolvencyref1_limbs.f k a1).bind fun t695=>((insolvencyref1_plus.f k t692 t695).bind fun t698=>((insolvencyref1_text.f k t698).bind fun t701=>(some t701)))))=some r:=h
 clear h
 replace H:=Option.bind_eq_some_iff.mp H
 obtain ⟨t692,A30,H⟩:=H
 replace H:((insolvencyref1_limbs.f k a1).bind fun t695=>((insolvencyref1_plus.f k t692 t695).bind fun t698=>((insolvencyref1_text.f k t698).bind fun t701=>(some t701))))=some r:=H
 have A3:=Aside0.mk A30
 clear A30
 replace H:=Option.bind_eq_some_iff.mp H
 obtain ⟨t695,A40,H⟩:=H
 replace H:((insolvencyref1_plus.f k t692 t695).bind fun t698=>((insolvencyref1_text.f k t698).bind fun t701=>(some t701)))=some r:=H
 have A4:=Aside0.mk A40
 clear A40
 replace H:=Option.bind_eq_some_iff.mp H
 obtain ⟨t698,A50,H⟩:=H
 replace H:((insolvencyref1_text.f k t698).bind fun t701=>(some t701))=some r:=H
 have A5:=Aside0.mk A50
 clear A50
 replace H:=Option.bind_eq_some_iff.mp H
 obtain ⟨t701,A60,H⟩:=H
 replace H:(some t701)=some r:=H
 have A6:=Aside0.mk A60
 clear A60
 obtain rfl:=Option.some.inj H
 go_enter Tryd.func40,Tryd.ntmps40
 go_wp2_with (first|((with_reducible refine gate_callee (f:=45) rfl ?_);refine goesL_ (some 6) rfl rfl Tryd.func45 (by kernel_rfl) rfl #[.string a0] rfl (by (try simp only [List.map_toArray,List.map_cons,List.map_nil]);first|done|rfl|(simp only [List.length_drop,List.length_take];rfl)) ?_;(with_reducible refine (insolvencyref1_limbs.calls k a0 t692 _ A3.out).mono ?_);rintro e w7 ⟨v693,rfl,ho0,hb⟩;refine ⟨_,rfl,?_⟩;have n0_:=Aside0.mk (Kd.R_lower ho0 (below_size (by repeat (first|(with_reducible first|exact HB.out|apply below_alloc|apply pw_below_drewN|apply below_drew1)|exact HB.out))));have n1_:=Aside0.mk (below_step (by repeat (first|(with_reducible first|exact HB.out|apply below_alloc|apply pw_below_drewN|apply below_drew1)|exact HB.out)) hb);clear HB;have HO694:=n0_;have HB:=n1_;clear n0_ n1_;(try clear hb);(try clear hb2);(try clear hk);(try clear hi);(try clear ho0))|((with_reducible refine gate_callee (f:=45) rfl ?_);refine goesL_ (some 8) rfl rfl Tryd.func45 (by kernel_rfl) rfl #[.string a1] rfl (by (try simp only [List.map_toArray,List.map_cons,List.map_nil]);first|done|rfl|(simp only [List.length_drop,List.length_take];rfl)) ?_;(with_reducible refine (insolvencyref1_limbs.calls k a1 t695 _ A4.out).mono ?_);rintro e w8 ⟨v696,rfl,ho0,hb⟩;refine ⟨_,rfl,?_⟩;have n0_:=Aside0.mk (Kd.R_elder' (by (with_reducible repeat (first|apply Kd.R_alloc|apply Kd.R_drewN|apply Kd.R_drew));exact HO694.out) (Kd.R_base ho0) hb);have n1_:=Aside0.mk (Kd.R_lower (Kd.R_new' ho0 (Kd.R_lt (by (with_reducible repeat (first|apply Kd.R_alloc|apply Kd.R_drewN|apply Kd.R_drew));exact HO694.out))) (below_size (by repeat (first|(with_reducible first|exact HB.out|apply below_alloc|apply pw_below_drewN|apply below_drew1)|exact HB.out))));have n2_:=Aside0.mk (below_step (by repeat (first|(with_reducible first|exact HB.out|apply below_alloc|apply pw_below_drewN|apply below_drew1)|exact HB.out)) hb);clear HO694;clear HB;have HO694:=n0_;have HO697:=n1_;have HB:=n2_;clear n0_ n1_ n2_;(try clear hb);(try clear hb2);(try clear hk);(try clear hi);(try clear ho0);obtain ⟨Ao9,co9,eo9⟩:=Kd.R_slice HO694.out;subst eo9;obtain ⟨Ao10,co10,eo10⟩:=Kd.R_slice HO697.out;subst eo10)|((with_reducible refine gate_callee (f:=65) rfl ?_);refine goesL_ (some 9) rfl rfl Tryd.func65 (by kernel_rfl) rfl #[.slice Ao9 t692.length co9,.slice Ao10 t695.length co10] rfl (by (try simp only [List.map_toArray,List.map_cons,List.map_nil]);first|done|rfl|(simp only [List.length_drop,List.length_take];rfl)) ?_;(with_reducible refine (insolvencyref1_plus.calls k _ _ t692 _ _ t695 t698 _ ?side1 ?side2 ?side3 ?side4 A5.out).mono ?_);(case side1=>repeat (first|exact (Kd.R_reads' HO694.out).2.2|(with_reducible refine Kd.C_alloc ?_ _)|(with_reducible refine Kd.C_drewN ?_ _)|(with_reducible refine Kd.C_drew ?_)));(case side2=>exact (Kd.R_reads' HO694.out).2.1);(case side3=>repeat (first|exact (Kd.R_reads' HO697.out).2.2|(with_reducible refine Kd.C_alloc ?_ _)|(with_reducible refine Kd.C_drewN ?_ _)|(with_reducible refine Kd.C_drew ?_)));(case side4=>exact (Kd.R_reads' HO697.out).2.1);rintro e w11 ⟨v699,rfl,ho0,hb⟩;refine ⟨_,rfl,?_⟩;have n0_:=Aside0.mk (Kd.R_elder' (by (with_reducible repeat (first|apply Kd.R_alloc|apply Kd.R_drewN|apply Kd.R_drew));exact HO694.out) (Kd.R_base ho0) hb);have n1_:=Aside0.mk (Kd.R_elder' (by (with_reducible repeat (first|apply Kd.R_alloc|apply Kd.R_drewN|apply Kd.R_drew));exact HO697.out) (Kd.R_base ho0) hb);have n2_:=Aside0.mk (Kd.R_lower (Kd.R_new' (Kd.R_new' ho0 (Kd.R_lt (by (with_reducible repeat (first|apply Kd.R_alloc|apply Kd.R_drewN|apply Kd.R_drew));exact HO694.out))) (Kd.R_lt (by (with_reducible repeat (first|apply Kd.R_alloc|apply Kd.R_drewN|apply Kd.R_drew));exact HO697.out))) (below_size (by repeat (first|(with_reducible first|exact HB.out|apply below_alloc|apply pw_below_drewN|apply below_drew1)|exact HB.out))));have n3_:=Aside0.mk (below_step (by repeat (first|(with_reducible first|exact HB.out|apply below_alloc|apply pw_below_drewN|apply below_drew1)|exact HB.out)) hb);clear HO694;clear HO697;clear HB;have HO694:=n0_;have HO697:=n1_;have HO700:=n2_;have HB:=n3_;clear n0_ n1_ n2_ n3_;(try clear hb);(try clear hb2);(try clear hk);(try clear hi);(try clear ho0);obtain ⟨Ao12,co12,eo12⟩:=Kd.R_slice HO700.out;subst eo12)|((with_reducible refine gate_callee (f:=47) rfl ?_);refine goesL_ (some 10) rfl rfl Tryd.func47 (by kernel_rfl) rfl #[.slice Ao12 t698.length co12] rfl (by (try simp only [List.map_toArray,List.map_cons,List.map_nil]);first|done|rfl|(simp only [List.length_drop,List.length_take];rfl)) ?_;(with_reducible refine (insolvencyref1_text.calls k (fun k_=>some k_=(.slice Ao12 t698.length co12:Value).ownBlock) (.slice Ao12 t698.length co12) t698 t701 w _ ?side1 ?side2 A6.out).mono ?_);(case side1=>repeat (first|(with_reducible first|exact HB.out|apply below_alloc|apply pw_below_drewN|apply below_drew1)|exact HB.out));(case side2=>exact Kd.R_tight rfl HO700.out);rintro e w13 ⟨rfl,hb,hkp⟩;refine ⟨_,rfl,?_⟩;have n0_:=Aside0.mk (Kd.R_mono (ok':=fun k_=>some k_≠(.slice Ao10 t695.length co10:Value).ownBlock) (Kd.R_keptB (HO694.out) hkp (fun k_ hk_ hs_=>(hk_.2) hs_)) (fun k_ hk_=>hk_.1.1.2));have n1_:=Aside0.mk (Kd.R_mono (ok':=fun k_=>some k_≠(.slice Ao9 t692.length co9:Value).ownBlock) (Kd.R_keptB (HO697.out) hkp (fun k_ hk_ hs_=>(hk_.2) hs_)) (fun k_ hk_=>hk_.1.1.2));have n2_:=Aside0.mk (hb);clear HO694;clear HO697;clear HB;clear HO700;have HO694:=n0_;have HO697:=n1_;have HB:=n2_;clear n0_ n1_ n2_;(try clear hb);(try clear hkp)))
 go_ret
 exact ⟨by first|rfl|(simp [errW_none,errW_some] <;> rfl)|(simp [*,errW_none,errW_some] <;> rfl),by repeat (first|(with_reducible first|exact HB.out|apply below_alloc|apply pw_below_drewN|apply below_drew1)|exact HB.out)⟩
end Go.Proofs.YtjaflmhdclmolaaDoor.F
end
section
namespace Go.Proofs.YtjaflmhdclmolaaDoor.F
open Go.RowKit Go.Proofs.YtjaflmhdclmolaaDoorW.PrintWords Go.Proofs.YtjaflmhdclmolaaDoorW.PrintLast Go.Proofs.YtjaflmhdclmolaaDoorW.PrintMore
attribute [local go_sem] max2_int min2_int max_two min_two max_three min_three max_four min_four   
set_option linter.unusedVariables false
set_option linter.unusedSimpArgs false
def insolvencyref1_minus.l0:Nat→List Int→List Int→List Int→Int→Int→Option (List Int)
 | 0,_,_,_,_,_=>none
 | k+1,x0,x1,x5,x6,x7=>if x7<(x0.length:Int) then (if x7<(x1.length:Int) then (if 0≤x7 then (if (IntKind.u64.wrap (rd x0 x7))<(IntKind.u64.wrap (x6+(IntKind.u64.wrap (rd x1 x7)))) then (if x7<(x5.length:Int) then (insolvencyref1_minus.l0 k x0 x1 (x5.set (x7:Int).toNat ((IntKind.u64.wrap ((IntKind.u64.wrap ((IntKind.u64.wrap (rd x0 x7))+4294967296))-(IntKind.u64.wrap (x6+(IntKind.u64.wrap (rd x1 x7))))))%4294967296)) 1 (wrap64 (x7+1))) else (none)) else (if x7<(x5.length:Int) then (insolvencyref1_minus.l0 k x0 x1 (x5.set (x7:Int).toNat ((IntKind.u64.wrap ((IntKind.u64.wrap (rd x0 x7))-(IntKind.u64.wrap (x6+(IntKind.u64.wrap (rd x1 x7))))))%4294967296)) 0 (wrap64 (x7+1))) else (none))) else (none)) else (if 0≤x7 then (if (IntKind.u64.wrap (rd x0 x7))<x6 then (if x7<(x5.length:Int) then (insolvencyref1_minus.l0 k x0 x1 (x5.set (x7:Int).toNat ((IntKind.u64.wrap ((IntKind.u64.wrap ((IntKind.u64.wrap (rd x0 x7))+4294967296))-x6))%4294967296)) 1 (wrap64 (x7+1))) else (none)) else (if x7<(x5.length:Int) then (insolvencyref1_minus.l0 k x0 x1 (x5.set (x7:Int).toNat ((IntKind.u64.wrap ((IntKind.u64.wrap (rd x0 x7))-x6))%4294967296)) 0 (wrap64 (x7+1))) else (none))) else (none))) else ((insolvencyref1_strip.f k x5).bind fun t656=>(some t656))
def insolvencyref1_minus.f (k:Nat) (l0:List Int) (l1:List Int):Option (List Int):=if 0≤(l0.length:Int) then (if ((l0.length:Int):Int).toNat≤70368744177664 then (insolvencyref1_minus.l0 k l0 l1 (List.replicate ((l0.length:Int):Int).toNat 0) 0 0) else (none)) else (none)
theorem insolvencyref1_minus.mono_l:∀ k,(∀ y0 y1 y2 y3 y4,LeO (insolvencyref1_minus.l0 k y0 y1 y2 y3 y4) (insolvencyref1_minus.l0 (k+1) y0 y1 y2 y3 y4))
 | 0=>fun _ _ _ _ _ r h=>by simp [insolvencyref1_minus.l0] at h
 | k+1=>by
  have ih0:=insolvencyref1_minus.mono_l k
  ·intro y0 y1 y2 y3 y4
   unfold insolvencyref1_minus.l0
   repeat' first
   | (with_reducible exact ih0 _ _ _ _ _)
   | (with_reducible exact insolvencyref1_strip.mono _ _)
   | (with_reducible exact LeO.refl _)
   | (with_reducible exact LeO.none _)
   | (with_reducible refine LeO.ite ?_ ?_)
   | (with_reducible refine LeO.bind ?_ (fun _=>?_))
   | exact ih0 _ _ _ _ _
   | exact insolvencyref1_strip.mono _ _
   | exact LeO.none _
   | refine LeO.ite ?_ ?_
   | refine LeO.bind ?_ (fun _=>?_)
theorem insolvencyref1_minus.mono:∀ a0 a1 k,LeO (insolvencyref1_minus.f k a0 a1) (insolvencyref1_minus.f (k+1) a0 a1):=by
 intro a0 a1 k
 have ih0:=insolvencyref1_minus.mono_l k
 unfold insolvencyref1_minus.f
 repeat' first
  | (with_reducible exact ih0 _ _ _ _ _)
  | (with_reducible exact insolvencyref1_strip.mono _ _)
  | (with_reducible exact LeO.refl _)
  | (with_reducible exact LeO.none _)
  | (with_reducible refine LeO.ite ?_ ?_)
  | (with_reducible refine LeO.bind ?_ (fun _=>?_))
  | exact ih0 _ _ _ _ _
  | exact insolvencyref1_strip.mono _ _
  | exact LeO.none _
  | refine LeO.ite ?_ ?_
  | refine LeO.bind ?_ (fun _=>?_)
set_option maxHeartbeats 8000000 in
set_option maxRecDepth 100000 in
theorem insolvencyref1_minus.calls (k:Nat) (A0:Option Addr) (c0:Nat) (l0:List Int) (A1:Option Addr) (c1:Nat) (l1:List Int) (r:List Int) (w:World) (hr0:Kd.C (Kd.int .u32) w A0 l0.length l0) (hc0:l0.length≤c0) (hr1:Kd.C (Kd.int .u32) w A1 l1.length l1) (hc1:l1.length≤c1) (h:insolvencyref1_minus.f k l0 l1=some r) :
 Calls Tryd.prog 64 #[.slice A0 l0.length c0,.slice A1 l1.length c1] w fun e w'=>∃ v0_:Value,e = .returned (v0_)∧Kd.R (Kd.int .u32) 60 w' w.heap.size (fun _=>True) v0_ r∧Below w.heap.size w w':=by
 have HR0:=Aside0.mk hr0
 have HC0:=Aside0.mk hc0
 clear hr0 hc0
 have HR1:=Aside0.mk hr1
 have HC1:=Aside0.mk hc1
 clear hr1 hc1
 have HB:=Aside0.mk (Below.refl w.heap.size w)
 have H:(if 0≤(l0.length:Int) then (if ((l0.length:Int):Int).toNat≤70368744177664 then (insolvencyref1_minus.l0 k l0 l1 (List.replicate ((l0.length:Int):Int).toNat 0) 0 0) else (none)) else (none))=some r:=h
 clear h
 by_cases c3:0≤(l0.length:Int)
 ·rw [if_pos c3] at H
  have c3b0:=eq_true c3
  have c3b1:decide (0≤(l0.length:Int))=true:=decide_eq_true c3
  clear c3
  by_cases c4:((l0.length:Int):Int).toNat≤70368744177664
  ·rw [if_pos c4] at H
   have c4b0:=eq_true c4
   have c4b1:decide (((l0.length:Int):Int).toNat≤70368744177664)=true:=decide_eq_true c4
   clear c4
   obtain ⟨y653,hy653⟩:∃ y_:List Int,y_=(List.replicate ((l0.length:Int):Int).toNat 0):=⟨_,rfl⟩
   replace H:(insolvencyref1_minus.l0 k l0 l1 y653 0 0)=some r:=by first|(rw [hy653];with_reducible exact H)|(have H2_:=(Option.bind_some _ _).symm.trans H;rw [hy653];with_reducible exact H2_)|(have H2_:=(Option.bind_some _ _).symm.trans H;with_reducible exact H2_)|with_reducible exact H|(rw [hy653];exact H)|exact H
   have Ny653:=Aside0.mk hy653
   clear hy653
   have H':=Aside0.mk H
   clear H
   go_enter Tryd.func64,Tryd.ntmps64
   go_wp2_with (first|((with_reducible refine gate_dst (N:=12) rfl ?_);refine Kd.R_make (Kd.int .u32) _ 60 rfl (N:=12) rfl 49 _ _ rfl (l0.length:Int) rfl rfl Tryd.underlying49 (.int .u32 0) 4 info60 rfl (by decide) (by omega) 0 (ok:=fun _=>True) (okp:=fun _=>True) rfl (fun _ hk=>hk) trivial (of_decide_eq_true (by first|(with_reducible assumption)|assumption)) (Nat.le_trans (Nat.mul_le_mul_right _ (of_decide_eq_true (by first|(with_reducible assumption)|assumption):(l0.length:Int).toNat≤70368744177664)) (by omega)) (Below.refl _ _) (Nat.le_refl _) ?_;intro v654 w5 ho6 hb hg_ hnew_;clear hg_ hnew_;(first|rw [← Ny653.out] at ho6|(simp only [Int.reduceToNat] at ho6;rw [← Ny653.out] at ho6));have n0_:=Aside0.mk (Kd.R_lower ho6 (below_size (by repeat (first|(with_reducible first|exact HB.out|apply below_alloc|apply pw_below_drewN|apply below_drew1)|exact HB.out))));have n1_:=Aside0.mk (below_step (by repeat (first|(with_reducible first|exact HB.out|apply below_alloc|apply pw_below_drewN|apply below_drew1)|exact HB.out)) hb);clear HB;have HO655:=n0_;have HB:=n1_;clear n0_ n1_;clear hb ho6))
   go_loopg [6,7] k (fun kq v6 v7 w'=>∃ (x5_1:List Int) (x6_1:Int) (x7_1:Int),v6 = .int .u64 x6_1∧v7 = .int .i64 x7_1∧Aside0 (insolvencyref1_minus.l0 kq l0 l1 x5_1 x6_1 x7_1=some r)∧Aside0 (kq≤k)∧Aside0 (Kd.R (Kd.int .u32) 60 w' w.heap.size (fun _=>True) v654 x5_1)∧Aside0 (Below w.heap.size w w'))
   case atStart=>exact ⟨(y653),(0),(0),(by first|rfl|(simp;done)|(simp [*];done)),(by first|rfl|(simp;done)|(simp [*];done)),H',⟨Nat.le_refl _⟩,⟨by (with_reducible repeat (first|apply Kd.R_alloc|apply Kd.R_drewN|apply Kd.R_drew));exact HO655.out⟩,⟨by repeat (first|(with_reducible first|exact HB.out|apply below_alloc|apply pw_below_drewN|apply below_drew1)|exact HB.out)⟩⟩
   case round=>
    clear H'
    try clear c1
    try clear p2
    try clear c3
    try clear c3b0
    try clear c3b1
    try clear c4
    try clear c4b0
    try clear c4b1
    try clear c6
    obtain ⟨x5_1,x6_1,x7_1,rfl,rfl,HA,HK1,HO_5,HB⟩:=hrel
    cases gk with
    | zero=>exact absurd HA.out (by simp [insolvencyref1_minus.l0])
    | succ k1=>
     have H:=HA.out
     clear HA
     simp only [insolvencyref1_minus.l0] at H
     by_cases c7:x7_1<(l0.length:Int)
     ·rw [if_pos c7] at H
      have c7b0:decide (x7_1<(l0.length:Int))=true:=decide_eq_true c7
      clear c7
      by_cases c8:x7_1<(l1.length:Int)
      ·rw [if_pos c8] at H
       have c8b0:decide (x7_1<(l1.length:Int))=true:=decide_eq_true c8
       clear c8
       by_cases c9:0≤x7_1
       ·rw [if_pos c9] at H
        have c9b0:decide (0≤x7_1)=true:=decide_eq_true c9
        clear c9
        by_cases c10:(IntKind.u64.wrap (rd l0 x7_1))<(IntKind.u64.wrap (x6_1+(IntKind.u64.wrap (rd l1 x7_1))))
        ·rw [if_pos c10] at H
         have c10b0:decide ((IntKind.u64.wrap (rd l0 x7_1))<(IntKind.u64.wrap (x6_1+(IntKind.u64.wrap (rd l1 x7_1)))))=true:=decide_eq_true c10
         clear c10
         by_cases c11:x7_1<(x5_1.length:Int)
         ·rw [if_pos c11] at H
          have c11b0:decide (x7_1<(x5_1.length:Int))=true:=decide_eq_true c11
          clear c11
          obtain ⟨y661,hy661⟩:∃ y_:List Int,y_=(x5_1.set (x7_1:Int).toNat ((IntKind.u64.wrap ((IntKind.u64.wrap ((IntKind.u64.wrap (rd l0 x7_1))+4294967296))-(IntKind.u64.wrap (x6_1+(IntKind.u64.wrap (rd l1 x7_1))))))%4294967296)):=⟨_,rfl⟩
          replace H:(insolvencyref1_minus.l0 k1 l0 l1 y661 1 (wrap64 (x7_1+1)))=some r:=by first|(rw [hy661];with_reducible exact H)|(have H2_:=(Option.bind_some _ _).symm.trans H;rw [hy661];with_reducible exact H2_)|(have H2_:=(Option.bind_some _ _).symm.trans H;with_reducible exact H2_)|with_reducible exact H|(rw [hy661];exact H)|exact H
          have Ny661:=Aside0.mk hy661
          clear hy661
          have H':=Aside0.mk H
          clear H
          have p659:0≤(x7_1:Int):=of_decide_eq_true (by first|(with_reducible assumption)|assumption)
          have q659:x7_1<(l1.length:Int):=of_decide_eq_true (by first|(with_reducible assumption)|assumption)
          obtain ⟨ad659,e659,hx659_0⟩:=Kd.at_int HR1.out x7_1 p659 q659
          cases e659
          replace hx659_0:=(HB.out.cell (World.block_lt_of_cell? w _ hx659_0)).trans hx659_0
          replace p659:=eq_true p659
          replace q659:=eq_true q659
          have p660:0≤(x7_1:Int):=of_decide_eq_true (by first|(with_reducible assumption)|assumption)
          have q660:x7_1<(l0.length:Int):=of_decide_eq_true (by first|(with_reducible assumption)|assumption)
          obtain ⟨ad660,e660,hx660_0⟩:=Kd.at_int HR0.out x7_1 p660 q660
          cases e660
          replace hx660_0:=(HB.out.cell (World.block_lt_of_cell? w _ hx660_0)).trans hx660_0
          replace p660:=eq_true p660
          replace q660:=eq_true q660
          have p12:0≤(x7_1:Int):=of_decide_eq_true (by first|(with_reducible assumption)|assumption)
          have q12:(x7_1:Int)<((x5_1.length:Int):Int):=of_decide_eq_true (by first|(with_reducible assumption)|assumption)
          obtain ⟨go12,co12,eo12,gb12,gl12,cl12,HG12⟩:=Kd.R_form HO_5.out (by omega)
          (first|cases eo12|(injection eo12 with ea_ en_ ec_;(first|subst ea_|(injection ea_ with ea_;subst ea_));subst ec_;clear en_))
          have GB12:=Aside0.mk gb12
          have GG12:=Aside0.mk HG12
          clear gb12 gl12 HG12
          obtain ⟨hx12_0,hf12_0⟩:=Kd.R_celln 0 HO_5.out (x7_1:Int) p12 q12
          replace p12:=eq_true p12
          replace q12:=eq_true q12
          have HP13:=Kd.R_putg HO_5.out (x7_1:Int) ((IntKind.u64.wrap ((IntKind.u64.wrap ((IntKind.u64.wrap (rd l0 x7_1))+4294967296))-(IntKind.u64.wrap (x6_1+(IntKind.u64.wrap (rd l1 x7_1))))))%4294967296)
          go_wp2_with (first|((with_reducible refine gate_store (t:=60) (p:=47) rfl ?_);refine store_event (t:=60) (p:=47) (v:=?vo_w14) (w1:=(wr.setCell ⟨go12,(x7_1:Int).toNat,none⟩ (.int .u32 ((IntKind.u64.wrap ((IntKind.u64.wrap ((IntKind.u64.wrap (rd l0 x7_1))+4294967296))-(IntKind.u64.wrap (x6_1+(IntKind.u64.wrap (rd l1 x7_1))))))%4294967296)))) ?hg ?ho ?hn ?hr ?_;(case ho=>rfl);(case hg=>rfl);(case hn=>rfl);(case hr=>first|(go_simp;done)|(go_simp;rfl));intro w14 hw;have hg:wr.grownBy w14 (some go12):=(by rw [hw];exact HP13.2);have hp_:Kd.R (Kd.int .u32) 60 w14 w.heap.size (fun _=>True) (.slice (some ⟨go12,0,none⟩) x5_1.length co12) y661:=(by rw [hw,Ny661.out];exact HP13.1);clear HP13;have n0_:=Aside0.mk (hp_);have n1_:=Aside0.mk ((by rw [hw];exact below_set (HB.out) GB12.out:Below w.heap.size w w14));clear HO_5;clear HB;have HO_5:=n0_;have HB:=n1_;clear n0_ n1_;clear hg hw hp_))
          go_roundg k1
          case measure=>have:=HK1.out;omega
          case rel=>exact ⟨(y661),(1),(wrap64 (x7_1+1)),(by first|rfl|(simp;done)|(simp [*];done)),(by first|rfl|(simp;done)|(simp [*];done)),H',⟨by have:=HK1.out;omega⟩,⟨by (with_reducible repeat (first|apply Kd.R_alloc|apply Kd.R_drewN|apply Kd.R_drew));exact HO_5.out⟩,⟨by repeat (first|(with_reducible first|exact HB.out|apply below_alloc|apply pw_below_drewN|apply below_drew1)|exact HB.out)⟩⟩
         ·rw [if_neg c11] at H
          exact absurd H (by simp)
        ·rw [if_neg c10] at H
         have c10b0:decide ((IntKind.u64.wrap (rd l0 x7_1))<(IntKind.u64.wrap (x6_1+(IntKind.u64.wrap (rd l1 x7_1)))))=false:=decide_eq_false c10
         clear c10
         by_cases c15:x7_1<(x5_1.length:Int)
         ·rw [if_pos c15] at H
          have c15b0:decide (x7_1<(x5_1.length:Int))=true:=decide_eq_true c15
          clear c15
          obtain ⟨y662,hy662⟩:∃ y_:List Int,y_=(x5_1.set (x7_1:Int).toNat ((IntKind.u64.wrap ((IntKind.u64.wrap (rd l0 x7_1))-(IntKind.u64.wrap (x6_1+(IntKind.u64.wrap (rd l1 x7_1))))))%4294967296)):=⟨_,rfl⟩
          replace H:(insolvencyref1_minus.l0 k1 l0 l1 y662 0 (wrap64 (x7_1+1)))=some r:=by first|(rw [hy662];with_reducible exact H)|(have H2_:=(Option.bind_some _ _).symm.trans H;rw [hy662];with_reducible exact H2_)|(have H2_:=(Option.bind_some _ _).symm.trans H;with_reducible exact H2_)|with_reducible exact H|(rw [hy662];exact H)|exact H
          have Ny662:=Aside0.mk hy662
          clear hy662
          have H':=Aside0.mk H
          clear H
          have p659:0≤(x7_1:Int):=of_decide_eq_true (by first|(with_reducible assumption)|assumption)
          have q659:x7_1<(l1.length:Int):=of_decide_eq_true (by first|(with_reducible assumption)|assumption)
          obtain ⟨ad659,e659,hx659_0⟩:=Kd.at_int HR1.out x7_1 p659 q659
          cases e659
          replace hx659_0:=(HB.out.cell (World.block_lt_of_cell? w _ hx659_0)).trans hx659_0
          replace p659:=eq_true p659
          replace q659:=eq_true q659
          have p660:0≤(x7_1:Int):=of_decide_eq_true (by first|(with_reducible assumption)|assumption)
          have q660:x7_1<(l0.length:Int):=of_decide_eq_true (by first|(with_reducible assumption)|assumption)
          obtain ⟨ad660,e660,hx660_0⟩:=Kd.at_int HR0.out x7_1 p660 q660
          cases e660
          replace hx660_0:=(HB.out.cell (World.block_lt_of_cell? w _ hx660_0)).trans hx660_0
          replace p660:=eq_true p660
          replace q660:=eq_true q660
          have p16:0≤(x7_1:Int):=of_decide_eq_true (by first|(with_reducible assumption)|assumption)
          have q16:(x7_1:Int)<((x5_1.length:Int):Int):=of_decide_eq_true (by first|(with_reducible assumption)|assumption)
          obtain ⟨go16,co16,eo16,gb16,gl16,cl16,HG16⟩:=Kd.R_form HO_5.out (by omega)
          (first|cases eo16|(injection eo16 with ea_ en_ ec_;(first|subst ea_|(injection ea_ with ea_;subst ea_));subst ec_;clear en_))
          have GB16:=Aside0.mk gb16
          have GG16:=Aside0.mk HG16
          clear gb16 gl16 HG16
          obtain ⟨hx16_0,hf16_0⟩:=Kd.R_celln 0 HO_5.out (x7_1:Int) p16 q16
          replace p16:=eq_true p16
          replace q16:=eq_true q16
          have HP17:=Kd.R_putg HO_5.out (x7_1:Int) ((IntKind.u64.wrap ((IntKind.u64.wrap (rd l0 x7_1))-(IntKind.u64.wrap (x6_1+(IntKind.u64.wrap (rd l1 x7_1))))))%4294967296)
          go_wp2_with (first|((with_reducible refine gate_store (t:=60) (p:=47) rfl ?_);refine store_event (t:=60) (p:=47) (v:=?vo_w18) (w1:=(wr.setCell ⟨go16,(x7_1:Int).toNat,none⟩ (.int .u32 ((IntKind.u64.wrap ((IntKind.u64.wrap (rd l0 x7_1))-(IntKind.u64.wrap (x6_1+(IntKind.u64.wrap (rd l1 x7_1))))))%4294967296)))) ?hg ?ho ?hn ?hr ?_;(case ho=>rfl);(case hg=>rfl);(case hn=>rfl);(case hr=>first|(go_simp;done)|(go_simp;rfl));intro w18 hw;have hg:wr.grownBy w18 (some go16):=(by rw [hw];exact HP17.2);have hp_:Kd.R (Kd.int .u32) 60 w18 w.heap.size (fun _=>True) (.slice (some ⟨go16,0,none⟩) x5_1.length co16) y662:=(by rw [hw,Ny662.out];exact HP17.1);clear HP17;have n0_:=Aside0.mk (hp_);have n1_:=Aside0.mk ((by rw [hw];exact below_set (HB.out) GB16.out:Below w.heap.size w w18));clear HO_5;clear HB;have HO_5:=n0_;have HB:=n1_;clear n0_ n1_;clear hg hw hp_))
          go_roundg k1
          case measure=>have:=HK1.out;omega
          case rel=>exact ⟨(y662),(0),(wrap64 (x7_1+1)),(by first|rfl|(simp;done)|(simp [*];done)),(by first|rfl|(simp;done)|(simp [*];done)),H',⟨by have:=HK1.out;omega⟩,⟨by (with_reducible repeat (first|apply Kd.R_alloc|apply Kd.R_drewN|apply Kd.R_drew));exact HO_5.out⟩,⟨by repeat (first|(with_reducible first|exact HB.out|apply below_alloc|apply pw_below_drewN|apply below_drew1)|exact HB.out)⟩⟩
         ·rw [if_neg c15] at H
          exact absurd H (by simp)
       ·rw [if_neg c9] at H
        exact absurd H (by simp)
      ·rw [if_neg c8] at H
       have c8b0:decide (x7_1<(l1.length:Int))=false:=decide_eq_false c8
       clear c8
       by_cases c19:0≤x7_1
       ·rw [if_pos c19] at H
        have c19b0:decide (0≤x7_1)=true:=decide_eq_true c19
        clear c19
        by_cases c20:(IntKind.u64.wrap (rd l0 x7_1))<x6_1
        ·rw [if_pos c20] at H
         have c20b0:decide ((IntKind.u64.wrap (rd l0 x7_1))<x6_1)=true:=decide_eq_true c20
         clear c20
         by_cases c21:x7_1<(x5_1.length:Int)
         ·rw [if_pos c21] at H
          have c21b0:decide (x7_1<(x5_1.length:Int))=true:=decide_eq_true c21
          clear c21
          obtain ⟨y664,hy664⟩:∃ y_:List Int,y_=(x5_1.set (x7_1:Int).toNat ((IntKind.u64.wrap ((IntKind.u64.wrap ((IntKind.u64.wrap (rd l0 x7_1))+4294967296))-x6_1))%4294967296)):=⟨_,rfl⟩
          replace H:(insolvencyref1_minus.l0 k1 l0 l1 y664 1 (wrap64 (x7_1+1)))=some r:=by first|(rw [hy664];with_reducible exact H)|(have H2_:=(Option.bind_some _ _).symm.trans H;rw [hy664];with_reducible exact H2_)|(have H2_:=(Option.bind_some _ _).symm.trans H;with_reducible exact H2_)|with_reducible exact H|(rw [hy664];exact H)|exact H
          have Ny664:=Aside0.mk hy664
          clear hy664
          have H':=Aside0.mk H
          clear H
          have p663:0≤(x7_1:Int):=of_decide_eq_true (by first|(with_reducible assumption)|assumption)
          have q663:x7_1<(l0.length:Int):=of_decide_eq_true (by first|(with_reducible assumption)|assumption)
          obtain ⟨ad663,e663,hx663_0⟩:=Kd.at_int HR0.out x7_1 p663 q663
          cases e663
          replace hx663_0:=(HB.out.cell (World.block_lt_of_cell? w _ hx663_0)).trans hx663_0
          replace p663:=eq_true p663
          replace q663:=eq_true q663
          have p22:0≤(x7_1:Int):=of_decide_eq_true (by first|(with_reducible assumption)|assumption)
          have q22:(x7_1:Int)<((x5_1.length:Int):Int):=of_decide_eq_true (by first|(with_reducible assumption)|assumption)
          obtain ⟨go22,co22,eo22,gb22,gl22,cl22,HG22⟩:=Kd.R_form HO_5.out (by omega)
          (first|cases eo22|(injection eo22 with ea_ en_ ec_;(first|subst ea_|(injection ea_ with ea_;subst ea_));subst ec_;clear en_))
          have GB22:=Aside0.mk gb22
          have GG22:=Aside0.mk HG22
          clear gb22 gl22 HG22
          obtain ⟨hx22_0,hf22_0⟩:=Kd.R_celln 0 HO_5.out (x7_1:Int) p22 q22
          replace p22:=eq_true p22
          replace q22:=eq_true q22
          have HP23:=Kd.R_putg HO_5.out (x7_1:Int) ((IntKind.u64.wrap ((IntKind.u64.wrap ((IntKind.u64.wrap (rd l0 x7_1))+4294967296))-x6_1))%4294967296)
          go_wp2_with (first|((with_reducible refine gate_store (t:=60) (p:=47) rfl ?_);refine store_event (t:=60) (p:=47) (v:=?vo_w24) (w1:=(wr.setCell ⟨go22,(x7_1:Int).toNat,none⟩ (.int .u32 ((IntKind.u64.wrap ((IntKind.u64.wrap ((IntKind.u64.wrap (rd l0 x7_1))+4294967296))-x6_1))%4294967296)))) ?hg ?ho ?hn ?hr ?_;(case ho=>rfl);(case hg=>rfl);(case hn=>rfl);(case hr=>first|(go_simp;done)|(go_simp;rfl));intro w24 hw;have hg:wr.grownBy w24 (some go22):=(by rw [hw];exact HP23.2);have hp_:Kd.R (Kd.int .u32) 60 w24 w.heap.size (fun _=>True) (.slice (some ⟨go22,0,none⟩) x5_1.length co22) y664:=(by rw [hw,Ny664.out];exact HP23.1);clear HP23;have n0_:=Aside0.mk (hp_);have n1_:=Aside0.mk ((by rw [hw];exact below_set (HB.out) GB22.out:Below w.heap.size w w24));clear HO_5;clear HB;have HO_5:=n0_;have HB:=n1_;clear n0_ n1_;clear hg hw hp_))
          go_roundg k1
          case measure=>have:=HK1.out;omega
          case rel=>exact ⟨(y664),(1),(wrap64 (x7_1+1)),(by first|rfl|(simp;done)|(simp [*];done)),(by first|rfl|(simp;done)|(simp [*];done)),H',⟨by have:=HK1.out;omega⟩,⟨by (with_reducible repeat (first|apply Kd.R_alloc|apply Kd.R_drewN|apply Kd.R_drew));exact HO_5.out⟩,⟨by repeat (first|(with_reducible first|exact HB.out|apply below_alloc|apply pw_below_drewN|apply below_drew1)|exact HB.out)⟩⟩
         ·rw [if_neg c21] at H
          exact absurd H (by simp)
        ·rw [if_neg c20] at H
         have c20b0:decide ((IntKind.u64.wrap (rd l0 x7_1))<x6_1)=false:=decide_eq_false c20
         clear c20
         by_cases c25:x7_1<(x5_1.length:Int)
         ·rw [if_pos c25] at H
          have c25b0:decide (x7_1<(x5_1.length:Int))=true:=decide_eq_true c25
          clear c25
          obtain ⟨y665,hy665⟩:∃ y_:List Int,y_=(x5_1.set (x7_1:Int).toNat ((IntKind.u64.wrap ((IntKind.u64.wrap (rd l0 x7_1))-x6_1))%4294967296)):=⟨_,rfl⟩
          replace H:(insolvencyref1_minus.l0 k1 l0 l1 y665 0 (wrap64 (x7_1+1)))=some r:=by first|(rw [hy665];with_reducible exact H)|(have H2_:=(Option.bind_some _ _).symm.trans H;rw [hy665];with_reducible exact H2_)|(have H2_:=(Option.bind_some _ _).symm.trans H;with_reducible exact H2_)|with_reducible exact H|(rw [hy665];exact H)|exact H
          have Ny665:=Aside0.mk hy665
          clear hy665
          have H':=Aside0.mk H
          clear H
          have p663:0≤(x7_1:Int):=of_decide_eq_true (by first|(with_reducible assumption)|assumption)
          have q663:x7_1<(l0.length:Int):=of_decide_eq_true (by first|(with_reducible assumption)|assumption)
          obtain ⟨ad663,e663,hx663_0⟩:=Kd.at_int HR0.out x7_1 p663 q663
          cases e663
          replace hx663_0:=(HB.out.cell (World.block_lt_of_cell? w _ hx663_0)).trans hx663_0
          replace p663:=eq_true p663
          replace q663:=eq_true q663
          have p26:0≤(x7_1:Int):=of_decide_eq_true (by first|(with_reducible assumption)|assumption)
          have q26:(x7_1:Int)<((x5_1.length:Int):Int):=of_decide_eq_true (by first|(with_reducible assumption)|assumption)
          obtain ⟨go26,co26,eo26,gb26,gl26,cl26,HG26⟩:=Kd.R_form HO_5.out (by omega)
          (first|cases eo26|(injection eo26 with ea_ en_ ec_;(first|subst ea_|(injection ea_ with ea_;subst ea_));subst ec_;clear en_))
          have GB26:=Aside0.mk gb26
          have GG26:=Aside0.mk HG26
          clear gb26 gl26 HG26
          obtain ⟨hx26_0,hf26_0⟩:=Kd.R_celln 0 HO_5.out (x7_1:Int) p26 q26
          replace p26:=eq_true p26
          replace q26:=eq_true q26
          have HP27:=Kd.R_putg HO_5.out (x7_1:Int) ((IntKind.u64.wrap ((IntKind.u64.wrap (rd l0 x7_1))-x6_1))%4294967296)
          go_wp2_with (first|((with_reducible refine gate_store (t:=60) (p:=47) rfl ?_);refine store_event (t:=60) (p:=47) (v:=?vo_w28) (w1:=(wr.setCell ⟨go26,(x7_1:Int).toNat,none⟩ (.int .u32 ((IntKind.u64.wrap ((IntKind.u64.wrap (rd l0 x7_1))-x6_1))%4294967296)))) ?hg ?ho ?hn ?hr ?_;(case ho=>rfl);(case hg=>rfl);(case hn=>rfl);(case hr=>first|(go_simp;done)|(go_simp;rfl));intro w28 hw;have hg:wr.grownBy w28 (some go26):=(by rw [hw];exact HP27.2);have hp_:Kd.R (Kd.int .u32) 60 w28 w.heap.size (fun _=>True) (.slice (some ⟨go26,0,none⟩) x5_1.length co26) y665:=(by rw [hw,Ny665.out];exact HP27.1);clear HP27;have n0_:=Aside0.mk (hp_);have n1_:=Aside0.mk ((by rw [hw];exact below_set (HB.out) GB26.out:Below w.heap.size w w28));clear HO_5;clear HB;have HO_5:=n0_;have HB:=n1_;clear n0_ n1_;clear hg hw hp_))
          go_roundg k1
          case measure=>have:=HK1.out;omega
          case rel=>exact ⟨(y665),(0),(wrap64 (x7_1+1)),(by first|rfl|(simp;done)|(simp [*];done)),(by first|rfl|(simp;done)|(simp [*];done)),H',⟨by have:=HK1.out;omega⟩,⟨by (with_reducible repeat (first|apply Kd.R_alloc|apply Kd.R_drewN|apply Kd.R_drew));exact HO_5.out⟩,⟨by repeat (first|(with_reducible first|exact HB.out|apply below_alloc|apply pw_below_drewN|apply below_drew1)|exact HB.out)⟩⟩
         ·rw [if_neg c25] at H
          exact absurd H (by simp)
       ·rw [if_neg c19] at H
        exact absurd H (by simp)
     ·rw [if_neg c7] at H
      have c7b0:decide (x7_1<(l0.length:Int))=false:=decide_eq_false c7
      clear c7
      replace H:=Option.bind_eq_some_iff.mp H
      obtain ⟨t656,A290,H⟩:=H
      replace H:(some t656)=some r:=H
      have A29:=Aside0.mk A290
      clear A290
      obtain rfl:=Option.some.inj H
      obtain ⟨Ao30,co30,eo30⟩:=Kd.R_slice HO_5.out
      subst eo30
      go_wp2_with (first|((with_reducible refine gate_callee (f:=75) rfl ?_);refine goesL_ (some 49) rfl rfl Tryd.func75 (by kernel_rfl) rfl #[.slice Ao30 x5_1.length co30] rfl (by (try simp only [List.map_toArray,List.map_cons,List.map_nil]);first|done|rfl|(simp only [List.length_drop,List.length_take];rfl)) ?_;(with_reducible refine (insolvencyref1_strip.calls k1 (fun k_=>some k_=(.slice Ao30 x5_1.length co30:Value).ownBlock) (.slice Ao30 x5_1.length co30) x5_1 t656 w _ ?side1 ?side2 A29.out).mono ?_);(case side1=>repeat (first|(with_reducible first|exact HB.out|apply below_alloc|apply pw_below_drewN|apply below_drew1)|exact HB.out));(case side2=>exact Kd.R_tight rfl HO_5.out);rintro e w31 ⟨v657,rfl,ho0,hb,hkp⟩;refine ⟨_,rfl,?_⟩;have n0_:=Aside0.mk (Kd.R_mono (ok':=fun k_=>True) ho0 (fun k_ hk_=>trivial));have n1_:=Aside0.mk (hb);clear HB;clear HO_5;have HO658:=n0_;have HB:=n1_;clear n0_ n1_;(try clear hb);(try clear hkp);(try clear ho0)))
      go_ret
      exact ⟨_,by first|rfl|(simp [errW_none,errW_some] <;> rfl)|(simp [*,errW_none,errW_some] <;> rfl),by (with_reducible repeat (first|apply Kd.R_alloc|apply Kd.R_drewN|apply Kd.R_drew));exact HO658.out,by repeat (first|(with_reducible first|exact HB.out|apply below_alloc|apply pw_below_drewN|apply below_drew1)|exact HB.out)⟩
  ·rw [if_neg c4] at H
   exact absurd H (by simp)
 ·rw [if_neg c3] at H
  exact absurd H (by simp)
end Go.Proofs.YtjaflmhdclmolaaDoor.F
end
section
namespace Go.Proofs.YtjaflmhdclmolaaDoor.F
open Go.RowKit Go.Proofs.YtjaflmhdclmolaaDoorW.PrintWords Go.Proofs.YtjaflmhdclmolaaDoorW.PrintLast Go.Proofs.YtjaflmhdclmolaaDoorW.PrintMore
attribute [local go_sem] max2_int min2_int max_two min_two max_three min_three max_four min_four   
set_option linter.unusedVariables false
set_option linter.unusedSimpArgs false
def insolvencyref1_NatSubtract.f (k:Nat) (a0:ByteArray) (a1:ByteArray):Option (ByteArray×Bool):=(insolvencyref1_limbs.f k a0).bind fun t666=>((insolvencyref1_limbs.f k a1).bind fun t669=>((insolvencyref1_order.f k t666 t669).bind fun t672=>(if t672<0 then (some ((⟨#[]⟩:ByteArray),false)) else ((insolvencyref1_minus.f k t666 t669).bind fun t673=>((insolvencyref1_text.f k t673).bind fun t676=>(some (t676,true)))))))
theorem insolvencyref1_NatSubtract.mono:∀ a0 a1 k,LeO (insolvencyref1_NatSubtract.f k a0 a1) (insolvencyref1_NatSubtract.f (k+1) a0 a1):=by
 intro a0 a1 k
 unfold insolvencyref1_NatSubtract.f
 repeat' first
  | (with_reducible exact insolvencyref1_limbs.mono _ _)
  | (with_reducible exact insolvencyref1_minus.mono _ _ _)
  | (with_reducible exact insolvencyref1_order.mono _ _ _)
  | (with_reducible exact insolvencyref1_text.mono _ _)
  | (with_reducible exact LeO.refl _)
  | (with_reducible exact LeO.none _)
  | (with_reducible refine LeO.ite ?_ ?_)
  | (with_reducible refine LeO.bind ?_ (fun _=>?_))
  | exact insolvencyref1_limbs.mono _ _
  | exact insolvencyref1_minus.mono _ _ _
  | exact insolvencyref1_order.mono _ _ _
  | exact insolvencyref1_text.mono _ _
  | exact LeO.none _
  | refine LeO.ite ?_ ?_
  | refine LeO.bind ?_ (fun _=>?_)
set_option maxHeartbeats 8000000 in
set_option maxRecDepth 100000 in
theorem insolvencyref1_NatSubtract.calls (k:Nat) (a0:ByteArray) (a1:ByteArray) (r1:ByteArray) (r2:Bool) (w:World) (h:insolvencyref1_NatSubtract.f k a0 a1=some (r1,r2)) :
 Calls Tryd.prog 39 #[.string a0,.string a1] w fun e w'=>e = .returned (.tuple #[.string r1,.bool r2])∧Below w.heap.size w w':=by
 have HB:=Aside0.mk (Below.refl w.heap.size w)
 have H:((insolvencyref1_limbs.f k a0).bind fun t666=>((insolvencyref1_limbs.f k a1).bind fun t669=>((insolvencyref1_order.f k t666 t669).bind fun t672=>(if t672<0 then (some ((⟨#[]⟩:ByteArray),false)) else ((insolvencyref1_minus.f k t666 t669).bind fun t673=>((insolvencyref1_text.f k t673).bind fun t676=>(some (t676,true))))))))=some (r1,r2):=h
 clear h
 replace H:=Option.bind_eq_some_iff.mp H
 obtain ⟨t666,A30,H⟩:=H
 replace H:((insolvencyref1_limbs.f k a1).bind fun t669=>((insolvencyref1_order.f k t666 t669).bind fun t672=>(if t672<0 then (some ((⟨#[]⟩:ByteArray),false)) else ((insolvencyref1_minus.f k t666 t669).bind fun t673=>((insolvencyref1_text.f k t673).bind fun t676=>(some (t676,true)))))))=some (r1,r2):=H
 have A3:=Aside0.mk A30
 clear A30
 replace H:=Option.bind_eq_some_iff.mp H
 obtain ⟨t669,A40,H⟩:=H
 replace H:((insolvencyref1_order.f k t666 t669).bind fun t672=>(if t672<0 then (some ((⟨#[]⟩:ByteArray),false)) else ((insolvencyref1_minus.f k t666 t669).bind fun t673=>((insolvencyref1_text.f k t673).bind fun t676=>(some (t676,true))))))=some (r1,r2):=H
 have A4:=Aside0.mk A40
 clear A40
 replace H:=Option.bind_eq_some_iff.mp H
 obtain ⟨t672,A50,H⟩:=H
 replace H:(if t672<0 then (some ((⟨#[]⟩:ByteArray),false)) else ((insolvencyref1_minus.f k t666 t669).bind fun t673=>((insolvencyref1_text.f k t673).bind fun t676=>(some (t676,true)))))=some (r1,r2):=H
 have A5:=Aside0.mk A50
 clear A50
 by_cases c6:t672<0
 ·rw [if_pos c6] at H
  have c6b0:decide (t672<0)=true:=decide_eq_true c6
  clear c6
  simp only [Option.some.injEq,Prod.mk.injEq] at H
  obtain ⟨rfl,rfl⟩:=H
  go_enter Tryd.func39,Tryd.ntmps39
  go_wp2_with (first|((with_reducible refine gate_callee (f:=45) rfl ?_);refine goesL_ (some 9) rfl rfl Tryd.func45 (by kernel_rfl) rfl #[.string a0] rfl (by (try simp only [List.map_toArray,List.map_cons,List.map_nil]);first|done|rfl|(simp only [List.length_drop,List.length_take];rfl)) ?_;(with_reducible refine (insolvencyref1_limbs.calls k a0 t666 _ A3.out).mono ?_);rintro e w7 ⟨v667,rfl,ho0,hb⟩;refine ⟨_,rfl,?_⟩;have n0_:=Aside0.mk (Kd.R_lower ho0 (below_size (by repeat (first|(with_reducible first|exact HB.out|apply below_alloc|apply pw_below_drewN|apply below_drew1)|exact HB.out))));have n1_:=Aside0.mk (below_step (by repeat (first|(with_reducible first|exact HB.out|apply below_alloc|apply pw_below_drewN|apply below_drew1)|exact HB.out)) hb);clear HB;have HO668:=n0_;have HB:=n1_;clear n0_ n1_;(try clear hb);(try clear hb2);(try clear hk);(try clear hi);(try clear ho0))|((with_reducible refine gate_callee (f:=45) rfl ?_);refine goesL_ (some 11) rfl rfl Tryd.func45 (by kernel_rfl) rfl #[.string a1] rfl (by (try simp only [List.map_toArray,List.map_cons,List.map_nil]);first|done|rfl|(simp only [List.length_drop,List.length_take];rfl)) ?_;(with_reducible refine (insolvencyref1_limbs.calls k a1 t669 _ A4.out).mono ?_);rintro e w8 ⟨v670,rfl,ho0,hb⟩;refine ⟨_,rfl,?_⟩;have n0_:=Aside0.mk (Kd.R_elder' (by (with_reducible repeat (first|apply Kd.R_alloc|apply Kd.R_drewN|apply Kd.R_drew));exact HO668.out) (Kd.R_base ho0) hb);have n1_:=Aside0.mk (Kd.R_lower (Kd.R_new' ho0 (Kd.R_lt (by (with_reducible repeat (first|apply Kd.R_alloc|apply Kd.R_drewN|apply Kd.R_drew));exact HO668.out))) (below_size (by repeat (first|(with_reducible first|exact HB.out|apply below_alloc|apply pw_below_drewN|apply below_drew1)|exact HB.out))));have n2_:=Aside0.mk (below_step (by repeat (first|(with_reducible first|exact HB.out|apply below_alloc|apply pw_below_drewN|apply below_drew1)|exact HB.out)) hb);clear HO668;clear HB;have HO668:=n0_;have HO671:=n1_;have HB:=n2_;clear n0_ n1_ n2_;(try clear hb);(try clear hb2);(try clear hk);(try clear hi);(try clear ho0);obtain ⟨Ao9,co9,eo9⟩:=Kd.R_slice HO668.out;subst eo9;obtain ⟨Ao10,co10,eo10⟩:=Kd.R_slice HO671.out;subst eo10)|((with_reducible refine gate_callee (f:=60) rfl ?_);refine goesL_ (some 14) rfl rfl Tryd.func60 (by kernel_rfl) rfl #[.slice Ao9 t666.length co9,.slice Ao10 t669.length co10] rfl (by (try simp only [List.map_toArray,List.map_cons,List.map_nil]);first|done|rfl|(simp only [List.length_drop,List.length_take];rfl)) ?_;(with_reducible refine (insolvencyref1_order.calls k _ _ t666 _ _ t669 t672 _ ?side1 ?side2 ?side3 ?side4 A5.out).mono ?_);(case side1=>repeat (first|exact (Kd.R_reads' HO668.out).2.2|(with_reducible refine Kd.C_alloc ?_ _)|(with_reducible refine Kd.C_drewN ?_ _)|(with_reducible refine Kd.C_drew ?_)));(case side2=>exact (Kd.R_reads' HO668.out).2.1);(case side3=>repeat (first|exact (Kd.R_reads' HO671.out).2.2|(with_reducible refine Kd.C_alloc ?_ _)|(with_reducible refine Kd.C_drewN ?_ _)|(with_reducible refine Kd.C_drew ?_)));(case side4=>exact (Kd.R_reads' HO671.out).2.1);rintro e w' ⟨rfl,⟨nd,rfl⟩⟩;refine ⟨_,rfl,?_⟩))
  go_ret2
  exact ⟨by first|rfl|(simp [errW_none,errW_some] <;> rfl)|(simp [*,errW_none,errW_some] <;> rfl),by repeat (first|(with_reducible first|exact HB.out|apply below_alloc|apply pw_below_drewN|apply below_drew1)|exact HB.out)⟩
 ·rw [if_neg c6] at H
  have c6b0:decide (t672<0)=false:=decide_eq_false c6
  clear c6
  replace H:=Option.bind_eq_some_iff.mp H
  obtain ⟨t673,A110,H⟩:=H
  replace H:((insolvencyref1_text.f k t673).bind fun t676=>(some (t676,true)))=some (r1,r2):=H
  have A11:=Aside0.mk A110
  clear A110
  replace H:=Option.bind_eq_some_iff.mp H
  obtain ⟨t676,A120,H⟩:=H
  replace H:(some (t676,true))=some (r1,r2):=H
  have A12:=Aside0.mk A120
  clear A120
  simp only [Option.some.injEq,Prod.mk.injEq] at H
  obtain ⟨rfl,rfl⟩:=H
  go_enter Tryd.func39,Tryd.ntmps39
  go_wp2_with (first|((with_reducible refine gate_callee (f:=45) rfl ?_);refine goesL_ (some 9) rfl rfl Tryd.func45 (by kernel_rfl) rfl #[.string a0] rfl (by (try simp only [List.map_toArray,List.map_cons,List.map_nil]);first|done|rfl|(simp only [List.length_drop,List.length_take];rfl)) ?_;(with_reducible refine (insolvencyref1_limbs.calls k a0 t666 _ A3.out).mono ?_);rintro e w13 ⟨v667,rfl,ho0,hb⟩;refine ⟨_,rfl,?_⟩;have n0_:=Aside0.mk (Kd.R_lower ho0 (below_size (by repeat (first|(with_reducible first|exact HB.out|apply below_alloc|apply pw_below_drewN|apply below_drew1)|exact HB.out))));have n1_:=Aside0.mk (below_step (by repeat (first|(with_reducible first|exact HB.out|apply below_alloc|apply pw_below_drewN|apply below_drew1)|exact HB.out)) hb);clear HB;have HO668:=n0_;have HB:=n1_;clear n0_ n1_;(try clear hb);(try clear hb2);(try clear hk);(try clear hi);(try clear ho0))|((with_reducible refine gate_callee (f:=45) rfl ?_);refine goesL_ (some 11) rfl rfl Tryd.func45 (by kernel_rfl) rfl #[.string a1] rfl (by (try simp only [List.map_toArray,List.map_cons,List.map_nil]);first|done|rfl|(simp only [List.length_drop,List.length_take];rfl)) ?_;(with_reducible refine (insolvencyref1_limbs.calls k a1 t669 _ A4.out).mono ?_);rintro e w14 ⟨v670,rfl,ho0,hb⟩;refine ⟨_,rfl,?_⟩;have n0_:=Aside0.mk (Kd.R_elder' (by (with_reducible repeat (first|apply Kd.R_alloc|apply Kd.R_drewN|apply Kd.R_drew));exact HO668.out) (Kd.R_base ho0) hb);have n1_:=Aside0.mk (Kd.R_lower (Kd.R_new' ho0 (Kd.R_lt (by (with_reducible repeat (first|apply Kd.R_alloc|apply Kd.R_drewN|apply Kd.R_drew));exact HO668.out))) (below_size (by repeat (first|(with_reducible first|exact HB.out|apply below_alloc|apply pw_below_drewN|apply below_drew1)|exact HB.out))));have n2_:=Aside0.mk (below_step (by repeat (first|(with_reducible first|exact HB.out|apply below_alloc|apply pw_below_drewN|apply below_drew1)|exact HB.out)) hb);clear HO668;clear HB;have HO668:=n0_;have HO671:=n1_;have HB:=n2_;clear n0_ n1_ n2_;(try clear hb);(try clear hb2);(try clear hk);(try clear hi);(try clear ho0);obtain ⟨Ao15,co15,eo15⟩:=Kd.R_slice HO668.out;subst eo15;obtain ⟨Ao16,co16,eo16⟩:=Kd.R_slice HO671.out;subst eo16)|((with_reducible refine gate_callee (f:=60) rfl ?_);refine goesL_ (some 14) rfl rfl Tryd.func60 (by kernel_rfl) rfl #[.slice Ao15 t666.length co15,.slice Ao16 t669.length co16] rfl (by (try simp only [List.map_toArray,List.map_cons,List.map_nil]);first|done|rfl|(simp only [List.length_drop,List.length_take];rfl)) ?_;(with_reducible refine (insolvencyref1_order.calls k _ _ t666 _ _ t669 t672 _ ?side1 ?side2 ?side3 ?side4 A5.out).mono ?_);(case side1=>repeat (first|exact (Kd.R_reads' HO668.out).2.2|(with_reducible refine Kd.C_alloc ?_ _)|(with_reducible refine Kd.C_drewN ?_ _)|(with_reducible refine Kd.C_drew ?_)));(case side2=>exact (Kd.R_reads' HO668.out).2.1);(case side3=>repeat (first|exact (Kd.R_reads' HO671.out).2.2|(with_reducible refine Kd.C_alloc ?_ _)|(with_reducible refine Kd.C_drewN ?_ _)|(with_reducible refine Kd.C_drew ?_)));(case side4=>exact (Kd.R_reads' HO671.out).2.1);rintro e w' ⟨rfl,⟨nd,rfl⟩⟩;refine ⟨_,rfl,?_⟩)|((with_reducible refine gate_callee (f:=64) rfl ?_);refine goesL_ (some 18) rfl rfl Tryd.func64 (by kernel_rfl) rfl #[.slice Ao15 t666.length co15,.slice Ao16 t669.length co16] rfl (by (try simp only [List.map_toArray,List.map_cons,List.map_nil]);first|done|rfl|(simp only [List.length_drop,List.length_take];rfl)) ?_;(with_reducible refine (insolvencyref1_minus.calls k _ _ t666 _ _ t669 t673 _ ?side1 ?side2 ?side3 ?side4 A11.out).mono ?_);(case side1=>repeat (first|exact (Kd.R_reads' HO668.out).2.2|(with_reducible refine Kd.C_alloc ?_ _)|(with_reducible refine Kd.C_drewN ?_ _)|(with_reducible refine Kd.C_drew ?_)));(case side2=>exact (Kd.R_reads' HO668.out).2.1);(case side3=>repeat (first|exact (Kd.R_reads' HO671.out).2.2|(with_reducible refine Kd.C_alloc ?_ _)|(with_reducible refine Kd.C_drewN ?_ _)|(with_reducible refine Kd.C_drew ?_)));(case side4=>exact (Kd.R_reads' HO671.out).2.1);rintro e w17 ⟨v674,rfl,ho0,hb⟩;refine ⟨_,rfl,?_⟩;have n0_:=Aside0.mk (Kd.R_elder' (by (with_reducible repeat (first|apply Kd.R_alloc|apply Kd.R_drewN|apply Kd.R_drew));exact HO668.out) (Kd.R_base ho0) hb);have n1_:=Aside0.mk (Kd.R_elder' (by (with_reducible repeat (first|apply Kd.R_alloc|apply Kd.R_drewN|apply Kd.R_drew));exact HO671.out) (Kd.R_base ho0) hb);have n2_:=Aside0.mk (Kd.R_lower (Kd.R_new' (Kd.R_new' ho0 (Kd.R_lt (by (with_reducible repeat (first|apply Kd.R_alloc|apply Kd.R_drewN|apply Kd.R_drew));exact HO668.out))) (Kd.R_lt (by (with_reducible repeat (first|apply Kd.R_alloc|apply Kd.R_drewN|apply Kd.R_drew));exact HO671.out))) (below_size (by repeat (first|(with_reducible first|exact HB.out|apply below_alloc|apply pw_below_drewN|apply below_drew1)|exact HB.out))));have n3_:=Aside0.mk (below_step (by repeat (first|(with_reducible first|exact HB.out|apply below_alloc|apply pw_below_drewN|apply below_drew1)|exact HB.out)) hb);clear HO668;clear HO671;clear HB;have HO668:=n0_;have HO671:=n1_;have HO675:=n2_;have HB:=n3_;clear n0_ n1_ n2_ n3_;(try clear hb);(try clear hb2);(try clear hk);(try clear hi);(try clear ho0);obtain ⟨Ao18,co18,eo18⟩:=Kd.R_slice HO675.out;subst eo18)|((with_reducible refine gate_callee (f:=47) rfl ?_);refine goesL_ (some 19) rfl rfl Tryd.func47 (by kernel_rfl) rfl #[.slice Ao18 t673.length co18] rfl (by (try simp only [List.map_toArray,List.map_cons,List.map_nil]);first|done|rfl|(simp only [List.length_drop,List.length_take];rfl)) ?_;(with_reducible refine (insolvencyref1_text.calls k (fun k_=>some k_=(.slice Ao18 t673.length co18:Value).ownBlock) (.slice Ao18 t673.length co18) t673 t676 w _ ?side1 ?side2 A12.out).mono ?_);(case side1=>repeat (first|(with_reducible first|exact HB.out|apply below_alloc|apply pw_below_drewN|apply below_drew1)|exact HB.out));(case side2=>exact Kd.R_tight rfl HO675.out);rintro e w19 ⟨rfl,hb,hkp⟩;refine ⟨_,rfl,?_⟩;have n0_:=Aside0.mk (Kd.R_mono (ok':=fun k_=>some k_≠(.slice Ao16 t669.length co16:Value).ownBlock) (Kd.R_keptB (HO668.out) hkp (fun k_ hk_ hs_=>(hk_.2) hs_)) (fun k_ hk_=>hk_.1.1.2));have n1_:=Aside0.mk (Kd.R_mono (ok':=fun k_=>some k_≠(.slice Ao15 t666.length co15:Value).ownBlock) (Kd.R_keptB (HO671.out) hkp (fun k_ hk_ hs_=>(hk_.2) hs_)) (fun k_ hk_=>hk_.1.1.2));have n2_:=Aside0.mk (hb);clear HO668;clear HO671;clear HB;clear HO675;have HO668:=n0_;have HO671:=n1_;have HB:=n2_;clear n0_ n1_ n2_;(try clear hb);(try clear hkp)))
  go_ret2
  exact ⟨by first|rfl|(simp [errW_none,errW_some] <;> rfl)|(simp [*,errW_none,errW_some] <;> rfl),by repeat (first|(with_reducible first|exact HB.out|apply below_alloc|apply pw_below_drewN|apply below_drew1)|exact HB.out)⟩
end Go.Proofs.YtjaflmhdclmolaaDoor.F
end
section
namespace Go.Proofs.YtjaflmhdclmolaaDoor.F
open Go.RowKit Go.Proofs.YtjaflmhdclmolaaDoorW.PrintWords Go.Proofs.YtjaflmhdclmolaaDoorW.PrintLast Go.Proofs.YtjaflmhdclmolaaDoorW.PrintMore
attribute [local go_sem] max2_int min2_int max_two min_two max_three min_three max_four min_four   
set_option linter.unusedVariables false
set_option linter.unusedSimpArgs false
mutual
def insolvencyref1_times.l0:Nat→List Int→List Int→List Int→Int→Option (List Int)
 | 0,_,_,_,_=>none
 | k+1,x0,x1,x5,x6=>if x6<(x0.length:Int) then (insolvencyref1_times.l1 k x0 x1 x5 x6 0 0) else ((insolvencyref1_strip.f k x5).bind fun t582=>(some t582))
def insolvencyref1_times.l1:Nat→List Int→List Int→List Int→Int→Int→Int→Option (List Int)
 | 0,_,_,_,_,_,_=>none
 | k+1,x0,x1,x5,x6,x7,x8=>if x8<(x1.length:Int) then (if 0≤x6 then (if x6<(x0.length:Int) then (if 0≤x8 then (if 0≤(wrap64 (x6+x8)) then (if (wrap64 (x6+x8))<(x5.length:Int) then (insolvencyref1_times.l1 k x0 x1 (x5.set ((wrap64 (x6+x8)):Int).toNat ((IntKind.u64.wrap ((IntKind.u64.wrap (x7+(IntKind.u64.wrap ((IntKind.u64.wrap (rd x0 x6))*(IntKind.u64.wrap (rd x1 x8))))))+(IntKind.u64.wrap (rd x5 (wrap64 (x6+x8))))))%4294967296)) x6 ((IntKind.u64.wrap ((IntKind.u64.wrap (x7+(IntKind.u64.wrap ((IntKind.u64.wrap (rd x0 x6))*(IntKind.u64.wrap (rd x1 x8))))))+(IntKind.u64.wrap (rd x5 (wrap64 (x6+x8))))))/4294967296) (wrap64 (x8+1))) else (none)) else (none)) else (none)) else (none)) else (none)) else (if 0≤(wrap64 (x6+(x1.length:Int))) then (if (wrap64 (x6+(x1.length:Int)))<(x5.length:Int) then (insolvencyref1_times.l0 k x0 x1 (x5.set ((wrap64 (x6+(x1.length:Int))):Int).toNat ((x7)%4294967296)) (wrap64 (x6+1))) else (none)) else (none))
end
def insolvencyref1_times.f (k:Nat) (l0:List Int) (l1:List Int):Option (List Int):=if 0≤(wrap64 ((l0.length:Int)+(l1.length:Int))) then (if (wrap64 ((l0.length:Int)+(l1.length:Int)):Int).toNat≤70368744177664 then (insolvencyref1_times.l0 k l0 l1 (List.replicate (wrap64 ((l0.length:Int)+(l1.length:Int)):Int).toNat 0) 0) else (none)) else (none)
theorem insolvencyref1_times.mono_l:∀ k,(∀ y0 y1 y2 y3,LeO (insolvencyref1_times.l0 k y0 y1 y2 y3) (insolvencyref1_times.l0 (k+1) y0 y1 y2 y3))∧(∀ y0 y1 y2 y3 y4 y5,LeO (insolvencyref1_times.l1 k y0 y1 y2 y3 y4 y5) (insolvencyref1_times.l1 (k+1) y0 y1 y2 y3 y4 y5))
 | 0=>⟨fun _ _ _ _ r h=>by simp [insolvencyref1_times.l0] at h,fun _ _ _ _ _ _ r h=>by simp [insolvencyref1_times.l1] at h⟩
 | k+1=>by
  obtain ⟨ih0,ih1⟩:=insolvencyref1_times.mono_l k
  refine ⟨?_,?_⟩
  ·intro y0 y1 y2 y3
   unfold insolvencyref1_times.l0
   repeat' first
   | (with_reducible exact ih0 _ _ _ _)
   | (with_reducible exact ih1 _ _ _ _ _ _)
   | (with_reducible exact insolvencyref1_strip.mono _ _)
   | (with_reducible exact LeO.refl _)
   | (with_reducible exact LeO.none _)
   | (with_reducible refine LeO.ite ?_ ?_)
   | (with_reducible refine LeO.bind ?_ (fun _=>?_))
   | exact ih0 _ _ _ _
   | exact ih1 _ _ _ _ _ _
   | exact insolvencyref1_strip.mono _ _
   | exact LeO.none _
   | refine LeO.ite ?_ ?_
   | refine LeO.bind ?_ (fun _=>?_)
  ·intro y0 y1 y2 y3 y4 y5
   unfold insolvencyref1_times.l1
   repeat' first
   | (with_reducible exact ih0 _ _ _ _)
   | (with_reducible exact ih1 _ _ _ _ _ _)
   | (with_reducible exact insolvencyref1_strip.mono _ _)
   | (with_reducible exact LeO.refl _)
   | (with_reducible exact LeO.none _)
   | (with_reducible refine LeO.ite ?_ ?_)
   | (with_reducible refine LeO.bind ?_ (fun _=>?_))
   | exact ih0 _ _ _ _
   | exact ih1 _ _ _ _ _ _
   | exact insolvencyref1_strip.mono _ _
   | exact LeO.none _
   | refine LeO.ite ?_ ?_
   | refine LeO.bind ?_ (fun _=>?_)
theorem insolvencyref1_times.mono:∀ a0 a1 k,LeO (insolvencyref1_times.f k a0 a1) (insolvencyref1_times.f (k+1) a0 a1):=by
 intro a0 a1 k
 obtain ⟨ih0,ih1⟩:=insolvencyref1_times.mono_l k
 unfold insolvencyref1_times.f
 repeat' first
  | (with_reducible exact ih0 _ _ _ _)
  | (with_reducible exact ih1 _ _ _ _ _ _)
  | (with_reducible exact insolvencyref1_strip.mono _ _)
  | (with_reducible exact LeO.refl _)
  | (with_reducible exact LeO.none _)
  | (with_reducible refine LeO.ite ?_ ?_)
  | (with_reducible refine LeO.bind ?_ (fun _=>?_))
  | exact ih0 _ _ _ _
  | exact ih1 _ _ _ _ _ _
  | exact insolvencyref1_strip.mono _ _
  | exact LeO.none _
  | refine LeO.ite ?_ ?_
  | refine LeO.bind ?_ (fun _=>?_)
set_option maxHeartbeats 8000000 in
set_option maxRecDepth 100000 in
theorem insolvencyref1_times.calls (k:Nat) (A0:Option Addr) (c0:Nat) (l0:List Int) (A1:Option Addr) (c1:Nat) (l1:List Int) (r:List Int) (w:World) (hr0:Kd.C (Kd.int .u32) w A0 l0.length l0) (hc0:l0.length≤c0) (hr1:Kd.C (Kd.int .u32) w A1 l1.length l1) (hc1:l1.length≤c1) (h:insolvencyref1_times.f k l0 l1=some r) :
 Calls Tryd.prog 61 #[.slice A0 l0.length c0,.slice A1 l1.length c1] w fun e w'=>∃ v0_:Value,e = .returned (v0_)∧Kd.R (Kd.int .u32) 60 w' w.heap.size (fun _=>True) v0_ r∧Below w.heap.size w w':=by
 have HR0:=Aside0.mk hr0
 have HC0:=Aside0.mk hc0
 clear hr0 hc0
 have HR1:=Aside0.mk hr1
 have HC1:=Aside0.mk hc1
 clear hr1 hc1
 have HB:=Aside0.mk (Below.refl w.heap.size w)
 have H:(if 0≤(wrap64 ((l0.length:Int)+(l1.length:Int))) then (if (wrap64 ((l0.length:Int)+(l1.length:Int)):Int).toNat≤70368744177664 then (insolvencyref1_times.l0 k l0 l1 (List.replicate (wrap64 ((l0.length:Int)+(l1.length:Int)):Int).toNat 0) 0) else (none)) else (none))=some r:=h
 clear h
 obtain ⟨ji3,hji3⟩:∃ j_:Int,(wrap64 ((l0.length:Int)+(l1.length:Int)))=j_:=⟨_,rfl⟩
 replace H:(if 0≤(ji3) then (if (ji3:Int).toNat≤70368744177664 then (insolvencyref1_times.l0 k l0 l1 (List.replicate (ji3:Int).toNat 0) 0) else (none)) else (none))=some r:=by first|(rw [hji3] at H;exact H)|(simp only [hji3] at H ⊢;exact H)
 have hji3w:(IntKind.i64.wrap ((l0.length:Int)+(l1.length:Int)))=ji3:=(i64_w _).trans hji3
 by_cases c4:0≤(ji3)
 ·rw [if_pos c4] at H
  have c4b0:=eq_true c4
  have c4b1:decide (0≤(ji3))=true:=decide_eq_true c4
  clear c4
  by_cases c5:(ji3:Int).toNat≤70368744177664
  ·rw [if_pos c5] at H
   have c5b0:=eq_true c5
   have c5b1:decide ((ji3:Int).toNat≤70368744177664)=true:=decide_eq_true c5
   clear c5
   obtain ⟨y579,hy579⟩:∃ y_:List Int,y_=(List.replicate (ji3:Int).toNat 0):=⟨_,rfl⟩
   replace H:(insolvencyref1_times.l0 k l0 l1 y579 0)=some r:=by first|(rw [hy579];with_reducible exact H)|(have H2_:=(Option.bind_some _ _).symm.trans H;rw [hy579];with_reducible exact H2_)|(have H2_:=(Option.bind_some _ _).symm.trans H;with_reducible exact H2_)|with_reducible exact H|(rw [hy579];exact H)|exact H
   have Ny579:=Aside0.mk hy579
   clear hy579
   have H':=Aside0.mk H
   clear H
   go_enter Tryd.func61,Tryd.ntmps61
   go_wp2_with (first|((with_reducible refine gate_dst (N:=14) rfl ?_);refine Kd.R_make (Kd.int .u32) _ 60 rfl (N:=14) rfl 49 _ _ rfl ji3 rfl rfl Tryd.underlying49 (.int .u32 0) 4 info60 rfl (by decide) (by omega) 0 (ok:=fun _=>True) (okp:=fun _=>True) rfl (fun _ hk=>hk) trivial (of_decide_eq_true (by first|(with_reducible assumption)|assumption)) (Nat.le_trans (Nat.mul_le_mul_right _ (of_decide_eq_true (by first|(with_reducible assumption)|assumption):ji3.toNat≤70368744177664)) (by omega)) (Below.refl _ _) (Nat.le_refl _) ?_;intro v580 w6 ho7 hb hg_ hnew_;clear hg_ hnew_;(first|rw [← Ny579.out] at ho7|(simp only [Int.reduceToNat] at ho7;rw [← Ny579.out] at ho7));have n0_:=Aside0.mk (Kd.R_lower ho7 (below_size (by repeat (first|(with_reducible first|exact HB.out|apply below_alloc|apply pw_below_drewN|apply below_drew1)|exact HB.out))));have n1_:=Aside0.mk (below_step (by repeat (first|(with_reducible first|exact HB.out|apply below_alloc|apply pw_below_drewN|apply below_drew1)|exact HB.out)) hb);clear HB;have HO581:=n0_;have HB:=n1_;clear n0_ n1_;clear hb ho7))
   repeat (go_quiet (first|((with_reducible refine gate_dst (N:=14) rfl ?_);refine Kd.R_make (Kd.int .u32) _ 60 rfl (N:=14) rfl 49 _ _ rfl ji3 rfl rfl Tryd.underlying49 (.int .u32 0) 4 info60 rfl (by decide) (by omega) 0 (ok:=fun _=>True) (okp:=fun _=>True) rfl (fun _ hk=>hk) trivial (of_decide_eq_true (by first|(with_reducible assumption)|assumption)) (Nat.le_trans (Nat.mul_le_mul_right _ (of_decide_eq_true (by first|(with_reducible assumption)|assumption):ji3.toNat≤70368744177664)) (by omega)) (Below.refl _ _) (Nat.le_refl _) ?_;intro v580 w6 ho7 hb hg_ hnew_;clear hg_ hnew_;(first|rw [← Ny579.out] at ho7|(simp only [Int.reduceToNat] at ho7;rw [← Ny579.out] at ho7));have n0_:=Aside0.mk (Kd.R_lower ho7 (below_size (by repeat (first|(with_reducible first|exact HB.out|apply below_alloc|apply pw_below_drewN|apply below_drew1)|exact HB.out))));have n1_:=Aside0.mk (below_step (by repeat (first|(with_reducible first|exact HB.out|apply below_alloc|apply pw_below_drewN|apply below_drew1)|exact HB.out)) hb);clear HB;have HO581:=n0_;have HB:=n1_;clear n0_ n1_;clear hb ho7));try go_wp2_with (first|((with_reducible refine gate_dst (N:=14) rfl ?_);refine Kd.R_make (Kd.int .u32) _ 60 rfl (N:=14) rfl 49 _ _ rfl ji3 rfl rfl Tryd.underlying49 (.int .u32 0) 4 info60 rfl (by decide) (by omega) 0 (ok:=fun _=>True) (okp:=fun _=>True) rfl (fun _ hk=>hk) trivial (of_decide_eq_true (by first|(with_reducible assumption)|assumption)) (Nat.le_trans (Nat.mul_le_mul_right _ (of_decide_eq_true (by first|(with_reducible assumption)|assumption):ji3.toNat≤70368744177664)) (by omega)) (Below.refl _ _) (Nat.le_refl _) ?_;intro v580 w6 ho7 hb hg_ hnew_;clear hg_ hnew_;(first|rw [← Ny579.out] at ho7|(simp only [Int.reduceToNat] at ho7;rw [← Ny579.out] at ho7));have n0_:=Aside0.mk (Kd.R_lower ho7 (below_size (by repeat (first|(with_reducible first|exact HB.out|apply below_alloc|apply pw_below_drewN|apply below_drew1)|exact HB.out))));have n1_:=Aside0.mk (below_step (by repeat (first|(with_reducible first|exact HB.out|apply below_alloc|apply pw_below_drewN|apply below_drew1)|exact HB.out)) hb);clear HB;have HO581:=n0_;have HB:=n1_;clear n0_ n1_;clear hb ho7)))
   go_loopg [6] k (fun kq v6 w'=>∃ (x5_1:List Int) (x6_1:Int),v6 = .int .i64 x6_1∧Aside0 (insolvencyref1_times.l0 kq l0 l1 x5_1 x6_1=some r)∧Aside0 (kq≤k)∧Aside0 (Kd.R (Kd.int .u32) 60 w' w.heap.size (fun _=>True) v580 x5_1)∧Aside0 (Below w.heap.size w w'))
   case atStart=>exact ⟨(y579),(0),(by first|rfl|(simp;done)|(simp [*];done)),H',⟨Nat.le_refl _⟩,⟨by (with_reducible repeat (first|apply Kd.R_alloc|apply Kd.R_drewN|apply Kd.R_drew));exact HO581.out⟩,⟨by repeat (first|(with_reducible first|exact HB.out|apply below_alloc|apply pw_below_drewN|apply below_drew1)|exact HB.out)⟩⟩
   case round=>
    clear H'
    try clear c1
    try clear p2
    try clear c4
    try clear c4b0
    try clear c4b1
    try clear c5
    try clear c5b0
    try clear c5b1
    try clear c6
    try clear p6
    obtain ⟨x5_1,x6_1,rfl,HA,HK1,HO_5,HB⟩:=hrel
    cases gk with
    | zero=>exact absurd HA.out (by simp [insolvencyref1_times.l0])
    | succ k1=>
     have H:=HA.out
     clear HA
     simp only [insolvencyref1_times.l0] at H
     by_cases c8:x6_1<(l0.length:Int)
     ·rw [if_pos c8] at H
      have c8b0:decide (x6_1<(l0.length:Int))=true:=decide_eq_true c8
      clear c8
      have H':=Aside0.mk H
      clear H
      go_wp2
      repeat (go_quiet (fail);try go_wp2)
      go_loopg [7,8] k1 (fun kq v7 v8 w'=>∃ (x5_2:List Int) (x7_2:Int) (x8_2:Int),v7 = .int .u64 x7_2∧v8 = .int .i64 x8_2∧Aside0 (insolvencyref1_times.l1 kq l0 l1 x5_2 x6_1 x7_2 x8_2=some r)∧Aside0 (kq≤k1)∧Aside0 (Kd.R (Kd.int .u32) 60 w' w.heap.size (fun _=>True) v580 x5_2)∧Aside0 (Below w.heap.size w w'))
      case atStart=>exact ⟨(x5_1),(0),(0),(by first|rfl|(simp;done)|(simp [*];done)),(by first|rfl|(simp;done)|(simp [*];done)),H',⟨Nat.le_refl _⟩,⟨by (with_reducible repeat (first|apply Kd.R_alloc|apply Kd.R_drewN|apply Kd.R_drew));exact HO_5.out⟩,⟨by repeat (first|(with_reducible first|exact HB.out|apply below_alloc|apply pw_below_drewN|apply below_drew1)|exact HB.out)⟩⟩
      case round=>
       clear H'
       try clear c1
       try clear p2
       try clear c4
       try clear c4b0
       try clear c4b1
       try clear c5
       try clear c5b0
       try clear c5b1
       try clear c6
       try clear p6
       try clear c8
       try clear c8b0
       try clear p2
       try clear p6
       obtain ⟨x5_2,x7_2,x8_2,rfl,rfl,HA,HK2,HO_5,HB⟩:=hrel
       cases gk with
       | zero=>exact absurd HA.out (by simp [insolvencyref1_times.l1])
       | succ k2=>
        have H:=HA.out
        clear HA
        simp only [insolvencyref1_times.l1] at H
        by_cases c9:x8_2<(l1.length:Int)
        ·rw [if_pos c9] at H
         have c9b0:decide (x8_2<(l1.length:Int))=true:=decide_eq_true c9
         clear c9
         by_cases c10:0≤x6_1
         ·rw [if_pos c10] at H
          have c10b0:decide (0≤x6_1)=true:=decide_eq_true c10
          clear c10
          by_cases c11:x6_1<(l0.length:Int)
          ·rw [if_pos c11] at H
           have c11b0:decide (x6_1<(l0.length:Int))=true:=decide_eq_true c11
           clear c11
           by_cases c12:0≤x8_2
           ·rw [if_pos c12] at H
            have c12b0:decide (0≤x8_2)=true:=decide_eq_true c12
            clear c12
            obtain ⟨ji13,hji13⟩:∃ j_:Int,(wrap64 (x6_1+x8_2))=j_:=⟨_,rfl⟩
            replace H:(if 0≤(ji13) then (if (ji13)<(x5_2.length:Int) then (insolvencyref1_times.l1 k2 l0 l1 (x5_2.set ((ji13):Int).toNat ((IntKind.u64.wrap ((IntKind.u64.wrap (x7_2+(IntKind.u64.wrap ((IntKind.u64.wrap (rd l0 x6_1))*(IntKind.u64.wrap (rd l1 x8_2))))))+(IntKind.u64.wrap (rd x5_2 (ji13)))))%4294967296)) x6_1 ((IntKind.u64.wrap ((IntKind.u64.wrap (x7_2+(IntKind.u64.wrap ((IntKind.u64.wrap (rd l0 x6_1))*(IntKind.u64.wrap (rd l1 x8_2))))))+(IntKind.u64.wrap (rd x5_2 (ji13)))))/4294967296) (wrap64 (x8_2+1))) else (none)) else (none))=some r:=by first|(rw [hji13] at H;exact H)|(simp only [hji13] at H ⊢;exact H)
            have hji13w:(IntKind.i64.wrap (x6_1+x8_2))=ji13:=(i64_w _).trans hji13
            by_cases c14:0≤(ji13)
            ·rw [if_pos c14] at H
             have c14b0:decide (0≤(ji13))=true:=decide_eq_true c14
             clear c14
             by_cases c15:(ji13)<(x5_2.length:Int)
             ·rw [if_pos c15] at H
              have c15b0:decide ((ji13)<(x5_2.length:Int))=true:=decide_eq_true c15
              clear c15
              obtain ⟨y588,hy588⟩:∃ y_:List Int,y_=(x5_2.set ((ji13):Int).toNat ((IntKind.u64.wrap ((IntKind.u64.wrap (x7_2+(IntKind.u64.wrap ((IntKind.u64.wrap (rd l0 x6_1))*(IntKind.u64.wrap (rd l1 x8_2))))))+(IntKind.u64.wrap (rd x5_2 (ji13)))))%4294967296)):=⟨_,rfl⟩
              replace H:(insolvencyref1_times.l1 k2 l0 l1 y588 x6_1 ((IntKind.u64.wrap ((IntKind.u64.wrap (x7_2+(IntKind.u64.wrap ((IntKind.u64.wrap (rd l0 x6_1))*(IntKind.u64.wrap (rd l1 x8_2))))))+(IntKind.u64.wrap (rd x5_2 (ji13)))))/4294967296) (wrap64 (x8_2+1)))=some r:=by first|(rw [hy588];with_reducible exact H)|(have H2_:=(Option.bind_some _ _).symm.trans H;rw [hy588];with_reducible exact H2_)|(have H2_:=(Option.bind_some _ _).symm.trans H;with_reducible exact H2_)|with_reducible exact H|(rw [hy588];exact H)|exact H
              have Ny588:=Aside0.mk hy588
              clear hy588
              have H':=Aside0.mk H
              clear H
              have p585:0≤(x6_1:Int):=of_decide_eq_true (by first|(with_reducible assumption)|assumption)
              have q585:x6_1<(l0.length:Int):=of_decide_eq_true (by first|(with_reducible assumption)|assumption)
              obtain ⟨ad585,e585,hx585_0⟩:=Kd.at_int HR0.out x6_1 p585 q585
              cases e585
              replace hx585_0:=(HB.out.cell (World.block_lt_of_cell? w _ hx585_0)).trans hx585_0
              replace p585:=eq_true p585
              replace q585:=eq_true q585
              have p586:0≤(x8_2:Int):=of_decide_eq_true (by first|(with_reducible assumption)|assumption)
              have q586:x8_2<(l1.length:Int):=of_decide_eq_true (by first|(with_reducible assumption)|assumption)
              obtain ⟨ad586,e586,hx586_0⟩:=Kd.at_int HR1.out x8_2 p586 q586
              cases e586
              replace hx586_0:=(HB.out.cell (World.block_lt_of_cell? w _ hx586_0)).trans hx586_0
              replace p586:=eq_true p586
              replace q586:=eq_true q586
              obtain ⟨Ao17,co17,eo17⟩:=Kd.R_slice HO_5.out
              subst eo17
              have p587:0≤((ji13):Int):=of_decide_eq_true (by first|(with_reducible assumption)|assumption)
              have q587:(ji13)<(x5_2.length:Int):=of_decide_eq_true (by first|(with_reducible assumption)|assumption)
              obtain ⟨ad587,e587,hx587_0⟩:=Kd.at_int (Kd.R_reads' HO_5.out).2.2 (ji13) p587 q587
              cases e587
              replace p587:=eq_true p587
              replace q587:=eq_true q587
              have p16:0≤((ji13):Int):=of_decide_eq_true (by first|(with_reducible assumption)|assumption)
              have q16:((ji13):Int)<((x5_2.length:Int):Int):=of_decide_eq_true (by first|(with_reducible assumption)|assumption)
              obtain ⟨go16,co16,eo16,gb16,gl16,cl16,HG16⟩:=Kd.R_form HO_5.out (by omega)
              (first|cases eo16|(injection eo16 with ea_ en_ ec_;(first|subst ea_|(injection ea_ with ea_;subst ea_));subst ec_;clear en_))
              have GB16:=Aside0.mk gb16
              have GG16:=Aside0.mk HG16
              clear gb16 gl16 HG16
              (first|simp only [add_plain] at hx587_0|skip)
              obtain ⟨hx16_0,hf16_0⟩:=Kd.R_celln 0 HO_5.out ((ji13):Int) p16 q16
              replace p16:=eq_true p16
              replace q16:=eq_true q16
              have HP18:=Kd.R_putg HO_5.out ((ji13):Int) ((IntKind.u64.wrap ((IntKind.u64.wrap (x7_2+(IntKind.u64.wrap ((IntKind.u64.wrap (rd l0 x6_1))*(IntKind.u64.wrap (rd l1 x8_2))))))+(IntKind.u64.wrap (rd x5_2 (ji13)))))%4294967296)
              go_wp2_with (first|((with_reducible refine gate_store (t:=60) (p:=54) rfl ?_);(try (rw [drewN_self wr];generalize hq_:World.drewN wr _=wr;have n0_:=Aside0.mk (Kd.R_at hq_ HO_5.out);have n1_:=Aside0.mk (below_at hq_ HB.out);clear hq_ HO_5 HB;have HO_5:=n0_;have HB:=n1_;clear n0_ n1_;(try (obtain ⟨hyZ_,hzZ_⟩:=Kd.R_celln 0 HO_5.out ((ji13):Int) (of_decide_eq_true (by first|(with_reducible assumption)|assumption)) (of_decide_eq_true (by first|(with_reducible assumption)|assumption))));(try (have HP18:=Kd.R_putg HO_5.out ((ji13):Int) ((IntKind.u64.wrap ((IntKind.u64.wrap (x7_2+(IntKind.u64.wrap ((IntKind.u64.wrap (rd l0 x6_1))*(IntKind.u64.wrap (rd l1 x8_2))))))+(IntKind.u64.wrap (rd x5_2 (ji13)))))%4294967296)))));refine store_event (t:=60) (p:=54) (v:=?vo_w19) (w1:=(wr.setCell ⟨go16,((ji13):Int).toNat,none⟩ (.int .u32 ((IntKind.u64.wrap ((IntKind.u64.wrap (x7_2+(IntKind.u64.wrap ((IntKind.u64.wrap (rd l0 x6_1))*(IntKind.u64.wrap (rd l1 x8_2))))))+(IntKind.u64.wrap (rd x5_2 (ji13)))))%4294967296)))) ?hg ?ho ?hn ?hr ?_;(case ho=>rfl);(case hg=>rfl);(case hn=>rfl);(case hr=>first|(go_simp;done)|(go_simp;rfl));intro w19 hw;have hg:wr.grownBy w19 (some go16):=(by rw [hw];exact HP18.2);have hp_:Kd.R (Kd.int .u32) 60 w19 w.heap.size (fun _=>True) (.slice (some ⟨go16,0,none⟩) x5_2.length co17) y588:=(by rw [hw,Ny588.out];exact HP18.1);clear HP18;have n0_:=Aside0.mk (hp_);have n1_:=Aside0.mk ((by rw [hw];exact below_set (HB.out) GB16.out:Below w.heap.size w w19));clear HO_5;clear HB;have HO_5:=n0_;have HB:=n1_;clear n0_ n1_;clear hg hw hp_))
              repeat (go_quiet (first|((with_reducible refine gate_store (t:=60) (p:=54) rfl ?_);(try (rw [drewN_self wr];generalize hq_:World.drewN wr _=wr;have n0_:=Aside0.mk (Kd.R_at hq_ HO_5.out);have n1_:=Aside0.mk (below_at hq_ HB.out);clear hq_ HO_5 HB;have HO_5:=n0_;have HB:=n1_;clear n0_ n1_;(try (obtain ⟨hyZ_,hzZ_⟩:=Kd.R_celln 0 HO_5.out ((ji13):Int) (of_decide_eq_true (by first|(with_reducible assumption)|assumption)) (of_decide_eq_true (by first|(with_reducible assumption)|assumption))));(try (have HP18:=Kd.R_putg HO_5.out ((ji13):Int) ((IntKind.u64.wrap ((IntKind.u64.wrap (x7_2+(IntKind.u64.wrap ((IntKind.u64.wrap (rd l0 x6_1))*(IntKind.u64.wrap (rd l1 x8_2))))))+(IntKind.u64.wrap (rd x5_2 (ji13)))))%4294967296)))));refine store_event (t:=60) (p:=54) (v:=?vo_w19) (w1:=(wr.setCell ⟨go16,((ji13):Int).toNat,none⟩ (.int .u32 ((IntKind.u64.wrap ((IntKind.u64.wrap (x7_2+(IntKind.u64.wrap ((IntKind.u64.wrap (rd l0 x6_1))*(IntKind.u64.wrap (rd l1 x8_2))))))+(IntKind.u64.wrap (rd x5_2 (ji13)))))%4294967296)))) ?hg ?ho ?hn ?hr ?_;(case ho=>rfl);(case hg=>rfl);(case hn=>rfl);(case hr=>first|(go_simp;done)|(go_simp;rfl));intro w19 hw;have hg:wr.grownBy w19 (some go16):=(by rw [hw];exact HP18.2);have hp_:Kd.R (Kd.int .u32) 60 w19 w.heap.size (fun _=>True) (.slice (some ⟨go16,0,none⟩) x5_2.length co17) y588:=(by rw [hw,Ny588.out];exact HP18.1);clear HP18;have n0_:=Aside0.mk (hp_);have n1_:=Aside0.mk ((by rw [hw];exact below_set (HB.out) GB16.out:Below w.heap.size w w19));clear HO_5;clear HB;have HO_5:=n0_;have HB:=n1_;clear n0_ n1_;clear hg hw hp_));try go_wp2_with (first|((with_reducible refine gate_store (t:=60) (p:=54) rfl ?_);(try (rw [drewN_self wr];generalize hq_:World.drewN wr _=wr;have n0_:=Aside0.mk (Kd.R_at hq_ HO_5.out);have n1_:=Aside0.mk (below_at hq_ HB.out);clear hq_ HO_5 HB;have HO_5:=n0_;have HB:=n1_;clear n0_ n1_;(try (obtain ⟨hyZ_,hzZ_⟩:=Kd.R_celln 0 HO_5.out ((ji13):Int) (of_decide_eq_true (by first|(with_reducible assumption)|assumption)) (of_decide_eq_true (by first|(with_reducible assumption)|assumption))));(try (have HP18:=Kd.R_putg HO_5.out ((ji13):Int) ((IntKind.u64.wrap ((IntKind.u64.wrap (x7_2+(IntKind.u64.wrap ((IntKind.u64.wrap (rd l0 x6_1))*(IntKind.u64.wrap (rd l1 x8_2))))))+(IntKind.u64.wrap (rd x5_2 (ji13)))))%4294967296)))));refine store_event (t:=60) (p:=54) (v:=?vo_w19) (w1:=(wr.setCell ⟨go16,((ji13):Int).toNat,none⟩ (.int .u32 ((IntKind.u64.wrap ((IntKind.u64.wrap (x7_2+(IntKind.u64.wrap ((IntKind.u64.wrap (rd l0 x6_1))*(IntKind.u64.wrap (rd l1 x8_2))))))+(IntKind.u64.wrap (rd x5_2 (ji13)))))%4294967296)))) ?hg ?ho ?hn ?hr ?_;(case ho=>rfl);(case hg=>rfl);(case hn=>rfl);(case hr=>first|(go_simp;done)|(go_simp;rfl));intro w19 hw;have hg:wr.grownBy w19 (some go16):=(by rw [hw];exact HP18.2);have hp_:Kd.R (Kd.int .u32) 60 w19 w.heap.size (fun _=>True) (.slice (some ⟨go16,0,none⟩) x5_2.length co17) y588:=(by rw [hw,Ny588.out];exact HP18.1);clear HP18;have n0_:=Aside0.mk (hp_);have n1_:=Aside0.mk ((by rw [hw];exact below_set (HB.out) GB16.out:Below w.heap.size w w19));clear HO_5;clear HB;have HO_5:=n0_;have HB:=n1_;clear n0_ n1_;clear hg hw hp_)))
              go_roundg k2
              case measure=>have:=HK1.out;have:=HK2.out;omega
              case rel=>exact ⟨(y588),((IntKind.u64.wrap ((IntKind.u64.wrap (x7_2+(IntKind.u64.wrap ((IntKind.u64.wrap (rd l0 x6_1))*(IntKind.u64.wrap (rd l1 x8_2))))))+(IntKind.u64.wrap (rd x5_2 (ji13)))))/4294967296),(wrap64 (x8_2+1)),(by first|rfl|(simp;done)|(simp only [← hji13] <;> (first|rfl|simp))|(simp [*];done)),(by first|rfl|(simp;done)|(simp [*];done)),H',⟨by have:=HK1.out;have:=HK2.out;omega⟩,⟨by (with_reducible repeat (first|apply Kd.R_alloc|apply Kd.R_drewN|apply Kd.R_drew));exact HO_5.out⟩,⟨by repeat (first|(with_reducible first|exact HB.out|apply below_alloc|apply pw_below_drewN|apply below_drew1)|exact HB.out)⟩⟩
             ·rw [if_neg c15] at H
              exact absurd H (by simp)
            ·rw [if_neg c14] at H
             exact absurd H (by simp)
           ·rw [if_neg c12] at H
            exact absurd H (by simp)
          ·rw [if_neg c11] at H
           exact absurd H (by simp)
         ·rw [if_neg c10] at H
          exact absurd H (by simp)
        ·rw [if_neg c9] at H
         have c9b0:decide (x8_2<(l1.length:Int))=false:=decide_eq_false c9
         clear c9
         obtain ⟨ji20,hji20⟩:∃ j_:Int,(wrap64 (x6_1+(l1.length:Int)))=j_:=⟨_,rfl⟩
         replace H:(if 0≤(ji20) then (if (ji20)<(x5_2.length:Int) then (insolvencyref1_times.l0 k2 l0 l1 (x5_2.set ((ji20):Int).toNat ((x7_2)%4294967296)) (wrap64 (x6_1+1))) else (none)) else (none))=some r:=by first|(rw [hji20] at H;exact H)|(simp only [hji20] at H ⊢;exact H)
         have hji20w:(IntKind.i64.wrap (x6_1+(l1.length:Int)))=ji20:=(i64_w _).trans hji20
         by_cases c21:0≤(ji20)
         ·rw [if_pos c21] at H
          have c21b0:decide (0≤(ji20))=true:=decide_eq_true c21
          clear c21
          by_cases c22:(ji20)<(x5_2.length:Int)
          ·rw [if_pos c22] at H
           have c22b0:decide ((ji20)<(x5_2.length:Int))=true:=decide_eq_true c22
           clear c22
           obtain ⟨y589,hy589⟩:∃ y_:List Int,y_=(x5_2.set ((ji20):Int).toNat ((x7_2)%4294967296)):=⟨_,rfl⟩
           replace H:(insolvencyref1_times.l0 k2 l0 l1 y589 (wrap64 (x6_1+1)))=some r:=by first|(rw [hy589];with_reducible exact H)|(have H2_:=(Option.bind_some _ _).symm.trans H;rw [hy589];with_reducible exact H2_)|(have H2_:=(Option.bind_some _ _).symm.trans H;with_reducible exact H2_)|with_reducible exact H|(rw [hy589];exact H)|exact H
           have Ny589:=Aside0.mk hy589
           clear hy589
           have H':=Aside0.mk H
           clear H
           have p23:0≤((ji20):Int):=of_decide_eq_true (by first|(with_reducible assumption)|assumption)
           have q23:((ji20):Int)<((x5_2.length:Int):Int):=of_decide_eq_true (by first|(with_reducible assumption)|assumption)
           obtain ⟨go23,co23,eo23,gb23,gl23,cl23,HG23⟩:=Kd.R_form HO_5.out (by omega)
           (first|cases eo23|(injection eo23 with ea_ en_ ec_;(first|subst ea_|(injection ea_ with ea_;subst ea_));subst ec_;clear en_))
           have GB23:=Aside0.mk gb23
           have GG23:=Aside0.mk HG23
           clear gb23 gl23 HG23
           obtain ⟨hx23_0,hf23_0⟩:=Kd.R_celln 0 HO_5.out ((ji20):Int) p23 q23
           replace p23:=eq_true p23
           replace q23:=eq_true q23
           have HP24:=Kd.R_putg HO_5.out ((ji20):Int) ((x7_2)%4294967296)
           go_wp2_with (first|((with_reducible refine gate_store (t:=60) (p:=64) rfl ?_);(try (rw [drewN_self wr];generalize hq_:World.drewN wr _=wr;have n0_:=Aside0.mk (Kd.R_at hq_ HO_5.out);have n1_:=Aside0.mk (below_at hq_ HB.out);clear hq_ HO_5 HB;have HO_5:=n0_;have HB:=n1_;clear n0_ n1_;(try (obtain ⟨hyZ_,hzZ_⟩:=Kd.R_celln 0 HO_5.out ((ji20):Int) (of_decide_eq_true (by first|(with_reducible assumption)|assumption)) (of_decide_eq_true (by first|(with_reducible assumption)|assumption))));(try (have HP24:=Kd.R_putg HO_5.out ((ji20):Int) ((x7_2)%4294967296)))));refine store_event (t:=60) (p:=64) (v:=?vo_w25) (w1:=(wr.setCell ⟨go23,((ji20):Int).toNat,none⟩ (.int .u32 ((x7_2)%4294967296)))) ?hg ?ho ?hn ?hr ?_;(case ho=>rfl);(case hg=>rfl);(case hn=>rfl);(case hr=>first|(go_simp;done)|(go_simp;rfl));intro w25 hw;have hg:wr.grownBy w25 (some go23):=(by rw [hw];exact HP24.2);have hp_:Kd.R (Kd.int .u32) 60 w25 w.heap.size (fun _=>True) (.slice (some ⟨go23,0,none⟩) x5_2.length co23) y589:=(by rw [hw,Ny589.out];exact HP24.1);clear HP24;have n0_:=Aside0.mk (hp_);have n1_:=Aside0.mk ((by rw [hw];exact below_set (HB.out) GB23.out:Below w.heap.size w w25));clear HO_5;clear HB;have HO_5:=n0_;have HB:=n1_;clear n0_ n1_;clear hg hw hp_))
           repeat (go_quiet (first|((with_reducible refine gate_store (t:=60) (p:=64) rfl ?_);(try (rw [drewN_self wr];generalize hq_:World.drewN wr _=wr;have n0_:=Aside0.mk (Kd.R_at hq_ HO_5.out);have n1_:=Aside0.mk (below_at hq_ HB.out);clear hq_ HO_5 HB;have HO_5:=n0_;have HB:=n1_;clear n0_ n1_;(try (obtain ⟨hyZ_,hzZ_⟩:=Kd.R_celln 0 HO_5.out ((ji20):Int) (of_decide_eq_true (by first|(with_reducible assumption)|assumption)) (of_decide_eq_true (by first|(with_reducible assumption)|assumption))));(try (have HP24:=Kd.R_putg HO_5.out ((ji20):Int) ((x7_2)%4294967296)))));refine store_event (t:=60) (p:=64) (v:=?vo_w25) (w1:=(wr.setCell ⟨go23,((ji20):Int).toNat,none⟩ (.int .u32 ((x7_2)%4294967296)))) ?hg ?ho ?hn ?hr ?_;(case ho=>rfl);(case hg=>rfl);(case hn=>rfl);(case hr=>first|(go_simp;done)|(go_simp;rfl));intro w25 hw;have hg:wr.grownBy w25 (some go23):=(by rw [hw];exact HP24.2);have hp_:Kd.R (Kd.int .u32) 60 w25 w.heap.size (fun _=>True) (.slice (some ⟨go23,0,none⟩) x5_2.length co23) y589:=(by rw [hw,Ny589.out];exact HP24.1);clear HP24;have n0_:=Aside0.mk (hp_);have n1_:=Aside0.mk ((by rw [hw];exact below_set (HB.out) GB23.out:Below w.heap.size w w25));clear HO_5;clear HB;have HO_5:=n0_;have HB:=n1_;clear n0_ n1_;clear hg hw hp_));try go_wp2_with (first|((with_reducible refine gate_store (t:=60) (p:=64) rfl ?_);(try (rw [drewN_self wr];generalize hq_:World.drewN wr _=wr;have n0_:=Aside0.mk (Kd.R_at hq_ HO_5.out);have n1_:=Aside0.mk (below_at hq_ HB.out);clear hq_ HO_5 HB;have HO_5:=n0_;have HB:=n1_;clear n0_ n1_;(try (obtain ⟨hyZ_,hzZ_⟩:=Kd.R_celln 0 HO_5.out ((ji20):Int) (of_decide_eq_true (by first|(with_reducible assumption)|assumption)) (of_decide_eq_true (by first|(with_reducible assumption)|assumption))));(try (have HP24:=Kd.R_putg HO_5.out ((ji20):Int) ((x7_2)%4294967296)))));refine store_event (t:=60) (p:=64) (v:=?vo_w25) (w1:=(wr.setCell ⟨go23,((ji20):Int).toNat,none⟩ (.int .u32 ((x7_2)%4294967296)))) ?hg ?ho ?hn ?hr ?_;(case ho=>rfl);(case hg=>rfl);(case hn=>rfl);(case hr=>first|(go_simp;done)|(go_simp;rfl));intro w25 hw;have hg:wr.grownBy w25 (some go23):=(by rw [hw];exact HP24.2);have hp_:Kd.R (Kd.int .u32) 60 w25 w.heap.size (fun _=>True) (.slice (some ⟨go23,0,none⟩) x5_2.length co23) y589:=(by rw [hw,Ny589.out];exact HP24.1);clear HP24;have n0_:=Aside0.mk (hp_);have n1_:=Aside0.mk ((by rw [hw];exact below_set (HB.out) GB23.out:Below w.heap.size w w25));clear HO_5;clear HB;have HO_5:=n0_;have HB:=n1_;clear n0_ n1_;clear hg hw hp_)))
           go_roundg k2
           case measure=>have:=HK1.out;have:=HK2.out;omega
           case rel=>exact ⟨(y589),(wrap64 (x6_1+1)),(by first|rfl|(simp;done)|(simp [*];done)),H',⟨by have:=HK1.out;have:=HK2.out;omega⟩,⟨by (with_reducible repeat (first|apply Kd.R_alloc|apply Kd.R_drewN|apply Kd.R_drew));exact HO_5.out⟩,⟨by repeat (first|(with_reducible first|exact HB.out|apply below_alloc|apply pw_below_drewN|apply below_drew1)|exact HB.out)⟩⟩
          ·rw [if_neg c22] at H
           exact absurd H (by simp)
         ·rw [if_neg c21] at H
          exact absurd H (by simp)
     ·rw [if_neg c8] at H
      have c8b0:decide (x6_1<(l0.length:Int))=false:=decide_eq_false c8
      clear c8
      replace H:=Option.bind_eq_some_iff.mp H
      obtain ⟨t582,A260,H⟩:=H
      replace H:(some t582)=some r:=H
      have A26:=Aside0.mk A260
      clear A260
      obtain rfl:=Option.some.inj H
      obtain ⟨Ao27,co27,eo27⟩:=Kd.R_slice HO_5.out
      subst eo27
      go_wp2_with (first|(go_at_call 75;(with_reducible refine (insolvencyref1_strip.calls k1 (fun k_=>some k_=(.slice Ao27 x5_1.length co27:Value).ownBlock) (.slice Ao27 x5_1.length co27) x5_1 t582 w _ ?side1 ?side2 A26.out).mono ?_);(case side1=>repeat (first|(with_reducible first|exact HB.out|apply below_alloc|apply pw_below_drewN|apply below_drew1)|exact HB.out));(case side2=>exact Kd.R_tight rfl HO_5.out);rintro e w28 ⟨v583,rfl,ho0,hb,hkp⟩;have n0_:=Aside0.mk (Kd.R_mono (ok':=fun k_=>True) ho0 (fun k_ hk_=>trivial));have n1_:=Aside0.mk (hb);clear HB;clear HO_5;have HO584:=n0_;have HB:=n1_;clear n0_ n1_;(try clear hb);(try clear hkp);(try clear ho0)))
      repeat (go_quiet (first|(go_at_call 75;(with_reducible refine (insolvencyref1_strip.calls k1 (fun k_=>some k_=(.slice Ao27 x5_1.length co27:Value).ownBlock) (.slice Ao27 x5_1.length co27) x5_1 t582 w _ ?side1 ?side2 A26.out).mono ?_);(case side1=>repeat (first|(with_reducible first|exact HB.out|apply below_alloc|apply pw_below_drewN|apply below_drew1)|exact HB.out));(case side2=>exact Kd.R_tight rfl HO_5.out);rintro e w28 ⟨v583,rfl,ho0,hb,hkp⟩;have n0_:=Aside0.mk (Kd.R_mono (ok':=fun k_=>True) ho0 (fun k_ hk_=>trivial));have n1_:=Aside0.mk (hb);clear HB;clear HO_5;have HO584:=n0_;have HB:=n1_;clear n0_ n1_;(try clear hb);(try clear hkp);(try clear ho0)));try go_wp2_with (first|(go_at_call 75;(with_reducible refine (insolvencyref1_strip.calls k1 (fun k_=>some k_=(.slice Ao27 x5_1.length co27:Value).ownBlock) (.slice Ao27 x5_1.length co27) x5_1 t582 w _ ?side1 ?side2 A26.out).mono ?_);(case side1=>repeat (first|(with_reducible first|exact HB.out|apply below_alloc|apply pw_below_drewN|apply below_drew1)|exact HB.out));(case side2=>exact Kd.R_tight rfl HO_5.out);rintro e w28 ⟨v583,rfl,ho0,hb,hkp⟩;have n0_:=Aside0.mk (Kd.R_mono (ok':=fun k_=>True) ho0 (fun k_ hk_=>trivial));have n1_:=Aside0.mk (hb);clear HB;clear HO_5;have HO584:=n0_;have HB:=n1_;clear n0_ n1_;(try clear hb);(try clear hkp);(try clear ho0))))
      go_ret
      exact ⟨_,by first|rfl|(simp [errW_none,errW_some] <;> rfl)|(simp only [← hji3];first|rfl|(simp [errW_none,errW_some] <;> rfl))|(simp [*,errW_none,errW_some] <;> rfl),by (with_reducible repeat (first|apply Kd.R_alloc|apply Kd.R_drewN|apply Kd.R_drew));exact HO584.out,by repeat (first|(with_reducible first|exact HB.out|apply below_alloc|apply pw_below_drewN|apply below_drew1)|exact HB.out)⟩
  ·rw [if_neg c5] at H
   exact absurd H (by simp)
 ·rw [if_neg c4] at H
  exact absurd H (by simp)
end Go.Proofs.YtjaflmhdclmolaaDoor.F
end
section
namespace Go.Proofs.YtjaflmhdclmolaaDoor.F
open Go.RowKit Go.Proofs.YtjaflmhdclmolaaDoorW.PrintWords Go.Proofs.YtjaflmhdclmolaaDoorW.PrintLast Go.Proofs.YtjaflmhdclmolaaDoorW.PrintMore
attribute [local go_sem] max2_int min2_int max_two min_two max_three min_three max_four min_four   
set_option linter.unusedVariables false
set_option linter.unusedSimpArgs false
def insolvencyref1_NatMultiply.f (k:Nat) (a0:ByteArray) (a1:ByteArray):Option (ByteArray):=(insolvencyref1_limbs.f k a0).bind fun t590=>((insolvencyref1_limbs.f k a1).bind fun t593=>((insolvencyref1_times.f k t590 t593).bind fun t596=>((insolvencyref1_text.f k t596).bind fun t599=>(some t599))))
theorem insolvencyref1_NatMultiply.mono:∀ a0 a1 k,LeO (insolvencyref1_NatMultiply.f k a0 a1) (insolvencyref1_NatMultiply.f (k+1) a0 a1):=by
 intro a0 a1 k
 unfold insolvencyref1_NatMultiply.f
 repeat' first
  | (with_reducible exact insolvencyref1_limbs.mono _ _)
  | (with_reducible exact insolvencyref1_text.mono _ _)
  | (with_reducible exact insolvencyref1_times.mono _ _ _)
  | (with_reducible exact LeO.refl _)
  | (with_reducible exact LeO.none _)
  | (with_reducible refine LeO.ite ?_ ?_)
  | (with_reducible refine LeO.bind ?_ (fun _=>?_))
  | exact insolvencyref1_limbs.mono _ _
  | exact insolvencyref1_text.mono _ _
  | exact insolvencyref1_times.mono _ _ _
  | exact LeO.none _
  | refine LeO.ite ?_ ?_
  | refine LeO.bind ?_ (fun _=>?_)
set_option maxHeartbeats 8000000 in
set_option maxRecDepth 100000 in
theorem insolvencyref1_NatMultiply.calls (k:Nat) (a0:ByteArray) (a1:ByteArray) (r:ByteArray) (w:World) (h:insolvencyref1_NatMultiply.f k a0 a1=some r) :
 Calls Tryd.prog 37 #[.string a0,.string a1] w fun e w'=>e = .returned (.string r)∧Below w.heap.size w w':=by
 have HB:=Aside0.mk (Below.refl w.heap.size w)
 have H:((insolvencyref1_limbs.f k a0).bind fun t590=>((insolvencyref1_limbs.f k a1).bind fun t593=>((insolvencyref1_times.f k t590 t593).bind fun t596=>((insolvencyref1_text.f k t596).bind fun t599=>(some t599)))))=some r:=h
 clear h
 replace H:=Option.bind_eq_some_iff.mp H
 obtain ⟨t590,A30,H⟩:=H
 replace H:((insolvencyref1_limbs.f k a1).bind fun t593=>((insolvencyref1_times.f k t590 t593).bind fun t596=>((insolvencyref1_text.f k t596).bind fun t599=>(some t599))))=some r:=H
 have A3:=Aside0.mk A30
 clear A30
 replace H:=Option.bind_eq_some_iff.mp H
 obtain ⟨t593,A40,H⟩:=H
 replace H:((insolvencyref1_times.f k t590 t593).bind fun t596=>((insolvencyref1_text.f k t596).bind fun t599=>(some t599)))=some r:=H
 have A4:=Aside0.mk A40
 clear A40
 replace H:=Option.bind_eq_some_iff.mp H
 obtain ⟨t596,A50,H⟩:=H
 replace H:((insolvencyref1_text.f k t596).bind fun t599=>(some t599))=some r:=H
 have A5:=Aside0.mk A50
 clear A50
 replace H:=Option.bind_eq_some_iff.mp H
 obtain ⟨t599,A60,H⟩:=H
 replace H:(some t599)=some r:=H
 have A6:=Aside0.mk A60
 clear A60
 obtain rfl:=Option.some.inj H
 go_enter Tryd.func37,Tryd.ntmps37
 go_wp2_with (first|((with_reducible refine gate_callee (f:=45) rfl ?_);refine goesL_ (some 6) rfl rfl Tryd.func45 (by kernel_rfl) rfl #[.string a0] rfl (by (try simp only [List.map_toArray,List.map_cons,List.map_nil]);first|done|rfl|(simp only [List.length_drop,List.length_take];rfl)) ?_;(with_reducible refine (insolvencyref1_limbs.calls k a0 t590 _ A3.out).mono ?_);rintro e w7 ⟨v591,rfl,ho0,hb⟩;refine ⟨_,rfl,?_⟩;have n0_:=Aside0.mk (Kd.R_lower ho0 (below_size (by repeat (first|(with_reducible first|exact HB.out|apply below_alloc|apply pw_below_drewN|apply below_drew1)|exact HB.out))));have n1_:=Aside0.mk (below_step (by repeat (first|(with_reducible first|exact HB.out|apply below_alloc|apply pw_below_drewN|apply below_drew1)|exact HB.out)) hb);clear HB;have HO592:=n0_;have HB:=n1_;clear n0_ n1_;(try clear hb);(try clear hb2);(try clear hk);(try clear hi);(try clear ho0))|((with_reducible refine gate_callee (f:=45) rfl ?_);refine goesL_ (some 8) rfl rfl Tryd.func45 (by kernel_rfl) rfl #[.string a1] rfl (by (try simp only [List.map_toArray,List.map_cons,List.map_nil]);first|done|rfl|(simp only [List.length_drop,List.length_take];rfl)) ?_;(with_reducible refine (insolvencyref1_limbs.calls k a1 t593 _ A4.out).mono ?_);rintro e w8 ⟨v594,rfl,ho0,hb⟩;refine ⟨_,rfl,?_⟩;have n0_:=Aside0.mk (Kd.R_elder' (by (with_reducible repeat (first|apply Kd.R_alloc|apply Kd.R_drewN|apply Kd.R_drew));exact HO592.out) (Kd.R_base ho0) hb);have n1_:=Aside0.mk (Kd.R_lower (Kd.R_new' ho0 (Kd.R_lt (by (with_reducible repeat (first|apply Kd.R_alloc|apply Kd.R_drewN|apply Kd.R_drew));exact HO592.out))) (below_size (by repeat (first|(with_reducible first|exact HB.out|apply below_alloc|apply pw_below_drewN|apply below_drew1)|exact HB.out))));have n2_:=Aside0.mk (below_step (by repeat (first|(with_reducible first|exact HB.out|apply below_alloc|apply pw_below_drewN|apply below_drew1)|exact HB.out)) hb);clear HO592;clear HB;have HO592:=n0_;have HO595:=n1_;have HB:=n2_;clear n0_ n1_ n2_;(try clear hb);(try clear hb2);(try clear hk);(try clear hi);(try clear ho0);obtain ⟨Ao9,co9,eo9⟩:=Kd.R_slice HO592.out;subst eo9;obtain ⟨Ao10,co10,eo10⟩:=Kd.R_slice HO595.out;subst eo10)|((with_reducible refine gate_callee (f:=61) rfl ?_);refine goesL_ (some 9) rfl rfl Tryd.func61 (by kernel_rfl) rfl #[.slice Ao9 t590.length co9,.slice Ao10 t593.length co10] rfl (by (try simp only [List.map_toArray,List.map_cons,List.map_nil]);first|done|rfl|(simp only [List.length_drop,List.length_take];rfl)) ?_;(with_reducible refine (insolvencyref1_times.calls k _ _ t590 _ _ t593 t596 _ ?side1 ?side2 ?side3 ?side4 A5.out).mono ?_);(case side1=>repeat (first|exact (Kd.R_reads' HO592.out).2.2|(with_reducible refine Kd.C_alloc ?_ _)|(with_reducible refine Kd.C_drewN ?_ _)|(with_reducible refine Kd.C_drew ?_)));(case side2=>exact (Kd.R_reads' HO592.out).2.1);(case side3=>repeat (first|exact (Kd.R_reads' HO595.out).2.2|(with_reducible refine Kd.C_alloc ?_ _)|(with_reducible refine Kd.C_drewN ?_ _)|(with_reducible refine Kd.C_drew ?_)));(case side4=>exact (Kd.R_reads' HO595.out).2.1);rintro e w11 ⟨v597,rfl,ho0,hb⟩;refine ⟨_,rfl,?_⟩;have n0_:=Aside0.mk (Kd.R_elder' (by (with_reducible repeat (first|apply Kd.R_alloc|apply Kd.R_drewN|apply Kd.R_drew));exact HO592.out) (Kd.R_base ho0) hb);have n1_:=Aside0.mk (Kd.R_elder' (by (with_reducible repeat (first|apply Kd.R_alloc|apply Kd.R_drewN|apply Kd.R_drew));exact HO595.out) (Kd.R_base ho0) hb);have n2_:=Aside0.mk (Kd.R_lower (Kd.R_new' (Kd.R_new' ho0 (Kd.R_lt (by (with_reducible repeat (first|apply Kd.R_alloc|apply Kd.R_drewN|apply Kd.R_drew));exact HO592.out))) (Kd.R_lt (by (with_reducible repeat (first|apply Kd.R_alloc|apply Kd.R_drewN|apply Kd.R_drew));exact HO595.out))) (below_size (by repeat (first|(with_reducible first|exact HB.out|apply below_alloc|apply pw_below_drewN|apply below_drew1)|exact HB.out))));have n3_:=Aside0.mk (below_step (by repeat (first|(with_reducible first|exact HB.out|apply below_alloc|apply pw_below_drewN|apply below_drew1)|exact HB.out)) hb);clear HO592;clear HO595;clear HB;have HO592:=n0_;have HO595:=n1_;have HO598:=n2_;have HB:=n3_;clear n0_ n1_ n2_ n3_;(try clear hb);(try clear hb2);(try clear hk);(try clear hi);(try clear ho0);obtain ⟨Ao12,co12,eo12⟩:=Kd.R_slice HO598.out;subst eo12)|((with_reducible refine gate_callee (f:=47) rfl ?_);refine goesL_ (some 10) rfl rfl Tryd.func47 (by kernel_rfl) rfl #[.slice Ao12 t596.length co12] rfl (by (try simp only [List.map_toArray,List.map_cons,List.map_nil]);first|done|rfl|(simp only [List.length_drop,List.length_take];rfl)) ?_;(with_reducible refine (insolvencyref1_text.calls k (fun k_=>some k_=(.slice Ao12 t596.length co12:Value).ownBlock) (.slice Ao12 t596.length co12) t596 t599 w _ ?side1 ?side2 A6.out).mono ?_);(case side1=>repeat (first|(with_reducible first|exact HB.out|apply below_alloc|apply pw_below_drewN|apply below_drew1)|exact HB.out));(case side2=>exact Kd.R_tight rfl HO598.out);rintro e w13 ⟨rfl,hb,hkp⟩;refine ⟨_,rfl,?_⟩;have n0_:=Aside0.mk (Kd.R_mono (ok':=fun k_=>some k_≠(.slice Ao10 t593.length co10:Value).ownBlock) (Kd.R_keptB (HO592.out) hkp (fun k_ hk_ hs_=>(hk_.2) hs_)) (fun k_ hk_=>hk_.1.1.2));have n1_:=Aside0.mk (Kd.R_mono (ok':=fun k_=>some k_≠(.slice Ao9 t590.length co9:Value).ownBlock) (Kd.R_keptB (HO595.out) hkp (fun k_ hk_ hs_=>(hk_.2) hs_)) (fun k_ hk_=>hk_.1.1.2));have n2_:=Aside0.mk (hb);clear HO592;clear HO595;clear HB;clear HO598;have HO592:=n0_;have HO595:=n1_;have HB:=n2_;clear n0_ n1_ n2_;(try clear hb);(try clear hkp)))
 go_ret
 exact ⟨by first|rfl|(simp [errW_none,errW_some] <;> rfl)|(simp [*,errW_none,errW_some] <;> rfl),by repeat (first|(with_reducible first|exact HB.out|apply below_alloc|apply pw_below_drewN|apply below_drew1)|exact HB.out)⟩
end Go.Proofs.YtjaflmhdclmolaaDoor.F
end
section
namespace Go.Proofs.YtjaflmhdclmolaaDoor.Num
open Go.RowKit Go.Proofs.YtjaflmhdclmolaaDoorW.PrintWords Go.Proofs.YtjaflmhdclmolaaDoorW.PrintLast Go.Proofs.YtjaflmhdclmolaaDoorW.PrintMore Go.Proofs.YtjaflmhdclmolaaDoor.F
set_option linter.unusedVariables false
theorem vsnoc (o:List Int) (d r:Int):val (o ++ [d])+4294967296 ^ (o ++ [d]).length*r=val o+4294967296 ^ o.length*(d+4294967296*r):=by
 rw [val_app,List.length_append,List.length_singleton,Int.pow_succ]
 simp only [val,Int.mul_zero,Int.add_zero,Int.mul_add,← Int.mul_assoc]
 omega
theorem snoc_len (o:List Int) (d:Int):(o ++ [d]).length=o.length+1:=by rw [List.length_append,List.length_singleton]
theorem snoc_dig {o:List Int} {d:Int} (h:Dig o) (h0:0≤d) (h1:d<4294967296):Dig (o ++ [d]):=h.app (Dig.cons h0 h1 Dig.nil)
theorem set_snoc (o:List Int) (d x:Int) (r:List Int):(o ++ x :: r).set o.length d=(o ++ [d]) ++ r:=by
 have:=set_at o x d r (o.length:Int) rfl
 rw [Int.toNat_natCast] at this
 rw [this,List.append_assoc,List.singleton_append]
theorem mul_le {u v:Int} (hu0:0≤u) (hu:u<4294967296) (hv0:0≤v) (hv:v<4294967296):0≤u*v∧u*v≤18446744065119617025:=by
 have h1:=Int.mul_nonneg hu0 hv0
 have h2:=Int.mul_le_mul_of_nonneg_right (show u≤4294967295 by omega) hv0
 omega
end Go.Proofs.YtjaflmhdclmolaaDoor.Num
end
section
namespace Go.Proofs.YtjaflmhdclmolaaDoor.Num
set_option linter.unusedVariables false
theorem divmod {n d q r:Int} (h:n=q*d+r) (h0:0≤r) (h1:r<d):n/d=q∧n%d=r:=
 (Int.ediv_emod_unique (by omega)).2 ⟨by rw [h,Int.mul_comm];omega,h0,h1⟩
theorem divmod_eq (n d:Int):n=(n/d)*d+n%d:=by
 have:=Int.emod_add_mul_ediv n d
 rw [Int.mul_comm (n/d)]
 omega
structure Kn (D U B dl ul v1 v2 u0 u1 u2 q:Int):Prop where
 hD:D=(v1*4294967296+v2)*B+dl
 hU:U=((u0*4294967296+u1)*4294967296+u2)*B+ul
 hB:0<B
 dl0:0≤dl
 dl1:dl<B
 ul0:0≤ul
 ul1:ul<B
 v10:2147483648≤v1
 v11:v1<4294967296
 v20:0≤v2
 v21:v2<4294967296
 u00:0≤u0
 u01:u0<4294967296
 u10:0≤u1
 u11:u1<4294967296
 u20:0≤u2
 u21:u2<4294967296
 q0:0≤q
 q1:q*D≤U
 q2:U<q*D+D
 hlt:U<4294967296*D
section
variable {D U B dl ul v1 v2 u0 u1 u2 q:Int}
theorem Kn.top (h:Kn D U B dl ul v1 v2 u0 u1 u2 q):q*(v1*4294967296+v2)≤(u0*4294967296+u1)*4294967296+u2:=by
 have e1:q*D=q*(v1*4294967296+v2)*B+q*dl:=by rw [h.hD,Int.mul_add,Int.mul_assoc]
 have e2:=Int.mul_nonneg h.q0 h.dl0
 have e3:=h.q1
 have e4:=h.hU
 have e5:q*(v1*4294967296+v2)*B<((u0*4294967296+u1)*4294967296+u2+1)*B:=by
  rw [Int.add_mul _ 1 B,Int.one_mul]
  have:=h.ul1
  omega
 have:=Int.lt_of_mul_lt_mul_right e5 (Int.le_of_lt h.hB)
 omega
theorem Kn.dpos (h:Kn D U B dl ul v1 v2 u0 u1 u2 q):4294967296*B≤D:=by
 have h1:=h.hD
 have h2:=h.dl0
 have h3:4294967296*B≤(v1*4294967296+v2)*B:=Int.mul_le_mul_of_nonneg_right (by have:=h.v10;have:=h.v20;omega) (Int.le_of_lt h.hB)
 omega
theorem Kn.qlt (h:Kn D U B dl ul v1 v2 u0 u1 u2 q):q<4294967296:=by
 have h1:=h.dpos
 have h2:=h.hB
 exact Int.lt_of_mul_lt_mul_right (Int.lt_of_le_of_lt h.q1 h.hlt) (by omega)
structure Gs (v1 u0 u1 q g r:Int):Prop where
 eq:g*v1+r=u0*4294967296+u1
 le:q≤g
 r0:0≤r
theorem Kn.start (h:Kn D U B dl ul v1 v2 u0 u1 u2 q):Gs v1 u0 u1 q ((u0*4294967296+u1)/v1) ((u0*4294967296+u1)%v1):=by
 have hv:=h.v10
 refine ⟨(divmod_eq _ _).symm,?_,Int.emod_nonneg _ (by omega)⟩
 refine (Int.le_ediv_iff_mul_le (by omega)).2 ?_
 have h1:=h.top
 have h2:(q*v1)*4294967296≤q*(v1*4294967296+v2):=by
  rw [Int.mul_add,Int.mul_assoc]
  have:=Int.mul_nonneg h.q0 h.v20
  omega
 have:=h.u21
 omega
theorem Gs.g0 (h:Kn D U B dl ul v1 v2 u0 u1 u2 q) {g r:Int} (a:Gs v1 u0 u1 q g r):0≤g:=by have:=a.le;have:=h.q0;omega
theorem Gs.next (h:Kn D U B dl ul v1 v2 u0 u1 u2 q) {g r:Int} (a:Gs v1 u0 u1 q g r) (c:4294967296≤g∨r*4294967296+u2<g*v2):Gs v1 u0 u1 q (g-1) (r+v1):=by
 have h1:=a.eq
 have h2:=a.le
 refine ⟨by rw [Int.sub_mul];omega,?_,by have:=a.r0;have:=h.v10;omega⟩
 have h3:q≠g:=by
  intro e
  rcases c with c|c
  ·have:=h.qlt;omega
  ·have h4:=h.top
   rw [e,Int.mul_add,← Int.mul_assoc,← h1] at h4
   omega
 omega
theorem Gs.done (h:Kn D U B dl ul v1 v2 u0 u1 u2 q) {g r:Int} (a:Gs v1 u0 u1 q g r) (c1:g<4294967296) (c2:g*v2≤r*4294967296+u2):g≤q+1:=by
 have h1:=a.eq
 have g0:=a.g0 h
 have e1:g*D=g*(v1*4294967296+v2)*B+g*dl:=by rw [h.hD,Int.mul_add,Int.mul_assoc]
 have e2:g*(v1*4294967296+v2)≤(u0*4294967296+u1)*4294967296+u2:=by
  rw [Int.mul_add,← Int.mul_assoc,← h1];omega
 have e3:=Int.mul_le_mul_of_nonneg_right e2 (Int.le_of_lt h.hB)
 have e4:g*dl≤4294967296*dl:=Int.mul_le_mul_of_nonneg_right (by omega) h.dl0
 have e5:=h.dpos
 have e6:=h.hU
 have e7:=h.dl1
 have e8:=h.ul0
 have e9:=h.q2
 have hlt:g*D<(q+2)*D:=by
  rw [Int.add_mul]
  omega
 have:=Int.lt_of_mul_lt_mul_right hlt (by have:=h.hB;omega)
 omega
end
end Go.Proofs.YtjaflmhdclmolaaDoor.Num
end
