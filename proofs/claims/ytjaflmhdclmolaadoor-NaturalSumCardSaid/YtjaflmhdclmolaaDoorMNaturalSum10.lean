/- Part 10 of the proof of NaturalSum: the functions' walks and what they compute, in the order of the calls; each holds for all arguments that its row allows. -/
import Derived.Test.YtjaflmhdclmolaaDoorMNaturalSum6
import Derived.Test.YtjaflmhdclmolaaDoorMNaturalSum9
import Derived.Test.YtjaflmhdclmolaaDoorMNaturalSum7
import Derived.Test.YtjaflmhdclmolaaDoorMNaturalSum5
import Derived.Laws.BitsLemmas
import Derived.IntWalk
import Derived.Test.YtjaflmhdclmolaaDoorMNaturalSum2
import Derived.KernelRfl
section
namespace Go.Proofs.YtjaflmhdclmolaaDoor.F
open Go.RowKit Go.Proofs.YtjaflmhdclmolaaDoorW.PrintWords Go.Proofs.YtjaflmhdclmolaaDoorW.PrintLast Go.Proofs.YtjaflmhdclmolaaDoorW.PrintMore
attribute [local go_sem] max2_int min2_int max_two min_two max_three min_three max_four min_four   
set_option linter.unusedVariables false
set_option linter.unusedSimpArgs false
def insolvencylaw1_NaturalSum.f (k : Nat) (a0 : ByteArray) (a1 : ByteArray) : Option (Bool) := (insolvencylaw1_few.f k (([a0, a1] : List ByteArray))).bind fun t705 => (if t705 = true then ((natural_Subtract.f k a0 a1).bind fun bt707 => ((insolvencyref1_NatSubtract.f k a0 a1).bind fun bt709 => ((insolvencylaw1_awake.f k).bind fun t711 => (if t711 = true then ((natural_Add.f k a0 a1).bind fun t712 => ((insolvencyref1_NatAdd.f k a0 a1).bind fun t713 => (if t712.toList = t713.toList then (if bt707.1.toList = bt709.1.toList then (some (bt707.2 == bt709.2)) else (some false)) else (some false)))) else (some false))))) else ((insolvencylaw1_awake.f k).bind fun t706 => (some t706)))
theorem insolvencylaw1_NaturalSum.mono : ∀ a0 a1 k, LeO (insolvencylaw1_NaturalSum.f k a0 a1) (insolvencylaw1_NaturalSum.f (k + 1) a0 a1) := by
 intro a0 a1 k
 unfold insolvencylaw1_NaturalSum.f
 repeat' first
  | (with_reducible exact insolvencylaw1_awake.mono _)
  | (with_reducible exact insolvencylaw1_few.mono _ _)
  | (with_reducible exact insolvencyref1_NatAdd.mono _ _ _)
  | (with_reducible exact insolvencyref1_NatSubtract.mono _ _ _)
  | (with_reducible exact natural_Add.mono _ _ _)
  | (with_reducible exact natural_Subtract.mono _ _ _)
  | (with_reducible exact LeO.refl _)
  | (with_reducible exact LeO.none _)
  | (with_reducible refine LeO.ite ?_ ?_)
  | (with_reducible refine LeO.bind ?_ (fun _ => ?_))
  | exact insolvencylaw1_awake.mono _
  | exact insolvencylaw1_few.mono _ _
  | exact insolvencyref1_NatAdd.mono _ _ _
  | exact insolvencyref1_NatSubtract.mono _ _ _
  | exact natural_Add.mono _ _ _
  | exact natural_Subtract.mono _ _ _
  | exact LeO.none _
  | refine LeO.ite ?_ ?_
  | refine LeO.bind ?_ (fun _ => ?_)
set_option maxHeartbeats 8000000 in
set_option maxRecDepth 100000 in
theorem insolvencylaw1_NaturalSum.calls (k : Nat) (a0 : ByteArray) (a1 : ByteArray) (r : Bool) (w : World) (h : insolvencylaw1_NaturalSum.f k a0 a1 = some r) :
 Calls Tryd.prog 14 #[.string a0, .string a1] w fun e w' => e = .returned (.bool r) ∧ Below w.heap.size w w' := by
 have HB := Aside0.mk (Below.refl w.heap.size w)
 have H : ((insolvencylaw1_few.f k (([a0, a1] : List ByteArray))).bind fun t705 => (if t705 = true then ((natural_Subtract.f k a0 a1).bind fun bt707 => ((insolvencyref1_NatSubtract.f k a0 a1).bind fun bt709 => ((insolvencylaw1_awake.f k).bind fun t711 => (if t711 = true then ((natural_Add.f k a0 a1).bind fun t712 => ((insolvencyref1_NatAdd.f k a0 a1).bind fun t713 => (if t712.toList = t713.toList then (if bt707.1.toList = bt709.1.toList then (some (bt707.2 == bt709.2)) else (some false)) else (some false)))) else (some false))))) else ((insolvencylaw1_awake.f k).bind fun t706 => (some t706)))) = some r := h
 clear h
 obtain ⟨y702, hy702⟩ : ∃ y_ : List ByteArray, y_ = (([a0, a1] : List ByteArray)) := ⟨_, rfl⟩
 replace H : ((insolvencylaw1_few.f k y702).bind fun t705 => (if t705 = true then ((natural_Subtract.f k a0 a1).bind fun bt707 => ((insolvencyref1_NatSubtract.f k a0 a1).bind fun bt709 => ((insolvencylaw1_awake.f k).bind fun t711 => (if t711 = true then ((natural_Add.f k a0 a1).bind fun t712 => ((insolvencyref1_NatAdd.f k a0 a1).bind fun t713 => (if t712.toList = t713.toList then (if bt707.1.toList = bt709.1.toList then (some (bt707.2 == bt709.2)) else (some false)) else (some false)))) else (some false))))) else ((insolvencylaw1_awake.f k).bind fun t706 => (some t706)))) = some r := by first | (rw [hy702]; with_reducible exact H) | (have H2_ := (Option.bind_some _ _).symm.trans H; rw [hy702]; with_reducible exact H2_) | (have H2_ := (Option.bind_some _ _).symm.trans H; with_reducible exact H2_) | with_reducible exact H | (rw [hy702]; exact H) | exact H
 have Ny702 := Aside0.mk hy702
 clear hy702
 replace H := Option.bind_eq_some_iff.mp H
 obtain ⟨t705, A30, H⟩ := H
 replace H : (if t705 = true then ((natural_Subtract.f k a0 a1).bind fun bt707 => ((insolvencyref1_NatSubtract.f k a0 a1).bind fun bt709 => ((insolvencylaw1_awake.f k).bind fun t711 => (if t711 = true then ((natural_Add.f k a0 a1).bind fun t712 => ((insolvencyref1_NatAdd.f k a0 a1).bind fun t713 => (if t712.toList = t713.toList then (if bt707.1.toList = bt709.1.toList then (some (bt707.2 == bt709.2)) else (some false)) else (some false)))) else (some false))))) else ((insolvencylaw1_awake.f k).bind fun t706 => (some t706))) = some r := H
 have A3 := Aside0.mk A30
 clear A30
 by_cases c4 : t705 = true
 · subst c4
   have H1 : ((natural_Subtract.f k a0 a1).bind fun bt707 => ((insolvencyref1_NatSubtract.f k a0 a1).bind fun bt709 => ((insolvencylaw1_awake.f k).bind fun t711 => (if t711 = true then ((natural_Add.f k a0 a1).bind fun t712 => ((insolvencyref1_NatAdd.f k a0 a1).bind fun t713 => (if t712.toList = t713.toList then (if bt707.1.toList = bt709.1.toList then (some (bt707.2 == bt709.2)) else (some false)) else (some false)))) else (some false))))) = some r := by rw [if_pos rfl] at H; exact H
   clear H
   have H := H1
   clear H1
   replace H := Option.bind_eq_some_iff.mp H
   obtain ⟨⟨t707, t708⟩, A50, H⟩ := H
   replace H : ((insolvencyref1_NatSubtract.f k a0 a1).bind fun bt709 => ((insolvencylaw1_awake.f k).bind fun t711 => (if t711 = true then ((natural_Add.f k a0 a1).bind fun t712 => ((insolvencyref1_NatAdd.f k a0 a1).bind fun t713 => (if t712.toList = t713.toList then (if t707.toList = bt709.1.toList then (some (t708 == bt709.2)) else (some false)) else (some false)))) else (some false)))) = some r := H
   have A5 := Aside0.mk A50
   clear A50
   replace H := Option.bind_eq_some_iff.mp H
   obtain ⟨⟨t709, t710⟩, A60, H⟩ := H
   replace H : ((insolvencylaw1_awake.f k).bind fun t711 => (if t711 = true then ((natural_Add.f k a0 a1).bind fun t712 => ((insolvencyref1_NatAdd.f k a0 a1).bind fun t713 => (if t712.toList = t713.toList then (if t707.toList = t709.toList then (some (t708 == t710)) else (some false)) else (some false)))) else (some false))) = some r := H
   have A6 := Aside0.mk A60
   clear A60
   replace H := Option.bind_eq_some_iff.mp H
   obtain ⟨t711, A70, H⟩ := H
   replace H : (if t711 = true then ((natural_Add.f k a0 a1).bind fun t712 => ((insolvencyref1_NatAdd.f k a0 a1).bind fun t713 => (if t712.toList = t713.toList then (if t707.toList = t709.toList then (some (t708 == t710)) else (some false)) else (some false)))) else (some false)) = some r := H
   have A7 := Aside0.mk A70
   clear A70
   by_cases c8 : t711 = true
   · subst c8
     have H1 : ((natural_Add.f k a0 a1).bind fun t712 => ((insolvencyref1_NatAdd.f k a0 a1).bind fun t713 => (if t712.toList = t713.toList then (if t707.toList = t709.toList then (some (t708 == t710)) else (some false)) else (some false)))) = some r := by rw [if_pos rfl] at H; exact H
     clear H
     have H := H1
     clear H1
     replace H := Option.bind_eq_some_iff.mp H
     obtain ⟨t712, A90, H⟩ := H
     replace H : ((insolvencyref1_NatAdd.f k a0 a1).bind fun t713 => (if t712.toList = t713.toList then (if t707.toList = t709.toList then (some (t708 == t710)) else (some false)) else (some false))) = some r := H
     have A9 := Aside0.mk A90
     clear A90
     replace H := Option.bind_eq_some_iff.mp H
     obtain ⟨t713, A100, H⟩ := H
     replace H : (if t712.toList = t713.toList then (if t707.toList = t709.toList then (some (t708 == t710)) else (some false)) else (some false)) = some r := H
     have A10 := Aside0.mk A100
     clear A100
     by_cases c11 : t712.toList = t713.toList
     · rw [if_pos c11] at H
       have c11b0 : (t712.toList == t713.toList) = true := beq_iff_eq.mpr c11
       have c11b1 : (t712.toList != t713.toList) = false := bne_eq_false_iff_eq.mpr c11
       clear c11
       by_cases c12 : t707.toList = t709.toList
       · rw [if_pos c12] at H
         have c12b0 : (t707.toList == t709.toList) = true := beq_iff_eq.mpr c12
         have c12b1 : (t707.toList != t709.toList) = false := bne_eq_false_iff_eq.mpr c12
         clear c12
         obtain rfl := Option.some.inj H
         go_enter Tryd.func14, Tryd.ntmps14
         go_wp2_with (first | ((with_reducible refine gate_dst (N := 11) rfl ?_); refine Kd.R_lit Kd.string _ 9 ?hg (N := 11) ?hd (xs := ([a0, a1] : List ByteArray)) (inner := [.string a0, .string a1]) (ok := fun _ => True) (okp := fun _ => True) ?hr ?hp (fun _ hk => hk) trivial (Below.refl _ _) (Nat.le_refl _) (by simp) ?_; (case hd => rfl); (case hg => rfl); (case hr => first | (go_simp; done) | (go_simp; rfl)); (case hp => exact (Reps.one (show Kd.M Kd.string _ _ _ a0 [.string a0] from rfl) (Reps.one (show Kd.M Kd.string _ _ _ a1 [.string a1] from rfl) (Reps.none _ _)))); intro v703 w13 ho14 hb hg_ hnew_; clear hg_ hnew_; (first | rw [← Ny702.out] at ho14 | (simp only [Int.reduceToNat] at ho14; rw [← Ny702.out] at ho14)); have n0_ := Aside0.mk (Kd.R_lower ho14 (below_size (by repeat (first | (with_reducible first | exact HB.out | apply below_alloc | apply pw_below_drewN | apply below_drew1) | exact HB.out)))); have n1_ := Aside0.mk (below_step (by repeat (first | (with_reducible first | exact HB.out | apply below_alloc | apply pw_below_drewN | apply below_drew1) | exact HB.out)) hb); clear HB; have HO704 := n0_; have HB := n1_; clear n0_ n1_; clear hb ho14; obtain ⟨Ao15, co15, eo15⟩ := Kd.R_slice HO704.out; subst eo15) | ((with_reducible refine gate_callee (f := 20) rfl ?_); refine goesL_ (some 12) rfl rfl Tryd.func20 (by kernel_rfl) rfl #[.slice Ao15 y702.length co15] rfl (by (try simp only [List.map_toArray, List.map_cons, List.map_nil]); first | done | rfl | (simp only [List.length_drop, List.length_take]; rfl)) ?_; (with_reducible refine (insolvencylaw1_few.calls k _ _ y702 true _ ?side1 ?side2 A3.out).mono ?_); (case side1 => repeat (first | exact (Kd.R_reads' HO704.out).2.2 | (with_reducible refine Kd.C_alloc ?_ _) | (with_reducible refine Kd.C_drewN ?_ _) | (with_reducible refine Kd.C_drew ?_))); (case side2 => exact (Kd.R_reads' HO704.out).2.1); rintro e w' ⟨rfl, ⟨nd, rfl⟩⟩; refine ⟨_, rfl, ?_⟩) | ((with_reducible refine gate_callee (f := 38) rfl ?_); refine goesL_ (some 18) rfl rfl Tryd.func38 (by kernel_rfl) rfl #[.string a0, .string a1] rfl (by (try simp only [List.map_toArray, List.map_cons, List.map_nil]); first | done | rfl | (simp only [List.length_drop, List.length_take]; rfl)) ?_; (with_reducible refine (natural_Subtract.calls k a0 a1 t707 t708 _ A5.out).mono ?_); rintro e w16 ⟨rfl, hb⟩; refine ⟨_, rfl, ?_⟩; have n0_ := Aside0.mk (Kd.R_below (by (with_reducible repeat (first | apply Kd.R_alloc | apply Kd.R_drewN | apply Kd.R_drew)); exact HO704.out) hb); have n1_ := Aside0.mk (below_step (by repeat (first | (with_reducible first | exact HB.out | apply below_alloc | apply pw_below_drewN | apply below_drew1) | exact HB.out)) hb); clear HO704; clear HB; have HO704 := n0_; have HB := n1_; clear n0_ n1_; (try clear hb); (try clear hb2); (try clear hk); (try clear hi)) | ((with_reducible refine gate_callee (f := 39) rfl ?_); refine goesL_ (some 24) rfl rfl Tryd.func39 (by kernel_rfl) rfl #[.string a0, .string a1] rfl (by (try simp only [List.map_toArray, List.map_cons, List.map_nil]); first | done | rfl | (simp only [List.length_drop, List.length_take]; rfl)) ?_; (with_reducible refine (insolvencyref1_NatSubtract.calls k a0 a1 t709 t710 _ A6.out).mono ?_); rintro e w17 ⟨rfl, hb⟩; refine ⟨_, rfl, ?_⟩; have n0_ := Aside0.mk (Kd.R_below (by (with_reducible repeat (first | apply Kd.R_alloc | apply Kd.R_drewN | apply Kd.R_drew)); exact HO704.out) hb); have n1_ := Aside0.mk (below_step (by repeat (first | (with_reducible first | exact HB.out | apply below_alloc | apply pw_below_drewN | apply below_drew1) | exact HB.out)) hb); clear HO704; clear HB; have HO704 := n0_; have HB := n1_; clear n0_ n1_; (try clear hb); (try clear hb2); (try clear hk); (try clear hi)) | ((with_reducible refine gate_callee (f := 17) rfl ?_); refine goesL_ (some 27) rfl rfl Tryd.func17 (by kernel_rfl) rfl #[] rfl (by (try simp only [List.map_toArray, List.map_cons, List.map_nil]); first | done | rfl | (simp only [List.length_drop, List.length_take]; rfl)) ?_; (with_reducible refine (insolvencylaw1_awake.calls k  true _ A7.out).mono ?_); rintro e w18 ⟨rfl, hb⟩; refine ⟨_, rfl, ?_⟩; have n0_ := Aside0.mk (Kd.R_below (by (with_reducible repeat (first | apply Kd.R_alloc | apply Kd.R_drewN | apply Kd.R_drew)); exact HO704.out) hb); have n1_ := Aside0.mk (below_step (by repeat (first | (with_reducible first | exact HB.out | apply below_alloc | apply pw_below_drewN | apply below_drew1) | exact HB.out)) hb); clear HO704; clear HB; have HO704 := n0_; have HB := n1_; clear n0_ n1_; (try clear hb); (try clear hb2); (try clear hk); (try clear hi)) | (go_at_call 24; (with_reducible refine (natural_Add.calls k a0 a1 t712 _ A9.out).mono ?_); rintro e w19 ⟨rfl, hb⟩; have n0_ := Aside0.mk (Kd.R_below (by (with_reducible repeat (first | apply Kd.R_alloc | apply Kd.R_drewN | apply Kd.R_drew)); exact HO704.out) hb); have n1_ := Aside0.mk (below_step (by repeat (first | (with_reducible first | exact HB.out | apply below_alloc | apply pw_below_drewN | apply below_drew1) | exact HB.out)) hb); clear HO704; clear HB; have HO704 := n0_; have HB := n1_; clear n0_ n1_; (try clear hb); (try clear hb2); (try clear hk); (try clear hi)) | (go_at_call 40; (with_reducible refine (insolvencyref1_NatAdd.calls k a0 a1 t713 _ A10.out).mono ?_); rintro e w20 ⟨rfl, hb⟩; have n0_ := Aside0.mk (Kd.R_below (by (with_reducible repeat (first | apply Kd.R_alloc | apply Kd.R_drewN | apply Kd.R_drew)); exact HO704.out) hb); have n1_ := Aside0.mk (below_step (by repeat (first | (with_reducible first | exact HB.out | apply below_alloc | apply pw_below_drewN | apply below_drew1) | exact HB.out)) hb); clear HO704; clear HB; have HO704 := n0_; have HB := n1_; clear n0_ n1_; (try clear hb); (try clear hb2); (try clear hk); (try clear hi)))
         go_ret
         exact ⟨by first | rfl | (simp [errW_none, errW_some] <;> rfl) | (simp [*, errW_none, errW_some] <;> rfl), by repeat (first | (with_reducible first | exact HB.out | apply below_alloc | apply pw_below_drewN | apply below_drew1) | exact HB.out)⟩
       · rw [if_neg c12] at H
         have c12b0 : (t707.toList == t709.toList) = false := beq_eq_false_iff_ne.mpr c12
         have c12b1 : (t707.toList != t709.toList) = true := bne_iff_ne.mpr c12
         obtain rfl := Option.some.inj H
         go_enter Tryd.func14, Tryd.ntmps14
         go_wp2_with (first | ((with_reducible refine gate_dst (N := 11) rfl ?_); refine Kd.R_lit Kd.string _ 9 ?hg (N := 11) ?hd (xs := ([a0, a1] : List ByteArray)) (inner := [.string a0, .string a1]) (ok := fun _ => True) (okp := fun _ => True) ?hr ?hp (fun _ hk => hk) trivial (Below.refl _ _) (Nat.le_refl _) (by simp) ?_; (case hd => rfl); (case hg => rfl); (case hr => first | (go_simp; done) | (go_simp; rfl)); (case hp => exact (Reps.one (show Kd.M Kd.string _ _ _ a0 [.string a0] from rfl) (Reps.one (show Kd.M Kd.string _ _ _ a1 [.string a1] from rfl) (Reps.none _ _)))); intro v703 w21 ho22 hb hg_ hnew_; clear hg_ hnew_; (first | rw [← Ny702.out] at ho22 | (simp only [Int.reduceToNat] at ho22; rw [← Ny702.out] at ho22)); have n0_ := Aside0.mk (Kd.R_lower ho22 (below_size (by repeat (first | (with_reducible first | exact HB.out | apply below_alloc | apply pw_below_drewN | apply below_drew1) | exact HB.out)))); have n1_ := Aside0.mk (below_step (by repeat (first | (with_reducible first | exact HB.out | apply below_alloc | apply pw_below_drewN | apply below_drew1) | exact HB.out)) hb); clear HB; have HO704 := n0_; have HB := n1_; clear n0_ n1_; clear hb ho22; obtain ⟨Ao23, co23, eo23⟩ := Kd.R_slice HO704.out; subst eo23) | ((with_reducible refine gate_callee (f := 20) rfl ?_); refine goesL_ (some 12) rfl rfl Tryd.func20 (by kernel_rfl) rfl #[.slice Ao23 y702.length co23] rfl (by (try simp only [List.map_toArray, List.map_cons, List.map_nil]); first | done | rfl | (simp only [List.length_drop, List.length_take]; rfl)) ?_; (with_reducible refine (insolvencylaw1_few.calls k _ _ y702 true _ ?side1 ?side2 A3.out).mono ?_); (case side1 => repeat (first | exact (Kd.R_reads' HO704.out).2.2 | (with_reducible refine Kd.C_alloc ?_ _) | (with_reducible refine Kd.C_drewN ?_ _) | (with_reducible refine Kd.C_drew ?_))); (case side2 => exact (Kd.R_reads' HO704.out).2.1); rintro e w' ⟨rfl, ⟨nd, rfl⟩⟩; refine ⟨_, rfl, ?_⟩) | ((with_reducible refine gate_callee (f := 38) rfl ?_); refine goesL_ (some 18) rfl rfl Tryd.func38 (by kernel_rfl) rfl #[.string a0, .string a1] rfl (by (try simp only [List.map_toArray, List.map_cons, List.map_nil]); first | done | rfl | (simp only [List.length_drop, List.length_take]; rfl)) ?_; (with_reducible refine (natural_Subtract.calls k a0 a1 t707 t708 _ A5.out).mono ?_); rintro e w24 ⟨rfl, hb⟩; refine ⟨_, rfl, ?_⟩; have n0_ := Aside0.mk (Kd.R_below (by (with_reducible repeat (first | apply Kd.R_alloc | apply Kd.R_drewN | apply Kd.R_drew)); exact HO704.out) hb); have n1_ := Aside0.mk (below_step (by repeat (first | (with_reducible first | exact HB.out | apply below_alloc | apply pw_below_drewN | apply below_drew1) | exact HB.out)) hb); clear HO704; clear HB; have HO704 := n0_; have HB := n1_; clear n0_ n1_; (try clear hb); (try clear hb2); (try clear hk); (try clear hi)) | ((with_reducible refine gate_callee (f := 39) rfl ?_); refine goesL_ (some 24) rfl rfl Tryd.func39 (by kernel_rfl) rfl #[.string a0, .string a1] rfl (by (try simp only [List.map_toArray, List.map_cons, List.map_nil]); first | done | rfl | (simp only [List.length_drop, List.length_take]; rfl)) ?_; (with_reducible refine (insolvencyref1_NatSubtract.calls k a0 a1 t709 t710 _ A6.out).mono ?_); rintro e w25 ⟨rfl, hb⟩; refine ⟨_, rfl, ?_⟩; have n0_ := Aside0.mk (Kd.R_below (by (with_reducible repeat (first | apply Kd.R_alloc | apply Kd.R_drewN | apply Kd.R_drew)); exact HO704.out) hb); have n1_ := Aside0.mk (below_step (by repeat (first | (with_reducible first | exact HB.out | apply below_alloc | apply pw_below_drewN | apply below_drew1) | exact HB.out)) hb); clear HO704; clear HB; have HO704 := n0_; have HB := n1_; clear n0_ n1_; (try clear hb); (try clear hb2); (try clear hk); (try clear hi)) | ((with_reducible refine gate_callee (f := 17) rfl ?_); refine goesL_ (some 27) rfl rfl Tryd.func17 (by kernel_rfl) rfl #[] rfl (by (try simp only [List.map_toArray, List.map_cons, List.map_nil]); first | done | rfl | (simp only [List.length_drop, List.length_take]; rfl)) ?_; (with_reducible refine (insolvencylaw1_awake.calls k  true _ A7.out).mono ?_); rintro e w26 ⟨rfl, hb⟩; refine ⟨_, rfl, ?_⟩; have n0_ := Aside0.mk (Kd.R_below (by (with_reducible repeat (first | apply Kd.R_alloc | apply Kd.R_drewN | apply Kd.R_drew)); exact HO704.out) hb); have n1_ := Aside0.mk (below_step (by repeat (first | (with_reducible first | exact HB.out | apply below_alloc | apply pw_below_drewN | apply below_drew1) | exact HB.out)) hb); clear HO704; clear HB; have HO704 := n0_; have HB := n1_; clear n0_ n1_; (try clear hb); (try clear hb2); (try clear hk); (try clear hi)) | (go_at_call 24; (with_reducible refine (natural_Add.calls k a0 a1 t712 _ A9.out).mono ?_); rintro e w27 ⟨rfl, hb⟩; have n0_ := Aside0.mk (Kd.R_below (by (with_reducible repeat (first | apply Kd.R_alloc | apply Kd.R_drewN | apply Kd.R_drew)); exact HO704.out) hb); have n1_ := Aside0.mk (below_step (by repeat (first | (with_reducible first | exact HB.out | apply below_alloc | apply pw_below_drewN | apply below_drew1) | exact HB.out)) hb); clear HO704; clear HB; have HO704 := n0_; have HB := n1_; clear n0_ n1_; (try clear hb); (try clear hb2); (try clear hk); (try clear hi)) | (go_at_call 40; (with_reducible refine (insolvencyref1_NatAdd.calls k a0 a1 t713 _ A10.out).mono ?_); rintro e w28 ⟨rfl, hb⟩; have n0_ := Aside0.mk (Kd.R_below (by (with_reducible repeat (first | apply Kd.R_alloc | apply Kd.R_drewN | apply Kd.R_drew)); exact HO704.out) hb); have n1_ := Aside0.mk (below_step (by repeat (first | (with_reducible first | exact HB.out | apply below_alloc | apply pw_below_drewN | apply below_drew1) | exact HB.out)) hb); clear HO704; clear HB; have HO704 := n0_; have HB := n1_; clear n0_ n1_; (try clear hb); (try clear hb2); (try clear hk); (try clear hi)))
         go_ret
         exact ⟨by first | rfl | (simp [errW_none, errW_some] <;> rfl) | (simp [*, errW_none, errW_some] <;> rfl), by repeat (first | (with_reducible first | exact HB.out | apply below_alloc | apply pw_below_drewN | apply below_drew1) | exact HB.out)⟩
     · rw [if_neg c11] at H
       have c11b0 : (t712.toList == t713.toList) = false := beq_eq_false_iff_ne.mpr c11
       have c11b1 : (t712.toList != t713.toList) = true := bne_iff_ne.mpr c11
       obtain rfl := Option.some.inj H
       go_enter Tryd.func14, Tryd.ntmps14
       go_wp2_with (first | ((with_reducible refine gate_dst (N := 11) rfl ?_); refine Kd.R_lit Kd.string _ 9 ?hg (N := 11) ?hd (xs := ([a0, a1] : List ByteArray)) (inner := [.string a0, .string a1]) (ok := fun _ => True) (okp := fun _ => True) ?hr ?hp (fun _ hk => hk) trivial (Below.refl _ _) (Nat.le_refl _) (by simp) ?_; (case hd => rfl); (case hg => rfl); (case hr => first | (go_simp; done) | (go_simp; rfl)); (case hp => exact (Reps.one (show Kd.M Kd.string _ _ _ a0 [.string a0] from rfl) (Reps.one (show Kd.M Kd.string _ _ _ a1 [.string a1] from rfl) (Reps.none _ _)))); intro v703 w29 ho30 hb hg_ hnew_; clear hg_ hnew_; (first | rw [← Ny702.out] at ho30 | (simp only [Int.reduceToNat] at ho30; rw [← Ny702.out] at ho30)); have n0_ := Aside0.mk (Kd.R_lower ho30 (below_size (by repeat (first | (with_reducible first | exact HB.out | apply below_alloc | apply pw_below_drewN | apply below_drew1) | exact HB.out)))); have n1_ := Aside0.mk (below_step (by repeat (first | (with_reducible first | exact HB.out | apply below_alloc | apply pw_below_drewN | apply below_drew1) | exact HB.out)) hb); clear HB; have HO704 := n0_; have HB := n1_; clear n0_ n1_; clear hb ho30; obtain ⟨Ao31, co31, eo31⟩ := Kd.R_slice HO704.out; subst eo31) | ((with_reducible refine gate_callee (f := 20) rfl ?_); refine goesL_ (some 12) rfl rfl Tryd.func20 (by kernel_rfl) rfl #[.slice Ao31 y702.length co31] rfl (by (try simp only [List.map_toArray, List.map_cons, List.map_nil]); first | done | rfl | (simp only [List.length_drop, List.length_take]; rfl)) ?_; (with_reducible refine (insolvencylaw1_few.calls k _ _ y702 true _ ?side1 ?side2 A3.out).mono ?_); (case side1 => repeat (first | exact (Kd.R_reads' HO704.out).2.2 | (with_reducible refine Kd.C_alloc ?_ _) | (with_reducible refine Kd.C_drewN ?_ _) | (with_reducible refine Kd.C_drew ?_))); (case side2 => exact (Kd.R_reads' HO704.out).2.1); rintro e w' ⟨rfl, ⟨nd, rfl⟩⟩; refine ⟨_, rfl, ?_⟩) | ((with_reducible refine gate_callee (f := 38) rfl ?_); refine goesL_ (some 18) rfl rfl Tryd.func38 (by kernel_rfl) rfl #[.string a0, .string a1] rfl (by (try simp only [List.map_toArray, List.map_cons, List.map_nil]); first | done | rfl | (simp only [List.length_drop, List.length_take]; rfl)) ?_; (with_reducible refine (natural_Subtract.calls k a0 a1 t707 t708 _ A5.out).mono ?_); rintro e w32 ⟨rfl, hb⟩; refine ⟨_, rfl, ?_⟩; have n0_ := Aside0.mk (Kd.R_below (by (with_reducible repeat (first | apply Kd.R_alloc | apply Kd.R_drewN | apply Kd.R_drew)); exact HO704.out) hb); have n1_ := Aside0.mk (below_step (by repeat (first | (with_reducible first | exact HB.out | apply below_alloc | apply pw_below_drewN | apply below_drew1) | exact HB.out)) hb); clear HO704; clear HB; have HO704 := n0_; have HB := n1_; clear n0_ n1_; (try clear hb); (try clear hb2); (try clear hk); (try clear hi)) | ((with_reducible refine gate_callee (f := 39) rfl ?_); refine goesL_ (some 24) rfl rfl Tryd.func39 (by kernel_rfl) rfl #[.string a0, .string a1] rfl (by (try simp only [List.map_toArray, List.map_cons, List.map_nil]); first | done | rfl | (simp only [List.length_drop, List.length_take]; rfl)) ?_; (with_reducible refine (insolvencyref1_NatSubtract.calls k a0 a1 t709 t710 _ A6.out).mono ?_); rintro e w33 ⟨rfl, hb⟩; refine ⟨_, rfl, ?_⟩; have n0_ := Aside0.mk (Kd.R_below (by (with_reducible repeat (first | apply Kd.R_alloc | apply Kd.R_drewN | apply Kd.R_drew)); exact HO704.out) hb); have n1_ := Aside0.mk (below_step (by repeat (first | (with_reducible first | exact HB.out | apply below_alloc | apply pw_below_drewN | apply below_drew1) | exact HB.out)) hb); clear HO704; clear HB; have HO704 := n0_; have HB := n1_; clear n0_ n1_; (try clear hb); (try clear hb2); (try clear hk); (try clear hi)) | ((with_reducible refine gate_callee (f := 17) rfl ?_); refine goesL_ (some 27) rfl rfl Tryd.func17 (by kernel_rfl) rfl #[] rfl (by (try simp only [List.map_toArray, List.map_cons, List.map_nil]); first | done | rfl | (simp only [List.length_drop, List.length_take]; rfl)) ?_; (with_reducible refine (insolvencylaw1_awake.calls k  true _ A7.out).mono ?_); rintro e w34 ⟨rfl, hb⟩; refine ⟨_, rfl, ?_⟩; have n0_ := Aside0.mk (Kd.R_below (by (with_reducible repeat (first | apply Kd.R_alloc | apply Kd.R_drewN | apply Kd.R_drew)); exact HO704.out) hb); have n1_ := Aside0.mk (below_step (by repeat (first | (with_reducible first | exact HB.out | apply below_alloc | apply pw_below_drewN | apply below_drew1) | exact HB.out)) hb); clear HO704; clear HB; have HO704 := n0_; have HB := n1_; clear n0_ n1_; (try clear hb); (try clear hb2); (try clear hk); (try clear hi)) | (go_at_call 24; (with_reducible refine (natural_Add.calls k a0 a1 t712 _ A9.out).mono ?_); rintro e w35 ⟨rfl, hb⟩; have n0_ := Aside0.mk (Kd.R_below (by (with_reducible repeat (first | apply Kd.R_alloc | apply Kd.R_drewN | apply Kd.R_drew)); exact HO704.out) hb); have n1_ := Aside0.mk (below_step (by repeat (first | (with_reducible first | exact HB.out | apply below_alloc | apply pw_below_drewN | apply below_drew1) | exact HB.out)) hb); clear HO704; clear HB; have HO704 := n0_; have HB := n1_; clear n0_ n1_; (try clear hb); (try clear hb2); (try clear hk); (try clear hi)) | (go_at_call 40; (with_reducible refine (insolvencyref1_NatAdd.calls k a0 a1 t713 _ A10.out).mono ?_); rintro e w36 ⟨rfl, hb⟩; have n0_ := Aside0.mk (Kd.R_below (by (with_reducible repeat (first | apply Kd.R_alloc | apply Kd.R_drewN | apply Kd.R_drew)); exact HO704.out) hb); have n1_ := Aside0.mk (below_step (by repeat (first | (with_reducible first | exact HB.out | apply below_alloc | apply pw_below_drewN | apply below_drew1) | exact HB.out)) hb); clear HO704; clear HB; have HO704 := n0_; have HB := n1_; clear n0_ n1_; (try clear hb); (try clear hb2); (try clear hk); (try clear hi)))
       go_ret
       exact ⟨by first | rfl | (simp [errW_none, errW_some] <;> rfl) | (simp [*, errW_none, errW_some] <;> rfl), by repeat (first | (with_reducible first | exact HB.out | apply below_alloc | apply pw_below_drewN | apply below_drew1) | exact HB.out)⟩
   · replace c8 := Bool.eq_false_iff.mpr c8
     subst c8
     have H1 : (some false) = some r := by rw [if_neg (show ¬ (false = true) by decide)] at H; exact H
     clear H
     have H := H1
     clear H1
     obtain rfl := Option.some.inj H
     go_enter Tryd.func14, Tryd.ntmps14
     go_wp2_with (first | ((with_reducible refine gate_dst (N := 11) rfl ?_); refine Kd.R_lit Kd.string _ 9 ?hg (N := 11) ?hd (xs := ([a0, a1] : List ByteArray)) (inner := [.string a0, .string a1]) (ok := fun _ => True) (okp := fun _ => True) ?hr ?hp (fun _ hk => hk) trivial (Below.refl _ _) (Nat.le_refl _) (by simp) ?_; (case hd => rfl); (case hg => rfl); (case hr => first | (go_simp; done) | (go_simp; rfl)); (case hp => exact (Reps.one (show Kd.M Kd.string _ _ _ a0 [.string a0] from rfl) (Reps.one (show Kd.M Kd.string _ _ _ a1 [.string a1] from rfl) (Reps.none _ _)))); intro v703 w37 ho38 hb hg_ hnew_; clear hg_ hnew_; (first | rw [← Ny702.out] at ho38 | (simp only [Int.reduceToNat] at ho38; rw [← Ny702.out] at ho38)); have n0_ := Aside0.mk (Kd.R_lower ho38 (below_size (by repeat (first | (with_reducible first | exact HB.out | apply below_alloc | apply pw_below_drewN | apply below_drew1) | exact HB.out)))); have n1_ := Aside0.mk (below_step (by repeat (first | (with_reducible first | exact HB.out | apply below_alloc | apply pw_below_drewN | apply below_drew1) | exact HB.out)) hb); clear HB; have HO704 := n0_; have HB := n1_; clear n0_ n1_; clear hb ho38; obtain ⟨Ao39, co39, eo39⟩ := Kd.R_slice HO704.out; subst eo39) | ((with_reducible refine gate_callee (f := 20) rfl ?_); refine goesL_ (some 12) rfl rfl Tryd.func20 (by kernel_rfl) rfl #[.slice Ao39 y702.length co39] rfl (by (try simp only [List.map_toArray, List.map_cons, List.map_nil]); first | done | rfl | (simp only [List.length_drop, List.length_take]; rfl)) ?_; (with_reducible refine (insolvencylaw1_few.calls k _ _ y702 true _ ?side1 ?side2 A3.out).mono ?_); (case side1 => repeat (first | exact (Kd.R_reads' HO704.out).2.2 | (with_reducible refine Kd.C_alloc ?_ _) | (with_reducible refine Kd.C_drewN ?_ _) | (with_reducible refine Kd.C_drew ?_))); (case side2 => exact (Kd.R_reads' HO704.out).2.1); rintro e w' ⟨rfl, ⟨nd, rfl⟩⟩; refine ⟨_, rfl, ?_⟩) | ((with_reducible refine gate_callee (f := 38) rfl ?_); refine goesL_ (some 18) rfl rfl Tryd.func38 (by kernel_rfl) rfl #[.string a0, .string a1] rfl (by (try simp only [List.map_toArray, List.map_cons, List.map_nil]); first | done | rfl | (simp only [List.length_drop, List.length_take]; rfl)) ?_; (with_reducible refine (natural_Subtract.calls k a0 a1 t707 t708 _ A5.out).mono ?_); rintro e w40 ⟨rfl, hb⟩; refine ⟨_, rfl, ?_⟩; have n0_ := Aside0.mk (Kd.R_below (by (with_reducible repeat (first | apply Kd.R_alloc | apply Kd.R_drewN | apply Kd.R_drew)); exact HO704.out) hb); have n1_ := Aside0.mk (below_step (by repeat (first | (with_reducible first | exact HB.out | apply below_alloc | apply pw_below_drewN | apply below_drew1) | exact HB.out)) hb); clear HO704; clear HB; have HO704 := n0_; have HB := n1_; clear n0_ n1_; (try clear hb); (try clear hb2); (try clear hk); (try clear hi)) | ((with_reducible refine gate_callee (f := 39) rfl ?_); refine goesL_ (some 24) rfl rfl Tryd.func39 (by kernel_rfl) rfl #[.string a0, .string a1] rfl (by (try simp only [List.map_toArray, List.map_cons, List.map_nil]); first | done | rfl | (simp only [List.length_drop, List.length_take]; rfl)) ?_; (with_reducible refine (insolvencyref1_NatSubtract.calls k a0 a1 t709 t710 _ A6.out).mono ?_); rintro e w41 ⟨rfl, hb⟩; refine ⟨_, rfl, ?_⟩; have n0_ := Aside0.mk (Kd.R_below (by (with_reducible repeat (first | apply Kd.R_alloc | apply Kd.R_drewN | apply Kd.R_drew)); exact HO704.out) hb); have n1_ := Aside0.mk (below_step (by repeat (first | (with_reducible first | exact HB.out | apply below_alloc | apply pw_below_drewN | apply below_drew1) | exact HB.out)) hb); clear HO704; clear HB; have HO704 := n0_; have HB := n1_; clear n0_ n1_; (try clear hb); (try clear hb2); (try clear hk); (try clear hi)) | ((with_reducible refine gate_callee (f := 17) rfl ?_); refine goesL_ (some 27) rfl rfl Tryd.func17 (by kernel_rfl) rfl #[] rfl (by (try simp only [List.map_toArray, List.map_cons, List.map_nil]); first | done | rfl | (simp only [List.length_drop, List.length_take]; rfl)) ?_; (with_reducible refine (insolvencylaw1_awake.calls k  false _ A7.out).mono ?_); rintro e w42 ⟨rfl, hb⟩; refine ⟨_, rfl, ?_⟩; have n0_ := Aside0.mk (Kd.R_below (by (with_reducible repeat (first | apply Kd.R_alloc | apply Kd.R_drewN | apply Kd.R_drew)); exact HO704.out) hb); have n1_ := Aside0.mk (below_step (by repeat (first | (with_reducible first | exact HB.out | apply below_alloc | apply pw_below_drewN | apply below_drew1) | exact HB.out)) hb); clear HO704; clear HB; have HO704 := n0_; have HB := n1_; clear n0_ n1_; (try clear hb); (try clear hb2); (try clear hk); (try clear hi)))
     go_ret
     exact ⟨by first | rfl | (simp [errW_none, errW_some] <;> rfl) | (simp [*, errW_none, errW_some] <;> rfl), by repeat (first | (with_reducible first | exact HB.out | apply below_alloc | apply pw_below_drewN | apply below_drew1) | exact HB.out)⟩
 · replace c4 := Bool.eq_false_iff.mpr c4
   subst c4
   have H1 : ((insolvencylaw1_awake.f k).bind fun t706 => (some t706)) = some r := by rw [if_neg (show ¬ (false = true) by decide)] at H; exact H
   clear H
   have H := H1
   clear H1
   replace H := Option.bind_eq_some_iff.mp H
   obtain ⟨t706, A430, H⟩ := H
   replace H : (some t706) = some r := H
   have A43 := Aside0.mk A430
   clear A430
   obtain rfl := Option.some.inj H
   go_enter Tryd.func14, Tryd.ntmps14
   go_wp2_with (first | ((with_reducible refine gate_dst (N := 11) rfl ?_); refine Kd.R_lit Kd.string _ 9 ?hg (N := 11) ?hd (xs := ([a0, a1] : List ByteArray)) (inner := [.string a0, .string a1]) (ok := fun _ => True) (okp := fun _ => True) ?hr ?hp (fun _ hk => hk) trivial (Below.refl _ _) (Nat.le_refl _) (by simp) ?_; (case hd => rfl); (case hg => rfl); (case hr => first | (go_simp; done) | (go_simp; rfl)); (case hp => exact (Reps.one (show Kd.M Kd.string _ _ _ a0 [.string a0] from rfl) (Reps.one (show Kd.M Kd.string _ _ _ a1 [.string a1] from rfl) (Reps.none _ _)))); intro v703 w44 ho45 hb hg_ hnew_; clear hg_ hnew_; (first | rw [← Ny702.out] at ho45 | (simp only [Int.reduceToNat] at ho45; rw [← Ny702.out] at ho45)); have n0_ := Aside0.mk (Kd.R_lower ho45 (below_size (by repeat (first | (with_reducible first | exact HB.out | apply below_alloc | apply pw_below_drewN | apply below_drew1) | exact HB.out)))); have n1_ := Aside0.mk (below_step (by repeat (first | (with_reducible first | exact HB.out | apply below_alloc | apply pw_below_drewN | apply below_drew1) | exact HB.out)) hb); clear HB; have HO704 := n0_; have HB := n1_; clear n0_ n1_; clear hb ho45; obtain ⟨Ao46, co46, eo46⟩ := Kd.R_slice HO704.out; subst eo46) | ((with_reducible refine gate_callee (f := 20) rfl ?_); refine goesL_ (some 12) rfl rfl Tryd.func20 (by kernel_rfl) rfl #[.slice Ao46 y702.length co46] rfl (by (try simp only [List.map_toArray, List.map_cons, List.map_nil]); first | done | rfl | (simp only [List.length_drop, List.length_take]; rfl)) ?_; (with_reducible refine (insolvencylaw1_few.calls k _ _ y702 false _ ?side1 ?side2 A3.out).mono ?_); (case side1 => repeat (first | exact (Kd.R_reads' HO704.out).2.2 | (with_reducible refine Kd.C_alloc ?_ _) | (with_reducible refine Kd.C_drewN ?_ _) | (with_reducible refine Kd.C_drew ?_))); (case side2 => exact (Kd.R_reads' HO704.out).2.1); rintro e w' ⟨rfl, ⟨nd, rfl⟩⟩; refine ⟨_, rfl, ?_⟩) | ((with_reducible refine gate_callee (f := 17) rfl ?_); refine goesL_ (some 14) rfl rfl Tryd.func17 (by kernel_rfl) rfl #[] rfl (by (try simp only [List.map_toArray, List.map_cons, List.map_nil]); first | done | rfl | (simp only [List.length_drop, List.length_take]; rfl)) ?_; (with_reducible refine (insolvencylaw1_awake.calls k  t706 _ A43.out).mono ?_); rintro e w47 ⟨rfl, hb⟩; refine ⟨_, rfl, ?_⟩; have n0_ := Aside0.mk (Kd.R_below (by (with_reducible repeat (first | apply Kd.R_alloc | apply Kd.R_drewN | apply Kd.R_drew)); exact HO704.out) hb); have n1_ := Aside0.mk (below_step (by repeat (first | (with_reducible first | exact HB.out | apply below_alloc | apply pw_below_drewN | apply below_drew1) | exact HB.out)) hb); clear HO704; clear HB; have HO704 := n0_; have HB := n1_; clear n0_ n1_; (try clear hb); (try clear hb2); (try clear hk); (try clear hi)))
   go_ret
   exact ⟨by first | rfl | (simp [errW_none, errW_some] <;> rfl) | (simp [*, errW_none, errW_some] <;> rfl), by repeat (first | (with_reducible first | exact HB.out | apply below_alloc | apply pw_below_drewN | apply below_drew1) | exact HB.out)⟩
def insolvencylaw1_NaturalSum.Pure : Prop := ∀ (a0 : ByteArray) (a1 : ByteArray), a0.size ≤ 140737488351232 → a1.size ≤ 140737488351232 → ∃ k, insolvencylaw1_NaturalSum.f k a0 a1 = some true
theorem insolvencylaw1_NaturalSum.walk (P : insolvencylaw1_NaturalSum.Pure) (a0 : ByteArray) (a1 : ByteArray) (w : World) (w0 : a0.size ≤ 140737488351232) (w1 : a1.size ≤ 140737488351232) :
 Calls Tryd.prog 14 #[.string a0, .string a1] w fun e w' => e = .returned (.bool true) ∧ Below w.heap.size w w' := by
 obtain ⟨k, h⟩ := P a0 a1 w0 w1
 refine (insolvencylaw1_NaturalSum.calls k a0 a1 true w h).mono ?_
 rintro e w' ⟨rfl, hd⟩
 exact ⟨rfl, hd⟩
end Go.Proofs.YtjaflmhdclmolaaDoor.F
end
section
namespace Go.Proofs.YtjaflmhdclmolaaDoor.Num
open Go.RowKit Go.Proofs.YtjaflmhdclmolaaDoorW.PrintWords Go.Proofs.YtjaflmhdclmolaaDoorW.PrintLast Go.Proofs.YtjaflmhdclmolaaDoorW.PrintMore
theorem w64 {n : Int} (h0 : -9223372036854775808 ≤ n) (h1 : n ≤ 9223372036854775807) : wrap64 n = n := by unfold wrap64; omega
theorem wu {n : Int} (h0 : 0 ≤ n) (h1 : n ≤ 18446744073709551615) : IntKind.u64.wrap n = n := IntWalk.u64_in n ⟨h0, h1⟩
theorem rd_at (d : List Int) (x : Int) (r : List Int) (i : Int) (h : i = d.length) : rd (d ++ x :: r) i = x := by
 subst h
 unfold rd
 rw [Int.toNat_natCast, List.getD_eq_getElem?_getD, List.getElem?_append_right (Nat.le_refl _), Nat.sub_self]
 rfl
theorem set_at (d : List Int) (x y : Int) (r : List Int) (i : Int) (h : i = d.length) : (d ++ x :: r).set i.toNat y = d ++ y :: r := by
 subst h
 rw [Int.toNat_natCast, List.set_append_right _ _ (Nat.le_refl _), Nat.sub_self]
 rfl
theorem split_at (l : List Int) (i : Nat) (h : i < l.length) : ∃ d x r, l = d ++ x :: r ∧ d.length = i :=
 ⟨l.take i, l[i], l.drop (i + 1), by rw [List.getElem_cons_drop, List.take_append_drop], by simp; omega⟩
def val : List Int → Int
 | [] => 0
 | x :: r => x + 4294967296 * val r
def Dig (l : List Int) : Prop := ∀ x ∈ l, 0 ≤ x ∧ x < 4294967296
def Nz : List Int → Prop
 | [] => True
 | [x] => x ≠ 0
 | _ :: y :: r => Nz (y :: r)
def Is (l : List Int) (n : Int) : Prop := Dig l ∧ Nz l ∧ val l = n
theorem Dig.nil : Dig [] := fun _ h => by cases h
theorem Dig.cons {x : Int} {r : List Int} (h0 : 0 ≤ x) (h1 : x < 4294967296) (h : Dig r) : Dig (x :: r) := fun y hy => by
 rcases List.mem_cons.1 hy with rfl | hy
 · exact ⟨h0, h1⟩
 · exact h y hy
theorem Dig.head {x : Int} {r : List Int} (h : Dig (x :: r)) : 0 ≤ x ∧ x < 4294967296 := h x List.mem_cons_self
theorem Dig.tail {x : Int} {r : List Int} (h : Dig (x :: r)) : Dig r := fun y hy => h y (List.mem_cons_of_mem _ hy)
theorem Dig.app {a b : List Int} (ha : Dig a) (hb : Dig b) : Dig (a ++ b) := fun y hy => by
 rcases List.mem_append.1 hy with hy | hy
 · exact ha y hy
 · exact hb y hy
theorem Dig.left {a b : List Int} (h : Dig (a ++ b)) : Dig a := fun y hy => h y (List.mem_append_left _ hy)
theorem Dig.zeros (n : Nat) : Dig (List.replicate n 0) := fun y hy => by rw [(List.mem_replicate.1 hy).2]; decide
theorem Dig.at {l : List Int} (h : Dig l) (i : Int) : 0 ≤ rd l i ∧ rd l i < 4294967296 := by
 unfold rd
 rw [List.getD_eq_getElem?_getD]
 by_cases hi : i.toNat < l.length
 · rw [List.getElem?_eq_getElem hi]
   exact h _ (List.getElem_mem hi)
 · rw [List.getElem?_eq_none (by omega)]
   exact ⟨by decide, by decide⟩
theorem Dig.take {l : List Int} (h : Dig l) (n : Nat) : Dig (l.take n) := fun y hy => h y (List.mem_of_mem_take hy)
theorem Dig.drop {l : List Int} (h : Dig l) (n : Nat) : Dig (l.drop n) := fun y hy => h y (List.mem_of_mem_drop hy)
theorem val_nonneg {l : List Int} (h : Dig l) : 0 ≤ val l := by
 induction l with
 | nil => exact Int.le_refl _
 | cons x r ih =>
  have := ih h.tail
  have := h.head
  simp only [val]; omega
theorem val_app (a b : List Int) : val (a ++ b) = val a + 4294967296 ^ a.length * val b := by
 induction a with
 | nil => simp [val]
 | cons x r ih =>
  simp only [List.cons_append, val, List.length_cons, ih, Int.pow_succ]
  rw [Int.mul_add, Int.add_assoc, ← Int.mul_assoc, Int.mul_comm 4294967296 (4294967296 ^ r.length)]
theorem val_zeros (n : Nat) : val (List.replicate n 0) = 0 := by
 induction n with
 | zero => rfl
 | succ n ih => rw [List.replicate_succ, val, ih]; rfl
theorem pw (n : Nat) : (0 : Int) < 4294967296 ^ n := Int.pow_pos (by decide)
theorem val_lt {l : List Int} (h : Dig l) : val l < 4294967296 ^ l.length := by
 induction l with
 | nil => decide
 | cons x r ih =>
  have := ih h.tail
  have := h.head
  simp only [val, List.length_cons, Int.pow_succ]; omega
theorem Nz.tail {x : Int} {r : List Int} (h : Nz (x :: r)) : Nz r := by
 cases r with
 | nil => trivial
 | cons y r => exact h
theorem val_pos {l : List Int} (hd : Dig l) (hz : Nz l) (hne : l ≠ []) : 0 < val l := by
 induction l with
 | nil => exact absurd rfl hne
 | cons x r ih =>
  have h0 := hd.head
  cases r with
  | nil => have : x ≠ 0 := hz; simp only [val]; omega
  | cons y r => have := ih hd.tail hz.tail (by simp); simp only [val] at this ⊢; omega
theorem Is.unique {a b : List Int} {n : Int} (ha : Is a n) (hb : Is b n) : a = b := by
 induction a generalizing b n with
 | nil =>
  cases b with
  | nil => rfl
  | cons y s =>
   have h1 := ha.2.2
   have h2 := hb.2.2
   have := val_pos hb.1 hb.2.1 (by simp)
   simp only [val] at h1 h2 this; omega
 | cons x r ih =>
  cases b with
  | nil =>
   have h1 := ha.2.2
   have h2 := hb.2.2
   have := val_pos ha.1 ha.2.1 (by simp)
   simp only [val] at h1 h2 this; omega
  | cons y s =>
   have h1 := ha.2.2
   have h2 := hb.2.2
   have a0 := ha.1.head
   have b0 := hb.1.head
   simp only [val] at h1 h2
   have e1 : x = y := by omega
   have e2 : val r = val s := by omega
   rw [e1, ih ⟨ha.1.tail, ha.2.1.tail, rfl⟩ ⟨hb.1.tail, hb.2.1.tail, e2.symm⟩]
theorem Is.nil : Is [] 0 := ⟨Dig.nil, trivial, rfl⟩
theorem Is.pos {l : List Int} {n : Int} (h : Is l n) (hne : l ≠ []) : 0 < n := h.2.2 ▸ val_pos h.1 h.2.1 hne
theorem Is.nonneg {l : List Int} {n : Int} (h : Is l n) : 0 ≤ n := h.2.2 ▸ val_nonneg h.1
theorem Is.one {x : Int} (h0 : 0 < x) (h1 : x < 4294967296) : Is [x] x := ⟨Dig.cons (by omega) h1 Dig.nil, by show x ≠ 0; omega, by simp [val]⟩
theorem Nz.app {a : List Int} {x : Int} (hx : x ≠ 0) : Nz (a ++ [x]) := by
 induction a with
 | nil => exact hx
 | cons y a ih =>
  cases a with
  | nil => exact hx
  | cons z a => exact ih
def tr : List Int → List Int
 | [] => []
 | x :: r => match tr r with
  | [] => if x = 0 then [] else [x]
  | y :: s => x :: y :: s
theorem tr_val (l : List Int) : val (tr l) = val l := by
 induction l with
 | nil => rfl
 | cons x r ih =>
  simp only [tr]
  cases h : tr r with
  | nil =>
   rw [h] at ih
   simp only [val] at ih ⊢
   split
   · simp only [val]; omega
   · simp only [val]; omega
  | cons y s => rw [h] at ih; simp only [val] at ih ⊢; omega
theorem tr_nz (l : List Int) : Nz (tr l) := by
 induction l with
 | nil => trivial
 | cons x r ih =>
  simp only [tr]
  cases h : tr r with
  | nil =>
   simp only
   split
   · trivial
   · assumption
  | cons y s => rw [h] at ih; exact ih
theorem tr_dig {l : List Int} (hd : Dig l) : Dig (tr l) := by
 induction l with
 | nil => exact Dig.nil
 | cons x r ih =>
  have ih := ih hd.tail
  have h0 := hd.head
  simp only [tr]
  cases h : tr r with
  | nil =>
   simp only
   split
   · exact Dig.nil
   · exact Dig.cons h0.1 h0.2 Dig.nil
  | cons y s => rw [h] at ih; exact Dig.cons h0.1 h0.2 ih
theorem tr_is {l : List Int} (hd : Dig l) : Is (tr l) (val l) := ⟨tr_dig hd, tr_nz l, tr_val l⟩
theorem tr_app_zero (l : List Int) : tr (l ++ [0]) = tr l := by
 induction l with
 | nil => rfl
 | cons x r ih => simp only [List.cons_append, tr, ih]
theorem tr_app_ne {l : List Int} {x : Int} (hx : x ≠ 0) : tr (l ++ [x]) = l ++ [x] := by
 induction l with
 | nil => simp [tr, hx]
 | cons y r ih =>
  simp only [List.cons_append, tr, ih]
  cases r with
  | nil => rfl
  | cons z r => rfl
theorem tr_len (l : List Int) : (tr l).length ≤ l.length := by
 induction l with
 | nil => exact Nat.le_refl _
 | cons x r ih =>
  simp only [tr]
  cases h : tr r with
  | nil =>
   simp only
   split <;> simp
  | cons y s => rw [h] at ih; simp only [List.length_cons] at ih ⊢; omega
def bev (l : List UInt8) : Nat := l.foldl (fun a b => a * 256 + b.toNat) 0
theorem bev_snoc (l : List UInt8) (b : UInt8) : bev (l ++ [b]) = bev l * 256 + b.toNat := by
 unfold bev; rw [List.foldl_append]; rfl
theorem bev_nil : bev [] = 0 := rfl
def digs (n : Nat) : List UInt8 := if _h : n = 0 then [] else digs (n / 256) ++ [UInt8.ofNat n]
termination_by n
theorem digs_zero : digs 0 = [] := by rw [digs]; rfl
theorem digs_pos {n : Nat} (h : n ≠ 0) : digs n = digs (n / 256) ++ [UInt8.ofNat n] := by rw [digs]; rw [dif_neg h]
theorem snoc_cases {α : Type} (l : List α) : l = [] ∨ ∃ a x, l = a ++ [x] := by
 rcases List.eq_nil_or_concat l with h | ⟨a, x, h⟩
 · exact .inl h
 · exact .inr ⟨a, x, by rw [h, List.concat_eq_append]⟩
theorem snoc_ind {α : Type} {P : List α → Prop} (h0 : P []) (h1 : ∀ a x, P a → P (a ++ [x])) : ∀ (n : Nat) (l : List α), l.length = n → P l := by
 intro n
 induction n with
 | zero => intro l h; rw [List.eq_nil_of_length_eq_zero h]; exact h0
 | succ n ih =>
  intro l h
  rcases snoc_cases l with rfl | ⟨a, x, rfl⟩
  · simp at h
  · exact h1 a x (ih a (by simp at h; omega))
theorem canon (l : List UInt8) : l.dropWhile (fun b => b == 0) = digs (bev l) := by
 refine snoc_ind (P := fun l => l.dropWhile (fun b => b == 0) = digs (bev l)) ?_ ?_ l.length l rfl
 · rw [bev_nil, digs_zero]; rfl
 · intro a x ih
   rw [bev_snoc, List.dropWhile_append, ih]
   have hx := x.toNat_lt
   by_cases hv : bev a = 0
   · rw [hv, digs_zero]
     simp only [List.isEmpty_nil, if_true, Nat.zero_mul, Nat.zero_add]
     by_cases h : x.toNat = 0
     · have hx0 : x = 0 := UInt8.toNat_inj.1 h
       rw [h, digs_zero, hx0]
       rfl
     · have hne : (x == 0) = false := by
        rw [beq_eq_false_iff_ne]
        intro e
        rw [e] at h
        exact h rfl
       rw [digs_pos h, Nat.div_eq_of_lt (by omega), digs_zero]
       simp [List.dropWhile, hne]
   · have hn : bev a * 256 + x.toNat ≠ 0 := by omega
     have hne : (digs (bev a)).isEmpty = false := by rw [digs_pos hv]; simp
     rw [hne, digs_pos hn]
     have e1 : (bev a * 256 + x.toNat) / 256 = bev a := by omega
     have e2 : UInt8.ofNat (bev a * 256 + x.toNat) = x := by
      apply UInt8.toNat_inj.1
      rw [UInt8.toNat_ofNat']
      omega
     rw [e1, e2]
     rfl
theorem bev_digs (n : Nat) : bev (digs n) = n := by
 induction n using Nat.strongRecOn with
 | _ n ih =>
  by_cases h : n = 0
  · rw [h, digs_zero]; rfl
  · rw [digs_pos h, bev_snoc, ih (n / 256) (by omega), UInt8.toNat_ofNat']
    omega
theorem digs_len (n m : Nat) (h : n < 256 ^ m) : (digs n).length ≤ m := by
 induction m generalizing n with
 | zero =>
  have : n = 0 := by simpa using h
  rw [this, digs_zero]
  exact Nat.le_refl _
 | succ m ih =>
  by_cases h0 : n = 0
  · rw [h0, digs_zero]; exact Nat.zero_le _
  · rw [digs_pos h0, List.length_append]
    have := ih (n / 256) (by rw [Nat.pow_succ] at h; omega)
    simp; omega
theorem bev_lt (l : List UInt8) : bev l < 256 ^ l.length := by
 refine snoc_ind (P := fun l => bev l < 256 ^ l.length) ?_ ?_ l.length l rfl
 · decide
 · intro a x ih
   rw [bev_snoc, List.length_append, List.length_singleton, Nat.pow_succ]
   have := x.toNat_lt
   omega
def S (n : Int) : ByteArray := ⟨(digs n.toNat).toArray⟩
def B (s : ByteArray) : Int := bev s.data.toList
theorem B_nonneg (s : ByteArray) : 0 ≤ B s := by unfold B; omega
theorem B_S {n : Int} (h : 0 ≤ n) : B (S n) = n := by
 unfold B S
 rw [show (⟨(digs n.toNat).toArray⟩ : ByteArray).data.toList = digs n.toNat from rfl, bev_digs]
 omega
theorem S_size {n : Int} {m : Nat} (h : n < 256 ^ m) : (S n).size ≤ m := by
 have h2 : (S n).size = (digs n.toNat).length := List.size_toArray
 rw [h2]
 refine digs_len _ _ ?_
 have e1 : ((256 ^ m : Nat) : Int) = (256 : Int) ^ m := Int.natCast_pow 256 m
 have e2 : (0 : Int) < (256 : Int) ^ m := Int.pow_pos (by decide)
 rw [← e1] at h e2
 generalize 256 ^ m = q at h e2 ⊢
 omega
theorem B_lt (s : ByteArray) : B s < 256 ^ s.size := by
 unfold B
 have := bev_lt s.data.toList
 have e : s.data.toList.length = s.size := Array.length_toList
 rw [e] at this
 have e1 : ((256 ^ s.size : Nat) : Int) = (256 : Int) ^ s.size := Int.natCast_pow 256 s.size
 rw [← e1]
 exact Int.ofNat_lt.2 this
theorem norm_eq (s : ByteArray) : (⟨(s.data.toList.dropWhile (fun b => b == 0)).toArray⟩ : ByteArray) = S (B s) := by
 rw [canon]; unfold S B; rw [Int.toNat_natCast]
def lev : List Int → Int
 | [] => 0
 | x :: r => x + 256 * lev r
def Byt (l : List Int) : Prop := ∀ x ∈ l, 0 ≤ x ∧ x < 256
def leb : List Int → List Int
 | [] => []
 | x :: r => x % 256 :: x / 256 % 256 :: x / 65536 % 256 :: x / 16777216 % 256 :: leb r
theorem leb_lev {l : List Int} (h : Dig l) : lev (leb l) = val l := by
 induction l with
 | nil => rfl
 | cons x r ih =>
  have h0 := h.head
  have := ih h.tail
  simp only [leb, lev, val]; omega
theorem leb_len (l : List Int) : (leb l).length = 4 * l.length := by
 induction l with
 | nil => rfl
 | cons x r ih => simp only [leb, List.length_cons, ih]; omega
theorem leb_byt (l : List Int) : Byt (leb l) := by
 induction l with
 | nil => intro x h; cases h
 | cons x r ih =>
  intro y hy
  simp only [leb, List.mem_cons] at hy
  rcases hy with rfl | rfl | rfl | rfl | hy
  · omega
  · omega
  · omega
  · omega
  · exact ih y hy
theorem bev_nums (l : List Int) (h : Byt l) : (bev (l.reverse.map fun n => UInt8.ofNat n.toNat) : Int) = lev l := by
 induction l with
 | nil => rfl
 | cons x r ih =>
  have h0 := h x List.mem_cons_self
  rw [List.reverse_cons, List.map_append, List.map_cons, List.map_nil, bev_snoc, lev]
  have := ih (fun y hy => h y (List.mem_cons_of_mem _ hy))
  rw [UInt8.toNat_ofNat']
  omega
theorem B_nums {l : List Int} (h : Byt l) : B (strOfNums l.reverse) = lev l := by
 unfold B
 rw [strOfNums_data]
 exact bev_nums l h
theorem Ev.ite {α : Type} {c : Prop} [Decidable c] {f g : Nat → Option α} {r : α} (hc : c) (h : Ev f r) : Ev (fun k => if c then f k else g k) r := by
 simpa only [if_pos hc] using h
theorem Ev.ite_not {α : Type} {c : Prop} [Decidable c] {f g : Nat → Option α} {r : α} (hc : ¬ c) (h : Ev g r) : Ev (fun k => if c then f k else g k) r := by
 simpa only [if_neg hc] using h
end Go.Proofs.YtjaflmhdclmolaaDoor.Num
end
section
namespace Go.Proofs.YtjaflmhdclmolaaDoor.Num
open Go.RowKit Go.Proofs.YtjaflmhdclmolaaDoorW.PrintWords Go.Proofs.YtjaflmhdclmolaaDoorW.PrintLast Go.Proofs.YtjaflmhdclmolaaDoorW.PrintMore Go.Proofs.YtjaflmhdclmolaaDoor.F
set_option linter.unusedVariables false
theorem normalize_eq (s : ByteArray) : natural_Normalize.f s = some (S (B s)) := by
 unfold natural_Normalize.f strings_TrimLeft.f
 rw [if_pos (show (⟨#[0]⟩ : ByteArray).size = 1 from rfl), if_pos (show bt ⟨#[0]⟩ 0 < 128 by decide)]
 show some _ = some _
 rw [show (⟨#[0]⟩ : ByteArray).data.toList = [0] from rfl, Lib.trimLeftS_one, ← norm_eq]
 rfl
theorem trim_loop (l : List Int) (hl : l.length ≤ 1000000000) (n : Nat) (hn : n ≤ l.length) : Ev (fun k => natural_limbs_trim.l0 k l (n : Int)) (tr (l.take n)) := by
 induction n with
 | zero =>
  refine Ev.step (f := fun _ => some (tr (l.take 0))) (fun k => ?_) (Ev.now _)
  simp only [natural_limbs_trim.l0]
  rw [if_neg (by omega), if_pos (by omega), if_pos (by omega)]
  rfl
 | succ n ih =>
  have ih := ih (by omega)
  obtain ⟨d, x, r, hdx, hd⟩ := split_at l n (by omega)
  have ht : l.take (n + 1) = d ++ [x] := by
   rw [hdx, ← hd]
   rw [List.take_append, List.take_of_length_le (by omega)]
   simp
  have ht0 : l.take n = d := by
   rw [hdx, ← hd, List.take_left]
  have hw : wrap64 (((n + 1 : Nat) : Int) - 1) = (n : Int) := by rw [w64 (by omega) (by omega)]; omega
  have hr : rd l (n : Int) = x := by rw [hdx]; exact rd_at d x r _ (by omega)
  by_cases hx : x = 0
  · rw [ht0] at ih
    rw [ht, hx, tr_app_zero]
    refine Ev.step (fun k => ?_) ih
    simp only [natural_limbs_trim.l0]
    rw [if_pos (by omega), hw, if_pos (by omega), if_pos (by omega), if_pos (by rw [hr, hx])]
  · rw [ht, tr_app_ne hx, ← ht]
    refine Ev.step (f := fun _ => some (l.take (n + 1))) (fun k => ?_) (Ev.now _)
    simp only [natural_limbs_trim.l0]
    rw [if_pos (by omega), hw, if_pos (by omega), if_pos (by omega), if_neg (by rw [hr]; exact hx), if_pos (by omega), if_pos (by omega), Int.toNat_natCast]
theorem trim_ev (l : List Int) (hl : l.length ≤ 1000000000) : Ev (fun k => natural_limbs_trim.f k l) (tr l) := by
 have h := trim_loop l hl l.length (Nat.le_refl _)
 rw [List.take_length] at h
 exact h
theorem strip_loop (l : List Int) (hl : l.length ≤ 1000000000) (n : Nat) (hn : n ≤ l.length) : Ev (fun k => insolvencyref1_strip.l0 k l (n : Int)) (tr (l.take n)) := by
 induction n with
 | zero =>
  refine Ev.step (f := fun _ => some (tr (l.take 0))) (fun k => ?_) (Ev.now _)
  simp only [insolvencyref1_strip.l0]
  rw [if_neg (by omega), if_pos (by omega), if_pos (by omega)]
  rfl
 | succ n ih =>
  have ih := ih (by omega)
  obtain ⟨d, x, r, hdx, hd⟩ := split_at l n (by omega)
  have ht : l.take (n + 1) = d ++ [x] := by
   rw [hdx, ← hd]
   rw [List.take_append, List.take_of_length_le (by omega)]
   simp
  have ht0 : l.take n = d := by
   rw [hdx, ← hd, List.take_left]
  have hw : wrap64 (((n + 1 : Nat) : Int) - 1) = (n : Int) := by rw [w64 (by omega) (by omega)]; omega
  have hr : rd l (n : Int) = x := by rw [hdx]; exact rd_at d x r _ (by omega)
  by_cases hx : x = 0
  · rw [ht0] at ih
    rw [ht, hx, tr_app_zero]
    refine Ev.step (fun k => ?_) ih
    simp only [insolvencyref1_strip.l0]
    rw [if_pos (by omega), hw, if_pos (by omega), if_pos (by omega), if_pos (by rw [hr, hx])]
  · rw [ht, tr_app_ne hx, ← ht]
    refine Ev.step (f := fun _ => some (l.take (n + 1))) (fun k => ?_) (Ev.now _)
    simp only [insolvencyref1_strip.l0]
    rw [if_pos (by omega), hw, if_pos (by omega), if_pos (by omega), if_neg (by rw [hr]; exact hx), if_pos (by omega), if_pos (by omega), Int.toNat_natCast]
theorem strip_ev (l : List Int) (hl : l.length ≤ 1000000000) : Ev (fun k => insolvencyref1_strip.f k l) (tr l) := by
 have h := strip_loop l hl l.length (Nat.le_refl _)
 rw [List.take_length] at h
 exact h
theorem bt_get (s : ByteArray) (i : Nat) (h : i < s.size) : bt s (i : Int) = ((s.data.toList[i]'(by rw [Array.length_toList]; exact h)).toNat : Int) := by
 unfold bt
 rw [dif_pos (by rw [Int.toNat_natCast]; exact h)]
 rfl
theorem refnorm_loop (s : ByteArray) (hs : s.size ≤ 1000000000000000) (m : Nat) : ∀ n : Nat, n + m = s.size → Ev (fun k => insolvencyref1_Normalize.l0 k s (n : Int)) ⟨((s.data.toList.drop n).dropWhile (fun b => b == 0)).toArray⟩ := by
 induction m with
 | zero =>
  intro n hn
  refine Ev.step (f := fun _ => some (s.extract n s.size)) (fun k => ?_) ?_
  · simp only [insolvencyref1_Normalize.l0]
    rw [if_neg (by omega), if_pos (by omega), if_pos (by omega), Int.toNat_natCast]
  · have h1 : s.data.toList.drop n = [] := List.drop_of_length_le (by rw [Array.length_toList]; show s.size ≤ n; omega)
    rw [h1]
    have h2 : s.extract n s.size = ⟨#[]⟩ := by
     rw [← Lib.mk_data (s.extract n s.size), Lib.extract_to_end, h1]
    rw [h2]
    exact Ev.now _
 | succ m ih =>
  intro n hn
  have hlt : n < s.data.toList.length := by rw [Array.length_toList]; show n < s.size; omega
  have hd : s.data.toList.drop n = s.data.toList[n] :: s.data.toList.drop (n + 1) := (List.getElem_cons_drop hlt).symm
  have hb := bt_get s n (by omega)
  have hw : wrap64 ((n : Int) + 1) = ((n + 1 : Nat) : Int) := by rw [w64 (by omega) (by omega)]; omega
  by_cases hx : s.data.toList[n] = 0
  · have ih := ih (n + 1) (by omega)
    rw [hd, List.dropWhile_cons_of_pos (by rw [hx]; rfl)]
    refine Ev.step (fun k => ?_) ih
    simp only [insolvencyref1_Normalize.l0]
    rw [if_pos (by omega), if_pos (by omega), if_pos (by rw [hb, hx]; rfl), hw]
  · have hne : (s.data.toList[n] == 0) = false := beq_eq_false_iff_ne.2 hx
    rw [hd, List.dropWhile_cons_of_neg (by rw [hne]; decide), ← hd]
    refine Ev.step (f := fun _ => some (s.extract n s.size)) (fun k => ?_) ?_
    · simp only [insolvencyref1_Normalize.l0]
      rw [if_pos (by omega), if_pos (by omega), if_neg (by
       rw [hb]
       intro e
       apply hx
       apply UInt8.toNat_inj.1
       have e2 : s.data.toList[n].toNat = 0 := by omega
       rw [e2]; rfl), if_pos (by omega), Int.toNat_natCast]
    · rw [← Lib.mk_data (s.extract n s.size), Lib.extract_to_end]
      exact Ev.now _
theorem refnorm_ev (s : ByteArray) (hs : s.size ≤ 1000000000000000) : Ev (fun k => insolvencyref1_Normalize.f k s) (S (B s)) := by
 have h := refnorm_loop s hs s.size 0 (by omega)
 rw [List.drop_zero, norm_eq] at h
 exact h
end Go.Proofs.YtjaflmhdclmolaaDoor.Num
end
section
namespace Go.Proofs.YtjaflmhdclmolaaDoor.Num
open Go.RowKit Go.Proofs.YtjaflmhdclmolaaDoorW.PrintWords Go.Proofs.YtjaflmhdclmolaaDoorW.PrintLast Go.Proofs.YtjaflmhdclmolaaDoorW.PrintMore Go.Proofs.YtjaflmhdclmolaaDoor.F
set_option linter.unusedVariables false
def Ln (n : Nat) : List Int := if _h : n = 0 then [] else ((n % 4294967296 : Nat) : Int) :: Ln (n / 4294967296)
termination_by n
def L (n : Int) : List Int := Ln n.toNat
theorem Ln_zero : Ln 0 = [] := by rw [Ln]; rfl
theorem Ln_pos {n : Nat} (h : n ≠ 0) : Ln n = ((n % 4294967296 : Nat) : Int) :: Ln (n / 4294967296) := by rw [Ln]; rw [dif_neg h]
theorem Nz.cons {x : Int} {r : List Int} (h : Nz r) (hx : r = [] → x ≠ 0) : Nz (x :: r) := by
 cases r with
 | nil => exact hx rfl
 | cons y r => exact h
theorem Ln_is (n : Nat) : Is (Ln n) (n : Int) := by
 induction n using Nat.strongRecOn with
 | _ n ih =>
  by_cases h : n = 0
  · rw [h, Ln_zero]; exact Is.nil
  · rw [Ln_pos h]
    have ih := ih (n / 4294967296) (by omega)
    refine ⟨Dig.cons (by omega) (by omega) ih.1, Nz.cons ih.2.1 (fun e => ?_), ?_⟩
    · have h2 := ih.2.2
      rw [e] at h2
      simp only [val] at h2
      omega
    · simp only [val]; rw [ih.2.2]; omega
theorem L_is {n : Int} (h : 0 ≤ n) : Is (L n) n := by
 have := Ln_is n.toNat
 rw [Int.toNat_of_nonneg h] at this
 exact this
theorem Is.eq {l : List Int} {n : Int} (h : Is l n) : l = L n := h.unique (L_is h.nonneg)
theorem L_dig {n : Int} (h : 0 ≤ n) : Dig (L n) := (L_is h).1
theorem L_val {n : Int} (h : 0 ≤ n) : val (L n) = n := (L_is h).2.2
theorem tr_L {l : List Int} (h : Dig l) : tr l = L (val l) := (tr_is h).eq
theorem len_le {l : List Int} : ∀ {n : Int} {m : Nat}, Is l n → n < 4294967296 ^ m → l.length ≤ m := by
 induction l with
 | nil => intro n m _ _; exact Nat.zero_le _
 | cons x r ih =>
  intro n m h hn
  have h0 := h.1.head
  have h2 := h.2.2
  simp only [val] at h2
  have hv := val_nonneg h.1.tail
  cases m with
  | zero =>
   have := h.pos (by simp)
   simp at hn
   omega
  | succ m =>
   have := ih (m := m) ⟨h.1.tail, h.2.1.tail, rfl⟩ (by rw [Int.pow_succ] at hn; generalize (4294967296 : Int) ^ m = q at hn ⊢; omega)
   simp only [List.length_cons]; omega
theorem L_len {n : Int} {m : Nat} (h0 : 0 ≤ n) (h : n < 4294967296 ^ m) : (L n).length ≤ m := len_le (L_is h0) h
theorem L_lt {n : Int} (h0 : 0 ≤ n) : n < 4294967296 ^ (L n).length := by
 have := val_lt (L_dig h0)
 rw [L_val h0] at this
 exact this
theorem L_mono {a b : Int} (h0 : 0 ≤ a) (h : a ≤ b) : (L a).length ≤ (L b).length := L_len h0 (Int.lt_of_le_of_lt h (L_lt (by omega)))
def bts (s : ByteArray) : List Int := s.data.toList.reverse.map fun b => (b.toNat : Int)
theorem bts_len (s : ByteArray) : (bts s).length = s.size := by unfold bts; rw [List.length_map, List.length_reverse, Array.length_toList]; rfl
theorem bts_byt (s : ByteArray) : Byt (bts s) := by
 intro x hx
 obtain ⟨b, _, rfl⟩ := List.mem_map.1 hx
 have := b.toNat_lt
 omega
theorem lev_bev (l : List UInt8) : lev (l.reverse.map fun b => (b.toNat : Int)) = (bev l : Int) := by
 refine snoc_ind (P := fun l => lev (l.reverse.map fun b => (b.toNat : Int)) = (bev l : Int)) ?_ ?_ l.length l rfl
 · rfl
 · intro a x ih
   rw [List.reverse_append, List.reverse_singleton, List.singleton_append, List.map_cons, lev, ih, bev_snoc]
   omega
theorem bts_lev (s : ByteArray) : lev (bts s) = B s := lev_bev _
theorem bts_at (s : ByteArray) (i : Nat) (b : Int) (r : List Int) (h : (bts s).drop i = b :: r) : i < s.size ∧ bt s (((s.size - 1 - i : Nat) : Int)) = b ∧ 0 ≤ b ∧ b < 256 ∧ (bts s).drop (i + 1) = r := by
 have hl := bts_len s
 have hi : i < (bts s).length := by
  rcases Nat.lt_or_ge i (bts s).length with h1 | h1
  · exact h1
  · rw [List.drop_of_length_le h1] at h; cases h
 have hs : i < s.size := by omega
 rw [← List.getElem_cons_drop hi] at h
 have h1 := (List.cons.inj h).1
 have h2 := (List.cons.inj h).2
 have hm : b ∈ bts s := h1 ▸ List.getElem_mem hi
 have hb := bts_byt s b hm
 refine ⟨hs, ?_, hb.1, hb.2, h2⟩
 rw [bt_get s _ (by omega), ← h1]
 simp only [bts, List.getElem_map, List.getElem_reverse, Array.length_toList]
 rfl
theorem bitor_comm (k : IntKind) (x y : Int) : Go.bits .or k x y = Go.bits .or k y x := by
 simp only [bits]
 rw [BitVec.or_comm]
theorem u32_in (n : Int) (h0 : 0 ≤ n) (h1 : n < 2 ^ 32) : IntKind.u32.wrap n = n := by rw [IntKind.wrap_u32]; omega
theorem or8 (j : Nat) (hj : j < 4) (x b y : Int) (hx0 : 0 ≤ x) (hx : x < 256 ^ j) (hb0 : 0 ≤ b) (hb : b < 256) (hy : y = 8 * (j : Int)) : Go.bits .or .u32 x (shl .u32 (b % 4294967296) y) = x + b * 256 ^ j := by
 subst hy
 have hbm : b % 4294967296 = b := by omega
 rw [hbm, bitor_comm]
 have : j = 0 ∨ j = 1 ∨ j = 2 ∨ j = 3 := by omega
 rcases this with rfl | rfl | rfl | rfl
 · have e : shl .u32 b (8 * ((0 : Nat) : Int)) = b := by unfold shl; rw [show b * 2 ^ min (8 * ((0 : Nat) : Int)).toNat IntKind.u32.bits = b by show b * 1 = b; omega]; exact u32_in b hb0 (by omega)
   have hx1 : x = 0 := by simp at hx; omega
   rw [e, hx1, bits_join .u32 32 (by decide) u32_in 0 b 0 hb0 (by omega) (by omega) (by omega) (by omega) (by omega)]
   omega
 · have e : shl .u32 b (8 * ((1 : Nat) : Int)) = b * 256 := by unfold shl; exact u32_in (b * 256) (by omega) (by omega)
   rw [e, bits_join .u32 32 (by decide) u32_in 8 (b * 256) x (by omega) (by omega) (by omega) (by omega) (by omega) (by omega)]
   omega
 · have e : shl .u32 b (8 * ((2 : Nat) : Int)) = b * 65536 := by unfold shl; exact u32_in (b * 65536) (by omega) (by omega)
   rw [e, bits_join .u32 32 (by decide) u32_in 16 (b * 65536) x (by omega) (by omega) (by omega) (by omega) (by omega) (by omega)]
   omega
 · have e : shl .u32 b (8 * ((3 : Nat) : Int)) = b * 16777216 := by unfold shl; exact u32_in (b * 16777216) (by omega) (by omega)
   rw [e, bits_join .u32 32 (by decide) u32_in 24 (b * 16777216) x (by omega) (by omega) (by omega) (by omega) (by omega) (by omega)]
   omega
theorem wdiv4 {i : Nat} (h : i ≤ 4000000000) : wrap64 (Int.tdiv (i : Int) 4) = ((i / 4 : Nat) : Int) := by
 rw [Int.tdiv_eq_ediv_of_nonneg (by omega), w64 (by omega) (by omega)]; omega
theorem wmod4 {i : Nat} (h : i ≤ 4000000000) : wrap64 (8 * Int.tmod (i : Int) 4) = 8 * ((i % 4 : Nat) : Int) := by
 rw [Int.tmod_eq_emod_of_nonneg (by omega), w64 (by omega) (by omega)]; omega
theorem wsub1 {n i : Nat} (h : i < n) (hn : n ≤ 4000000000) : wrap64 (wrap64 ((n : Int) - 1) - (i : Int)) = ((n - 1 - i : Nat) : Int) := by
 rw [w64 (n := (n : Int) - 1) (by omega) (by omega), w64 (by omega) (by omega)]; omega
theorem winc {i : Nat} (h : i ≤ 4000000000) : wrap64 ((i : Int) + 1) = ((i + 1 : Nat) : Int) := by rw [w64 (by omega) (by omega)]; omega
structure Pk (out : List Int) (i : Nat) (n : Int) : Prop where
 st : ∃ d x m, out ++ [0] = d ++ x :: List.replicate m 0 ∧ d.length = i / 4 ∧ Dig d ∧ 0 ≤ x ∧ x < 256 ^ (i % 4) ∧ n = val d + 4294967296 ^ d.length * x
theorem Pk.start (m : Nat) : Pk (List.replicate m 0) 0 0 := ⟨[], 0, m, by
 rw [List.nil_append, ← List.replicate_succ', List.replicate_succ], rfl, Dig.nil, by decide, by decide, by simp [val]⟩
theorem p256 (i : Nat) : (256 : Int) ^ (i % 4) * 4294967296 ^ (i / 4) = 256 ^ i := by
 have h1 : (4294967296 : Int) = 256 ^ 4 := by decide
 rw [h1, ← Int.pow_mul, ← Int.pow_add]
 congr 1
 omega
theorem Pk.next {out : List Int} {i : Nat} {n : Int} (h : Pk out i n) (hi : i / 4 < out.length) (b : Int) (hb0 : 0 ≤ b) (hb : b < 256) :
 Pk (out.set (i / 4) (Go.bits .or .u32 (rd out ((i / 4 : Nat) : Int)) (shl .u32 (b % 4294967296) (8 * ((i % 4 : Nat) : Int))))) (i + 1) (n + 256 ^ i * b) := by
 obtain ⟨d, x, m, he, hd, hdd, hx0, hx, hn⟩ := h.st
 have hlen := congrArg List.length he
 simp only [List.length_append, List.length_cons, List.length_replicate, List.length_nil] at hlen
 obtain ⟨m, rfl⟩ : ∃ q, m = q + 1 := ⟨m - 1, by omega⟩
 have ho : out = d ++ x :: List.replicate m 0 := by
  rw [List.replicate_succ', ← List.cons_append, ← List.append_assoc] at he
  exact List.append_cancel_right he
 have hor := or8 (i % 4) (by omega) x b (8 * ((i % 4 : Nat) : Int)) hx0 hx hb0 hb rfl
 have hr : rd out ((i / 4 : Nat) : Int) = x := by rw [ho]; exact rd_at _ _ _ _ (by omega)
 have hs : ∀ y, out.set (i / 4) y = d ++ y :: List.replicate m 0 := fun y => by
  rw [ho]
  have := set_at d x y (List.replicate m 0) ((i / 4 : Nat) : Int) (by omega)
  rwa [Int.toNat_natCast] at this
 rw [hr, hor, hs]
 have hp := p256 i
 have hnew : val d + 4294967296 ^ d.length * (x + b * 256 ^ (i % 4)) = n + 256 ^ i * b := by
  rw [hn, ← hp, hd, Int.mul_add]
  rw [show (4294967296 : Int) ^ (i / 4) * (b * 256 ^ (i % 4)) = 256 ^ (i % 4) * 4294967296 ^ (i / 4) * b by
   rw [Int.mul_comm b, ← Int.mul_assoc, Int.mul_comm (4294967296 ^ (i / 4))]]
  omega
 have hlt : x + b * 256 ^ (i % 4) < 256 ^ (i % 4 + 1) := by
  rw [Int.pow_succ]
  have : (0 : Int) < 256 ^ (i % 4) := Int.pow_pos (by decide)
  have h2 : b * 256 ^ (i % 4) ≤ 255 * 256 ^ (i % 4) := Int.mul_le_mul_of_nonneg_right (by omega) (by omega)
  omega
 have hge : 0 ≤ x + b * 256 ^ (i % 4) := by
  have : (0 : Int) < 256 ^ (i % 4) := Int.pow_pos (by decide)
  have h2 : 0 ≤ b * 256 ^ (i % 4) := Int.mul_nonneg hb0 (by omega)
  omega
 generalize x + b * 256 ^ (i % 4) = y at *
 by_cases h3 : i % 4 = 3
 · refine ⟨d ++ [y], 0, m, ?_, ?_, ?_, by decide, Int.pow_pos (by decide), ?_⟩
   · simp only [List.append_assoc, List.cons_append, List.nil_append]
     rw [← List.replicate_succ', List.replicate_succ]
   · rw [List.length_append, List.length_singleton]; omega
   · rw [h3] at hlt
     have h256 : (256 : Int) ^ (3 + 1) = 4294967296 := by decide
     exact hdd.app (Dig.cons hge (by omega) Dig.nil)
   · rw [val_app, ← hnew]
     simp [val]
 · refine ⟨d, y, m + 1, ?_, ?_, hdd, hge, ?_, hnew.symm⟩
   · rw [List.replicate_succ', ← List.cons_append, List.append_assoc]
   · omega
   · rw [show (i + 1) % 4 = i % 4 + 1 by omega]; exact hlt
theorem Pk.dig {out : List Int} {i : Nat} {n : Int} (h : Pk out i n) : Dig out ∧ val out = n := by
 obtain ⟨d, x, m, he, hd, hdd, hx0, hx, hn⟩ := h.st
 have hxl : x < 4294967296 := by
  have : i % 4 = 0 ∨ i % 4 = 1 ∨ i % 4 = 2 ∨ i % 4 = 3 := by omega
  rcases this with h | h | h | h <;> rw [h] at hx <;> simp at hx <;> omega
 have h1 : Dig (out ++ [0]) := by rw [he]; exact hdd.app (Dig.cons hx0 hxl (Dig.zeros m))
 refine ⟨h1.left, ?_⟩
 have h2 : val (out ++ [0]) = val out := by rw [val_app]; simp [val]
 rw [← h2, he, val_app, hn]
 simp only [val, val_zeros]
 rw [Int.mul_zero, Int.add_zero]
theorem parse_loop (s : ByteArray) (hs : s.size ≤ 1000000000) (r : List Int) : ∀ (i : Nat) (out : List Int) (n : Int), (bts s).drop i = r → i ≤ s.size → out.length = (s.size + 3) / 4 → Pk out i n →
 Ev (fun k => natural_parse.l0 k s out (s.size : Int) (i : Int)) (L (n + 256 ^ i * lev r)) := by
 induction r with
 | nil =>
  intro i out n hr hi hl hp
  have hi2 : i = s.size := by
   have := congrArg List.length hr
   rw [List.length_drop, bts_len] at this
   simp at this; omega
  obtain ⟨hd, hv⟩ := hp.dig
  refine Ev.step (f := fun k => (natural_limbs_trim.f k out).bind fun t => some t) (fun k => ?_) ?_
  · simp only [natural_parse.l0]
    rw [if_neg (by omega)]
  · refine Ev.bind (trim_ev out (by omega)) ?_
    rw [tr_L hd, hv]
    simp only [lev, Int.mul_zero, Int.add_zero]
    exact Ev.now _
 | cons b r ih =>
  intro i out n hr hi hl hp
  obtain ⟨h1, h2, h3, h4, h5⟩ := bts_at s i b r hr
  have hn := hp.next (by omega) b h3 h4
  have ih := ih (i + 1) _ _ h5 (by omega) (by rw [List.length_set]; exact hl) hn
  have e : n + 256 ^ i * lev (b :: r) = n + 256 ^ i * b + 256 ^ (i + 1) * lev r := by
   rw [lev, Int.pow_succ, Int.mul_add, ← Int.mul_assoc]
   omega
  rw [e]
  clear e hn
  refine Ev.step (fun k => ?_) ih
  simp only [natural_parse.l0]
  rw [wdiv4 (by omega), wmod4 (by omega), wsub1 (by omega) (by omega), winc (by omega), h2, Int.toNat_natCast, if_pos (by omega), if_pos (by omega), if_pos (by omega), if_pos (by omega), if_pos (by omega), if_pos (by omega)]
theorem parse_ev (s : ByteArray) (hs : s.size ≤ 1000000000) : Ev (fun k => natural_parse.f k s) (L (B s)) := by
 have e : wrap64 (Int.tdiv (wrap64 (wrap64 ((s.size : Int) + 4) - 1)) 4) = (((s.size + 3) / 4 : Nat) : Int) := by
  rw [w64 (n := (s.size : Int) + 4) (by omega) (by omega), w64 (n := (s.size : Int) + 4 - 1) (by omega) (by omega), Int.tdiv_eq_ediv_of_nonneg (by omega), w64 (by omega) (by omega)]; omega
 have h := parse_loop s hs (bts s) 0 (List.replicate ((s.size + 3) / 4) 0) 0 rfl (Nat.zero_le _) List.length_replicate (Pk.start _)
 rw [bts_lev] at h
 have e2 : (0 : Int) + 256 ^ 0 * B s = B s := by simp
 rw [e2] at h
 refine Ev.congr (fun k => ?_) h
 simp only [natural_parse.f]
 rw [e, Int.toNat_natCast, if_pos (by omega), if_pos (by omega)]
 rfl
theorem reflimbs_loop (s : ByteArray) (hs : s.size ≤ 1000000000) (r : List Int) : ∀ (i : Nat) (out : List Int) (n : Int), (bts s).drop i = r → i ≤ s.size → out.length = (s.size + 3) / 4 → Pk out i n →
 ∃ l, l.length = (s.size + 3) / 4 ∧ Dig l ∧ val l = n + 256 ^ i * lev r ∧ Ev (fun k => insolvencyref1_limbs.l0 k s out (i : Int)) l := by
 induction r with
 | nil =>
  intro i out n hr hi hl hp
  have hi2 : i = s.size := by
   have := congrArg List.length hr
   rw [List.length_drop, bts_len] at this
   simp at this; omega
  obtain ⟨hd, hv⟩ := hp.dig
  refine ⟨out, hl, hd, by rw [hv]; simp [lev], ?_⟩
  refine Ev.step (f := fun k => some out) (fun k => ?_) (Ev.now _)
  simp only [insolvencyref1_limbs.l0]
  rw [if_neg (by omega)]
 | cons b r ih =>
  intro i out n hr hi hl hp
  obtain ⟨h1, h2, h3, h4, h5⟩ := bts_at s i b r hr
  have hn := hp.next (by omega) b h3 h4
  obtain ⟨l, g1, g2, g3, ih⟩ := ih (i + 1) _ _ h5 (by omega) (by rw [List.length_set]; exact hl) hn
  have e : n + 256 ^ i * lev (b :: r) = n + 256 ^ i * b + 256 ^ (i + 1) * lev r := by
   rw [lev, Int.pow_succ, Int.mul_add, ← Int.mul_assoc]
   omega
  refine ⟨l, g1, g2, by rw [e, g3], ?_⟩
  clear e hn g3
  refine Ev.step (fun k => ?_) ih
  simp only [insolvencyref1_limbs.l0]
  rw [wdiv4 (by omega), wmod4 (by omega), wsub1 (by omega) (by omega), winc (by omega), wu (n := 8 * ((i % 4 : Nat) : Int)) (by omega) (by omega), h2, Int.toNat_natCast, if_pos (by omega), if_pos (by omega), if_pos (by omega), if_pos (by omega), if_pos (by omega), if_pos (by omega)]
theorem nz_of_big {l : List Int} : Dig l → (∀ m, l.length = m + 1 → 4294967296 ^ m ≤ val l) → Nz l := by
 induction l with
 | nil => intro _ _; trivial
 | cons x r ih =>
  intro hd h
  have h0 := hd.head
  refine Nz.cons (ih hd.tail (fun m hm => ?_)) (fun e => ?_)
  · have := h (m + 1) (by rw [List.length_cons, hm])
    rw [Int.pow_succ, val] at this
    omega
  · have := h 0 (by rw [e]; rfl)
    rw [e] at this
    simp [val] at this
    omega
theorem digs_len_ge (n : Nat) (h : n ≠ 0) : 256 ^ ((digs n).length - 1) ≤ n := by
 induction n using Nat.strongRecOn with
 | _ n ih =>
  rw [digs_pos h, List.length_append, List.length_singleton, Nat.add_sub_cancel]
  by_cases h2 : n / 256 = 0
  · rw [h2, digs_zero]; simp; omega
  · have h3 := ih (n / 256) (by omega) h2
    have h4 : (digs (n / 256)).length ≠ 0 := by rw [digs_pos h2]; simp
    rw [show (digs (n / 256)).length = (digs (n / 256)).length - 1 + 1 by omega, Nat.pow_succ]
    omega
theorem S_len (n : Int) : (S n).size = (digs n.toNat).length := List.size_toArray
theorem reflimbs_ev (s : ByteArray) (hs : s.size ≤ 1000000000) : Ev (fun k => insolvencyref1_limbs.f k s) (L (B s)) := by
 have hB := B_nonneg s
 have hsz : (S (B s)).size ≤ s.size := S_size (B_lt s)
 obtain ⟨l, g1, g2, g3, h⟩ := reflimbs_loop (S (B s)) (by omega) (bts (S (B s))) 0 (List.replicate (((S (B s)).size + 3) / 4) 0) 0 rfl (Nat.zero_le _) List.length_replicate (Pk.start _)
 rw [bts_lev, B_S hB] at g3
 have g4 : val l = B s := by rw [g3]; simp
 have hnz : Nz l := by
  refine nz_of_big g2 (fun m hm => ?_)
  rw [g4]
  have hne : (B s).toNat ≠ 0 := by
   intro e
   rw [S_len, e, digs_zero, hm] at g1
   simp at g1
  have h2 := digs_len_ge _ hne
  have h3 : 4294967296 ^ m ≤ 256 ^ ((digs (B s).toNat).length - 1) := by
   rw [show 4294967296 = 256 ^ 4 by decide, ← Nat.pow_mul]
   exact Nat.pow_le_pow_right (by decide) (by rw [S_len] at g1; omega)
  have h4 := Nat.le_trans h3 h2
  have h5 : ((4294967296 ^ m : Nat) : Int) = (4294967296 : Int) ^ m := Int.natCast_pow 4294967296 m
  rw [← h5]
  generalize 4294967296 ^ m = q at h4 ⊢
  omega
 have e1 : l = L (B s) := Is.eq ⟨g2, hnz, g4⟩
 rw [← e1]
 have e : wrap64 (Int.tdiv (wrap64 (((S (B s)).size : Int) + 3)) 4) = ((((S (B s)).size + 3) / 4 : Nat) : Int) := by
  rw [w64 (n := ((S (B s)).size : Int) + 3) (by omega) (by omega), Int.tdiv_eq_ediv_of_nonneg (by omega), w64 (by omega) (by omega)]; omega
 refine Ev.bind (refnorm_ev s (by omega)) ?_
 refine Ev.congr (fun k => ?_) h
 rw [e, Int.toNat_natCast, if_pos (by omega), if_pos (by omega)]
 rfl
end Go.Proofs.YtjaflmhdclmolaaDoor.Num
end
section
namespace Go.Proofs.YtjaflmhdclmolaaDoor.F
open Go.RowKit Go.Proofs.YtjaflmhdclmolaaDoorW.PrintWords Go.Proofs.YtjaflmhdclmolaaDoorW.PrintLast Go.Proofs.YtjaflmhdclmolaaDoorW.PrintMore
attribute [local go_sem] max2_int min2_int max_two min_two max_three min_three max_four min_four   
set_option linter.unusedVariables false
set_option linter.unusedSimpArgs false
def strings_Compare.f (a0 : ByteArray) (a1 : ByteArray) : Option (Int) := some (Lib.compareBytes a0.data.toList a1.data.toList)
theorem strings_Compare.calls (a0 : ByteArray) (a1 : ByteArray) (r : Int) (w : World) (h : strings_Compare.f a0 a1 = some r) :
 Calls Tryd.prog 49 #[.string a0, .string a1] w fun e w' => e = .returned (.int .i64 r) ∧ Drawn0 w w' := by
 obtain rfl := Option.some.inj h
 refine (Tryd.strings_Compare a0 a1 w).mono ?_
 rintro e w' ⟨rfl, rfl⟩
 exact ⟨rfl, Drawn0.refl _⟩
end Go.Proofs.YtjaflmhdclmolaaDoor.F
end
section
namespace Go.Proofs.YtjaflmhdclmolaaDoor.F
open Go.RowKit Go.Proofs.YtjaflmhdclmolaaDoorW.PrintWords Go.Proofs.YtjaflmhdclmolaaDoorW.PrintLast Go.Proofs.YtjaflmhdclmolaaDoorW.PrintMore
attribute [local go_sem] max2_int min2_int max_two min_two max_three min_three max_four min_four   
set_option linter.unusedVariables false
set_option linter.unusedSimpArgs false
def natural_Compare.f (a0 : ByteArray) (a1 : ByteArray) : Option (Int) := (natural_Normalize.f a0).bind fun t421 => ((natural_Normalize.f a1).bind fun t422 => (if (t421.size : Int) = (t422.size : Int) then ((strings_Compare.f t421 t422).bind fun t423 => (some t423)) else ((natural_sign.f (wrap64 ((t421.size : Int) - (t422.size : Int)))).bind fun t424 => (some t424))))
set_option maxHeartbeats 8000000 in
set_option maxRecDepth 100000 in
theorem natural_Compare.calls (a0 : ByteArray) (a1 : ByteArray) (r : Int) (w : World) (h : natural_Compare.f a0 a1 = some r) :
 Calls Tryd.prog 23 #[.string a0, .string a1] w fun e w' => e = .returned (.int .i64 r) ∧ Drawn0 w w' := by
 have H : ((natural_Normalize.f a0).bind fun t421 => ((natural_Normalize.f a1).bind fun t422 => (if (t421.size : Int) = (t422.size : Int) then ((strings_Compare.f t421 t422).bind fun t423 => (some t423)) else ((natural_sign.f (wrap64 ((t421.size : Int) - (t422.size : Int)))).bind fun t424 => (some t424))))) = some r := h
 clear h
 replace H := Option.bind_eq_some_iff.mp H
 obtain ⟨t421, A30, H⟩ := H
 replace H : ((natural_Normalize.f a1).bind fun t422 => (if (t421.size : Int) = (t422.size : Int) then ((strings_Compare.f t421 t422).bind fun t423 => (some t423)) else ((natural_sign.f (wrap64 ((t421.size : Int) - (t422.size : Int)))).bind fun t424 => (some t424)))) = some r := H
 have A3 := Aside0.mk A30
 clear A30
 replace H := Option.bind_eq_some_iff.mp H
 obtain ⟨t422, A40, H⟩ := H
 replace H : (if (t421.size : Int) = (t422.size : Int) then ((strings_Compare.f t421 t422).bind fun t423 => (some t423)) else ((natural_sign.f (wrap64 ((t421.size : Int) - (t422.size : Int)))).bind fun t424 => (some t424))) = some r := H
 have A4 := Aside0.mk A40
 clear A40
 by_cases c5 : (t421.size : Int) = (t422.size : Int)
 · rw [if_pos c5] at H
   have c5b0 : ((t421.size : Int) == (t422.size : Int)) = true := beq_iff_eq.mpr c5
   have c5b1 : ((t421.size : Int) != (t422.size : Int)) = false := bne_eq_false_iff_eq.mpr c5
   have c5b2 : (t421.size == t422.size) = true := by first | simpa using c5 | (simp at c5 ⊢; omega)
   clear c5
   replace H := Option.bind_eq_some_iff.mp H
   obtain ⟨t423, A60, H⟩ := H
   replace H : (some t423) = some r := H
   have A6 := Aside0.mk A60
   clear A60
   obtain rfl := Option.some.inj H
   go_enter Tryd.func23, Tryd.ntmps23
   go_wp2_with (first | ((with_reducible refine gate_callee (f := 18) rfl ?_); refine goesL_ (some 6) rfl rfl Tryd.func18 (by kernel_rfl) rfl #[.string a0] rfl (by (try simp only [List.map_toArray, List.map_cons, List.map_nil]); first | done | rfl | (simp only [List.length_drop, List.length_take]; rfl)) ?_; (with_reducible refine (natural_Normalize.calls a0 t421 _ A3.out).mono ?_); rintro e w' ⟨rfl, ⟨nd, rfl⟩⟩; refine ⟨_, rfl, ?_⟩) | ((with_reducible refine gate_callee (f := 18) rfl ?_); refine goesL_ (some 8) rfl rfl Tryd.func18 (by kernel_rfl) rfl #[.string a1] rfl (by (try simp only [List.map_toArray, List.map_cons, List.map_nil]); first | done | rfl | (simp only [List.length_drop, List.length_take]; rfl)) ?_; (with_reducible refine (natural_Normalize.calls a1 t422 _ A4.out).mono ?_); rintro e w' ⟨rfl, ⟨nd, rfl⟩⟩; refine ⟨_, rfl, ?_⟩) | ((with_reducible refine gate_callee (f := 49) rfl ?_); refine goesL_ (some 22) rfl rfl Tryd.func49 (by kernel_rfl) rfl #[.string t421, .string t422] rfl (by (try simp only [List.map_toArray, List.map_cons, List.map_nil]); first | done | rfl | (simp only [List.length_drop, List.length_take]; rfl)) ?_; (with_reducible refine (strings_Compare.calls t421 t422 t423 _ A6.out).mono ?_); rintro e w' ⟨rfl, ⟨nd, rfl⟩⟩; refine ⟨_, rfl, ?_⟩))
   go_ret
   exact ⟨by first | rfl | (simp; done) | (simp [*]; done), by repeat (first | exact Drawn0.refl _ | apply Drawn0.step)⟩
 · rw [if_neg c5] at H
   have c5b0 : ((t421.size : Int) == (t422.size : Int)) = false := beq_eq_false_iff_ne.mpr c5
   have c5b1 : ((t421.size : Int) != (t422.size : Int)) = true := bne_iff_ne.mpr c5
   have c5b2 : (t421.size == t422.size) = false := by first | simpa using c5 | (simp at c5 ⊢; omega)
   replace H := Option.bind_eq_some_iff.mp H
   obtain ⟨t424, A70, H⟩ := H
   replace H : (some t424) = some r := H
   have A7 := Aside0.mk A70
   clear A70
   obtain rfl := Option.some.inj H
   go_enter Tryd.func23, Tryd.ntmps23
   go_wp2_with (first | ((with_reducible refine gate_callee (f := 18) rfl ?_); refine goesL_ (some 6) rfl rfl Tryd.func18 (by kernel_rfl) rfl #[.string a0] rfl (by (try simp only [List.map_toArray, List.map_cons, List.map_nil]); first | done | rfl | (simp only [List.length_drop, List.length_take]; rfl)) ?_; (with_reducible refine (natural_Normalize.calls a0 t421 _ A3.out).mono ?_); rintro e w' ⟨rfl, ⟨nd, rfl⟩⟩; refine ⟨_, rfl, ?_⟩) | ((with_reducible refine gate_callee (f := 18) rfl ?_); refine goesL_ (some 8) rfl rfl Tryd.func18 (by kernel_rfl) rfl #[.string a1] rfl (by (try simp only [List.map_toArray, List.map_cons, List.map_nil]); first | done | rfl | (simp only [List.length_drop, List.length_take]; rfl)) ?_; (with_reducible refine (natural_Normalize.calls a1 t422 _ A4.out).mono ?_); rintro e w' ⟨rfl, ⟨nd, rfl⟩⟩; refine ⟨_, rfl, ?_⟩) | ((with_reducible refine gate_callee (f := 48) rfl ?_); refine goesL_ (some 19) rfl rfl Tryd.func48 (by kernel_rfl) rfl #[.int .i64 (wrap64 ((t421.size : Int) - (t422.size : Int)))] rfl (by (try simp only [List.map_toArray, List.map_cons, List.map_nil]); first | done | rfl | (simp only [List.length_drop, List.length_take]; rfl)) ?_; (with_reducible refine (natural_sign.calls (wrap64 ((t421.size : Int) - (t422.size : Int))) t424 _ A7.out).mono ?_); rintro e w' ⟨rfl, ⟨nd, rfl⟩⟩; refine ⟨_, rfl, ?_⟩))
   go_ret
   exact ⟨by first | rfl | (simp; done) | (simp [*]; done), by repeat (first | exact Drawn0.refl _ | apply Drawn0.step)⟩
end Go.Proofs.YtjaflmhdclmolaaDoor.F
end
section
namespace Go.Proofs.YtjaflmhdclmolaaDoor.F
open Go.RowKit Go.Proofs.YtjaflmhdclmolaaDoorW.PrintWords Go.Proofs.YtjaflmhdclmolaaDoorW.PrintLast Go.Proofs.YtjaflmhdclmolaaDoorW.PrintMore
attribute [local go_sem] max2_int min2_int max_two min_two max_three min_three max_four min_four   
set_option linter.unusedVariables false
set_option linter.unusedSimpArgs false
def insolvencyref1_NatCompare.f (k : Nat) (a0 : ByteArray) (a1 : ByteArray) : Option (Int) := (insolvencyref1_limbs.f k a0).bind fun t542 => ((insolvencyref1_limbs.f k a1).bind fun t545 => ((insolvencyref1_order.f k t542 t545).bind fun t548 => (some t548)))
theorem insolvencyref1_NatCompare.mono : ∀ a0 a1 k, LeO (insolvencyref1_NatCompare.f k a0 a1) (insolvencyref1_NatCompare.f (k + 1) a0 a1) := by
 intro a0 a1 k
 unfold insolvencyref1_NatCompare.f
 repeat' first
  | (with_reducible exact insolvencyref1_limbs.mono _ _)
  | (with_reducible exact insolvencyref1_order.mono _ _ _)
  | (with_reducible exact LeO.refl _)
  | (with_reducible exact LeO.none _)
  | (with_reducible refine LeO.ite ?_ ?_)
  | (with_reducible refine LeO.bind ?_ (fun _ => ?_))
  | exact insolvencyref1_limbs.mono _ _
  | exact insolvencyref1_order.mono _ _ _
  | exact LeO.none _
  | refine LeO.ite ?_ ?_
  | refine LeO.bind ?_ (fun _ => ?_)
set_option maxHeartbeats 8000000 in
set_option maxRecDepth 100000 in
theorem insolvencyref1_NatCompare.calls (k : Nat) (a0 : ByteArray) (a1 : ByteArray) (r : Int) (w : World) (h : insolvencyref1_NatCompare.f k a0 a1 = some r) :
 Calls Tryd.prog 32 #[.string a0, .string a1] w fun e w' => e = .returned (.int .i64 r) ∧ Below w.heap.size w w' := by
 have HB := Aside0.mk (Below.refl w.heap.size w)
 have H : ((insolvencyref1_limbs.f k a0).bind fun t542 => ((insolvencyref1_limbs.f k a1).bind fun t545 => ((insolvencyref1_order.f k t542 t545).bind fun t548 => (some t548)))) = some r := h
 clear h
 replace H := Option.bind_eq_some_iff.mp H
 obtain ⟨t542, A30, H⟩ := H
 replace H : ((insolvencyref1_limbs.f k a1).bind fun t545 => ((insolvencyref1_order.f k t542 t545).bind fun t548 => (some t548))) = some r := H
 have A3 := Aside0.mk A30
 clear A30
 replace H := Option.bind_eq_some_iff.mp H
 obtain ⟨t545, A40, H⟩ := H
 replace H : ((insolvencyref1_order.f k t542 t545).bind fun t548 => (some t548)) = some r := H
 have A4 := Aside0.mk A40
 clear A40
 replace H := Option.bind_eq_some_iff.mp H
 obtain ⟨t548, A50, H⟩ := H
 replace H : (some t548) = some r := H
 have A5 := Aside0.mk A50
 clear A50
 obtain rfl := Option.some.inj H
 go_enter Tryd.func32, Tryd.ntmps32
 go_wp2_with (first | ((with_reducible refine gate_callee (f := 45) rfl ?_); refine goesL_ (some 6) rfl rfl Tryd.func45 (by kernel_rfl) rfl #[.string a0] rfl (by (try simp only [List.map_toArray, List.map_cons, List.map_nil]); first | done | rfl | (simp only [List.length_drop, List.length_take]; rfl)) ?_; (with_reducible refine (insolvencyref1_limbs.calls k a0 t542 _ A3.out).mono ?_); rintro e w6 ⟨v543, rfl, ho0, hb⟩; refine ⟨_, rfl, ?_⟩; have n0_ := Aside0.mk (Kd.R_lower ho0 (below_size (by repeat (first | (with_reducible first | exact HB.out | apply below_alloc | apply pw_below_drewN | apply below_drew1) | exact HB.out)))); have n1_ := Aside0.mk (below_step (by repeat (first | (with_reducible first | exact HB.out | apply below_alloc | apply pw_below_drewN | apply below_drew1) | exact HB.out)) hb); clear HB; have HO544 := n0_; have HB := n1_; clear n0_ n1_; (try clear hb); (try clear hb2); (try clear hk); (try clear hi); (try clear ho0)) | ((with_reducible refine gate_callee (f := 45) rfl ?_); refine goesL_ (some 8) rfl rfl Tryd.func45 (by kernel_rfl) rfl #[.string a1] rfl (by (try simp only [List.map_toArray, List.map_cons, List.map_nil]); first | done | rfl | (simp only [List.length_drop, List.length_take]; rfl)) ?_; (with_reducible refine (insolvencyref1_limbs.calls k a1 t545 _ A4.out).mono ?_); rintro e w7 ⟨v546, rfl, ho0, hb⟩; refine ⟨_, rfl, ?_⟩; have n0_ := Aside0.mk (Kd.R_elder' (by (with_reducible repeat (first | apply Kd.R_alloc | apply Kd.R_drewN | apply Kd.R_drew)); exact HO544.out) (Kd.R_base ho0) hb); have n1_ := Aside0.mk (Kd.R_lower (Kd.R_new' ho0 (Kd.R_lt (by (with_reducible repeat (first | apply Kd.R_alloc | apply Kd.R_drewN | apply Kd.R_drew)); exact HO544.out))) (below_size (by repeat (first | (with_reducible first | exact HB.out | apply below_alloc | apply pw_below_drewN | apply below_drew1) | exact HB.out)))); have n2_ := Aside0.mk (below_step (by repeat (first | (with_reducible first | exact HB.out | apply below_alloc | apply pw_below_drewN | apply below_drew1) | exact HB.out)) hb); clear HO544; clear HB; have HO544 := n0_; have HO547 := n1_; have HB := n2_; clear n0_ n1_ n2_; (try clear hb); (try clear hb2); (try clear hk); (try clear hi); (try clear ho0); obtain ⟨Ao8, co8, eo8⟩ := Kd.R_slice HO544.out; subst eo8; obtain ⟨Ao9, co9, eo9⟩ := Kd.R_slice HO547.out; subst eo9) | ((with_reducible refine gate_callee (f := 60) rfl ?_); refine goesL_ (some 9) rfl rfl Tryd.func60 (by kernel_rfl) rfl #[.slice Ao8 t542.length co8, .slice Ao9 t545.length co9] rfl (by (try simp only [List.map_toArray, List.map_cons, List.map_nil]); first | done | rfl | (simp only [List.length_drop, List.length_take]; rfl)) ?_; (with_reducible refine (insolvencyref1_order.calls k _ _ t542 _ _ t545 t548 _ ?side1 ?side2 ?side3 ?side4 A5.out).mono ?_); (case side1 => repeat (first | exact (Kd.R_reads' HO544.out).2.2 | (with_reducible refine Kd.C_alloc ?_ _) | (with_reducible refine Kd.C_drewN ?_ _) | (with_reducible refine Kd.C_drew ?_))); (case side2 => exact (Kd.R_reads' HO544.out).2.1); (case side3 => repeat (first | exact (Kd.R_reads' HO547.out).2.2 | (with_reducible refine Kd.C_alloc ?_ _) | (with_reducible refine Kd.C_drewN ?_ _) | (with_reducible refine Kd.C_drew ?_))); (case side4 => exact (Kd.R_reads' HO547.out).2.1); rintro e w' ⟨rfl, ⟨nd, rfl⟩⟩; refine ⟨_, rfl, ?_⟩))
 go_ret
 exact ⟨by first | rfl | (simp [errW_none, errW_some] <;> rfl) | (simp [*, errW_none, errW_some] <;> rfl), by repeat (first | (with_reducible first | exact HB.out | apply below_alloc | apply pw_below_drewN | apply below_drew1) | exact HB.out)⟩
end Go.Proofs.YtjaflmhdclmolaaDoor.F
end
section
namespace Go.Proofs.YtjaflmhdclmolaaDoor.Num
open Go.RowKit Go.Proofs.YtjaflmhdclmolaaDoorW.PrintWords Go.Proofs.YtjaflmhdclmolaaDoorW.PrintLast Go.Proofs.YtjaflmhdclmolaaDoorW.PrintMore Go.Proofs.YtjaflmhdclmolaaDoor.F
set_option linter.unusedVariables false
theorem rd_cons_succ (x : Int) (l : List Int) (i : Nat) : rd (x :: l) ((i + 1 : Nat) : Int) = rd l (i : Int) := by
 unfold rd
 rw [Int.toNat_natCast, Int.toNat_natCast]
 rfl
theorem leb_at (l : List Int) : ∀ (i : Nat) (y : Int) (r : List Int), (leb l).drop i = y :: r → shr .u32 (rd l ((i / 4 : Nat) : Int)) (8 * ((i % 4 : Nat) : Int)) % 256 = y ∧ i < 4 * l.length := by
 induction l with
 | nil => intro i y r h; simp [leb] at h
 | cons x l ih =>
  intro i y r h
  by_cases h4 : 4 ≤ i
  · obtain ⟨j, rfl⟩ : ∃ j, i = j + 4 := ⟨i - 4, by omega⟩
    have h2 : (leb l).drop j = y :: r := h
    obtain ⟨h3, h5⟩ := ih j y r h2
    refine ⟨?_, by simp only [List.length_cons]; omega⟩
    rw [show (j + 4) / 4 = j / 4 + 1 by omega, show (j + 4) % 4 = j % 4 by omega, rd_cons_succ]
    exact h3
  · have : i = 0 ∨ i = 1 ∨ i = 2 ∨ i = 3 := by omega
    refine ⟨?_, by simp only [List.length_cons]; omega⟩
    rcases this with rfl | rfl | rfl | rfl
    · have h2 : x % 256 = y := (List.cons.inj h).1
      show x / 1 % 256 = y
      rw [Int.ediv_one]; exact h2
    · exact (List.cons.inj h).1
    · exact (List.cons.inj h).1
    · exact (List.cons.inj h).1
theorem text_loop (l : List Int) (hd : Dig l) (hl : l.length ≤ 1000000) (r : List Int) : ∀ (i : Nat) (b : List Int), (leb l).drop i = r → i ≤ 4 * l.length →
 Ev (fun k => natural_limbs_text.l0 k l (List.replicate r.length 0 ++ ((leb l).take i).reverse) ((4 * l.length : Nat) : Int) (i : Int)) (S (val l)) := by
 induction r with
 | nil =>
  intro i b hr hi
  have hlen := leb_len l
  have h2 := congrArg List.length hr
  rw [List.length_drop] at h2
  simp only [List.length_nil] at h2
  refine Ev.step (f := fun k => (natural_Normalize.f (strOfNums (leb l).reverse)).bind fun t => some t) (fun k => ?_) ?_
  · simp only [natural_limbs_text.l0]
    rw [if_neg (by omega), List.take_of_length_le (by omega)]
    rfl
  · rw [normalize_eq, B_nums (leb_byt l), leb_lev hd]
    exact Ev.now _
 | cons y r ih =>
  intro i b hr hi
  have hlen := leb_len l
  obtain ⟨h1, h2⟩ := leb_at l i y r hr
  have hi2 : i < (leb l).length := by omega
  have h3 := hr
  rw [← List.getElem_cons_drop hi2] at h3
  have h4 := (List.cons.inj h3).1
  have h5 := (List.cons.inj h3).2
  have h6 : (leb l).take (i + 1) = (leb l).take i ++ [y] := by rw [List.take_succ_eq_append_getElem hi2, h4]
  have h7 := congrArg List.length h5
  rw [List.length_drop, hlen] at h7
  have ih := ih (i + 1) b h5 (by omega)
  refine Ev.step (fun k => ?_) ih
  have hX : (List.replicate (y :: r).length (0 : Int) ++ ((leb l).take i).reverse).length = 4 * l.length := by
   rw [List.length_append, List.length_replicate, List.length_reverse, List.length_take, List.length_cons]; omega
  have hS : (List.replicate (y :: r).length (0 : Int) ++ ((leb l).take i).reverse).set r.length y = List.replicate r.length 0 ++ ((leb l).take (i + 1)).reverse := by
   rw [List.length_cons, List.replicate_succ', List.append_assoc, List.singleton_append]
   have := set_at (List.replicate r.length 0) 0 y ((leb l).take i).reverse (r.length : Int) (by rw [List.length_replicate])
   rw [Int.toNat_natCast] at this
   rw [this, h6, List.reverse_append, List.reverse_singleton, List.singleton_append]
  simp only [natural_limbs_text.l0]
  rw [hX, wdiv4 (by omega), wmod4 (by omega), wsub1 (by omega) (by omega), winc (by omega), Int.toNat_natCast, h1, show 4 * l.length - 1 - i = r.length by omega, hS]
  clear hS hX h6 h3 h4 h5 hr h1
  rw [if_pos (by omega), if_pos (by omega), if_pos (by omega), if_pos (by omega), if_pos (by omega), if_pos (by omega)]
theorem text_ev {l : List Int} (hd : Dig l) (hl : l.length ≤ 1000000) : Ev (fun k => natural_limbs_text.f k l) (S (val l)) := by
 have h := text_loop l hd hl (leb l) 0 [] rfl (Nat.zero_le _)
 have e : wrap64 ((l.length : Int) * 4) = ((4 * l.length : Nat) : Int) := by rw [w64 (by omega) (by omega)]; omega
 rw [leb_len, List.take_zero, List.reverse_nil, List.append_nil] at h
 refine Ev.congr (fun k => ?_) h
 simp only [natural_limbs_text.f]
 rw [e, Int.toNat_natCast, if_pos (by omega), if_pos (by omega), Option.bind_some, List.length_replicate]
 rfl
theorem reftext_loop (l : List Int) (hd : Dig l) (hl : l.length ≤ 1000000) (i : Nat) : i ≤ l.length →
 Ev (fun k => insolvencyref1_text.l0 k l (leb (l.drop i)).reverse ((i : Int) - 1)) (S (val l)) := by
 induction i with
 | zero =>
  intro _
  refine Ev.step (f := fun k => (insolvencyref1_Normalize.f k (strOfNums (leb l).reverse)).bind fun t => some t) (fun k => ?_) ?_
  · simp only [insolvencyref1_text.l0]
    rw [if_neg (by omega)]
    rfl
  · refine Ev.bind (refnorm_ev _ (by rw [strOfNums_size, List.length_reverse, leb_len]; omega)) ?_
    rw [B_nums (leb_byt l), leb_lev hd]
    exact Ev.now _
 | succ i ih =>
  intro hi
  have ih := ih (by omega)
  have h1 : l.drop i = l[i] :: l.drop (i + 1) := (List.getElem_cons_drop (by omega)).symm
  have h2 : rd l (i : Int) = l[i] := by
   unfold rd
   rw [Int.toNat_natCast, List.getD_eq_getElem?_getD, List.getElem?_eq_getElem (by omega)]
   rfl
  have h3 : (leb (l.drop i)).reverse = (leb (l.drop (i + 1))).reverse ++ [l[i] / 16777216 % 256, l[i] / 65536 % 256, l[i] / 256 % 256, l[i] % 256] := by
   rw [h1]
   simp only [leb, List.reverse_cons, List.append_assoc, List.cons_append, List.nil_append]
  have h4 : ((leb (l.drop (i + 1))).reverse).length ≤ 4000000 := by rw [List.length_reverse, leb_len, List.length_drop]; omega
  refine Ev.step (fun k => ?_) ih
  simp only [insolvencyref1_text.l0]
  rw [show ((i + 1 : Nat) : Int) - 1 = (i : Int) by omega, h2, h3, Option.bind_some, if_pos (by omega), if_pos (by omega), if_pos (by omega), if_pos (by simp only [List.length_cons, List.length_nil]; omega), w64 (by omega) (by omega)]
theorem reftext_ev {l : List Int} (hd : Dig l) (hl : l.length ≤ 1000000) : Ev (fun k => insolvencyref1_text.f k l) (S (val l)) := by
 have h1 := tr_len l
 have h2 := tr_val l
 refine Ev.bind (strip_ev l (by omega)) ?_
 have h := reftext_loop (tr l) (tr_dig hd) (by omega) (tr l).length (Nat.le_refl _)
 rw [List.drop_length, h2] at h
 refine Ev.congr (fun k => ?_) h
 rw [if_pos (by omega), w64 (by omega) (by omega)]
 rfl
theorem text_L {n : Int} (h0 : 0 ≤ n) (hl : (L n).length ≤ 1000000) : Ev (fun k => natural_limbs_text.f k (L n)) (S n) := by
 have := text_ev (L_dig h0) hl
 rwa [L_val h0] at this
theorem reftext_L {n : Int} (h0 : 0 ≤ n) (hl : (L n).length ≤ 1000000) : Ev (fun k => insolvencyref1_text.f k (L n)) (S n) := by
 have := reftext_ev (L_dig h0) hl
 rwa [L_val h0] at this
def sgn (a b : Int) : Int := if a < b then -1 else if a = b then 0 else 1
theorem sgn_lt {a b : Int} : sgn a b < 0 ↔ a < b := by unfold sgn; split <;> (try split) <;> omega
theorem cmp_top {d1 d2 t : List Int} {x y : Int} (h1 : Dig d1) (h2 : Dig d2) (hl : d1.length = d2.length) (h : x < y) : val (d1 ++ x :: t) < val (d2 ++ y :: t) := by
 rw [val_app, val_app, ← hl]
 have g1 := val_lt h1
 have g2 := val_nonneg h2
 have g3 := Int.mul_le_mul_of_nonneg_left (show x + 1 ≤ y by omega) (Int.le_of_lt (pw d1.length))
 simp only [val, Int.mul_add, Int.mul_one] at g3 ⊢
 omega
theorem drop_split {l : List Int} {i : Nat} (h : i < l.length) : ∃ x, l = l.take i ++ x :: l.drop (i + 1) ∧ rd l (i : Int) = x ∧ (l.take i).length = i ∧ l.drop i = x :: l.drop (i + 1) := by
 have h1 : l.drop i = l[i] :: l.drop (i + 1) := (List.getElem_cons_drop h).symm
 refine ⟨l[i], by rw [← h1, List.take_append_drop], ?_, by rw [List.length_take]; omega, h1⟩
 unfold rd
 rw [Int.toNat_natCast, List.getD_eq_getElem?_getD, List.getElem?_eq_getElem h]
 rfl
theorem compare_loop (a b : List Int) (ha : Dig a) (hb : Dig b) (hl : a.length = b.length) (hs : a.length ≤ 1000000) (i : Nat) : i ≤ a.length → a.drop i = b.drop i → Ev (fun k => natural_compare.l0 k a b ((i : Int) - 1)) (sgn (val a) (val b)) := by
 induction i with
 | zero =>
  intro _ h
  have h2 : a = b := h
  refine Ev.step (f := fun k => some (sgn (val a) (val b))) (fun k => ?_) (Ev.now _)
  simp only [natural_compare.l0]
  rw [if_neg (by omega), h2]
  unfold sgn
  rw [if_neg (by omega), if_pos rfl]
 | succ i ih =>
  intro hi h
  obtain ⟨x, ex, rx, lx, dx⟩ := drop_split (l := a) (i := i) (by omega)
  obtain ⟨y, ey, ry, ly, dy⟩ := drop_split (l := b) (i := i) (by omega)
  have e1 : ((i + 1 : Nat) : Int) - 1 = (i : Int) := by omega
  by_cases hxy : x = y
  · have ih := ih (by omega) (by rw [dx, dy, hxy, h])
    refine Ev.step (fun k => ?_) ih
    simp only [natural_compare.l0]
    rw [e1, rx, ry, if_pos (by omega), if_pos (by omega), if_pos (by omega), if_pos (by omega), if_pos hxy, w64 (by omega) (by omega)]
  · refine Ev.step (f := fun k => some (sgn (val a) (val b))) (fun k => ?_) (Ev.now _)
    simp only [natural_compare.l0]
    rw [e1, rx, ry, if_pos (by omega), if_pos (by omega), if_pos (by omega), if_pos (by omega), if_neg hxy]
    by_cases hlt : x < y
    · have g := cmp_top (t := a.drop (i + 1)) (ha.take i) (hb.take i) (by rw [lx, ly]) hlt
      rw [← ex, h, ← ey] at g
      unfold sgn
      rw [if_pos hlt, if_pos g]
    · have g := cmp_top (t := a.drop (i + 1)) (hb.take i) (ha.take i) (by rw [lx, ly]) (show y < x by omega)
      rw [← ex, h, ← ey] at g
      unfold sgn
      rw [if_neg hlt, if_neg (by omega), if_neg (by omega)]
theorem order_loop (a b : List Int) (ha : Dig a) (hb : Dig b) (hl : a.length = b.length) (hs : a.length ≤ 1000000) (i : Nat) : i ≤ a.length → a.drop i = b.drop i → Ev (fun k => insolvencyref1_order.l0 k a b ((i : Int) - 1)) (sgn (val a) (val b)) := by
 induction i with
 | zero =>
  intro _ h
  have h2 : a = b := h
  refine Ev.step (f := fun k => some (sgn (val a) (val b))) (fun k => ?_) (Ev.now _)
  simp only [insolvencyref1_order.l0]
  rw [if_neg (by omega), h2]
  unfold sgn
  rw [if_neg (by omega), if_pos rfl]
 | succ i ih =>
  intro hi h
  obtain ⟨x, ex, rx, lx, dx⟩ := drop_split (l := a) (i := i) (by omega)
  obtain ⟨y, ey, ry, ly, dy⟩ := drop_split (l := b) (i := i) (by omega)
  have e1 : ((i + 1 : Nat) : Int) - 1 = (i : Int) := by omega
  by_cases hxy : x = y
  · have ih := ih (by omega) (by rw [dx, dy, hxy, h])
    refine Ev.step (fun k => ?_) ih
    simp only [insolvencyref1_order.l0]
    rw [e1, rx, ry, if_pos (by omega), if_pos (by omega), if_pos (by omega), if_pos (by omega), if_pos hxy, w64 (by omega) (by omega)]
  · refine Ev.step (f := fun k => some (sgn (val a) (val b))) (fun k => ?_) (Ev.now _)
    simp only [insolvencyref1_order.l0]
    rw [e1, rx, ry, if_pos (by omega), if_pos (by omega), if_pos (by omega), if_pos (by omega), if_neg hxy]
    by_cases hlt : x < y
    · have g := cmp_top (t := a.drop (i + 1)) (ha.take i) (hb.take i) (by rw [lx, ly]) hlt
      rw [← ex, h, ← ey] at g
      unfold sgn
      rw [if_pos hlt, if_pos g]
    · have g := cmp_top (t := a.drop (i + 1)) (hb.take i) (ha.take i) (by rw [lx, ly]) (show y < x by omega)
      rw [← ex, h, ← ey] at g
      unfold sgn
      rw [if_neg hlt, if_neg (by omega), if_neg (by omega)]
theorem sgn_len {a b : Int} (ha : 0 ≤ a) (hb : 0 ≤ b) (h : (L a).length ≠ (L b).length) : sgn a b = if (L a).length < (L b).length then -1 else 1 := by
 unfold sgn
 by_cases hlt : (L a).length < (L b).length
 · have : ¬ b ≤ a := fun h2 => by have := L_mono hb h2; omega
   rw [if_pos hlt, if_pos (by omega)]
 · have : ¬ a ≤ b := fun h2 => by have := L_mono ha h2; omega
   rw [if_neg hlt, if_neg (by omega), if_neg (by omega)]
theorem sign_eq (n : Int) : natural_sign.f n = some (if n < 0 then -1 else if n > 0 then 1 else 0) := by
 unfold natural_sign.f
 split
 · rfl
 · split <;> rfl
theorem compare_ev {a b : Int} (ha : 0 ≤ a) (hb : 0 ≤ b) (hla : (L a).length ≤ 1000000) (hlb : (L b).length ≤ 1000000) : Ev (fun k => natural_compare.f k (L a) (L b)) (sgn a b) := by
 unfold natural_compare.f
 by_cases h : (L a).length = (L b).length
 · refine Ev.ite (by omega) ?_
   have g := compare_loop (L a) (L b) (L_dig ha) (L_dig hb) h hla (L a).length (Nat.le_refl _) (by rw [List.drop_length, h, List.drop_length])
   rw [L_val ha, L_val hb] at g
   rw [w64 (by omega) (by omega)]
   exact g
 · refine Ev.ite_not (by omega) ?_
   rw [sgn_len ha hb h, w64 (by omega) (by omega), sign_eq, Option.bind_some]
   by_cases hlt : (L a).length < (L b).length
   · rw [if_pos (by omega), if_pos hlt]; exact Ev.now _
   · rw [if_neg (by omega), if_pos (by omega), if_neg hlt]; exact Ev.now _
theorem order_ev {a b : Int} (ha : 0 ≤ a) (hb : 0 ≤ b) (hla : (L a).length ≤ 1000000) (hlb : (L b).length ≤ 1000000) : Ev (fun k => insolvencyref1_order.f k (L a) (L b)) (sgn a b) := by
 unfold insolvencyref1_order.f
 by_cases h : (L a).length = (L b).length
 · refine Ev.ite (by omega) ?_
   have g := order_loop (L a) (L b) (L_dig ha) (L_dig hb) h hla (L a).length (Nat.le_refl _) (by rw [List.drop_length, h, List.drop_length])
   rw [L_val ha, L_val hb] at g
   rw [w64 (by omega) (by omega)]
   exact g
 · refine Ev.ite_not (by omega) ?_
   rw [sgn_len ha hb h]
   by_cases hlt : (L a).length < (L b).length
   · rw [if_pos hlt]
     exact Ev.ite (by omega) (Ev.now _)
   · rw [if_neg hlt]
     exact Ev.ite_not (by omega) (Ev.now _)
theorem B_small {s : ByteArray} {m : Nat} (h : s.size ≤ 4 * m) : (L (B s)).length ≤ m := by
 refine L_len (B_nonneg s) (Int.lt_of_lt_of_le (B_lt s) ?_)
 rw [show (4294967296 : Int) = 256 ^ 4 by decide, ← Int.pow_mul]
 have e1 : ((256 ^ s.size : Nat) : Int) = (256 : Int) ^ s.size := Int.natCast_pow 256 _
 have e2 : ((256 ^ (4 * m) : Nat) : Int) = (256 : Int) ^ (4 * m) := Int.natCast_pow 256 _
 rw [← e1, ← e2]
 exact Int.ofNat_le.2 (Nat.pow_le_pow_right (by decide) h)
theorem few_loop (l : List ByteArray) (hl : l.length ≤ 1000) (r : List ByteArray) : ∀ i : Nat, l.drop i = r → i ≤ l.length → Ev (fun k => insolvencylaw1_few.l0 k l (l.length : Int) (i : Int)) (r.all fun s => decide (s.size ≤ 60)) := by
 induction r with
 | nil =>
  intro i h hi
  have h2 := congrArg List.length h
  rw [List.length_drop, List.length_nil] at h2
  refine Ev.step (f := fun _ => some true) (fun k => ?_) (Ev.now _)
  simp only [insolvencylaw1_few.l0]
  rw [if_neg (by omega)]
 | cons s r ih =>
  intro i h hi
  have hlt : i < l.length := by
   rcases Nat.lt_or_ge i l.length with q | q
   · exact q
   · rw [List.drop_of_length_le q] at h; cases h
  rw [← List.getElem_cons_drop hlt] at h
  have h1 := (List.cons.inj h).1
  have h2 := (List.cons.inj h).2
  have hr : rdOf ByteArray.empty l (i : Int) = s := by
   unfold rdOf
   rw [Int.toNat_natCast, List.getD_eq_getElem?_getD, List.getElem?_eq_getElem hlt, h1]
   rfl
  by_cases hs : s.size ≤ 60
  · have ih := ih (i + 1) h2 (by omega)
    rw [List.all_cons, decide_eq_true hs, Bool.true_and]
    refine Ev.step (fun k => ?_) ih
    simp only [insolvencylaw1_few.l0]
    rw [hr, if_pos (by omega), if_pos (by omega), if_pos (by omega), if_neg (by omega), winc (by omega)]
  · rw [List.all_cons, decide_eq_false hs, Bool.false_and]
    refine Ev.step (f := fun _ => some false) (fun k => ?_) (Ev.now _)
    simp only [insolvencylaw1_few.l0]
    rw [hr, if_pos (by omega), if_pos (by omega), if_pos (by omega), if_pos (by omega)]
theorem few_ev (l : List ByteArray) (hl : l.length ≤ 1000) : Ev (fun k => insolvencylaw1_few.f k l) (l.all fun s => decide (s.size ≤ 60)) := few_loop l hl l 0 rfl (Nat.zero_le _)
end Go.Proofs.YtjaflmhdclmolaaDoor.Num
end
section
namespace Go.Proofs.YtjaflmhdclmolaaDoor.F
open Go.RowKit Go.Proofs.YtjaflmhdclmolaaDoorW.PrintWords Go.Proofs.YtjaflmhdclmolaaDoorW.PrintLast Go.Proofs.YtjaflmhdclmolaaDoorW.PrintMore
attribute [local go_sem] max2_int min2_int max_two min_two max_three min_three max_four min_four   
set_option linter.unusedVariables false
set_option linter.unusedSimpArgs false
mutual
def natural_Multiply.l0 : Nat → List Int → List Int → List Int → Int → Int → Option (ByteArray)
 | 0, _, _, _, _, _ => none
 | k + 1, x6, x7, x24, x25, x26 => if x26 < x25 then (if 0 ≤ x26 then (if x26 < (x24.length : Int) then (natural_Multiply.l1 k x6 x7 x26 (rd x24 x26) 0 x24 x25 x26 x6 (x6.length : Int) 0) else (none)) else (none)) else ((natural_limbs_text.f k x7).bind fun t434 => (some t434))
def natural_Multiply.l1 : Nat → List Int → List Int → Int → Int → Int → List Int → Int → Int → List Int → Int → Int → Option (ByteArray)
 | 0, _, _, _, _, _, _, _, _, _, _, _ => none
 | k + 1, x6, x7, x8, x9, x10, x24, x25, x26, x31, x32, x33 => if x33 < x32 then (if 0 ≤ x33 then (if x33 < (x31.length : Int) then (if 0 ≤ (wrap64 (x8 + x33)) then (if (wrap64 (x8 + x33)) < (x7.length : Int) then (natural_Multiply.l1 k x6 (x7.set ((wrap64 (x8 + x33)) : Int).toNat ((IntKind.u64.wrap ((IntKind.u64.wrap ((IntKind.u64.wrap ((IntKind.u64.wrap (x9)) * (IntKind.u64.wrap (rd x31 x33)))) + (IntKind.u64.wrap (rd x7 (wrap64 (x8 + x33)))))) + x10)) % 4294967296)) x8 x9 ((IntKind.u64.wrap ((IntKind.u64.wrap ((IntKind.u64.wrap ((IntKind.u64.wrap (x9)) * (IntKind.u64.wrap (rd x31 x33)))) + (IntKind.u64.wrap (rd x7 (wrap64 (x8 + x33)))))) + x10)) / 4294967296) x24 x25 x26 x31 x32 (wrap64 (x33 + 1))) else (none)) else (none)) else (none)) else (none)) else (if 0 ≤ (wrap64 (x8 + (x6.length : Int))) then (if (wrap64 (x8 + (x6.length : Int))) < (x7.length : Int) then (natural_Multiply.l0 k x6 (x7.set ((wrap64 (x8 + (x6.length : Int))) : Int).toNat ((x10) % 4294967296)) x24 x25 (wrap64 (x26 + 1))) else (none)) else (none))
end
def natural_Multiply.f (k : Nat) (a0 : ByteArray) (a1 : ByteArray) : Option (ByteArray) := (natural_parse.f k a0).bind fun t425 => ((natural_parse.f k a1).bind fun t428 => (if 0 ≤ (wrap64 ((t425.length : Int) + (t428.length : Int))) then (if (wrap64 ((t425.length : Int) + (t428.length : Int)) : Int).toNat ≤ 70368744177664 then (natural_Multiply.l0 k t428 (List.replicate (wrap64 ((t425.length : Int) + (t428.length : Int)) : Int).toNat 0) t425 (t425.length : Int) 0) else (none)) else (none)))
theorem natural_Multiply.mono_l : ∀ k, (∀ y0 y1 y2 y3 y4, LeO (natural_Multiply.l0 k y0 y1 y2 y3 y4) (natural_Multiply.l0 (k + 1) y0 y1 y2 y3 y4)) ∧ (∀ y0 y1 y2 y3 y4 y5 y6 y7 y8 y9 y10, LeO (natural_Multiply.l1 k y0 y1 y2 y3 y4 y5 y6 y7 y8 y9 y10) (natural_Multiply.l1 (k + 1) y0 y1 y2 y3 y4 y5 y6 y7 y8 y9 y10))
 | 0 => ⟨fun _ _ _ _ _ r h => by simp [natural_Multiply.l0] at h, fun _ _ _ _ _ _ _ _ _ _ _ r h => by simp [natural_Multiply.l1] at h⟩
 | k + 1 => by
  obtain ⟨ih0, ih1⟩ := natural_Multiply.mono_l k
  refine ⟨?_, ?_⟩
  · intro y0 y1 y2 y3 y4
    unfold natural_Multiply.l0
    repeat' first
    | (with_reducible exact ih0 _ _ _ _ _)
    | (with_reducible exact ih1 _ _ _ _ _ _ _ _ _ _ _)
    | (with_reducible exact natural_limbs_text.mono _ _)
    | (with_reducible exact natural_parse.mono _ _)
    | (with_reducible exact LeO.refl _)
    | (with_reducible exact LeO.none _)
    | (with_reducible refine LeO.ite ?_ ?_)
    | (with_reducible refine LeO.bind ?_ (fun _ => ?_))
    | exact ih0 _ _ _ _ _
    | exact ih1 _ _ _ _ _ _ _ _ _ _ _
    | exact natural_limbs_text.mono _ _
    | exact natural_parse.mono _ _
    | exact LeO.none _
    | refine LeO.ite ?_ ?_
    | refine LeO.bind ?_ (fun _ => ?_)
  · intro y0 y1 y2 y3 y4 y5 y6 y7 y8 y9 y10
    unfold natural_Multiply.l1
    repeat' first
    | (with_reducible exact ih0 _ _ _ _ _)
    | (with_reducible exact ih1 _ _ _ _ _ _ _ _ _ _ _)
    | (with_reducible exact natural_limbs_text.mono _ _)
    | (with_reducible exact natural_parse.mono _ _)
    | (with_reducible exact LeO.refl _)
    | (with_reducible exact LeO.none _)
    | (with_reducible refine LeO.ite ?_ ?_)
    | (with_reducible refine LeO.bind ?_ (fun _ => ?_))
    | exact ih0 _ _ _ _ _
    | exact ih1 _ _ _ _ _ _ _ _ _ _ _
    | exact natural_limbs_text.mono _ _
    | exact natural_parse.mono _ _
    | exact LeO.none _
    | refine LeO.ite ?_ ?_
    | refine LeO.bind ?_ (fun _ => ?_)
theorem natural_Multiply.mono : ∀ a0 a1 k, LeO (natural_Multiply.f k a0 a1) (natural_Multiply.f (k + 1) a0 a1) := by
 intro a0 a1 k
 obtain ⟨ih0, ih1⟩ := natural_Multiply.mono_l k
 unfold natural_Multiply.f
 repeat' first
  | (with_reducible exact ih0 _ _ _ _ _)
  | (with_reducible exact ih1 _ _ _ _ _ _ _ _ _ _ _)
  | (with_reducible exact natural_limbs_text.mono _ _)
  | (with_reducible exact natural_parse.mono _ _)
  | (with_reducible exact LeO.refl _)
  | (with_reducible exact LeO.none _)
  | (with_reducible refine LeO.ite ?_ ?_)
  | (with_reducible refine LeO.bind ?_ (fun _ => ?_))
  | exact ih0 _ _ _ _ _
  | exact ih1 _ _ _ _ _ _ _ _ _ _ _
  | exact natural_limbs_text.mono _ _
  | exact natural_parse.mono _ _
  | exact LeO.none _
  | refine LeO.ite ?_ ?_
  | refine LeO.bind ?_ (fun _ => ?_)
set_option maxHeartbeats 8000000 in
set_option maxRecDepth 100000 in
theorem natural_Multiply.calls (k : Nat) (a0 : ByteArray) (a1 : ByteArray) (r : ByteArray) (w : World) (h : natural_Multiply.f k a0 a1 = some r) :
 Calls Tryd.prog 25 #[.string a0, .string a1] w fun e w' => e = .returned (.string r) ∧ Below w.heap.size w w' := by
 have HB := Aside0.mk (Below.refl w.heap.size w)
 have H : ((natural_parse.f k a0).bind fun t425 => ((natural_parse.f k a1).bind fun t428 => (if 0 ≤ (wrap64 ((t425.length : Int) + (t428.length : Int))) then (if (wrap64 ((t425.length : Int) + (t428.length : Int)) : Int).toNat ≤ 70368744177664 then (natural_Multiply.l0 k t428 (List.replicate (wrap64 ((t425.length : Int) + (t428.length : Int)) : Int).toNat 0) t425 (t425.length : Int) 0) else (none)) else (none)))) = some r := h
 clear h
 replace H := Option.bind_eq_some_iff.mp H
 obtain ⟨t425, A30, H⟩ := H
 replace H : ((natural_parse.f k a1).bind fun t428 => (if 0 ≤ (wrap64 ((t425.length : Int) + (t428.length : Int))) then (if (wrap64 ((t425.length : Int) + (t428.length : Int)) : Int).toNat ≤ 70368744177664 then (natural_Multiply.l0 k t428 (List.replicate (wrap64 ((t425.length : Int) + (t428.length : Int)) : Int).toNat 0) t425 (t425.length : Int) 0) else (none)) else (none))) = some r := H
 have A3 := Aside0.mk A30
 clear A30
 replace H := Option.bind_eq_some_iff.mp H
 obtain ⟨t428, A40, H⟩ := H
 replace H : (if 0 ≤ (wrap64 ((t425.length : Int) + (t428.length : Int))) then (if (wrap64 ((t425.length : Int) + (t428.length : Int)) : Int).toNat ≤ 70368744177664 then (natural_Multiply.l0 k t428 (List.replicate (wrap64 ((t425.length : Int) + (t428.length : Int)) : Int).toNat 0) t425 (t425.length : Int) 0) else (none)) else (none)) = some r := H
 have A4 := Aside0.mk A40
 clear A40
 obtain ⟨ji5, hji5⟩ : ∃ j_ : Int, (wrap64 ((t425.length : Int) + (t428.length : Int))) = j_ := ⟨_, rfl⟩
 replace H : (if 0 ≤ (ji5) then (if (ji5 : Int).toNat ≤ 70368744177664 then (natural_Multiply.l0 k t428 (List.replicate (ji5 : Int).toNat 0) t425 (t425.length : Int) 0) else (none)) else (none)) = some r := by first | (rw [hji5] at H; exact H) | (simp only [hji5] at H ⊢; exact H)
 (try rw [hji5] at A3)
 (try rw [hji5] at A4)
 have hji5w : (IntKind.i64.wrap ((t425.length : Int) + (t428.length : Int))) = ji5 := (i64_w _).trans hji5
 by_cases c6 : 0 ≤ (ji5)
 · rw [if_pos c6] at H
   have c6b0 := eq_true c6
   have c6b1 : decide (0 ≤ (ji5)) = true := decide_eq_true c6
   clear c6
   by_cases c7 : (ji5 : Int).toNat ≤ 70368744177664
   · rw [if_pos c7] at H
     have c7b0 := eq_true c7
     have c7b1 : decide ((ji5 : Int).toNat ≤ 70368744177664) = true := decide_eq_true c7
     clear c7
     obtain ⟨y431, hy431⟩ : ∃ y_ : List Int, y_ = (List.replicate (ji5 : Int).toNat 0) := ⟨_, rfl⟩
     replace H : (natural_Multiply.l0 k t428 y431 t425 (t425.length : Int) 0) = some r := by first | (rw [hy431]; with_reducible exact H) | (have H2_ := (Option.bind_some _ _).symm.trans H; rw [hy431]; with_reducible exact H2_) | (have H2_ := (Option.bind_some _ _).symm.trans H; with_reducible exact H2_) | with_reducible exact H | (rw [hy431]; exact H) | exact H
     have Ny431 := Aside0.mk hy431
     clear hy431
     have H' := Aside0.mk H
     clear H
     go_enter Tryd.func25, Tryd.ntmps25
     go_wp2_with (first | ((with_reducible refine gate_callee (f := 42) rfl ?_); refine goesL_ (some 15) rfl rfl Tryd.func42 (by kernel_rfl) rfl #[.string a0] rfl (by (try simp only [List.map_toArray, List.map_cons, List.map_nil]); first | done | rfl | (simp only [List.length_drop, List.length_take]; rfl)) ?_; (with_reducible refine (natural_parse.calls k a0 t425 _ A3.out).mono ?_); rintro e w8 ⟨v426, rfl, ho0, hb⟩; refine ⟨_, rfl, ?_⟩; have n0_ := Aside0.mk (Kd.R_lower ho0 (below_size (by repeat (first | (with_reducible first | exact HB.out | apply below_alloc | apply pw_below_drewN | apply below_drew1) | exact HB.out)))); have n1_ := Aside0.mk (below_step (by repeat (first | (with_reducible first | exact HB.out | apply below_alloc | apply pw_below_drewN | apply below_drew1) | exact HB.out)) hb); clear HB; have HO427 := n0_; have HB := n1_; clear n0_ n1_; (try clear hb); (try clear hb2); (try clear hk); (try clear hi); (try clear ho0)) | ((with_reducible refine gate_callee (f := 42) rfl ?_); refine goesL_ (some 17) rfl rfl Tryd.func42 (by kernel_rfl) rfl #[.string a1] rfl (by (try simp only [List.map_toArray, List.map_cons, List.map_nil]); first | done | rfl | (simp only [List.length_drop, List.length_take]; rfl)) ?_; (with_reducible refine (natural_parse.calls k a1 t428 _ A4.out).mono ?_); rintro e w9 ⟨v429, rfl, ho0, hb⟩; refine ⟨_, rfl, ?_⟩; have n0_ := Aside0.mk (Kd.R_elder' (by (with_reducible repeat (first | apply Kd.R_alloc | apply Kd.R_drewN | apply Kd.R_drew)); exact HO427.out) (Kd.R_base ho0) hb); have n1_ := Aside0.mk (Kd.R_lower (Kd.R_new' ho0 (Kd.R_lt (by (with_reducible repeat (first | apply Kd.R_alloc | apply Kd.R_drewN | apply Kd.R_drew)); exact HO427.out))) (below_size (by repeat (first | (with_reducible first | exact HB.out | apply below_alloc | apply pw_below_drewN | apply below_drew1) | exact HB.out)))); have n2_ := Aside0.mk (below_step (by repeat (first | (with_reducible first | exact HB.out | apply below_alloc | apply pw_below_drewN | apply below_drew1) | exact HB.out)) hb); clear HO427; clear HB; have HO427 := n0_; have HO430 := n1_; have HB := n2_; clear n0_ n1_ n2_; (try clear hb); (try clear hb2); (try clear hk); (try clear hi); (try clear ho0); obtain ⟨Ao10, co10, eo10⟩ := Kd.R_slice HO427.out; subst eo10; obtain ⟨Ao11, co11, eo11⟩ := Kd.R_slice HO430.out; subst eo11) | ((with_reducible refine gate_dst (N := 23) rfl ?_); refine Kd.R_make (Kd.int .u32) _ 60 rfl (N := 23) rfl 50 _ _ rfl ji5 rfl rfl Tryd.underlying50 (.int .u32 0) 4 info60 rfl (by decide) (by omega) 0 (ok := fun _ => True) (okp := fun _ => True) rfl (fun _ hk => hk) trivial (of_decide_eq_true (by first | (with_reducible assumption) | assumption)) (Nat.le_trans (Nat.mul_le_mul_right _ (of_decide_eq_true (by first | (with_reducible assumption) | assumption) : ji5.toNat ≤ 70368744177664)) (by omega)) (Below.refl _ _) (Nat.le_refl _) ?_; intro v432 w12 ho13 hb hg_ hnew_; clear hg_ hnew_; (first | rw [← Ny431.out] at ho13 | (simp only [Int.reduceToNat] at ho13; rw [← Ny431.out] at ho13)); have n0_ := Aside0.mk (Kd.R_elder' (by (with_reducible repeat (first | apply Kd.R_alloc | apply Kd.R_drewN | apply Kd.R_drew)); exact HO427.out) (Kd.R_base ho13) hb); have n1_ := Aside0.mk (Kd.R_elder' (by (with_reducible repeat (first | apply Kd.R_alloc | apply Kd.R_drewN | apply Kd.R_drew)); exact HO430.out) (Kd.R_base ho13) hb); have n2_ := Aside0.mk (Kd.R_lower (Kd.R_new' (Kd.R_new' ho13 (Kd.R_lt (by (with_reducible repeat (first | apply Kd.R_alloc | apply Kd.R_drewN | apply Kd.R_drew)); exact HO427.out))) (Kd.R_lt (by (with_reducible repeat (first | apply Kd.R_alloc | apply Kd.R_drewN | apply Kd.R_drew)); exact HO430.out))) (below_size (by repeat (first | (with_reducible first | exact HB.out | apply below_alloc | apply pw_below_drewN | apply below_drew1) | exact HB.out)))); have n3_ := Aside0.mk (below_step (by repeat (first | (with_reducible first | exact HB.out | apply below_alloc | apply pw_below_drewN | apply below_drew1) | exact HB.out)) hb); clear HO427; clear HO430; clear HB; have HO427 := n0_; have HO430 := n1_; have HO433 := n2_; have HB := n3_; clear n0_ n1_ n2_ n3_; clear hb ho13))
     go_loopg [26] k (fun kq v26 w' => ∃ (x7_1 : List Int) (x26_1 : Int), v26 = .int .i64 x26_1 ∧ Aside0 (natural_Multiply.l0 kq t428 x7_1 t425 (t425.length : Int) x26_1 = some r) ∧ Aside0 (kq ≤ k) ∧ Aside0 (Kd.R (Kd.int .u32) 60 w' w.heap.size (fun k_ => some k_ ≠ (v432 : Value).ownBlock ∧ some k_ ≠ ((.slice Ao10 t425.length co10) : Value).ownBlock) (.slice Ao11 t428.length co11) t428) ∧ Aside0 (Kd.R (Kd.int .u32) 60 w' w.heap.size (fun k_ => some k_ ≠ ((.slice Ao11 t428.length co11) : Value).ownBlock ∧ some k_ ≠ ((.slice Ao10 t425.length co10) : Value).ownBlock) v432 x7_1) ∧ Aside0 (Kd.R (Kd.int .u32) 60 w' w.heap.size (fun k_ => some k_ ≠ ((.slice Ao11 t428.length co11) : Value).ownBlock ∧ some k_ ≠ (v432 : Value).ownBlock) (.slice Ao10 t425.length co10) t425) ∧ Aside0 (Below w.heap.size w w'))
     case atStart => exact ⟨(y431), (0), (by first | rfl | (simp; done) | (simp [*]; done)), H', ⟨Nat.le_refl _⟩, ⟨by (with_reducible repeat (first | apply Kd.R_alloc | apply Kd.R_drewN | apply Kd.R_drew)); exact Kd.R_mono HO430.out (fun _ hk => ⟨hk.2, hk.1.2⟩)⟩, ⟨by (with_reducible repeat (first | apply Kd.R_alloc | apply Kd.R_drewN | apply Kd.R_drew)); exact Kd.R_mono HO433.out (fun _ hk => ⟨hk.2, hk.1.2⟩)⟩, ⟨by (with_reducible repeat (first | apply Kd.R_alloc | apply Kd.R_drewN | apply Kd.R_drew)); exact Kd.R_mono HO427.out (fun _ hk => ⟨hk.1.2, hk.2⟩)⟩, ⟨by repeat (first | (with_reducible first | exact HB.out | apply below_alloc | apply pw_below_drewN | apply below_drew1) | exact HB.out)⟩⟩
     case round =>
      clear H'
      try clear c2
      try clear p2
      try clear c4
      try clear c6
      try clear c6b0
      try clear c6b1
      try clear p6
      try clear c7
      try clear c7b0
      try clear c7b1
      obtain ⟨x7_1, x26_1, rfl, HA, HK1, HO_6, HO_7, HO_24, HB⟩ := hrel
      cases gk with
      | zero => exact absurd HA.out (by simp [natural_Multiply.l0])
      | succ k1 =>
       have H := HA.out
       clear HA
       simp only [natural_Multiply.l0] at H
       by_cases c14 : x26_1 < (t425.length : Int)
       · rw [if_pos c14] at H
         have c14b0 : decide (x26_1 < (t425.length : Int)) = true := decide_eq_true c14
         clear c14
         by_cases c15 : 0 ≤ x26_1
         · rw [if_pos c15] at H
           have c15b0 : decide (0 ≤ x26_1) = true := decide_eq_true c15
           clear c15
           by_cases c16 : x26_1 < (t425.length : Int)
           · rw [if_pos c16] at H
             have c16b0 : decide (x26_1 < (t425.length : Int)) = true := decide_eq_true c16
             clear c16
             have H' := Aside0.mk H
             clear H
             have p435 : 0 ≤ (x26_1 : Int) := of_decide_eq_true (by first | (with_reducible assumption) | assumption)
             have q435 : x26_1 < (t425.length : Int) := of_decide_eq_true (by first | (with_reducible assumption) | assumption)
             obtain ⟨ad435, e435, hx435_0⟩ := Kd.at_int (Kd.R_reads' HO_24.out).2.2 x26_1 p435 q435
             cases e435
             replace p435 := eq_true p435
             replace q435 := eq_true q435
             go_wp2
             go_loopg [10, 33] k1 (fun kq v10 v33 w' => ∃ (x7_2 : List Int) (x10_2 : Int) (x33_2 : Int), v10 = .int .u64 x10_2 ∧ v33 = .int .i64 x33_2 ∧ Aside0 (natural_Multiply.l1 kq t428 x7_2 x26_1 (rd t425 x26_1) x10_2 t425 (t425.length : Int) x26_1 t428 (t428.length : Int) x33_2 = some r) ∧ Aside0 (kq ≤ k1) ∧ Aside0 (Kd.R (Kd.int .u32) 60 w' w.heap.size (fun k_ => some k_ ≠ (v432 : Value).ownBlock ∧ some k_ ≠ ((.slice (some ad435) t425.length co10) : Value).ownBlock) (.slice Ao11 t428.length co11) t428) ∧ Aside0 (Kd.R (Kd.int .u32) 60 w' w.heap.size (fun k_ => some k_ ≠ ((.slice Ao11 t428.length co11) : Value).ownBlock ∧ some k_ ≠ ((.slice (some ad435) t425.length co10) : Value).ownBlock ∧ some k_ ≠ ((.slice Ao11 t428.length co11) : Value).ownBlock) v432 x7_2) ∧ Aside0 (Kd.R (Kd.int .u32) 60 w' w.heap.size (fun k_ => some k_ ≠ ((.slice Ao11 t428.length co11) : Value).ownBlock ∧ some k_ ≠ (v432 : Value).ownBlock ∧ some k_ ≠ ((.slice Ao11 t428.length co11) : Value).ownBlock) (.slice (some ad435) t425.length co10) t425) ∧ Aside0 (Kd.R (Kd.int .u32) 60 w' w.heap.size (fun k_ => some k_ ≠ (v432 : Value).ownBlock ∧ some k_ ≠ ((.slice (some ad435) t425.length co10) : Value).ownBlock) (.slice Ao11 t428.length co11) t428) ∧ Aside0 (Below w.heap.size w w'))
             case atStart => exact ⟨(x7_1), (0), (0), (by first | rfl | (simp; done) | (simp [*]; done)), (by first | rfl | (simp; done) | (simp [*]; done)), H', ⟨Nat.le_refl _⟩, ⟨by (with_reducible repeat (first | apply Kd.R_alloc | apply Kd.R_drewN | apply Kd.R_drew)); exact HO_6.out⟩, ⟨by (with_reducible repeat (first | apply Kd.R_alloc | apply Kd.R_drewN | apply Kd.R_drew)); exact Kd.R_mono HO_7.out (fun _ hk => ⟨hk.1, ⟨hk.2, hk.1⟩⟩)⟩, ⟨by (with_reducible repeat (first | apply Kd.R_alloc | apply Kd.R_drewN | apply Kd.R_drew)); exact Kd.R_mono HO_24.out (fun _ hk => ⟨hk.1, ⟨hk.2, hk.1⟩⟩)⟩, ⟨by (with_reducible repeat (first | apply Kd.R_alloc | apply Kd.R_drewN | apply Kd.R_drew)); exact HO_6.out⟩, ⟨by repeat (first | (with_reducible first | exact HB.out | apply below_alloc | apply pw_below_drewN | apply below_drew1) | exact HB.out)⟩⟩
             case round =>
              clear H'
              try clear c1
              try clear c2
              try clear p2
              try clear c4
              try clear p4
              try clear q4
              try clear hx4
              try clear c6
              try clear c6b0
              try clear c6b1
              try clear p6
              try clear c7
              try clear c7b0
              try clear c7b1
              try clear c14
              try clear c14b0
              try clear c15
              try clear c15b0
              try clear c16
              try clear c16b0
              try clear hx435_0
              try clear p2
              try clear p435
              try clear p6
              try clear q435
              obtain ⟨x7_2, x10_2, x33_2, rfl, rfl, HA, HK2, HO_6, HO_7, HO_24, HO_31, HB⟩ := hrel
              cases gk with
              | zero => exact absurd HA.out (by simp [natural_Multiply.l1])
              | succ k2 =>
               have H := HA.out
               clear HA
               simp only [natural_Multiply.l1] at H
               by_cases c17 : x33_2 < (t428.length : Int)
               · rw [if_pos c17] at H
                 have c17b0 : decide (x33_2 < (t428.length : Int)) = true := decide_eq_true c17
                 clear c17
                 by_cases c18 : 0 ≤ x33_2
                 · rw [if_pos c18] at H
                   have c18b0 : decide (0 ≤ x33_2) = true := decide_eq_true c18
                   clear c18
                   by_cases c19 : x33_2 < (t428.length : Int)
                   · rw [if_pos c19] at H
                     have c19b0 : decide (x33_2 < (t428.length : Int)) = true := decide_eq_true c19
                     clear c19
                     obtain ⟨ji20, hji20⟩ : ∃ j_ : Int, (wrap64 (x26_1 + x33_2)) = j_ := ⟨_, rfl⟩
                     replace H : (if 0 ≤ (ji20) then (if (ji20) < (x7_2.length : Int) then (natural_Multiply.l1 k2 t428 (x7_2.set ((ji20) : Int).toNat ((IntKind.u64.wrap ((IntKind.u64.wrap ((IntKind.u64.wrap ((IntKind.u64.wrap ((rd t425 x26_1))) * (IntKind.u64.wrap (rd t428 x33_2)))) + (IntKind.u64.wrap (rd x7_2 (ji20))))) + x10_2)) % 4294967296)) x26_1 (rd t425 x26_1) ((IntKind.u64.wrap ((IntKind.u64.wrap ((IntKind.u64.wrap ((IntKind.u64.wrap ((rd t425 x26_1))) * (IntKind.u64.wrap (rd t428 x33_2)))) + (IntKind.u64.wrap (rd x7_2 (ji20))))) + x10_2)) / 4294967296) t425 (t425.length : Int) x26_1 t428 (t428.length : Int) (wrap64 (x33_2 + 1))) else (none)) else (none)) = some r := by first | (rw [hji20] at H; exact H) | (simp only [hji20] at H ⊢; exact H)
                     have hji20w : (IntKind.i64.wrap (x26_1 + x33_2)) = ji20 := (i64_w _).trans hji20
                     by_cases c21 : 0 ≤ (ji20)
                     · rw [if_pos c21] at H
                       have c21b0 : decide (0 ≤ (ji20)) = true := decide_eq_true c21
                       clear c21
                       by_cases c22 : (ji20) < (x7_2.length : Int)
                       · rw [if_pos c22] at H
                         have c22b0 : decide ((ji20) < (x7_2.length : Int)) = true := decide_eq_true c22
                         clear c22
                         obtain ⟨y438, hy438⟩ : ∃ y_ : List Int, y_ = (x7_2.set ((ji20) : Int).toNat ((IntKind.u64.wrap ((IntKind.u64.wrap ((IntKind.u64.wrap ((IntKind.u64.wrap ((rd t425 x26_1))) * (IntKind.u64.wrap (rd t428 x33_2)))) + (IntKind.u64.wrap (rd x7_2 (ji20))))) + x10_2)) % 4294967296)) := ⟨_, rfl⟩
                         replace H : (natural_Multiply.l1 k2 t428 y438 x26_1 (rd t425 x26_1) ((IntKind.u64.wrap ((IntKind.u64.wrap ((IntKind.u64.wrap ((IntKind.u64.wrap ((rd t425 x26_1))) * (IntKind.u64.wrap (rd t428 x33_2)))) + (IntKind.u64.wrap (rd x7_2 (ji20))))) + x10_2)) / 4294967296) t425 (t425.length : Int) x26_1 t428 (t428.length : Int) (wrap64 (x33_2 + 1))) = some r := by first | (rw [hy438]; with_reducible exact H) | (have H2_ := (Option.bind_some _ _).symm.trans H; rw [hy438]; with_reducible exact H2_) | (have H2_ := (Option.bind_some _ _).symm.trans H; with_reducible exact H2_) | with_reducible exact H | (rw [hy438]; exact H) | exact H
                         have Ny438 := Aside0.mk hy438
                         clear hy438
                         have H' := Aside0.mk H
                         clear H
                         have p436 : 0 ≤ (x33_2 : Int) := of_decide_eq_true (by first | (with_reducible assumption) | assumption)
                         have q436 : x33_2 < (t428.length : Int) := of_decide_eq_true (by first | (with_reducible assumption) | assumption)
                         obtain ⟨ad436, e436, hx436_0⟩ := Kd.at_int (Kd.R_reads' HO_31.out).2.2 x33_2 p436 q436
                         cases e436
                         replace p436 := eq_true p436
                         replace q436 := eq_true q436
                         obtain ⟨Ao24, co24, eo24⟩ := Kd.R_slice HO_7.out
                         subst eo24
                         have p437 : 0 ≤ ((ji20) : Int) := of_decide_eq_true (by first | (with_reducible assumption) | assumption)
                         have q437 : (ji20) < (x7_2.length : Int) := of_decide_eq_true (by first | (with_reducible assumption) | assumption)
                         obtain ⟨ad437, e437, hx437_0⟩ := Kd.at_int (Kd.R_reads' HO_7.out).2.2 (ji20) p437 q437
                         cases e437
                         replace p437 := eq_true p437
                         replace q437 := eq_true q437
                         have p23 : 0 ≤ ((ji20) : Int) := of_decide_eq_true (by first | (with_reducible assumption) | assumption)
                         have q23 : ((ji20) : Int) < ((x7_2.length : Int) : Int) := of_decide_eq_true (by first | (with_reducible assumption) | assumption)
                         obtain ⟨go23, co23, eo23, gb23, gl23, cl23, HG23⟩ := Kd.R_form HO_7.out (by omega)
                         (first | cases eo23 | (injection eo23 with ea_ en_ ec_; (first | subst ea_ | (injection ea_ with ea_; subst ea_)); subst ec_; clear en_))
                         have GB23 := Aside0.mk gb23
                         have GG23 := Aside0.mk HG23
                         clear gb23 gl23 HG23
                         (first | simp only [add_plain] at hx437_0 | skip)
                         obtain ⟨hx23_0, hf23_0⟩ := Kd.R_celln 0 HO_7.out ((ji20) : Int) p23 q23
                         replace p23 := eq_true p23
                         replace q23 := eq_true q23
                         have HP25 := Kd.R_putg HO_7.out ((ji20) : Int) ((IntKind.u64.wrap ((IntKind.u64.wrap ((IntKind.u64.wrap ((IntKind.u64.wrap ((rd t425 x26_1))) * (IntKind.u64.wrap (rd t428 x33_2)))) + (IntKind.u64.wrap (rd x7_2 (ji20))))) + x10_2)) % 4294967296)
                         go_wp2_with (first | ((with_reducible refine gate_store (t := 60) (p := 59) rfl ?_); refine store_event (t := 60) (p := 59) (v := ?vo_w26) (w1 := (wr.setCell ⟨go23, ((ji20) : Int).toNat, none⟩ (.int .u32 ((IntKind.u64.wrap ((IntKind.u64.wrap ((IntKind.u64.wrap ((IntKind.u64.wrap ((rd t425 x26_1))) * (IntKind.u64.wrap (rd t428 x33_2)))) + (IntKind.u64.wrap (rd x7_2 (ji20))))) + x10_2)) % 4294967296)))) ?hg ?ho ?hn ?hr ?_; (case ho => rfl); (case hg => rfl); (case hn => rfl); (case hr => first | (go_simp; done) | (go_simp; rfl)); intro w26 hw; have hg : wr.grownBy w26 (some go23) := (by rw [hw]; exact HP25.2); have hp_ : Kd.R (Kd.int .u32) 60 w26 w.heap.size (fun k_ => some k_ ≠ (.slice (some ad436) t428.length co11 : Value).ownBlock ∧ some k_ ≠ (.slice (some ad435) t425.length co10 : Value).ownBlock ∧ some k_ ≠ (.slice (some ad436) t428.length co11 : Value).ownBlock) (.slice (some ⟨go23, 0, none⟩) x7_2.length co24) y438 := (by rw [hw, Ny438.out]; exact HP25.1); clear HP25; have n0_ := Aside0.mk (Kd.R_after (v := (.slice (some ⟨go23, 0, none⟩) x7_2.length co24)) (v1 := (.slice (some ⟨go23, 0, none⟩) x7_2.length co24)) (ok := (fun k_ => some k_ ≠ (.slice (some ad435) t425.length co10 : Value).ownBlock)) (by (with_reducible repeat (first | apply Kd.R_alloc | apply Kd.R_drewN | apply Kd.R_drew)); exact Kd.R_mono HO_6.out (fun _ hk => ⟨hk.2, hk.1⟩)) hg (.inl rfl)); have n1_ := Aside0.mk (hp_); have n2_ := Aside0.mk (Kd.R_after (v := (.slice (some ⟨go23, 0, none⟩) x7_2.length co24)) (v1 := (.slice (some ⟨go23, 0, none⟩) x7_2.length co24)) (ok := (fun k_ => some k_ ≠ (.slice (some ad436) t428.length co11 : Value).ownBlock ∧ some k_ ≠ (.slice (some ad436) t428.length co11 : Value).ownBlock)) (by (with_reducible repeat (first | apply Kd.R_alloc | apply Kd.R_drewN | apply Kd.R_drew)); exact Kd.R_mono HO_24.out (fun _ hk => ⟨⟨hk.1, hk.2.2⟩, hk.2.1⟩)) hg (.inl rfl)); have n3_ := Aside0.mk (Kd.R_after (v := (.slice (some ⟨go23, 0, none⟩) x7_2.length co24)) (v1 := (.slice (some ⟨go23, 0, none⟩) x7_2.length co24)) (ok := (fun k_ => some k_ ≠ (.slice (some ad435) t425.length co10 : Value).ownBlock)) (by (with_reducible repeat (first | apply Kd.R_alloc | apply Kd.R_drewN | apply Kd.R_drew)); exact Kd.R_mono HO_31.out (fun _ hk => ⟨hk.2, hk.1⟩)) hg (.inl rfl)); have n4_ := Aside0.mk ((by rw [hw]; exact below_set (HB.out) GB23.out : Below w.heap.size w w26)); clear HO_6; clear HO_7; clear HO_24; clear HO_31; clear HB; have HO_6 := n0_; have HO_7 := n1_; have HO_24 := n2_; have HO_31 := n3_; have HB := n4_; clear n0_ n1_ n2_ n3_ n4_; clear hg hw hp_))
                         go_roundg k2
                         case measure => have := HK1.out; have := HK2.out; omega
                         case rel => exact ⟨(y438), ((IntKind.u64.wrap ((IntKind.u64.wrap ((IntKind.u64.wrap ((IntKind.u64.wrap ((rd t425 x26_1))) * (IntKind.u64.wrap (rd t428 x33_2)))) + (IntKind.u64.wrap (rd x7_2 (ji20))))) + x10_2)) / 4294967296), (wrap64 (x33_2 + 1)), (by first | rfl | (simp; done) | (simp only [← hji20] <;> (first | rfl | simp)) | (simp [*]; done)), (by first | rfl | (simp; done) | (simp [*]; done)), H', ⟨by have := HK1.out; have := HK2.out; omega⟩, ⟨by (with_reducible repeat (first | apply Kd.R_alloc | apply Kd.R_drewN | apply Kd.R_drew)); exact Kd.R_mono HO_6.out (fun _ hk => ⟨hk.2, hk.1⟩)⟩, ⟨by (with_reducible repeat (first | apply Kd.R_alloc | apply Kd.R_drewN | apply Kd.R_drew)); exact HO_7.out⟩, ⟨by (with_reducible repeat (first | apply Kd.R_alloc | apply Kd.R_drewN | apply Kd.R_drew)); exact Kd.R_mono HO_24.out (fun _ hk => ⟨hk.1.1, ⟨hk.2, hk.1.2⟩⟩)⟩, ⟨by (with_reducible repeat (first | apply Kd.R_alloc | apply Kd.R_drewN | apply Kd.R_drew)); exact Kd.R_mono HO_31.out (fun _ hk => ⟨hk.2, hk.1⟩)⟩, ⟨by repeat (first | (with_reducible first | exact HB.out | apply below_alloc | apply pw_below_drewN | apply below_drew1) | exact HB.out)⟩⟩
                       · rw [if_neg c22] at H
                         exact absurd H (by simp)
                     · rw [if_neg c21] at H
                       exact absurd H (by simp)
                   · rw [if_neg c19] at H
                     exact absurd H (by simp)
                 · rw [if_neg c18] at H
                   exact absurd H (by simp)
               · rw [if_neg c17] at H
                 have c17b0 : decide (x33_2 < (t428.length : Int)) = false := decide_eq_false c17
                 clear c17
                 obtain ⟨ji27, hji27⟩ : ∃ j_ : Int, (wrap64 (x26_1 + (t428.length : Int))) = j_ := ⟨_, rfl⟩
                 replace H : (if 0 ≤ (ji27) then (if (ji27) < (x7_2.length : Int) then (natural_Multiply.l0 k2 t428 (x7_2.set ((ji27) : Int).toNat ((x10_2) % 4294967296)) t425 (t425.length : Int) (wrap64 (x26_1 + 1))) else (none)) else (none)) = some r := by first | (rw [hji27] at H; exact H) | (simp only [hji27] at H ⊢; exact H)
                 have hji27w : (IntKind.i64.wrap (x26_1 + (t428.length : Int))) = ji27 := (i64_w _).trans hji27
                 by_cases c28 : 0 ≤ (ji27)
                 · rw [if_pos c28] at H
                   have c28b0 : decide (0 ≤ (ji27)) = true := decide_eq_true c28
                   clear c28
                   by_cases c29 : (ji27) < (x7_2.length : Int)
                   · rw [if_pos c29] at H
                     have c29b0 : decide ((ji27) < (x7_2.length : Int)) = true := decide_eq_true c29
                     clear c29
                     obtain ⟨y439, hy439⟩ : ∃ y_ : List Int, y_ = (x7_2.set ((ji27) : Int).toNat ((x10_2) % 4294967296)) := ⟨_, rfl⟩
                     replace H : (natural_Multiply.l0 k2 t428 y439 t425 (t425.length : Int) (wrap64 (x26_1 + 1))) = some r := by first | (rw [hy439]; with_reducible exact H) | (have H2_ := (Option.bind_some _ _).symm.trans H; rw [hy439]; with_reducible exact H2_) | (have H2_ := (Option.bind_some _ _).symm.trans H; with_reducible exact H2_) | with_reducible exact H | (rw [hy439]; exact H) | exact H
                     have Ny439 := Aside0.mk hy439
                     clear hy439
                     have H' := Aside0.mk H
                     clear H
                     have p30 : 0 ≤ ((ji27) : Int) := of_decide_eq_true (by first | (with_reducible assumption) | assumption)
                     have q30 : ((ji27) : Int) < ((x7_2.length : Int) : Int) := of_decide_eq_true (by first | (with_reducible assumption) | assumption)
                     obtain ⟨go30, co30, eo30, gb30, gl30, cl30, HG30⟩ := Kd.R_form HO_7.out (by omega)
                     (first | cases eo30 | (injection eo30 with ea_ en_ ec_; (first | subst ea_ | (injection ea_ with ea_; subst ea_)); subst ec_; clear en_))
                     have GB30 := Aside0.mk gb30
                     have GG30 := Aside0.mk HG30
                     clear gb30 gl30 HG30
                     obtain ⟨hx30_0, hf30_0⟩ := Kd.R_celln 0 HO_7.out ((ji27) : Int) p30 q30
                     replace p30 := eq_true p30
                     replace q30 := eq_true q30
                     have HP31 := Kd.R_putg HO_7.out ((ji27) : Int) ((x10_2) % 4294967296)
                     go_wp2_with (first | ((with_reducible refine gate_store (t := 60) (p := 70) rfl ?_); refine store_event (t := 60) (p := 70) (v := ?vo_w32) (w1 := (wr.setCell ⟨go30, ((ji27) : Int).toNat, none⟩ (.int .u32 ((x10_2) % 4294967296)))) ?hg ?ho ?hn ?hr ?_; (case ho => rfl); (case hg => rfl); (case hn => rfl); (case hr => first | (go_simp; done) | (go_simp; rfl)); intro w32 hw; have hg : wr.grownBy w32 (some go30) := (by rw [hw]; exact HP31.2); have hp_ : Kd.R (Kd.int .u32) 60 w32 w.heap.size (fun k_ => some k_ ≠ (.slice Ao11 t428.length co11 : Value).ownBlock ∧ some k_ ≠ (.slice (some ad435) t425.length co10 : Value).ownBlock ∧ some k_ ≠ (.slice Ao11 t428.length co11 : Value).ownBlock) (.slice (some ⟨go30, 0, none⟩) x7_2.length co30) y439 := (by rw [hw, Ny439.out]; exact HP31.1); clear HP31; have n0_ := Aside0.mk (Kd.R_after (v := (.slice (some ⟨go30, 0, none⟩) x7_2.length co30)) (v1 := (.slice (some ⟨go30, 0, none⟩) x7_2.length co30)) (ok := (fun k_ => some k_ ≠ (.slice (some ad435) t425.length co10 : Value).ownBlock)) (by (with_reducible repeat (first | apply Kd.R_alloc | apply Kd.R_drewN | apply Kd.R_drew)); exact Kd.R_mono HO_6.out (fun _ hk => ⟨hk.2, hk.1⟩)) hg (.inl rfl)); have n1_ := Aside0.mk (hp_); have n2_ := Aside0.mk (Kd.R_after (v := (.slice (some ⟨go30, 0, none⟩) x7_2.length co30)) (v1 := (.slice (some ⟨go30, 0, none⟩) x7_2.length co30)) (ok := (fun k_ => some k_ ≠ (.slice Ao11 t428.length co11 : Value).ownBlock ∧ some k_ ≠ (.slice Ao11 t428.length co11 : Value).ownBlock)) (by (with_reducible repeat (first | apply Kd.R_alloc | apply Kd.R_drewN | apply Kd.R_drew)); exact Kd.R_mono HO_24.out (fun _ hk => ⟨⟨hk.1, hk.2.2⟩, hk.2.1⟩)) hg (.inl rfl)); have n3_ := Aside0.mk (Kd.R_after (v := (.slice (some ⟨go30, 0, none⟩) x7_2.length co30)) (v1 := (.slice (some ⟨go30, 0, none⟩) x7_2.length co30)) (ok := (fun k_ => some k_ ≠ (.slice (some ad435) t425.length co10 : Value).ownBlock)) (by (with_reducible repeat (first | apply Kd.R_alloc | apply Kd.R_drewN | apply Kd.R_drew)); exact Kd.R_mono HO_31.out (fun _ hk => ⟨hk.2, hk.1⟩)) hg (.inl rfl)); have n4_ := Aside0.mk ((by rw [hw]; exact below_set (HB.out) GB30.out : Below w.heap.size w w32)); clear HO_6; clear HO_7; clear HO_24; clear HO_31; clear HB; have HO_6 := n0_; have HO_7 := n1_; have HO_24 := n2_; have HO_31 := n3_; have HB := n4_; clear n0_ n1_ n2_ n3_ n4_; clear hg hw hp_))
                     go_roundg k2
                     case measure => have := HK1.out; have := HK2.out; omega
                     case rel => exact ⟨(y439), (wrap64 (x26_1 + 1)), (by first | rfl | (simp; done) | (simp [*]; done)), H', ⟨by have := HK1.out; have := HK2.out; omega⟩, ⟨by (with_reducible repeat (first | apply Kd.R_alloc | apply Kd.R_drewN | apply Kd.R_drew)); exact Kd.R_mono HO_6.out (fun _ hk => ⟨hk.2, hk.1⟩)⟩, ⟨by (with_reducible repeat (first | apply Kd.R_alloc | apply Kd.R_drewN | apply Kd.R_drew)); exact Kd.R_mono HO_7.out (fun _ hk => ⟨hk.1, hk.2.1⟩)⟩, ⟨by (with_reducible repeat (first | apply Kd.R_alloc | apply Kd.R_drewN | apply Kd.R_drew)); exact Kd.R_mono HO_24.out (fun _ hk => ⟨hk.1.1, hk.2⟩)⟩, ⟨by repeat (first | (with_reducible first | exact HB.out | apply below_alloc | apply pw_below_drewN | apply below_drew1) | exact HB.out)⟩⟩
                   · rw [if_neg c29] at H
                     exact absurd H (by simp)
                 · rw [if_neg c28] at H
                   exact absurd H (by simp)
           · rw [if_neg c16] at H
             exact absurd H (by simp)
         · rw [if_neg c15] at H
           exact absurd H (by simp)
       · rw [if_neg c14] at H
         have c14b0 : decide (x26_1 < (t425.length : Int)) = false := decide_eq_false c14
         clear c14
         replace H := Option.bind_eq_some_iff.mp H
         obtain ⟨t434, A330, H⟩ := H
         replace H : (some t434) = some r := H
         have A33 := Aside0.mk A330
         clear A330
         obtain rfl := Option.some.inj H
         obtain ⟨Ao34, co34, eo34⟩ := Kd.R_slice HO_7.out
         subst eo34
         go_wp2_with (first | ((with_reducible refine gate_callee (f := 44) rfl ?_); refine goesL_ (some 73) rfl rfl Tryd.func44 (by kernel_rfl) rfl #[.slice Ao34 x7_1.length co34] rfl (by (try simp only [List.map_toArray, List.map_cons, List.map_nil]); first | done | rfl | (simp only [List.length_drop, List.length_take]; rfl)) ?_; (with_reducible refine (natural_limbs_text.calls k1 _ _ x7_1 t434 _ ?side1 ?side2 A33.out).mono ?_); (case side1 => repeat (first | exact (Kd.R_reads' HO_7.out).2.2 | (with_reducible refine Kd.C_alloc ?_ _) | (with_reducible refine Kd.C_drewN ?_ _) | (with_reducible refine Kd.C_drew ?_))); (case side2 => exact (Kd.R_reads' HO_7.out).2.1); rintro e w35 ⟨rfl, hb⟩; refine ⟨_, rfl, ?_⟩; have n0_ := Aside0.mk (Kd.R_below (by (with_reducible repeat (first | apply Kd.R_alloc | apply Kd.R_drewN | apply Kd.R_drew)); exact HO_6.out) hb); have n1_ := Aside0.mk (Kd.R_below (by (with_reducible repeat (first | apply Kd.R_alloc | apply Kd.R_drewN | apply Kd.R_drew)); exact HO_7.out) hb); have n2_ := Aside0.mk (Kd.R_below (by (with_reducible repeat (first | apply Kd.R_alloc | apply Kd.R_drewN | apply Kd.R_drew)); exact HO_24.out) hb); have n3_ := Aside0.mk (below_step (by repeat (first | (with_reducible first | exact HB.out | apply below_alloc | apply pw_below_drewN | apply below_drew1) | exact HB.out)) hb); clear HO_6; clear HO_7; clear HO_24; clear HB; have HO_6 := n0_; have HO_7 := n1_; have HO_24 := n2_; have HB := n3_; clear n0_ n1_ n2_ n3_; (try clear hb); (try clear hb2); (try clear hk); (try clear hi)))
         go_ret
         exact ⟨by first | rfl | (simp [errW_none, errW_some] <;> rfl) | (simp only [← hji5]; first | rfl | (simp [errW_none, errW_some] <;> rfl)) | (simp [*, errW_none, errW_some] <;> rfl), by repeat (first | (with_reducible first | exact HB.out | apply below_alloc | apply pw_below_drewN | apply below_drew1) | exact HB.out)⟩
   · rw [if_neg c7] at H
     exact absurd H (by simp)
 · rw [if_neg c6] at H
   exact absurd H (by simp)
end Go.Proofs.YtjaflmhdclmolaaDoor.F
end
section
namespace Go.Proofs.YtjaflmhdclmolaaDoor.F
open Go.RowKit Go.Proofs.YtjaflmhdclmolaaDoorW.PrintWords Go.Proofs.YtjaflmhdclmolaaDoorW.PrintLast Go.Proofs.YtjaflmhdclmolaaDoorW.PrintMore
attribute [local go_sem] max2_int min2_int max_two min_two max_three min_three max_four min_four   
set_option linter.unusedVariables false
set_option linter.unusedSimpArgs false
mutual
def insolvencyref1_times.l0 : Nat → List Int → List Int → List Int → Int → Option (List Int)
 | 0, _, _, _, _ => none
 | k + 1, x0, x1, x5, x6 => if x6 < (x0.length : Int) then (insolvencyref1_times.l1 k x0 x1 x5 x6 0 0) else ((insolvencyref1_strip.f k x5).bind fun t582 => (some t582))
def insolvencyref1_times.l1 : Nat → List Int → List Int → List Int → Int → Int → Int → Option (List Int)
 | 0, _, _, _, _, _, _ => none
 | k + 1, x0, x1, x5, x6, x7, x8 => if x8 < (x1.length : Int) then (if 0 ≤ x6 then (if x6 < (x0.length : Int) then (if 0 ≤ x8 then (if 0 ≤ (wrap64 (x6 + x8)) then (if (wrap64 (x6 + x8)) < (x5.length : Int) then (insolvencyref1_times.l1 k x0 x1 (x5.set ((wrap64 (x6 + x8)) : Int).toNat ((IntKind.u64.wrap ((IntKind.u64.wrap (x7 + (IntKind.u64.wrap ((IntKind.u64.wrap (rd x0 x6)) * (IntKind.u64.wrap (rd x1 x8)))))) + (IntKind.u64.wrap (rd x5 (wrap64 (x6 + x8)))))) % 4294967296)) x6 ((IntKind.u64.wrap ((IntKind.u64.wrap (x7 + (IntKind.u64.wrap ((IntKind.u64.wrap (rd x0 x6)) * (IntKind.u64.wrap (rd x1 x8)))))) + (IntKind.u64.wrap (rd x5 (wrap64 (x6 + x8)))))) / 4294967296) (wrap64 (x8 + 1))) else (none)) else (none)) else (none)) else (none)) else (none)) else (if 0 ≤ (wrap64 (x6 + (x1.length : Int))) then (if (wrap64 (x6 + (x1.length : Int))) < (x5.length : Int) then (insolvencyref1_times.l0 k x0 x1 (x5.set ((wrap64 (x6 + (x1.length : Int))) : Int).toNat ((x7) % 4294967296)) (wrap64 (x6 + 1))) else (none)) else (none))
end
def insolvencyref1_times.f (k : Nat) (l0 : List Int) (l1 : List Int) : Option (List Int) := if 0 ≤ (wrap64 ((l0.length : Int) + (l1.length : Int))) then (if (wrap64 ((l0.length : Int) + (l1.length : Int)) : Int).toNat ≤ 70368744177664 then (insolvencyref1_times.l0 k l0 l1 (List.replicate (wrap64 ((l0.length : Int) + (l1.length : Int)) : Int).toNat 0) 0) else (none)) else (none)
theorem insolvencyref1_times.mono_l : ∀ k, (∀ y0 y1 y2 y3, LeO (insolvencyref1_times.l0 k y0 y1 y2 y3) (insolvencyref1_times.l0 (k + 1) y0 y1 y2 y3)) ∧ (∀ y0 y1 y2 y3 y4 y5, LeO (insolvencyref1_times.l1 k y0 y1 y2 y3 y4 y5) (insolvencyref1_times.l1 (k + 1) y0 y1 y2 y3 y4 y5))
 | 0 => ⟨fun _ _ _ _ r h => by simp [insolvencyref1_times.l0] at h, fun _ _ _ _ _ _ r h => by simp [insolvencyref1_times.l1] at h⟩
 | k + 1 => by
  obtain ⟨ih0, ih1⟩ := insolvencyref1_times.mono_l k
  refine ⟨?_, ?_⟩
  · intro y0 y1 y2 y3
    unfold insolvencyref1_times.l0
    repeat' first
    | (with_reducible exact ih0 _ _ _ _)
    | (with_reducible exact ih1 _ _ _ _ _ _)
    | (with_reducible exact insolvencyref1_strip.mono _ _)
    | (with_reducible exact LeO.refl _)
    | (with_reducible exact LeO.none _)
    | (with_reducible refine LeO.ite ?_ ?_)
    | (with_reducible refine LeO.bind ?_ (fun _ => ?_))
    | exact ih0 _ _ _ _
    | exact ih1 _ _ _ _ _ _
    | exact insolvencyref1_strip.mono _ _
    | exact LeO.none _
    | refine LeO.ite ?_ ?_
    | refine LeO.bind ?_ (fun _ => ?_)
  · intro y0 y1 y2 y3 y4 y5
    unfold insolvencyref1_times.l1
    repeat' first
    | (with_reducible exact ih0 _ _ _ _)
    | (with_reducible exact ih1 _ _ _ _ _ _)
    | (with_reducible exact insolvencyref1_strip.mono _ _)
    | (with_reducible exact LeO.refl _)
    | (with_reducible exact LeO.none _)
    | (with_reducible refine LeO.ite ?_ ?_)
    | (with_reducible refine LeO.bind ?_ (fun _ => ?_))
    | exact ih0 _ _ _ _
    | exact ih1 _ _ _ _ _ _
    | exact insolvencyref1_strip.mono _ _
    | exact LeO.none _
    | refine LeO.ite ?_ ?_
    | refine LeO.bind ?_ (fun _ => ?_)
theorem insolvencyref1_times.mono : ∀ a0 a1 k, LeO (insolvencyref1_times.f k a0 a1) (insolvencyref1_times.f (k + 1) a0 a1) := by
 intro a0 a1 k
 obtain ⟨ih0, ih1⟩ := insolvencyref1_times.mono_l k
 unfold insolvencyref1_times.f
 repeat' first
  | (with_reducible exact ih0 _ _ _ _)
  | (with_reducible exact ih1 _ _ _ _ _ _)
  | (with_reducible exact insolvencyref1_strip.mono _ _)
  | (with_reducible exact LeO.refl _)
  | (with_reducible exact LeO.none _)
  | (with_reducible refine LeO.ite ?_ ?_)
  | (with_reducible refine LeO.bind ?_ (fun _ => ?_))
  | exact ih0 _ _ _ _
  | exact ih1 _ _ _ _ _ _
  | exact insolvencyref1_strip.mono _ _
  | exact LeO.none _
  | refine LeO.ite ?_ ?_
  | refine LeO.bind ?_ (fun _ => ?_)
set_option maxHeartbeats 8000000 in
set_option maxRecDepth 100000 in
theorem insolvencyref1_times.calls (k : Nat) (A0 : Option Addr) (c0 : Nat) (l0 : List Int) (A1 : Option Addr) (c1 : Nat) (l1 : List Int) (r : List Int) (w : World) (hr0 : Kd.C (Kd.int .u32) w A0 l0.length l0) (hc0 : l0.length ≤ c0) (hr1 : Kd.C (Kd.int .u32) w A1 l1.length l1) (hc1 : l1.length ≤ c1) (h : insolvencyref1_times.f k l0 l1 = some r) :
 Calls Tryd.prog 61 #[.slice A0 l0.length c0, .slice A1 l1.length c1] w fun e w' => ∃ v0_ : Value, e = .returned (v0_) ∧ Kd.R (Kd.int .u32) 60 w' w.heap.size (fun _ => True) v0_ r ∧ Below w.heap.size w w' := by
 have HR0 := Aside0.mk hr0
 have HC0 := Aside0.mk hc0
 clear hr0 hc0
 have HR1 := Aside0.mk hr1
 have HC1 := Aside0.mk hc1
 clear hr1 hc1
 have HB := Aside0.mk (Below.refl w.heap.size w)
 have H : (if 0 ≤ (wrap64 ((l0.length : Int) + (l1.length : Int))) then (if (wrap64 ((l0.length : Int) + (l1.length : Int)) : Int).toNat ≤ 70368744177664 then (insolvencyref1_times.l0 k l0 l1 (List.replicate (wrap64 ((l0.length : Int) + (l1.length : Int)) : Int).toNat 0) 0) else (none)) else (none)) = some r := h
 clear h
 obtain ⟨ji3, hji3⟩ : ∃ j_ : Int, (wrap64 ((l0.length : Int) + (l1.length : Int))) = j_ := ⟨_, rfl⟩
 replace H : (if 0 ≤ (ji3) then (if (ji3 : Int).toNat ≤ 70368744177664 then (insolvencyref1_times.l0 k l0 l1 (List.replicate (ji3 : Int).toNat 0) 0) else (none)) else (none)) = some r := by first | (rw [hji3] at H; exact H) | (simp only [hji3] at H ⊢; exact H)
 have hji3w : (IntKind.i64.wrap ((l0.length : Int) + (l1.length : Int))) = ji3 := (i64_w _).trans hji3
 by_cases c4 : 0 ≤ (ji3)
 · rw [if_pos c4] at H
   have c4b0 := eq_true c4
   have c4b1 : decide (0 ≤ (ji3)) = true := decide_eq_true c4
   clear c4
   by_cases c5 : (ji3 : Int).toNat ≤ 70368744177664
   · rw [if_pos c5] at H
     have c5b0 := eq_true c5
     have c5b1 : decide ((ji3 : Int).toNat ≤ 70368744177664) = true := decide_eq_true c5
     clear c5
     obtain ⟨y579, hy579⟩ : ∃ y_ : List Int, y_ = (List.replicate (ji3 : Int).toNat 0) := ⟨_, rfl⟩
     replace H : (insolvencyref1_times.l0 k l0 l1 y579 0) = some r := by first | (rw [hy579]; with_reducible exact H) | (have H2_ := (Option.bind_some _ _).symm.trans H; rw [hy579]; with_reducible exact H2_) | (have H2_ := (Option.bind_some _ _).symm.trans H; with_reducible exact H2_) | with_reducible exact H | (rw [hy579]; exact H) | exact H
     have Ny579 := Aside0.mk hy579
     clear hy579
     have H' := Aside0.mk H
     clear H
     go_enter Tryd.func61, Tryd.ntmps61
     go_wp2_with (first | ((with_reducible refine gate_dst (N := 14) rfl ?_); refine Kd.R_make (Kd.int .u32) _ 60 rfl (N := 14) rfl 49 _ _ rfl ji3 rfl rfl Tryd.underlying49 (.int .u32 0) 4 info60 rfl (by decide) (by omega) 0 (ok := fun _ => True) (okp := fun _ => True) rfl (fun _ hk => hk) trivial (of_decide_eq_true (by first | (with_reducible assumption) | assumption)) (Nat.le_trans (Nat.mul_le_mul_right _ (of_decide_eq_true (by first | (with_reducible assumption) | assumption) : ji3.toNat ≤ 70368744177664)) (by omega)) (Below.refl _ _) (Nat.le_refl _) ?_; intro v580 w6 ho7 hb hg_ hnew_; clear hg_ hnew_; (first | rw [← Ny579.out] at ho7 | (simp only [Int.reduceToNat] at ho7; rw [← Ny579.out] at ho7)); have n0_ := Aside0.mk (Kd.R_lower ho7 (below_size (by repeat (first | (with_reducible first | exact HB.out | apply below_alloc | apply pw_below_drewN | apply below_drew1) | exact HB.out)))); have n1_ := Aside0.mk (below_step (by repeat (first | (with_reducible first | exact HB.out | apply below_alloc | apply pw_below_drewN | apply below_drew1) | exact HB.out)) hb); clear HB; have HO581 := n0_; have HB := n1_; clear n0_ n1_; clear hb ho7))
     repeat (go_quiet (first | ((with_reducible refine gate_dst (N := 14) rfl ?_); refine Kd.R_make (Kd.int .u32) _ 60 rfl (N := 14) rfl 49 _ _ rfl ji3 rfl rfl Tryd.underlying49 (.int .u32 0) 4 info60 rfl (by decide) (by omega) 0 (ok := fun _ => True) (okp := fun _ => True) rfl (fun _ hk => hk) trivial (of_decide_eq_true (by first | (with_reducible assumption) | assumption)) (Nat.le_trans (Nat.mul_le_mul_right _ (of_decide_eq_true (by first | (with_reducible assumption) | assumption) : ji3.toNat ≤ 70368744177664)) (by omega)) (Below.refl _ _) (Nat.le_refl _) ?_; intro v580 w6 ho7 hb hg_ hnew_; clear hg_ hnew_; (first | rw [← Ny579.out] at ho7 | (simp only [Int.reduceToNat] at ho7; rw [← Ny579.out] at ho7)); have n0_ := Aside0.mk (Kd.R_lower ho7 (below_size (by repeat (first | (with_reducible first | exact HB.out | apply below_alloc | apply pw_below_drewN | apply below_drew1) | exact HB.out)))); have n1_ := Aside0.mk (below_step (by repeat (first | (with_reducible first | exact HB.out | apply below_alloc | apply pw_below_drewN | apply below_drew1) | exact HB.out)) hb); clear HB; have HO581 := n0_; have HB := n1_; clear n0_ n1_; clear hb ho7)); try go_wp2_with (first | ((with_reducible refine gate_dst (N := 14) rfl ?_); refine Kd.R_make (Kd.int .u32) _ 60 rfl (N := 14) rfl 49 _ _ rfl ji3 rfl rfl Tryd.underlying49 (.int .u32 0) 4 info60 rfl (by decide) (by omega) 0 (ok := fun _ => True) (okp := fun _ => True) rfl (fun _ hk => hk) trivial (of_decide_eq_true (by first | (with_reducible assumption) | assumption)) (Nat.le_trans (Nat.mul_le_mul_right _ (of_decide_eq_true (by first | (with_reducible assumption) | assumption) : ji3.toNat ≤ 70368744177664)) (by omega)) (Below.refl _ _) (Nat.le_refl _) ?_; intro v580 w6 ho7 hb hg_ hnew_; clear hg_ hnew_; (first | rw [← Ny579.out] at ho7 | (simp only [Int.reduceToNat] at ho7; rw [← Ny579.out] at ho7)); have n0_ := Aside0.mk (Kd.R_lower ho7 (below_size (by repeat (first | (with_reducible first | exact HB.out | apply below_alloc | apply pw_below_drewN | apply below_drew1) | exact HB.out)))); have n1_ := Aside0.mk (below_step (by repeat (first | (with_reducible first | exact HB.out | apply below_alloc | apply pw_below_drewN | apply below_drew1) | exact HB.out)) hb); clear HB; have HO581 := n0_; have HB := n1_; clear n0_ n1_; clear hb ho7)))
     go_loopg [6] k (fun kq v6 w' => ∃ (x5_1 : List Int) (x6_1 : Int), v6 = .int .i64 x6_1 ∧ Aside0 (insolvencyref1_times.l0 kq l0 l1 x5_1 x6_1 = some r) ∧ Aside0 (kq ≤ k) ∧ Aside0 (Kd.R (Kd.int .u32) 60 w' w.heap.size (fun _ => True) v580 x5_1) ∧ Aside0 (Below w.heap.size w w'))
     case atStart => exact ⟨(y579), (0), (by first | rfl | (simp; done) | (simp [*]; done)), H', ⟨Nat.le_refl _⟩, ⟨by (with_reducible repeat (first | apply Kd.R_alloc | apply Kd.R_drewN | apply Kd.R_drew)); exact HO581.out⟩, ⟨by repeat (first | (with_reducible first | exact HB.out | apply below_alloc | apply pw_below_drewN | apply below_drew1) | exact HB.out)⟩⟩
     case round =>
      clear H'
      try clear c1
      try clear p2
      try clear c4
      try clear c4b0
      try clear c4b1
      try clear c5
      try clear c5b0
      try clear c5b1
      try clear c6
      try clear p6
      obtain ⟨x5_1, x6_1, rfl, HA, HK1, HO_5, HB⟩ := hrel
      cases gk with
      | zero => exact absurd HA.out (by simp [insolvencyref1_times.l0])
      | succ k1 =>
       have H := HA.out
       clear HA
       simp only [insolvencyref1_times.l0] at H
       by_cases c8 : x6_1 < (l0.length : Int)
       · rw [if_pos c8] at H
         have c8b0 : decide (x6_1 < (l0.length : Int)) = true := decide_eq_true c8
         clear c8
         have H' := Aside0.mk H
         clear H
         go_wp2
         repeat (go_quiet (fail); try go_wp2)
         go_loopg [7, 8] k1 (fun kq v7 v8 w' => ∃ (x5_2 : List Int) (x7_2 : Int) (x8_2 : Int), v7 = .int .u64 x7_2 ∧ v8 = .int .i64 x8_2 ∧ Aside0 (insolvencyref1_times.l1 kq l0 l1 x5_2 x6_1 x7_2 x8_2 = some r) ∧ Aside0 (kq ≤ k1) ∧ Aside0 (Kd.R (Kd.int .u32) 60 w' w.heap.size (fun _ => True) v580 x5_2) ∧ Aside0 (Below w.heap.size w w'))
         case atStart => exact ⟨(x5_1), (0), (0), (by first | rfl | (simp; done) | (simp [*]; done)), (by first | rfl | (simp; done) | (simp [*]; done)), H', ⟨Nat.le_refl _⟩, ⟨by (with_reducible repeat (first | apply Kd.R_alloc | apply Kd.R_drewN | apply Kd.R_drew)); exact HO_5.out⟩, ⟨by repeat (first | (with_reducible first | exact HB.out | apply below_alloc | apply pw_below_drewN | apply below_drew1) | exact HB.out)⟩⟩
         case round =>
          clear H'
          try clear c1
          try clear p2
          try clear c4
          try clear c4b0
          try clear c4b1
          try clear c5
          try clear c5b0
          try clear c5b1
          try clear c6
          try clear p6
          try clear c8
          try clear c8b0
          try clear p2
          try clear p6
          obtain ⟨x5_2, x7_2, x8_2, rfl, rfl, HA, HK2, HO_5, HB⟩ := hrel
          cases gk with
          | zero => exact absurd HA.out (by simp [insolvencyref1_times.l1])
          | succ k2 =>
           have H := HA.out
           clear HA
           simp only [insolvencyref1_times.l1] at H
           by_cases c9 : x8_2 < (l1.length : Int)
           · rw [if_pos c9] at H
             have c9b0 : decide (x8_2 < (l1.length : Int)) = true := decide_eq_true c9
             clear c9
             by_cases c10 : 0 ≤ x6_1
             · rw [if_pos c10] at H
               have c10b0 : decide (0 ≤ x6_1) = true := decide_eq_true c10
               clear c10
               by_cases c11 : x6_1 < (l0.length : Int)
               · rw [if_pos c11] at H
                 have c11b0 : decide (x6_1 < (l0.length : Int)) = true := decide_eq_true c11
                 clear c11
                 by_cases c12 : 0 ≤ x8_2
                 · rw [if_pos c12] at H
                   have c12b0 : decide (0 ≤ x8_2) = true := decide_eq_true c12
                   clear c12
                   obtain ⟨ji13, hji13⟩ : ∃ j_ : Int, (wrap64 (x6_1 + x8_2)) = j_ := ⟨_, rfl⟩
                   replace H : (if 0 ≤ (ji13) then (if (ji13) < (x5_2.length : Int) then (insolvencyref1_times.l1 k2 l0 l1 (x5_2.set ((ji13) : Int).toNat ((IntKind.u64.wrap ((IntKind.u64.wrap (x7_2 + (IntKind.u64.wrap ((IntKind.u64.wrap (rd l0 x6_1)) * (IntKind.u64.wrap (rd l1 x8_2)))))) + (IntKind.u64.wrap (rd x5_2 (ji13))))) % 4294967296)) x6_1 ((IntKind.u64.wrap ((IntKind.u64.wrap (x7_2 + (IntKind.u64.wrap ((IntKind.u64.wrap (rd l0 x6_1)) * (IntKind.u64.wrap (rd l1 x8_2)))))) + (IntKind.u64.wrap (rd x5_2 (ji13))))) / 4294967296) (wrap64 (x8_2 + 1))) else (none)) else (none)) = some r := by first | (rw [hji13] at H; exact H) | (simp only [hji13] at H ⊢; exact H)
                   have hji13w : (IntKind.i64.wrap (x6_1 + x8_2)) = ji13 := (i64_w _).trans hji13
                   by_cases c14 : 0 ≤ (ji13)
                   · rw [if_pos c14] at H
                     have c14b0 : decide (0 ≤ (ji13)) = true := decide_eq_true c14
                     clear c14
                     by_cases c15 : (ji13) < (x5_2.length : Int)
                     · rw [if_pos c15] at H
                       have c15b0 : decide ((ji13) < (x5_2.length : Int)) = true := decide_eq_true c15
                       clear c15
                       obtain ⟨y588, hy588⟩ : ∃ y_ : List Int, y_ = (x5_2.set ((ji13) : Int).toNat ((IntKind.u64.wrap ((IntKind.u64.wrap (x7_2 + (IntKind.u64.wrap ((IntKind.u64.wrap (rd l0 x6_1)) * (IntKind.u64.wrap (rd l1 x8_2)))))) + (IntKind.u64.wrap (rd x5_2 (ji13))))) % 4294967296)) := ⟨_, rfl⟩
                       replace H : (insolvencyref1_times.l1 k2 l0 l1 y588 x6_1 ((IntKind.u64.wrap ((IntKind.u64.wrap (x7_2 + (IntKind.u64.wrap ((IntKind.u64.wrap (rd l0 x6_1)) * (IntKind.u64.wrap (rd l1 x8_2)))))) + (IntKind.u64.wrap (rd x5_2 (ji13))))) / 4294967296) (wrap64 (x8_2 + 1))) = some r := by first | (rw [hy588]; with_reducible exact H) | (have H2_ := (Option.bind_some _ _).symm.trans H; rw [hy588]; with_reducible exact H2_) | (have H2_ := (Option.bind_some _ _).symm.trans H; with_reducible exact H2_) | with_reducible exact H | (rw [hy588]; exact H) | exact H
                       have Ny588 := Aside0.mk hy588
                       clear hy588
                       have H' := Aside0.mk H
                       clear H
                       have p585 : 0 ≤ (x6_1 : Int) := of_decide_eq_true (by first | (with_reducible assumption) | assumption)
                       have q585 : x6_1 < (l0.length : Int) := of_decide_eq_true (by first | (with_reducible assumption) | assumption)
                       obtain ⟨ad585, e585, hx585_0⟩ := Kd.at_int HR0.out x6_1 p585 q585
                       cases e585
                       replace hx585_0 := (HB.out.cell (World.block_lt_of_cell? w _ hx585_0)).trans hx585_0
                       replace p585 := eq_true p585
                       replace q585 := eq_true q585
                       have p586 : 0 ≤ (x8_2 : Int) := of_decide_eq_true (by first | (with_reducible assumption) | assumption)
                       have q586 : x8_2 < (l1.length : Int) := of_decide_eq_true (by first | (with_reducible assumption) | assumption)
                       obtain ⟨ad586, e586, hx586_0⟩ := Kd.at_int HR1.out x8_2 p586 q586
                       cases e586
                       replace hx586_0 := (HB.out.cell (World.block_lt_of_cell? w _ hx586_0)).trans hx586_0
                       replace p586 := eq_true p586
                       replace q586 := eq_true q586
                       obtain ⟨Ao17, co17, eo17⟩ := Kd.R_slice HO_5.out
                       subst eo17
                       have p587 : 0 ≤ ((ji13) : Int) := of_decide_eq_true (by first | (with_reducible assumption) | assumption)
                       have q587 : (ji13) < (x5_2.length : Int) := of_decide_eq_true (by first | (with_reducible assumption) | assumption)
                       obtain ⟨ad587, e587, hx587_0⟩ := Kd.at_int (Kd.R_reads' HO_5.out).2.2 (ji13) p587 q587
                       cases e587
                       replace p587 := eq_true p587
                       replace q587 := eq_true q587
                       have p16 : 0 ≤ ((ji13) : Int) := of_decide_eq_true (by first | (with_reducible assumption) | assumption)
                       have q16 : ((ji13) : Int) < ((x5_2.length : Int) : Int) := of_decide_eq_true (by first | (with_reducible assumption) | assumption)
                       obtain ⟨go16, co16, eo16, gb16, gl16, cl16, HG16⟩ := Kd.R_form HO_5.out (by omega)
                       (first | cases eo16 | (injection eo16 with ea_ en_ ec_; (first | subst ea_ | (injection ea_ with ea_; subst ea_)); subst ec_; clear en_))
                       have GB16 := Aside0.mk gb16
                       have GG16 := Aside0.mk HG16
                       clear gb16 gl16 HG16
                       (first | simp only [add_plain] at hx587_0 | skip)
                       obtain ⟨hx16_0, hf16_0⟩ := Kd.R_celln 0 HO_5.out ((ji13) : Int) p16 q16
                       replace p16 := eq_true p16
                       replace q16 := eq_true q16
                       have HP18 := Kd.R_putg HO_5.out ((ji13) : Int) ((IntKind.u64.wrap ((IntKind.u64.wrap (x7_2 + (IntKind.u64.wrap ((IntKind.u64.wrap (rd l0 x6_1)) * (IntKind.u64.wrap (rd l1 x8_2)))))) + (IntKind.u64.wrap (rd x5_2 (ji13))))) % 4294967296)
                       go_wp2_with (first | ((with_reducible refine gate_store (t := 60) (p := 54) rfl ?_); (try (rw [drewN_self wr]; generalize hq_ : World.drewN wr _ = wr; have n0_ := Aside0.mk (Kd.R_at hq_ HO_5.out); have n1_ := Aside0.mk (below_at hq_ HB.out); clear hq_ HO_5 HB; have HO_5 := n0_; have HB := n1_; clear n0_ n1_; (try (obtain ⟨hyZ_, hzZ_⟩ := Kd.R_celln 0 HO_5.out ((ji13) : Int) (of_decide_eq_true (by first | (with_reducible assumption) | assumption)) (of_decide_eq_true (by first | (with_reducible assumption) | assumption)))); (try (have HP18 := Kd.R_putg HO_5.out ((ji13) : Int) ((IntKind.u64.wrap ((IntKind.u64.wrap (x7_2 + (IntKind.u64.wrap ((IntKind.u64.wrap (rd l0 x6_1)) * (IntKind.u64.wrap (rd l1 x8_2)))))) + (IntKind.u64.wrap (rd x5_2 (ji13))))) % 4294967296))))); refine store_event (t := 60) (p := 54) (v := ?vo_w19) (w1 := (wr.setCell ⟨go16, ((ji13) : Int).toNat, none⟩ (.int .u32 ((IntKind.u64.wrap ((IntKind.u64.wrap (x7_2 + (IntKind.u64.wrap ((IntKind.u64.wrap (rd l0 x6_1)) * (IntKind.u64.wrap (rd l1 x8_2)))))) + (IntKind.u64.wrap (rd x5_2 (ji13))))) % 4294967296)))) ?hg ?ho ?hn ?hr ?_; (case ho => rfl); (case hg => rfl); (case hn => rfl); (case hr => first | (go_simp; done) | (go_simp; rfl)); intro w19 hw; have hg : wr.grownBy w19 (some go16) := (by rw [hw]; exact HP18.2); have hp_ : Kd.R (Kd.int .u32) 60 w19 w.heap.size (fun _ => True) (.slice (some ⟨go16, 0, none⟩) x5_2.length co17) y588 := (by rw [hw, Ny588.out]; exact HP18.1); clear HP18; have n0_ := Aside0.mk (hp_); have n1_ := Aside0.mk ((by rw [hw]; exact below_set (HB.out) GB16.out : Below w.heap.size w w19)); clear HO_5; clear HB; have HO_5 := n0_; have HB := n1_; clear n0_ n1_; clear hg hw hp_))
                       repeat (go_quiet (first | ((with_reducible refine gate_store (t := 60) (p := 54) rfl ?_); (try (rw [drewN_self wr]; generalize hq_ : World.drewN wr _ = wr; have n0_ := Aside0.mk (Kd.R_at hq_ HO_5.out); have n1_ := Aside0.mk (below_at hq_ HB.out); clear hq_ HO_5 HB; have HO_5 := n0_; have HB := n1_; clear n0_ n1_; (try (obtain ⟨hyZ_, hzZ_⟩ := Kd.R_celln 0 HO_5.out ((ji13) : Int) (of_decide_eq_true (by first | (with_reducible assumption) | assumption)) (of_decide_eq_true (by first | (with_reducible assumption) | assumption)))); (try (have HP18 := Kd.R_putg HO_5.out ((ji13) : Int) ((IntKind.u64.wrap ((IntKind.u64.wrap (x7_2 + (IntKind.u64.wrap ((IntKind.u64.wrap (rd l0 x6_1)) * (IntKind.u64.wrap (rd l1 x8_2)))))) + (IntKind.u64.wrap (rd x5_2 (ji13))))) % 4294967296))))); refine store_event (t := 60) (p := 54) (v := ?vo_w19) (w1 := (wr.setCell ⟨go16, ((ji13) : Int).toNat, none⟩ (.int .u32 ((IntKind.u64.wrap ((IntKind.u64.wrap (x7_2 + (IntKind.u64.wrap ((IntKind.u64.wrap (rd l0 x6_1)) * (IntKind.u64.wrap (rd l1 x8_2)))))) + (IntKind.u64.wrap (rd x5_2 (ji13))))) % 4294967296)))) ?hg ?ho ?hn ?hr ?_; (case ho => rfl); (case hg => rfl); (case hn => rfl); (case hr => first | (go_simp; done) | (go_simp; rfl)); intro w19 hw; have hg : wr.grownBy w19 (some go16) := (by rw [hw]; exact HP18.2); have hp_ : Kd.R (Kd.int .u32) 60 w19 w.heap.size (fun _ => True) (.slice (some ⟨go16, 0, none⟩) x5_2.length co17) y588 := (by rw [hw, Ny588.out]; exact HP18.1); clear HP18; have n0_ := Aside0.mk (hp_); have n1_ := Aside0.mk ((by rw [hw]; exact below_set (HB.out) GB16.out : Below w.heap.size w w19)); clear HO_5; clear HB; have HO_5 := n0_; have HB := n1_; clear n0_ n1_; clear hg hw hp_)); try go_wp2_with (first | ((with_reducible refine gate_store (t := 60) (p := 54) rfl ?_); (try (rw [drewN_self wr]; generalize hq_ : World.drewN wr _ = wr; have n0_ := Aside0.mk (Kd.R_at hq_ HO_5.out); have n1_ := Aside0.mk (below_at hq_ HB.out); clear hq_ HO_5 HB; have HO_5 := n0_; have HB := n1_; clear n0_ n1_; (try (obtain ⟨hyZ_, hzZ_⟩ := Kd.R_celln 0 HO_5.out ((ji13) : Int) (of_decide_eq_true (by first | (with_reducible assumption) | assumption)) (of_decide_eq_true (by first | (with_reducible assumption) | assumption)))); (try (have HP18 := Kd.R_putg HO_5.out ((ji13) : Int) ((IntKind.u64.wrap ((IntKind.u64.wrap (x7_2 + (IntKind.u64.wrap ((IntKind.u64.wrap (rd l0 x6_1)) * (IntKind.u64.wrap (rd l1 x8_2)))))) + (IntKind.u64.wrap (rd x5_2 (ji13))))) % 4294967296))))); refine store_event (t := 60) (p := 54) (v := ?vo_w19) (w1 := (wr.setCell ⟨go16, ((ji13) : Int).toNat, none⟩ (.int .u32 ((IntKind.u64.wrap ((IntKind.u64.wrap (x7_2 + (IntKind.u64.wrap ((IntKind.u64.wrap (rd l0 x6_1)) * (IntKind.u64.wrap (rd l1 x8_2)))))) + (IntKind.u64.wrap (rd x5_2 (ji13))))) % 4294967296)))) ?hg ?ho ?hn ?hr ?_; (case ho => rfl); (case hg => rfl); (case hn => rfl); (case hr => first | (go_simp; done) | (go_simp; rfl)); intro w19 hw; have hg : wr.grownBy w19 (some go16) := (by rw [hw]; exact HP18.2); have hp_ : Kd.R (Kd.int .u32) 60 w19 w.heap.size (fun _ => True) (.slice (some ⟨go16, 0, none⟩) x5_2.length co17) y588 := (by rw [hw, Ny588.out]; exact HP18.1); clear HP18; have n0_ := Aside0.mk (hp_); have n1_ := Aside0.mk ((by rw [hw]; exact below_set (HB.out) GB16.out : Below w.heap.size w w19)); clear HO_5; clear HB; have HO_5 := n0_; have HB := n1_; clear n0_ n1_; clear hg hw hp_)))
                       go_roundg k2
                       case measure => have := HK1.out; have := HK2.out; omega
                       case rel => exact ⟨(y588), ((IntKind.u64.wrap ((IntKind.u64.wrap (x7_2 + (IntKind.u64.wrap ((IntKind.u64.wrap (rd l0 x6_1)) * (IntKind.u64.wrap (rd l1 x8_2)))))) + (IntKind.u64.wrap (rd x5_2 (ji13))))) / 4294967296), (wrap64 (x8_2 + 1)), (by first | rfl | (simp; done) | (simp only [← hji13] <;> (first | rfl | simp)) | (simp [*]; done)), (by first | rfl | (simp; done) | (simp [*]; done)), H', ⟨by have := HK1.out; have := HK2.out; omega⟩, ⟨by (with_reducible repeat (first | apply Kd.R_alloc | apply Kd.R_drewN | apply Kd.R_drew)); exact HO_5.out⟩, ⟨by repeat (first | (with_reducible first | exact HB.out | apply below_alloc | apply pw_below_drewN | apply below_drew1) | exact HB.out)⟩⟩
                     · rw [if_neg c15] at H
                       exact absurd H (by simp)
                   · rw [if_neg c14] at H
                     exact absurd H (by simp)
                 · rw [if_neg c12] at H
                   exact absurd H (by simp)
               · rw [if_neg c11] at H
                 exact absurd H (by simp)
             · rw [if_neg c10] at H
               exact absurd H (by simp)
           · rw [if_neg c9] at H
             have c9b0 : decide (x8_2 < (l1.length : Int)) = false := decide_eq_false c9
             clear c9
             obtain ⟨ji20, hji20⟩ : ∃ j_ : Int, (wrap64 (x6_1 + (l1.length : Int))) = j_ := ⟨_, rfl⟩
             replace H : (if 0 ≤ (ji20) then (if (ji20) < (x5_2.length : Int) then (insolvencyref1_times.l0 k2 l0 l1 (x5_2.set ((ji20) : Int).toNat ((x7_2) % 4294967296)) (wrap64 (x6_1 + 1))) else (none)) else (none)) = some r := by first | (rw [hji20] at H; exact H) | (simp only [hji20] at H ⊢; exact H)
             have hji20w : (IntKind.i64.wrap (x6_1 + (l1.length : Int))) = ji20 := (i64_w _).trans hji20
             by_cases c21 : 0 ≤ (ji20)
             · rw [if_pos c21] at H
               have c21b0 : decide (0 ≤ (ji20)) = true := decide_eq_true c21
               clear c21
               by_cases c22 : (ji20) < (x5_2.length : Int)
               · rw [if_pos c22] at H
                 have c22b0 : decide ((ji20) < (x5_2.length : Int)) = true := decide_eq_true c22
                 clear c22
                 obtain ⟨y589, hy589⟩ : ∃ y_ : List Int, y_ = (x5_2.set ((ji20) : Int).toNat ((x7_2) % 4294967296)) := ⟨_, rfl⟩
                 replace H : (insolvencyref1_times.l0 k2 l0 l1 y589 (wrap64 (x6_1 + 1))) = some r := by first | (rw [hy589]; with_reducible exact H) | (have H2_ := (Option.bind_some _ _).symm.trans H; rw [hy589]; with_reducible exact H2_) | (have H2_ := (Option.bind_some _ _).symm.trans H; with_reducible exact H2_) | with_reducible exact H | (rw [hy589]; exact H) | exact H
                 have Ny589 := Aside0.mk hy589
                 clear hy589
                 have H' := Aside0.mk H
                 clear H
                 have p23 : 0 ≤ ((ji20) : Int) := of_decide_eq_true (by first | (with_reducible assumption) | assumption)
                 have q23 : ((ji20) : Int) < ((x5_2.length : Int) : Int) := of_decide_eq_true (by first | (with_reducible assumption) | assumption)
                 obtain ⟨go23, co23, eo23, gb23, gl23, cl23, HG23⟩ := Kd.R_form HO_5.out (by omega)
                 (first | cases eo23 | (injection eo23 with ea_ en_ ec_; (first | subst ea_ | (injection ea_ with ea_; subst ea_)); subst ec_; clear en_))
                 have GB23 := Aside0.mk gb23
                 have GG23 := Aside0.mk HG23
                 clear gb23 gl23 HG23
                 obtain ⟨hx23_0, hf23_0⟩ := Kd.R_celln 0 HO_5.out ((ji20) : Int) p23 q23
                 replace p23 := eq_true p23
                 replace q23 := eq_true q23
                 have HP24 := Kd.R_putg HO_5.out ((ji20) : Int) ((x7_2) % 4294967296)
                 go_wp2_with (first | ((with_reducible refine gate_store (t := 60) (p := 64) rfl ?_); (try (rw [drewN_self wr]; generalize hq_ : World.drewN wr _ = wr; have n0_ := Aside0.mk (Kd.R_at hq_ HO_5.out); have n1_ := Aside0.mk (below_at hq_ HB.out); clear hq_ HO_5 HB; have HO_5 := n0_; have HB := n1_; clear n0_ n1_; (try (obtain ⟨hyZ_, hzZ_⟩ := Kd.R_celln 0 HO_5.out ((ji20) : Int) (of_decide_eq_true (by first | (with_reducible assumption) | assumption)) (of_decide_eq_true (by first | (with_reducible assumption) | assumption)))); (try (have HP24 := Kd.R_putg HO_5.out ((ji20) : Int) ((x7_2) % 4294967296))))); refine store_event (t := 60) (p := 64) (v := ?vo_w25) (w1 := (wr.setCell ⟨go23, ((ji20) : Int).toNat, none⟩ (.int .u32 ((x7_2) % 4294967296)))) ?hg ?ho ?hn ?hr ?_; (case ho => rfl); (case hg => rfl); (case hn => rfl); (case hr => first | (go_simp; done) | (go_simp; rfl)); intro w25 hw; have hg : wr.grownBy w25 (some go23) := (by rw [hw]; exact HP24.2); have hp_ : Kd.R (Kd.int .u32) 60 w25 w.heap.size (fun _ => True) (.slice (some ⟨go23, 0, none⟩) x5_2.length co23) y589 := (by rw [hw, Ny589.out]; exact HP24.1); clear HP24; have n0_ := Aside0.mk (hp_); have n1_ := Aside0.mk ((by rw [hw]; exact below_set (HB.out) GB23.out : Below w.heap.size w w25)); clear HO_5; clear HB; have HO_5 := n0_; have HB := n1_; clear n0_ n1_; clear hg hw hp_))
                 repeat (go_quiet (first | ((with_reducible refine gate_store (t := 60) (p := 64) rfl ?_); (try (rw [drewN_self wr]; generalize hq_ : World.drewN wr _ = wr; have n0_ := Aside0.mk (Kd.R_at hq_ HO_5.out); have n1_ := Aside0.mk (below_at hq_ HB.out); clear hq_ HO_5 HB; have HO_5 := n0_; have HB := n1_; clear n0_ n1_; (try (obtain ⟨hyZ_, hzZ_⟩ := Kd.R_celln 0 HO_5.out ((ji20) : Int) (of_decide_eq_true (by first | (with_reducible assumption) | assumption)) (of_decide_eq_true (by first | (with_reducible assumption) | assumption)))); (try (have HP24 := Kd.R_putg HO_5.out ((ji20) : Int) ((x7_2) % 4294967296))))); refine store_event (t := 60) (p := 64) (v := ?vo_w25) (w1 := (wr.setCell ⟨go23, ((ji20) : Int).toNat, none⟩ (.int .u32 ((x7_2) % 4294967296)))) ?hg ?ho ?hn ?hr ?_; (case ho => rfl); (case hg => rfl); (case hn => rfl); (case hr => first | (go_simp; done) | (go_simp; rfl)); intro w25 hw; have hg : wr.grownBy w25 (some go23) := (by rw [hw]; exact HP24.2); have hp_ : Kd.R (Kd.int .u32) 60 w25 w.heap.size (fun _ => True) (.slice (some ⟨go23, 0, none⟩) x5_2.length co23) y589 := (by rw [hw, Ny589.out]; exact HP24.1); clear HP24; have n0_ := Aside0.mk (hp_); have n1_ := Aside0.mk ((by rw [hw]; exact below_set (HB.out) GB23.out : Below w.heap.size w w25)); clear HO_5; clear HB; have HO_5 := n0_; have HB := n1_; clear n0_ n1_; clear hg hw hp_)); try go_wp2_with (first | ((with_reducible refine gate_store (t := 60) (p := 64) rfl ?_); (try (rw [drewN_self wr]; generalize hq_ : World.drewN wr _ = wr; have n0_ := Aside0.mk (Kd.R_at hq_ HO_5.out); have n1_ := Aside0.mk (below_at hq_ HB.out); clear hq_ HO_5 HB; have HO_5 := n0_; have HB := n1_; clear n0_ n1_; (try (obtain ⟨hyZ_, hzZ_⟩ := Kd.R_celln 0 HO_5.out ((ji20) : Int) (of_decide_eq_true (by first | (with_reducible assumption) | assumption)) (of_decide_eq_true (by first | (with_reducible assumption) | assumption)))); (try (have HP24 := Kd.R_putg HO_5.out ((ji20) : Int) ((x7_2) % 4294967296))))); refine store_event (t := 60) (p := 64) (v := ?vo_w25) (w1 := (wr.setCell ⟨go23, ((ji20) : Int).toNat, none⟩ (.int .u32 ((x7_2) % 4294967296)))) ?hg ?ho ?hn ?hr ?_; (case ho => rfl); (case hg => rfl); (case hn => rfl); (case hr => first | (go_simp; done) | (go_simp; rfl)); intro w25 hw; have hg : wr.grownBy w25 (some go23) := (by rw [hw]; exact HP24.2); have hp_ : Kd.R (Kd.int .u32) 60 w25 w.heap.size (fun _ => True) (.slice (some ⟨go23, 0, none⟩) x5_2.length co23) y589 := (by rw [hw, Ny589.out]; exact HP24.1); clear HP24; have n0_ := Aside0.mk (hp_); have n1_ := Aside0.mk ((by rw [hw]; exact below_set (HB.out) GB23.out : Below w.heap.size w w25)); clear HO_5; clear HB; have HO_5 := n0_; have HB := n1_; clear n0_ n1_; clear hg hw hp_)))
                 go_roundg k2
                 case measure => have := HK1.out; have := HK2.out; omega
                 case rel => exact ⟨(y589), (wrap64 (x6_1 + 1)), (by first | rfl | (simp; done) | (simp [*]; done)), H', ⟨by have := HK1.out; have := HK2.out; omega⟩, ⟨by (with_reducible repeat (first | apply Kd.R_alloc | apply Kd.R_drewN | apply Kd.R_drew)); exact HO_5.out⟩, ⟨by repeat (first | (with_reducible first | exact HB.out | apply below_alloc | apply pw_below_drewN | apply below_drew1) | exact HB.out)⟩⟩
               · rw [if_neg c22] at H
                 exact absurd H (by simp)
             · rw [if_neg c21] at H
               exact absurd H (by simp)
       · rw [if_neg c8] at H
         have c8b0 : decide (x6_1 < (l0.length : Int)) = false := decide_eq_false c8
         clear c8
         replace H := Option.bind_eq_some_iff.mp H
         obtain ⟨t582, A260, H⟩ := H
         replace H : (some t582) = some r := H
         have A26 := Aside0.mk A260
         clear A260
         obtain rfl := Option.some.inj H
         obtain ⟨Ao27, co27, eo27⟩ := Kd.R_slice HO_5.out
         subst eo27
         go_wp2_with (first | (go_at_call 75; (with_reducible refine (insolvencyref1_strip.calls k1 (fun k_ => some k_ = (.slice Ao27 x5_1.length co27 : Value).ownBlock) (.slice Ao27 x5_1.length co27) x5_1 t582 w _ ?side1 ?side2 A26.out).mono ?_); (case side1 => repeat (first | (with_reducible first | exact HB.out | apply below_alloc | apply pw_below_drewN | apply below_drew1) | exact HB.out)); (case side2 => exact Kd.R_tight rfl HO_5.out); rintro e w28 ⟨v583, rfl, ho0, hb, hkp⟩; have n0_ := Aside0.mk (Kd.R_mono (ok' := fun k_ => True) ho0 (fun k_ hk_ => trivial)); have n1_ := Aside0.mk (hb); clear HB; clear HO_5; have HO584 := n0_; have HB := n1_; clear n0_ n1_; (try clear hb); (try clear hkp); (try clear ho0)))
         repeat (go_quiet (first | (go_at_call 75; (with_reducible refine (insolvencyref1_strip.calls k1 (fun k_ => some k_ = (.slice Ao27 x5_1.length co27 : Value).ownBlock) (.slice Ao27 x5_1.length co27) x5_1 t582 w _ ?side1 ?side2 A26.out).mono ?_); (case side1 => repeat (first | (with_reducible first | exact HB.out | apply below_alloc | apply pw_below_drewN | apply below_drew1) | exact HB.out)); (case side2 => exact Kd.R_tight rfl HO_5.out); rintro e w28 ⟨v583, rfl, ho0, hb, hkp⟩; have n0_ := Aside0.mk (Kd.R_mono (ok' := fun k_ => True) ho0 (fun k_ hk_ => trivial)); have n1_ := Aside0.mk (hb); clear HB; clear HO_5; have HO584 := n0_; have HB := n1_; clear n0_ n1_; (try clear hb); (try clear hkp); (try clear ho0))); try go_wp2_with (first | (go_at_call 75; (with_reducible refine (insolvencyref1_strip.calls k1 (fun k_ => some k_ = (.slice Ao27 x5_1.length co27 : Value).ownBlock) (.slice Ao27 x5_1.length co27) x5_1 t582 w _ ?side1 ?side2 A26.out).mono ?_); (case side1 => repeat (first | (with_reducible first | exact HB.out | apply below_alloc | apply pw_below_drewN | apply below_drew1) | exact HB.out)); (case side2 => exact Kd.R_tight rfl HO_5.out); rintro e w28 ⟨v583, rfl, ho0, hb, hkp⟩; have n0_ := Aside0.mk (Kd.R_mono (ok' := fun k_ => True) ho0 (fun k_ hk_ => trivial)); have n1_ := Aside0.mk (hb); clear HB; clear HO_5; have HO584 := n0_; have HB := n1_; clear n0_ n1_; (try clear hb); (try clear hkp); (try clear ho0))))
         go_ret
         exact ⟨_, by first | rfl | (simp [errW_none, errW_some] <;> rfl) | (simp only [← hji3]; first | rfl | (simp [errW_none, errW_some] <;> rfl)) | (simp [*, errW_none, errW_some] <;> rfl), by (with_reducible repeat (first | apply Kd.R_alloc | apply Kd.R_drewN | apply Kd.R_drew)); exact HO584.out, by repeat (first | (with_reducible first | exact HB.out | apply below_alloc | apply pw_below_drewN | apply below_drew1) | exact HB.out)⟩
   · rw [if_neg c5] at H
     exact absurd H (by simp)
 · rw [if_neg c4] at H
   exact absurd H (by simp)
end Go.Proofs.YtjaflmhdclmolaaDoor.F
end
section
namespace Go.Proofs.YtjaflmhdclmolaaDoor.F
open Go.RowKit Go.Proofs.YtjaflmhdclmolaaDoorW.PrintWords Go.Proofs.YtjaflmhdclmolaaDoorW.PrintLast Go.Proofs.YtjaflmhdclmolaaDoorW.PrintMore
attribute [local go_sem] max2_int min2_int max_two min_two max_three min_three max_four min_four   
set_option linter.unusedVariables false
set_option linter.unusedSimpArgs false
def insolvencyref1_NatMultiply.f (k : Nat) (a0 : ByteArray) (a1 : ByteArray) : Option (ByteArray) := (insolvencyref1_limbs.f k a0).bind fun t590 => ((insolvencyref1_limbs.f k a1).bind fun t593 => ((insolvencyref1_times.f k t590 t593).bind fun t596 => ((insolvencyref1_text.f k t596).bind fun t599 => (some t599))))
theorem insolvencyref1_NatMultiply.mono : ∀ a0 a1 k, LeO (insolvencyref1_NatMultiply.f k a0 a1) (insolvencyref1_NatMultiply.f (k + 1) a0 a1) := by
 intro a0 a1 k
 unfold insolvencyref1_NatMultiply.f
 repeat' first
  | (with_reducible exact insolvencyref1_limbs.mono _ _)
  | (with_reducible exact insolvencyref1_text.mono _ _)
  | (with_reducible exact insolvencyref1_times.mono _ _ _)
  | (with_reducible exact LeO.refl _)
  | (with_reducible exact LeO.none _)
  | (with_reducible refine LeO.ite ?_ ?_)
  | (with_reducible refine LeO.bind ?_ (fun _ => ?_))
  | exact insolvencyref1_limbs.mono _ _
  | exact insolvencyref1_text.mono _ _
  | exact insolvencyref1_times.mono _ _ _
  | exact LeO.none _
  | refine LeO.ite ?_ ?_
  | refine LeO.bind ?_ (fun _ => ?_)
set_option maxHeartbeats 8000000 in
set_option maxRecDepth 100000 in
theorem insolvencyref1_NatMultiply.calls (k : Nat) (a0 : ByteArray) (a1 : ByteArray) (r : ByteArray) (w : World) (h : insolvencyref1_NatMultiply.f k a0 a1 = some r) :
 Calls Tryd.prog 37 #[.string a0, .string a1] w fun e w' => e = .returned (.string r) ∧ Below w.heap.size w w' := by
 have HB := Aside0.mk (Below.refl w.heap.size w)
 have H : ((insolvencyref1_limbs.f k a0).bind fun t590 => ((insolvencyref1_limbs.f k a1).bind fun t593 => ((insolvencyref1_times.f k t590 t593).bind fun t596 => ((insolvencyref1_text.f k t596).bind fun t599 => (some t599))))) = some r := h
 clear h
 replace H := Option.bind_eq_some_iff.mp H
 obtain ⟨t590, A30, H⟩ := H
 replace H : ((insolvencyref1_limbs.f k a1).bind fun t593 => ((insolvencyref1_times.f k t590 t593).bind fun t596 => ((insolvencyref1_text.f k t596).bind fun t599 => (some t599)))) = some r := H
 have A3 := Aside0.mk A30
 clear A30
 replace H := Option.bind_eq_some_iff.mp H
 obtain ⟨t593, A40, H⟩ := H
 replace H : ((insolvencyref1_times.f k t590 t593).bind fun t596 => ((insolvencyref1_text.f k t596).bind fun t599 => (some t599))) = some r := H
 have A4 := Aside0.mk A40
 clear A40
 replace H := Option.bind_eq_some_iff.mp H
 obtain ⟨t596, A50, H⟩ := H
 replace H : ((insolvencyref1_text.f k t596).bind fun t599 => (some t599)) = some r := H
 have A5 := Aside0.mk A50
 clear A50
 replace H := Option.bind_eq_some_iff.mp H
 obtain ⟨t599, A60, H⟩ := H
 replace H : (some t599) = some r := H
 have A6 := Aside0.mk A60
 clear A60
 obtain rfl := Option.some.inj H
 go_enter Tryd.func37, Tryd.ntmps37
 go_wp2_with (first | ((with_reducible refine gate_callee (f := 45) rfl ?_); refine goesL_ (some 6) rfl rfl Tryd.func45 (by kernel_rfl) rfl #[.string a0] rfl (by (try simp only [List.map_toArray, List.map_cons, List.map_nil]); first | done | rfl | (simp only [List.length_drop, List.length_take]; rfl)) ?_; (with_reducible refine (insolvencyref1_limbs.calls k a0 t590 _ A3.out).mono ?_); rintro e w7 ⟨v591, rfl, ho0, hb⟩; refine ⟨_, rfl, ?_⟩; have n0_ := Aside0.mk (Kd.R_lower ho0 (below_size (by repeat (first | (with_reducible first | exact HB.out | apply below_alloc | apply pw_below_drewN | apply below_drew1) | exact HB.out)))); have n1_ := Aside0.mk (below_step (by repeat (first | (with_reducible first | exact HB.out | apply below_alloc | apply pw_below_drewN | apply below_drew1) | exact HB.out)) hb); clear HB; have HO592 := n0_; have HB := n1_; clear n0_ n1_; (try clear hb); (try clear hb2); (try clear hk); (try clear hi); (try clear ho0)) | ((with_reducible refine gate_callee (f := 45) rfl ?_); refine goesL_ (some 8) rfl rfl Tryd.func45 (by kernel_rfl) rfl #[.string a1] rfl (by (try simp only [List.map_toArray, List.map_cons, List.map_nil]); first | done | rfl | (simp only [List.length_drop, List.length_take]; rfl)) ?_; (with_reducible refine (insolvencyref1_limbs.calls k a1 t593 _ A4.out).mono ?_); rintro e w8 ⟨v594, rfl, ho0, hb⟩; refine ⟨_, rfl, ?_⟩; have n0_ := Aside0.mk (Kd.R_elder' (by (with_reducible repeat (first | apply Kd.R_alloc | apply Kd.R_drewN | apply Kd.R_drew)); exact HO592.out) (Kd.R_base ho0) hb); have n1_ := Aside0.mk (Kd.R_lower (Kd.R_new' ho0 (Kd.R_lt (by (with_reducible repeat (first | apply Kd.R_alloc | apply Kd.R_drewN | apply Kd.R_drew)); exact HO592.out))) (below_size (by repeat (first | (with_reducible first | exact HB.out | apply below_alloc | apply pw_below_drewN | apply below_drew1) | exact HB.out)))); have n2_ := Aside0.mk (below_step (by repeat (first | (with_reducible first | exact HB.out | apply below_alloc | apply pw_below_drewN | apply below_drew1) | exact HB.out)) hb); clear HO592; clear HB; have HO592 := n0_; have HO595 := n1_; have HB := n2_; clear n0_ n1_ n2_; (try clear hb); (try clear hb2); (try clear hk); (try clear hi); (try clear ho0); obtain ⟨Ao9, co9, eo9⟩ := Kd.R_slice HO592.out; subst eo9; obtain ⟨Ao10, co10, eo10⟩ := Kd.R_slice HO595.out; subst eo10) | ((with_reducible refine gate_callee (f := 61) rfl ?_); refine goesL_ (some 9) rfl rfl Tryd.func61 (by kernel_rfl) rfl #[.slice Ao9 t590.length co9, .slice Ao10 t593.length co10] rfl (by (try simp only [List.map_toArray, List.map_cons, List.map_nil]); first | done | rfl | (simp only [List.length_drop, List.length_take]; rfl)) ?_; (with_reducible refine (insolvencyref1_times.calls k _ _ t590 _ _ t593 t596 _ ?side1 ?side2 ?side3 ?side4 A5.out).mono ?_); (case side1 => repeat (first | exact (Kd.R_reads' HO592.out).2.2 | (with_reducible refine Kd.C_alloc ?_ _) | (with_reducible refine Kd.C_drewN ?_ _) | (with_reducible refine Kd.C_drew ?_))); (case side2 => exact (Kd.R_reads' HO592.out).2.1); (case side3 => repeat (first | exact (Kd.R_reads' HO595.out).2.2 | (with_reducible refine Kd.C_alloc ?_ _) | (with_reducible refine Kd.C_drewN ?_ _) | (with_reducible refine Kd.C_drew ?_))); (case side4 => exact (Kd.R_reads' HO595.out).2.1); rintro e w11 ⟨v597, rfl, ho0, hb⟩; refine ⟨_, rfl, ?_⟩; have n0_ := Aside0.mk (Kd.R_elder' (by (with_reducible repeat (first | apply Kd.R_alloc | apply Kd.R_drewN | apply Kd.R_drew)); exact HO592.out) (Kd.R_base ho0) hb); have n1_ := Aside0.mk (Kd.R_elder' (by (with_reducible repeat (first | apply Kd.R_alloc | apply Kd.R_drewN | apply Kd.R_drew)); exact HO595.out) (Kd.R_base ho0) hb); have n2_ := Aside0.mk (Kd.R_lower (Kd.R_new' (Kd.R_new' ho0 (Kd.R_lt (by (with_reducible repeat (first | apply Kd.R_alloc | apply Kd.R_drewN | apply Kd.R_drew)); exact HO592.out))) (Kd.R_lt (by (with_reducible repeat (first | apply Kd.R_alloc | apply Kd.R_drewN | apply Kd.R_drew)); exact HO595.out))) (below_size (by repeat (first | (with_reducible first | exact HB.out | apply below_alloc | apply pw_below_drewN | apply below_drew1) | exact HB.out)))); have n3_ := Aside0.mk (below_step (by repeat (first | (with_reducible first | exact HB.out | apply below_alloc | apply pw_below_drewN | apply below_drew1) | exact HB.out)) hb); clear HO592; clear HO595; clear HB; have HO592 := n0_; have HO595 := n1_; have HO598 := n2_; have HB := n3_; clear n0_ n1_ n2_ n3_; (try clear hb); (try clear hb2); (try clear hk); (try clear hi); (try clear ho0); obtain ⟨Ao12, co12, eo12⟩ := Kd.R_slice HO598.out; subst eo12) | ((with_reducible refine gate_callee (f := 47) rfl ?_); refine goesL_ (some 10) rfl rfl Tryd.func47 (by kernel_rfl) rfl #[.slice Ao12 t596.length co12] rfl (by (try simp only [List.map_toArray, List.map_cons, List.map_nil]); first | done | rfl | (simp only [List.length_drop, List.length_take]; rfl)) ?_; (with_reducible refine (insolvencyref1_text.calls k (fun k_ => some k_ = (.slice Ao12 t596.length co12 : Value).ownBlock) (.slice Ao12 t596.length co12) t596 t599 w _ ?side1 ?side2 A6.out).mono ?_); (case side1 => repeat (first | (with_reducible first | exact HB.out | apply below_alloc | apply pw_below_drewN | apply below_drew1) | exact HB.out)); (case side2 => exact Kd.R_tight rfl HO598.out); rintro e w13 ⟨rfl, hb, hkp⟩; refine ⟨_, rfl, ?_⟩; have n0_ := Aside0.mk (Kd.R_mono (ok' := fun k_ => some k_ ≠ (.slice Ao10 t593.length co10 : Value).ownBlock) (Kd.R_keptB (HO592.out) hkp (fun k_ hk_ hs_ => (hk_.2) hs_)) (fun k_ hk_ => hk_.1.1.2)); have n1_ := Aside0.mk (Kd.R_mono (ok' := fun k_ => some k_ ≠ (.slice Ao9 t590.length co9 : Value).ownBlock) (Kd.R_keptB (HO595.out) hkp (fun k_ hk_ hs_ => (hk_.2) hs_)) (fun k_ hk_ => hk_.1.1.2)); have n2_ := Aside0.mk (hb); clear HO592; clear HO595; clear HB; clear HO598; have HO592 := n0_; have HO595 := n1_; have HB := n2_; clear n0_ n1_ n2_; (try clear hb); (try clear hkp)))
 go_ret
 exact ⟨by first | rfl | (simp [errW_none, errW_some] <;> rfl) | (simp [*, errW_none, errW_some] <;> rfl), by repeat (first | (with_reducible first | exact HB.out | apply below_alloc | apply pw_below_drewN | apply below_drew1) | exact HB.out)⟩
end Go.Proofs.YtjaflmhdclmolaaDoor.F
end
section
namespace Go.Proofs.YtjaflmhdclmolaaDoor.Num
open Go.RowKit Go.Proofs.YtjaflmhdclmolaaDoorW.PrintWords Go.Proofs.YtjaflmhdclmolaaDoorW.PrintLast Go.Proofs.YtjaflmhdclmolaaDoorW.PrintMore Go.Proofs.YtjaflmhdclmolaaDoor.F
set_option linter.unusedVariables false
theorem drop_cons {l : List Int} {i : Nat} {x : Int} {r : List Int} (h : l.drop i = x :: r) : i < l.length ∧ rd l (i : Int) = x ∧ l.drop (i + 1) = r ∧ x ∈ l := by
 have hlt : i < l.length := by
  rcases Nat.lt_or_ge i l.length with q | q
  · exact q
  · rw [List.drop_of_length_le q] at h; cases h
 obtain ⟨y, _, hr, _, hd⟩ := drop_split hlt
 rw [hd] at h
 have h1 := (List.cons.inj h).1
 have h2 := (List.cons.inj h).2
 refine ⟨hlt, by rw [hr, h1], h2, ?_⟩
 have : x ∈ l.drop i := by rw [hd, h1]; exact List.mem_cons_self
 exact List.mem_of_mem_drop this
theorem drop_nil {l : List Int} {i : Nat} (h : l.drop i = []) : l.length ≤ i := by
 have := congrArg List.length h
 rw [List.length_drop, List.length_nil] at this
 omega
theorem vsnoc (o : List Int) (d r : Int) : val (o ++ [d]) + 4294967296 ^ (o ++ [d]).length * r = val o + 4294967296 ^ o.length * (d + 4294967296 * r) := by
 rw [val_app, List.length_append, List.length_singleton, Int.pow_succ]
 simp only [val, Int.mul_zero, Int.add_zero, Int.mul_add, ← Int.mul_assoc]
 omega
theorem snoc_len (o : List Int) (d : Int) : (o ++ [d]).length = o.length + 1 := by rw [List.length_append, List.length_singleton]
theorem snoc_dig {o : List Int} {d : Int} (h : Dig o) (h0 : 0 ≤ d) (h1 : d < 4294967296) : Dig (o ++ [d]) := h.app (Dig.cons h0 h1 Dig.nil)
theorem set_snoc (o : List Int) (d x : Int) (r : List Int) : (o ++ x :: r).set o.length d = (o ++ [d]) ++ r := by
 have := set_at o x d r (o.length : Int) rfl
 rw [Int.toNat_natCast] at this
 rw [this, List.append_assoc, List.singleton_append]
theorem add32_eq {a b c : Int} (ha0 : 0 ≤ a) (ha : a < 4294967296) (hb0 : 0 ≤ b) (hb : b < 4294967296) (hc0 : 0 ≤ c) (hc : c ≤ 1) : bits_Add32.f a b c = some ((a + b + c) % 4294967296, (a + b + c) / 4294967296) := by
 unfold bits_Add32.f
 rw [wu (n := a) (by omega) (by omega), wu (n := b) (by omega) (by omega), wu (n := c) (by omega) (by omega), wu (n := a + b) (by omega) (by omega), wu (by omega) (by omega), Int.emod_eq_of_lt (a := (a + b + c) / 4294967296) (by omega) (by omega)]
theorem add_loop (x y : List Int) (hx : Dig x) (hy : Dig y) (hl : x.length ≤ 400000) (xs : List Int) : ∀ (ys o : List Int) (c : Int), x.drop o.length = xs → y.drop o.length = ys → ys.length ≤ xs.length → Dig o → 0 ≤ c → c ≤ 1 → o.length ≤ x.length →
 Ev (fun k => natural_Add.l0 k x y (o ++ List.replicate (xs.length + 1) 0) c (x.length : Int) (o.length : Int)) (S (val o + 4294967296 ^ o.length * (c + val xs + val ys))) := by
 induction xs with
 | nil =>
  intro ys o c h1 h2 h3 ho c0 c1 hol
  have e1 := drop_nil h1
  have e2 : ys = [] := List.eq_nil_of_length_eq_zero (by simpa using h3)
  have hd : Dig (o ++ [c]) := snoc_dig ho c0 (by omega)
  have ht := text_ev hd (by rw [snoc_len]; omega)
  have hv : val (o ++ [c]) = val o + 4294967296 ^ o.length * (c + val [] + val ys) := by rw [e2, val_app]; simp [val]
  rw [hv] at ht
  refine Ev.step (f := fun k => (natural_limbs_text.f k (o ++ [c])).bind fun t => some t) (fun k => ?_) (Ev.bind ht (Ev.now _))
  have hs : (o ++ List.replicate (([] : List Int).length + 1) 0).set x.length c = o ++ [c] := by
   rw [show x.length = o.length by omega]
   exact (set_snoc o c 0 []).trans (List.append_nil _)
  simp only [natural_Add.l0]
  rw [if_neg (by omega), if_pos (by omega), if_pos (by rw [List.length_append, List.length_replicate, List.length_nil]; omega), Int.toNat_natCast, hs]
 | cons a xs ih =>
  intro ys o c h1 h2 h3 ho c0 c1 hol
  obtain ⟨i1, r1, d1, m1⟩ := drop_cons h1
  have ba := hx a m1
  have hL : o.length < (o ++ List.replicate ((a :: xs).length + 1) 0).length := by
   rw [List.length_append, List.length_replicate]; omega
  have hset : ∀ d, (o ++ List.replicate ((a :: xs).length + 1) 0).set o.length d = (o ++ [d]) ++ List.replicate (xs.length + 1) 0 := fun d => by
   rw [List.replicate_succ]
   exact set_snoc o d 0 _
  cases ys with
  | nil =>
   have e2 := drop_nil h2
   have q := add32_eq ba.1 ba.2 (show (0 : Int) ≤ 0 by omega) (show (0 : Int) < 4294967296 by omega) c0 c1
   have ih := ih [] (o ++ [(a + 0 + c) % 4294967296]) ((a + 0 + c) / 4294967296) (by rw [snoc_len]; exact d1) (by rw [snoc_len]; exact List.drop_of_length_le (by omega)) (Nat.zero_le _) (snoc_dig ho (by omega) (by omega)) (by omega) (by omega) (by rw [snoc_len]; omega)
   rw [vsnoc, show (a + 0 + c) % 4294967296 + 4294967296 * ((a + 0 + c) / 4294967296 + val xs + val []) = c + val (a :: xs) + val [] by simp only [val]; omega, snoc_len] at ih
   refine Ev.step (fun k => ?_) ih
   simp only [natural_Add.l0]
   rw [r1, q, Option.bind_some, if_pos (by omega), if_neg (by omega), if_pos (by omega), if_pos (by omega), if_pos (by omega), Int.toNat_natCast, hset, winc (by omega)]
  | cons b ys =>
   obtain ⟨i2, r2, d2, m2⟩ := drop_cons h2
   have bb := hy b m2
   have q := add32_eq ba.1 ba.2 bb.1 bb.2 c0 c1
   have ih := ih ys (o ++ [(a + b + c) % 4294967296]) ((a + b + c) / 4294967296) (by rw [snoc_len]; exact d1) (by rw [snoc_len]; exact d2) (by simpa using h3) (snoc_dig ho (by omega) (by omega)) (by omega) (by omega) (by rw [snoc_len]; omega)
   rw [vsnoc, show (a + b + c) % 4294967296 + 4294967296 * ((a + b + c) / 4294967296 + val xs + val ys) = c + val (a :: xs) + val (b :: ys) by simp only [val]; omega, snoc_len] at ih
   refine Ev.step (fun k => ?_) ih
   simp only [natural_Add.l0]
   rw [r1, r2, q, Option.bind_some, if_pos (by omega), if_pos (by omega), if_pos (by omega), if_pos (by omega), if_pos (by omega), Int.toNat_natCast, hset, winc (by omega)]
theorem add_j0 (x y : List Int) (hx : Dig x) (hy : Dig y) (hl : x.length ≤ 400000) (h : y.length ≤ x.length) : Ev (fun k => natural_Add.j0 k x y) (S (val x + val y)) := by
 have g := add_loop x y hx hy hl x y [] 0 rfl rfl h Dig.nil (Int.le_refl _) (by decide) (Nat.zero_le _)
 have e : val [] + 4294967296 ^ ([] : List Int).length * (0 + val x + val y) = val x + val y := by simp [val]
 rw [e] at g
 refine Ev.step (fun k => ?_) g
 simp only [natural_Add.j0]
 rw [winc (by omega), Int.toNat_natCast, if_pos (by omega), if_pos (by omega)]
 rfl
theorem Add_ev (a b : ByteArray) (ha : a.size ≤ 1600000) (hb : b.size ≤ 1600000) : Ev (fun k => natural_Add.f k a b) (S (B a + B b)) := by
 have h1 := B_nonneg a
 have h2 := B_nonneg b
 have l1 := B_small (s := a) (m := 400000) (by omega)
 have l2 := B_small (s := b) (m := 400000) (by omega)
 refine Ev.bind (parse_ev a (by omega)) ?_
 refine Ev.bind (parse_ev b (by omega)) ?_
 by_cases h : (L (B a)).length < (L (B b)).length
 · refine Ev.ite (by omega) ?_
   have g := add_j0 _ _ (L_dig h2) (L_dig h1) l2 (by omega)
   rw [L_val h1, L_val h2, Int.add_comm] at g
   exact g
 · refine Ev.ite_not (by omega) ?_
   have g := add_j0 _ _ (L_dig h1) (L_dig h2) l1 (by omega)
   rw [L_val h1, L_val h2] at g
   exact g
theorem plus_loop (x y : List Int) (hx : Dig x) (hy : Dig y) (hlx : x.length ≤ 400000) (hly : y.length ≤ 400000) (m : Nat) : ∀ (xs ys o : List Int) (c : Int), x.drop o.length = xs → y.drop o.length = ys → xs.length ≤ m → ys.length ≤ m → Dig o → 0 ≤ c → c ≤ 1 → o.length + m ≤ 400000 →
 ∃ l, Dig l ∧ l.length ≤ o.length + m + 1 ∧ val l = val o + 4294967296 ^ o.length * (c + val xs + val ys) ∧ Ev (fun k => insolvencyref1_plus.l0 k x y o c (o.length : Int)) l := by
 induction m with
 | zero =>
  intro xs ys o c h1 h2 h3 h4 ho c0 c1 hb
  have e1 : xs = [] := List.eq_nil_of_length_eq_zero (by omega)
  have e2 : ys = [] := List.eq_nil_of_length_eq_zero (by omega)
  rw [e1] at h1 ⊢
  rw [e2] at h2 ⊢
  have g1 := drop_nil h1
  have g2 := drop_nil h2
  have hend : ∀ o' : List Int, o'.length ≥ o.length → Ev (fun k => insolvencyref1_plus.l0 k x y o' 0 (o'.length : Int)) o' := fun o' hq => by
   refine Ev.step (f := fun k => insolvencyref1_plus.j1 k x y o' 0 (o'.length : Int) (decide ((0 : Int) > 0))) (fun k => ?_) ?_
   · simp only [insolvencyref1_plus.l0]
     rw [if_neg (by omega), if_neg (by omega)]
   · refine Ev.step (f := fun _ => some o') (fun k => ?_) (Ev.now _)
     simp only [insolvencyref1_plus.j1]
     rw [if_neg (by decide)]
  by_cases hc : c = 0
  · rw [hc]
    exact ⟨o, ho, by omega, by simp [val], hend o (Nat.le_refl _)⟩
  · have hc1 : c = 1 := by omega
    rw [hc1]
    refine ⟨o ++ [1], snoc_dig ho (by decide) (by decide), by rw [snoc_len]; omega, by rw [val_app]; simp [val], ?_⟩
    have g := hend (o ++ [1]) (by rw [snoc_len]; omega)
    refine Ev.step (f := fun k => insolvencyref1_plus.j1 k x y o 1 (o.length : Int) (decide ((1 : Int) > 0))) (fun k => ?_) ?_
    · simp only [insolvencyref1_plus.l0]
      rw [if_neg (by omega), if_neg (by omega)]
    · rw [snoc_len] at g
      refine Ev.step (fun k => ?_) g
      simp only [insolvencyref1_plus.j1]
      rw [if_pos (by decide), if_neg (by omega), if_neg (by omega), if_pos (by omega), winc (by omega)]
      rfl
 | succ m ih =>
  intro xs ys o c h1 h2 h3 h4 ho c0 c1 hb
  cases xs with
  | nil =>
   cases ys with
   | nil =>
    obtain ⟨l, q1, q2, q3, q4⟩ := ih [] [] o c h1 h2 (Nat.zero_le _) (Nat.zero_le _) ho c0 c1 (by omega)
    exact ⟨l, q1, by omega, q3, q4⟩
   | cons b ys =>
    have g1 := drop_nil h1
    obtain ⟨i2, r2, d2, m2⟩ := drop_cons h2
    have bb := hy b m2
    obtain ⟨l, q1, q2, q3, q4⟩ := ih [] ys (o ++ [(c + b) % 4294967296]) ((c + b) / 4294967296) (by rw [snoc_len]; exact List.drop_of_length_le (by omega)) (by rw [snoc_len]; exact d2) (Nat.zero_le _) (by simpa using h4) (snoc_dig ho (by omega) (by omega)) (by omega) (by omega) (by rw [snoc_len]; omega)
    rw [vsnoc, show (c + b) % 4294967296 + 4294967296 * ((c + b) / 4294967296 + val [] + val ys) = c + val [] + val (b :: ys) by simp only [val]; omega] at q3
    rw [snoc_len] at q2 q4
    refine ⟨l, q1, by omega, q3, ?_⟩
    refine Ev.step (f := fun k => insolvencyref1_plus.j1 k x y o c (o.length : Int) true) (fun k => ?_) (Ev.step (fun k => ?_) q4)
    · simp only [insolvencyref1_plus.l0]
      rw [if_neg (by omega), if_pos (by omega)]
    · simp only [insolvencyref1_plus.j1]
      rw [if_pos trivial, r2, if_neg (by omega), if_pos (by omega), if_pos (by omega), if_pos (by omega), wu (n := b) (by omega) (by omega), wu (by omega) (by omega), winc (by omega)]
  | cons a xs =>
   obtain ⟨i1, r1, d1, m1⟩ := drop_cons h1
   have ba := hx a m1
   cases ys with
   | nil =>
    have g2 := drop_nil h2
    obtain ⟨l, q1, q2, q3, q4⟩ := ih xs [] (o ++ [(c + a) % 4294967296]) ((c + a) / 4294967296) (by rw [snoc_len]; exact d1) (by rw [snoc_len]; exact List.drop_of_length_le (by omega)) (by simpa using h3) (Nat.zero_le _) (snoc_dig ho (by omega) (by omega)) (by omega) (by omega) (by rw [snoc_len]; omega)
    rw [vsnoc, show (c + a) % 4294967296 + 4294967296 * ((c + a) / 4294967296 + val xs + val []) = c + val (a :: xs) + val [] by simp only [val]; omega] at q3
    rw [snoc_len] at q2 q4
    refine ⟨l, q1, by omega, q3, ?_⟩
    refine Ev.step (f := fun k => insolvencyref1_plus.j1 k x y o c (o.length : Int) true) (fun k => ?_) (Ev.step (fun k => ?_) q4)
    · simp only [insolvencyref1_plus.l0]
      rw [if_pos (by omega)]
    · simp only [insolvencyref1_plus.j1]
      rw [if_pos trivial, r1, if_pos (by omega), if_pos (by omega), if_neg (by omega), if_pos (by omega), wu (n := a) (by omega) (by omega), wu (by omega) (by omega), winc (by omega)]
   | cons b ys =>
    obtain ⟨i2, r2, d2, m2⟩ := drop_cons h2
    have bb := hy b m2
    obtain ⟨l, q1, q2, q3, q4⟩ := ih xs ys (o ++ [(c + a + b) % 4294967296]) ((c + a + b) / 4294967296) (by rw [snoc_len]; exact d1) (by rw [snoc_len]; exact d2) (by simpa using h3) (by simpa using h4) (snoc_dig ho (by omega) (by omega)) (by omega) (by omega) (by rw [snoc_len]; omega)
    rw [vsnoc, show (c + a + b) % 4294967296 + 4294967296 * ((c + a + b) / 4294967296 + val xs + val ys) = c + val (a :: xs) + val (b :: ys) by simp only [val]; omega] at q3
    rw [snoc_len] at q2 q4
    refine ⟨l, q1, by omega, q3, ?_⟩
    refine Ev.step (f := fun k => insolvencyref1_plus.j1 k x y o c (o.length : Int) true) (fun k => ?_) (Ev.step (fun k => ?_) q4)
    · simp only [insolvencyref1_plus.l0]
      rw [if_pos (by omega)]
    · simp only [insolvencyref1_plus.j1]
      rw [if_pos trivial, r1, r2, if_pos (by omega), if_pos (by omega), if_pos (by omega), if_pos (by omega), wu (n := a) (by omega) (by omega), wu (n := c + a) (by omega) (by omega), wu (n := b) (by omega) (by omega), wu (by omega) (by omega), winc (by omega)]
theorem refAdd_ev (a b : ByteArray) (ha : a.size ≤ 800000) (hb : b.size ≤ 800000) : Ev (fun k => insolvencyref1_NatAdd.f k a b) (S (B a + B b)) := by
 have h1 := B_nonneg a
 have h2 := B_nonneg b
 have l1 := B_small (s := a) (m := 200000) (by omega)
 have l2 := B_small (s := b) (m := 200000) (by omega)
 obtain ⟨l, q1, q2, q3, q4⟩ := plus_loop (L (B a)) (L (B b)) (L_dig h1) (L_dig h2) (by omega) (by omega) 200000 (L (B a)) (L (B b)) [] 0 rfl rfl l1 l2 Dig.nil (Int.le_refl _) (by decide) (by simp)
 have q5 : val l = B a + B b := by rw [q3, L_val h1, L_val h2]; simp [val]
 have q6 : l.length ≤ 200001 := by simpa using q2
 refine Ev.bind (reflimbs_ev a (by omega)) ?_
 refine Ev.bind (reflimbs_ev b (by omega)) ?_
 refine Ev.bind q4 ?_
 have g := reftext_ev q1 (by omega)
 rw [q5] at g
 exact Ev.bind g (Ev.now _)
theorem sub32_eq {a b c : Int} (ha0 : 0 ≤ a) (ha : a < 4294967296) (hb0 : 0 ≤ b) (hb : b < 4294967296) (hc0 : 0 ≤ c) (hc : c ≤ 1) : bits_Sub32.f a b c = some ((a - b - c) % 4294967296, -((a - b - c) / 4294967296)) := by
 unfold bits_Sub32.f
 rw [if_pos ⟨ha0, ha, hb0, hb, hc0, hc⟩]
 have : (if a < b + c then (1 : Int) else 0) = -((a - b - c) / 4294967296) := by split <;> omega
 rw [this]
theorem subtract_loop (x y : List Int) (hx : Dig x) (hy : Dig y) (hl : x.length ≤ 400000) (xs : List Int) : ∀ (ys o : List Int) (c : Int), x.drop o.length = xs → y.drop o.length = ys → ys.length ≤ xs.length → Dig o → 0 ≤ c → c ≤ 1 → 0 ≤ val xs - val ys - c → o.length ≤ x.length →
 Ev (fun k => natural_subtract.l0 k x y (o ++ List.replicate xs.length 0) c (x.length : Int) (o.length : Int)) (L (val o + 4294967296 ^ o.length * (val xs - val ys - c))) := by
 induction xs with
 | nil =>
  intro ys o c h1 h2 h3 ho c0 c1 hpos hol
  have e1 := drop_nil h1
  have e2 : ys = [] := List.eq_nil_of_length_eq_zero (by simpa using h3)
  rw [e2] at hpos ⊢
  simp only [val] at hpos
  have hc : c = 0 := by omega
  refine Ev.step (f := fun k => (natural_limbs_trim.f k o).bind fun t => some t) (fun k => ?_) ?_
  · simp only [natural_subtract.l0]
    rw [if_neg (by omega)]
    simp
  · refine Ev.bind (trim_ev o (by omega)) ?_
    rw [tr_L ho, hc]
    simp only [val]
    rw [show val o + 4294967296 ^ o.length * (0 - 0 - 0) = val o by simp]
    exact Ev.now _
 | cons a xs ih =>
  intro ys o c h1 h2 h3 ho c0 c1 hpos hol
  obtain ⟨i1, r1, d1, m1⟩ := drop_cons h1
  have ba := hx a m1
  have hL : o.length < (o ++ List.replicate (a :: xs).length 0).length := by
   rw [List.length_append, List.length_replicate, List.length_cons]; omega
  have hset : ∀ d, (o ++ List.replicate (a :: xs).length 0).set o.length d = (o ++ [d]) ++ List.replicate xs.length 0 := fun d => by
   rw [List.length_cons, List.replicate_succ]
   exact set_snoc o d 0 _
  cases ys with
  | nil =>
   have e2 := drop_nil h2
   have q := sub32_eq ba.1 ba.2 (show (0 : Int) ≤ 0 by omega) (show (0 : Int) < 4294967296 by omega) c0 c1
   simp only [val] at hpos
   have ih := ih [] (o ++ [(a - 0 - c) % 4294967296]) (-((a - 0 - c) / 4294967296)) (by rw [snoc_len]; exact d1) (by rw [snoc_len]; exact List.drop_of_length_le (by omega)) (Nat.zero_le _) (snoc_dig ho (by omega) (by omega)) (by omega) (by omega) (by simp only [val]; omega) (by rw [snoc_len]; omega)
   rw [vsnoc, show (a - 0 - c) % 4294967296 + 4294967296 * (val xs - val [] - -((a - 0 - c) / 4294967296)) = val (a :: xs) - val [] - c by simp only [val]; omega, snoc_len] at ih
   refine Ev.step (fun k => ?_) ih
   simp only [natural_subtract.l0]
   rw [r1, q, Option.bind_some, if_pos (by omega), if_neg (by omega), if_pos (by omega), if_pos (by omega), if_pos (by omega), Int.toNat_natCast, hset, winc (by omega)]
  | cons b ys =>
   obtain ⟨i2, r2, d2, m2⟩ := drop_cons h2
   have bb := hy b m2
   have q := sub32_eq ba.1 ba.2 bb.1 bb.2 c0 c1
   simp only [val] at hpos
   have ih := ih ys (o ++ [(a - b - c) % 4294967296]) (-((a - b - c) / 4294967296)) (by rw [snoc_len]; exact d1) (by rw [snoc_len]; exact d2) (by simpa using h3) (snoc_dig ho (by omega) (by omega)) (by omega) (by omega) (by omega) (by rw [snoc_len]; omega)
   rw [vsnoc, show (a - b - c) % 4294967296 + 4294967296 * (val xs - val ys - -((a - b - c) / 4294967296)) = val (a :: xs) - val (b :: ys) - c by simp only [val]; omega, snoc_len] at ih
   refine Ev.step (fun k => ?_) ih
   simp only [natural_subtract.l0]
   rw [r1, r2, q, Option.bind_some, if_pos (by omega), if_pos (by omega), if_pos (by omega), if_pos (by omega), if_pos (by omega), Int.toNat_natCast, hset, winc (by omega)]
theorem subtract_ev {a b : Int} (hb : 0 ≤ b) (h : b ≤ a) (hl : (L a).length ≤ 400000) : Ev (fun k => natural_subtract.f k (L a) (L b)) (L (a - b)) := by
 have ha : 0 ≤ a := by omega
 have g := subtract_loop (L a) (L b) (L_dig ha) (L_dig hb) hl (L a) (L b) [] 0 rfl rfl (L_mono hb h) Dig.nil (Int.le_refl _) (by decide) (by rw [L_val ha, L_val hb]; omega) (Nat.zero_le _)
 have e : val [] + 4294967296 ^ ([] : List Int).length * (val (L a) - val (L b) - 0) = a - b := by rw [L_val ha, L_val hb]; simp [val]
 rw [e] at g
 refine Ev.congr (fun k => ?_) g
 simp only [natural_subtract.f]
 rw [Int.toNat_natCast, if_pos (by omega), if_pos (by omega)]
 rfl
theorem minus_loop (x y : List Int) (hx : Dig x) (hy : Dig y) (hl : x.length ≤ 400000) (xs : List Int) : ∀ (ys o : List Int) (c : Int), x.drop o.length = xs → y.drop o.length = ys → ys.length ≤ xs.length → Dig o → 0 ≤ c → c ≤ 1 → 0 ≤ val xs - val ys - c → o.length ≤ x.length →
 Ev (fun k => insolvencyref1_minus.l0 k x y (o ++ List.replicate xs.length 0) c (o.length : Int)) (L (val o + 4294967296 ^ o.length * (val xs - val ys - c))) := by
 induction xs with
 | nil =>
  intro ys o c h1 h2 h3 ho c0 c1 hpos hol
  have e1 := drop_nil h1
  have e2 : ys = [] := List.eq_nil_of_length_eq_zero (by simpa using h3)
  rw [e2] at hpos ⊢
  simp only [val] at hpos
  have hc : c = 0 := by omega
  refine Ev.step (f := fun k => (insolvencyref1_strip.f k o).bind fun t => some t) (fun k => ?_) ?_
  · simp only [insolvencyref1_minus.l0]
    rw [if_neg (by omega)]
    simp
  · refine Ev.bind (strip_ev o (by omega)) ?_
    rw [tr_L ho, hc]
    simp only [val]
    rw [show val o + 4294967296 ^ o.length * (0 - 0 - 0) = val o by simp]
    exact Ev.now _
 | cons a xs ih =>
  intro ys o c h1 h2 h3 ho c0 c1 hpos hol
  obtain ⟨i1, r1, d1, m1⟩ := drop_cons h1
  have ba := hx a m1
  have hL : o.length < (o ++ List.replicate (a :: xs).length 0).length := by
   rw [List.length_append, List.length_replicate, List.length_cons]; omega
  have hset : ∀ d, (o ++ List.replicate (a :: xs).length 0).set o.length d = (o ++ [d]) ++ List.replicate xs.length 0 := fun d => by
   rw [List.length_cons, List.replicate_succ]
   exact set_snoc o d 0 _
  cases ys with
  | nil =>
   have e2 := drop_nil h2
   simp only [val] at hpos
   have ih := ih [] (o ++ [(a - 0 - c) % 4294967296]) (-((a - 0 - c) / 4294967296)) (by rw [snoc_len]; exact d1) (by rw [snoc_len]; exact List.drop_of_length_le (by omega)) (Nat.zero_le _) (snoc_dig ho (by omega) (by omega)) (by omega) (by omega) (by simp only [val]; omega) (by rw [snoc_len]; omega)
   rw [vsnoc, show (a - 0 - c) % 4294967296 + 4294967296 * (val xs - val [] - -((a - 0 - c) / 4294967296)) = val (a :: xs) - val [] - c by simp only [val]; omega, snoc_len] at ih
   refine Ev.step (fun k => ?_) ih
   simp only [insolvencyref1_minus.l0]
   rw [r1, wu (n := a) (by omega) (by omega), if_pos (by omega), if_neg (by omega), if_pos (by omega), winc (by omega), Int.toNat_natCast, hset, hset]
   by_cases hlt : a < c
   · rw [if_pos hlt, if_pos (by omega), wu (n := a + 4294967296) (by omega) (by omega), wu (by omega) (by omega), show -((a - 0 - c) / 4294967296) = 1 by omega, show (a + 4294967296 - c) % 4294967296 = (a - 0 - c) % 4294967296 by omega]
   · rw [if_neg hlt, if_pos (by omega), wu (by omega) (by omega), show -((a - 0 - c) / 4294967296) = 0 by omega, show (a - c) % 4294967296 = (a - 0 - c) % 4294967296 by omega]
  | cons b ys =>
   obtain ⟨i2, r2, d2, m2⟩ := drop_cons h2
   have bb := hy b m2
   simp only [val] at hpos
   have ih := ih ys (o ++ [(a - b - c) % 4294967296]) (-((a - b - c) / 4294967296)) (by rw [snoc_len]; exact d1) (by rw [snoc_len]; exact d2) (by simpa using h3) (snoc_dig ho (by omega) (by omega)) (by omega) (by omega) (by omega) (by rw [snoc_len]; omega)
   rw [vsnoc, show (a - b - c) % 4294967296 + 4294967296 * (val xs - val ys - -((a - b - c) / 4294967296)) = val (a :: xs) - val (b :: ys) - c by simp only [val]; omega, snoc_len] at ih
   refine Ev.step (fun k => ?_) ih
   simp only [insolvencyref1_minus.l0]
   rw [r1, r2, wu (n := a) (by omega) (by omega), wu (n := b) (by omega) (by omega), wu (n := c + b) (by omega) (by omega), if_pos (by omega), if_pos (by omega), if_pos (by omega), winc (by omega), Int.toNat_natCast, hset, hset]
   by_cases hlt : a < c + b
   · rw [if_pos hlt, if_pos (by omega), wu (n := a + 4294967296) (by omega) (by omega), wu (by omega) (by omega), show -((a - b - c) / 4294967296) = 1 by omega, show (a + 4294967296 - (c + b)) % 4294967296 = (a - b - c) % 4294967296 by omega]
   · rw [if_neg hlt, if_pos (by omega), wu (by omega) (by omega), show -((a - b - c) / 4294967296) = 0 by omega, show (a - (c + b)) % 4294967296 = (a - b - c) % 4294967296 by omega]
theorem minus_ev {a b : Int} (hb : 0 ≤ b) (h : b ≤ a) (hl : (L a).length ≤ 400000) : Ev (fun k => insolvencyref1_minus.f k (L a) (L b)) (L (a - b)) := by
 have ha : 0 ≤ a := by omega
 have g := minus_loop (L a) (L b) (L_dig ha) (L_dig hb) hl (L a) (L b) [] 0 rfl rfl (L_mono hb h) Dig.nil (Int.le_refl _) (by decide) (by rw [L_val ha, L_val hb]; omega) (Nat.zero_le _)
 have e : val [] + 4294967296 ^ ([] : List Int).length * (val (L a) - val (L b) - 0) = a - b := by rw [L_val ha, L_val hb]; simp [val]
 rw [e] at g
 refine Ev.congr (fun k => ?_) g
 simp only [insolvencyref1_minus.f]
 rw [Int.toNat_natCast, if_pos (by omega), if_pos (by omega)]
 rfl
def subOf (a b : ByteArray) : ByteArray × Bool := if B a < B b then (⟨#[]⟩, false) else (S (B a - B b), true)
theorem Subtract_ev (a b : ByteArray) (ha : a.size ≤ 1600000) (hb : b.size ≤ 1600000) : Ev (fun k => natural_Subtract.f k a b) (subOf a b) := by
 have h1 := B_nonneg a
 have h2 := B_nonneg b
 have l1 := B_small (s := a) (m := 400000) (by omega)
 have l2 := B_small (s := b) (m := 400000) (by omega)
 refine Ev.bind (parse_ev a (by omega)) ?_
 refine Ev.bind (parse_ev b (by omega)) ?_
 refine Ev.bind (compare_ev h1 h2 (by omega) (by omega)) ?_
 unfold subOf
 by_cases h : B a < B b
 · rw [if_pos h]
   exact Ev.ite (sgn_lt.2 h) (Ev.now _)
 · rw [if_neg h]
   refine Ev.ite_not (fun q => h (sgn_lt.1 q)) ?_
   refine Ev.bind (subtract_ev h2 (by omega) l1) ?_
   refine Ev.bind (text_L (by omega) (Nat.le_trans (L_mono (b := B a) (by omega) (by omega)) (by omega))) ?_
   exact Ev.now _
theorem refSubtract_ev (a b : ByteArray) (ha : a.size ≤ 1600000) (hb : b.size ≤ 1600000) : Ev (fun k => insolvencyref1_NatSubtract.f k a b) (subOf a b) := by
 have h1 := B_nonneg a
 have h2 := B_nonneg b
 have l1 := B_small (s := a) (m := 400000) (by omega)
 have l2 := B_small (s := b) (m := 400000) (by omega)
 refine Ev.bind (reflimbs_ev a (by omega)) ?_
 refine Ev.bind (reflimbs_ev b (by omega)) ?_
 refine Ev.bind (order_ev h1 h2 (by omega) (by omega)) ?_
 unfold subOf
 by_cases h : B a < B b
 · rw [if_pos h]
   exact Ev.ite (sgn_lt.2 h) (Ev.now _)
 · rw [if_neg h]
   refine Ev.ite_not (fun q => h (sgn_lt.1 q)) ?_
   refine Ev.bind (minus_ev h2 (by omega) l1) ?_
   refine Ev.bind (reftext_L (by omega) (Nat.le_trans (L_mono (b := B a) (by omega) (by omega)) (by omega))) ?_
   exact Ev.now _
end Go.Proofs.YtjaflmhdclmolaaDoor.Num
end
section
namespace Go.Proofs.YtjaflmhdclmolaaDoor.Num
open Go.RowKit Go.Proofs.YtjaflmhdclmolaaDoorW.PrintWords Go.Proofs.YtjaflmhdclmolaaDoorW.PrintLast Go.Proofs.YtjaflmhdclmolaaDoorW.PrintMore Go.Proofs.YtjaflmhdclmolaaDoor.F
set_option maxRecDepth 100000 in
theorem awake_div : natural_Divide.f 40 ⟨#[3, 232]⟩ ⟨#[7]⟩ = some (⟨#[142]⟩, ⟨#[6]⟩, true) := by kernel_rfl
set_option maxRecDepth 100000 in
theorem awake_parse : natural_Parse.f 40 ⟨#[48, 48, 55]⟩ = some (⟨#[]⟩, 3) := by kernel_rfl
set_option maxRecDepth 100000 in
theorem awake_add : natural_Add.f 40 ⟨#[255]⟩ ⟨#[1]⟩ = some ⟨#[1, 0]⟩ := by kernel_rfl
set_option maxRecDepth 100000 in
theorem awake_fmt1 : natural_Format.f 40 ⟨#[142]⟩ = some ⟨#[49, 52, 50]⟩ := by kernel_rfl
set_option maxRecDepth 100000 in
theorem awake_fmt2 : natural_Format.f 40 ⟨#[6]⟩ = some ⟨#[54]⟩ := by kernel_rfl
theorem awake_ev : Ev (fun k => insolvencylaw1_awake.f k) true := by
 refine Ev.of (fun k => insolvencylaw1_awake.mono k) (k := 40) ?_
 unfold insolvencylaw1_awake.f
 rw [awake_div, Option.bind_some, awake_parse, Option.bind_some, awake_add, Option.bind_some, if_pos (by rw [Lib.toList_data]), if_pos rfl, awake_fmt1, Option.bind_some, if_pos (by rw [Lib.toList_data]), awake_fmt2, Option.bind_some, if_pos (by rw [Lib.toList_data])]
 rfl
end Go.Proofs.YtjaflmhdclmolaaDoor.Num
end
section
namespace Go.Proofs.YtjaflmhdclmolaaDoor.Num
open Go.RowKit Go.Proofs.YtjaflmhdclmolaaDoorW.PrintWords Go.Proofs.YtjaflmhdclmolaaDoorW.PrintLast Go.Proofs.YtjaflmhdclmolaaDoorW.PrintMore Go.Proofs.YtjaflmhdclmolaaDoor.F
theorem with_few {l : List ByteArray} (hl : l.length ≤ 1000) {X : Nat → Option Bool} (h : (∀ s ∈ l, s.size ≤ 60) → Ev X true) : Ev (fun k => (insolvencylaw1_few.f k l).bind fun t => if t = true then X k else (insolvencylaw1_awake.f k).bind fun t => some t) true := by
 refine Ev.bind (few_ev l hl) ?_
 by_cases hf : (l.all fun s => decide (s.size ≤ 60)) = true
 · rw [hf]
   refine Ev.ite rfl (h fun s hs => ?_)
   have := List.all_eq_true.1 hf s hs
   simpa using this
 · rw [Bool.not_eq_true] at hf
   rw [hf]
   refine Ev.ite_not (by decide) ?_
   exact Ev.bind awake_ev (Ev.now _)
theorem some_of {g : Nat → Option Bool} (h : Ev g true) : ∃ k, g k = some true := h.elim fun K hK => ⟨K, hK K (Nat.le_refl _)⟩
end Go.Proofs.YtjaflmhdclmolaaDoor.Num
end
section
namespace Go.Proofs.YtjaflmhdclmolaaDoor.Pure
open Go.RowKit Go.Proofs.YtjaflmhdclmolaaDoor.F Go.Proofs.YtjaflmhdclmolaaDoorW.PrintWords Go.Proofs.YtjaflmhdclmolaaDoorW.PrintLast
open Go.Proofs.YtjaflmhdclmolaaDoor.Num
theorem NaturalSum : insolvencylaw1_NaturalSum.Pure := by
 intro a0 a1 h0 h1
 refine some_of (with_few (by simp) fun hf => ?_)
 have s0 := hf a0 (by simp)
 have s1 := hf a1 (by simp)
 refine Ev.bind (Subtract_ev a0 a1 (by omega) (by omega)) ?_
 refine Ev.bind (refSubtract_ev a0 a1 (by omega) (by omega)) ?_
 refine Ev.bind awake_ev ?_
 refine Ev.ite rfl ?_
 refine Ev.bind (Add_ev a0 a1 (by omega) (by omega)) ?_
 refine Ev.bind (refAdd_ev a0 a1 (by omega) (by omega)) ?_
 refine Ev.ite rfl ?_
 refine Ev.ite rfl ?_
 rw [BEq.rfl]
 exact Ev.now _
end Go.Proofs.YtjaflmhdclmolaaDoor.Pure
end
