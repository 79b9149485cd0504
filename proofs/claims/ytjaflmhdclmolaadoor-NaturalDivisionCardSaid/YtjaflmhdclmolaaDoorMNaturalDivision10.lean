/- Part 10 of the proof of NaturalDivision: the functions' walks and what they compute, in the order of the calls; each holds for all arguments that its row allows. -/
import Derived.Test.YtjaflmhdclmolaaDoorMNaturalDivision9
import Derived.Test.YtjaflmhdclmolaaDoorMNaturalDivision6
import Derived.Test.YtjaflmhdclmolaaDoorMNaturalDivision7
import Derived.KernelRfl
import Derived.Test.YtjaflmhdclmolaaDoorMNaturalDivision8
section
namespace Go.Proofs.YtjaflmhdclmolaaDoor.Num
open Go.RowKit Go.Proofs.YtjaflmhdclmolaaDoorW.PrintWords Go.Proofs.YtjaflmhdclmolaaDoorW.PrintLast Go.Proofs.YtjaflmhdclmolaaDoorW.PrintMore Go.Proofs.YtjaflmhdclmolaaDoor.F
set_option linter.unusedVariables false
def Ln (n : Nat) : List Int := if _h : n = 0 then [] else ((n % 4294967296 : Nat) : Int) :: Ln (n / 4294967296)
termination_by n
def L (n : Int) : List Int := Ln n.toNat
theorem Ln_zero : Ln 0 = [] := by rw [Ln]; rfl
theorem Ln_pos {n : Nat} (h : n ≠ 0) : Ln n = ((n % 4294967296 : Nat) : Int) :: Ln (n / 4294967296) := by rw [Ln]; rw [dif_neg h]
theorem Nz.cons {x : Int} {r : List Int} (h : Nz r) (hx : r = [] → x ≠ 0) : Nz (x :: r) := by
 cases r with
 | nil => exact hx rfl
 | cons y r => exact h
theorem Ln_is (n : Nat) : Is (Ln n) (n : Int) := by
 induction n using Nat.strongRecOn with
 | _ n ih =>
  by_cases h : n = 0
  · rw [h, Ln_zero]; exact Is.nil
  · rw [Ln_pos h]
    have ih := ih (n / 4294967296) (by omega)
    refine ⟨Dig.cons (by omega) (by omega) ih.1, Nz.cons ih.2.1 (fun e => ?_), ?_⟩
    · have h2 := ih.2.2
      rw [e] at h2
      simp only [val] at h2
      omega
    · simp only [val]; rw [ih.2.2]; omega
theorem L_is {n : Int} (h : 0 ≤ n) : Is (L n) n := by
 have := Ln_is n.toNat
 rw [Int.toNat_of_nonneg h] at this
 exact this
theorem Is.eq {l : List Int} {n : Int} (h : Is l n) : l = L n := h.unique (L_is h.nonneg)
theorem L_dig {n : Int} (h : 0 ≤ n) : Dig (L n) := (L_is h).1
theorem L_val {n : Int} (h : 0 ≤ n) : val (L n) = n := (L_is h).2.2
theorem L_zero : L 0 = [] := Ln_zero
theorem tr_L {l : List Int} (h : Dig l) : tr l = L (val l) := (tr_is h).eq
theorem L_ne {n : Int} (h : 0 < n) : L n ≠ [] := fun e => by have := L_val (n := n) (by omega); rw [e] at this; simp only [val] at this; omega
theorem len_le {l : List Int} : ∀ {n : Int} {m : Nat}, Is l n → n < 4294967296 ^ m → l.length ≤ m := by
 induction l with
 | nil => intro n m _ _; exact Nat.zero_le _
 | cons x r ih =>
  intro n m h hn
  have h0 := h.1.head
  have h2 := h.2.2
  simp only [val] at h2
  have hv := val_nonneg h.1.tail
  cases m with
  | zero =>
   have := h.pos (by simp)
   simp at hn
   omega
  | succ m =>
   have := ih (m := m) ⟨h.1.tail, h.2.1.tail, rfl⟩ (by rw [Int.pow_succ] at hn; generalize (4294967296 : Int) ^ m = q at hn ⊢; omega)
   simp only [List.length_cons]; omega
theorem L_len {n : Int} {m : Nat} (h0 : 0 ≤ n) (h : n < 4294967296 ^ m) : (L n).length ≤ m := len_le (L_is h0) h
theorem L_lt {n : Int} (h0 : 0 ≤ n) : n < 4294967296 ^ (L n).length := by
 have := val_lt (L_dig h0)
 rw [L_val h0] at this
 exact this
theorem L_mono {a b : Int} (h0 : 0 ≤ a) (h : a ≤ b) : (L a).length ≤ (L b).length := L_len h0 (Int.lt_of_le_of_lt h (L_lt (by omega)))
def bts (s : ByteArray) : List Int := s.data.toList.reverse.map fun b => (b.toNat : Int)
theorem bts_len (s : ByteArray) : (bts s).length = s.size := by unfold bts; rw [List.length_map, List.length_reverse, Array.length_toList]; rfl
theorem bts_byt (s : ByteArray) : Byt (bts s) := by
 intro x hx
 obtain ⟨b, _, rfl⟩ := List.mem_map.1 hx
 have := b.toNat_lt
 omega
theorem lev_bev (l : List UInt8) : lev (l.reverse.map fun b => (b.toNat : Int)) = (bev l : Int) := by
 refine snoc_ind (P := fun l => lev (l.reverse.map fun b => (b.toNat : Int)) = (bev l : Int)) ?_ ?_ l.length l rfl
 · rfl
 · intro a x ih
   rw [List.reverse_append, List.reverse_singleton, List.singleton_append, List.map_cons, lev, ih, bev_snoc]
   omega
theorem bts_lev (s : ByteArray) : lev (bts s) = B s := lev_bev _
theorem bts_at (s : ByteArray) (i : Nat) (b : Int) (r : List Int) (h : (bts s).drop i = b :: r) : i < s.size ∧ bt s (((s.size - 1 - i : Nat) : Int)) = b ∧ 0 ≤ b ∧ b < 256 ∧ (bts s).drop (i + 1) = r := by
 have hl := bts_len s
 have hi : i < (bts s).length := by
  rcases Nat.lt_or_ge i (bts s).length with h1 | h1
  · exact h1
  · rw [List.drop_of_length_le h1] at h; cases h
 have hs : i < s.size := by omega
 rw [← List.getElem_cons_drop hi] at h
 have h1 := (List.cons.inj h).1
 have h2 := (List.cons.inj h).2
 have hm : b ∈ bts s := h1 ▸ List.getElem_mem hi
 have hb := bts_byt s b hm
 refine ⟨hs, ?_, hb.1, hb.2, h2⟩
 rw [bt_get s _ (by omega), ← h1]
 simp only [bts, List.getElem_map, List.getElem_reverse, Array.length_toList]
 rfl
theorem bitor_comm (k : IntKind) (x y : Int) : Go.bits .or k x y = Go.bits .or k y x := by
 simp only [bits]
 rw [BitVec.or_comm]
theorem u32_in (n : Int) (h0 : 0 ≤ n) (h1 : n < 2 ^ 32) : IntKind.u32.wrap n = n := by rw [IntKind.wrap_u32]; omega
theorem or8 (j : Nat) (hj : j < 4) (x b y : Int) (hx0 : 0 ≤ x) (hx : x < 256 ^ j) (hb0 : 0 ≤ b) (hb : b < 256) (hy : y = 8 * (j : Int)) : Go.bits .or .u32 x (shl .u32 (b % 4294967296) y) = x + b * 256 ^ j := by
 subst hy
 have hbm : b % 4294967296 = b := by omega
 rw [hbm, bitor_comm]
 have : j = 0 ∨ j = 1 ∨ j = 2 ∨ j = 3 := by omega
 rcases this with rfl | rfl | rfl | rfl
 · have e : shl .u32 b (8 * ((0 : Nat) : Int)) = b := by unfold shl; rw [show b * 2 ^ min (8 * ((0 : Nat) : Int)).toNat IntKind.u32.bits = b by show b * 1 = b; omega]; exact u32_in b hb0 (by omega)
   have hx1 : x = 0 := by simp at hx; omega
   rw [e, hx1, bits_join .u32 32 (by decide) u32_in 0 b 0 hb0 (by omega) (by omega) (by omega) (by omega) (by omega)]
   omega
 · have e : shl .u32 b (8 * ((1 : Nat) : Int)) = b * 256 := by unfold shl; exact u32_in (b * 256) (by omega) (by omega)
   rw [e, bits_join .u32 32 (by decide) u32_in 8 (b * 256) x (by omega) (by omega) (by omega) (by omega) (by omega) (by omega)]
   omega
 · have e : shl .u32 b (8 * ((2 : Nat) : Int)) = b * 65536 := by unfold shl; exact u32_in (b * 65536) (by omega) (by omega)
   rw [e, bits_join .u32 32 (by decide) u32_in 16 (b * 65536) x (by omega) (by omega) (by omega) (by omega) (by omega) (by omega)]
   omega
 · have e : shl .u32 b (8 * ((3 : Nat) : Int)) = b * 16777216 := by unfold shl; exact u32_in (b * 16777216) (by omega) (by omega)
   rw [e, bits_join .u32 32 (by decide) u32_in 24 (b * 16777216) x (by omega) (by omega) (by omega) (by omega) (by omega) (by omega)]
   omega
theorem wdiv4 {i : Nat} (h : i ≤ 4000000000) : wrap64 (Int.tdiv (i : Int) 4) = ((i / 4 : Nat) : Int) := by
 rw [Int.tdiv_eq_ediv_of_nonneg (by omega), w64 (by omega) (by omega)]; omega
theorem wmod4 {i : Nat} (h : i ≤ 4000000000) : wrap64 (8 * Int.tmod (i : Int) 4) = 8 * ((i % 4 : Nat) : Int) := by
 rw [Int.tmod_eq_emod_of_nonneg (by omega), w64 (by omega) (by omega)]; omega
theorem wsub1 {n i : Nat} (h : i < n) (hn : n ≤ 4000000000) : wrap64 (wrap64 ((n : Int) - 1) - (i : Int)) = ((n - 1 - i : Nat) : Int) := by
 rw [w64 (n := (n : Int) - 1) (by omega) (by omega), w64 (by omega) (by omega)]; omega
theorem winc {i : Nat} (h : i ≤ 4000000000) : wrap64 ((i : Int) + 1) = ((i + 1 : Nat) : Int) := by rw [w64 (by omega) (by omega)]; omega
structure Pk (out : List Int) (i : Nat) (n : Int) : Prop where
 st : ∃ d x m, out ++ [0] = d ++ x :: List.replicate m 0 ∧ d.length = i / 4 ∧ Dig d ∧ 0 ≤ x ∧ x < 256 ^ (i % 4) ∧ n = val d + 4294967296 ^ d.length * x
theorem Pk.start (m : Nat) : Pk (List.replicate m 0) 0 0 := ⟨[], 0, m, by
 rw [List.nil_append, ← List.replicate_succ', List.replicate_succ], rfl, Dig.nil, by decide, by decide, by simp [val]⟩
theorem p256 (i : Nat) : (256 : Int) ^ (i % 4) * 4294967296 ^ (i / 4) = 256 ^ i := by
 have h1 : (4294967296 : Int) = 256 ^ 4 := by decide
 rw [h1, ← Int.pow_mul, ← Int.pow_add]
 congr 1
 omega
theorem Pk.next {out : List Int} {i : Nat} {n : Int} (h : Pk out i n) (hi : i / 4 < out.length) (b : Int) (hb0 : 0 ≤ b) (hb : b < 256) :
 Pk (out.set (i / 4) (Go.bits .or .u32 (rd out ((i / 4 : Nat) : Int)) (shl .u32 (b % 4294967296) (8 * ((i % 4 : Nat) : Int))))) (i + 1) (n + 256 ^ i * b) := by
 obtain ⟨d, x, m, he, hd, hdd, hx0, hx, hn⟩ := h.st
 have hlen := congrArg List.length he
 simp only [List.length_append, List.length_cons, List.length_replicate, List.length_nil] at hlen
 obtain ⟨m, rfl⟩ : ∃ q, m = q + 1 := ⟨m - 1, by omega⟩
 have ho : out = d ++ x :: List.replicate m 0 := by
  rw [List.replicate_succ', ← List.cons_append, ← List.append_assoc] at he
  exact List.append_cancel_right he
 have hor := or8 (i % 4) (by omega) x b (8 * ((i % 4 : Nat) : Int)) hx0 hx hb0 hb rfl
 have hr : rd out ((i / 4 : Nat) : Int) = x := by rw [ho]; exact rd_at _ _ _ _ (by omega)
 have hs : ∀ y, out.set (i / 4) y = d ++ y :: List.replicate m 0 := fun y => by
  rw [ho]
  have := set_at d x y (List.replicate m 0) ((i / 4 : Nat) : Int) (by omega)
  rwa [Int.toNat_natCast] at this
 rw [hr, hor, hs]
 have hp := p256 i
 have hnew : val d + 4294967296 ^ d.length * (x + b * 256 ^ (i % 4)) = n + 256 ^ i * b := by
  rw [hn, ← hp, hd, Int.mul_add]
  rw [show (4294967296 : Int) ^ (i / 4) * (b * 256 ^ (i % 4)) = 256 ^ (i % 4) * 4294967296 ^ (i / 4) * b by
   rw [Int.mul_comm b, ← Int.mul_assoc, Int.mul_comm (4294967296 ^ (i / 4))]]
  omega
 have hlt : x + b * 256 ^ (i % 4) < 256 ^ (i % 4 + 1) := by
  rw [Int.pow_succ]
  have : (0 : Int) < 256 ^ (i % 4) := Int.pow_pos (by decide)
  have h2 : b * 256 ^ (i % 4) ≤ 255 * 256 ^ (i % 4) := Int.mul_le_mul_of_nonneg_right (by omega) (by omega)
  omega
 have hge : 0 ≤ x + b * 256 ^ (i % 4) := by
  have : (0 : Int) < 256 ^ (i % 4) := Int.pow_pos (by decide)
  have h2 : 0 ≤ b * 256 ^ (i % 4) := Int.mul_nonneg hb0 (by omega)
  omega
 generalize x + b * 256 ^ (i % 4) = y at *
 by_cases h3 : i % 4 = 3
 · refine ⟨d ++ [y], 0, m, ?_, ?_, ?_, by decide, Int.pow_pos (by decide), ?_⟩
   · simp only [List.append_assoc, List.cons_append, List.nil_append]
     rw [← List.replicate_succ', List.replicate_succ]
   · rw [List.length_append, List.length_singleton]; omega
   · rw [h3] at hlt
     have h256 : (256 : Int) ^ (3 + 1) = 4294967296 := by decide
     exact hdd.app (Dig.cons hge (by omega) Dig.nil)
   · rw [val_app, ← hnew]
     simp [val]
 · refine ⟨d, y, m + 1, ?_, ?_, hdd, hge, ?_, hnew.symm⟩
   · rw [List.replicate_succ', ← List.cons_append, List.append_assoc]
   · omega
   · rw [show (i + 1) % 4 = i % 4 + 1 by omega]; exact hlt
theorem Pk.dig {out : List Int} {i : Nat} {n : Int} (h : Pk out i n) : Dig out ∧ val out = n := by
 obtain ⟨d, x, m, he, hd, hdd, hx0, hx, hn⟩ := h.st
 have hxl : x < 4294967296 := by
  have : i % 4 = 0 ∨ i % 4 = 1 ∨ i % 4 = 2 ∨ i % 4 = 3 := by omega
  rcases this with h | h | h | h <;> rw [h] at hx <;> simp at hx <;> omega
 have h1 : Dig (out ++ [0]) := by rw [he]; exact hdd.app (Dig.cons hx0 hxl (Dig.zeros m))
 refine ⟨h1.left, ?_⟩
 have h2 : val (out ++ [0]) = val out := by rw [val_app]; simp [val]
 rw [← h2, he, val_app, hn]
 simp only [val, val_zeros]
 rw [Int.mul_zero, Int.add_zero]
theorem parse_loop (s : ByteArray) (hs : s.size ≤ 1000000000) (r : List Int) : ∀ (i : Nat) (out : List Int) (n : Int), (bts s).drop i = r → i ≤ s.size → out.length = (s.size + 3) / 4 → Pk out i n →
 Ev (fun k => natural_parse.l0 k s out (s.size : Int) (i : Int)) (L (n + 256 ^ i * lev r)) := by
 induction r with
 | nil =>
  intro i out n hr hi hl hp
  have hi2 : i = s.size := by
   have := congrArg List.length hr
   rw [List.length_drop, bts_len] at this
   simp at this; omega
  obtain ⟨hd, hv⟩ := hp.dig
  refine Ev.step (f := fun k => (natural_limbs_trim.f k out).bind fun t => some t) (fun k => ?_) ?_
  · simp only [natural_parse.l0]
    rw [if_neg (by omega)]
  · refine Ev.bind (trim_ev out (by omega)) ?_
    rw [tr_L hd, hv]
    simp only [lev, Int.mul_zero, Int.add_zero]
    exact Ev.now _
 | cons b r ih =>
  intro i out n hr hi hl hp
  obtain ⟨h1, h2, h3, h4, h5⟩ := bts_at s i b r hr
  have hn := hp.next (by omega) b h3 h4
  have ih := ih (i + 1) _ _ h5 (by omega) (by rw [List.length_set]; exact hl) hn
  have e : n + 256 ^ i * lev (b :: r) = n + 256 ^ i * b + 256 ^ (i + 1) * lev r := by
   rw [lev, Int.pow_succ, Int.mul_add, ← Int.mul_assoc]
   omega
  rw [e]
  clear e hn
  refine Ev.step (fun k => ?_) ih
  simp only [natural_parse.l0]
  rw [wdiv4 (by omega), wmod4 (by omega), wsub1 (by omega) (by omega), winc (by omega), h2, Int.toNat_natCast, if_pos (by omega), if_pos (by omega), if_pos (by omega), if_pos (by omega), if_pos (by omega), if_pos (by omega)]
theorem parse_ev (s : ByteArray) (hs : s.size ≤ 1000000000) : Ev (fun k => natural_parse.f k s) (L (B s)) := by
 have e : wrap64 (Int.tdiv (wrap64 (wrap64 ((s.size : Int) + 4) - 1)) 4) = (((s.size + 3) / 4 : Nat) : Int) := by
  rw [w64 (n := (s.size : Int) + 4) (by omega) (by omega), w64 (n := (s.size : Int) + 4 - 1) (by omega) (by omega), Int.tdiv_eq_ediv_of_nonneg (by omega), w64 (by omega) (by omega)]; omega
 have h := parse_loop s hs (bts s) 0 (List.replicate ((s.size + 3) / 4) 0) 0 rfl (Nat.zero_le _) List.length_replicate (Pk.start _)
 rw [bts_lev] at h
 have e2 : (0 : Int) + 256 ^ 0 * B s = B s := by simp
 rw [e2] at h
 refine Ev.congr (fun k => ?_) h
 simp only [natural_parse.f]
 rw [e, Int.toNat_natCast, if_pos (by omega), if_pos (by omega)]
 rfl
end Go.Proofs.YtjaflmhdclmolaaDoor.Num
end
section
namespace Go.Proofs.YtjaflmhdclmolaaDoor.F
open Go.RowKit Go.Proofs.YtjaflmhdclmolaaDoorW.PrintWords Go.Proofs.YtjaflmhdclmolaaDoorW.PrintLast Go.Proofs.YtjaflmhdclmolaaDoorW.PrintMore
attribute [local go_sem] max2_int min2_int max_two min_two max_three min_three max_four min_four   
set_option linter.unusedVariables false
set_option linter.unusedSimpArgs false
def insolvencyref1_NatCompare.f (k : Nat) (a0 : ByteArray) (a1 : ByteArray) : Option (Int) := (insolvencyref1_limbs.f k a0).bind fun t542 => ((insolvencyref1_limbs.f k a1).bind fun t545 => ((insolvencyref1_order.f k t542 t545).bind fun t548 => (some t548)))
theorem insolvencyref1_NatCompare.mono : ∀ a0 a1 k, LeO (insolvencyref1_NatCompare.f k a0 a1) (insolvencyref1_NatCompare.f (k + 1) a0 a1) := by
 intro a0 a1 k
 unfold insolvencyref1_NatCompare.f
 repeat' first
  | (with_reducible exact insolvencyref1_limbs.mono _ _)
  | (with_reducible exact insolvencyref1_order.mono _ _ _)
  | (with_reducible exact LeO.refl _)
  | (with_reducible exact LeO.none _)
  | (with_reducible refine LeO.ite ?_ ?_)
  | (with_reducible refine LeO.bind ?_ (fun _ => ?_))
  | exact insolvencyref1_limbs.mono _ _
  | exact insolvencyref1_order.mono _ _ _
  | exact LeO.none _
  | refine LeO.ite ?_ ?_
  | refine LeO.bind ?_ (fun _ => ?_)
set_option maxHeartbeats 8000000 in
set_option maxRecDepth 100000 in
theorem insolvencyref1_NatCompare.calls (k : Nat) (a0 : ByteArray) (a1 : ByteArray) (r : Int) (w : World) (h : insolvencyref1_NatCompare.f k a0 a1 = some r) :
 Calls Tryd.prog 32 #[.string a0, .string a1] w fun e w' => e = .returned (.int .i64 r) ∧ Below w.heap.size w w' := by
 have HB := Aside0.mk (Below.refl w.heap.size w)
 have H : ((insolvencyref1_limbs.f k a0).bind fun t542 => ((insolvencyref1_limbs.f k a1).bind fun t545 => ((insolvencyref1_order.f k t542 t545).bind fun t548 => (some t548)))) = some r := h
 clear h
 replace H := Option.bind_eq_some_iff.mp H
 obtain ⟨t542, A30, H⟩ := H
 replace H : ((insolvencyref1_limbs.f k a1).bind fun t545 => ((insolvencyref1_order.f k t542 t545).bind fun t548 => (some t548))) = some r := H
 have A3 := Aside0.mk A30
 clear A30
 replace H := Option.bind_eq_some_iff.mp H
 obtain ⟨t545, A40, H⟩ := H
 replace H : ((insolvencyref1_order.f k t542 t545).bind fun t548 => (some t548)) = some r := H
 have A4 := Aside0.mk A40
 clear A40
 replace H := Option.bind_eq_some_iff.mp H
 obtain ⟨t548, A50, H⟩ := H
 replace H : (some t548) = some r := H
 have A5 := Aside0.mk A50
 clear A50
 obtain rfl := Option.some.inj H
 go_enter Tryd.func32, Tryd.ntmps32
 go_wp2_with (first | ((with_reducible refine gate_callee (f := 45) rfl ?_); refine goesL_ (some 6) rfl rfl Tryd.func45 (by kernel_rfl) rfl #[.string a0] rfl (by (try simp only [List.map_toArray, List.map_cons, List.map_nil]); first | done | rfl | (simp only [List.length_drop, List.length_take]; rfl)) ?_; (with_reducible refine (insolvencyref1_limbs.calls k a0 t542 _ A3.out).mono ?_); rintro e w6 ⟨v543, rfl, ho0, hb⟩; refine ⟨_, rfl, ?_⟩; have n0_ := Aside0.mk (Kd.R_lower ho0 (below_size (by repeat (first | (with_reducible first | exact HB.out | apply below_alloc | apply pw_below_drewN | apply below_drew1) | exact HB.out)))); have n1_ := Aside0.mk (below_step (by repeat (first | (with_reducible first | exact HB.out | apply below_alloc | apply pw_below_drewN | apply below_drew1) | exact HB.out)) hb); clear HB; have HO544 := n0_; have HB := n1_; clear n0_ n1_; (try clear hb); (try clear hb2); (try clear hk); (try clear hi); (try clear ho0)) | ((with_reducible refine gate_callee (f := 45) rfl ?_); refine goesL_ (some 8) rfl rfl Tryd.func45 (by kernel_rfl) rfl #[.string a1] rfl (by (try simp only [List.map_toArray, List.map_cons, List.map_nil]); first | done | rfl | (simp only [List.length_drop, List.length_take]; rfl)) ?_; (with_reducible refine (insolvencyref1_limbs.calls k a1 t545 _ A4.out).mono ?_); rintro e w7 ⟨v546, rfl, ho0, hb⟩; refine ⟨_, rfl, ?_⟩; have n0_ := Aside0.mk (Kd.R_elder' (by (with_reducible repeat (first | apply Kd.R_alloc | apply Kd.R_drewN | apply Kd.R_drew)); exact HO544.out) (Kd.R_base ho0) hb); have n1_ := Aside0.mk (Kd.R_lower (Kd.R_new' ho0 (Kd.R_lt (by (with_reducible repeat (first | apply Kd.R_alloc | apply Kd.R_drewN | apply Kd.R_drew)); exact HO544.out))) (below_size (by repeat (first | (with_reducible first | exact HB.out | apply below_alloc | apply pw_below_drewN | apply below_drew1) | exact HB.out)))); have n2_ := Aside0.mk (below_step (by repeat (first | (with_reducible first | exact HB.out | apply below_alloc | apply pw_below_drewN | apply below_drew1) | exact HB.out)) hb); clear HO544; clear HB; have HO544 := n0_; have HO547 := n1_; have HB := n2_; clear n0_ n1_ n2_; (try clear hb); (try clear hb2); (try clear hk); (try clear hi); (try clear ho0); obtain ⟨Ao8, co8, eo8⟩ := Kd.R_slice HO544.out; subst eo8; obtain ⟨Ao9, co9, eo9⟩ := Kd.R_slice HO547.out; subst eo9) | ((with_reducible refine gate_callee (f := 60) rfl ?_); refine goesL_ (some 9) rfl rfl Tryd.func60 (by kernel_rfl) rfl #[.slice Ao8 t542.length co8, .slice Ao9 t545.length co9] rfl (by (try simp only [List.map_toArray, List.map_cons, List.map_nil]); first | done | rfl | (simp only [List.length_drop, List.length_take]; rfl)) ?_; (with_reducible refine (insolvencyref1_order.calls k _ _ t542 _ _ t545 t548 _ ?side1 ?side2 ?side3 ?side4 A5.out).mono ?_); (case side1 => repeat (first | exact (Kd.R_reads' HO544.out).2.2 | (with_reducible refine Kd.C_alloc ?_ _) | (with_reducible refine Kd.C_drewN ?_ _) | (with_reducible refine Kd.C_drew ?_))); (case side2 => exact (Kd.R_reads' HO544.out).2.1); (case side3 => repeat (first | exact (Kd.R_reads' HO547.out).2.2 | (with_reducible refine Kd.C_alloc ?_ _) | (with_reducible refine Kd.C_drewN ?_ _) | (with_reducible refine Kd.C_drew ?_))); (case side4 => exact (Kd.R_reads' HO547.out).2.1); rintro e w' ⟨rfl, ⟨nd, rfl⟩⟩; refine ⟨_, rfl, ?_⟩))
 go_ret
 exact ⟨by first | rfl | (simp [errW_none, errW_some] <;> rfl) | (simp [*, errW_none, errW_some] <;> rfl), by repeat (first | (with_reducible first | exact HB.out | apply below_alloc | apply pw_below_drewN | apply below_drew1) | exact HB.out)⟩
end Go.Proofs.YtjaflmhdclmolaaDoor.F
end
section
namespace Go.Proofs.YtjaflmhdclmolaaDoor.Num
open Go.RowKit Go.Proofs.YtjaflmhdclmolaaDoorW.PrintWords Go.Proofs.YtjaflmhdclmolaaDoorW.PrintLast Go.Proofs.YtjaflmhdclmolaaDoorW.PrintMore Go.Proofs.YtjaflmhdclmolaaDoor.F
set_option linter.unusedVariables false
theorem rd_cons_succ (x : Int) (l : List Int) (i : Nat) : rd (x :: l) ((i + 1 : Nat) : Int) = rd l (i : Int) := by
 unfold rd
 rw [Int.toNat_natCast, Int.toNat_natCast]
 rfl
theorem leb_at (l : List Int) : ∀ (i : Nat) (y : Int) (r : List Int), (leb l).drop i = y :: r → shr .u32 (rd l ((i / 4 : Nat) : Int)) (8 * ((i % 4 : Nat) : Int)) % 256 = y ∧ i < 4 * l.length := by
 induction l with
 | nil => intro i y r h; simp [leb] at h
 | cons x l ih =>
  intro i y r h
  by_cases h4 : 4 ≤ i
  · obtain ⟨j, rfl⟩ : ∃ j, i = j + 4 := ⟨i - 4, by omega⟩
    have h2 : (leb l).drop j = y :: r := h
    obtain ⟨h3, h5⟩ := ih j y r h2
    refine ⟨?_, by simp only [List.length_cons]; omega⟩
    rw [show (j + 4) / 4 = j / 4 + 1 by omega, show (j + 4) % 4 = j % 4 by omega, rd_cons_succ]
    exact h3
  · have : i = 0 ∨ i = 1 ∨ i = 2 ∨ i = 3 := by omega
    refine ⟨?_, by simp only [List.length_cons]; omega⟩
    rcases this with rfl | rfl | rfl | rfl
    · have h2 : x % 256 = y := (List.cons.inj h).1
      show x / 1 % 256 = y
      rw [Int.ediv_one]; exact h2
    · exact (List.cons.inj h).1
    · exact (List.cons.inj h).1
    · exact (List.cons.inj h).1
theorem text_loop (l : List Int) (hd : Dig l) (hl : l.length ≤ 1000000) (r : List Int) : ∀ (i : Nat) (b : List Int), (leb l).drop i = r → i ≤ 4 * l.length →
 Ev (fun k => natural_limbs_text.l0 k l (List.replicate r.length 0 ++ ((leb l).take i).reverse) ((4 * l.length : Nat) : Int) (i : Int)) (S (val l)) := by
 induction r with
 | nil =>
  intro i b hr hi
  have hlen := leb_len l
  have h2 := congrArg List.length hr
  rw [List.length_drop] at h2
  simp only [List.length_nil] at h2
  refine Ev.step (f := fun k => (natural_Normalize.f (strOfNums (leb l).reverse)).bind fun t => some t) (fun k => ?_) ?_
  · simp only [natural_limbs_text.l0]
    rw [if_neg (by omega), List.take_of_length_le (by omega)]
    rfl
  · rw [normalize_eq, B_nums (leb_byt l), leb_lev hd]
    exact Ev.now _
 | cons y r ih =>
  intro i b hr hi
  have hlen := leb_len l
  obtain ⟨h1, h2⟩ := leb_at l i y r hr
  have hi2 : i < (leb l).length := by omega
  have h3 := hr
  rw [← List.getElem_cons_drop hi2] at h3
  have h4 := (List.cons.inj h3).1
  have h5 := (List.cons.inj h3).2
  have h6 : (leb l).take (i + 1) = (leb l).take i ++ [y] := by rw [List.take_succ_eq_append_getElem hi2, h4]
  have h7 := congrArg List.length h5
  rw [List.length_drop, hlen] at h7
  have ih := ih (i + 1) b h5 (by omega)
  refine Ev.step (fun k => ?_) ih
  have hX : (List.replicate (y :: r).length (0 : Int) ++ ((leb l).take i).reverse).length = 4 * l.length := by
   rw [List.length_append, List.length_replicate, List.length_reverse, List.length_take, List.length_cons]; omega
  have hS : (List.replicate (y :: r).length (0 : Int) ++ ((leb l).take i).reverse).set r.length y = List.replicate r.length 0 ++ ((leb l).take (i + 1)).reverse := by
   rw [List.length_cons, List.replicate_succ', List.append_assoc, List.singleton_append]
   have := set_at (List.replicate r.length 0) 0 y ((leb l).take i).reverse (r.length : Int) (by rw [List.length_replicate])
   rw [Int.toNat_natCast] at this
   rw [this, h6, List.reverse_append, List.reverse_singleton, List.singleton_append]
  simp only [natural_limbs_text.l0]
  rw [hX, wdiv4 (by omega), wmod4 (by omega), wsub1 (by omega) (by omega), winc (by omega), Int.toNat_natCast, h1, show 4 * l.length - 1 - i = r.length by omega, hS]
  clear hS hX h6 h3 h4 h5 hr h1
  rw [if_pos (by omega), if_pos (by omega), if_pos (by omega), if_pos (by omega), if_pos (by omega), if_pos (by omega)]
theorem text_ev {l : List Int} (hd : Dig l) (hl : l.length ≤ 1000000) : Ev (fun k => natural_limbs_text.f k l) (S (val l)) := by
 have h := text_loop l hd hl (leb l) 0 [] rfl (Nat.zero_le _)
 have e : wrap64 ((l.length : Int) * 4) = ((4 * l.length : Nat) : Int) := by rw [w64 (by omega) (by omega)]; omega
 rw [leb_len, List.take_zero, List.reverse_nil, List.append_nil] at h
 refine Ev.congr (fun k => ?_) h
 simp only [natural_limbs_text.f]
 rw [e, Int.toNat_natCast, if_pos (by omega), if_pos (by omega), Option.bind_some, List.length_replicate]
 rfl
theorem text_L {n : Int} (h0 : 0 ≤ n) (hl : (L n).length ≤ 1000000) : Ev (fun k => natural_limbs_text.f k (L n)) (S n) := by
 have := text_ev (L_dig h0) hl
 rwa [L_val h0] at this
def sgn (a b : Int) : Int := if a < b then -1 else if a = b then 0 else 1
theorem sgn_lt {a b : Int} : sgn a b < 0 ↔ a < b := by unfold sgn; split <;> (try split) <;> omega
theorem cmp_top {d1 d2 t : List Int} {x y : Int} (h1 : Dig d1) (h2 : Dig d2) (hl : d1.length = d2.length) (h : x < y) : val (d1 ++ x :: t) < val (d2 ++ y :: t) := by
 rw [val_app, val_app, ← hl]
 have g1 := val_lt h1
 have g2 := val_nonneg h2
 have g3 := Int.mul_le_mul_of_nonneg_left (show x + 1 ≤ y by omega) (Int.le_of_lt (pw d1.length))
 simp only [val, Int.mul_add, Int.mul_one] at g3 ⊢
 omega
theorem drop_split {l : List Int} {i : Nat} (h : i < l.length) : ∃ x, l = l.take i ++ x :: l.drop (i + 1) ∧ rd l (i : Int) = x ∧ (l.take i).length = i ∧ l.drop i = x :: l.drop (i + 1) := by
 have h1 : l.drop i = l[i] :: l.drop (i + 1) := (List.getElem_cons_drop h).symm
 refine ⟨l[i], by rw [← h1, List.take_append_drop], ?_, by rw [List.length_take]; omega, h1⟩
 unfold rd
 rw [Int.toNat_natCast, List.getD_eq_getElem?_getD, List.getElem?_eq_getElem h]
 rfl
theorem compare_loop (a b : List Int) (ha : Dig a) (hb : Dig b) (hl : a.length = b.length) (hs : a.length ≤ 1000000) (i : Nat) : i ≤ a.length → a.drop i = b.drop i → Ev (fun k => natural_compare.l0 k a b ((i : Int) - 1)) (sgn (val a) (val b)) := by
 induction i with
 | zero =>
  intro _ h
  have h2 : a = b := h
  refine Ev.step (f := fun k => some (sgn (val a) (val b))) (fun k => ?_) (Ev.now _)
  simp only [natural_compare.l0]
  rw [if_neg (by omega), h2]
  unfold sgn
  rw [if_neg (by omega), if_pos rfl]
 | succ i ih =>
  intro hi h
  obtain ⟨x, ex, rx, lx, dx⟩ := drop_split (l := a) (i := i) (by omega)
  obtain ⟨y, ey, ry, ly, dy⟩ := drop_split (l := b) (i := i) (by omega)
  have e1 : ((i + 1 : Nat) : Int) - 1 = (i : Int) := by omega
  by_cases hxy : x = y
  · have ih := ih (by omega) (by rw [dx, dy, hxy, h])
    refine Ev.step (fun k => ?_) ih
    simp only [natural_compare.l0]
    rw [e1, rx, ry, if_pos (by omega), if_pos (by omega), if_pos (by omega), if_pos (by omega), if_pos hxy, w64 (by omega) (by omega)]
  · refine Ev.step (f := fun k => some (sgn (val a) (val b))) (fun k => ?_) (Ev.now _)
    simp only [natural_compare.l0]
    rw [e1, rx, ry, if_pos (by omega), if_pos (by omega), if_pos (by omega), if_pos (by omega), if_neg hxy]
    by_cases hlt : x < y
    · have g := cmp_top (t := a.drop (i + 1)) (ha.take i) (hb.take i) (by rw [lx, ly]) hlt
      rw [← ex, h, ← ey] at g
      unfold sgn
      rw [if_pos hlt, if_pos g]
    · have g := cmp_top (t := a.drop (i + 1)) (hb.take i) (ha.take i) (by rw [lx, ly]) (show y < x by omega)
      rw [← ex, h, ← ey] at g
      unfold sgn
      rw [if_neg hlt, if_neg (by omega), if_neg (by omega)]
theorem sgn_len {a b : Int} (ha : 0 ≤ a) (hb : 0 ≤ b) (h : (L a).length ≠ (L b).length) : sgn a b = if (L a).length < (L b).length then -1 else 1 := by
 unfold sgn
 by_cases hlt : (L a).length < (L b).length
 · have : ¬ b ≤ a := fun h2 => by have := L_mono hb h2; omega
   rw [if_pos hlt, if_pos (by omega)]
 · have : ¬ a ≤ b := fun h2 => by have := L_mono ha h2; omega
   rw [if_neg hlt, if_neg (by omega), if_neg (by omega)]
theorem sign_eq (n : Int) : natural_sign.f n = some (if n < 0 then -1 else if n > 0 then 1 else 0) := by
 unfold natural_sign.f
 split
 · rfl
 · split <;> rfl
theorem compare_ev {a b : Int} (ha : 0 ≤ a) (hb : 0 ≤ b) (hla : (L a).length ≤ 1000000) (hlb : (L b).length ≤ 1000000) : Ev (fun k => natural_compare.f k (L a) (L b)) (sgn a b) := by
 unfold natural_compare.f
 by_cases h : (L a).length = (L b).length
 · refine Ev.ite (by omega) ?_
   have g := compare_loop (L a) (L b) (L_dig ha) (L_dig hb) h hla (L a).length (Nat.le_refl _) (by rw [List.drop_length, h, List.drop_length])
   rw [L_val ha, L_val hb] at g
   rw [w64 (by omega) (by omega)]
   exact g
 · refine Ev.ite_not (by omega) ?_
   rw [sgn_len ha hb h, w64 (by omega) (by omega), sign_eq, Option.bind_some]
   by_cases hlt : (L a).length < (L b).length
   · rw [if_pos (by omega), if_pos hlt]; exact Ev.now _
   · rw [if_neg (by omega), if_pos (by omega), if_neg hlt]; exact Ev.now _
theorem B_small {s : ByteArray} {m : Nat} (h : s.size ≤ 4 * m) : (L (B s)).length ≤ m := by
 refine L_len (B_nonneg s) (Int.lt_of_lt_of_le (B_lt s) ?_)
 rw [show (4294967296 : Int) = 256 ^ 4 by decide, ← Int.pow_mul]
 have e1 : ((256 ^ s.size : Nat) : Int) = (256 : Int) ^ s.size := Int.natCast_pow 256 _
 have e2 : ((256 ^ (4 * m) : Nat) : Int) = (256 : Int) ^ (4 * m) := Int.natCast_pow 256 _
 rw [← e1, ← e2]
 exact Int.ofNat_le.2 (Nat.pow_le_pow_right (by decide) h)
theorem bev_cons (x : UInt8) (l : List UInt8) : bev (x :: l) = x.toNat * 256 ^ l.length + bev l := by
 refine snoc_ind (P := fun l => bev (x :: l) = x.toNat * 256 ^ l.length + bev l) ?_ ?_ l.length l rfl
 · show 0 * 256 + x.toNat = x.toNat * 1 + 0; omega
 · intro a y ih
   rw [← List.cons_append, bev_snoc, ih, bev_snoc, List.length_append, List.length_singleton, Nat.pow_succ, Nat.add_mul, ← Nat.mul_assoc]
   omega
theorem cmpB (a : List UInt8) : ∀ b : List UInt8, a.length = b.length → Lib.compareBytes a b = sgn (bev a) (bev b) := by
 induction a with
 | nil =>
  intro b h
  cases b with
  | nil => rfl
  | cons y b => simp at h
 | cons x a ih =>
  intro b h
  cases b with
  | nil => simp at h
  | cons y b =>
   have hl : a.length = b.length := by simpa using h
   have ih := ih b hl
   have g1 := bev_lt a
   have g2 := bev_lt b
   unfold Lib.compareBytes
   rw [bev_cons, bev_cons, hl]
   rw [hl] at g1
   by_cases h1 : x < y
   · rw [if_pos h1]
     have h2 : x.toNat < y.toNat := h1
     have h3 : (x.toNat + 1) * 256 ^ b.length ≤ y.toNat * 256 ^ b.length := Nat.mul_le_mul_right _ h2
     rw [Nat.add_mul] at h3
     unfold sgn
     rw [if_pos (by omega)]
   · rw [if_neg h1]
     by_cases h2 : y < x
     · rw [if_pos h2]
       have h2 : y.toNat < x.toNat := h2
       have h3 : (y.toNat + 1) * 256 ^ b.length ≤ x.toNat * 256 ^ b.length := Nat.mul_le_mul_right _ h2
       rw [Nat.add_mul] at h3
       unfold sgn
       rw [if_neg (by omega), if_neg (by omega)]
     · rw [if_neg h2, ih]
       have h4 : x.toNat = y.toNat := Nat.le_antisymm (UInt8.not_lt.1 h2) (UInt8.not_lt.1 h1)
       rw [h4]
       unfold sgn
       generalize y.toNat * 256 ^ b.length = p
       by_cases q1 : (bev a : Int) < bev b
       · rw [if_pos q1, if_pos (by omega)]
       · by_cases q2 : (bev a : Int) = bev b
         · rw [if_neg q1, if_pos q2, if_neg (by omega), if_pos (by omega)]
         · rw [if_neg q1, if_neg q2, if_neg (by omega), if_neg (by omega)]
theorem S_mono {a b : Int} (hb : 0 ≤ b) (h : a ≤ b) : (S a).size ≤ (S b).size := by
 refine S_size (Int.lt_of_le_of_lt h ?_)
 have := B_lt (S b)
 rwa [B_S hb] at this
theorem Compare_eq (a b : ByteArray) (ha : a.size ≤ 1000000000000000) (hb : b.size ≤ 1000000000000000) : natural_Compare.f a b = some (sgn (B a) (B b)) := by
 have h1 := S_size (B_lt a)
 have h2 := S_size (B_lt b)
 have h3 := B_nonneg a
 have h4 := B_nonneg b
 unfold natural_Compare.f
 rw [normalize_eq, Option.bind_some, normalize_eq, Option.bind_some]
 by_cases h : (S (B a)).size = (S (B b)).size
 · rw [if_pos (by omega)]
   unfold strings_Compare.f
   rw [Option.bind_some, cmpB _ _ (by rw [Array.length_toList, Array.length_toList]; exact h)]
   show some (sgn (B (S (B a))) (B (S (B b)))) = _
   rw [B_S h3, B_S h4]
 · rw [if_neg (by omega), w64 (by omega) (by omega), sign_eq, Option.bind_some]
   unfold sgn
   by_cases hlt : (S (B a)).size < (S (B b)).size
   · have : ¬ B b ≤ B a := fun q => by have := S_mono h3 q; omega
     rw [if_pos (by omega), if_pos (by omega)]
   · have : ¬ B a ≤ B b := fun q => by have := S_mono h4 q; omega
     rw [if_neg (by omega), if_pos (by omega), if_neg (by omega), if_neg (by omega)]
theorem few_loop (l : List ByteArray) (hl : l.length ≤ 1000) (r : List ByteArray) : ∀ i : Nat, l.drop i = r → i ≤ l.length → Ev (fun k => insolvencylaw1_few.l0 k l (l.length : Int) (i : Int)) (r.all fun s => decide (s.size ≤ 60)) := by
 induction r with
 | nil =>
  intro i h hi
  have h2 := congrArg List.length h
  rw [List.length_drop, List.length_nil] at h2
  refine Ev.step (f := fun _ => some true) (fun k => ?_) (Ev.now _)
  simp only [insolvencylaw1_few.l0]
  rw [if_neg (by omega)]
 | cons s r ih =>
  intro i h hi
  have hlt : i < l.length := by
   rcases Nat.lt_or_ge i l.length with q | q
   · exact q
   · rw [List.drop_of_length_le q] at h; cases h
  rw [← List.getElem_cons_drop hlt] at h
  have h1 := (List.cons.inj h).1
  have h2 := (List.cons.inj h).2
  have hr : rdOf ByteArray.empty l (i : Int) = s := by
   unfold rdOf
   rw [Int.toNat_natCast, List.getD_eq_getElem?_getD, List.getElem?_eq_getElem hlt, h1]
   rfl
  by_cases hs : s.size ≤ 60
  · have ih := ih (i + 1) h2 (by omega)
    rw [List.all_cons, decide_eq_true hs, Bool.true_and]
    refine Ev.step (fun k => ?_) ih
    simp only [insolvencylaw1_few.l0]
    rw [hr, if_pos (by omega), if_pos (by omega), if_pos (by omega), if_neg (by omega), winc (by omega)]
  · rw [List.all_cons, decide_eq_false hs, Bool.false_and]
    refine Ev.step (f := fun _ => some false) (fun k => ?_) (Ev.now _)
    simp only [insolvencylaw1_few.l0]
    rw [hr, if_pos (by omega), if_pos (by omega), if_pos (by omega), if_pos (by omega)]
theorem few_ev (l : List ByteArray) (hl : l.length ≤ 1000) : Ev (fun k => insolvencylaw1_few.f k l) (l.all fun s => decide (s.size ≤ 60)) := few_loop l hl l 0 rfl (Nat.zero_le _)
end Go.Proofs.YtjaflmhdclmolaaDoor.Num
end
section
namespace Go.Proofs.YtjaflmhdclmolaaDoor.F
open Go.RowKit Go.Proofs.YtjaflmhdclmolaaDoorW.PrintWords Go.Proofs.YtjaflmhdclmolaaDoorW.PrintLast Go.Proofs.YtjaflmhdclmolaaDoorW.PrintMore
attribute [local go_sem] max2_int min2_int max_two min_two max_three min_three max_four min_four   
set_option linter.unusedVariables false
set_option linter.unusedSimpArgs false
def natural_subtract.l0 : Nat → List Int → List Int → List Int → Int → Int → Int → Option (List Int)
 | 0, _, _, _, _, _, _ => none
 | k + 1, x0, x1, x5, x6, x13, x14 => if x14 < x13 then (if x14 < (x1.length : Int) then (if 0 ≤ x14 then (if x14 < (x0.length : Int) then ((bits_Sub32.f (rd x0 x14) (rd x1 x14) x6).bind fun bt632 => (if x14 < (x5.length : Int) then (natural_subtract.l0 k x0 x1 (x5.set (x14 : Int).toNat bt632.1) bt632.2 x13 (wrap64 (x14 + 1))) else (none))) else (none)) else (none)) else (if 0 ≤ x14 then (if x14 < (x0.length : Int) then ((bits_Sub32.f (rd x0 x14) 0 x6).bind fun bt636 => (if x14 < (x5.length : Int) then (natural_subtract.l0 k x0 x1 (x5.set (x14 : Int).toNat bt636.1) bt636.2 x13 (wrap64 (x14 + 1))) else (none))) else (none)) else (none))) else ((natural_limbs_trim.f k x5).bind fun t639 => (some t639))
def natural_subtract.f (k : Nat) (l0 : List Int) (l1 : List Int) : Option (List Int) := if 0 ≤ (l0.length : Int) then (if ((l0.length : Int) : Int).toNat ≤ 70368744177664 then (natural_subtract.l0 k l0 l1 (List.replicate ((l0.length : Int) : Int).toNat 0) 0 (l0.length : Int) 0) else (none)) else (none)
theorem natural_subtract.mono_l : ∀ k, (∀ y0 y1 y2 y3 y4 y5, LeO (natural_subtract.l0 k y0 y1 y2 y3 y4 y5) (natural_subtract.l0 (k + 1) y0 y1 y2 y3 y4 y5))
 | 0 => fun _ _ _ _ _ _ r h => by simp [natural_subtract.l0] at h
 | k + 1 => by
  have ih0 := natural_subtract.mono_l k
  · intro y0 y1 y2 y3 y4 y5
    unfold natural_subtract.l0
    repeat' first
    | (with_reducible exact ih0 _ _ _ _ _ _)
    | (with_reducible exact natural_limbs_trim.mono _ _)
    | (with_reducible exact LeO.refl _)
    | (with_reducible exact LeO.none _)
    | (with_reducible refine LeO.ite ?_ ?_)
    | (with_reducible refine LeO.bind ?_ (fun _ => ?_))
    | exact ih0 _ _ _ _ _ _
    | exact natural_limbs_trim.mono _ _
    | exact LeO.none _
    | refine LeO.ite ?_ ?_
    | refine LeO.bind ?_ (fun _ => ?_)
theorem natural_subtract.mono : ∀ a0 a1 k, LeO (natural_subtract.f k a0 a1) (natural_subtract.f (k + 1) a0 a1) := by
 intro a0 a1 k
 have ih0 := natural_subtract.mono_l k
 unfold natural_subtract.f
 repeat' first
  | (with_reducible exact ih0 _ _ _ _ _ _)
  | (with_reducible exact natural_limbs_trim.mono _ _)
  | (with_reducible exact LeO.refl _)
  | (with_reducible exact LeO.none _)
  | (with_reducible refine LeO.ite ?_ ?_)
  | (with_reducible refine LeO.bind ?_ (fun _ => ?_))
  | exact ih0 _ _ _ _ _ _
  | exact natural_limbs_trim.mono _ _
  | exact LeO.none _
  | refine LeO.ite ?_ ?_
  | refine LeO.bind ?_ (fun _ => ?_)
set_option maxHeartbeats 8000000 in
set_option maxRecDepth 100000 in
theorem natural_subtract.calls (k : Nat) (A0 : Option Addr) (c0 : Nat) (l0 : List Int) (A1 : Option Addr) (c1 : Nat) (l1 : List Int) (r : List Int) (w : World) (hr0 : Kd.C (Kd.int .u32) w A0 l0.length l0) (hc0 : l0.length ≤ c0) (hr1 : Kd.C (Kd.int .u32) w A1 l1.length l1) (hc1 : l1.length ≤ c1) (h : natural_subtract.f k l0 l1 = some r) :
 Calls Tryd.prog 63 #[.slice A0 l0.length c0, .slice A1 l1.length c1] w fun e w' => ∃ v0_ : Value, e = .returned (v0_) ∧ Kd.R (Kd.int .u32) 60 w' w.heap.size (fun _ => True) v0_ r ∧ Below w.heap.size w w' := by
 have HR0 := Aside0.mk hr0
 have HC0 := Aside0.mk hc0
 clear hr0 hc0
 have HR1 := Aside0.mk hr1
 have HC1 := Aside0.mk hc1
 clear hr1 hc1
 have HB := Aside0.mk (Below.refl w.heap.size w)
 have H : (if 0 ≤ (l0.length : Int) then (if ((l0.length : Int) : Int).toNat ≤ 70368744177664 then (natural_subtract.l0 k l0 l1 (List.replicate ((l0.length : Int) : Int).toNat 0) 0 (l0.length : Int) 0) else (none)) else (none)) = some r := h
 clear h
 by_cases c3 : 0 ≤ (l0.length : Int)
 · rw [if_pos c3] at H
   have c3b0 := eq_true c3
   have c3b1 : decide (0 ≤ (l0.length : Int)) = true := decide_eq_true c3
   clear c3
   by_cases c4 : ((l0.length : Int) : Int).toNat ≤ 70368744177664
   · rw [if_pos c4] at H
     have c4b0 := eq_true c4
     have c4b1 : decide (((l0.length : Int) : Int).toNat ≤ 70368744177664) = true := decide_eq_true c4
     clear c4
     obtain ⟨y627, hy627⟩ : ∃ y_ : List Int, y_ = (List.replicate ((l0.length : Int) : Int).toNat 0) := ⟨_, rfl⟩
     replace H : (natural_subtract.l0 k l0 l1 y627 0 (l0.length : Int) 0) = some r := by first | (rw [hy627]; with_reducible exact H) | (have H2_ := (Option.bind_some _ _).symm.trans H; rw [hy627]; with_reducible exact H2_) | (have H2_ := (Option.bind_some _ _).symm.trans H; with_reducible exact H2_) | with_reducible exact H | (rw [hy627]; exact H) | exact H
     have Ny627 := Aside0.mk hy627
     clear hy627
     have H' := Aside0.mk H
     clear H
     go_enter Tryd.func63, Tryd.ntmps63
     go_wp2_with (first | ((with_reducible refine gate_dst (N := 11) rfl ?_); refine Kd.R_make (Kd.int .u32) _ 60 rfl (N := 11) rfl 50 _ _ rfl (l0.length : Int) rfl rfl Tryd.underlying50 (.int .u32 0) 4 info60 rfl (by decide) (by omega) 0 (ok := fun _ => True) (okp := fun _ => True) rfl (fun _ hk => hk) trivial (of_decide_eq_true (by first | (with_reducible assumption) | assumption)) (Nat.le_trans (Nat.mul_le_mul_right _ (of_decide_eq_true (by first | (with_reducible assumption) | assumption) : (l0.length : Int).toNat ≤ 70368744177664)) (by omega)) (Below.refl _ _) (Nat.le_refl _) ?_; intro v628 w5 ho6 hb hg_ hnew_; clear hg_ hnew_; (first | rw [← Ny627.out] at ho6 | (simp only [Int.reduceToNat] at ho6; rw [← Ny627.out] at ho6)); have n0_ := Aside0.mk (Kd.R_lower ho6 (below_size (by repeat (first | (with_reducible first | exact HB.out | apply below_alloc | apply pw_below_drewN | apply below_drew1) | exact HB.out)))); have n1_ := Aside0.mk (below_step (by repeat (first | (with_reducible first | exact HB.out | apply below_alloc | apply pw_below_drewN | apply below_drew1) | exact HB.out)) hb); clear HB; have HO629 := n0_; have HB := n1_; clear n0_ n1_; clear hb ho6))
     go_loopg [6, 14] k (fun kq v6 v14 w' => ∃ (x5_1 : List Int) (x6_1 : Int) (x14_1 : Int), v6 = .int .u32 x6_1 ∧ v14 = .int .i64 x14_1 ∧ Aside0 (natural_subtract.l0 kq l0 l1 x5_1 x6_1 (l0.length : Int) x14_1 = some r) ∧ Aside0 (kq ≤ k) ∧ Aside0 (Kd.R (Kd.int .u32) 60 w' w.heap.size (fun _ => True) v628 x5_1) ∧ Aside0 (Below w.heap.size w w'))
     case atStart => exact ⟨(y627), (0), (0), (by first | rfl | (simp; done) | (simp [*]; done)), (by first | rfl | (simp; done) | (simp [*]; done)), H', ⟨Nat.le_refl _⟩, ⟨by (with_reducible repeat (first | apply Kd.R_alloc | apply Kd.R_drewN | apply Kd.R_drew)); exact HO629.out⟩, ⟨by repeat (first | (with_reducible first | exact HB.out | apply below_alloc | apply pw_below_drewN | apply below_drew1) | exact HB.out)⟩⟩
     case round =>
      clear H'
      try clear c1
      try clear p2
      try clear c3
      try clear c3b0
      try clear c3b1
      try clear c4
      try clear c4b0
      try clear c4b1
      try clear c6
      obtain ⟨x5_1, x6_1, x14_1, rfl, rfl, HA, HK1, HO_5, HB⟩ := hrel
      cases gk with
      | zero => exact absurd HA.out (by simp [natural_subtract.l0])
      | succ k1 =>
       have H := HA.out
       clear HA
       simp only [natural_subtract.l0] at H
       by_cases c7 : x14_1 < (l0.length : Int)
       · rw [if_pos c7] at H
         have c7b0 : decide (x14_1 < (l0.length : Int)) = true := decide_eq_true c7
         clear c7
         by_cases c8 : x14_1 < (l1.length : Int)
         · rw [if_pos c8] at H
           have c8b0 : decide (x14_1 < (l1.length : Int)) = true := decide_eq_true c8
           clear c8
           by_cases c9 : 0 ≤ x14_1
           · rw [if_pos c9] at H
             have c9b0 : decide (0 ≤ x14_1) = true := decide_eq_true c9
             clear c9
             by_cases c10 : x14_1 < (l0.length : Int)
             · rw [if_pos c10] at H
               have c10b0 : decide (x14_1 < (l0.length : Int)) = true := decide_eq_true c10
               clear c10
               replace H := Option.bind_eq_some_iff.mp H
               obtain ⟨⟨t632, t633⟩, A110, H⟩ := H
               replace H : (if x14_1 < (x5_1.length : Int) then (natural_subtract.l0 k1 l0 l1 (x5_1.set (x14_1 : Int).toNat t632) t633 (l0.length : Int) (wrap64 (x14_1 + 1))) else (none)) = some r := H
               have A11 := Aside0.mk A110
               clear A110
               by_cases c12 : x14_1 < (x5_1.length : Int)
               · rw [if_pos c12] at H
                 have c12b0 : decide (x14_1 < (x5_1.length : Int)) = true := decide_eq_true c12
                 clear c12
                 obtain ⟨y634, hy634⟩ : ∃ y_ : List Int, y_ = (x5_1.set (x14_1 : Int).toNat t632) := ⟨_, rfl⟩
                 replace H : (natural_subtract.l0 k1 l0 l1 y634 t633 (l0.length : Int) (wrap64 (x14_1 + 1))) = some r := by first | (rw [hy634]; with_reducible exact H) | (have H2_ := (Option.bind_some _ _).symm.trans H; rw [hy634]; with_reducible exact H2_) | (have H2_ := (Option.bind_some _ _).symm.trans H; with_reducible exact H2_) | with_reducible exact H | (rw [hy634]; exact H) | exact H
                 have Ny634 := Aside0.mk hy634
                 clear hy634
                 have H' := Aside0.mk H
                 clear H
                 have p630 : 0 ≤ (x14_1 : Int) := of_decide_eq_true (by first | (with_reducible assumption) | assumption)
                 have q630 : x14_1 < (l1.length : Int) := of_decide_eq_true (by first | (with_reducible assumption) | assumption)
                 obtain ⟨ad630, e630, hx630_0⟩ := Kd.at_int HR1.out x14_1 p630 q630
                 cases e630
                 replace hx630_0 := (HB.out.cell (World.block_lt_of_cell? w _ hx630_0)).trans hx630_0
                 replace p630 := eq_true p630
                 replace q630 := eq_true q630
                 have p631 : 0 ≤ (x14_1 : Int) := of_decide_eq_true (by first | (with_reducible assumption) | assumption)
                 have q631 : x14_1 < (l0.length : Int) := of_decide_eq_true (by first | (with_reducible assumption) | assumption)
                 obtain ⟨ad631, e631, hx631_0⟩ := Kd.at_int HR0.out x14_1 p631 q631
                 cases e631
                 replace hx631_0 := (HB.out.cell (World.block_lt_of_cell? w _ hx631_0)).trans hx631_0
                 replace p631 := eq_true p631
                 replace q631 := eq_true q631
                 go_wp2_with (first | ((with_reducible refine gate_callee (f := 81) rfl ?_); refine goesL_ (some 34) rfl rfl Tryd.func81 (by kernel_rfl) rfl #[.int .u32 (rd l0 x14_1), .int .u32 (rd l1 x14_1), .int .u32 x6_1] rfl (by (try simp only [List.map_toArray, List.map_cons, List.map_nil]); first | done | rfl | (simp only [List.length_drop, List.length_take]; rfl)) ?_; (with_reducible refine (bits_Sub32.calls (rd l0 x14_1) (rd l1 x14_1) x6_1 t632 t633 _ A11.out).mono ?_); rintro e w' ⟨rfl, ⟨nd, rfl⟩⟩; refine ⟨_, rfl, ?_⟩; (try (rw [drewN_self wr]; generalize hq_ : World.drewN wr _ = wr; have n0_ : Aside0 (Kd.R (Kd.int .u32) 60 wr w.heap.size (fun _ => True) v628 x5_1) := ⟨by rw [← hq_]; exact (by (with_reducible repeat (first | apply Kd.R_alloc | apply Kd.R_drewN | apply Kd.R_drew)); exact HO_5.out)⟩; have n1_ : Aside0 (Below w.heap.size w wr) := ⟨by rw [← hq_]; exact (by repeat (first | (with_reducible first | exact HB.out | apply below_alloc | apply pw_below_drewN | apply below_drew1) | exact HB.out))⟩; clear HO_5 HB hq_; have HO_5 := n0_; have HB := n1_; clear n0_ n1_)); have p13 : 0 ≤ (x14_1 : Int) := of_decide_eq_true (by first | (with_reducible assumption) | assumption); have q13 : (x14_1 : Int) < ((x5_1.length : Int) : Int) := of_decide_eq_true (by first | (with_reducible assumption) | assumption); obtain ⟨go13, co13, eo13, gb13, gl13, cl13, HG13⟩ := Kd.R_form HO_5.out (by omega); (first | cases eo13 | (injection eo13 with ea_ en_ ec_; (first | subst ea_ | (injection ea_ with ea_; subst ea_)); subst ec_; clear en_)); have GB13 := Aside0.mk gb13; have GG13 := Aside0.mk HG13; clear gb13 gl13 HG13; obtain ⟨hx13_0, hf13_0⟩ := Kd.R_celln 0 HO_5.out (x14_1 : Int) p13 q13; replace p13 := eq_true p13; replace q13 := eq_true q13; obtain ⟨hy14_, hz14_⟩ := Kd.R_celln 0 HO_5.out (x14_1 : Int) (of_decide_eq_true (by first | (with_reducible assumption) | assumption)) (of_decide_eq_true (by first | (with_reducible assumption) | assumption)); have HP14 := Kd.R_putg HO_5.out (x14_1 : Int) t632) | ((with_reducible refine gate_store (t := 60) (p := 37) rfl ?_); refine store_event (t := 60) (p := 37) (v := ?vo_w15) (w1 := (wr.setCell ⟨go13, (x14_1 : Int).toNat, none⟩ (.int .u32 t632))) ?hg ?ho ?hn ?hr ?_; (case ho => rfl); (case hg => rfl); (case hn => rfl); (case hr => first | (go_simp; done) | (go_simp; rfl)); intro w15 hw; have hg : wr.grownBy w15 (some go13) := (by rw [hw]; exact HP14.2); have hp_ : Kd.R (Kd.int .u32) 60 w15 w.heap.size (fun _ => True) (.slice (some ⟨go13, 0, none⟩) x5_1.length co13) y634 := (by rw [hw, Ny634.out]; exact HP14.1); clear HP14; have n0_ := Aside0.mk (hp_); have n1_ := Aside0.mk ((by rw [hw]; exact below_set (HB.out) GB13.out : Below w.heap.size w w15)); clear HO_5; clear HB; have HO_5 := n0_; have HB := n1_; clear n0_ n1_; clear hg hw hp_))
                 go_roundg k1
                 case measure => have := HK1.out; omega
                 case rel => exact ⟨(y634), (t633), (wrap64 (x14_1 + 1)), (by first | rfl | (simp; done) | (simp [*]; done)), (by first | rfl | (simp; done) | (simp [*]; done)), H', ⟨by have := HK1.out; omega⟩, ⟨by (with_reducible repeat (first | apply Kd.R_alloc | apply Kd.R_drewN | apply Kd.R_drew)); exact HO_5.out⟩, ⟨by repeat (first | (with_reducible first | exact HB.out | apply below_alloc | apply pw_below_drewN | apply below_drew1) | exact HB.out)⟩⟩
               · rw [if_neg c12] at H
                 exact absurd H (by simp)
             · rw [if_neg c10] at H
               exact absurd H (by simp)
           · rw [if_neg c9] at H
             exact absurd H (by simp)
         · rw [if_neg c8] at H
           have c8b0 : decide (x14_1 < (l1.length : Int)) = false := decide_eq_false c8
           clear c8
           by_cases c16 : 0 ≤ x14_1
           · rw [if_pos c16] at H
             have c16b0 : decide (0 ≤ x14_1) = true := decide_eq_true c16
             clear c16
             by_cases c17 : x14_1 < (l0.length : Int)
             · rw [if_pos c17] at H
               have c17b0 : decide (x14_1 < (l0.length : Int)) = true := decide_eq_true c17
               clear c17
               replace H := Option.bind_eq_some_iff.mp H
               obtain ⟨⟨t636, t637⟩, A180, H⟩ := H
               replace H : (if x14_1 < (x5_1.length : Int) then (natural_subtract.l0 k1 l0 l1 (x5_1.set (x14_1 : Int).toNat t636) t637 (l0.length : Int) (wrap64 (x14_1 + 1))) else (none)) = some r := H
               have A18 := Aside0.mk A180
               clear A180
               by_cases c19 : x14_1 < (x5_1.length : Int)
               · rw [if_pos c19] at H
                 have c19b0 : decide (x14_1 < (x5_1.length : Int)) = true := decide_eq_true c19
                 clear c19
                 obtain ⟨y638, hy638⟩ : ∃ y_ : List Int, y_ = (x5_1.set (x14_1 : Int).toNat t636) := ⟨_, rfl⟩
                 replace H : (natural_subtract.l0 k1 l0 l1 y638 t637 (l0.length : Int) (wrap64 (x14_1 + 1))) = some r := by first | (rw [hy638]; with_reducible exact H) | (have H2_ := (Option.bind_some _ _).symm.trans H; rw [hy638]; with_reducible exact H2_) | (have H2_ := (Option.bind_some _ _).symm.trans H; with_reducible exact H2_) | with_reducible exact H | (rw [hy638]; exact H) | exact H
                 have Ny638 := Aside0.mk hy638
                 clear hy638
                 have H' := Aside0.mk H
                 clear H
                 have p635 : 0 ≤ (x14_1 : Int) := of_decide_eq_true (by first | (with_reducible assumption) | assumption)
                 have q635 : x14_1 < (l0.length : Int) := of_decide_eq_true (by first | (with_reducible assumption) | assumption)
                 obtain ⟨ad635, e635, hx635_0⟩ := Kd.at_int HR0.out x14_1 p635 q635
                 cases e635
                 replace hx635_0 := (HB.out.cell (World.block_lt_of_cell? w _ hx635_0)).trans hx635_0
                 replace p635 := eq_true p635
                 replace q635 := eq_true q635
                 go_wp2_with (first | ((with_reducible refine gate_callee (f := 81) rfl ?_); refine goesL_ (some 34) rfl rfl Tryd.func81 (by kernel_rfl) rfl #[.int .u32 (rd l0 x14_1), .int .u32 0, .int .u32 x6_1] rfl (by (try simp only [List.map_toArray, List.map_cons, List.map_nil]); first | done | rfl | (simp only [List.length_drop, List.length_take]; rfl)) ?_; (with_reducible refine (bits_Sub32.calls (rd l0 x14_1) 0 x6_1 t636 t637 _ A18.out).mono ?_); rintro e w' ⟨rfl, ⟨nd, rfl⟩⟩; refine ⟨_, rfl, ?_⟩; (try (rw [drewN_self wr]; generalize hq_ : World.drewN wr _ = wr; have n0_ : Aside0 (Kd.R (Kd.int .u32) 60 wr w.heap.size (fun _ => True) v628 x5_1) := ⟨by rw [← hq_]; exact (by (with_reducible repeat (first | apply Kd.R_alloc | apply Kd.R_drewN | apply Kd.R_drew)); exact HO_5.out)⟩; have n1_ : Aside0 (Below w.heap.size w wr) := ⟨by rw [← hq_]; exact (by repeat (first | (with_reducible first | exact HB.out | apply below_alloc | apply pw_below_drewN | apply below_drew1) | exact HB.out))⟩; clear HO_5 HB hq_; have HO_5 := n0_; have HB := n1_; clear n0_ n1_)); have p20 : 0 ≤ (x14_1 : Int) := of_decide_eq_true (by first | (with_reducible assumption) | assumption); have q20 : (x14_1 : Int) < ((x5_1.length : Int) : Int) := of_decide_eq_true (by first | (with_reducible assumption) | assumption); obtain ⟨go20, co20, eo20, gb20, gl20, cl20, HG20⟩ := Kd.R_form HO_5.out (by omega); (first | cases eo20 | (injection eo20 with ea_ en_ ec_; (first | subst ea_ | (injection ea_ with ea_; subst ea_)); subst ec_; clear en_)); have GB20 := Aside0.mk gb20; have GG20 := Aside0.mk HG20; clear gb20 gl20 HG20; obtain ⟨hx20_0, hf20_0⟩ := Kd.R_celln 0 HO_5.out (x14_1 : Int) p20 q20; replace p20 := eq_true p20; replace q20 := eq_true q20; obtain ⟨hy21_, hz21_⟩ := Kd.R_celln 0 HO_5.out (x14_1 : Int) (of_decide_eq_true (by first | (with_reducible assumption) | assumption)) (of_decide_eq_true (by first | (with_reducible assumption) | assumption)); have HP21 := Kd.R_putg HO_5.out (x14_1 : Int) t636) | ((with_reducible refine gate_store (t := 60) (p := 37) rfl ?_); refine store_event (t := 60) (p := 37) (v := ?vo_w22) (w1 := (wr.setCell ⟨go20, (x14_1 : Int).toNat, none⟩ (.int .u32 t636))) ?hg ?ho ?hn ?hr ?_; (case ho => rfl); (case hg => rfl); (case hn => rfl); (case hr => first | (go_simp; done) | (go_simp; rfl)); intro w22 hw; have hg : wr.grownBy w22 (some go20) := (by rw [hw]; exact HP21.2); have hp_ : Kd.R (Kd.int .u32) 60 w22 w.heap.size (fun _ => True) (.slice (some ⟨go20, 0, none⟩) x5_1.length co20) y638 := (by rw [hw, Ny638.out]; exact HP21.1); clear HP21; have n0_ := Aside0.mk (hp_); have n1_ := Aside0.mk ((by rw [hw]; exact below_set (HB.out) GB20.out : Below w.heap.size w w22)); clear HO_5; clear HB; have HO_5 := n0_; have HB := n1_; clear n0_ n1_; clear hg hw hp_))
                 go_roundg k1
                 case measure => have := HK1.out; omega
                 case rel => exact ⟨(y638), (t637), (wrap64 (x14_1 + 1)), (by first | rfl | (simp; done) | (simp [*]; done)), (by first | rfl | (simp; done) | (simp [*]; done)), H', ⟨by have := HK1.out; omega⟩, ⟨by (with_reducible repeat (first | apply Kd.R_alloc | apply Kd.R_drewN | apply Kd.R_drew)); exact HO_5.out⟩, ⟨by repeat (first | (with_reducible first | exact HB.out | apply below_alloc | apply pw_below_drewN | apply below_drew1) | exact HB.out)⟩⟩
               · rw [if_neg c19] at H
                 exact absurd H (by simp)
             · rw [if_neg c17] at H
               exact absurd H (by simp)
           · rw [if_neg c16] at H
             exact absurd H (by simp)
       · rw [if_neg c7] at H
         have c7b0 : decide (x14_1 < (l0.length : Int)) = false := decide_eq_false c7
         clear c7
         replace H := Option.bind_eq_some_iff.mp H
         obtain ⟨t639, A230, H⟩ := H
         replace H : (some t639) = some r := H
         have A23 := Aside0.mk A230
         clear A230
         obtain rfl := Option.some.inj H
         obtain ⟨Ao24, co24, eo24⟩ := Kd.R_slice HO_5.out
         subst eo24
         go_wp2_with (first | ((with_reducible refine gate_callee (f := 53) rfl ?_); refine goesL_ (some 40) rfl rfl Tryd.func53 (by kernel_rfl) rfl #[.slice Ao24 x5_1.length co24] rfl (by (try simp only [List.map_toArray, List.map_cons, List.map_nil]); first | done | rfl | (simp only [List.length_drop, List.length_take]; rfl)) ?_; (with_reducible refine (natural_limbs_trim.calls k1 (fun k_ => some k_ = (.slice Ao24 x5_1.length co24 : Value).ownBlock) (.slice Ao24 x5_1.length co24) x5_1 t639 w _ ?side1 ?side2 A23.out).mono ?_); (case side1 => repeat (first | (with_reducible first | exact HB.out | apply below_alloc | apply pw_below_drewN | apply below_drew1) | exact HB.out)); (case side2 => exact Kd.R_tight rfl HO_5.out); rintro e w25 ⟨v640, rfl, ho0, hb, hkp⟩; refine ⟨_, rfl, ?_⟩; have n0_ := Aside0.mk (Kd.R_mono (ok' := fun k_ => True) ho0 (fun k_ hk_ => trivial)); have n1_ := Aside0.mk (hb); clear HB; clear HO_5; have HO641 := n0_; have HB := n1_; clear n0_ n1_; (try clear hb); (try clear hkp); (try clear ho0)))
         go_ret
         exact ⟨_, by first | rfl | (simp [errW_none, errW_some] <;> rfl) | (simp [*, errW_none, errW_some] <;> rfl), by (with_reducible repeat (first | apply Kd.R_alloc | apply Kd.R_drewN | apply Kd.R_drew)); exact HO641.out, by repeat (first | (with_reducible first | exact HB.out | apply below_alloc | apply pw_below_drewN | apply below_drew1) | exact HB.out)⟩
   · rw [if_neg c4] at H
     exact absurd H (by simp)
 · rw [if_neg c3] at H
   exact absurd H (by simp)
end Go.Proofs.YtjaflmhdclmolaaDoor.F
end
section
namespace Go.Proofs.YtjaflmhdclmolaaDoor.F
open Go.RowKit Go.Proofs.YtjaflmhdclmolaaDoorW.PrintWords Go.Proofs.YtjaflmhdclmolaaDoorW.PrintLast Go.Proofs.YtjaflmhdclmolaaDoorW.PrintMore
attribute [local go_sem] max2_int min2_int max_two min_two max_three min_three max_four min_four   
set_option linter.unusedVariables false
set_option linter.unusedSimpArgs false
def natural_Subtract.f (k : Nat) (a0 : ByteArray) (a1 : ByteArray) : Option (ByteArray × Bool) := (natural_parse.f k a0).bind fun t642 => ((natural_parse.f k a1).bind fun t645 => ((natural_compare.f k t642 t645).bind fun t648 => (if t648 < 0 then (some ((⟨#[]⟩ : ByteArray), false)) else ((natural_subtract.f k t642 t645).bind fun t649 => ((natural_limbs_text.f k t649).bind fun t652 => (some (t652, true)))))))
theorem natural_Subtract.mono : ∀ a0 a1 k, LeO (natural_Subtract.f k a0 a1) (natural_Subtract.f (k + 1) a0 a1) := by
 intro a0 a1 k
 unfold natural_Subtract.f
 repeat' first
  | (with_reducible exact natural_compare.mono _ _ _)
  | (with_reducible exact natural_limbs_text.mono _ _)
  | (with_reducible exact natural_parse.mono _ _)
  | (with_reducible exact natural_subtract.mono _ _ _)
  | (with_reducible exact LeO.refl _)
  | (with_reducible exact LeO.none _)
  | (with_reducible refine LeO.ite ?_ ?_)
  | (with_reducible refine LeO.bind ?_ (fun _ => ?_))
  | exact natural_compare.mono _ _ _
  | exact natural_limbs_text.mono _ _
  | exact natural_parse.mono _ _
  | exact natural_subtract.mono _ _ _
  | exact LeO.none _
  | refine LeO.ite ?_ ?_
  | refine LeO.bind ?_ (fun _ => ?_)
set_option maxHeartbeats 8000000 in
set_option maxRecDepth 100000 in
theorem natural_Subtract.calls (k : Nat) (a0 : ByteArray) (a1 : ByteArray) (r1 : ByteArray) (r2 : Bool) (w : World) (h : natural_Subtract.f k a0 a1 = some (r1, r2)) :
 Calls Tryd.prog 38 #[.string a0, .string a1] w fun e w' => e = .returned (.tuple #[.string r1, .bool r2]) ∧ Below w.heap.size w w' := by
 have HB := Aside0.mk (Below.refl w.heap.size w)
 have H : ((natural_parse.f k a0).bind fun t642 => ((natural_parse.f k a1).bind fun t645 => ((natural_compare.f k t642 t645).bind fun t648 => (if t648 < 0 then (some ((⟨#[]⟩ : ByteArray), false)) else ((natural_subtract.f k t642 t645).bind fun t649 => ((natural_limbs_text.f k t649).bind fun t652 => (some (t652, true)))))))) = some (r1, r2) := h
 clear h
 replace H := Option.bind_eq_some_iff.mp H
 obtain ⟨t642, A30, H⟩ := H
 replace H : ((natural_parse.f k a1).bind fun t645 => ((natural_compare.f k t642 t645).bind fun t648 => (if t648 < 0 then (some ((⟨#[]⟩ : ByteArray), false)) else ((natural_subtract.f k t642 t645).bind fun t649 => ((natural_limbs_text.f k t649).bind fun t652 => (some (t652, true))))))) = some (r1, r2) := H
 have A3 := Aside0.mk A30
 clear A30
 replace H := Option.bind_eq_some_iff.mp H
 obtain ⟨t645, A40, H⟩ := H
 replace H : ((natural_compare.f k t642 t645).bind fun t648 => (if t648 < 0 then (some ((⟨#[]⟩ : ByteArray), false)) else ((natural_subtract.f k t642 t645).bind fun t649 => ((natural_limbs_text.f k t649).bind fun t652 => (some (t652, true)))))) = some (r1, r2) := H
 have A4 := Aside0.mk A40
 clear A40
 replace H := Option.bind_eq_some_iff.mp H
 obtain ⟨t648, A50, H⟩ := H
 replace H : (if t648 < 0 then (some ((⟨#[]⟩ : ByteArray), false)) else ((natural_subtract.f k t642 t645).bind fun t649 => ((natural_limbs_text.f k t649).bind fun t652 => (some (t652, true))))) = some (r1, r2) := H
 have A5 := Aside0.mk A50
 clear A50
 by_cases c6 : t648 < 0
 · rw [if_pos c6] at H
   have c6b0 : decide (t648 < 0) = true := decide_eq_true c6
   clear c6
   simp only [Option.some.injEq, Prod.mk.injEq] at H
   obtain ⟨rfl, rfl⟩ := H
   go_enter Tryd.func38, Tryd.ntmps38
   go_wp2_with (first | ((with_reducible refine gate_callee (f := 42) rfl ?_); refine goesL_ (some 9) rfl rfl Tryd.func42 (by kernel_rfl) rfl #[.string a0] rfl (by (try simp only [List.map_toArray, List.map_cons, List.map_nil]); first | done | rfl | (simp only [List.length_drop, List.length_take]; rfl)) ?_; (with_reducible refine (natural_parse.calls k a0 t642 _ A3.out).mono ?_); rintro e w7 ⟨v643, rfl, ho0, hb⟩; refine ⟨_, rfl, ?_⟩; have n0_ := Aside0.mk (Kd.R_lower ho0 (below_size (by repeat (first | (with_reducible first | exact HB.out | apply below_alloc | apply pw_below_drewN | apply below_drew1) | exact HB.out)))); have n1_ := Aside0.mk (below_step (by repeat (first | (with_reducible first | exact HB.out | apply below_alloc | apply pw_below_drewN | apply below_drew1) | exact HB.out)) hb); clear HB; have HO644 := n0_; have HB := n1_; clear n0_ n1_; (try clear hb); (try clear hb2); (try clear hk); (try clear hi); (try clear ho0)) | ((with_reducible refine gate_callee (f := 42) rfl ?_); refine goesL_ (some 11) rfl rfl Tryd.func42 (by kernel_rfl) rfl #[.string a1] rfl (by (try simp only [List.map_toArray, List.map_cons, List.map_nil]); first | done | rfl | (simp only [List.length_drop, List.length_take]; rfl)) ?_; (with_reducible refine (natural_parse.calls k a1 t645 _ A4.out).mono ?_); rintro e w8 ⟨v646, rfl, ho0, hb⟩; refine ⟨_, rfl, ?_⟩; have n0_ := Aside0.mk (Kd.R_elder' (by (with_reducible repeat (first | apply Kd.R_alloc | apply Kd.R_drewN | apply Kd.R_drew)); exact HO644.out) (Kd.R_base ho0) hb); have n1_ := Aside0.mk (Kd.R_lower (Kd.R_new' ho0 (Kd.R_lt (by (with_reducible repeat (first | apply Kd.R_alloc | apply Kd.R_drewN | apply Kd.R_drew)); exact HO644.out))) (below_size (by repeat (first | (with_reducible first | exact HB.out | apply below_alloc | apply pw_below_drewN | apply below_drew1) | exact HB.out)))); have n2_ := Aside0.mk (below_step (by repeat (first | (with_reducible first | exact HB.out | apply below_alloc | apply pw_below_drewN | apply below_drew1) | exact HB.out)) hb); clear HO644; clear HB; have HO644 := n0_; have HO647 := n1_; have HB := n2_; clear n0_ n1_ n2_; (try clear hb); (try clear hb2); (try clear hk); (try clear hi); (try clear ho0); obtain ⟨Ao9, co9, eo9⟩ := Kd.R_slice HO644.out; subst eo9; obtain ⟨Ao10, co10, eo10⟩ := Kd.R_slice HO647.out; subst eo10) | ((with_reducible refine gate_callee (f := 62) rfl ?_); refine goesL_ (some 14) rfl rfl Tryd.func62 (by kernel_rfl) rfl #[.slice Ao9 t642.length co9, .slice Ao10 t645.length co10] rfl (by (try simp only [List.map_toArray, List.map_cons, List.map_nil]); first | done | rfl | (simp only [List.length_drop, List.length_take]; rfl)) ?_; (with_reducible refine (natural_compare.calls k _ _ t642 _ _ t645 t648 _ ?side1 ?side2 ?side3 ?side4 A5.out).mono ?_); (case side1 => repeat (first | exact (Kd.R_reads' HO644.out).2.2 | (with_reducible refine Kd.C_alloc ?_ _) | (with_reducible refine Kd.C_drewN ?_ _) | (with_reducible refine Kd.C_drew ?_))); (case side2 => exact (Kd.R_reads' HO644.out).2.1); (case side3 => repeat (first | exact (Kd.R_reads' HO647.out).2.2 | (with_reducible refine Kd.C_alloc ?_ _) | (with_reducible refine Kd.C_drewN ?_ _) | (with_reducible refine Kd.C_drew ?_))); (case side4 => exact (Kd.R_reads' HO647.out).2.1); rintro e w' ⟨rfl, ⟨nd, rfl⟩⟩; refine ⟨_, rfl, ?_⟩))
   go_ret2
   exact ⟨by first | rfl | (simp [errW_none, errW_some] <;> rfl) | (simp [*, errW_none, errW_some] <;> rfl), by repeat (first | (with_reducible first | exact HB.out | apply below_alloc | apply pw_below_drewN | apply below_drew1) | exact HB.out)⟩
 · rw [if_neg c6] at H
   have c6b0 : decide (t648 < 0) = false := decide_eq_false c6
   clear c6
   replace H := Option.bind_eq_some_iff.mp H
   obtain ⟨t649, A110, H⟩ := H
   replace H : ((natural_limbs_text.f k t649).bind fun t652 => (some (t652, true))) = some (r1, r2) := H
   have A11 := Aside0.mk A110
   clear A110
   replace H := Option.bind_eq_some_iff.mp H
   obtain ⟨t652, A120, H⟩ := H
   replace H : (some (t652, true)) = some (r1, r2) := H
   have A12 := Aside0.mk A120
   clear A120
   simp only [Option.some.injEq, Prod.mk.injEq] at H
   obtain ⟨rfl, rfl⟩ := H
   go_enter Tryd.func38, Tryd.ntmps38
   go_wp2_with (first | ((with_reducible refine gate_callee (f := 42) rfl ?_); refine goesL_ (some 9) rfl rfl Tryd.func42 (by kernel_rfl) rfl #[.string a0] rfl (by (try simp only [List.map_toArray, List.map_cons, List.map_nil]); first | done | rfl | (simp only [List.length_drop, List.length_take]; rfl)) ?_; (with_reducible refine (natural_parse.calls k a0 t642 _ A3.out).mono ?_); rintro e w13 ⟨v643, rfl, ho0, hb⟩; refine ⟨_, rfl, ?_⟩; have n0_ := Aside0.mk (Kd.R_lower ho0 (below_size (by repeat (first | (with_reducible first | exact HB.out | apply below_alloc | apply pw_below_drewN | apply below_drew1) | exact HB.out)))); have n1_ := Aside0.mk (below_step (by repeat (first | (with_reducible first | exact HB.out | apply below_alloc | apply pw_below_drewN | apply below_drew1) | exact HB.out)) hb); clear HB; have HO644 := n0_; have HB := n1_; clear n0_ n1_; (try clear hb); (try clear hb2); (try clear hk); (try clear hi); (try clear ho0)) | ((with_reducible refine gate_callee (f := 42) rfl ?_); refine goesL_ (some 11) rfl rfl Tryd.func42 (by kernel_rfl) rfl #[.string a1] rfl (by (try simp only [List.map_toArray, List.map_cons, List.map_nil]); first | done | rfl | (simp only [List.length_drop, List.length_take]; rfl)) ?_; (with_reducible refine (natural_parse.calls k a1 t645 _ A4.out).mono ?_); rintro e w14 ⟨v646, rfl, ho0, hb⟩; refine ⟨_, rfl, ?_⟩; have n0_ := Aside0.mk (Kd.R_elder' (by (with_reducible repeat (first | apply Kd.R_alloc | apply Kd.R_drewN | apply Kd.R_drew)); exact HO644.out) (Kd.R_base ho0) hb); have n1_ := Aside0.mk (Kd.R_lower (Kd.R_new' ho0 (Kd.R_lt (by (with_reducible repeat (first | apply Kd.R_alloc | apply Kd.R_drewN | apply Kd.R_drew)); exact HO644.out))) (below_size (by repeat (first | (with_reducible first | exact HB.out | apply below_alloc | apply pw_below_drewN | apply below_drew1) | exact HB.out)))); have n2_ := Aside0.mk (below_step (by repeat (first | (with_reducible first | exact HB.out | apply below_alloc | apply pw_below_drewN | apply below_drew1) | exact HB.out)) hb); clear HO644; clear HB; have HO644 := n0_; have HO647 := n1_; have HB := n2_; clear n0_ n1_ n2_; (try clear hb); (try clear hb2); (try clear hk); (try clear hi); (try clear ho0); obtain ⟨Ao15, co15, eo15⟩ := Kd.R_slice HO644.out; subst eo15; obtain ⟨Ao16, co16, eo16⟩ := Kd.R_slice HO647.out; subst eo16) | ((with_reducible refine gate_callee (f := 62) rfl ?_); refine goesL_ (some 14) rfl rfl Tryd.func62 (by kernel_rfl) rfl #[.slice Ao15 t642.length co15, .slice Ao16 t645.length co16] rfl (by (try simp only [List.map_toArray, List.map_cons, List.map_nil]); first | done | rfl | (simp only [List.length_drop, List.length_take]; rfl)) ?_; (with_reducible refine (natural_compare.calls k _ _ t642 _ _ t645 t648 _ ?side1 ?side2 ?side3 ?side4 A5.out).mono ?_); (case side1 => repeat (first | exact (Kd.R_reads' HO644.out).2.2 | (with_reducible refine Kd.C_alloc ?_ _) | (with_reducible refine Kd.C_drewN ?_ _) | (with_reducible refine Kd.C_drew ?_))); (case side2 => exact (Kd.R_reads' HO644.out).2.1); (case side3 => repeat (first | exact (Kd.R_reads' HO647.out).2.2 | (with_reducible refine Kd.C_alloc ?_ _) | (with_reducible refine Kd.C_drewN ?_ _) | (with_reducible refine Kd.C_drew ?_))); (case side4 => exact (Kd.R_reads' HO647.out).2.1); rintro e w' ⟨rfl, ⟨nd, rfl⟩⟩; refine ⟨_, rfl, ?_⟩) | ((with_reducible refine gate_callee (f := 63) rfl ?_); refine goesL_ (some 18) rfl rfl Tryd.func63 (by kernel_rfl) rfl #[.slice Ao15 t642.length co15, .slice Ao16 t645.length co16] rfl (by (try simp only [List.map_toArray, List.map_cons, List.map_nil]); first | done | rfl | (simp only [List.length_drop, List.length_take]; rfl)) ?_; (with_reducible refine (natural_subtract.calls k _ _ t642 _ _ t645 t649 _ ?side1 ?side2 ?side3 ?side4 A11.out).mono ?_); (case side1 => repeat (first | exact (Kd.R_reads' HO644.out).2.2 | (with_reducible refine Kd.C_alloc ?_ _) | (with_reducible refine Kd.C_drewN ?_ _) | (with_reducible refine Kd.C_drew ?_))); (case side2 => exact (Kd.R_reads' HO644.out).2.1); (case side3 => repeat (first | exact (Kd.R_reads' HO647.out).2.2 | (with_reducible refine Kd.C_alloc ?_ _) | (with_reducible refine Kd.C_drewN ?_ _) | (with_reducible refine Kd.C_drew ?_))); (case side4 => exact (Kd.R_reads' HO647.out).2.1); rintro e w17 ⟨v650, rfl, ho0, hb⟩; refine ⟨_, rfl, ?_⟩; have n0_ := Aside0.mk (Kd.R_elder' (by (with_reducible repeat (first | apply Kd.R_alloc | apply Kd.R_drewN | apply Kd.R_drew)); exact HO644.out) (Kd.R_base ho0) hb); have n1_ := Aside0.mk (Kd.R_elder' (by (with_reducible repeat (first | apply Kd.R_alloc | apply Kd.R_drewN | apply Kd.R_drew)); exact HO647.out) (Kd.R_base ho0) hb); have n2_ := Aside0.mk (Kd.R_lower (Kd.R_new' (Kd.R_new' ho0 (Kd.R_lt (by (with_reducible repeat (first | apply Kd.R_alloc | apply Kd.R_drewN | apply Kd.R_drew)); exact HO644.out))) (Kd.R_lt (by (with_reducible repeat (first | apply Kd.R_alloc | apply Kd.R_drewN | apply Kd.R_drew)); exact HO647.out))) (below_size (by repeat (first | (with_reducible first | exact HB.out | apply below_alloc | apply pw_below_drewN | apply below_drew1) | exact HB.out)))); have n3_ := Aside0.mk (below_step (by repeat (first | (with_reducible first | exact HB.out | apply below_alloc | apply pw_below_drewN | apply below_drew1) | exact HB.out)) hb); clear HO644; clear HO647; clear HB; have HO644 := n0_; have HO647 := n1_; have HO651 := n2_; have HB := n3_; clear n0_ n1_ n2_ n3_; (try clear hb); (try clear hb2); (try clear hk); (try clear hi); (try clear ho0); obtain ⟨Ao18, co18, eo18⟩ := Kd.R_slice HO651.out; subst eo18) | ((with_reducible refine gate_callee (f := 44) rfl ?_); refine goesL_ (some 19) rfl rfl Tryd.func44 (by kernel_rfl) rfl #[.slice Ao18 t649.length co18] rfl (by (try simp only [List.map_toArray, List.map_cons, List.map_nil]); first | done | rfl | (simp only [List.length_drop, List.length_take]; rfl)) ?_; (with_reducible refine (natural_limbs_text.calls k _ _ t649 t652 _ ?side1 ?side2 A12.out).mono ?_); (case side1 => repeat (first | exact (Kd.R_reads' HO651.out).2.2 | (with_reducible refine Kd.C_alloc ?_ _) | (with_reducible refine Kd.C_drewN ?_ _) | (with_reducible refine Kd.C_drew ?_))); (case side2 => exact (Kd.R_reads' HO651.out).2.1); rintro e w19 ⟨rfl, hb⟩; refine ⟨_, rfl, ?_⟩; have n0_ := Aside0.mk (Kd.R_below (by (with_reducible repeat (first | apply Kd.R_alloc | apply Kd.R_drewN | apply Kd.R_drew)); exact HO644.out) hb); have n1_ := Aside0.mk (Kd.R_below (by (with_reducible repeat (first | apply Kd.R_alloc | apply Kd.R_drewN | apply Kd.R_drew)); exact HO647.out) hb); have n2_ := Aside0.mk (Kd.R_below (by (with_reducible repeat (first | apply Kd.R_alloc | apply Kd.R_drewN | apply Kd.R_drew)); exact HO651.out) hb); have n3_ := Aside0.mk (below_step (by repeat (first | (with_reducible first | exact HB.out | apply below_alloc | apply pw_below_drewN | apply below_drew1) | exact HB.out)) hb); clear HO644; clear HO647; clear HO651; clear HB; have HO644 := n0_; have HO647 := n1_; have HO651 := n2_; have HB := n3_; clear n0_ n1_ n2_ n3_; (try clear hb); (try clear hb2); (try clear hk); (try clear hi)))
   go_ret2
   exact ⟨by first | rfl | (simp [errW_none, errW_some] <;> rfl) | (simp [*, errW_none, errW_some] <;> rfl), by repeat (first | (with_reducible first | exact HB.out | apply below_alloc | apply pw_below_drewN | apply below_drew1) | exact HB.out)⟩
end Go.Proofs.YtjaflmhdclmolaaDoor.F
end
section
namespace Go.Proofs.YtjaflmhdclmolaaDoor.F
open Go.RowKit Go.Proofs.YtjaflmhdclmolaaDoorW.PrintWords Go.Proofs.YtjaflmhdclmolaaDoorW.PrintLast Go.Proofs.YtjaflmhdclmolaaDoorW.PrintMore
attribute [local go_sem] max2_int min2_int max_two min_two max_three min_three max_four min_four   
set_option linter.unusedVariables false
set_option linter.unusedSimpArgs false
mutual
def insolvencyref1_plus.l0 : Nat → List Int → List Int → List Int → Int → Int → Option (List Int)
 | 0, _, _, _, _, _ => none
 | k + 1, x0, x1, x5, x6, x7 => if x7 < (x0.length : Int) then (insolvencyref1_plus.j1 k x0 x1 x5 x6 x7 true) else (if x7 < (x1.length : Int) then (insolvencyref1_plus.j1 k x0 x1 x5 x6 x7 true) else (insolvencyref1_plus.j1 k x0 x1 x5 x6 x7 (decide (x6 > 0))))
def insolvencyref1_plus.j1 : Nat → List Int → List Int → List Int → Int → Int → Bool → Option (List Int)
 | 0, _, _, _, _, _, _ => none
 | k + 1, x0, x1, x5, x6, x7, x21 => if x21 = true then (if x7 < (x0.length : Int) then (if 0 ≤ x7 then (if x7 < (x1.length : Int) then (if x5.length < 35184372088832 then (insolvencyref1_plus.l0 k x0 x1 (x5 ++ [(IntKind.u64.wrap ((IntKind.u64.wrap (x6 + (IntKind.u64.wrap (rd x0 x7)))) + (IntKind.u64.wrap (rd x1 x7)))) % 4294967296]) ((IntKind.u64.wrap ((IntKind.u64.wrap (x6 + (IntKind.u64.wrap (rd x0 x7)))) + (IntKind.u64.wrap (rd x1 x7)))) / 4294967296) (wrap64 (x7 + 1))) else (none)) else (if x5.length < 35184372088832 then (insolvencyref1_plus.l0 k x0 x1 (x5 ++ [(IntKind.u64.wrap (x6 + (IntKind.u64.wrap (rd x0 x7)))) % 4294967296]) ((IntKind.u64.wrap (x6 + (IntKind.u64.wrap (rd x0 x7)))) / 4294967296) (wrap64 (x7 + 1))) else (none))) else (none)) else (if x7 < (x1.length : Int) then (if 0 ≤ x7 then (if x5.length < 35184372088832 then (insolvencyref1_plus.l0 k x0 x1 (x5 ++ [(IntKind.u64.wrap (x6 + (IntKind.u64.wrap (rd x1 x7)))) % 4294967296]) ((IntKind.u64.wrap (x6 + (IntKind.u64.wrap (rd x1 x7)))) / 4294967296) (wrap64 (x7 + 1))) else (none)) else (none)) else (if x5.length < 35184372088832 then (insolvencyref1_plus.l0 k x0 x1 (x5 ++ [(x6) % 4294967296]) (x6 / 4294967296) (wrap64 (x7 + 1))) else (none)))) else (some x5)
end
def insolvencyref1_plus.f (k : Nat) (l0 : List Int) (l1 : List Int) : Option (List Int) := insolvencyref1_plus.l0 k l0 l1 ([] : List Int) 0 0
theorem insolvencyref1_plus.mono_l : ∀ k, (∀ y0 y1 y2 y3 y4, LeO (insolvencyref1_plus.l0 k y0 y1 y2 y3 y4) (insolvencyref1_plus.l0 (k + 1) y0 y1 y2 y3 y4)) ∧ (∀ y0 y1 y2 y3 y4 y5, LeO (insolvencyref1_plus.j1 k y0 y1 y2 y3 y4 y5) (insolvencyref1_plus.j1 (k + 1) y0 y1 y2 y3 y4 y5))
 | 0 => ⟨fun _ _ _ _ _ r h => by simp [insolvencyref1_plus.l0] at h, fun _ _ _ _ _ _ r h => by simp [insolvencyref1_plus.j1] at h⟩
 | k + 1 => by
  obtain ⟨ih0, ih1⟩ := insolvencyref1_plus.mono_l k
  refine ⟨?_, ?_⟩
  · intro y0 y1 y2 y3 y4
    unfold insolvencyref1_plus.l0
    repeat' first
    | (with_reducible exact ih0 _ _ _ _ _)
    | (with_reducible exact ih1 _ _ _ _ _ _)
    | (with_reducible exact LeO.refl _)
    | (with_reducible exact LeO.none _)
    | (with_reducible refine LeO.ite ?_ ?_)
    | (with_reducible refine LeO.bind ?_ (fun _ => ?_))
    | exact ih0 _ _ _ _ _
    | exact ih1 _ _ _ _ _ _
    | exact LeO.none _
    | refine LeO.ite ?_ ?_
    | refine LeO.bind ?_ (fun _ => ?_)
  · intro y0 y1 y2 y3 y4 y5
    unfold insolvencyref1_plus.j1
    repeat' first
    | (with_reducible exact ih0 _ _ _ _ _)
    | (with_reducible exact ih1 _ _ _ _ _ _)
    | (with_reducible exact LeO.refl _)
    | (with_reducible exact LeO.none _)
    | (with_reducible refine LeO.ite ?_ ?_)
    | (with_reducible refine LeO.bind ?_ (fun _ => ?_))
    | exact ih0 _ _ _ _ _
    | exact ih1 _ _ _ _ _ _
    | exact LeO.none _
    | refine LeO.ite ?_ ?_
    | refine LeO.bind ?_ (fun _ => ?_)
theorem insolvencyref1_plus.mono : ∀ a0 a1 k, LeO (insolvencyref1_plus.f k a0 a1) (insolvencyref1_plus.f (k + 1) a0 a1) := by
 intro a0 a1 k
 obtain ⟨ih0, ih1⟩ := insolvencyref1_plus.mono_l k
 unfold insolvencyref1_plus.f
 repeat' first
  | (with_reducible exact ih0 _ _ _ _ _)
  | (with_reducible exact ih1 _ _ _ _ _ _)
  | (with_reducible exact LeO.refl _)
  | (with_reducible exact LeO.none _)
  | (with_reducible refine LeO.ite ?_ ?_)
  | (with_reducible refine LeO.bind ?_ (fun _ => ?_))
  | exact ih0 _ _ _ _ _
  | exact ih1 _ _ _ _ _ _
  | exact LeO.none _
  | refine LeO.ite ?_ ?_
  | refine LeO.bind ?_ (fun _ => ?_)
set_option maxHeartbeats 8000000 in
set_option maxRecDepth 100000 in
theorem insolvencyref1_plus.calls (k : Nat) (A0 : Option Addr) (c0 : Nat) (l0 : List Int) (A1 : Option Addr) (c1 : Nat) (l1 : List Int) (r : List Int) (w : World) (hr0 : Kd.C (Kd.int .u32) w A0 l0.length l0) (hc0 : l0.length ≤ c0) (hr1 : Kd.C (Kd.int .u32) w A1 l1.length l1) (hc1 : l1.length ≤ c1) (h : insolvencyref1_plus.f k l0 l1 = some r) :
 Calls Tryd.prog 65 #[.slice A0 l0.length c0, .slice A1 l1.length c1] w fun e w' => ∃ v0_ : Value, e = .returned (v0_) ∧ Kd.R (Kd.int .u32) 60 w' w.heap.size (fun _ => True) v0_ r ∧ Below w.heap.size w w' := by
 have HR0 := Aside0.mk hr0
 have HC0 := Aside0.mk hc0
 clear hr0 hc0
 have HR1 := Aside0.mk hr1
 have HC1 := Aside0.mk hc1
 clear hr1 hc1
 have HB := Aside0.mk (Below.refl w.heap.size w)
 have H : (insolvencyref1_plus.l0 k l0 l1 ([] : List Int) 0 0) = some r := h
 clear h
 have H' := Aside0.mk H
 clear H
 go_enter Tryd.func65, Tryd.ntmps65
 go_wp2
 go_loopg [5, 6, 7] k (fun kq v5 v6 v7 w' => ∃ (x5_1 : List Int) (x6_1 : Int) (x7_1 : Int), v6 = .int .u64 x6_1 ∧ v7 = .int .i64 x7_1 ∧ Aside0 (insolvencyref1_plus.l0 kq l0 l1 x5_1 x6_1 x7_1 = some r) ∧ Aside0 (kq ≤ k) ∧ Aside0 (Kd.R (Kd.int .u32) 60 w' w.heap.size (fun _ => True) v5 x5_1) ∧ Aside0 (Below w.heap.size w w'))
 case atStart => exact ⟨(([] : List Int)), (0), (0), (by first | rfl | (simp; done) | (simp [*]; done)), (by first | rfl | (simp; done) | (simp [*]; done)), H', ⟨Nat.le_refl _⟩, ⟨by first | exact Kd.R_nil _ _ _ _ _ | exact Kd.N_nil _ _ _ _ _ | exact Kd.V_nil _ _ _ _ _ | exact Kd.Q_nil _ _ _ _ _ | exact Kd.S_nil _ _ _ _ _⟩, ⟨by repeat (first | (with_reducible first | exact HB.out | apply below_alloc | apply pw_below_drewN | apply below_drew1) | exact HB.out)⟩⟩
 case round =>
  clear H'
  try clear c1
  try clear p2
  obtain ⟨x5_1, x6_1, x7_1, rfl, rfl, HA, HK1, HO_5, HB⟩ := hrel
  cases gk with
  | zero => exact absurd HA.out (by simp [insolvencyref1_plus.l0])
  | succ k1 =>
   have H := HA.out
   clear HA
   simp only [insolvencyref1_plus.l0] at H
   have HC3 := Aside0.mk H
   clear H
   go_upto_region 4 with (fail)
   go_cut [21] (fun v21 wc => ∃ (kq : Nat) (x21_2 : Bool), v21 = .bool x21_2 ∧ Aside0 (insolvencyref1_plus.j1 kq l0 l1 x5_1 x6_1 x7_1 x21_2 = some r) ∧ Aside0 (kq ≤ k1) ∧ Aside0 (Kd.R (Kd.int .u32) 60 wc w.heap.size (fun _ => True) u5 x5_1) ∧ Aside0 (Below w.heap.size w wc))
   case first =>
    have H := HC3.out
    clear HC3
    by_cases c4 : x7_1 < (l0.length : Int)
    · rw [if_pos c4] at H
      have c4b0 : decide (x7_1 < (l0.length : Int)) = true := decide_eq_true c4
      clear c4
      (first | rw [c4b0] | (simp only [i64_w, i32_w]; rw [c4b0]) | skip)
      have H' := Aside0.mk H
      clear H
      go_wp2
      go_meet
      case rel => exact ⟨_, (true), (by first | rfl | (simp; done) | (simp [*]; done)), H', ⟨by have := HK1.out; first | omega | exact Nat.le_refl _⟩, ⟨by (with_reducible repeat (first | apply Kd.R_alloc | apply Kd.R_drewN | apply Kd.R_drew)); exact HO_5.out⟩, ⟨by repeat (first | (with_reducible first | exact HB.out | apply below_alloc | apply pw_below_drewN | apply below_drew1) | exact HB.out)⟩⟩
    · rw [if_neg c4] at H
      have c4b0 : decide (x7_1 < (l0.length : Int)) = false := decide_eq_false c4
      clear c4
      (first | rw [c4b0] | (simp only [i64_w, i32_w]; rw [c4b0]) | skip)
      by_cases c5 : x7_1 < (l1.length : Int)
      · rw [if_pos c5] at H
        have c5b0 : decide (x7_1 < (l1.length : Int)) = true := decide_eq_true c5
        clear c5
        have H' := Aside0.mk H
        clear H
        go_wp2
        go_meet
        case rel => exact ⟨_, (true), (by first | rfl | (simp; done) | (simp [*]; done)), H', ⟨by have := HK1.out; first | omega | exact Nat.le_refl _⟩, ⟨by (with_reducible repeat (first | apply Kd.R_alloc | apply Kd.R_drewN | apply Kd.R_drew)); exact HO_5.out⟩, ⟨by repeat (first | (with_reducible first | exact HB.out | apply below_alloc | apply pw_below_drewN | apply below_drew1) | exact HB.out)⟩⟩
      · rw [if_neg c5] at H
        have c5b0 : decide (x7_1 < (l1.length : Int)) = false := decide_eq_false c5
        clear c5
        have H' := Aside0.mk H
        clear H
        go_wp2
        go_meet
        case rel => exact ⟨_, (decide (x6_1 > 0)), (by first | rfl | (simp; done) | (simp [*]; done)), H', ⟨by have := HK1.out; first | omega | exact Nat.le_refl _⟩, ⟨by (with_reducible repeat (first | apply Kd.R_alloc | apply Kd.R_drewN | apply Kd.R_drew)); exact HO_5.out⟩, ⟨by repeat (first | (with_reducible first | exact HB.out | apply below_alloc | apply pw_below_drewN | apply below_drew1) | exact HB.out)⟩⟩
   case rest =>
    clear HC3
    try clear c1
    try clear p2
    try clear c4
    try clear c4b0
    try clear c5
    try clear c5b0
    try clear p2
    obtain ⟨kq, x21_2, rfl, HA, HJ2, HO_5, HB⟩ := hcut
    cases kq with
    | zero => exact absurd HA.out (by simp [insolvencyref1_plus.j1])
    | succ kj2 =>
     have H := HA.out
     clear HA
     simp only [insolvencyref1_plus.j1] at H
     by_cases c6 : x21_2 = true
     · subst c6
       have H1 : (if x7_1 < (l0.length : Int) then (if 0 ≤ x7_1 then (if x7_1 < (l1.length : Int) then (if x5_1.length < 35184372088832 then (insolvencyref1_plus.l0 kj2 l0 l1 (x5_1 ++ [(IntKind.u64.wrap ((IntKind.u64.wrap (x6_1 + (IntKind.u64.wrap (rd l0 x7_1)))) + (IntKind.u64.wrap (rd l1 x7_1)))) % 4294967296]) ((IntKind.u64.wrap ((IntKind.u64.wrap (x6_1 + (IntKind.u64.wrap (rd l0 x7_1)))) + (IntKind.u64.wrap (rd l1 x7_1)))) / 4294967296) (wrap64 (x7_1 + 1))) else (none)) else (if x5_1.length < 35184372088832 then (insolvencyref1_plus.l0 kj2 l0 l1 (x5_1 ++ [(IntKind.u64.wrap (x6_1 + (IntKind.u64.wrap (rd l0 x7_1)))) % 4294967296]) ((IntKind.u64.wrap (x6_1 + (IntKind.u64.wrap (rd l0 x7_1)))) / 4294967296) (wrap64 (x7_1 + 1))) else (none))) else (none)) else (if x7_1 < (l1.length : Int) then (if 0 ≤ x7_1 then (if x5_1.length < 35184372088832 then (insolvencyref1_plus.l0 kj2 l0 l1 (x5_1 ++ [(IntKind.u64.wrap (x6_1 + (IntKind.u64.wrap (rd l1 x7_1)))) % 4294967296]) ((IntKind.u64.wrap (x6_1 + (IntKind.u64.wrap (rd l1 x7_1)))) / 4294967296) (wrap64 (x7_1 + 1))) else (none)) else (none)) else (if x5_1.length < 35184372088832 then (insolvencyref1_plus.l0 kj2 l0 l1 (x5_1 ++ [(x6_1) % 4294967296]) (x6_1 / 4294967296) (wrap64 (x7_1 + 1))) else (none)))) = some r := by rw [if_pos rfl] at H; exact H
       clear H
       have H := H1
       clear H1
       by_cases c7 : x7_1 < (l0.length : Int)
       · rw [if_pos c7] at H
         have c7b0 : decide (x7_1 < (l0.length : Int)) = true := decide_eq_true c7
         clear c7
         by_cases c8 : 0 ≤ x7_1
         · rw [if_pos c8] at H
           have c8b0 : decide (0 ≤ x7_1) = true := decide_eq_true c8
           clear c8
           by_cases c9 : x7_1 < (l1.length : Int)
           · rw [if_pos c9] at H
             have c9b0 : decide (x7_1 < (l1.length : Int)) = true := decide_eq_true c9
             clear c9
             by_cases c10 : x5_1.length < 35184372088832
             · rw [if_pos c10] at H
               have LMc10 := Aside0.mk c10
               clear c10
               obtain ⟨y679, hy679⟩ : ∃ y_ : List Int, y_ = (x5_1 ++ [(IntKind.u64.wrap ((IntKind.u64.wrap (x6_1 + (IntKind.u64.wrap (rd l0 x7_1)))) + (IntKind.u64.wrap (rd l1 x7_1)))) % 4294967296]) := ⟨_, rfl⟩
               replace H : (insolvencyref1_plus.l0 kj2 l0 l1 y679 ((IntKind.u64.wrap ((IntKind.u64.wrap (x6_1 + (IntKind.u64.wrap (rd l0 x7_1)))) + (IntKind.u64.wrap (rd l1 x7_1)))) / 4294967296) (wrap64 (x7_1 + 1))) = some r := by first | (rw [hy679]; with_reducible exact H) | (have H2_ := (Option.bind_some _ _).symm.trans H; rw [hy679]; with_reducible exact H2_) | (have H2_ := (Option.bind_some _ _).symm.trans H; with_reducible exact H2_) | with_reducible exact H | (rw [hy679]; exact H) | exact H
               have Ny679 := Aside0.mk hy679
               clear hy679
               have H' := Aside0.mk H
               clear H
               have p677 : 0 ≤ (x7_1 : Int) := of_decide_eq_true (by first | (with_reducible assumption) | assumption)
               have q677 : x7_1 < (l0.length : Int) := of_decide_eq_true (by first | (with_reducible assumption) | assumption)
               obtain ⟨ad677, e677, hx677_0⟩ := Kd.at_int HR0.out x7_1 p677 q677
               cases e677
               replace hx677_0 := (HB.out.cell (World.block_lt_of_cell? w _ hx677_0)).trans hx677_0
               replace p677 := eq_true p677
               replace q677 := eq_true q677
               have p678 : 0 ≤ (x7_1 : Int) := of_decide_eq_true (by first | (with_reducible assumption) | assumption)
               have q678 : x7_1 < (l1.length : Int) := of_decide_eq_true (by first | (with_reducible assumption) | assumption)
               obtain ⟨ad678, e678, hx678_0⟩ := Kd.at_int HR1.out x7_1 p678 q678
               cases e678
               replace hx678_0 := (HB.out.cell (World.block_lt_of_cell? w _ hx678_0)).trans hx678_0
               replace p678 := eq_true p678
               replace q678 := eq_true q678
               go_wp2_with (first | ((with_reducible refine gate_builtin (b := .append) (xs := #[.tmp 46, .tmp 49]) rfl ?_); (try (refine gate_guard (by rfl) ?_; dsimp only)); at_builtin; refine Kd.R_append (Kd.int .u32) (w0 := w) w.heap.size rfl (.tmp 46) (.tmp 49) 49 60 (.int .u32 0) 4 rfl Tryd.underlying49 info60 rfl (by decide) (by omega) u5 x5_1 ((IntKind.u64.wrap ((IntKind.u64.wrap (x6_1 + (IntKind.u64.wrap (rd l0 x7_1)))) + (IntKind.u64.wrap (rd l1 x7_1)))) % 4294967296) [.int .u32 ((IntKind.u64.wrap ((IntKind.u64.wrap (x6_1 + (IntKind.u64.wrap (rd l0 x7_1)))) + (IntKind.u64.wrap (rd l1 x7_1)))) % 4294967296)] (fun _ => True) (fun _ => False) rfl rfl ?aP (fun _ hk => hk.elim) ?aF ?aO ?aB ?aS ?aL ?_; (case aP => exact rfl); (case aB => exact (by repeat (first | (with_reducible first | exact HB.out | apply below_alloc | apply pw_below_drewN | apply below_drew1) | exact HB.out))); (case aF => exact (fun _ _ => trivial)); (case aO => exact (by (with_reducible repeat (first | apply Kd.R_alloc | apply Kd.R_drewN | apply Kd.R_drew)); exact HO_5.out)); (case aS => exact (below_size (by repeat (first | (with_reducible first | exact HB.out | apply below_alloc | apply pw_below_drewN | apply below_drew1) | exact HB.out)))); (case aL => have := LMc10.out; omega); intro v680 w11 ho hb hg hat; rw [← Ny679.out] at ho; have n0_ := Aside0.mk (hb); have n1_ := Aside0.mk (ho); clear HB; clear HO_5; have HB := n0_; have HO681 := n1_; clear n0_ n1_; clear ho hb hg hat))
               go_roundg kj2
               case measure => have := HK1.out; have := HJ2.out; omega
               case rel => exact ⟨(y679), ((IntKind.u64.wrap ((IntKind.u64.wrap (x6_1 + (IntKind.u64.wrap (rd l0 x7_1)))) + (IntKind.u64.wrap (rd l1 x7_1)))) / 4294967296), (wrap64 (x7_1 + 1)), (by first | rfl | (simp; done) | (simp [*]; done)), (by first | rfl | (simp; done) | (simp [*]; done)), H', ⟨by have := HK1.out; have := HJ2.out; omega⟩, ⟨by (with_reducible repeat (first | apply Kd.R_alloc | apply Kd.R_drewN | apply Kd.R_drew)); exact HO681.out⟩, ⟨by repeat (first | (with_reducible first | exact HB.out | apply below_alloc | apply pw_below_drewN | apply below_drew1) | exact HB.out)⟩⟩
             · rw [if_neg c10] at H
               exact absurd H (by simp)
           · rw [if_neg c9] at H
             have c9b0 : decide (x7_1 < (l1.length : Int)) = false := decide_eq_false c9
             clear c9
             by_cases c12 : x5_1.length < 35184372088832
             · rw [if_pos c12] at H
               have LMc12 := Aside0.mk c12
               clear c12
               obtain ⟨y682, hy682⟩ : ∃ y_ : List Int, y_ = (x5_1 ++ [(IntKind.u64.wrap (x6_1 + (IntKind.u64.wrap (rd l0 x7_1)))) % 4294967296]) := ⟨_, rfl⟩
               replace H : (insolvencyref1_plus.l0 kj2 l0 l1 y682 ((IntKind.u64.wrap (x6_1 + (IntKind.u64.wrap (rd l0 x7_1)))) / 4294967296) (wrap64 (x7_1 + 1))) = some r := by first | (rw [hy682]; with_reducible exact H) | (have H2_ := (Option.bind_some _ _).symm.trans H; rw [hy682]; with_reducible exact H2_) | (have H2_ := (Option.bind_some _ _).symm.trans H; with_reducible exact H2_) | with_reducible exact H | (rw [hy682]; exact H) | exact H
               have Ny682 := Aside0.mk hy682
               clear hy682
               have H' := Aside0.mk H
               clear H
               have p677 : 0 ≤ (x7_1 : Int) := of_decide_eq_true (by first | (with_reducible assumption) | assumption)
               have q677 : x7_1 < (l0.length : Int) := of_decide_eq_true (by first | (with_reducible assumption) | assumption)
               obtain ⟨ad677, e677, hx677_0⟩ := Kd.at_int HR0.out x7_1 p677 q677
               cases e677
               replace hx677_0 := (HB.out.cell (World.block_lt_of_cell? w _ hx677_0)).trans hx677_0
               replace p677 := eq_true p677
               replace q677 := eq_true q677
               go_wp2_with (first | ((with_reducible refine gate_builtin (b := .append) (xs := #[.tmp 46, .tmp 49]) rfl ?_); (try (refine gate_guard (by rfl) ?_; dsimp only)); at_builtin; refine Kd.R_append (Kd.int .u32) (w0 := w) w.heap.size rfl (.tmp 46) (.tmp 49) 49 60 (.int .u32 0) 4 rfl Tryd.underlying49 info60 rfl (by decide) (by omega) u5 x5_1 ((IntKind.u64.wrap (x6_1 + (IntKind.u64.wrap (rd l0 x7_1)))) % 4294967296) [.int .u32 ((IntKind.u64.wrap (x6_1 + (IntKind.u64.wrap (rd l0 x7_1)))) % 4294967296)] (fun _ => True) (fun _ => False) rfl rfl ?aP (fun _ hk => hk.elim) ?aF ?aO ?aB ?aS ?aL ?_; (case aP => exact rfl); (case aB => exact (by repeat (first | (with_reducible first | exact HB.out | apply below_alloc | apply pw_below_drewN | apply below_drew1) | exact HB.out))); (case aF => exact (fun _ _ => trivial)); (case aO => exact (by (with_reducible repeat (first | apply Kd.R_alloc | apply Kd.R_drewN | apply Kd.R_drew)); exact HO_5.out)); (case aS => exact (below_size (by repeat (first | (with_reducible first | exact HB.out | apply below_alloc | apply pw_below_drewN | apply below_drew1) | exact HB.out)))); (case aL => have := LMc12.out; omega); intro v683 w13 ho hb hg hat; rw [← Ny682.out] at ho; have n0_ := Aside0.mk (hb); have n1_ := Aside0.mk (ho); clear HB; clear HO_5; have HB := n0_; have HO684 := n1_; clear n0_ n1_; clear ho hb hg hat))
               go_roundg kj2
               case measure => have := HK1.out; have := HJ2.out; omega
               case rel => exact ⟨(y682), ((IntKind.u64.wrap (x6_1 + (IntKind.u64.wrap (rd l0 x7_1)))) / 4294967296), (wrap64 (x7_1 + 1)), (by first | rfl | (simp; done) | (simp [*]; done)), (by first | rfl | (simp; done) | (simp [*]; done)), H', ⟨by have := HK1.out; have := HJ2.out; omega⟩, ⟨by (with_reducible repeat (first | apply Kd.R_alloc | apply Kd.R_drewN | apply Kd.R_drew)); exact HO684.out⟩, ⟨by repeat (first | (with_reducible first | exact HB.out | apply below_alloc | apply pw_below_drewN | apply below_drew1) | exact HB.out)⟩⟩
             · rw [if_neg c12] at H
               exact absurd H (by simp)
         · rw [if_neg c8] at H
           exact absurd H (by simp)
       · rw [if_neg c7] at H
         have c7b0 : decide (x7_1 < (l0.length : Int)) = false := decide_eq_false c7
         clear c7
         by_cases c14 : x7_1 < (l1.length : Int)
         · rw [if_pos c14] at H
           have c14b0 : decide (x7_1 < (l1.length : Int)) = true := decide_eq_true c14
           clear c14
           by_cases c15 : 0 ≤ x7_1
           · rw [if_pos c15] at H
             have c15b0 : decide (0 ≤ x7_1) = true := decide_eq_true c15
             clear c15
             by_cases c16 : x5_1.length < 35184372088832
             · rw [if_pos c16] at H
               have LMc16 := Aside0.mk c16
               clear c16
               obtain ⟨y686, hy686⟩ : ∃ y_ : List Int, y_ = (x5_1 ++ [(IntKind.u64.wrap (x6_1 + (IntKind.u64.wrap (rd l1 x7_1)))) % 4294967296]) := ⟨_, rfl⟩
               replace H : (insolvencyref1_plus.l0 kj2 l0 l1 y686 ((IntKind.u64.wrap (x6_1 + (IntKind.u64.wrap (rd l1 x7_1)))) / 4294967296) (wrap64 (x7_1 + 1))) = some r := by first | (rw [hy686]; with_reducible exact H) | (have H2_ := (Option.bind_some _ _).symm.trans H; rw [hy686]; with_reducible exact H2_) | (have H2_ := (Option.bind_some _ _).symm.trans H; with_reducible exact H2_) | with_reducible exact H | (rw [hy686]; exact H) | exact H
               have Ny686 := Aside0.mk hy686
               clear hy686
               have H' := Aside0.mk H
               clear H
               have p685 : 0 ≤ (x7_1 : Int) := of_decide_eq_true (by first | (with_reducible assumption) | assumption)
               have q685 : x7_1 < (l1.length : Int) := of_decide_eq_true (by first | (with_reducible assumption) | assumption)
               obtain ⟨ad685, e685, hx685_0⟩ := Kd.at_int HR1.out x7_1 p685 q685
               cases e685
               replace hx685_0 := (HB.out.cell (World.block_lt_of_cell? w _ hx685_0)).trans hx685_0
               replace p685 := eq_true p685
               replace q685 := eq_true q685
               go_wp2_with (first | ((with_reducible refine gate_builtin (b := .append) (xs := #[.tmp 46, .tmp 49]) rfl ?_); (try (refine gate_guard (by rfl) ?_; dsimp only)); at_builtin; refine Kd.R_append (Kd.int .u32) (w0 := w) w.heap.size rfl (.tmp 46) (.tmp 49) 49 60 (.int .u32 0) 4 rfl Tryd.underlying49 info60 rfl (by decide) (by omega) u5 x5_1 ((IntKind.u64.wrap (x6_1 + (IntKind.u64.wrap (rd l1 x7_1)))) % 4294967296) [.int .u32 ((IntKind.u64.wrap (x6_1 + (IntKind.u64.wrap (rd l1 x7_1)))) % 4294967296)] (fun _ => True) (fun _ => False) rfl rfl ?aP (fun _ hk => hk.elim) ?aF ?aO ?aB ?aS ?aL ?_; (case aP => exact rfl); (case aB => exact (by repeat (first | (with_reducible first | exact HB.out | apply below_alloc | apply pw_below_drewN | apply below_drew1) | exact HB.out))); (case aF => exact (fun _ _ => trivial)); (case aO => exact (by (with_reducible repeat (first | apply Kd.R_alloc | apply Kd.R_drewN | apply Kd.R_drew)); exact HO_5.out)); (case aS => exact (below_size (by repeat (first | (with_reducible first | exact HB.out | apply below_alloc | apply pw_below_drewN | apply below_drew1) | exact HB.out)))); (case aL => have := LMc16.out; omega); intro v687 w17 ho hb hg hat; rw [← Ny686.out] at ho; have n0_ := Aside0.mk (hb); have n1_ := Aside0.mk (ho); clear HB; clear HO_5; have HB := n0_; have HO688 := n1_; clear n0_ n1_; clear ho hb hg hat))
               go_roundg kj2
               case measure => have := HK1.out; have := HJ2.out; omega
               case rel => exact ⟨(y686), ((IntKind.u64.wrap (x6_1 + (IntKind.u64.wrap (rd l1 x7_1)))) / 4294967296), (wrap64 (x7_1 + 1)), (by first | rfl | (simp; done) | (simp [*]; done)), (by first | rfl | (simp; done) | (simp [*]; done)), H', ⟨by have := HK1.out; have := HJ2.out; omega⟩, ⟨by (with_reducible repeat (first | apply Kd.R_alloc | apply Kd.R_drewN | apply Kd.R_drew)); exact HO688.out⟩, ⟨by repeat (first | (with_reducible first | exact HB.out | apply below_alloc | apply pw_below_drewN | apply below_drew1) | exact HB.out)⟩⟩
             · rw [if_neg c16] at H
               exact absurd H (by simp)
           · rw [if_neg c15] at H
             exact absurd H (by simp)
         · rw [if_neg c14] at H
           have c14b0 : decide (x7_1 < (l1.length : Int)) = false := decide_eq_false c14
           clear c14
           by_cases c18 : x5_1.length < 35184372088832
           · rw [if_pos c18] at H
             have LMc18 := Aside0.mk c18
             clear c18
             obtain ⟨y689, hy689⟩ : ∃ y_ : List Int, y_ = (x5_1 ++ [(x6_1) % 4294967296]) := ⟨_, rfl⟩
             replace H : (insolvencyref1_plus.l0 kj2 l0 l1 y689 (x6_1 / 4294967296) (wrap64 (x7_1 + 1))) = some r := by first | (rw [hy689]; with_reducible exact H) | (have H2_ := (Option.bind_some _ _).symm.trans H; rw [hy689]; with_reducible exact H2_) | (have H2_ := (Option.bind_some _ _).symm.trans H; with_reducible exact H2_) | with_reducible exact H | (rw [hy689]; exact H) | exact H
             have Ny689 := Aside0.mk hy689
             clear hy689
             have H' := Aside0.mk H
             clear H
             go_wp2_with (first | ((with_reducible refine gate_builtin (b := .append) (xs := #[.tmp 46, .tmp 49]) rfl ?_); (try (refine gate_guard (by rfl) ?_; dsimp only)); at_builtin; refine Kd.R_append (Kd.int .u32) (w0 := w) w.heap.size rfl (.tmp 46) (.tmp 49) 49 60 (.int .u32 0) 4 rfl Tryd.underlying49 info60 rfl (by decide) (by omega) u5 x5_1 ((x6_1) % 4294967296) [.int .u32 ((x6_1) % 4294967296)] (fun _ => True) (fun _ => False) rfl rfl ?aP (fun _ hk => hk.elim) ?aF ?aO ?aB ?aS ?aL ?_; (case aP => exact rfl); (case aB => exact (by repeat (first | (with_reducible first | exact HB.out | apply below_alloc | apply pw_below_drewN | apply below_drew1) | exact HB.out))); (case aF => exact (fun _ _ => trivial)); (case aO => exact (by (with_reducible repeat (first | apply Kd.R_alloc | apply Kd.R_drewN | apply Kd.R_drew)); exact HO_5.out)); (case aS => exact (below_size (by repeat (first | (with_reducible first | exact HB.out | apply below_alloc | apply pw_below_drewN | apply below_drew1) | exact HB.out)))); (case aL => have := LMc18.out; omega); intro v690 w19 ho hb hg hat; rw [← Ny689.out] at ho; have n0_ := Aside0.mk (hb); have n1_ := Aside0.mk (ho); clear HB; clear HO_5; have HB := n0_; have HO691 := n1_; clear n0_ n1_; clear ho hb hg hat))
             go_roundg kj2
             case measure => have := HK1.out; have := HJ2.out; omega
             case rel => exact ⟨(y689), (x6_1 / 4294967296), (wrap64 (x7_1 + 1)), (by first | rfl | (simp; done) | (simp [*]; done)), (by first | rfl | (simp; done) | (simp [*]; done)), H', ⟨by have := HK1.out; have := HJ2.out; omega⟩, ⟨by (with_reducible repeat (first | apply Kd.R_alloc | apply Kd.R_drewN | apply Kd.R_drew)); exact HO691.out⟩, ⟨by repeat (first | (with_reducible first | exact HB.out | apply below_alloc | apply pw_below_drewN | apply below_drew1) | exact HB.out)⟩⟩
           · rw [if_neg c18] at H
             exact absurd H (by simp)
     · replace c6 := Bool.eq_false_iff.mpr c6
       subst c6
       have H1 : (some x5_1) = some r := by rw [if_neg (show ¬ (false = true) by decide)] at H; exact H
       clear H
       have H := H1
       clear H1
       obtain rfl := Option.some.inj H
       go_wp2
       go_ret
       exact ⟨_, by first | rfl | (simp [errW_none, errW_some] <;> rfl) | (simp [*, errW_none, errW_some] <;> rfl), by (with_reducible repeat (first | apply Kd.R_alloc | apply Kd.R_drewN | apply Kd.R_drew)); exact HO_5.out, by repeat (first | (with_reducible first | exact HB.out | apply below_alloc | apply pw_below_drewN | apply below_drew1) | exact HB.out)⟩
end Go.Proofs.YtjaflmhdclmolaaDoor.F
end
section
namespace Go.Proofs.YtjaflmhdclmolaaDoor.F
open Go.RowKit Go.Proofs.YtjaflmhdclmolaaDoorW.PrintWords Go.Proofs.YtjaflmhdclmolaaDoorW.PrintLast Go.Proofs.YtjaflmhdclmolaaDoorW.PrintMore
attribute [local go_sem] max2_int min2_int max_two min_two max_three min_three max_four min_four   
set_option linter.unusedVariables false
set_option linter.unusedSimpArgs false
def insolvencyref1_NatAdd.f (k : Nat) (a0 : ByteArray) (a1 : ByteArray) : Option (ByteArray) := (insolvencyref1_limbs.f k a0).bind fun t692 => ((insolvencyref1_limbs.f k a1).bind fun t695 => ((insolvencyref1_plus.f k t692 t695).bind fun t698 => ((insolvencyref1_text.f k t698).bind fun t701 => (some t701))))
theorem insolvencyref1_NatAdd.mono : ∀ a0 a1 k, LeO (insolvencyref1_NatAdd.f k a0 a1) (insolvencyref1_NatAdd.f (k + 1) a0 a1) := by
 intro a0 a1 k
 unfold insolvencyref1_NatAdd.f
 repeat' first
  | (with_reducible exact insolvencyref1_limbs.mono _ _)
  | (with_reducible exact insolvencyref1_plus.mono _ _ _)
  | (with_reducible exact insolvencyref1_text.mono _ _)
  | (with_reducible exact LeO.refl _)
  | (with_reducible exact LeO.none _)
  | (with_reducible refine LeO.ite ?_ ?_)
  | (with_reducible refine LeO.bind ?_ (fun _ => ?_))
  | exact insolvencyref1_limbs.mono _ _
  | exact insolvencyref1_plus.mono _ _ _
  | exact insolvencyref1_text.mono _ _
  | exact LeO.none _
  | refine LeO.ite ?_ ?_
  | refine LeO.bind ?_ (fun _ => ?_)
set_option maxHeartbeats 8000000 in
set_option maxRecDepth 100000 in
theorem insolvencyref1_NatAdd.calls (k : Nat) (a0 : ByteArray) (a1 : ByteArray) (r : ByteArray) (w : World) (h : insolvencyref1_NatAdd.f k a0 a1 = some r) :
 Calls Tryd.prog 40 #[.string a0, .string a1] w fun e w' => e = .returned (.string r) ∧ Below w.heap.size w w' := by
 have HB := Aside0.mk (Below.refl w.heap.size w)
 have H : ((insolvencyref1_limbs.f k a0).bind fun t692 => ((insolvencyref1_limbs.f k a1).bind fun t695 => ((insolvencyref1_plus.f k t692 t695).bind fun t698 => ((insolvencyref1_text.f k t698).bind fun t701 => (some t701))))) = some r := h
 clear h
 replace H := Option.bind_eq_some_iff.mp H
 obtain ⟨t692, A30, H⟩ := H
 replace H : ((insolvencyref1_limbs.f k a1).bind fun t695 => ((insolvencyref1_plus.f k t692 t695).bind fun t698 => ((insolvencyref1_text.f k t698).bind fun t701 => (some t701)))) = some r := H
 have A3 := Aside0.mk A30
 clear A30
 replace H := Option.bind_eq_some_iff.mp H
 obtain ⟨t695, A40, H⟩ := H
 replace H : ((insolvencyref1_plus.f k t692 t695).bind fun t698 => ((insolvencyref1_text.f k t698).bind fun t701 => (some t701))) = some r := H
 have A4 := Aside0.mk A40
 clear A40
 replace H := Option.bind_eq_some_iff.mp H
 obtain ⟨t698, A50, H⟩ := H
 replace H : ((insolvencyref1_text.f k t698).bind fun t701 => (some t701)) = some r := H
 have A5 := Aside0.mk A50
 clear A50
 replace H := Option.bind_eq_some_iff.mp H
 obtain ⟨t701, A60, H⟩ := H
 replace H : (some t701) = some r := H
 have A6 := Aside0.mk A60
 clear A60
 obtain rfl := Option.some.inj H
 go_enter Tryd.func40, Tryd.ntmps40
 go_wp2_with (first | ((with_reducible refine gate_callee (f := 45) rfl ?_); refine goesL_ (some 6) rfl rfl Tryd.func45 (by kernel_rfl) rfl #[.string a0] rfl (by (try simp only [List.map_toArray, List.map_cons, List.map_nil]); first | done | rfl | (simp only [List.length_drop, List.length_take]; rfl)) ?_; (with_reducible refine (insolvencyref1_limbs.calls k a0 t692 _ A3.out).mono ?_); rintro e w7 ⟨v693, rfl, ho0, hb⟩; refine ⟨_, rfl, ?_⟩; have n0_ := Aside0.mk (Kd.R_lower ho0 (below_size (by repeat (first | (with_reducible first | exact HB.out | apply below_alloc | apply pw_below_drewN | apply below_drew1) | exact HB.out)))); have n1_ := Aside0.mk (below_step (by repeat (first | (with_reducible first | exact HB.out | apply below_alloc | apply pw_below_drewN | apply below_drew1) | exact HB.out)) hb); clear HB; have HO694 := n0_; have HB := n1_; clear n0_ n1_; (try clear hb); (try clear hb2); (try clear hk); (try clear hi); (try clear ho0)) | ((with_reducible refine gate_callee (f := 45) rfl ?_); refine goesL_ (some 8) rfl rfl Tryd.func45 (by kernel_rfl) rfl #[.string a1] rfl (by (try simp only [List.map_toArray, List.map_cons, List.map_nil]); first | done | rfl | (simp only [List.length_drop, List.length_take]; rfl)) ?_; (with_reducible refine (insolvencyref1_limbs.calls k a1 t695 _ A4.out).mono ?_); rintro e w8 ⟨v696, rfl, ho0, hb⟩; refine ⟨_, rfl, ?_⟩; have n0_ := Aside0.mk (Kd.R_elder' (by (with_reducible repeat (first | apply Kd.R_alloc | apply Kd.R_drewN | apply Kd.R_drew)); exact HO694.out) (Kd.R_base ho0) hb); have n1_ := Aside0.mk (Kd.R_lower (Kd.R_new' ho0 (Kd.R_lt (by (with_reducible repeat (first | apply Kd.R_alloc | apply Kd.R_drewN | apply Kd.R_drew)); exact HO694.out))) (below_size (by repeat (first | (with_reducible first | exact HB.out | apply below_alloc | apply pw_below_drewN | apply below_drew1) | exact HB.out)))); have n2_ := Aside0.mk (below_step (by repeat (first | (with_reducible first | exact HB.out | apply below_alloc | apply pw_below_drewN | apply below_drew1) | exact HB.out)) hb); clear HO694; clear HB; have HO694 := n0_; have HO697 := n1_; have HB := n2_; clear n0_ n1_ n2_; (try clear hb); (try clear hb2); (try clear hk); (try clear hi); (try clear ho0); obtain ⟨Ao9, co9, eo9⟩ := Kd.R_slice HO694.out; subst eo9; obtain ⟨Ao10, co10, eo10⟩ := Kd.R_slice HO697.out; subst eo10) | ((with_reducible refine gate_callee (f := 65) rfl ?_); refine goesL_ (some 9) rfl rfl Tryd.func65 (by kernel_rfl) rfl #[.slice Ao9 t692.length co9, .slice Ao10 t695.length co10] rfl (by (try simp only [List.map_toArray, List.map_cons, List.map_nil]); first | done | rfl | (simp only [List.length_drop, List.length_take]; rfl)) ?_; (with_reducible refine (insolvencyref1_plus.calls k _ _ t692 _ _ t695 t698 _ ?side1 ?side2 ?side3 ?side4 A5.out).mono ?_); (case side1 => repeat (first | exact (Kd.R_reads' HO694.out).2.2 | (with_reducible refine Kd.C_alloc ?_ _) | (with_reducible refine Kd.C_drewN ?_ _) | (with_reducible refine Kd.C_drew ?_))); (case side2 => exact (Kd.R_reads' HO694.out).2.1); (case side3 => repeat (first | exact (Kd.R_reads' HO697.out).2.2 | (with_reducible refine Kd.C_alloc ?_ _) | (with_reducible refine Kd.C_drewN ?_ _) | (with_reducible refine Kd.C_drew ?_))); (case side4 => exact (Kd.R_reads' HO697.out).2.1); rintro e w11 ⟨v699, rfl, ho0, hb⟩; refine ⟨_, rfl, ?_⟩; have n0_ := Aside0.mk (Kd.R_elder' (by (with_reducible repeat (first | apply Kd.R_alloc | apply Kd.R_drewN | apply Kd.R_drew)); exact HO694.out) (Kd.R_base ho0) hb); have n1_ := Aside0.mk (Kd.R_elder' (by (with_reducible repeat (first | apply Kd.R_alloc | apply Kd.R_drewN | apply Kd.R_drew)); exact HO697.out) (Kd.R_base ho0) hb); have n2_ := Aside0.mk (Kd.R_lower (Kd.R_new' (Kd.R_new' ho0 (Kd.R_lt (by (with_reducible repeat (first | apply Kd.R_alloc | apply Kd.R_drewN | apply Kd.R_drew)); exact HO694.out))) (Kd.R_lt (by (with_reducible repeat (first | apply Kd.R_alloc | apply Kd.R_drewN | apply Kd.R_drew)); exact HO697.out))) (below_size (by repeat (first | (with_reducible first | exact HB.out | apply below_alloc | apply pw_below_drewN | apply below_drew1) | exact HB.out)))); have n3_ := Aside0.mk (below_step (by repeat (first | (with_reducible first | exact HB.out | apply below_alloc | apply pw_below_drewN | apply below_drew1) | exact HB.out)) hb); clear HO694; clear HO697; clear HB; have HO694 := n0_; have HO697 := n1_; have HO700 := n2_; have HB := n3_; clear n0_ n1_ n2_ n3_; (try clear hb); (try clear hb2); (try clear hk); (try clear hi); (try clear ho0); obtain ⟨Ao12, co12, eo12⟩ := Kd.R_slice HO700.out; subst eo12) | ((with_reducible refine gate_callee (f := 47) rfl ?_); refine goesL_ (some 10) rfl rfl Tryd.func47 (by kernel_rfl) rfl #[.slice Ao12 t698.length co12] rfl (by (try simp only [List.map_toArray, List.map_cons, List.map_nil]); first | done | rfl | (simp only [List.length_drop, List.length_take]; rfl)) ?_; (with_reducible refine (insolvencyref1_text.calls k (fun k_ => some k_ = (.slice Ao12 t698.length co12 : Value).ownBlock) (.slice Ao12 t698.length co12) t698 t701 w _ ?side1 ?side2 A6.out).mono ?_); (case side1 => repeat (first | (with_reducible first | exact HB.out | apply below_alloc | apply pw_below_drewN | apply below_drew1) | exact HB.out)); (case side2 => exact Kd.R_tight rfl HO700.out); rintro e w13 ⟨rfl, hb, hkp⟩; refine ⟨_, rfl, ?_⟩; have n0_ := Aside0.mk (Kd.R_mono (ok' := fun k_ => some k_ ≠ (.slice Ao10 t695.length co10 : Value).ownBlock) (Kd.R_keptB (HO694.out) hkp (fun k_ hk_ hs_ => (hk_.2) hs_)) (fun k_ hk_ => hk_.1.1.2)); have n1_ := Aside0.mk (Kd.R_mono (ok' := fun k_ => some k_ ≠ (.slice Ao9 t692.length co9 : Value).ownBlock) (Kd.R_keptB (HO697.out) hkp (fun k_ hk_ hs_ => (hk_.2) hs_)) (fun k_ hk_ => hk_.1.1.2)); have n2_ := Aside0.mk (hb); clear HO694; clear HO697; clear HB; clear HO700; have HO694 := n0_; have HO697 := n1_; have HB := n2_; clear n0_ n1_ n2_; (try clear hb); (try clear hkp)))
 go_ret
 exact ⟨by first | rfl | (simp [errW_none, errW_some] <;> rfl) | (simp [*, errW_none, errW_some] <;> rfl), by repeat (first | (with_reducible first | exact HB.out | apply below_alloc | apply pw_below_drewN | apply below_drew1) | exact HB.out)⟩
end Go.Proofs.YtjaflmhdclmolaaDoor.F
end
section
namespace Go.Proofs.YtjaflmhdclmolaaDoor.F
open Go.RowKit Go.Proofs.YtjaflmhdclmolaaDoorW.PrintWords Go.Proofs.YtjaflmhdclmolaaDoorW.PrintLast Go.Proofs.YtjaflmhdclmolaaDoorW.PrintMore
attribute [local go_sem] max2_int min2_int max_two min_two max_three min_three max_four min_four   
set_option linter.unusedVariables false
set_option linter.unusedSimpArgs false
def insolvencyref1_minus.l0 : Nat → List Int → List Int → List Int → Int → Int → Option (List Int)
 | 0, _, _, _, _, _ => none
 | k + 1, x0, x1, x5, x6, x7 => if x7 < (x0.length : Int) then (if x7 < (x1.length : Int) then (if 0 ≤ x7 then (if (IntKind.u64.wrap (rd x0 x7)) < (IntKind.u64.wrap (x6 + (IntKind.u64.wrap (rd x1 x7)))) then (if x7 < (x5.length : Int) then (insolvencyref1_minus.l0 k x0 x1 (x5.set (x7 : Int).toNat ((IntKind.u64.wrap ((IntKind.u64.wrap ((IntKind.u64.wrap (rd x0 x7)) + 4294967296)) - (IntKind.u64.wrap (x6 + (IntKind.u64.wrap (rd x1 x7)))))) % 4294967296)) 1 (wrap64 (x7 + 1))) else (none)) else (if x7 < (x5.length : Int) then (insolvencyref1_minus.l0 k x0 x1 (x5.set (x7 : Int).toNat ((IntKind.u64.wrap ((IntKind.u64.wrap (rd x0 x7)) - (IntKind.u64.wrap (x6 + (IntKind.u64.wrap (rd x1 x7)))))) % 4294967296)) 0 (wrap64 (x7 + 1))) else (none))) else (none)) else (if 0 ≤ x7 then (if (IntKind.u64.wrap (rd x0 x7)) < x6 then (if x7 < (x5.length : Int) then (insolvencyref1_minus.l0 k x0 x1 (x5.set (x7 : Int).toNat ((IntKind.u64.wrap ((IntKind.u64.wrap ((IntKind.u64.wrap (rd x0 x7)) + 4294967296)) - x6)) % 4294967296)) 1 (wrap64 (x7 + 1))) else (none)) else (if x7 < (x5.length : Int) then (insolvencyref1_minus.l0 k x0 x1 (x5.set (x7 : Int).toNat ((IntKind.u64.wrap ((IntKind.u64.wrap (rd x0 x7)) - x6)) % 4294967296)) 0 (wrap64 (x7 + 1))) else (none))) else (none))) else ((insolvencyref1_strip.f k x5).bind fun t656 => (some t656))
def insolvencyref1_minus.f (k : Nat) (l0 : List Int) (l1 : List Int) : Option (List Int) := if 0 ≤ (l0.length : Int) then (if ((l0.length : Int) : Int).toNat ≤ 70368744177664 then (insolvencyref1_minus.l0 k l0 l1 (List.replicate ((l0.length : Int) : Int).toNat 0) 0 0) else (none)) else (none)
theorem insolvencyref1_minus.mono_l : ∀ k, (∀ y0 y1 y2 y3 y4, LeO (insolvencyref1_minus.l0 k y0 y1 y2 y3 y4) (insolvencyref1_minus.l0 (k + 1) y0 y1 y2 y3 y4))
 | 0 => fun _ _ _ _ _ r h => by simp [insolvencyref1_minus.l0] at h
 | k + 1 => by
  have ih0 := insolvencyref1_minus.mono_l k
  · intro y0 y1 y2 y3 y4
    unfold insolvencyref1_minus.l0
    repeat' first
    | (with_reducible exact ih0 _ _ _ _ _)
    | (with_reducible exact insolvencyref1_strip.mono _ _)
    | (with_reducible exact LeO.refl _)
    | (with_reducible exact LeO.none _)
    | (with_reducible refine LeO.ite ?_ ?_)
    | (with_reducible refine LeO.bind ?_ (fun _ => ?_))
    | exact ih0 _ _ _ _ _
    | exact insolvencyref1_strip.mono _ _
    | exact LeO.none _
    | refine LeO.ite ?_ ?_
    | refine LeO.bind ?_ (fun _ => ?_)
theorem insolvencyref1_minus.mono : ∀ a0 a1 k, LeO (insolvencyref1_minus.f k a0 a1) (insolvencyref1_minus.f (k + 1) a0 a1) := by
 intro a0 a1 k
 have ih0 := insolvencyref1_minus.mono_l k
 unfold insolvencyref1_minus.f
 repeat' first
  | (with_reducible exact ih0 _ _ _ _ _)
  | (with_reducible exact insolvencyref1_strip.mono _ _)
  | (with_reducible exact LeO.refl _)
  | (with_reducible exact LeO.none _)
  | (with_reducible refine LeO.ite ?_ ?_)
  | (with_reducible refine LeO.bind ?_ (fun _ => ?_))
  | exact ih0 _ _ _ _ _
  | exact insolvencyref1_strip.mono _ _
  | exact LeO.none _
  | refine LeO.ite ?_ ?_
  | refine LeO.bind ?_ (fun _ => ?_)
set_option maxHeartbeats 8000000 in
set_option maxRecDepth 100000 in
theorem insolvencyref1_minus.calls (k : Nat) (A0 : Option Addr) (c0 : Nat) (l0 : List Int) (A1 : Option Addr) (c1 : Nat) (l1 : List Int) (r : List Int) (w : World) (hr0 : Kd.C (Kd.int .u32) w A0 l0.length l0) (hc0 : l0.length ≤ c0) (hr1 : Kd.C (Kd.int .u32) w A1 l1.length l1) (hc1 : l1.length ≤ c1) (h : insolvencyref1_minus.f k l0 l1 = some r) :
 Calls Tryd.prog 64 #[.slice A0 l0.length c0, .slice A1 l1.length c1] w fun e w' => ∃ v0_ : Value, e = .returned (v0_) ∧ Kd.R (Kd.int .u32) 60 w' w.heap.size (fun _ => True) v0_ r ∧ Below w.heap.size w w' := by
 have HR0 := Aside0.mk hr0
 have HC0 := Aside0.mk hc0
 clear hr0 hc0
 have HR1 := Aside0.mk hr1
 have HC1 := Aside0.mk hc1
 clear hr1 hc1
 have HB := Aside0.mk (Below.refl w.heap.size w)
 have H : (if 0 ≤ (l0.length : Int) then (if ((l0.length : Int) : Int).toNat ≤ 70368744177664 then (insolvencyref1_minus.l0 k l0 l1 (List.replicate ((l0.length : Int) : Int).toNat 0) 0 0) else (none)) else (none)) = some r := h
 clear h
 by_cases c3 : 0 ≤ (l0.length : Int)
 · rw [if_pos c3] at H
   have c3b0 := eq_true c3
   have c3b1 : decide (0 ≤ (l0.length : Int)) = true := decide_eq_true c3
   clear c3
   by_cases c4 : ((l0.length : Int) : Int).toNat ≤ 70368744177664
   · rw [if_pos c4] at H
     have c4b0 := eq_true c4
     have c4b1 : decide (((l0.length : Int) : Int).toNat ≤ 70368744177664) = true := decide_eq_true c4
     clear c4
     obtain ⟨y653, hy653⟩ : ∃ y_ : List Int, y_ = (List.replicate ((l0.length : Int) : Int).toNat 0) := ⟨_, rfl⟩
     replace H : (insolvencyref1_minus.l0 k l0 l1 y653 0 0) = some r := by first | (rw [hy653]; with_reducible exact H) | (have H2_ := (Option.bind_some _ _).symm.trans H; rw [hy653]; with_reducible exact H2_) | (have H2_ := (Option.bind_some _ _).symm.trans H; with_reducible exact H2_) | with_reducible exact H | (rw [hy653]; exact H) | exact H
     have Ny653 := Aside0.mk hy653
     clear hy653
     have H' := Aside0.mk H
     clear H
     go_enter Tryd.func64, Tryd.ntmps64
     go_wp2_with (first | ((with_reducible refine gate_dst (N := 12) rfl ?_); refine Kd.R_make (Kd.int .u32) _ 60 rfl (N := 12) rfl 49 _ _ rfl (l0.length : Int) rfl rfl Tryd.underlying49 (.int .u32 0) 4 info60 rfl (by decide) (by omega) 0 (ok := fun _ => True) (okp := fun _ => True) rfl (fun _ hk => hk) trivial (of_decide_eq_true (by first | (with_reducible assumption) | assumption)) (Nat.le_trans (Nat.mul_le_mul_right _ (of_decide_eq_true (by first | (with_reducible assumption) | assumption) : (l0.length : Int).toNat ≤ 70368744177664)) (by omega)) (Below.refl _ _) (Nat.le_refl _) ?_; intro v654 w5 ho6 hb hg_ hnew_; clear hg_ hnew_; (first | rw [← Ny653.out] at ho6 | (simp only [Int.reduceToNat] at ho6; rw [← Ny653.out] at ho6)); have n0_ := Aside0.mk (Kd.R_lower ho6 (below_size (by repeat (first | (with_reducible first | exact HB.out | apply below_alloc | apply pw_below_drewN | apply below_drew1) | exact HB.out)))); have n1_ := Aside0.mk (below_step (by repeat (first | (with_reducible first | exact HB.out | apply below_alloc | apply pw_below_drewN | apply below_drew1) | exact HB.out)) hb); clear HB; have HO655 := n0_; have HB := n1_; clear n0_ n1_; clear hb ho6))
     go_loopg [6, 7] k (fun kq v6 v7 w' => ∃ (x5_1 : List Int) (x6_1 : Int) (x7_1 : Int), v6 = .int .u64 x6_1 ∧ v7 = .int .i64 x7_1 ∧ Aside0 (insolvencyref1_minus.l0 kq l0 l1 x5_1 x6_1 x7_1 = some r) ∧ Aside0 (kq ≤ k) ∧ Aside0 (Kd.R (Kd.int .u32) 60 w' w.heap.size (fun _ => True) v654 x5_1) ∧ Aside0 (Below w.heap.size w w'))
     case atStart => exact ⟨(y653), (0), (0), (by first | rfl | (simp; done) | (simp [*]; done)), (by first | rfl | (simp; done) | (simp [*]; done)), H', ⟨Nat.le_refl _⟩, ⟨by (with_reducible repeat (first | apply Kd.R_alloc | apply Kd.R_drewN | apply Kd.R_drew)); exact HO655.out⟩, ⟨by repeat (first | (with_reducible first | exact HB.out | apply below_alloc | apply pw_below_drewN | apply below_drew1) | exact HB.out)⟩⟩
     case round =>
      clear H'
      try clear c1
      try clear p2
      try clear c3
      try clear c3b0
      try clear c3b1
      try clear c4
      try clear c4b0
      try clear c4b1
      try clear c6
      obtain ⟨x5_1, x6_1, x7_1, rfl, rfl, HA, HK1, HO_5, HB⟩ := hrel
      cases gk with
      | zero => exact absurd HA.out (by simp [insolvencyref1_minus.l0])
      | succ k1 =>
       have H := HA.out
       clear HA
       simp only [insolvencyref1_minus.l0] at H
       by_cases c7 : x7_1 < (l0.length : Int)
       · rw [if_pos c7] at H
         have c7b0 : decide (x7_1 < (l0.length : Int)) = true := decide_eq_true c7
         clear c7
         by_cases c8 : x7_1 < (l1.length : Int)
         · rw [if_pos c8] at H
           have c8b0 : decide (x7_1 < (l1.length : Int)) = true := decide_eq_true c8
           clear c8
           by_cases c9 : 0 ≤ x7_1
           · rw [if_pos c9] at H
             have c9b0 : decide (0 ≤ x7_1) = true := decide_eq_true c9
             clear c9
             by_cases c10 : (IntKind.u64.wrap (rd l0 x7_1)) < (IntKind.u64.wrap (x6_1 + (IntKind.u64.wrap (rd l1 x7_1))))
             · rw [if_pos c10] at H
               have c10b0 : decide ((IntKind.u64.wrap (rd l0 x7_1)) < (IntKind.u64.wrap (x6_1 + (IntKind.u64.wrap (rd l1 x7_1))))) = true := decide_eq_true c10
               clear c10
               by_cases c11 : x7_1 < (x5_1.length : Int)
               · rw [if_pos c11] at H
                 have c11b0 : decide (x7_1 < (x5_1.length : Int)) = true := decide_eq_true c11
                 clear c11
                 obtain ⟨y661, hy661⟩ : ∃ y_ : List Int, y_ = (x5_1.set (x7_1 : Int).toNat ((IntKind.u64.wrap ((IntKind.u64.wrap ((IntKind.u64.wrap (rd l0 x7_1)) + 4294967296)) - (IntKind.u64.wrap (x6_1 + (IntKind.u64.wrap (rd l1 x7_1)))))) % 4294967296)) := ⟨_, rfl⟩
                 replace H : (insolvencyref1_minus.l0 k1 l0 l1 y661 1 (wrap64 (x7_1 + 1))) = some r := by first | (rw [hy661]; with_reducible exact H) | (have H2_ := (Option.bind_some _ _).symm.trans H; rw [hy661]; with_reducible exact H2_) | (have H2_ := (Option.bind_some _ _).symm.trans H; with_reducible exact H2_) | with_reducible exact H | (rw [hy661]; exact H) | exact H
                 have Ny661 := Aside0.mk hy661
                 clear hy661
                 have H' := Aside0.mk H
                 clear H
                 have p659 : 0 ≤ (x7_1 : Int) := of_decide_eq_true (by first | (with_reducible assumption) | assumption)
                 have q659 : x7_1 < (l1.length : Int) := of_decide_eq_true (by first | (with_reducible assumption) | assumption)
                 obtain ⟨ad659, e659, hx659_0⟩ := Kd.at_int HR1.out x7_1 p659 q659
                 cases e659
                 replace hx659_0 := (HB.out.cell (World.block_lt_of_cell? w _ hx659_0)).trans hx659_0
                 replace p659 := eq_true p659
                 replace q659 := eq_true q659
                 have p660 : 0 ≤ (x7_1 : Int) := of_decide_eq_true (by first | (with_reducible assumption) | assumption)
                 have q660 : x7_1 < (l0.length : Int) := of_decide_eq_true (by first | (with_reducible assumption) | assumption)
                 obtain ⟨ad660, e660, hx660_0⟩ := Kd.at_int HR0.out x7_1 p660 q660
                 cases e660
                 replace hx660_0 := (HB.out.cell (World.block_lt_of_cell? w _ hx660_0)).trans hx660_0
                 replace p660 := eq_true p660
                 replace q660 := eq_true q660
                 have p12 : 0 ≤ (x7_1 : Int) := of_decide_eq_true (by first | (with_reducible assumption) | assumption)
                 have q12 : (x7_1 : Int) < ((x5_1.length : Int) : Int) := of_decide_eq_true (by first | (with_reducible assumption) | assumption)
                 obtain ⟨go12, co12, eo12, gb12, gl12, cl12, HG12⟩ := Kd.R_form HO_5.out (by omega)
                 (first | cases eo12 | (injection eo12 with ea_ en_ ec_; (first | subst ea_ | (injection ea_ with ea_; subst ea_)); subst ec_; clear en_))
                 have GB12 := Aside0.mk gb12
                 have GG12 := Aside0.mk HG12
                 clear gb12 gl12 HG12
                 obtain ⟨hx12_0, hf12_0⟩ := Kd.R_celln 0 HO_5.out (x7_1 : Int) p12 q12
                 replace p12 := eq_true p12
                 replace q12 := eq_true q12
                 have HP13 := Kd.R_putg HO_5.out (x7_1 : Int) ((IntKind.u64.wrap ((IntKind.u64.wrap ((IntKind.u64.wrap (rd l0 x7_1)) + 4294967296)) - (IntKind.u64.wrap (x6_1 + (IntKind.u64.wrap (rd l1 x7_1)))))) % 4294967296)
                 go_wp2_with (first | ((with_reducible refine gate_store (t := 60) (p := 47) rfl ?_); refine store_event (t := 60) (p := 47) (v := ?vo_w14) (w1 := (wr.setCell ⟨go12, (x7_1 : Int).toNat, none⟩ (.int .u32 ((IntKind.u64.wrap ((IntKind.u64.wrap ((IntKind.u64.wrap (rd l0 x7_1)) + 4294967296)) - (IntKind.u64.wrap (x6_1 + (IntKind.u64.wrap (rd l1 x7_1)))))) % 4294967296)))) ?hg ?ho ?hn ?hr ?_; (case ho => rfl); (case hg => rfl); (case hn => rfl); (case hr => first | (go_simp; done) | (go_simp; rfl)); intro w14 hw; have hg : wr.grownBy w14 (some go12) := (by rw [hw]; exact HP13.2); have hp_ : Kd.R (Kd.int .u32) 60 w14 w.heap.size (fun _ => True) (.slice (some ⟨go12, 0, none⟩) x5_1.length co12) y661 := (by rw [hw, Ny661.out]; exact HP13.1); clear HP13; have n0_ := Aside0.mk (hp_); have n1_ := Aside0.mk ((by rw [hw]; exact below_set (HB.out) GB12.out : Below w.heap.size w w14)); clear HO_5; clear HB; have HO_5 := n0_; have HB := n1_; clear n0_ n1_; clear hg hw hp_))
                 go_roundg k1
                 case measure => have := HK1.out; omega
                 case rel => exact ⟨(y661), (1), (wrap64 (x7_1 + 1)), (by first | rfl | (simp; done) | (simp [*]; done)), (by first | rfl | (simp; done) | (simp [*]; done)), H', ⟨by have := HK1.out; omega⟩, ⟨by (with_reducible repeat (first | apply Kd.R_alloc | apply Kd.R_drewN | apply Kd.R_drew)); exact HO_5.out⟩, ⟨by repeat (first | (with_reducible first | exact HB.out | apply below_alloc | apply pw_below_drewN | apply below_drew1) | exact HB.out)⟩⟩
               · rw [if_neg c11] at H
                 exact absurd H (by simp)
             · rw [if_neg c10] at H
               have c10b0 : decide ((IntKind.u64.wrap (rd l0 x7_1)) < (IntKind.u64.wrap (x6_1 + (IntKind.u64.wrap (rd l1 x7_1))))) = false := decide_eq_false c10
               clear c10
               by_cases c15 : x7_1 < (x5_1.length : Int)
               · rw [if_pos c15] at H
                 have c15b0 : decide (x7_1 < (x5_1.length : Int)) = true := decide_eq_true c15
                 clear c15
                 obtain ⟨y662, hy662⟩ : ∃ y_ : List Int, y_ = (x5_1.set (x7_1 : Int).toNat ((IntKind.u64.wrap ((IntKind.u64.wrap (rd l0 x7_1)) - (IntKind.u64.wrap (x6_1 + (IntKind.u64.wrap (rd l1 x7_1)))))) % 4294967296)) := ⟨_, rfl⟩
                 replace H : (insolvencyref1_minus.l0 k1 l0 l1 y662 0 (wrap64 (x7_1 + 1))) = some r := by first | (rw [hy662]; with_reducible exact H) | (have H2_ := (Option.bind_some _ _).symm.trans H; rw [hy662]; with_reducible exact H2_) | (have H2_ := (Option.bind_some _ _).symm.trans H; with_reducible exact H2_) | with_reducible exact H | (rw [hy662]; exact H) | exact H
                 have Ny662 := Aside0.mk hy662
                 clear hy662
                 have H' := Aside0.mk H
                 clear H
                 have p659 : 0 ≤ (x7_1 : Int) := of_decide_eq_true (by first | (with_reducible assumption) | assumption)
                 have q659 : x7_1 < (l1.length : Int) := of_decide_eq_true (by first | (with_reducible assumption) | assumption)
                 obtain ⟨ad659, e659, hx659_0⟩ := Kd.at_int HR1.out x7_1 p659 q659
                 cases e659
                 replace hx659_0 := (HB.out.cell (World.block_lt_of_cell? w _ hx659_0)).trans hx659_0
                 replace p659 := eq_true p659
                 replace q659 := eq_true q659
                 have p660 : 0 ≤ (x7_1 : Int) := of_decide_eq_true (by first | (with_reducible assumption) | assumption)
                 have q660 : x7_1 < (l0.length : Int) := of_decide_eq_true (by first | (with_reducible assumption) | assumption)
                 obtain ⟨ad660, e660, hx660_0⟩ := Kd.at_int HR0.out x7_1 p660 q660
                 cases e660
                 replace hx660_0 := (HB.out.cell (World.block_lt_of_cell? w _ hx660_0)).trans hx660_0
                 replace p660 := eq_true p660
                 replace q660 := eq_true q660
                 have p16 : 0 ≤ (x7_1 : Int) := of_decide_eq_true (by first | (with_reducible assumption) | assumption)
                 have q16 : (x7_1 : Int) < ((x5_1.length : Int) : Int) := of_decide_eq_true (by first | (with_reducible assumption) | assumption)
                 obtain ⟨go16, co16, eo16, gb16, gl16, cl16, HG16⟩ := Kd.R_form HO_5.out (by omega)
                 (first | cases eo16 | (injection eo16 with ea_ en_ ec_; (first | subst ea_ | (injection ea_ with ea_; subst ea_)); subst ec_; clear en_))
                 have GB16 := Aside0.mk gb16
                 have GG16 := Aside0.mk HG16
                 clear gb16 gl16 HG16
                 obtain ⟨hx16_0, hf16_0⟩ := Kd.R_celln 0 HO_5.out (x7_1 : Int) p16 q16
                 replace p16 := eq_true p16
                 replace q16 := eq_true q16
                 have HP17 := Kd.R_putg HO_5.out (x7_1 : Int) ((IntKind.u64.wrap ((IntKind.u64.wrap (rd l0 x7_1)) - (IntKind.u64.wrap (x6_1 + (IntKind.u64.wrap (rd l1 x7_1)))))) % 4294967296)
                 go_wp2_with (first | ((with_reducible refine gate_store (t := 60) (p := 47) rfl ?_); refine store_event (t := 60) (p := 47) (v := ?vo_w18) (w1 := (wr.setCell ⟨go16, (x7_1 : Int).toNat, none⟩ (.int .u32 ((IntKind.u64.wrap ((IntKind.u64.wrap (rd l0 x7_1)) - (IntKind.u64.wrap (x6_1 + (IntKind.u64.wrap (rd l1 x7_1)))))) % 4294967296)))) ?hg ?ho ?hn ?hr ?_; (case ho => rfl); (case hg => rfl); (case hn => rfl); (case hr => first | (go_simp; done) | (go_simp; rfl)); intro w18 hw; have hg : wr.grownBy w18 (some go16) := (by rw [hw]; exact HP17.2); have hp_ : Kd.R (Kd.int .u32) 60 w18 w.heap.size (fun _ => True) (.slice (some ⟨go16, 0, none⟩) x5_1.length co16) y662 := (by rw [hw, Ny662.out]; exact HP17.1); clear HP17; have n0_ := Aside0.mk (hp_); have n1_ := Aside0.mk ((by rw [hw]; exact below_set (HB.out) GB16.out : Below w.heap.size w w18)); clear HO_5; clear HB; have HO_5 := n0_; have HB := n1_; clear n0_ n1_; clear hg hw hp_))
                 go_roundg k1
                 case measure => have := HK1.out; omega
                 case rel => exact ⟨(y662), (0), (wrap64 (x7_1 + 1)), (by first | rfl | (simp; done) | (simp [*]; done)), (by first | rfl | (simp; done) | (simp [*]; done)), H', ⟨by have := HK1.out; omega⟩, ⟨by (with_reducible repeat (first | apply Kd.R_alloc | apply Kd.R_drewN | apply Kd.R_drew)); exact HO_5.out⟩, ⟨by repeat (first | (with_reducible first | exact HB.out | apply below_alloc | apply pw_below_drewN | apply below_drew1) | exact HB.out)⟩⟩
               · rw [if_neg c15] at H
                 exact absurd H (by simp)
           · rw [if_neg c9] at H
             exact absurd H (by simp)
         · rw [if_neg c8] at H
           have c8b0 : decide (x7_1 < (l1.length : Int)) = false := decide_eq_false c8
           clear c8
           by_cases c19 : 0 ≤ x7_1
           · rw [if_pos c19] at H
             have c19b0 : decide (0 ≤ x7_1) = true := decide_eq_true c19
             clear c19
             by_cases c20 : (IntKind.u64.wrap (rd l0 x7_1)) < x6_1
             · rw [if_pos c20] at H
               have c20b0 : decide ((IntKind.u64.wrap (rd l0 x7_1)) < x6_1) = true := decide_eq_true c20
               clear c20
               by_cases c21 : x7_1 < (x5_1.length : Int)
               · rw [if_pos c21] at H
                 have c21b0 : decide (x7_1 < (x5_1.length : Int)) = true := decide_eq_true c21
                 clear c21
                 obtain ⟨y664, hy664⟩ : ∃ y_ : List Int, y_ = (x5_1.set (x7_1 : Int).toNat ((IntKind.u64.wrap ((IntKind.u64.wrap ((IntKind.u64.wrap (rd l0 x7_1)) + 4294967296)) - x6_1)) % 4294967296)) := ⟨_, rfl⟩
                 replace H : (insolvencyref1_minus.l0 k1 l0 l1 y664 1 (wrap64 (x7_1 + 1))) = some r := by first | (rw [hy664]; with_reducible exact H) | (have H2_ := (Option.bind_some _ _).symm.trans H; rw [hy664]; with_reducible exact H2_) | (have H2_ := (Option.bind_some _ _).symm.trans H; with_reducible exact H2_) | with_reducible exact H | (rw [hy664]; exact H) | exact H
                 have Ny664 := Aside0.mk hy664
                 clear hy664
                 have H' := Aside0.mk H
                 clear H
                 have p663 : 0 ≤ (x7_1 : Int) := of_decide_eq_true (by first | (with_reducible assumption) | assumption)
                 have q663 : x7_1 < (l0.length : Int) := of_decide_eq_true (by first | (with_reducible assumption) | assumption)
                 obtain ⟨ad663, e663, hx663_0⟩ := Kd.at_int HR0.out x7_1 p663 q663
                 cases e663
                 replace hx663_0 := (HB.out.cell (World.block_lt_of_cell? w _ hx663_0)).trans hx663_0
                 replace p663 := eq_true p663
                 replace q663 := eq_true q663
                 have p22 : 0 ≤ (x7_1 : Int) := of_decide_eq_true (by first | (with_reducible assumption) | assumption)
                 have q22 : (x7_1 : Int) < ((x5_1.length : Int) : Int) := of_decide_eq_true (by first | (with_reducible assumption) | assumption)
                 obtain ⟨go22, co22, eo22, gb22, gl22, cl22, HG22⟩ := Kd.R_form HO_5.out (by omega)
                 (first | cases eo22 | (injection eo22 with ea_ en_ ec_; (first | subst ea_ | (injection ea_ with ea_; subst ea_)); subst ec_; clear en_))
                 have GB22 := Aside0.mk gb22
                 have GG22 := Aside0.mk HG22
                 clear gb22 gl22 HG22
                 obtain ⟨hx22_0, hf22_0⟩ := Kd.R_celln 0 HO_5.out (x7_1 : Int) p22 q22
                 replace p22 := eq_true p22
                 replace q22 := eq_true q22
                 have HP23 := Kd.R_putg HO_5.out (x7_1 : Int) ((IntKind.u64.wrap ((IntKind.u64.wrap ((IntKind.u64.wrap (rd l0 x7_1)) + 4294967296)) - x6_1)) % 4294967296)
                 go_wp2_with (first | ((with_reducible refine gate_store (t := 60) (p := 47) rfl ?_); refine store_event (t := 60) (p := 47) (v := ?vo_w24) (w1 := (wr.setCell ⟨go22, (x7_1 : Int).toNat, none⟩ (.int .u32 ((IntKind.u64.wrap ((IntKind.u64.wrap ((IntKind.u64.wrap (rd l0 x7_1)) + 4294967296)) - x6_1)) % 4294967296)))) ?hg ?ho ?hn ?hr ?_; (case ho => rfl); (case hg => rfl); (case hn => rfl); (case hr => first | (go_simp; done) | (go_simp; rfl)); intro w24 hw; have hg : wr.grownBy w24 (some go22) := (by rw [hw]; exact HP23.2); have hp_ : Kd.R (Kd.int .u32) 60 w24 w.heap.size (fun _ => True) (.slice (some ⟨go22, 0, none⟩) x5_1.length co22) y664 := (by rw [hw, Ny664.out]; exact HP23.1); clear HP23; have n0_ := Aside0.mk (hp_); have n1_ := Aside0.mk ((by rw [hw]; exact below_set (HB.out) GB22.out : Below w.heap.size w w24)); clear HO_5; clear HB; have HO_5 := n0_; have HB := n1_; clear n0_ n1_; clear hg hw hp_))
                 go_roundg k1
                 case measure => have := HK1.out; omega
                 case rel => exact ⟨(y664), (1), (wrap64 (x7_1 + 1)), (by first | rfl | (simp; done) | (simp [*]; done)), (by first | rfl | (simp; done) | (simp [*]; done)), H', ⟨by have := HK1.out; omega⟩, ⟨by (with_reducible repeat (first | apply Kd.R_alloc | apply Kd.R_drewN | apply Kd.R_drew)); exact HO_5.out⟩, ⟨by repeat (first | (with_reducible first | exact HB.out | apply below_alloc | apply pw_below_drewN | apply below_drew1) | exact HB.out)⟩⟩
               · rw [if_neg c21] at H
                 exact absurd H (by simp)
             · rw [if_neg c20] at H
               have c20b0 : decide ((IntKind.u64.wrap (rd l0 x7_1)) < x6_1) = false := decide_eq_false c20
               clear c20
               by_cases c25 : x7_1 < (x5_1.length : Int)
               · rw [if_pos c25] at H
                 have c25b0 : decide (x7_1 < (x5_1.length : Int)) = true := decide_eq_true c25
                 clear c25
                 obtain ⟨y665, hy665⟩ : ∃ y_ : List Int, y_ = (x5_1.set (x7_1 : Int).toNat ((IntKind.u64.wrap ((IntKind.u64.wrap (rd l0 x7_1)) - x6_1)) % 4294967296)) := ⟨_, rfl⟩
                 replace H : (insolvencyref1_minus.l0 k1 l0 l1 y665 0 (wrap64 (x7_1 + 1))) = some r := by first | (rw [hy665]; with_reducible exact H) | (have H2_ := (Option.bind_some _ _).symm.trans H; rw [hy665]; with_reducible exact H2_) | (have H2_ := (Option.bind_some _ _).symm.trans H; with_reducible exact H2_) | with_reducible exact H | (rw [hy665]; exact H) | exact H
                 have Ny665 := Aside0.mk hy665
                 clear hy665
                 have H' := Aside0.mk H
                 clear H
                 have p663 : 0 ≤ (x7_1 : Int) := of_decide_eq_true (by first | (with_reducible assumption) | assumption)
                 have q663 : x7_1 < (l0.length : Int) := of_decide_eq_true (by first | (with_reducible assumption) | assumption)
                 obtain ⟨ad663, e663, hx663_0⟩ := Kd.at_int HR0.out x7_1 p663 q663
                 cases e663
                 replace hx663_0 := (HB.out.cell (World.block_lt_of_cell? w _ hx663_0)).trans hx663_0
                 replace p663 := eq_true p663
                 replace q663 := eq_true q663
                 have p26 : 0 ≤ (x7_1 : Int) := of_decide_eq_true (by first | (with_reducible assumption) | assumption)
                 have q26 : (x7_1 : Int) < ((x5_1.length : Int) : Int) := of_decide_eq_true (by first | (with_reducible assumption) | assumption)
                 obtain ⟨go26, co26, eo26, gb26, gl26, cl26, HG26⟩ := Kd.R_form HO_5.out (by omega)
                 (first | cases eo26 | (injection eo26 with ea_ en_ ec_; (first | subst ea_ | (injection ea_ with ea_; subst ea_)); subst ec_; clear en_))
                 have GB26 := Aside0.mk gb26
                 have GG26 := Aside0.mk HG26
                 clear gb26 gl26 HG26
                 obtain ⟨hx26_0, hf26_0⟩ := Kd.R_celln 0 HO_5.out (x7_1 : Int) p26 q26
                 replace p26 := eq_true p26
                 replace q26 := eq_true q26
                 have HP27 := Kd.R_putg HO_5.out (x7_1 : Int) ((IntKind.u64.wrap ((IntKind.u64.wrap (rd l0 x7_1)) - x6_1)) % 4294967296)
                 go_wp2_with (first | ((with_reducible refine gate_store (t := 60) (p := 47) rfl ?_); refine store_event (t := 60) (p := 47) (v := ?vo_w28) (w1 := (wr.setCell ⟨go26, (x7_1 : Int).toNat, none⟩ (.int .u32 ((IntKind.u64.wrap ((IntKind.u64.wrap (rd l0 x7_1)) - x6_1)) % 4294967296)))) ?hg ?ho ?hn ?hr ?_; (case ho => rfl); (case hg => rfl); (case hn => rfl); (case hr => first | (go_simp; done) | (go_simp; rfl)); intro w28 hw; have hg : wr.grownBy w28 (some go26) := (by rw [hw]; exact HP27.2); have hp_ : Kd.R (Kd.int .u32) 60 w28 w.heap.size (fun _ => True) (.slice (some ⟨go26, 0, none⟩) x5_1.length co26) y665 := (by rw [hw, Ny665.out]; exact HP27.1); clear HP27; have n0_ := Aside0.mk (hp_); have n1_ := Aside0.mk ((by rw [hw]; exact below_set (HB.out) GB26.out : Below w.heap.size w w28)); clear HO_5; clear HB; have HO_5 := n0_; have HB := n1_; clear n0_ n1_; clear hg hw hp_))
                 go_roundg k1
                 case measure => have := HK1.out; omega
                 case rel => exact ⟨(y665), (0), (wrap64 (x7_1 + 1)), (by first | rfl | (simp; done) | (simp [*]; done)), (by first | rfl | (simp; done) | (simp [*]; done)), H', ⟨by have := HK1.out; omega⟩, ⟨by (with_reducible repeat (first | apply Kd.R_alloc | apply Kd.R_drewN | apply Kd.R_drew)); exact HO_5.out⟩, ⟨by repeat (first | (with_reducible first | exact HB.out | apply below_alloc | apply pw_below_drewN | apply below_drew1) | exact HB.out)⟩⟩
               · rw [if_neg c25] at H
                 exact absurd H (by simp)
           · rw [if_neg c19] at H
             exact absurd H (by simp)
       · rw [if_neg c7] at H
         have c7b0 : decide (x7_1 < (l0.length : Int)) = false := decide_eq_false c7
         clear c7
         replace H := Option.bind_eq_some_iff.mp H
         obtain ⟨t656, A290, H⟩ := H
         replace H : (some t656) = some r := H
         have A29 := Aside0.mk A290
         clear A290
         obtain rfl := Option.some.inj H
         obtain ⟨Ao30, co30, eo30⟩ := Kd.R_slice HO_5.out
         subst eo30
         go_wp2_with (first | ((with_reducible refine gate_callee (f := 75) rfl ?_); refine goesL_ (some 49) rfl rfl Tryd.func75 (by kernel_rfl) rfl #[.slice Ao30 x5_1.length co30] rfl (by (try simp only [List.map_toArray, List.map_cons, List.map_nil]); first | done | rfl | (simp only [List.length_drop, List.length_take]; rfl)) ?_; (with_reducible refine (insolvencyref1_strip.calls k1 (fun k_ => some k_ = (.slice Ao30 x5_1.length co30 : Value).ownBlock) (.slice Ao30 x5_1.length co30) x5_1 t656 w _ ?side1 ?side2 A29.out).mono ?_); (case side1 => repeat (first | (with_reducible first | exact HB.out | apply below_alloc | apply pw_below_drewN | apply below_drew1) | exact HB.out)); (case side2 => exact Kd.R_tight rfl HO_5.out); rintro e w31 ⟨v657, rfl, ho0, hb, hkp⟩; refine ⟨_, rfl, ?_⟩; have n0_ := Aside0.mk (Kd.R_mono (ok' := fun k_ => True) ho0 (fun k_ hk_ => trivial)); have n1_ := Aside0.mk (hb); clear HB; clear HO_5; have HO658 := n0_; have HB := n1_; clear n0_ n1_; (try clear hb); (try clear hkp); (try clear ho0)))
         go_ret
         exact ⟨_, by first | rfl | (simp [errW_none, errW_some] <;> rfl) | (simp [*, errW_none, errW_some] <;> rfl), by (with_reducible repeat (first | apply Kd.R_alloc | apply Kd.R_drewN | apply Kd.R_drew)); exact HO658.out, by repeat (first | (with_reducible first | exact HB.out | apply below_alloc | apply pw_below_drewN | apply below_drew1) | exact HB.out)⟩
   · rw [if_neg c4] at H
     exact absurd H (by simp)
 · rw [if_neg c3] at H
   exact absurd H (by simp)
end Go.Proofs.YtjaflmhdclmolaaDoor.F
end
section
namespace Go.Proofs.YtjaflmhdclmolaaDoor.F
open Go.RowKit Go.Proofs.YtjaflmhdclmolaaDoorW.PrintWords Go.Proofs.YtjaflmhdclmolaaDoorW.PrintLast Go.Proofs.YtjaflmhdclmolaaDoorW.PrintMore
attribute [local go_sem] max2_int min2_int max_two min_two max_three min_three max_four min_four   
set_option linter.unusedVariables false
set_option linter.unusedSimpArgs false
def insolvencyref1_NatSubtract.f (k : Nat) (a0 : ByteArray) (a1 : ByteArray) : Option (ByteArray × Bool) := (insolvencyref1_limbs.f k a0).bind fun t666 => ((insolvencyref1_limbs.f k a1).bind fun t669 => ((insolvencyref1_order.f k t666 t669).bind fun t672 => (if t672 < 0 then (some ((⟨#[]⟩ : ByteArray), false)) else ((insolvencyref1_minus.f k t666 t669).bind fun t673 => ((insolvencyref1_text.f k t673).bind fun t676 => (some (t676, true)))))))
theorem insolvencyref1_NatSubtract.mono : ∀ a0 a1 k, LeO (insolvencyref1_NatSubtract.f k a0 a1) (insolvencyref1_NatSubtract.f (k + 1) a0 a1) := by
 intro a0 a1 k
 unfold insolvencyref1_NatSubtract.f
 repeat' first
  | (with_reducible exact insolvencyref1_limbs.mono _ _)
  | (with_reducible exact insolvencyref1_minus.mono _ _ _)
  | (with_reducible exact insolvencyref1_order.mono _ _ _)
  | (with_reducible exact insolvencyref1_text.mono _ _)
  | (with_reducible exact LeO.refl _)
  | (with_reducible exact LeO.none _)
  | (with_reducible refine LeO.ite ?_ ?_)
  | (with_reducible refine LeO.bind ?_ (fun _ => ?_))
  | exact insolvencyref1_limbs.mono _ _
  | exact insolvencyref1_minus.mono _ _ _
  | exact insolvencyref1_order.mono _ _ _
  | exact insolvencyref1_text.mono _ _
  | exact LeO.none _
  | refine LeO.ite ?_ ?_
  | refine LeO.bind ?_ (fun _ => ?_)
set_option maxHeartbeats 8000000 in
set_option maxRecDepth 100000 in
theorem insolvencyref1_NatSubtract.calls (k : Nat) (a0 : ByteArray) (a1 : ByteArray) (r1 : ByteArray) (r2 : Bool) (w : World) (h : insolvencyref1_NatSubtract.f k a0 a1 = some (r1, r2)) :
 Calls Tryd.prog 39 #[.string a0, .string a1] w fun e w' => e = .returned (.tuple #[.string r1, .bool r2]) ∧ Below w.heap.size w w' := by
 have HB := Aside0.mk (Below.refl w.heap.size w)
 have H : ((insolvencyref1_limbs.f k a0).bind fun t666 => ((insolvencyref1_limbs.f k a1).bind fun t669 => ((insolvencyref1_order.f k t666 t669).bind fun t672 => (if t672 < 0 then (some ((⟨#[]⟩ : ByteArray), false)) else ((insolvencyref1_minus.f k t666 t669).bind fun t673 => ((insolvencyref1_text.f k t673).bind fun t676 => (some (t676, true)))))))) = some (r1, r2) := h
 clear h
 replace H := Option.bind_eq_some_iff.mp H
 obtain ⟨t666, A30, H⟩ := H
 replace H : ((insolvencyref1_limbs.f k a1).bind fun t669 => ((insolvencyref1_order.f k t666 t669).bind fun t672 => (if t672 < 0 then (some ((⟨#[]⟩ : ByteArray), false)) else ((insolvencyref1_minus.f k t666 t669).bind fun t673 => ((insolvencyref1_text.f k t673).bind fun t676 => (some (t676, true))))))) = some (r1, r2) := H
 have A3 := Aside0.mk A30
 clear A30
 replace H := Option.bind_eq_some_iff.mp H
 obtain ⟨t669, A40, H⟩ := H
 replace H : ((insolvencyref1_order.f k t666 t669).bind fun t672 => (if t672 < 0 then (some ((⟨#[]⟩ : ByteArray), false)) else ((insolvencyref1_minus.f k t666 t669).bind fun t673 => ((insolvencyref1_text.f k t673).bind fun t676 => (some (t676, true)))))) = some (r1, r2) := H
 have A4 := Aside0.mk A40
 clear A40
 replace H := Option.bind_eq_some_iff.mp H
 obtain ⟨t672, A50, H⟩ := H
 replace H : (if t672 < 0 then (some ((⟨#[]⟩ : ByteArray), false)) else ((insolvencyref1_minus.f k t666 t669).bind fun t673 => ((insolvencyref1_text.f k t673).bind fun t676 => (some (t676, true))))) = some (r1, r2) := H
 have A5 := Aside0.mk A50
 clear A50
 by_cases c6 : t672 < 0
 · rw [if_pos c6] at H
   have c6b0 : decide (t672 < 0) = true := decide_eq_true c6
   clear c6
   simp only [Option.some.injEq, Prod.mk.injEq] at H
   obtain ⟨rfl, rfl⟩ := H
   go_enter Tryd.func39, Tryd.ntmps39
   go_wp2_with (first | ((with_reducible refine gate_callee (f := 45) rfl ?_); refine goesL_ (some 9) rfl rfl Tryd.func45 (by kernel_rfl) rfl #[.string a0] rfl (by (try simp only [List.map_toArray, List.map_cons, List.map_nil]); first | done | rfl | (simp only [List.length_drop, List.length_take]; rfl)) ?_; (with_reducible refine (insolvencyref1_limbs.calls k a0 t666 _ A3.out).mono ?_); rintro e w7 ⟨v667, rfl, ho0, hb⟩; refine ⟨_, rfl, ?_⟩; have n0_ := Aside0.mk (Kd.R_lower ho0 (below_size (by repeat (first | (with_reducible first | exact HB.out | apply below_alloc | apply pw_below_drewN | apply below_drew1) | exact HB.out)))); have n1_ := Aside0.mk (below_step (by repeat (first | (with_reducible first | exact HB.out | apply below_alloc | apply pw_below_drewN | apply below_drew1) | exact HB.out)) hb); clear HB; have HO668 := n0_; have HB := n1_; clear n0_ n1_; (try clear hb); (try clear hb2); (try clear hk); (try clear hi); (try clear ho0)) | ((with_reducible refine gate_callee (f := 45) rfl ?_); refine goesL_ (some 11) rfl rfl Tryd.func45 (by kernel_rfl) rfl #[.string a1] rfl (by (try simp only [List.map_toArray, List.map_cons, List.map_nil]); first | done | rfl | (simp only [List.length_drop, List.length_take]; rfl)) ?_; (with_reducible refine (insolvencyref1_limbs.calls k a1 t669 _ A4.out).mono ?_); rintro e w8 ⟨v670, rfl, ho0, hb⟩; refine ⟨_, rfl, ?_⟩; have n0_ := Aside0.mk (Kd.R_elder' (by (with_reducible repeat (first | apply Kd.R_alloc | apply Kd.R_drewN | apply Kd.R_drew)); exact HO668.out) (Kd.R_base ho0) hb); have n1_ := Aside0.mk (Kd.R_lower (Kd.R_new' ho0 (Kd.R_lt (by (with_reducible repeat (first | apply Kd.R_alloc | apply Kd.R_drewN | apply Kd.R_drew)); exact HO668.out))) (below_size (by repeat (first | (with_reducible first | exact HB.out | apply below_alloc | apply pw_below_drewN | apply below_drew1) | exact HB.out)))); have n2_ := Aside0.mk (below_step (by repeat (first | (with_reducible first | exact HB.out | apply below_alloc | apply pw_below_drewN | apply below_drew1) | exact HB.out)) hb); clear HO668; clear HB; have HO668 := n0_; have HO671 := n1_; have HB := n2_; clear n0_ n1_ n2_; (try clear hb); (try clear hb2); (try clear hk); (try clear hi); (try clear ho0); obtain ⟨Ao9, co9, eo9⟩ := Kd.R_slice HO668.out; subst eo9; obtain ⟨Ao10, co10, eo10⟩ := Kd.R_slice HO671.out; subst eo10) | ((with_reducible refine gate_callee (f := 60) rfl ?_); refine goesL_ (some 14) rfl rfl Tryd.func60 (by kernel_rfl) rfl #[.slice Ao9 t666.length co9, .slice Ao10 t669.length co10] rfl (by (try simp only [List.map_toArray, List.map_cons, List.map_nil]); first | done | rfl | (simp only [List.length_drop, List.length_take]; rfl)) ?_; (with_reducible refine (insolvencyref1_order.calls k _ _ t666 _ _ t669 t672 _ ?side1 ?side2 ?side3 ?side4 A5.out).mono ?_); (case side1 => repeat (first | exact (Kd.R_reads' HO668.out).2.2 | (with_reducible refine Kd.C_alloc ?_ _) | (with_reducible refine Kd.C_drewN ?_ _) | (with_reducible refine Kd.C_drew ?_))); (case side2 => exact (Kd.R_reads' HO668.out).2.1); (case side3 => repeat (first | exact (Kd.R_reads' HO671.out).2.2 | (with_reducible refine Kd.C_alloc ?_ _) | (with_reducible refine Kd.C_drewN ?_ _) | (with_reducible refine Kd.C_drew ?_))); (case side4 => exact (Kd.R_reads' HO671.out).2.1); rintro e w' ⟨rfl, ⟨nd, rfl⟩⟩; refine ⟨_, rfl, ?_⟩))
   go_ret2
   exact ⟨by first | rfl | (simp [errW_none, errW_some] <;> rfl) | (simp [*, errW_none, errW_some] <;> rfl), by repeat (first | (with_reducible first | exact HB.out | apply below_alloc | apply pw_below_drewN | apply below_drew1) | exact HB.out)⟩
 · rw [if_neg c6] at H
   have c6b0 : decide (t672 < 0) = false := decide_eq_false c6
   clear c6
   replace H := Option.bind_eq_some_iff.mp H
   obtain ⟨t673, A110, H⟩ := H
   replace H : ((insolvencyref1_text.f k t673).bind fun t676 => (some (t676, true))) = some (r1, r2) := H
   have A11 := Aside0.mk A110
   clear A110
   replace H := Option.bind_eq_some_iff.mp H
   obtain ⟨t676, A120, H⟩ := H
   replace H : (some (t676, true)) = some (r1, r2) := H
   have A12 := Aside0.mk A120
   clear A120
   simp only [Option.some.injEq, Prod.mk.injEq] at H
   obtain ⟨rfl, rfl⟩ := H
   go_enter Tryd.func39, Tryd.ntmps39
   go_wp2_with (first | ((with_reducible refine gate_callee (f := 45) rfl ?_); refine goesL_ (some 9) rfl rfl Tryd.func45 (by kernel_rfl) rfl #[.string a0] rfl (by (try simp only [List.map_toArray, List.map_cons, List.map_nil]); first | done | rfl | (simp only [List.length_drop, List.length_take]; rfl)) ?_; (with_reducible refine (insolvencyref1_limbs.calls k a0 t666 _ A3.out).mono ?_); rintro e w13 ⟨v667, rfl, ho0, hb⟩; refine ⟨_, rfl, ?_⟩; have n0_ := Aside0.mk (Kd.R_lower ho0 (below_size (by repeat (first | (with_reducible first | exact HB.out | apply below_alloc | apply pw_below_drewN | apply below_drew1) | exact HB.out)))); have n1_ := Aside0.mk (below_step (by repeat (first | (with_reducible first | exact HB.out | apply below_alloc | apply pw_below_drewN | apply below_drew1) | exact HB.out)) hb); clear HB; have HO668 := n0_; have HB := n1_; clear n0_ n1_; (try clear hb); (try clear hb2); (try clear hk); (try clear hi); (try clear ho0)) | ((with_reducible refine gate_callee (f := 45) rfl ?_); refine goesL_ (some 11) rfl rfl Tryd.func45 (by kernel_rfl) rfl #[.string a1] rfl (by (try simp only [List.map_toArray, List.map_cons, List.map_nil]); first | done | rfl | (simp only [List.length_drop, List.length_take]; rfl)) ?_; (with_reducible refine (insolvencyref1_limbs.calls k a1 t669 _ A4.out).mono ?_); rintro e w14 ⟨v670, rfl, ho0, hb⟩; refine ⟨_, rfl, ?_⟩; have n0_ := Aside0.mk (Kd.R_elder' (by (with_reducible repeat (first | apply Kd.R_alloc | apply Kd.R_drewN | apply Kd.R_drew)); exact HO668.out) (Kd.R_base ho0) hb); have n1_ := Aside0.mk (Kd.R_lower (Kd.R_new' ho0 (Kd.R_lt (by (with_reducible repeat (first | apply Kd.R_alloc | apply Kd.R_drewN | apply Kd.R_drew)); exact HO668.out))) (below_size (by repeat (first | (with_reducible first | exact HB.out | apply below_alloc | apply pw_below_drewN | apply below_drew1) | exact HB.out)))); have n2_ := Aside0.mk (below_step (by repeat (first | (with_reducible first | exact HB.out | apply below_alloc | apply pw_below_drewN | apply below_drew1) | exact HB.out)) hb); clear HO668; clear HB; have HO668 := n0_; have HO671 := n1_; have HB := n2_; clear n0_ n1_ n2_; (try clear hb); (try clear hb2); (try clear hk); (try clear hi); (try clear ho0); obtain ⟨Ao15, co15, eo15⟩ := Kd.R_slice HO668.out; subst eo15; obtain ⟨Ao16, co16, eo16⟩ := Kd.R_slice HO671.out; subst eo16) | ((with_reducible refine gate_callee (f := 60) rfl ?_); refine goesL_ (some 14) rfl rfl Tryd.func60 (by kernel_rfl) rfl #[.slice Ao15 t666.length co15, .slice Ao16 t669.length co16] rfl (by (try simp only [List.map_toArray, List.map_cons, List.map_nil]); first | done | rfl | (simp only [List.length_drop, List.length_take]; rfl)) ?_; (with_reducible refine (insolvencyref1_order.calls k _ _ t666 _ _ t669 t672 _ ?side1 ?side2 ?side3 ?side4 A5.out).mono ?_); (case side1 => repeat (first | exact (Kd.R_reads' HO668.out).2.2 | (with_reducible refine Kd.C_alloc ?_ _) | (with_reducible refine Kd.C_drewN ?_ _) | (with_reducible refine Kd.C_drew ?_))); (case side2 => exact (Kd.R_reads' HO668.out).2.1); (case side3 => repeat (first | exact (Kd.R_reads' HO671.out).2.2 | (with_reducible refine Kd.C_alloc ?_ _) | (with_reducible refine Kd.C_drewN ?_ _) | (with_reducible refine Kd.C_drew ?_))); (case side4 => exact (Kd.R_reads' HO671.out).2.1); rintro e w' ⟨rfl, ⟨nd, rfl⟩⟩; refine ⟨_, rfl, ?_⟩) | ((with_reducible refine gate_callee (f := 64) rfl ?_); refine goesL_ (some 18) rfl rfl Tryd.func64 (by kernel_rfl) rfl #[.slice Ao15 t666.length co15, .slice Ao16 t669.length co16] rfl (by (try simp only [List.map_toArray, List.map_cons, List.map_nil]); first | done | rfl | (simp only [List.length_drop, List.length_take]; rfl)) ?_; (with_reducible refine (insolvencyref1_minus.calls k _ _ t666 _ _ t669 t673 _ ?side1 ?side2 ?side3 ?side4 A11.out).mono ?_); (case side1 => repeat (first | exact (Kd.R_reads' HO668.out).2.2 | (with_reducible refine Kd.C_alloc ?_ _) | (with_reducible refine Kd.C_drewN ?_ _) | (with_reducible refine Kd.C_drew ?_))); (case side2 => exact (Kd.R_reads' HO668.out).2.1); (case side3 => repeat (first | exact (Kd.R_reads' HO671.out).2.2 | (with_reducible refine Kd.C_alloc ?_ _) | (with_reducible refine Kd.C_drewN ?_ _) | (with_reducible refine Kd.C_drew ?_))); (case side4 => exact (Kd.R_reads' HO671.out).2.1); rintro e w17 ⟨v674, rfl, ho0, hb⟩; refine ⟨_, rfl, ?_⟩; have n0_ := Aside0.mk (Kd.R_elder' (by (with_reducible repeat (first | apply Kd.R_alloc | apply Kd.R_drewN | apply Kd.R_drew)); exact HO668.out) (Kd.R_base ho0) hb); have n1_ := Aside0.mk (Kd.R_elder' (by (with_reducible repeat (first | apply Kd.R_alloc | apply Kd.R_drewN | apply Kd.R_drew)); exact HO671.out) (Kd.R_base ho0) hb); have n2_ := Aside0.mk (Kd.R_lower (Kd.R_new' (Kd.R_new' ho0 (Kd.R_lt (by (with_reducible repeat (first | apply Kd.R_alloc | apply Kd.R_drewN | apply Kd.R_drew)); exact HO668.out))) (Kd.R_lt (by (with_reducible repeat (first | apply Kd.R_alloc | apply Kd.R_drewN | apply Kd.R_drew)); exact HO671.out))) (below_size (by repeat (first | (with_reducible first | exact HB.out | apply below_alloc | apply pw_below_drewN | apply below_drew1) | exact HB.out)))); have n3_ := Aside0.mk (below_step (by repeat (first | (with_reducible first | exact HB.out | apply below_alloc | apply pw_below_drewN | apply below_drew1) | exact HB.out)) hb); clear HO668; clear HO671; clear HB; have HO668 := n0_; have HO671 := n1_; have HO675 := n2_; have HB := n3_; clear n0_ n1_ n2_ n3_; (try clear hb); (try clear hb2); (try clear hk); (try clear hi); (try clear ho0); obtain ⟨Ao18, co18, eo18⟩ := Kd.R_slice HO675.out; subst eo18) | ((with_reducible refine gate_callee (f := 47) rfl ?_); refine goesL_ (some 19) rfl rfl Tryd.func47 (by kernel_rfl) rfl #[.slice Ao18 t673.length co18] rfl (by (try simp only [List.map_toArray, List.map_cons, List.map_nil]); first | done | rfl | (simp only [List.length_drop, List.length_take]; rfl)) ?_; (with_reducible refine (insolvencyref1_text.calls k (fun k_ => some k_ = (.slice Ao18 t673.length co18 : Value).ownBlock) (.slice Ao18 t673.length co18) t673 t676 w _ ?side1 ?side2 A12.out).mono ?_); (case side1 => repeat (first | (with_reducible first | exact HB.out | apply below_alloc | apply pw_below_drewN | apply below_drew1) | exact HB.out)); (case side2 => exact Kd.R_tight rfl HO675.out); rintro e w19 ⟨rfl, hb, hkp⟩; refine ⟨_, rfl, ?_⟩; have n0_ := Aside0.mk (Kd.R_mono (ok' := fun k_ => some k_ ≠ (.slice Ao16 t669.length co16 : Value).ownBlock) (Kd.R_keptB (HO668.out) hkp (fun k_ hk_ hs_ => (hk_.2) hs_)) (fun k_ hk_ => hk_.1.1.2)); have n1_ := Aside0.mk (Kd.R_mono (ok' := fun k_ => some k_ ≠ (.slice Ao15 t666.length co15 : Value).ownBlock) (Kd.R_keptB (HO671.out) hkp (fun k_ hk_ hs_ => (hk_.2) hs_)) (fun k_ hk_ => hk_.1.1.2)); have n2_ := Aside0.mk (hb); clear HO668; clear HO671; clear HB; clear HO675; have HO668 := n0_; have HO671 := n1_; have HB := n2_; clear n0_ n1_ n2_; (try clear hb); (try clear hkp)))
   go_ret2
   exact ⟨by first | rfl | (simp [errW_none, errW_some] <;> rfl) | (simp [*, errW_none, errW_some] <;> rfl), by repeat (first | (with_reducible first | exact HB.out | apply below_alloc | apply pw_below_drewN | apply below_drew1) | exact HB.out)⟩
end Go.Proofs.YtjaflmhdclmolaaDoor.F
end
section
namespace Go.Proofs.YtjaflmhdclmolaaDoor.F
open Go.RowKit Go.Proofs.YtjaflmhdclmolaaDoorW.PrintWords Go.Proofs.YtjaflmhdclmolaaDoorW.PrintLast Go.Proofs.YtjaflmhdclmolaaDoorW.PrintMore
attribute [local go_sem] max2_int min2_int max_two min_two max_three min_three max_four min_four   
set_option linter.unusedVariables false
set_option linter.unusedSimpArgs false
mutual
def insolvencyref1_times.l0 : Nat → List Int → List Int → List Int → Int → Option (List Int)
 | 0, _, _, _, _ => none
 | k + 1, x0, x1, x5, x6 => if x6 < (x0.length : Int) then (insolvencyref1_times.l1 k x0 x1 x5 x6 0 0) else ((insolvencyref1_strip.f k x5).bind fun t582 => (some t582))
def insolvencyref1_times.l1 : Nat → List Int → List Int → List Int → Int → Int → Int → Option (List Int)
 | 0, _, _, _, _, _, _ => none
 | k + 1, x0, x1, x5, x6, x7, x8 => if x8 < (x1.length : Int) then (if 0 ≤ x6 then (if x6 < (x0.length : Int) then (if 0 ≤ x8 then (if 0 ≤ (wrap64 (x6 + x8)) then (if (wrap64 (x6 + x8)) < (x5.length : Int) then (insolvencyref1_times.l1 k x0 x1 (x5.set ((wrap64 (x6 + x8)) : Int).toNat ((IntKind.u64.wrap ((IntKind.u64.wrap (x7 + (IntKind.u64.wrap ((IntKind.u64.wrap (rd x0 x6)) * (IntKind.u64.wrap (rd x1 x8)))))) + (IntKind.u64.wrap (rd x5 (wrap64 (x6 + x8)))))) % 4294967296)) x6 ((IntKind.u64.wrap ((IntKind.u64.wrap (x7 + (IntKind.u64.wrap ((IntKind.u64.wrap (rd x0 x6)) * (IntKind.u64.wrap (rd x1 x8)))))) + (IntKind.u64.wrap (rd x5 (wrap64 (x6 + x8)))))) / 4294967296) (wrap64 (x8 + 1))) else (none)) else (none)) else (none)) else (none)) else (none)) else (if 0 ≤ (wrap64 (x6 + (x1.length : Int))) then (if (wrap64 (x6 + (x1.length : Int))) < (x5.length : Int) then (insolvencyref1_times.l0 k x0 x1 (x5.set ((wrap64 (x6 + (x1.length : Int))) : Int).toNat ((x7) % 4294967296)) (wrap64 (x6 + 1))) else (none)) else (none))
end
def insolvencyref1_times.f (k : Nat) (l0 : List Int) (l1 : List Int) : Option (List Int) := if 0 ≤ (wrap64 ((l0.length : Int) + (l1.length : Int))) then (if (wrap64 ((l0.length : Int) + (l1.length : Int)) : Int).toNat ≤ 70368744177664 then (insolvencyref1_times.l0 k l0 l1 (List.replicate (wrap64 ((l0.length : Int) + (l1.length : Int)) : Int).toNat 0) 0) else (none)) else (none)
theorem insolvencyref1_times.mono_l : ∀ k, (∀ y0 y1 y2 y3, LeO (insolvencyref1_times.l0 k y0 y1 y2 y3) (insolvencyref1_times.l0 (k + 1) y0 y1 y2 y3)) ∧ (∀ y0 y1 y2 y3 y4 y5, LeO (insolvencyref1_times.l1 k y0 y1 y2 y3 y4 y5) (insolvencyref1_times.l1 (k + 1) y0 y1 y2 y3 y4 y5))
 | 0 => ⟨fun _ _ _ _ r h => by simp [insolvencyref1_times.l0] at h, fun _ _ _ _ _ _ r h => by simp [insolvencyref1_times.l1] at h⟩
 | k + 1 => by
  obtain ⟨ih0, ih1⟩ := insolvencyref1_times.mono_l k
  refine ⟨?_, ?_⟩
  · intro y0 y1 y2 y3
    unfold insolvencyref1_times.l0
    repeat' first
    | (with_reducible exact ih0 _ _ _ _)
    | (with_reducible exact ih1 _ _ _ _ _ _)
    | (with_reducible exact insolvencyref1_strip.mono _ _)
    | (with_reducible exact LeO.refl _)
    | (with_reducible exact LeO.none _)
    | (with_reducible refine LeO.ite ?_ ?_)
    | (with_reducible refine LeO.bind ?_ (fun _ => ?_))
    | exact ih0 _ _ _ _
    | exact ih1 _ _ _ _ _ _
    | exact insolvencyref1_strip.mono _ _
    | exact LeO.none _
    | refine LeO.ite ?_ ?_
    | refine LeO.bind ?_ (fun _ => ?_)
  · intro y0 y1 y2 y3 y4 y5
    unfold insolvencyref1_times.l1
    repeat' first
    | (with_reducible exact ih0 _ _ _ _)
    | (with_reducible exact ih1 _ _ _ _ _ _)
    | (with_reducible exact insolvencyref1_strip.mono _ _)
    | (with_reducible exact LeO.refl _)
    | (with_reducible exact LeO.none _)
    | (with_reducible refine LeO.ite ?_ ?_)
    | (with_reducible refine LeO.bind ?_ (fun _ => ?_))
    | exact ih0 _ _ _ _
    | exact ih1 _ _ _ _ _ _
    | exact insolvencyref1_strip.mono _ _
    | exact LeO.none _
    | refine LeO.ite ?_ ?_
    | refine LeO.bind ?_ (fun _ => ?_)
theorem insolvencyref1_times.mono : ∀ a0 a1 k, LeO (insolvencyref1_times.f k a0 a1) (insolvencyref1_times.f (k + 1) a0 a1) := by
 intro a0 a1 k
 obtain ⟨ih0, ih1⟩ := insolvencyref1_times.mono_l k
 unfold insolvencyref1_times.f
 repeat' first
  | (with_reducible exact ih0 _ _ _ _)
  | (with_reducible exact ih1 _ _ _ _ _ _)
  | (with_reducible exact insolvencyref1_strip.mono _ _)
  | (with_reducible exact LeO.refl _)
  | (with_reducible exact LeO.none _)
  | (with_reducible refine LeO.ite ?_ ?_)
  | (with_reducible refine LeO.bind ?_ (fun _ => ?_))
  | exact ih0 _ _ _ _
  | exact ih1 _ _ _ _ _ _
  | exact insolvencyref1_strip.mono _ _
  | exact LeO.none _
  | refine LeO.ite ?_ ?_
  | refine LeO.bind ?_ (fun _ => ?_)
set_option maxHeartbeats 8000000 in
set_option maxRecDepth 100000 in
theorem insolvencyref1_times.calls (k : Nat) (A0 : Option Addr) (c0 : Nat) (l0 : List Int) (A1 : Option Addr) (c1 : Nat) (l1 : List Int) (r : List Int) (w : World) (hr0 : Kd.C (Kd.int .u32) w A0 l0.length l0) (hc0 : l0.length ≤ c0) (hr1 : Kd.C (Kd.int .u32) w A1 l1.length l1) (hc1 : l1.length ≤ c1) (h : insolvencyref1_times.f k l0 l1 = some r) :
 Calls Tryd.prog 61 #[.slice A0 l0.length c0, .slice A1 l1.length c1] w fun e w' => ∃ v0_ : Value, e = .returned (v0_) ∧ Kd.R (Kd.int .u32) 60 w' w.heap.size (fun _ => True) v0_ r ∧ Below w.heap.size w w' := by
 have HR0 := Aside0.mk hr0
 have HC0 := Aside0.mk hc0
 clear hr0 hc0
 have HR1 := Aside0.mk hr1
 have HC1 := Aside0.mk hc1
 clear hr1 hc1
 have HB := Aside0.mk (Below.refl w.heap.size w)
 have H : (if 0 ≤ (wrap64 ((l0.length : Int) + (l1.length : Int))) then (if (wrap64 ((l0.length : Int) + (l1.length : Int)) : Int).toNat ≤ 70368744177664 then (insolvencyref1_times.l0 k l0 l1 (List.replicate (wrap64 ((l0.length : Int) + (l1.length : Int)) : Int).toNat 0) 0) else (none)) else (none)) = some r := h
 clear h
 obtain ⟨ji3, hji3⟩ : ∃ j_ : Int, (wrap64 ((l0.length : Int) + (l1.length : Int))) = j_ := ⟨_, rfl⟩
 replace H : (if 0 ≤ (ji3) then (if (ji3 : Int).toNat ≤ 70368744177664 then (insolvencyref1_times.l0 k l0 l1 (List.replicate (ji3 : Int).toNat 0) 0) else (none)) else (none)) = some r := by first | (rw [hji3] at H; exact H) | (simp only [hji3] at H ⊢; exact H)
 have hji3w : (IntKind.i64.wrap ((l0.length : Int) + (l1.length : Int))) = ji3 := (i64_w _).trans hji3
 by_cases c4 : 0 ≤ (ji3)
 · rw [if_pos c4] at H
   have c4b0 := eq_true c4
   have c4b1 : decide (0 ≤ (ji3)) = true := decide_eq_true c4
   clear c4
   by_cases c5 : (ji3 : Int).toNat ≤ 70368744177664
   · rw [if_pos c5] at H
     have c5b0 := eq_true c5
     have c5b1 : decide ((ji3 : Int).toNat ≤ 70368744177664) = true := decide_eq_true c5
     clear c5
     obtain ⟨y579, hy579⟩ : ∃ y_ : List Int, y_ = (List.replicate (ji3 : Int).toNat 0) := ⟨_, rfl⟩
     replace H : (insolvencyref1_times.l0 k l0 l1 y579 0) = some r := by first | (rw [hy579]; with_reducible exact H) | (have H2_ := (Option.bind_some _ _).symm.trans H; rw [hy579]; with_reducible exact H2_) | (have H2_ := (Option.bind_some _ _).symm.trans H; with_reducible exact H2_) | with_reducible exact H | (rw [hy579]; exact H) | exact H
     have Ny579 := Aside0.mk hy579
     clear hy579
     have H' := Aside0.mk H
     clear H
     go_enter Tryd.func61, Tryd.ntmps61
     go_wp2_with (first | ((with_reducible refine gate_dst (N := 14) rfl ?_); refine Kd.R_make (Kd.int .u32) _ 60 rfl (N := 14) rfl 49 _ _ rfl ji3 rfl rfl Tryd.underlying49 (.int .u32 0) 4 info60 rfl (by decide) (by omega) 0 (ok := fun _ => True) (okp := fun _ => True) rfl (fun _ hk => hk) trivial (of_decide_eq_true (by first | (with_reducible assumption) | assumption)) (Nat.le_trans (Nat.mul_le_mul_right _ (of_decide_eq_true (by first | (with_reducible assumption) | assumption) : ji3.toNat ≤ 70368744177664)) (by omega)) (Below.refl _ _) (Nat.le_refl _) ?_; intro v580 w6 ho7 hb hg_ hnew_; clear hg_ hnew_; (first | rw [← Ny579.out] at ho7 | (simp only [Int.reduceToNat] at ho7; rw [← Ny579.out] at ho7)); have n0_ := Aside0.mk (Kd.R_lower ho7 (below_size (by repeat (first | (with_reducible first | exact HB.out | apply below_alloc | apply pw_below_drewN | apply below_drew1) | exact HB.out)))); have n1_ := Aside0.mk (below_step (by repeat (first | (with_reducible first | exact HB.out | apply below_alloc | apply pw_below_drewN | apply below_drew1) | exact HB.out)) hb); clear HB; have HO581 := n0_; have HB := n1_; clear n0_ n1_; clear hb ho7))
     repeat (go_quiet (first | ((with_reducible refine gate_dst (N := 14) rfl ?_); refine Kd.R_make (Kd.int .u32) _ 60 rfl (N := 14) rfl 49 _ _ rfl ji3 rfl rfl Tryd.underlying49 (.int .u32 0) 4 info60 rfl (by decide) (by omega) 0 (ok := fun _ => True) (okp := fun _ => True) rfl (fun _ hk => hk) trivial (of_decide_eq_true (by first | (with_reducible assumption) | assumption)) (Nat.le_trans (Nat.mul_le_mul_right _ (of_decide_eq_true (by first | (with_reducible assumption) | assumption) : ji3.toNat ≤ 70368744177664)) (by omega)) (Below.refl _ _) (Nat.le_refl _) ?_; intro v580 w6 ho7 hb hg_ hnew_; clear hg_ hnew_; (first | rw [← Ny579.out] at ho7 | (simp only [Int.reduceToNat] at ho7; rw [← Ny579.out] at ho7)); have n0_ := Aside0.mk (Kd.R_lower ho7 (below_size (by repeat (first | (with_reducible first | exact HB.out | apply below_alloc | apply pw_below_drewN | apply below_drew1) | exact HB.out)))); have n1_ := Aside0.mk (below_step (by repeat (first | (with_reducible first | exact HB.out | apply below_alloc | apply pw_below_drewN | apply below_drew1) | exact HB.out)) hb); clear HB; have HO581 := n0_; have HB := n1_; clear n0_ n1_; clear hb ho7)); try go_wp2_with (first | ((with_reducible refine gate_dst (N := 14) rfl ?_); refine Kd.R_make (Kd.int .u32) _ 60 rfl (N := 14) rfl 49 _ _ rfl ji3 rfl rfl Tryd.underlying49 (.int .u32 0) 4 info60 rfl (by decide) (by omega) 0 (ok := fun _ => True) (okp := fun _ => True) rfl (fun _ hk => hk) trivial (of_decide_eq_true (by first | (with_reducible assumption) | assumption)) (Nat.le_trans (Nat.mul_le_mul_right _ (of_decide_eq_true (by first | (with_reducible assumption) | assumption) : ji3.toNat ≤ 70368744177664)) (by omega)) (Below.refl _ _) (Nat.le_refl _) ?_; intro v580 w6 ho7 hb hg_ hnew_; clear hg_ hnew_; (first | rw [← Ny579.out] at ho7 | (simp only [Int.reduceToNat] at ho7; rw [← Ny579.out] at ho7)); have n0_ := Aside0.mk (Kd.R_lower ho7 (below_size (by repeat (first | (with_reducible first | exact HB.out | apply below_alloc | apply pw_below_drewN | apply below_drew1) | exact HB.out)))); have n1_ := Aside0.mk (below_step (by repeat (first | (with_reducible first | exact HB.out | apply below_alloc | apply pw_below_drewN | apply below_drew1) | exact HB.out)) hb); clear HB; have HO581 := n0_; have HB := n1_; clear n0_ n1_; clear hb ho7)))
     go_loopg [6] k (fun kq v6 w' => ∃ (x5_1 : List Int) (x6_1 : Int), v6 = .int .i64 x6_1 ∧ Aside0 (insolvencyref1_times.l0 kq l0 l1 x5_1 x6_1 = some r) ∧ Aside0 (kq ≤ k) ∧ Aside0 (Kd.R (Kd.int .u32) 60 w' w.heap.size (fun _ => True) v580 x5_1) ∧ Aside0 (Below w.heap.size w w'))
     case atStart => exact ⟨(y579), (0), (by first | rfl | (simp; done) | (simp [*]; done)), H', ⟨Nat.le_refl _⟩, ⟨by (with_reducible repeat (first | apply Kd.R_alloc | apply Kd.R_drewN | apply Kd.R_drew)); exact HO581.out⟩, ⟨by repeat (first | (with_reducible first | exact HB.out | apply below_alloc | apply pw_below_drewN | apply below_drew1) | exact HB.out)⟩⟩
     case round =>
      clear H'
      try clear c1
      try clear p2
      try clear c4
      try clear c4b0
      try clear c4b1
      try clear c5
      try clear c5b0
      try clear c5b1
      try clear c6
      try clear p6
      obtain ⟨x5_1, x6_1, rfl, HA, HK1, HO_5, HB⟩ := hrel
      cases gk with
      | zero => exact absurd HA.out (by simp [insolvencyref1_times.l0])
      | succ k1 =>
       have H := HA.out
       clear HA
       simp only [insolvencyref1_times.l0] at H
       by_cases c8 : x6_1 < (l0.length : Int)
       · rw [if_pos c8] at H
         have c8b0 : decide (x6_1 < (l0.length : Int)) = true := decide_eq_true c8
         clear c8
         have H' := Aside0.mk H
         clear H
         go_wp2
         repeat (go_quiet (fail); try go_wp2)
         go_loopg [7, 8] k1 (fun kq v7 v8 w' => ∃ (x5_2 : List Int) (x7_2 : Int) (x8_2 : Int), v7 = .int .u64 x7_2 ∧ v8 = .int .i64 x8_2 ∧ Aside0 (insolvencyref1_times.l1 kq l0 l1 x5_2 x6_1 x7_2 x8_2 = some r) ∧ Aside0 (kq ≤ k1) ∧ Aside0 (Kd.R (Kd.int .u32) 60 w' w.heap.size (fun _ => True) v580 x5_2) ∧ Aside0 (Below w.heap.size w w'))
         case atStart => exact ⟨(x5_1), (0), (0), (by first | rfl | (simp; done) | (simp [*]; done)), (by first | rfl | (simp; done) | (simp [*]; done)), H', ⟨Nat.le_refl _⟩, ⟨by (with_reducible repeat (first | apply Kd.R_alloc | apply Kd.R_drewN | apply Kd.R_drew)); exact HO_5.out⟩, ⟨by repeat (first | (with_reducible first | exact HB.out | apply below_alloc | apply pw_below_drewN | apply below_drew1) | exact HB.out)⟩⟩
         case round =>
          clear H'
          try clear c1
          try clear p2
          try clear c4
          try clear c4b0
          try clear c4b1
          try clear c5
          try clear c5b0
          try clear c5b1
          try clear c6
          try clear p6
          try clear c8
          try clear c8b0
          try clear p2
          try clear p6
          obtain ⟨x5_2, x7_2, x8_2, rfl, rfl, HA, HK2, HO_5, HB⟩ := hrel
          cases gk with
          | zero => exact absurd HA.out (by simp [insolvencyref1_times.l1])
          | succ k2 =>
           have H := HA.out
           clear HA
           simp only [insolvencyref1_times.l1] at H
           by_cases c9 : x8_2 < (l1.length : Int)
           · rw [if_pos c9] at H
             have c9b0 : decide (x8_2 < (l1.length : Int)) = true := decide_eq_true c9
             clear c9
             by_cases c10 : 0 ≤ x6_1
             · rw [if_pos c10] at H
               have c10b0 : decide (0 ≤ x6_1) = true := decide_eq_true c10
               clear c10
               by_cases c11 : x6_1 < (l0.length : Int)
               · rw [if_pos c11] at H
                 have c11b0 : decide (x6_1 < (l0.length : Int)) = true := decide_eq_true c11
                 clear c11
                 by_cases c12 : 0 ≤ x8_2
                 · rw [if_pos c12] at H
                   have c12b0 : decide (0 ≤ x8_2) = true := decide_eq_true c12
                   clear c12
                   obtain ⟨ji13, hji13⟩ : ∃ j_ : Int, (wrap64 (x6_1 + x8_2)) = j_ := ⟨_, rfl⟩
                   replace H : (if 0 ≤ (ji13) then (if (ji13) < (x5_2.length : Int) then (insolvencyref1_times.l1 k2 l0 l1 (x5_2.set ((ji13) : Int).toNat ((IntKind.u64.wrap ((IntKind.u64.wrap (x7_2 + (IntKind.u64.wrap ((IntKind.u64.wrap (rd l0 x6_1)) * (IntKind.u64.wrap (rd l1 x8_2)))))) + (IntKind.u64.wrap (rd x5_2 (ji13))))) % 4294967296)) x6_1 ((IntKind.u64.wrap ((IntKind.u64.wrap (x7_2 + (IntKind.u64.wrap ((IntKind.u64.wrap (rd l0 x6_1)) * (IntKind.u64.wrap (rd l1 x8_2)))))) + (IntKind.u64.wrap (rd x5_2 (ji13))))) / 4294967296) (wrap64 (x8_2 + 1))) else (none)) else (none)) = some r := by first | (rw [hji13] at H; exact H) | (simp only [hji13] at H ⊢; exact H)
                   have hji13w : (IntKind.i64.wrap (x6_1 + x8_2)) = ji13 := (i64_w _).trans hji13
                   by_cases c14 : 0 ≤ (ji13)
                   · rw [if_pos c14] at H
                     have c14b0 : decide (0 ≤ (ji13)) = true := decide_eq_true c14
                     clear c14
                     by_cases c15 : (ji13) < (x5_2.length : Int)
                     · rw [if_pos c15] at H
                       have c15b0 : decide ((ji13) < (x5_2.length : Int)) = true := decide_eq_true c15
                       clear c15
                       obtain ⟨y588, hy588⟩ : ∃ y_ : List Int, y_ = (x5_2.set ((ji13) : Int).toNat ((IntKind.u64.wrap ((IntKind.u64.wrap (x7_2 + (IntKind.u64.wrap ((IntKind.u64.wrap (rd l0 x6_1)) * (IntKind.u64.wrap (rd l1 x8_2)))))) + (IntKind.u64.wrap (rd x5_2 (ji13))))) % 4294967296)) := ⟨_, rfl⟩
                       replace H : (insolvencyref1_times.l1 k2 l0 l1 y588 x6_1 ((IntKind.u64.wrap ((IntKind.u64.wrap (x7_2 + (IntKind.u64.wrap ((IntKind.u64.wrap (rd l0 x6_1)) * (IntKind.u64.wrap (rd l1 x8_2)))))) + (IntKind.u64.wrap (rd x5_2 (ji13))))) / 4294967296) (wrap64 (x8_2 + 1))) = some r := by first | (rw [hy588]; with_reducible exact H) | (have H2_ := (Option.bind_some _ _).symm.trans H; rw [hy588]; with_reducible exact H2_) | (have H2_ := (Option.bind_some _ _).symm.trans H; with_reducible exact H2_) | with_reducible exact H | (rw [hy588]; exact H) | exact H
                       have Ny588 := Aside0.mk hy588
                       clear hy588
                       have H' := Aside0.mk H
                       clear H
                       have p585 : 0 ≤ (x6_1 : Int) := of_decide_eq_true (by first | (with_reducible assumption) | assumption)
                       have q585 : x6_1 < (l0.length : Int) := of_decide_eq_true (by first | (with_reducible assumption) | assumption)
                       obtain ⟨ad585, e585, hx585_0⟩ := Kd.at_int HR0.out x6_1 p585 q585
                       cases e585
                       replace hx585_0 := (HB.out.cell (World.block_lt_of_cell? w _ hx585_0)).trans hx585_0
                       replace p585 := eq_true p585
                       replace q585 := eq_true q585
                       have p586 : 0 ≤ (x8_2 : Int) := of_decide_eq_true (by first | (with_reducible assumption) | assumption)
                       have q586 : x8_2 < (l1.length : Int) := of_decide_eq_true (by first | (with_reducible assumption) | assumption)
                       obtain ⟨ad586, e586, hx586_0⟩ := Kd.at_int HR1.out x8_2 p586 q586
                       cases e586
                       replace hx586_0 := (HB.out.cell (World.block_lt_of_cell? w _ hx586_0)).trans hx586_0
                       replace p586 := eq_true p586
                       replace q586 := eq_true q586
                       obtain ⟨Ao17, co17, eo17⟩ := Kd.R_slice HO_5.out
                       subst eo17
                       have p587 : 0 ≤ ((ji13) : Int) := of_decide_eq_true (by first | (with_reducible assumption) | assumption)
                       have q587 : (ji13) < (x5_2.length : Int) := of_decide_eq_true (by first | (with_reducible assumption) | assumption)
                       obtain ⟨ad587, e587, hx587_0⟩ := Kd.at_int (Kd.R_reads' HO_5.out).2.2 (ji13) p587 q587
                       cases e587
                       replace p587 := eq_true p587
                       replace q587 := eq_true q587
                       have p16 : 0 ≤ ((ji13) : Int) := of_decide_eq_true (by first | (with_reducible assumption) | assumption)
                       have q16 : ((ji13) : Int) < ((x5_2.length : Int) : Int) := of_decide_eq_true (by first | (with_reducible assumption) | assumption)
                       obtain ⟨go16, co16, eo16, gb16, gl16, cl16, HG16⟩ := Kd.R_form HO_5.out (by omega)
                       (first | cases eo16 | (injection eo16 with ea_ en_ ec_; (first | subst ea_ | (injection ea_ with ea_; subst ea_)); subst ec_; clear en_))
                       have GB16 := Aside0.mk gb16
                       have GG16 := Aside0.mk HG16
                       clear gb16 gl16 HG16
                       (first | simp only [add_plain] at hx587_0 | skip)
                       obtain ⟨hx16_0, hf16_0⟩ := Kd.R_celln 0 HO_5.out ((ji13) : Int) p16 q16
                       replace p16 := eq_true p16
                       replace q16 := eq_true q16
                       have HP18 := Kd.R_putg HO_5.out ((ji13) : Int) ((IntKind.u64.wrap ((IntKind.u64.wrap (x7_2 + (IntKind.u64.wrap ((IntKind.u64.wrap (rd l0 x6_1)) * (IntKind.u64.wrap (rd l1 x8_2)))))) + (IntKind.u64.wrap (rd x5_2 (ji13))))) % 4294967296)
                       go_wp2_with (first | ((with_reducible refine gate_store (t := 60) (p := 54) rfl ?_); (try (rw [drewN_self wr]; generalize hq_ : World.drewN wr _ = wr; have n0_ := Aside0.mk (Kd.R_at hq_ HO_5.out); have n1_ := Aside0.mk (below_at hq_ HB.out); clear hq_ HO_5 HB; have HO_5 := n0_; have HB := n1_; clear n0_ n1_; (try (obtain ⟨hyZ_, hzZ_⟩ := Kd.R_celln 0 HO_5.out ((ji13) : Int) (of_decide_eq_true (by first | (with_reducible assumption) | assumption)) (of_decide_eq_true (by first | (with_reducible assumption) | assumption)))); (try (have HP18 := Kd.R_putg HO_5.out ((ji13) : Int) ((IntKind.u64.wrap ((IntKind.u64.wrap (x7_2 + (IntKind.u64.wrap ((IntKind.u64.wrap (rd l0 x6_1)) * (IntKind.u64.wrap (rd l1 x8_2)))))) + (IntKind.u64.wrap (rd x5_2 (ji13))))) % 4294967296))))); refine store_event (t := 60) (p := 54) (v := ?vo_w19) (w1 := (wr.setCell ⟨go16, ((ji13) : Int).toNat, none⟩ (.int .u32 ((IntKind.u64.wrap ((IntKind.u64.wrap (x7_2 + (IntKind.u64.wrap ((IntKind.u64.wrap (rd l0 x6_1)) * (IntKind.u64.wrap (rd l1 x8_2)))))) + (IntKind.u64.wrap (rd x5_2 (ji13))))) % 4294967296)))) ?hg ?ho ?hn ?hr ?_; (case ho => rfl); (case hg => rfl); (case hn => rfl); (case hr => first | (go_simp; done) | (go_simp; rfl)); intro w19 hw; have hg : wr.grownBy w19 (some go16) := (by rw [hw]; exact HP18.2); have hp_ : Kd.R (Kd.int .u32) 60 w19 w.heap.size (fun _ => True) (.slice (some ⟨go16, 0, none⟩) x5_2.length co17) y588 := (by rw [hw, Ny588.out]; exact HP18.1); clear HP18; have n0_ := Aside0.mk (hp_); have n1_ := Aside0.mk ((by rw [hw]; exact below_set (HB.out) GB16.out : Below w.heap.size w w19)); clear HO_5; clear HB; have HO_5 := n0_; have HB := n1_; clear n0_ n1_; clear hg hw hp_))
                       repeat (go_quiet (first | ((with_reducible refine gate_store (t := 60) (p := 54) rfl ?_); (try (rw [drewN_self wr]; generalize hq_ : World.drewN wr _ = wr; have n0_ := Aside0.mk (Kd.R_at hq_ HO_5.out); have n1_ := Aside0.mk (below_at hq_ HB.out); clear hq_ HO_5 HB; have HO_5 := n0_; have HB := n1_; clear n0_ n1_; (try (obtain ⟨hyZ_, hzZ_⟩ := Kd.R_celln 0 HO_5.out ((ji13) : Int) (of_decide_eq_true (by first | (with_reducible assumption) | assumption)) (of_decide_eq_true (by first | (with_reducible assumption) | assumption)))); (try (have HP18 := Kd.R_putg HO_5.out ((ji13) : Int) ((IntKind.u64.wrap ((IntKind.u64.wrap (x7_2 + (IntKind.u64.wrap ((IntKind.u64.wrap (rd l0 x6_1)) * (IntKind.u64.wrap (rd l1 x8_2)))))) + (IntKind.u64.wrap (rd x5_2 (ji13))))) % 4294967296))))); refine store_event (t := 60) (p := 54) (v := ?vo_w19) (w1 := (wr.setCell ⟨go16, ((ji13) : Int).toNat, none⟩ (.int .u32 ((IntKind.u64.wrap ((IntKind.u64.wrap (x7_2 + (IntKind.u64.wrap ((IntKind.u64.wrap (rd l0 x6_1)) * (IntKind.u64.wrap (rd l1 x8_2)))))) + (IntKind.u64.wrap (rd x5_2 (ji13))))) % 4294967296)))) ?hg ?ho ?hn ?hr ?_; (case ho => rfl); (case hg => rfl); (case hn => rfl); (case hr => first | (go_simp; done) | (go_simp; rfl)); intro w19 hw; have hg : wr.grownBy w19 (some go16) := (by rw [hw]; exact HP18.2); have hp_ : Kd.R (Kd.int .u32) 60 w19 w.heap.size (fun _ => True) (.slice (some ⟨go16, 0, none⟩) x5_2.length co17) y588 := (by rw [hw, Ny588.out]; exact HP18.1); clear HP18; have n0_ := Aside0.mk (hp_); have n1_ := Aside0.mk ((by rw [hw]; exact below_set (HB.out) GB16.out : Below w.heap.size w w19)); clear HO_5; clear HB; have HO_5 := n0_; have HB := n1_; clear n0_ n1_; clear hg hw hp_)); try go_wp2_with (first | ((with_reducible refine gate_store (t := 60) (p := 54) rfl ?_); (try (rw [drewN_self wr]; generalize hq_ : World.drewN wr _ = wr; have n0_ := Aside0.mk (Kd.R_at hq_ HO_5.out); have n1_ := Aside0.mk (below_at hq_ HB.out); clear hq_ HO_5 HB; have HO_5 := n0_; have HB := n1_; clear n0_ n1_; (try (obtain ⟨hyZ_, hzZ_⟩ := Kd.R_celln 0 HO_5.out ((ji13) : Int) (of_decide_eq_true (by first | (with_reducible assumption) | assumption)) (of_decide_eq_true (by first | (with_reducible assumption) | assumption)))); (try (have HP18 := Kd.R_putg HO_5.out ((ji13) : Int) ((IntKind.u64.wrap ((IntKind.u64.wrap (x7_2 + (IntKind.u64.wrap ((IntKind.u64.wrap (rd l0 x6_1)) * (IntKind.u64.wrap (rd l1 x8_2)))))) + (IntKind.u64.wrap (rd x5_2 (ji13))))) % 4294967296))))); refine store_event (t := 60) (p := 54) (v := ?vo_w19) (w1 := (wr.setCell ⟨go16, ((ji13) : Int).toNat, none⟩ (.int .u32 ((IntKind.u64.wrap ((IntKind.u64.wrap (x7_2 + (IntKind.u64.wrap ((IntKind.u64.wrap (rd l0 x6_1)) * (IntKind.u64.wrap (rd l1 x8_2)))))) + (IntKind.u64.wrap (rd x5_2 (ji13))))) % 4294967296)))) ?hg ?ho ?hn ?hr ?_; (case ho => rfl); (case hg => rfl); (case hn => rfl); (case hr => first | (go_simp; done) | (go_simp; rfl)); intro w19 hw; have hg : wr.grownBy w19 (some go16) := (by rw [hw]; exact HP18.2); have hp_ : Kd.R (Kd.int .u32) 60 w19 w.heap.size (fun _ => True) (.slice (some ⟨go16, 0, none⟩) x5_2.length co17) y588 := (by rw [hw, Ny588.out]; exact HP18.1); clear HP18; have n0_ := Aside0.mk (hp_); have n1_ := Aside0.mk ((by rw [hw]; exact below_set (HB.out) GB16.out : Below w.heap.size w w19)); clear HO_5; clear HB; have HO_5 := n0_; have HB := n1_; clear n0_ n1_; clear hg hw hp_)))
                       go_roundg k2
                       case measure => have := HK1.out; have := HK2.out; omega
                       case rel => exact ⟨(y588), ((IntKind.u64.wrap ((IntKind.u64.wrap (x7_2 + (IntKind.u64.wrap ((IntKind.u64.wrap (rd l0 x6_1)) * (IntKind.u64.wrap (rd l1 x8_2)))))) + (IntKind.u64.wrap (rd x5_2 (ji13))))) / 4294967296), (wrap64 (x8_2 + 1)), (by first | rfl | (simp; done) | (simp only [← hji13] <;> (first | rfl | simp)) | (simp [*]; done)), (by first | rfl | (simp; done) | (simp [*]; done)), H', ⟨by have := HK1.out; have := HK2.out; omega⟩, ⟨by (with_reducible repeat (first | apply Kd.R_alloc | apply Kd.R_drewN | apply Kd.R_drew)); exact HO_5.out⟩, ⟨by repeat (first | (with_reducible first | exact HB.out | apply below_alloc | apply pw_below_drewN | apply below_drew1) | exact HB.out)⟩⟩
                     · rw [if_neg c15] at H
                       exact absurd H (by simp)
                   · rw [if_neg c14] at H
                     exact absurd H (by simp)
                 · rw [if_neg c12] at H
                   exact absurd H (by simp)
               · rw [if_neg c11] at H
                 exact absurd H (by simp)
             · rw [if_neg c10] at H
               exact absurd H (by simp)
           · rw [if_neg c9] at H
             have c9b0 : decide (x8_2 < (l1.length : Int)) = false := decide_eq_false c9
             clear c9
             obtain ⟨ji20, hji20⟩ : ∃ j_ : Int, (wrap64 (x6_1 + (l1.length : Int))) = j_ := ⟨_, rfl⟩
             replace H : (if 0 ≤ (ji20) then (if (ji20) < (x5_2.length : Int) then (insolvencyref1_times.l0 k2 l0 l1 (x5_2.set ((ji20) : Int).toNat ((x7_2) % 4294967296)) (wrap64 (x6_1 + 1))) else (none)) else (none)) = some r := by first | (rw [hji20] at H; exact H) | (simp only [hji20] at H ⊢; exact H)
             have hji20w : (IntKind.i64.wrap (x6_1 + (l1.length : Int))) = ji20 := (i64_w _).trans hji20
             by_cases c21 : 0 ≤ (ji20)
             · rw [if_pos c21] at H
               have c21b0 : decide (0 ≤ (ji20)) = true := decide_eq_true c21
               clear c21
               by_cases c22 : (ji20) < (x5_2.length : Int)
               · rw [if_pos c22] at H
                 have c22b0 : decide ((ji20) < (x5_2.length : Int)) = true := decide_eq_true c22
                 clear c22
                 obtain ⟨y589, hy589⟩ : ∃ y_ : List Int, y_ = (x5_2.set ((ji20) : Int).toNat ((x7_2) % 4294967296)) := ⟨_, rfl⟩
                 replace H : (insolvencyref1_times.l0 k2 l0 l1 y589 (wrap64 (x6_1 + 1))) = some r := by first | (rw [hy589]; with_reducible exact H) | (have H2_ := (Option.bind_some _ _).symm.trans H; rw [hy589]; with_reducible exact H2_) | (have H2_ := (Option.bind_some _ _).symm.trans H; with_reducible exact H2_) | with_reducible exact H | (rw [hy589]; exact H) | exact H
                 have Ny589 := Aside0.mk hy589
                 clear hy589
                 have H' := Aside0.mk H
                 clear H
                 have p23 : 0 ≤ ((ji20) : Int) := of_decide_eq_true (by first | (with_reducible assumption) | assumption)
                 have q23 : ((ji20) : Int) < ((x5_2.length : Int) : Int) := of_decide_eq_true (by first | (with_reducible assumption) | assumption)
                 obtain ⟨go23, co23, eo23, gb23, gl23, cl23, HG23⟩ := Kd.R_form HO_5.out (by omega)
                 (first | cases eo23 | (injection eo23 with ea_ en_ ec_; (first | subst ea_ | (injection ea_ with ea_; subst ea_)); subst ec_; clear en_))
                 have GB23 := Aside0.mk gb23
                 have GG23 := Aside0.mk HG23
                 clear gb23 gl23 HG23
                 obtain ⟨hx23_0, hf23_0⟩ := Kd.R_celln 0 HO_5.out ((ji20) : Int) p23 q23
                 replace p23 := eq_true p23
                 replace q23 := eq_true q23
                 have HP24 := Kd.R_putg HO_5.out ((ji20) : Int) ((x7_2) % 4294967296)
                 go_wp2_with (first | ((with_reducible refine gate_store (t := 60) (p := 64) rfl ?_); (try (rw [drewN_self wr]; generalize hq_ : World.drewN wr _ = wr; have n0_ := Aside0.mk (Kd.R_at hq_ HO_5.out); have n1_ := Aside0.mk (below_at hq_ HB.out); clear hq_ HO_5 HB; have HO_5 := n0_; have HB := n1_; clear n0_ n1_; (try (obtain ⟨hyZ_, hzZ_⟩ := Kd.R_celln 0 HO_5.out ((ji20) : Int) (of_decide_eq_true (by first | (with_reducible assumption) | assumption)) (of_decide_eq_true (by first | (with_reducible assumption) | assumption)))); (try (have HP24 := Kd.R_putg HO_5.out ((ji20) : Int) ((x7_2) % 4294967296))))); refine store_event (t := 60) (p := 64) (v := ?vo_w25) (w1 := (wr.setCell ⟨go23, ((ji20) : Int).toNat, none⟩ (.int .u32 ((x7_2) % 4294967296)))) ?hg ?ho ?hn ?hr ?_; (case ho => rfl); (case hg => rfl); (case hn => rfl); (case hr => first | (go_simp; done) | (go_simp; rfl)); intro w25 hw; have hg : wr.grownBy w25 (some go23) := (by rw [hw]; exact HP24.2); have hp_ : Kd.R (Kd.int .u32) 60 w25 w.heap.size (fun _ => True) (.slice (some ⟨go23, 0, none⟩) x5_2.length co23) y589 := (by rw [hw, Ny589.out]; exact HP24.1); clear HP24; have n0_ := Aside0.mk (hp_); have n1_ := Aside0.mk ((by rw [hw]; exact below_set (HB.out) GB23.out : Below w.heap.size w w25)); clear HO_5; clear HB; have HO_5 := n0_; have HB := n1_; clear n0_ n1_; clear hg hw hp_))
                 repeat (go_quiet (first | ((with_reducible refine gate_store (t := 60) (p := 64) rfl ?_); (try (rw [drewN_self wr]; generalize hq_ : World.drewN wr _ = wr; have n0_ := Aside0.mk (Kd.R_at hq_ HO_5.out); have n1_ := Aside0.mk (below_at hq_ HB.out); clear hq_ HO_5 HB; have HO_5 := n0_; have HB := n1_; clear n0_ n1_; (try (obtain ⟨hyZ_, hzZ_⟩ := Kd.R_celln 0 HO_5.out ((ji20) : Int) (of_decide_eq_true (by first | (with_reducible assumption) | assumption)) (of_decide_eq_true (by first | (with_reducible assumption) | assumption)))); (try (have HP24 := Kd.R_putg HO_5.out ((ji20) : Int) ((x7_2) % 4294967296))))); refine store_event (t := 60) (p := 64) (v := ?vo_w25) (w1 := (wr.setCell ⟨go23, ((ji20) : Int).toNat, none⟩ (.int .u32 ((x7_2) % 4294967296)))) ?hg ?ho ?hn ?hr ?_; (case ho => rfl); (case hg => rfl); (case hn => rfl); (case hr => first | (go_simp; done) | (go_simp; rfl)); intro w25 hw; have hg : wr.grownBy w25 (some go23) := (by rw [hw]; exact HP24.2); have hp_ : Kd.R (Kd.int .u32) 60 w25 w.heap.size (fun _ => True) (.slice (some ⟨go23, 0, none⟩) x5_2.length co23) y589 := (by rw [hw, Ny589.out]; exact HP24.1); clear HP24; have n0_ := Aside0.mk (hp_); have n1_ := Aside0.mk ((by rw [hw]; exact below_set (HB.out) GB23.out : Below w.heap.size w w25)); clear HO_5; clear HB; have HO_5 := n0_; have HB := n1_; clear n0_ n1_; clear hg hw hp_)); try go_wp2_with (first | ((with_reducible refine gate_store (t := 60) (p := 64) rfl ?_); (try (rw [drewN_self wr]; generalize hq_ : World.drewN wr _ = wr; have n0_ := Aside0.mk (Kd.R_at hq_ HO_5.out); have n1_ := Aside0.mk (below_at hq_ HB.out); clear hq_ HO_5 HB; have HO_5 := n0_; have HB := n1_; clear n0_ n1_; (try (obtain ⟨hyZ_, hzZ_⟩ := Kd.R_celln 0 HO_5.out ((ji20) : Int) (of_decide_eq_true (by first | (with_reducible assumption) | assumption)) (of_decide_eq_true (by first | (with_reducible assumption) | assumption)))); (try (have HP24 := Kd.R_putg HO_5.out ((ji20) : Int) ((x7_2) % 4294967296))))); refine store_event (t := 60) (p := 64) (v := ?vo_w25) (w1 := (wr.setCell ⟨go23, ((ji20) : Int).toNat, none⟩ (.int .u32 ((x7_2) % 4294967296)))) ?hg ?ho ?hn ?hr ?_; (case ho => rfl); (case hg => rfl); (case hn => rfl); (case hr => first | (go_simp; done) | (go_simp; rfl)); intro w25 hw; have hg : wr.grownBy w25 (some go23) := (by rw [hw]; exact HP24.2); have hp_ : Kd.R (Kd.int .u32) 60 w25 w.heap.size (fun _ => True) (.slice (some ⟨go23, 0, none⟩) x5_2.length co23) y589 := (by rw [hw, Ny589.out]; exact HP24.1); clear HP24; have n0_ := Aside0.mk (hp_); have n1_ := Aside0.mk ((by rw [hw]; exact below_set (HB.out) GB23.out : Below w.heap.size w w25)); clear HO_5; clear HB; have HO_5 := n0_; have HB := n1_; clear n0_ n1_; clear hg hw hp_)))
                 go_roundg k2
                 case measure => have := HK1.out; have := HK2.out; omega
                 case rel => exact ⟨(y589), (wrap64 (x6_1 + 1)), (by first | rfl | (simp; done) | (simp [*]; done)), H', ⟨by have := HK1.out; have := HK2.out; omega⟩, ⟨by (with_reducible repeat (first | apply Kd.R_alloc | apply Kd.R_drewN | apply Kd.R_drew)); exact HO_5.out⟩, ⟨by repeat (first | (with_reducible first | exact HB.out | apply below_alloc | apply pw_below_drewN | apply below_drew1) | exact HB.out)⟩⟩
               · rw [if_neg c22] at H
                 exact absurd H (by simp)
             · rw [if_neg c21] at H
               exact absurd H (by simp)
       · rw [if_neg c8] at H
         have c8b0 : decide (x6_1 < (l0.length : Int)) = false := decide_eq_false c8
         clear c8
         replace H := Option.bind_eq_some_iff.mp H
         obtain ⟨t582, A260, H⟩ := H
         replace H : (some t582) = some r := H
         have A26 := Aside0.mk A260
         clear A260
         obtain rfl := Option.some.inj H
         obtain ⟨Ao27, co27, eo27⟩ := Kd.R_slice HO_5.out
         subst eo27
         go_wp2_with (first | (go_at_call 75; (with_reducible refine (insolvencyref1_strip.calls k1 (fun k_ => some k_ = (.slice Ao27 x5_1.length co27 : Value).ownBlock) (.slice Ao27 x5_1.length co27) x5_1 t582 w _ ?side1 ?side2 A26.out).mono ?_); (case side1 => repeat (first | (with_reducible first | exact HB.out | apply below_alloc | apply pw_below_drewN | apply below_drew1) | exact HB.out)); (case side2 => exact Kd.R_tight rfl HO_5.out); rintro e w28 ⟨v583, rfl, ho0, hb, hkp⟩; have n0_ := Aside0.mk (Kd.R_mono (ok' := fun k_ => True) ho0 (fun k_ hk_ => trivial)); have n1_ := Aside0.mk (hb); clear HB; clear HO_5; have HO584 := n0_; have HB := n1_; clear n0_ n1_; (try clear hb); (try clear hkp); (try clear ho0)))
         repeat (go_quiet (first | (go_at_call 75; (with_reducible refine (insolvencyref1_strip.calls k1 (fun k_ => some k_ = (.slice Ao27 x5_1.length co27 : Value).ownBlock) (.slice Ao27 x5_1.length co27) x5_1 t582 w _ ?side1 ?side2 A26.out).mono ?_); (case side1 => repeat (first | (with_reducible first | exact HB.out | apply below_alloc | apply pw_below_drewN | apply below_drew1) | exact HB.out)); (case side2 => exact Kd.R_tight rfl HO_5.out); rintro e w28 ⟨v583, rfl, ho0, hb, hkp⟩; have n0_ := Aside0.mk (Kd.R_mono (ok' := fun k_ => True) ho0 (fun k_ hk_ => trivial)); have n1_ := Aside0.mk (hb); clear HB; clear HO_5; have HO584 := n0_; have HB := n1_; clear n0_ n1_; (try clear hb); (try clear hkp); (try clear ho0))); try go_wp2_with (first | (go_at_call 75; (with_reducible refine (insolvencyref1_strip.calls k1 (fun k_ => some k_ = (.slice Ao27 x5_1.length co27 : Value).ownBlock) (.slice Ao27 x5_1.length co27) x5_1 t582 w _ ?side1 ?side2 A26.out).mono ?_); (case side1 => repeat (first | (with_reducible first | exact HB.out | apply below_alloc | apply pw_below_drewN | apply below_drew1) | exact HB.out)); (case side2 => exact Kd.R_tight rfl HO_5.out); rintro e w28 ⟨v583, rfl, ho0, hb, hkp⟩; have n0_ := Aside0.mk (Kd.R_mono (ok' := fun k_ => True) ho0 (fun k_ hk_ => trivial)); have n1_ := Aside0.mk (hb); clear HB; clear HO_5; have HO584 := n0_; have HB := n1_; clear n0_ n1_; (try clear hb); (try clear hkp); (try clear ho0))))
         go_ret
         exact ⟨_, by first | rfl | (simp [errW_none, errW_some] <;> rfl) | (simp only [← hji3]; first | rfl | (simp [errW_none, errW_some] <;> rfl)) | (simp [*, errW_none, errW_some] <;> rfl), by (with_reducible repeat (first | apply Kd.R_alloc | apply Kd.R_drewN | apply Kd.R_drew)); exact HO584.out, by repeat (first | (with_reducible first | exact HB.out | apply below_alloc | apply pw_below_drewN | apply below_drew1) | exact HB.out)⟩
   · rw [if_neg c5] at H
     exact absurd H (by simp)
 · rw [if_neg c4] at H
   exact absurd H (by simp)
end Go.Proofs.YtjaflmhdclmolaaDoor.F
end
section
namespace Go.Proofs.YtjaflmhdclmolaaDoor.F
open Go.RowKit Go.Proofs.YtjaflmhdclmolaaDoorW.PrintWords Go.Proofs.YtjaflmhdclmolaaDoorW.PrintLast Go.Proofs.YtjaflmhdclmolaaDoorW.PrintMore
attribute [local go_sem] max2_int min2_int max_two min_two max_three min_three max_four min_four   
set_option linter.unusedVariables false
set_option linter.unusedSimpArgs false
def insolvencyref1_NatMultiply.f (k : Nat) (a0 : ByteArray) (a1 : ByteArray) : Option (ByteArray) := (insolvencyref1_limbs.f k a0).bind fun t590 => ((insolvencyref1_limbs.f k a1).bind fun t593 => ((insolvencyref1_times.f k t590 t593).bind fun t596 => ((insolvencyref1_text.f k t596).bind fun t599 => (some t599))))
theorem insolvencyref1_NatMultiply.mono : ∀ a0 a1 k, LeO (insolvencyref1_NatMultiply.f k a0 a1) (insolvencyref1_NatMultiply.f (k + 1) a0 a1) := by
 intro a0 a1 k
 unfold insolvencyref1_NatMultiply.f
 repeat' first
  | (with_reducible exact insolvencyref1_limbs.mono _ _)
  | (with_reducible exact insolvencyref1_text.mono _ _)
  | (with_reducible exact insolvencyref1_times.mono _ _ _)
  | (with_reducible exact LeO.refl _)
  | (with_reducible exact LeO.none _)
  | (with_reducible refine LeO.ite ?_ ?_)
  | (with_reducible refine LeO.bind ?_ (fun _ => ?_))
  | exact insolvencyref1_limbs.mono _ _
  | exact insolvencyref1_text.mono _ _
  | exact insolvencyref1_times.mono _ _ _
  | exact LeO.none _
  | refine LeO.ite ?_ ?_
  | refine LeO.bind ?_ (fun _ => ?_)
set_option maxHeartbeats 8000000 in
set_option maxRecDepth 100000 in
theorem insolvencyref1_NatMultiply.calls (k : Nat) (a0 : ByteArray) (a1 : ByteArray) (r : ByteArray) (w : World) (h : insolvencyref1_NatMultiply.f k a0 a1 = some r) :
 Calls Tryd.prog 37 #[.string a0, .string a1] w fun e w' => e = .returned (.string r) ∧ Below w.heap.size w w' := by
 have HB := Aside0.mk (Below.refl w.heap.size w)
 have H : ((insolvencyref1_limbs.f k a0).bind fun t590 => ((insolvencyref1_limbs.f k a1).bind fun t593 => ((insolvencyref1_times.f k t590 t593).bind fun t596 => ((insolvencyref1_text.f k t596).bind fun t599 => (some t599))))) = some r := h
 clear h
 replace H := Option.bind_eq_some_iff.mp H
 obtain ⟨t590, A30, H⟩ := H
 replace H : ((insolvencyref1_limbs.f k a1).bind fun t593 => ((insolvencyref1_times.f k t590 t593).bind fun t596 => ((insolvencyref1_text.f k t596).bind fun t599 => (some t599)))) = some r := H
 have A3 := Aside0.mk A30
 clear A30
 replace H := Option.bind_eq_some_iff.mp H
 obtain ⟨t593, A40, H⟩ := H
 replace H : ((insolvencyref1_times.f k t590 t593).bind fun t596 => ((insolvencyref1_text.f k t596).bind fun t599 => (some t599))) = some r := H
 have A4 := Aside0.mk A40
 clear A40
 replace H := Option.bind_eq_some_iff.mp H
 obtain ⟨t596, A50, H⟩ := H
 replace H : ((insolvencyref1_text.f k t596).bind fun t599 => (some t599)) = some r := H
 have A5 := Aside0.mk A50
 clear A50
 replace H := Option.bind_eq_some_iff.mp H
 obtain ⟨t599, A60, H⟩ := H
 replace H : (some t599) = some r := H
 have A6 := Aside0.mk A60
 clear A60
 obtain rfl := Option.some.inj H
 go_enter Tryd.func37, Tryd.ntmps37
 go_wp2_with (first | ((with_reducible refine gate_callee (f := 45) rfl ?_); refine goesL_ (some 6) rfl rfl Tryd.func45 (by kernel_rfl) rfl #[.string a0] rfl (by (try simp only [List.map_toArray, List.map_cons, List.map_nil]); first | done | rfl | (simp only [List.length_drop, List.length_take]; rfl)) ?_; (with_reducible refine (insolvencyref1_limbs.calls k a0 t590 _ A3.out).mono ?_); rintro e w7 ⟨v591, rfl, ho0, hb⟩; refine ⟨_, rfl, ?_⟩; have n0_ := Aside0.mk (Kd.R_lower ho0 (below_size (by repeat (first | (with_reducible first | exact HB.out | apply below_alloc | apply pw_below_drewN | apply below_drew1) | exact HB.out)))); have n1_ := Aside0.mk (below_step (by repeat (first | (with_reducible first | exact HB.out | apply below_alloc | apply pw_below_drewN | apply below_drew1) | exact HB.out)) hb); clear HB; have HO592 := n0_; have HB := n1_; clear n0_ n1_; (try clear hb); (try clear hb2); (try clear hk); (try clear hi); (try clear ho0)) | ((with_reducible refine gate_callee (f := 45) rfl ?_); refine goesL_ (some 8) rfl rfl Tryd.func45 (by kernel_rfl) rfl #[.string a1] rfl (by (try simp only [List.map_toArray, List.map_cons, List.map_nil]); first | done | rfl | (simp only [List.length_drop, List.length_take]; rfl)) ?_; (with_reducible refine (insolvencyref1_limbs.calls k a1 t593 _ A4.out).mono ?_); rintro e w8 ⟨v594, rfl, ho0, hb⟩; refine ⟨_, rfl, ?_⟩; have n0_ := Aside0.mk (Kd.R_elder' (by (with_reducible repeat (first | apply Kd.R_alloc | apply Kd.R_drewN | apply Kd.R_drew)); exact HO592.out) (Kd.R_base ho0) hb); have n1_ := Aside0.mk (Kd.R_lower (Kd.R_new' ho0 (Kd.R_lt (by (with_reducible repeat (first | apply Kd.R_alloc | apply Kd.R_drewN | apply Kd.R_drew)); exact HO592.out))) (below_size (by repeat (first | (with_reducible first | exact HB.out | apply below_alloc | apply pw_below_drewN | apply below_drew1) | exact HB.out)))); have n2_ := Aside0.mk (below_step (by repeat (first | (with_reducible first | exact HB.out | apply below_alloc | apply pw_below_drewN | apply below_drew1) | exact HB.out)) hb); clear HO592; clear HB; have HO592 := n0_; have HO595 := n1_; have HB := n2_; clear n0_ n1_ n2_; (try clear hb); (try clear hb2); (try clear hk); (try clear hi); (try clear ho0); obtain ⟨Ao9, co9, eo9⟩ := Kd.R_slice HO592.out; subst eo9; obtain ⟨Ao10, co10, eo10⟩ := Kd.R_slice HO595.out; subst eo10) | ((with_reducible refine gate_callee (f := 61) rfl ?_); refine goesL_ (some 9) rfl rfl Tryd.func61 (by kernel_rfl) rfl #[.slice Ao9 t590.length co9, .slice Ao10 t593.length co10] rfl (by (try simp only [List.map_toArray, List.map_cons, List.map_nil]); first | done | rfl | (simp only [List.length_drop, List.length_take]; rfl)) ?_; (with_reducible refine (insolvencyref1_times.calls k _ _ t590 _ _ t593 t596 _ ?side1 ?side2 ?side3 ?side4 A5.out).mono ?_); (case side1 => repeat (first | exact (Kd.R_reads' HO592.out).2.2 | (with_reducible refine Kd.C_alloc ?_ _) | (with_reducible refine Kd.C_drewN ?_ _) | (with_reducible refine Kd.C_drew ?_))); (case side2 => exact (Kd.R_reads' HO592.out).2.1); (case side3 => repeat (first | exact (Kd.R_reads' HO595.out).2.2 | (with_reducible refine Kd.C_alloc ?_ _) | (with_reducible refine Kd.C_drewN ?_ _) | (with_reducible refine Kd.C_drew ?_))); (case side4 => exact (Kd.R_reads' HO595.out).2.1); rintro e w11 ⟨v597, rfl, ho0, hb⟩; refine ⟨_, rfl, ?_⟩; have n0_ := Aside0.mk (Kd.R_elder' (by (with_reducible repeat (first | apply Kd.R_alloc | apply Kd.R_drewN | apply Kd.R_drew)); exact HO592.out) (Kd.R_base ho0) hb); have n1_ := Aside0.mk (Kd.R_elder' (by (with_reducible repeat (first | apply Kd.R_alloc | apply Kd.R_drewN | apply Kd.R_drew)); exact HO595.out) (Kd.R_base ho0) hb); have n2_ := Aside0.mk (Kd.R_lower (Kd.R_new' (Kd.R_new' ho0 (Kd.R_lt (by (with_reducible repeat (first | apply Kd.R_alloc | apply Kd.R_drewN | apply Kd.R_drew)); exact HO592.out))) (Kd.R_lt (by (with_reducible repeat (first | apply Kd.R_alloc | apply Kd.R_drewN | apply Kd.R_drew)); exact HO595.out))) (below_size (by repeat (first | (with_reducible first | exact HB.out | apply below_alloc | apply pw_below_drewN | apply below_drew1) | exact HB.out)))); have n3_ := Aside0.mk (below_step (by repeat (first | (with_reducible first | exact HB.out | apply below_alloc | apply pw_below_drewN | apply below_drew1) | exact HB.out)) hb); clear HO592; clear HO595; clear HB; have HO592 := n0_; have HO595 := n1_; have HO598 := n2_; have HB := n3_; clear n0_ n1_ n2_ n3_; (try clear hb); (try clear hb2); (try clear hk); (try clear hi); (try clear ho0); obtain ⟨Ao12, co12, eo12⟩ := Kd.R_slice HO598.out; subst eo12) | ((with_reducible refine gate_callee (f := 47) rfl ?_); refine goesL_ (some 10) rfl rfl Tryd.func47 (by kernel_rfl) rfl #[.slice Ao12 t596.length co12] rfl (by (try simp only [List.map_toArray, List.map_cons, List.map_nil]); first | done | rfl | (simp only [List.length_drop, List.length_take]; rfl)) ?_; (with_reducible refine (insolvencyref1_text.calls k (fun k_ => some k_ = (.slice Ao12 t596.length co12 : Value).ownBlock) (.slice Ao12 t596.length co12) t596 t599 w _ ?side1 ?side2 A6.out).mono ?_); (case side1 => repeat (first | (with_reducible first | exact HB.out | apply below_alloc | apply pw_below_drewN | apply below_drew1) | exact HB.out)); (case side2 => exact Kd.R_tight rfl HO598.out); rintro e w13 ⟨rfl, hb, hkp⟩; refine ⟨_, rfl, ?_⟩; have n0_ := Aside0.mk (Kd.R_mono (ok' := fun k_ => some k_ ≠ (.slice Ao10 t593.length co10 : Value).ownBlock) (Kd.R_keptB (HO592.out) hkp (fun k_ hk_ hs_ => (hk_.2) hs_)) (fun k_ hk_ => hk_.1.1.2)); have n1_ := Aside0.mk (Kd.R_mono (ok' := fun k_ => some k_ ≠ (.slice Ao9 t590.length co9 : Value).ownBlock) (Kd.R_keptB (HO595.out) hkp (fun k_ hk_ hs_ => (hk_.2) hs_)) (fun k_ hk_ => hk_.1.1.2)); have n2_ := Aside0.mk (hb); clear HO592; clear HO595; clear HB; clear HO598; have HO592 := n0_; have HO595 := n1_; have HB := n2_; clear n0_ n1_ n2_; (try clear hb); (try clear hkp)))
 go_ret
 exact ⟨by first | rfl | (simp [errW_none, errW_some] <;> rfl) | (simp [*, errW_none, errW_some] <;> rfl), by repeat (first | (with_reducible first | exact HB.out | apply below_alloc | apply pw_below_drewN | apply below_drew1) | exact HB.out)⟩
end Go.Proofs.YtjaflmhdclmolaaDoor.F
end
section
namespace Go.Proofs.YtjaflmhdclmolaaDoor.Num
open Go.RowKit Go.Proofs.YtjaflmhdclmolaaDoorW.PrintWords Go.Proofs.YtjaflmhdclmolaaDoorW.PrintLast Go.Proofs.YtjaflmhdclmolaaDoorW.PrintMore Go.Proofs.YtjaflmhdclmolaaDoor.F
set_option linter.unusedVariables false
theorem drop_cons {l : List Int} {i : Nat} {x : Int} {r : List Int} (h : l.drop i = x :: r) : i < l.length ∧ rd l (i : Int) = x ∧ l.drop (i + 1) = r ∧ x ∈ l := by
 have hlt : i < l.length := by
  rcases Nat.lt_or_ge i l.length with q | q
  · exact q
  · rw [List.drop_of_length_le q] at h; cases h
 obtain ⟨y, _, hr, _, hd⟩ := drop_split hlt
 rw [hd] at h
 have h1 := (List.cons.inj h).1
 have h2 := (List.cons.inj h).2
 refine ⟨hlt, by rw [hr, h1], h2, ?_⟩
 have : x ∈ l.drop i := by rw [hd, h1]; exact List.mem_cons_self
 exact List.mem_of_mem_drop this
theorem drop_nil {l : List Int} {i : Nat} (h : l.drop i = []) : l.length ≤ i := by
 have := congrArg List.length h
 rw [List.length_drop, List.length_nil] at this
 omega
theorem drop_len {l : List Int} {i : Nat} {r : List Int} (h : l.drop i = r) : r.length = l.length - i := by rw [← h, List.length_drop]
theorem vsnoc (o : List Int) (d r : Int) : val (o ++ [d]) + 4294967296 ^ (o ++ [d]).length * r = val o + 4294967296 ^ o.length * (d + 4294967296 * r) := by
 rw [val_app, List.length_append, List.length_singleton, Int.pow_succ]
 simp only [val, Int.mul_zero, Int.add_zero, Int.mul_add, ← Int.mul_assoc]
 omega
theorem snoc_len (o : List Int) (d : Int) : (o ++ [d]).length = o.length + 1 := by rw [List.length_append, List.length_singleton]
theorem snoc_dig {o : List Int} {d : Int} (h : Dig o) (h0 : 0 ≤ d) (h1 : d < 4294967296) : Dig (o ++ [d]) := h.app (Dig.cons h0 h1 Dig.nil)
theorem set_snoc (o : List Int) (d x : Int) (r : List Int) : (o ++ x :: r).set o.length d = (o ++ [d]) ++ r := by
 have := set_at o x d r (o.length : Int) rfl
 rw [Int.toNat_natCast] at this
 rw [this, List.append_assoc, List.singleton_append]
theorem add32_eq {a b c : Int} (ha0 : 0 ≤ a) (ha : a < 4294967296) (hb0 : 0 ≤ b) (hb : b < 4294967296) (hc0 : 0 ≤ c) (hc : c ≤ 1) : bits_Add32.f a b c = some ((a + b + c) % 4294967296, (a + b + c) / 4294967296) := by
 unfold bits_Add32.f
 rw [wu (n := a) (by omega) (by omega), wu (n := b) (by omega) (by omega), wu (n := c) (by omega) (by omega), wu (n := a + b) (by omega) (by omega), wu (by omega) (by omega), Int.emod_eq_of_lt (a := (a + b + c) / 4294967296) (by omega) (by omega)]
theorem add_loop (x y : List Int) (hx : Dig x) (hy : Dig y) (hl : x.length ≤ 400000) (xs : List Int) : ∀ (ys o : List Int) (c : Int), x.drop o.length = xs → y.drop o.length = ys → ys.length ≤ xs.length → Dig o → 0 ≤ c → c ≤ 1 → o.length ≤ x.length →
 Ev (fun k => natural_Add.l0 k x y (o ++ List.replicate (xs.length + 1) 0) c (x.length : Int) (o.length : Int)) (S (val o + 4294967296 ^ o.length * (c + val xs + val ys))) := by
 induction xs with
 | nil =>
  intro ys o c h1 h2 h3 ho c0 c1 hol
  have e1 := drop_nil h1
  have e2 : ys = [] := List.eq_nil_of_length_eq_zero (by simpa using h3)
  have hd : Dig (o ++ [c]) := snoc_dig ho c0 (by omega)
  have ht := text_ev hd (by rw [snoc_len]; omega)
  have hv : val (o ++ [c]) = val o + 4294967296 ^ o.length * (c + val [] + val ys) := by rw [e2, val_app]; simp [val]
  rw [hv] at ht
  refine Ev.step (f := fun k => (natural_limbs_text.f k (o ++ [c])).bind fun t => some t) (fun k => ?_) (Ev.bind ht (Ev.now _))
  have hs : (o ++ List.replicate (([] : List Int).length + 1) 0).set x.length c = o ++ [c] := by
   rw [show x.length = o.length by omega]
   exact (set_snoc o c 0 []).trans (List.append_nil _)
  simp only [natural_Add.l0]
  rw [if_neg (by omega), if_pos (by omega), if_pos (by rw [List.length_append, List.length_replicate, List.length_nil]; omega), Int.toNat_natCast, hs]
 | cons a xs ih =>
  intro ys o c h1 h2 h3 ho c0 c1 hol
  obtain ⟨i1, r1, d1, m1⟩ := drop_cons h1
  have ba := hx a m1
  have hL : o.length < (o ++ List.replicate ((a :: xs).length + 1) 0).length := by
   rw [List.length_append, List.length_replicate]; omega
  have hset : ∀ d, (o ++ List.replicate ((a :: xs).length + 1) 0).set o.length d = (o ++ [d]) ++ List.replicate (xs.length + 1) 0 := fun d => by
   rw [List.replicate_succ]
   exact set_snoc o d 0 _
  cases ys with
  | nil =>
   have e2 := drop_nil h2
   have q := add32_eq ba.1 ba.2 (show (0 : Int) ≤ 0 by omega) (show (0 : Int) < 4294967296 by omega) c0 c1
   have ih := ih [] (o ++ [(a + 0 + c) % 4294967296]) ((a + 0 + c) / 4294967296) (by rw [snoc_len]; exact d1) (by rw [snoc_len]; exact List.drop_of_length_le (by omega)) (Nat.zero_le _) (snoc_dig ho (by omega) (by omega)) (by omega) (by omega) (by rw [snoc_len]; omega)
   rw [vsnoc, show (a + 0 + c) % 4294967296 + 4294967296 * ((a + 0 + c) / 4294967296 + val xs + val []) = c + val (a :: xs) + val [] by simp only [val]; omega, snoc_len] at ih
   refine Ev.step (fun k => ?_) ih
   simp only [natural_Add.l0]
   rw [r1, q, Option.bind_some, if_pos (by omega), if_neg (by omega), if_pos (by omega), if_pos (by omega), if_pos (by omega), Int.toNat_natCast, hset, winc (by omega)]
  | cons b ys =>
   obtain ⟨i2, r2, d2, m2⟩ := drop_cons h2
   have bb := hy b m2
   have q := add32_eq ba.1 ba.2 bb.1 bb.2 c0 c1
   have ih := ih ys (o ++ [(a + b + c) % 4294967296]) ((a + b + c) / 4294967296) (by rw [snoc_len]; exact d1) (by rw [snoc_len]; exact d2) (by simpa using h3) (snoc_dig ho (by omega) (by omega)) (by omega) (by omega) (by rw [snoc_len]; omega)
   rw [vsnoc, show (a + b + c) % 4294967296 + 4294967296 * ((a + b + c) / 4294967296 + val xs + val ys) = c + val (a :: xs) + val (b :: ys) by simp only [val]; omega, snoc_len] at ih
   refine Ev.step (fun k => ?_) ih
   simp only [natural_Add.l0]
   rw [r1, r2, q, Option.bind_some, if_pos (by omega), if_pos (by omega), if_pos (by omega), if_pos (by omega), if_pos (by omega), Int.toNat_natCast, hset, winc (by omega)]
theorem add_j0 (x y : List Int) (hx : Dig x) (hy : Dig y) (hl : x.length ≤ 400000) (h : y.length ≤ x.length) : Ev (fun k => natural_Add.j0 k x y) (S (val x + val y)) := by
 have g := add_loop x y hx hy hl x y [] 0 rfl rfl h Dig.nil (Int.le_refl _) (by decide) (Nat.zero_le _)
 have e : val [] + 4294967296 ^ ([] : List Int).length * (0 + val x + val y) = val x + val y := by simp [val]
 rw [e] at g
 refine Ev.step (fun k => ?_) g
 simp only [natural_Add.j0]
 rw [winc (by omega), Int.toNat_natCast, if_pos (by omega), if_pos (by omega)]
 rfl
theorem Add_ev (a b : ByteArray) (ha : a.size ≤ 1600000) (hb : b.size ≤ 1600000) : Ev (fun k => natural_Add.f k a b) (S (B a + B b)) := by
 have h1 := B_nonneg a
 have h2 := B_nonneg b
 have l1 := B_small (s := a) (m := 400000) (by omega)
 have l2 := B_small (s := b) (m := 400000) (by omega)
 refine Ev.bind (parse_ev a (by omega)) ?_
 refine Ev.bind (parse_ev b (by omega)) ?_
 by_cases h : (L (B a)).length < (L (B b)).length
 · refine Ev.ite (by omega) ?_
   have g := add_j0 _ _ (L_dig h2) (L_dig h1) l2 (by omega)
   rw [L_val h1, L_val h2, Int.add_comm] at g
   exact g
 · refine Ev.ite_not (by omega) ?_
   have g := add_j0 _ _ (L_dig h1) (L_dig h2) l1 (by omega)
   rw [L_val h1, L_val h2] at g
   exact g
theorem sub32_eq {a b c : Int} (ha0 : 0 ≤ a) (ha : a < 4294967296) (hb0 : 0 ≤ b) (hb : b < 4294967296) (hc0 : 0 ≤ c) (hc : c ≤ 1) : bits_Sub32.f a b c = some ((a - b - c) % 4294967296, -((a - b - c) / 4294967296)) := by
 unfold bits_Sub32.f
 rw [if_pos ⟨ha0, ha, hb0, hb, hc0, hc⟩]
 have : (if a < b + c then (1 : Int) else 0) = -((a - b - c) / 4294967296) := by split <;> omega
 rw [this]
theorem mul_le {u v : Int} (hu0 : 0 ≤ u) (hu : u < 4294967296) (hv0 : 0 ≤ v) (hv : v < 4294967296) : 0 ≤ u * v ∧ u * v ≤ 18446744065119617025 := by
 have h1 := Int.mul_nonneg hu0 hv0
 have h2 := Int.mul_le_mul_of_nonneg_right (show u ≤ 4294967295 by omega) hv0
 omega
theorem mul_row (y : List Int) (hy : Dig y) (hly : y.length ≤ 400000) (x : List Int) (N : Int) (i : Int) (u : Int) (hu0 : 0 ≤ u) (hu : u < 4294967296) (o z : List Int) (hi : i = o.length) (ho : o.length ≤ 400000) (r : ByteArray) (ms : List Int) : ∀ (ys p : List Int) (c : Int), y.drop p.length = ys → ys.length = ms.length → p.length ≤ y.length → Dig p → Dig ms → 0 ≤ c → c < 4294967296 →
 (∀ p' c', Dig p' → 0 ≤ c' → c' < 4294967296 → p'.length = y.length → val p' + 4294967296 ^ p'.length * c' = val p + 4294967296 ^ p.length * (c + val ms + u * val ys) → Ev (fun k => natural_Multiply.l0 k y (o ++ (p' ++ c' :: z)) x N (wrap64 (i + 1))) r) →
 Ev (fun k => natural_Multiply.l1 k y (o ++ (p ++ (ms ++ 0 :: z))) i u c x N i y (y.length : Int) (p.length : Int)) r := by
 induction ms with
 | nil =>
  intro ys p c h1 h2 h3 hp hms c0 c1 hcont
  have e2 : ys = [] := List.eq_nil_of_length_eq_zero (by simpa using h2)
  rw [e2] at h1 hcont
  have e1 := drop_nil h1
  have g := hcont p c hp c0 c1 (by omega) (by simp [val])
  refine Ev.step (fun k => ?_) g
  simp only [natural_Multiply.l1]
  have hw : wrap64 (i + (y.length : Int)) = ((o ++ p).length : Int) := by rw [w64 (by omega) (by omega), List.length_append]; omega
  have hs : (o ++ (p ++ ([] ++ 0 :: z))).set (o ++ p).length (c % 4294967296) = o ++ (p ++ c :: z) := by
   rw [List.nil_append, ← List.append_assoc]
   have := set_at (o ++ p) 0 (c % 4294967296) z ((o ++ p).length : Int) rfl
   rw [Int.toNat_natCast] at this
   rw [this, List.append_assoc, Int.emod_eq_of_lt c0 c1]
  rw [if_neg (by omega), hw, if_pos (by omega), if_pos (by simp only [List.length_append, List.length_cons, List.length_nil]; omega), Int.toNat_natCast, hs]
 | cons m ms ih =>
  intro ys p c h1 h2 h3 hp hms c0 c1 hcont
  cases ys with
  | nil => simp at h2
  | cons v ys =>
   obtain ⟨i1, r1, d1, m1⟩ := drop_cons h1
   have bv := hy v m1
   have bm := hms.head
   have bp := mul_le hu0 hu bv.1 bv.2
   have hq : ∀ q : Int, 0 ≤ q → q ≤ 18446744065119617025 + 8589934590 → 0 ≤ q % 4294967296 ∧ q % 4294967296 < 4294967296 ∧ 0 ≤ q / 4294967296 ∧ q / 4294967296 < 4294967296 := fun q _ _ => by omega
   have bt := hq (u * v + m + c) (by omega) (by omega)
   have ih := ih ys (p ++ [(u * v + m + c) % 4294967296]) ((u * v + m + c) / 4294967296) (by rw [snoc_len]; exact d1) (by simpa using h2) (by rw [snoc_len]; omega) (snoc_dig hp bt.1 bt.2.1) hms.tail bt.2.2.1 bt.2.2.2 (by
    intro p' c' a1 a2 a3 a4 a5
    refine hcont p' c' a1 a2 a3 a4 ?_
    rw [a5, vsnoc]
    congr 2
    simp only [val, Int.mul_add]
    rw [Int.mul_left_comm u 4294967296]
    generalize u * v = q1
    generalize u * val ys = q2
    omega)
   rw [snoc_len] at ih
   refine Ev.step (fun k => ?_) ih
   simp only [natural_Multiply.l1]
   have hw : wrap64 (i + (p.length : Int)) = ((o ++ p).length : Int) := by rw [w64 (by omega) (by omega), List.length_append]; omega
   have he : o ++ (p ++ (m :: ms ++ 0 :: z)) = (o ++ p) ++ m :: (ms ++ 0 :: z) := by rw [List.append_assoc, List.cons_append]
   have hr : rd (o ++ (p ++ (m :: ms ++ 0 :: z))) ((o ++ p).length : Int) = m := by rw [he]; exact rd_at _ _ _ _ rfl
   have hs : ∀ d, (o ++ (p ++ (m :: ms ++ 0 :: z))).set (o ++ p).length d = o ++ (p ++ [d] ++ (ms ++ 0 :: z)) := fun d => by
    rw [he, set_snoc]
    simp only [List.append_assoc]
   rw [if_pos (by omega), hw, r1, hr, if_pos (by omega), if_pos (by omega), if_pos (by omega), if_pos (by simp only [List.length_append, List.length_cons]; omega), wu (n := u) (by omega) (by omega), wu (n := v) (by omega) (by omega), wu (n := u * v) (by omega) (by omega), wu (n := m) (by omega) (by omega), wu (n := u * v + m) (by omega) (by omega), wu (by omega) (by omega), Int.toNat_natCast, hs, winc (by omega)]
theorem head_app (p : List Int) (c : Int) : ∃ h t, p ++ [c] = h :: t ∧ t.length = p.length := by
 cases p with
 | nil => exact ⟨c, [], rfl, rfl⟩
 | cons a p => exact ⟨a, p ++ [c], rfl, by rw [snoc_len]; rfl⟩
theorem mul_outer (y : List Int) (hy : Dig y) (hly : y.length ≤ 400000) (x : List Int) (hx : Dig x) (hlx : x.length ≤ 400000) (xs : List Int) : ∀ (o m : List Int), x.drop o.length = xs → o.length ≤ x.length → Dig o → Dig m → m.length = y.length →
 Ev (fun k => natural_Multiply.l0 k y (o ++ (m ++ List.replicate xs.length 0)) x (x.length : Int) (o.length : Int)) (S (val o + 4294967296 ^ o.length * (val m + val xs * val y))) := by
 induction xs with
 | nil =>
  intro o m h1 h2 ho hm hml
  have e1 := drop_nil h1
  have ht := text_ev (ho.app hm) (by rw [List.length_append]; omega)
  rw [val_app] at ht
  refine Ev.step (f := fun k => (natural_limbs_text.f k (o ++ m)).bind fun t => some t) (fun k => ?_) ?_
  · simp only [natural_Multiply.l0]
    rw [if_neg (by omega), List.length_nil, List.replicate_zero, List.append_nil]
  · simp only [val, Int.zero_mul, Int.add_zero]
    exact Ev.bind ht (Ev.now _)
 | cons u xs ih =>
  intro o m h1 h2 ho hm hml
  obtain ⟨i1, r1, d1, m1⟩ := drop_cons h1
  have bu := hx u m1
  have g := mul_row y hy hly x (x.length : Int) (o.length : Int) u bu.1 bu.2 o (List.replicate xs.length 0) rfl (by omega) (S (val o + 4294967296 ^ o.length * (val m + val (u :: xs) * val y))) m y [] 0 rfl hml.symm (Nat.zero_le _) Dig.nil hm (Int.le_refl _) (by decide) (by
   intro p c hp c0 c1 hpl hv
   obtain ⟨h, t, e1, e2⟩ := head_app p c
   have hdt : Dig (h :: t) := by rw [← e1]; exact snoc_dig hp c0 c1
   have hval : h + 4294967296 * val t = val m + u * val y := by
    have q1 : val (p ++ [c]) = val p + 4294967296 ^ p.length * c := by rw [val_app]; simp [val]
    rw [e1] at q1
    have q2 : val [] + 4294967296 ^ ([] : List Int).length * (0 + val m + u * val y) = val m + u * val y := by simp [val]
    rw [q2, ← q1] at hv
    simp only [val] at hv
    exact hv
   have ih := ih (o ++ [h]) t (by rw [snoc_len]; exact d1) (by rw [snoc_len]; omega) (snoc_dig ho hdt.head.1 hdt.head.2) hdt.tail (by omega)
   have e3 : o ++ (p ++ c :: List.replicate xs.length 0) = o ++ [h] ++ (t ++ List.replicate xs.length 0) := by
    rw [show p ++ c :: List.replicate xs.length 0 = (p ++ [c]) ++ List.replicate xs.length 0 by rw [List.append_assoc, List.singleton_append], e1, List.append_assoc, List.cons_append, List.singleton_append]
   rw [vsnoc, show h + 4294967296 * (val t + val xs * val y) = val m + val (u :: xs) * val y by
    simp only [val, Int.add_mul, Int.mul_add, Int.mul_assoc]
    omega] at ih
   rw [e3, winc (by omega), ← snoc_len o h]
   exact ih)
  refine Ev.step (fun k => ?_) g
  simp only [natural_Multiply.l0]
  rw [if_pos (by omega), if_pos (by omega), if_pos (by omega), r1]
  rfl
theorem Multiply_ev (a b : ByteArray) (ha : a.size ≤ 1600000) (hb : b.size ≤ 1600000) : Ev (fun k => natural_Multiply.f k a b) (S (B a * B b)) := by
 have h1 := B_nonneg a
 have h2 := B_nonneg b
 have l1 := B_small (s := a) (m := 400000) (by omega)
 have l2 := B_small (s := b) (m := 400000) (by omega)
 refine Ev.bind (parse_ev a (by omega)) ?_
 refine Ev.bind (parse_ev b (by omega)) ?_
 have g := mul_outer (L (B b)) (L_dig h2) l2 (L (B a)) (L_dig h1) l1 (L (B a)) [] (List.replicate (L (B b)).length 0) rfl (Nat.zero_le _) Dig.nil (Dig.zeros _) List.length_replicate
 rw [L_val h1, L_val h2, val_zeros, show val [] + 4294967296 ^ ([] : List Int).length * (0 + B a * B b) = B a * B b by simp [val]] at g
 have hw : wrap64 (((L (B a)).length : Int) + ((L (B b)).length : Int)) = (((L (B b)).length + (L (B a)).length : Nat) : Int) := by rw [w64 (by omega) (by omega)]; omega
 refine Ev.congr (fun k => ?_) g
 rw [hw, Int.toNat_natCast, if_pos (by omega), if_pos (by omega), List.nil_append, List.replicate_append_replicate]
 rfl
end Go.Proofs.YtjaflmhdclmolaaDoor.Num
end
section
namespace Go.Proofs.YtjaflmhdclmolaaDoor.Num
open Go.RowKit Go.Proofs.YtjaflmhdclmolaaDoorW.PrintWords Go.Proofs.YtjaflmhdclmolaaDoorW.PrintLast Go.Proofs.YtjaflmhdclmolaaDoorW.PrintMore Go.Proofs.YtjaflmhdclmolaaDoor.F
set_option maxRecDepth 100000 in
theorem awake_div : natural_Divide.f 40 ⟨#[3, 232]⟩ ⟨#[7]⟩ = some (⟨#[142]⟩, ⟨#[6]⟩, true) := by kernel_rfl
set_option maxRecDepth 100000 in
theorem awake_parse : natural_Parse.f 40 ⟨#[48, 48, 55]⟩ = some (⟨#[]⟩, 3) := by kernel_rfl
set_option maxRecDepth 100000 in
theorem awake_add : natural_Add.f 40 ⟨#[255]⟩ ⟨#[1]⟩ = some ⟨#[1, 0]⟩ := by kernel_rfl
set_option maxRecDepth 100000 in
theorem awake_fmt1 : natural_Format.f 40 ⟨#[142]⟩ = some ⟨#[49, 52, 50]⟩ := by kernel_rfl
set_option maxRecDepth 100000 in
theorem awake_fmt2 : natural_Format.f 40 ⟨#[6]⟩ = some ⟨#[54]⟩ := by kernel_rfl
theorem awake_ev : Ev (fun k => insolvencylaw1_awake.f k) true := by
 refine Ev.of (fun k => insolvencylaw1_awake.mono k) (k := 40) ?_
 unfold insolvencylaw1_awake.f
 rw [awake_div, Option.bind_some, awake_parse, Option.bind_some, awake_add, Option.bind_some, if_pos (by rw [Lib.toList_data]), if_pos rfl, awake_fmt1, Option.bind_some, if_pos (by rw [Lib.toList_data]), awake_fmt2, Option.bind_some, if_pos (by rw [Lib.toList_data])]
 rfl
end Go.Proofs.YtjaflmhdclmolaaDoor.Num
end
section
namespace Go.Proofs.YtjaflmhdclmolaaDoor.Num
open Go.RowKit Go.Proofs.YtjaflmhdclmolaaDoorW.PrintWords Go.Proofs.YtjaflmhdclmolaaDoorW.PrintLast Go.Proofs.YtjaflmhdclmolaaDoorW.PrintMore Go.Proofs.YtjaflmhdclmolaaDoor.F
theorem with_few {l : List ByteArray} (hl : l.length ≤ 1000) {X : Nat → Option Bool} (h : (∀ s ∈ l, s.size ≤ 60) → Ev X true) : Ev (fun k => (insolvencylaw1_few.f k l).bind fun t => if t = true then X k else (insolvencylaw1_awake.f k).bind fun t => some t) true := by
 refine Ev.bind (few_ev l hl) ?_
 by_cases hf : (l.all fun s => decide (s.size ≤ 60)) = true
 · rw [hf]
   refine Ev.ite rfl (h fun s hs => ?_)
   have := List.all_eq_true.1 hf s hs
   simpa using this
 · rw [Bool.not_eq_true] at hf
   rw [hf]
   refine Ev.ite_not (by decide) ?_
   exact Ev.bind awake_ev (Ev.now _)
theorem some_of {g : Nat → Option Bool} (h : Ev g true) : ∃ k, g k = some true := h.elim fun K hK => ⟨K, hK K (Nat.le_refl _)⟩
theorem sz_B {s : ByteArray} {p : Nat} (h : s.size ≤ p) : (S (B s)).size ≤ p := Nat.le_trans (S_size (B_lt s)) h
theorem sz_le {a b : Int} (hb : 0 ≤ b) {p : Nat} (h : a ≤ b) (h2 : (S b).size ≤ p) : (S a).size ≤ p := Nat.le_trans (S_mono hb h) h2
end Go.Proofs.YtjaflmhdclmolaaDoor.Num
end
section
namespace Go.Proofs.YtjaflmhdclmolaaDoor.Num
set_option linter.unusedVariables false
theorem divmod {n d q r : Int} (h : n = q * d + r) (h0 : 0 ≤ r) (h1 : r < d) : n / d = q ∧ n % d = r :=
 (Int.ediv_emod_unique (by omega)).2 ⟨by rw [h, Int.mul_comm]; omega, h0, h1⟩
theorem divmod_eq (n d : Int) : n = (n / d) * d + n % d := by
 have := Int.emod_add_mul_ediv n d
 rw [Int.mul_comm (n / d)]
 omega
structure Kn (D U B dl ul v1 v2 u0 u1 u2 q : Int) : Prop where
 hD : D = (v1 * 4294967296 + v2) * B + dl
 hU : U = ((u0 * 4294967296 + u1) * 4294967296 + u2) * B + ul
 hB : 0 < B
 dl0 : 0 ≤ dl
 dl1 : dl < B
 ul0 : 0 ≤ ul
 ul1 : ul < B
 v10 : 2147483648 ≤ v1
 v11 : v1 < 4294967296
 v20 : 0 ≤ v2
 v21 : v2 < 4294967296
 u00 : 0 ≤ u0
 u01 : u0 < 4294967296
 u10 : 0 ≤ u1
 u11 : u1 < 4294967296
 u20 : 0 ≤ u2
 u21 : u2 < 4294967296
 q0 : 0 ≤ q
 q1 : q * D ≤ U
 q2 : U < q * D + D
 hlt : U < 4294967296 * D
section
variable {D U B dl ul v1 v2 u0 u1 u2 q : Int}
theorem Kn.top (h : Kn D U B dl ul v1 v2 u0 u1 u2 q) : q * (v1 * 4294967296 + v2) ≤ (u0 * 4294967296 + u1) * 4294967296 + u2 := by
 have e1 : q * D = q * (v1 * 4294967296 + v2) * B + q * dl := by rw [h.hD, Int.mul_add, Int.mul_assoc]
 have e2 := Int.mul_nonneg h.q0 h.dl0
 have e3 := h.q1
 have e4 := h.hU
 have e5 : q * (v1 * 4294967296 + v2) * B < ((u0 * 4294967296 + u1) * 4294967296 + u2 + 1) * B := by
  rw [Int.add_mul _ 1 B, Int.one_mul]
  have := h.ul1
  omega
 have := Int.lt_of_mul_lt_mul_right e5 (Int.le_of_lt h.hB)
 omega
theorem Kn.dpos (h : Kn D U B dl ul v1 v2 u0 u1 u2 q) : 4294967296 * B ≤ D := by
 have h1 := h.hD
 have h2 := h.dl0
 have h3 : 4294967296 * B ≤ (v1 * 4294967296 + v2) * B := Int.mul_le_mul_of_nonneg_right (by have := h.v10; have := h.v20; omega) (Int.le_of_lt h.hB)
 omega
theorem Kn.qlt (h : Kn D U B dl ul v1 v2 u0 u1 u2 q) : q < 4294967296 := by
 have h1 := h.dpos
 have h2 := h.hB
 exact Int.lt_of_mul_lt_mul_right (Int.lt_of_le_of_lt h.q1 h.hlt) (by omega)
theorem Kn.uv (h : Kn D U B dl ul v1 v2 u0 u1 u2 q) : u0 ≤ v1 := by
 have h1 := h.hlt
 rw [h.hU, h.hD] at h1
 have h2 : (u0 * 18446744073709551616) * B < ((v1 + 1) * 18446744073709551616) * B := by
  have a1 : (u0 * 18446744073709551616) * B ≤ ((u0 * 4294967296 + u1) * 4294967296 + u2) * B := Int.mul_le_mul_of_nonneg_right (by have := h.u10; have := h.u20; omega) (Int.le_of_lt h.hB)
  have a2 : (v1 * 4294967296 + v2 + 1) * B ≤ (v1 * 4294967296 + 4294967296) * B := Int.mul_le_mul_of_nonneg_right (by have := h.v21; omega) (Int.le_of_lt h.hB)
  have a3 : (v1 * 4294967296 + v2 + 1) * B = (v1 * 4294967296 + v2) * B + B := by rw [Int.add_mul _ 1 B, Int.one_mul]
  have a4 : ((v1 + 1) * 18446744073709551616) * B = 4294967296 * ((v1 * 4294967296 + 4294967296) * B) := by rw [← Int.mul_assoc]; congr 1; omega
  rw [a4]
  have := h.dl1
  have := h.ul0
  omega
 have := Int.lt_of_mul_lt_mul_right h2 (Int.le_of_lt h.hB)
 omega
structure Gs (v1 u0 u1 q g r : Int) : Prop where
 eq : g * v1 + r = u0 * 4294967296 + u1
 le : q ≤ g
 r0 : 0 ≤ r
theorem Kn.start (h : Kn D U B dl ul v1 v2 u0 u1 u2 q) : Gs v1 u0 u1 q ((u0 * 4294967296 + u1) / v1) ((u0 * 4294967296 + u1) % v1) := by
 have hv := h.v10
 refine ⟨(divmod_eq _ _).symm, ?_, Int.emod_nonneg _ (by omega)⟩
 refine (Int.le_ediv_iff_mul_le (by omega)).2 ?_
 have h1 := h.top
 have h2 : (q * v1) * 4294967296 ≤ q * (v1 * 4294967296 + v2) := by
  rw [Int.mul_add, Int.mul_assoc]
  have := Int.mul_nonneg h.q0 h.v20
  omega
 have := h.u21
 omega
theorem Gs.g0 (h : Kn D U B dl ul v1 v2 u0 u1 u2 q) {g r : Int} (a : Gs v1 u0 u1 q g r) : 0 ≤ g := by have := a.le; have := h.q0; omega
theorem Gs.next (h : Kn D U B dl ul v1 v2 u0 u1 u2 q) {g r : Int} (a : Gs v1 u0 u1 q g r) (c : 4294967296 ≤ g ∨ r * 4294967296 + u2 < g * v2) : Gs v1 u0 u1 q (g - 1) (r + v1) := by
 have h1 := a.eq
 have h2 := a.le
 refine ⟨by rw [Int.sub_mul]; omega, ?_, by have := a.r0; have := h.v10; omega⟩
 have h3 : q ≠ g := by
  intro e
  rcases c with c | c
  · have := h.qlt; omega
  · have h4 := h.top
    rw [e, Int.mul_add, ← Int.mul_assoc, ← h1] at h4
    omega
 omega
theorem Gs.done (h : Kn D U B dl ul v1 v2 u0 u1 u2 q) {g r : Int} (a : Gs v1 u0 u1 q g r) (c1 : g < 4294967296) (c2 : g * v2 ≤ r * 4294967296 + u2) : g ≤ q + 1 := by
 have h1 := a.eq
 have g0 := a.g0 h
 have e1 : g * D = g * (v1 * 4294967296 + v2) * B + g * dl := by rw [h.hD, Int.mul_add, Int.mul_assoc]
 have e2 : g * (v1 * 4294967296 + v2) ≤ (u0 * 4294967296 + u1) * 4294967296 + u2 := by
  rw [Int.mul_add, ← Int.mul_assoc, ← h1]; omega
 have e3 := Int.mul_le_mul_of_nonneg_right e2 (Int.le_of_lt h.hB)
 have e4 : g * dl ≤ 4294967296 * dl := Int.mul_le_mul_of_nonneg_right (by omega) h.dl0
 have e5 := h.dpos
 have e6 := h.hU
 have e7 := h.dl1
 have e8 := h.ul0
 have e9 := h.q2
 have hlt : g * D < (q + 2) * D := by
  rw [Int.add_mul]
  omega
 have := Int.lt_of_mul_lt_mul_right hlt (by have := h.hB; omega)
 omega
theorem Gs.brk (h : Kn D U B dl ul v1 v2 u0 u1 u2 q) {g r : Int} (a : Gs v1 u0 u1 q g r) (c : 4294967296 ≤ r) : g < 4294967296 ∧ g * v2 ≤ r * 4294967296 + u2 := by
 have h1 := a.eq
 have g0 := a.g0 h
 have hu := h.uv
 have hv := h.v10
 have e1 : g * v1 < 4294967296 * v1 := by have := h.u11; omega
 have e2 : g < 4294967296 := Int.lt_of_mul_lt_mul_right e1 (by omega)
 refine ⟨e2, ?_⟩
 have e3 := Int.mul_le_mul_of_nonneg_right (show g ≤ 4294967296 by omega) h.v20
 have := h.v21
 have := h.u20
 omega
theorem Kn.fix {D U q g W X bo : Int} (hD : 0 < D) (q1 : q * D ≤ U) (q2 : U < q * D + D) (hle : q ≤ g) (hge : g ≤ q + 1) (hX0 : 0 ≤ X) (hX1 : X < W) (b0 : 0 ≤ bo) (b1 : bo ≤ 1) (e : X + g * D = U + W * bo) :
 (bo = 0 → g = q ∧ X = U - q * D) ∧ (bo = 1 → g = q + 1 ∧ X + D - W = U - q * D) := by
 have hg : g = q ∨ g = q + 1 := by omega
 constructor
 · intro hb
   rw [hb, Int.mul_zero] at e
   rcases hg with rfl | rfl
   · exact ⟨rfl, by omega⟩
   · rw [Int.add_mul, Int.one_mul] at e; omega
 · intro hb
   rw [hb, Int.mul_one] at e
   rcases hg with rfl | rfl
   · omega
   · rw [Int.add_mul, Int.one_mul] at e
     exact ⟨rfl, by omega⟩
end
end Go.Proofs.YtjaflmhdclmolaaDoor.Num
end
section
namespace Go.Proofs.YtjaflmhdclmolaaDoor.F
open Go.RowKit Go.Proofs.YtjaflmhdclmolaaDoorW.PrintWords Go.Proofs.YtjaflmhdclmolaaDoorW.PrintLast Go.Proofs.YtjaflmhdclmolaaDoorW.PrintMore
attribute [local go_sem] max2_int min2_int max_two min_two max_three min_three max_four min_four   
set_option linter.unusedVariables false
set_option linter.unusedSimpArgs false
def insolvencyref1_short.l0 : Nat → List Int → Int → List Int → Int → Int → Option (List Int × Int)
 | 0, _, _, _, _, _ => none
 | k + 1, x0, x1, x6, x7, x8 => if x8 ≥ 0 then (if 0 ≤ x8 then (if x8 < (x0.length : Int) then (if (IntKind.u64.wrap (x1)) = 0 then (none) else (if x8 < (x6.length : Int) then (insolvencyref1_short.l0 k x0 x1 (x6.set (x8 : Int).toNat ((IntKind.u64.wrap (Int.tdiv (Go.bits .or .u64 (IntKind.u64.wrap (x7 * 4294967296)) (IntKind.u64.wrap (rd x0 x8))) (IntKind.u64.wrap (x1)))) % 4294967296)) (Int.tmod (Go.bits .or .u64 (IntKind.u64.wrap (x7 * 4294967296)) (IntKind.u64.wrap (rd x0 x8))) (IntKind.u64.wrap (x1))) (wrap64 (x8 - 1))) else (none))) else (none)) else (none)) else ((insolvencyref1_strip.f k x6).bind fun t308 => (some (t308, (x7) % 4294967296)))
def insolvencyref1_short.f (k : Nat) (l0 : List Int) (a1 : Int) : Option (List Int × Int) := if 0 ≤ (l0.length : Int) then (if ((l0.length : Int) : Int).toNat ≤ 70368744177664 then (insolvencyref1_short.l0 k l0 a1 (List.replicate ((l0.length : Int) : Int).toNat 0) 0 (wrap64 ((l0.length : Int) - 1))) else (none)) else (none)
theorem insolvencyref1_short.mono_l : ∀ k, (∀ y0 y1 y2 y3 y4, LeO (insolvencyref1_short.l0 k y0 y1 y2 y3 y4) (insolvencyref1_short.l0 (k + 1) y0 y1 y2 y3 y4))
 | 0 => fun _ _ _ _ _ r h => by simp [insolvencyref1_short.l0] at h
 | k + 1 => by
  have ih0 := insolvencyref1_short.mono_l k
  · intro y0 y1 y2 y3 y4
    unfold insolvencyref1_short.l0
    repeat' first
    | (with_reducible exact ih0 _ _ _ _ _)
    | (with_reducible exact insolvencyref1_strip.mono _ _)
    | (with_reducible exact LeO.refl _)
    | (with_reducible exact LeO.none _)
    | (with_reducible refine LeO.ite ?_ ?_)
    | (with_reducible refine LeO.bind ?_ (fun _ => ?_))
    | exact ih0 _ _ _ _ _
    | exact insolvencyref1_strip.mono _ _
    | exact LeO.none _
    | refine LeO.ite ?_ ?_
    | refine LeO.bind ?_ (fun _ => ?_)
theorem insolvencyref1_short.mono : ∀ a0 a1 k, LeO (insolvencyref1_short.f k a0 a1) (insolvencyref1_short.f (k + 1) a0 a1) := by
 intro a0 a1 k
 have ih0 := insolvencyref1_short.mono_l k
 unfold insolvencyref1_short.f
 repeat' first
  | (with_reducible exact ih0 _ _ _ _ _)
  | (with_reducible exact insolvencyref1_strip.mono _ _)
  | (with_reducible exact LeO.refl _)
  | (with_reducible exact LeO.none _)
  | (with_reducible refine LeO.ite ?_ ?_)
  | (with_reducible refine LeO.bind ?_ (fun _ => ?_))
  | exact ih0 _ _ _ _ _
  | exact insolvencyref1_strip.mono _ _
  | exact LeO.none _
  | refine LeO.ite ?_ ?_
  | refine LeO.bind ?_ (fun _ => ?_)
set_option maxHeartbeats 8000000 in
set_option maxRecDepth 100000 in
theorem insolvencyref1_short.calls (k : Nat) (A0 : Option Addr) (c0 : Nat) (l0 : List Int) (a1 : Int) (r1 : List Int) (r2 : Int) (w : World) (hr0 : Kd.C (Kd.int .u32) w A0 l0.length l0) (hc0 : l0.length ≤ c0) (h : insolvencyref1_short.f k l0 a1 = some (r1, r2)) :
 Calls Tryd.prog 74 #[.slice A0 l0.length c0, .int .u32 a1] w fun e w' => ∃ v0_ : Value, e = .returned (.tuple #[v0_, .int .u32 r2]) ∧ Kd.R (Kd.int .u32) 60 w' w.heap.size (fun _ => True) v0_ r1 ∧ Below w.heap.size w w' := by
 have HR0 := Aside0.mk hr0
 have HC0 := Aside0.mk hc0
 clear hr0 hc0
 have HB := Aside0.mk (Below.refl w.heap.size w)
 have H : (if 0 ≤ (l0.length : Int) then (if ((l0.length : Int) : Int).toNat ≤ 70368744177664 then (insolvencyref1_short.l0 k l0 a1 (List.replicate ((l0.length : Int) : Int).toNat 0) 0 (wrap64 ((l0.length : Int) - 1))) else (none)) else (none)) = some (r1, r2) := h
 clear h
 by_cases c3 : 0 ≤ (l0.length : Int)
 · rw [if_pos c3] at H
   have c3b0 := eq_true c3
   have c3b1 : decide (0 ≤ (l0.length : Int)) = true := decide_eq_true c3
   clear c3
   by_cases c4 : ((l0.length : Int) : Int).toNat ≤ 70368744177664
   · rw [if_pos c4] at H
     have c4b0 := eq_true c4
     have c4b1 : decide (((l0.length : Int) : Int).toNat ≤ 70368744177664) = true := decide_eq_true c4
     clear c4
     obtain ⟨y303, hy303⟩ : ∃ y_ : List Int, y_ = (List.replicate ((l0.length : Int) : Int).toNat 0) := ⟨_, rfl⟩
     replace H : (insolvencyref1_short.l0 k l0 a1 y303 0 (wrap64 ((l0.length : Int) - 1))) = some (r1, r2) := by first | (rw [hy303]; with_reducible exact H) | (have H2_ := (Option.bind_some _ _).symm.trans H; rw [hy303]; with_reducible exact H2_) | (have H2_ := (Option.bind_some _ _).symm.trans H; with_reducible exact H2_) | with_reducible exact H | (rw [hy303]; exact H) | exact H
     have Ny303 := Aside0.mk hy303
     clear hy303
     have H' := Aside0.mk H
     clear H
     go_enter Tryd.func74, Tryd.ntmps74
     go_wp2_with (first | ((with_reducible refine gate_dst (N := 11) rfl ?_); refine Kd.R_make (Kd.int .u32) _ 60 rfl (N := 11) rfl 49 _ _ rfl (l0.length : Int) rfl rfl Tryd.underlying49 (.int .u32 0) 4 info60 rfl (by decide) (by omega) 0 (ok := fun _ => True) (okp := fun _ => True) rfl (fun _ hk => hk) trivial (of_decide_eq_true (by first | (with_reducible assumption) | assumption)) (Nat.le_trans (Nat.mul_le_mul_right _ (of_decide_eq_true (by first | (with_reducible assumption) | assumption) : (l0.length : Int).toNat ≤ 70368744177664)) (by omega)) (Below.refl _ _) (Nat.le_refl _) ?_; intro v304 w5 ho6 hb hg_ hnew_; clear hg_ hnew_; (first | rw [← Ny303.out] at ho6 | (simp only [Int.reduceToNat] at ho6; rw [← Ny303.out] at ho6)); have n0_ := Aside0.mk (Kd.R_lower ho6 (below_size (by repeat (first | (with_reducible first | exact HB.out | apply below_alloc | apply pw_below_drewN | apply below_drew1) | exact HB.out)))); have n1_ := Aside0.mk (below_step (by repeat (first | (with_reducible first | exact HB.out | apply below_alloc | apply pw_below_drewN | apply below_drew1) | exact HB.out)) hb); clear HB; have HO305 := n0_; have HB := n1_; clear n0_ n1_; clear hb ho6))
     go_loopg [7, 8] k (fun kq v7 v8 w' => ∃ (x6_1 : List Int) (x7_1 : Int) (x8_1 : Int), v7 = .int .u64 x7_1 ∧ v8 = .int .i64 x8_1 ∧ Aside0 (insolvencyref1_short.l0 kq l0 a1 x6_1 x7_1 x8_1 = some (r1, r2)) ∧ Aside0 (kq ≤ k) ∧ Aside0 (Kd.R (Kd.int .u32) 60 w' w.heap.size (fun _ => True) v304 x6_1) ∧ Aside0 (Below w.heap.size w w'))
     case atStart => exact ⟨(y303), (0), (wrap64 ((l0.length : Int) - 1)), (by first | rfl | (simp; done) | (simp [*]; done)), (by first | rfl | (simp; done) | (simp [*]; done)), H', ⟨Nat.le_refl _⟩, ⟨by (with_reducible repeat (first | apply Kd.R_alloc | apply Kd.R_drewN | apply Kd.R_drew)); exact HO305.out⟩, ⟨by repeat (first | (with_reducible first | exact HB.out | apply below_alloc | apply pw_below_drewN | apply below_drew1) | exact HB.out)⟩⟩
     case round =>
      clear H'
      try clear p2
      try clear c3
      try clear c3b0
      try clear c3b1
      try clear c4
      try clear c4b0
      try clear c4b1
      try clear p6
      obtain ⟨x6_1, x7_1, x8_1, rfl, rfl, HA, HK1, HO_6, HB⟩ := hrel
      cases gk with
      | zero => exact absurd HA.out (by simp [insolvencyref1_short.l0])
      | succ k1 =>
       have H := HA.out
       clear HA
       simp only [insolvencyref1_short.l0] at H
       by_cases c7 : x8_1 ≥ 0
       · rw [if_pos c7] at H
         have c7b0 : decide (0 ≤ x8_1) = true := decide_eq_true c7
         clear c7
         by_cases c8 : 0 ≤ x8_1
         · rw [if_pos c8] at H
           have c8b0 : decide (0 ≤ x8_1) = true := decide_eq_true c8
           clear c8
           by_cases c9 : x8_1 < (l0.length : Int)
           · rw [if_pos c9] at H
             have c9b0 : decide (x8_1 < (l0.length : Int)) = true := decide_eq_true c9
             clear c9
             by_cases c10 : (IntKind.u64.wrap (a1)) = 0
             · rw [if_pos c10] at H
               exact absurd H (by simp)
             · rw [if_neg c10] at H
               have c10b0 : ((IntKind.u64.wrap (a1)) == 0) = false := beq_eq_false_iff_ne.mpr c10
               have c10b1 : ((IntKind.u64.wrap (a1)) != 0) = true := bne_iff_ne.mpr c10
               by_cases c11 : x8_1 < (x6_1.length : Int)
               · rw [if_pos c11] at H
                 have c11b0 : decide (x8_1 < (x6_1.length : Int)) = true := decide_eq_true c11
                 clear c11
                 obtain ⟨y307, hy307⟩ : ∃ y_ : List Int, y_ = (x6_1.set (x8_1 : Int).toNat ((IntKind.u64.wrap (Int.tdiv (Go.bits .or .u64 (IntKind.u64.wrap (x7_1 * 4294967296)) (IntKind.u64.wrap (rd l0 x8_1))) (IntKind.u64.wrap (a1)))) % 4294967296)) := ⟨_, rfl⟩
                 replace H : (insolvencyref1_short.l0 k1 l0 a1 y307 (Int.tmod (Go.bits .or .u64 (IntKind.u64.wrap (x7_1 * 4294967296)) (IntKind.u64.wrap (rd l0 x8_1))) (IntKind.u64.wrap (a1))) (wrap64 (x8_1 - 1))) = some (r1, r2) := by first | (rw [hy307]; with_reducible exact H) | (have H2_ := (Option.bind_some _ _).symm.trans H; rw [hy307]; with_reducible exact H2_) | (have H2_ := (Option.bind_some _ _).symm.trans H; with_reducible exact H2_) | with_reducible exact H | (rw [hy307]; exact H) | exact H
                 have Ny307 := Aside0.mk hy307
                 clear hy307
                 have H' := Aside0.mk H
                 clear H
                 have p306 : 0 ≤ (x8_1 : Int) := of_decide_eq_true (by first | (with_reducible assumption) | assumption)
                 have q306 : x8_1 < (l0.length : Int) := of_decide_eq_true (by first | (with_reducible assumption) | assumption)
                 obtain ⟨ad306, e306, hx306_0⟩ := Kd.at_int HR0.out x8_1 p306 q306
                 cases e306
                 replace hx306_0 := (HB.out.cell (World.block_lt_of_cell? w _ hx306_0)).trans hx306_0
                 replace p306 := eq_true p306
                 replace q306 := eq_true q306
                 have p12 : 0 ≤ (x8_1 : Int) := of_decide_eq_true (by first | (with_reducible assumption) | assumption)
                 have q12 : (x8_1 : Int) < ((x6_1.length : Int) : Int) := of_decide_eq_true (by first | (with_reducible assumption) | assumption)
                 obtain ⟨go12, co12, eo12, gb12, gl12, cl12, HG12⟩ := Kd.R_form HO_6.out (by omega)
                 (first | cases eo12 | (injection eo12 with ea_ en_ ec_; (first | subst ea_ | (injection ea_ with ea_; subst ea_)); subst ec_; clear en_))
                 have GB12 := Aside0.mk gb12
                 have GG12 := Aside0.mk HG12
                 clear gb12 gl12 HG12
                 obtain ⟨hx12_0, hf12_0⟩ := Kd.R_celln 0 HO_6.out (x8_1 : Int) p12 q12
                 replace p12 := eq_true p12
                 replace q12 := eq_true q12
                 have HP13 := Kd.R_putg HO_6.out (x8_1 : Int) ((IntKind.u64.wrap (Int.tdiv (Go.bits .or .u64 (IntKind.u64.wrap (x7_1 * 4294967296)) (IntKind.u64.wrap (rd l0 x8_1))) (IntKind.u64.wrap (a1)))) % 4294967296)
                 go_wp2_with (first | ((with_reducible refine gate_store (t := 60) (p := 34) rfl ?_); refine store_event (t := 60) (p := 34) (v := ?vo_w14) (w1 := (wr.setCell ⟨go12, (x8_1 : Int).toNat, none⟩ (.int .u32 ((IntKind.u64.wrap (Int.tdiv (Go.bits .or .u64 (IntKind.u64.wrap (x7_1 * 4294967296)) (IntKind.u64.wrap (rd l0 x8_1))) (IntKind.u64.wrap (a1)))) % 4294967296)))) ?hg ?ho ?hn ?hr ?_; (case ho => rfl); (case hg => rfl); (case hn => rfl); (case hr => first | (go_simp; done) | (go_simp; rfl)); intro w14 hw; have hg : wr.grownBy w14 (some go12) := (by rw [hw]; exact HP13.2); have hp_ : Kd.R (Kd.int .u32) 60 w14 w.heap.size (fun _ => True) (.slice (some ⟨go12, 0, none⟩) x6_1.length co12) y307 := (by rw [hw, Ny307.out]; exact HP13.1); clear HP13; have n0_ := Aside0.mk (hp_); have n1_ := Aside0.mk ((by rw [hw]; exact below_set (HB.out) GB12.out : Below w.heap.size w w14)); clear HO_6; clear HB; have HO_6 := n0_; have HB := n1_; clear n0_ n1_; clear hg hw hp_))
                 go_roundg k1
                 case measure => have := HK1.out; omega
                 case rel => exact ⟨(y307), (Int.tmod (Go.bits .or .u64 (IntKind.u64.wrap (x7_1 * 4294967296)) (IntKind.u64.wrap (rd l0 x8_1))) (IntKind.u64.wrap (a1))), (wrap64 (x8_1 - 1)), (by first | rfl | (simp; done) | (simp [*]; done)), (by first | rfl | (simp; done) | (simp [*]; done)), H', ⟨by have := HK1.out; omega⟩, ⟨by (with_reducible repeat (first | apply Kd.R_alloc | apply Kd.R_drewN | apply Kd.R_drew)); exact HO_6.out⟩, ⟨by repeat (first | (with_reducible first | exact HB.out | apply below_alloc | apply pw_below_drewN | apply below_drew1) | exact HB.out)⟩⟩
               · rw [if_neg c11] at H
                 exact absurd H (by simp)
           · rw [if_neg c9] at H
             exact absurd H (by simp)
         · rw [if_neg c8] at H
           exact absurd H (by simp)
       · rw [if_neg c7] at H
         have c7b0 : decide (0 ≤ x8_1) = false := decide_eq_false c7
         clear c7
         replace H := Option.bind_eq_some_iff.mp H
         obtain ⟨t308, A150, H⟩ := H
         replace H : (some (t308, (x7_1) % 4294967296)) = some (r1, r2) := H
         have A15 := Aside0.mk A150
         clear A150
         simp only [Option.some.injEq, Prod.mk.injEq] at H
         obtain ⟨rfl, rfl⟩ := H
         obtain ⟨Ao16, co16, eo16⟩ := Kd.R_slice HO_6.out
         subst eo16
         go_wp2_with (first | ((with_reducible refine gate_callee (f := 75) rfl ?_); refine goesL_ (some 40) rfl rfl Tryd.func75 (by kernel_rfl) rfl #[.slice Ao16 x6_1.length co16] rfl (by (try simp only [List.map_toArray, List.map_cons, List.map_nil]); first | done | rfl | (simp only [List.length_drop, List.length_take]; rfl)) ?_; (with_reducible refine (insolvencyref1_strip.calls k1 (fun k_ => some k_ = (.slice Ao16 x6_1.length co16 : Value).ownBlock) (.slice Ao16 x6_1.length co16) x6_1 t308 w _ ?side1 ?side2 A15.out).mono ?_); (case side1 => repeat (first | (with_reducible first | exact HB.out | apply below_alloc | apply pw_below_drewN | apply below_drew1) | exact HB.out)); (case side2 => exact Kd.R_tight rfl HO_6.out); rintro e w17 ⟨v309, rfl, ho0, hb, hkp⟩; refine ⟨_, rfl, ?_⟩; have n0_ := Aside0.mk (Kd.R_mono (ok' := fun k_ => True) ho0 (fun k_ hk_ => trivial)); have n1_ := Aside0.mk (hb); clear HB; clear HO_6; have HO310 := n0_; have HB := n1_; clear n0_ n1_; (try clear hb); (try clear hkp); (try clear ho0)))
         go_ret2
         exact ⟨_, by first | rfl | (simp [errW_none, errW_some] <;> rfl) | (simp [*, errW_none, errW_some] <;> rfl), by (with_reducible repeat (first | apply Kd.R_alloc | apply Kd.R_drewN | apply Kd.R_drew)); exact HO310.out, by repeat (first | (with_reducible first | exact HB.out | apply below_alloc | apply pw_below_drewN | apply below_drew1) | exact HB.out)⟩
   · rw [if_neg c4] at H
     exact absurd H (by simp)
 · rw [if_neg c3] at H
   exact absurd H (by simp)
end Go.Proofs.YtjaflmhdclmolaaDoor.F
end
section
namespace Go.Proofs.YtjaflmhdclmolaaDoor.F
open Go.RowKit Go.Proofs.YtjaflmhdclmolaaDoorW.PrintWords Go.Proofs.YtjaflmhdclmolaaDoorW.PrintLast Go.Proofs.YtjaflmhdclmolaaDoorW.PrintMore
attribute [local go_sem] max2_int min2_int max_two min_two max_three min_three max_four min_four   
set_option linter.unusedVariables false
set_option linter.unusedSimpArgs false
def insolvencyref1_shifted.l0 : Nat → List Int → Int → List Int → Int → Option (List Int)
 | 0, _, _, _, _ => none
 | k + 1, x0, x1, x5, x6 => if x6 < (x0.length : Int) then (if 0 ≤ x6 then (if 0 ≤ x1 then (if x6 < (x5.length : Int) then (if 0 ≤ (wrap64 (x6 + 1)) then (if (wrap64 (x6 + 1)) < (x5.length : Int) then (insolvencyref1_shifted.l0 k x0 x1 ((x5.set (x6 : Int).toNat (Go.bits .or .u32 (rd x5 x6) ((shl .u64 (IntKind.u64.wrap (rd x0 x6)) x1) % 4294967296))).set ((wrap64 (x6 + 1)) : Int).toNat (((shl .u64 (IntKind.u64.wrap (rd x0 x6)) x1) / 4294967296) % 4294967296)) (wrap64 (x6 + 1))) else (none)) else (none)) else (none)) else (none)) else (none)) else (some x5)
def insolvencyref1_shifted.f (k : Nat) (l0 : List Int) (a1 : Int) : Option (List Int) := if 0 ≤ (wrap64 ((l0.length : Int) + 1)) then (if (wrap64 ((l0.length : Int) + 1) : Int).toNat ≤ 70368744177664 then (insolvencyref1_shifted.l0 k l0 a1 (List.replicate (wrap64 ((l0.length : Int) + 1) : Int).toNat 0) 0) else (none)) else (none)
theorem insolvencyref1_shifted.mono_l : ∀ k, (∀ y0 y1 y2 y3, LeO (insolvencyref1_shifted.l0 k y0 y1 y2 y3) (insolvencyref1_shifted.l0 (k + 1) y0 y1 y2 y3))
 | 0 => fun _ _ _ _ r h => by simp [insolvencyref1_shifted.l0] at h
 | k + 1 => by
  have ih0 := insolvencyref1_shifted.mono_l k
  · intro y0 y1 y2 y3
    unfold insolvencyref1_shifted.l0
    repeat' first
    | (with_reducible exact ih0 _ _ _ _)
    | (with_reducible exact LeO.refl _)
    | (with_reducible exact LeO.none _)
    | (with_reducible refine LeO.ite ?_ ?_)
    | (with_reducible refine LeO.bind ?_ (fun _ => ?_))
    | exact ih0 _ _ _ _
    | exact LeO.none _
    | refine LeO.ite ?_ ?_
    | refine LeO.bind ?_ (fun _ => ?_)
theorem insolvencyref1_shifted.mono : ∀ a0 a1 k, LeO (insolvencyref1_shifted.f k a0 a1) (insolvencyref1_shifted.f (k + 1) a0 a1) := by
 intro a0 a1 k
 have ih0 := insolvencyref1_shifted.mono_l k
 unfold insolvencyref1_shifted.f
 repeat' first
  | (with_reducible exact ih0 _ _ _ _)
  | (with_reducible exact LeO.refl _)
  | (with_reducible exact LeO.none _)
  | (with_reducible refine LeO.ite ?_ ?_)
  | (with_reducible refine LeO.bind ?_ (fun _ => ?_))
  | exact ih0 _ _ _ _
  | exact LeO.none _
  | refine LeO.ite ?_ ?_
  | refine LeO.bind ?_ (fun _ => ?_)
set_option maxHeartbeats 8000000 in
set_option maxRecDepth 100000 in
theorem insolvencyref1_shifted.calls (k : Nat) (A0 : Option Addr) (c0 : Nat) (l0 : List Int) (a1 : Int) (r : List Int) (w : World) (hr0 : Kd.C (Kd.int .u32) w A0 l0.length l0) (hc0 : l0.length ≤ c0) (h : insolvencyref1_shifted.f k l0 a1 = some r) :
 Calls Tryd.prog 86 #[.slice A0 l0.length c0, .int .u64 a1] w fun e w' => ∃ v0_ : Value, e = .returned (v0_) ∧ Kd.R (Kd.int .u32) 60 w' w.heap.size (fun _ => True) v0_ r ∧ Below w.heap.size w w' := by
 have HR0 := Aside0.mk hr0
 have HC0 := Aside0.mk hc0
 clear hr0 hc0
 have HB := Aside0.mk (Below.refl w.heap.size w)
 have H : (if 0 ≤ (wrap64 ((l0.length : Int) + 1)) then (if (wrap64 ((l0.length : Int) + 1) : Int).toNat ≤ 70368744177664 then (insolvencyref1_shifted.l0 k l0 a1 (List.replicate (wrap64 ((l0.length : Int) + 1) : Int).toNat 0) 0) else (none)) else (none)) = some r := h
 clear h
 obtain ⟨ji3, hji3⟩ : ∃ j_ : Int, (wrap64 ((l0.length : Int) + 1)) = j_ := ⟨_, rfl⟩
 replace H : (if 0 ≤ (ji3) then (if (ji3 : Int).toNat ≤ 70368744177664 then (insolvencyref1_shifted.l0 k l0 a1 (List.replicate (ji3 : Int).toNat 0) 0) else (none)) else (none)) = some r := by first | (rw [hji3] at H; exact H) | (simp only [hji3] at H ⊢; exact H)
 have hji3w : (IntKind.i64.wrap ((l0.length : Int) + 1)) = ji3 := (i64_w _).trans hji3
 by_cases c4 : 0 ≤ (ji3)
 · rw [if_pos c4] at H
   have c4b0 := eq_true c4
   have c4b1 : decide (0 ≤ (ji3)) = true := decide_eq_true c4
   clear c4
   by_cases c5 : (ji3 : Int).toNat ≤ 70368744177664
   · rw [if_pos c5] at H
     have c5b0 := eq_true c5
     have c5b1 : decide ((ji3 : Int).toNat ≤ 70368744177664) = true := decide_eq_true c5
     clear c5
     obtain ⟨y311, hy311⟩ : ∃ y_ : List Int, y_ = (List.replicate (ji3 : Int).toNat 0) := ⟨_, rfl⟩
     replace H : (insolvencyref1_shifted.l0 k l0 a1 y311 0) = some r := by first | (rw [hy311]; with_reducible exact H) | (have H2_ := (Option.bind_some _ _).symm.trans H; rw [hy311]; with_reducible exact H2_) | (have H2_ := (Option.bind_some _ _).symm.trans H; with_reducible exact H2_) | with_reducible exact H | (rw [hy311]; exact H) | exact H
     have Ny311 := Aside0.mk hy311
     clear hy311
     have H' := Aside0.mk H
     clear H
     go_enter Tryd.func86, Tryd.ntmps86
     go_wp2_with (first | ((with_reducible refine gate_dst (N := 11) rfl ?_); refine Kd.R_make (Kd.int .u32) _ 60 rfl (N := 11) rfl 49 _ _ rfl ji3 rfl rfl Tryd.underlying49 (.int .u32 0) 4 info60 rfl (by decide) (by omega) 0 (ok := fun _ => True) (okp := fun _ => True) rfl (fun _ hk => hk) trivial (of_decide_eq_true (by first | (with_reducible assumption) | assumption)) (Nat.le_trans (Nat.mul_le_mul_right _ (of_decide_eq_true (by first | (with_reducible assumption) | assumption) : ji3.toNat ≤ 70368744177664)) (by omega)) (Below.refl _ _) (Nat.le_refl _) ?_; intro v312 w6 ho7 hb hg_ hnew_; clear hg_ hnew_; (first | rw [← Ny311.out] at ho7 | (simp only [Int.reduceToNat] at ho7; rw [← Ny311.out] at ho7)); have n0_ := Aside0.mk (Kd.R_lower ho7 (below_size (by repeat (first | (with_reducible first | exact HB.out | apply below_alloc | apply pw_below_drewN | apply below_drew1) | exact HB.out)))); have n1_ := Aside0.mk (below_step (by repeat (first | (with_reducible first | exact HB.out | apply below_alloc | apply pw_below_drewN | apply below_drew1) | exact HB.out)) hb); clear HB; have HO313 := n0_; have HB := n1_; clear n0_ n1_; clear hb ho7))
     go_loopg [6] k (fun kq v6 w' => ∃ (x5_1 : List Int) (x6_1 : Int), v6 = .int .i64 x6_1 ∧ Aside0 (insolvencyref1_shifted.l0 kq l0 a1 x5_1 x6_1 = some r) ∧ Aside0 (kq ≤ k) ∧ Aside0 (Kd.R (Kd.int .u32) 60 w' w.heap.size (fun _ => True) v312 x5_1) ∧ Aside0 (Below w.heap.size w w'))
     case atStart => exact ⟨(y311), (0), (by first | rfl | (simp; done) | (simp [*]; done)), H', ⟨Nat.le_refl _⟩, ⟨by (with_reducible repeat (first | apply Kd.R_alloc | apply Kd.R_drewN | apply Kd.R_drew)); exact HO313.out⟩, ⟨by repeat (first | (with_reducible first | exact HB.out | apply below_alloc | apply pw_below_drewN | apply below_drew1) | exact HB.out)⟩⟩
     case round =>
      clear H'
      try clear p2
      try clear c4
      try clear c4b0
      try clear c4b1
      try clear c5
      try clear c5b0
      try clear c5b1
      try clear p6
      obtain ⟨x5_1, x6_1, rfl, HA, HK1, HO_5, HB⟩ := hrel
      cases gk with
      | zero => exact absurd HA.out (by simp [insolvencyref1_shifted.l0])
      | succ k1 =>
       have H := HA.out
       clear HA
       simp only [insolvencyref1_shifted.l0] at H
       by_cases c8 : x6_1 < (l0.length : Int)
       · rw [if_pos c8] at H
         have c8b0 : decide (x6_1 < (l0.length : Int)) = true := decide_eq_true c8
         clear c8
         by_cases c9 : 0 ≤ x6_1
         · rw [if_pos c9] at H
           have c9b0 : decide (0 ≤ x6_1) = true := decide_eq_true c9
           clear c9
           by_cases c10 : 0 ≤ a1
           · rw [if_pos c10] at H
             have c10b0 := eq_true c10
             have c10b1 : decide (0 ≤ a1) = true := decide_eq_true c10
             clear c10
             obtain ⟨ji11, hji11⟩ : ∃ j_ : Int, (shl .u64 (IntKind.u64.wrap (rd l0 x6_1)) a1) = j_ := ⟨_, rfl⟩
             replace H : (if x6_1 < (x5_1.length : Int) then (if 0 ≤ (wrap64 (x6_1 + 1)) then (if (wrap64 (x6_1 + 1)) < (x5_1.length : Int) then (insolvencyref1_shifted.l0 k1 l0 a1 ((x5_1.set (x6_1 : Int).toNat (Go.bits .or .u32 (rd x5_1 x6_1) ((ji11) % 4294967296))).set ((wrap64 (x6_1 + 1)) : Int).toNat (((ji11) / 4294967296) % 4294967296)) (wrap64 (x6_1 + 1))) else (none)) else (none)) else (none)) = some r := by first | (rw [hji11] at H; exact H) | (simp only [hji11] at H ⊢; exact H)
             have hji11_ : (IntKind.u64.wrap ((IntKind.u64.wrap (rd l0 x6_1)) * 2 ^ min a1.toNat 64)) = ji11 := hji11
             have hji11z : a1 ≤ 64 → (IntKind.u64.wrap ((IntKind.u64.wrap (rd l0 x6_1)) * 2 ^ a1.toNat)) = ji11 := shl_small hji11
             by_cases c12 : x6_1 < (x5_1.length : Int)
             · rw [if_pos c12] at H
               have c12b0 : decide (x6_1 < (x5_1.length : Int)) = true := decide_eq_true c12
               clear c12
               obtain ⟨y316, hy316⟩ : ∃ y_ : List Int, y_ = (x5_1.set (x6_1 : Int).toNat (Go.bits .or .u32 (rd x5_1 x6_1) ((ji11) % 4294967296))) := ⟨_, rfl⟩
               replace H : (if 0 ≤ (wrap64 (x6_1 + 1)) then (if (wrap64 (x6_1 + 1)) < (x5_1.length : Int) then (insolvencyref1_shifted.l0 k1 l0 a1 (y316.set ((wrap64 (x6_1 + 1)) : Int).toNat (((ji11) / 4294967296) % 4294967296)) (wrap64 (x6_1 + 1))) else (none)) else (none)) = some r := by first | (rw [hy316]; with_reducible exact H) | (have H2_ := (Option.bind_some _ _).symm.trans H; rw [hy316]; with_reducible exact H2_) | (have H2_ := (Option.bind_some _ _).symm.trans H; with_reducible exact H2_) | with_reducible exact H | (rw [hy316]; exact H) | exact H
               have Ny316 := Aside0.mk hy316
               clear hy316
               obtain ⟨ji14, hji14⟩ : ∃ j_ : Int, (wrap64 (x6_1 + 1)) = j_ := ⟨_, rfl⟩
               replace H : (if 0 ≤ (ji14) then (if (ji14) < (x5_1.length : Int) then (insolvencyref1_shifted.l0 k1 l0 a1 (y316.set ((ji14) : Int).toNat (((ji11) / 4294967296) % 4294967296)) ji14) else (none)) else (none)) = some r := by first | (rw [hji14] at H; exact H) | (simp only [hji14] at H ⊢; exact H)
               have hji14w : (IntKind.i64.wrap (x6_1 + 1)) = ji14 := (i64_w _).trans hji14
               by_cases c15 : 0 ≤ (ji14)
               · rw [if_pos c15] at H
                 have c15b0 : decide (0 ≤ (ji14)) = true := decide_eq_true c15
                 clear c15
                 by_cases c16 : (ji14) < (x5_1.length : Int)
                 · rw [if_pos c16] at H
                   have c16b0 : decide ((ji14) < (x5_1.length : Int)) = true := decide_eq_true c16
                   clear c16
                   obtain ⟨y317, hy317⟩ : ∃ y_ : List Int, y_ = (y316.set ((ji14) : Int).toNat (((ji11) / 4294967296) % 4294967296)) := ⟨_, rfl⟩
                   replace H : (insolvencyref1_shifted.l0 k1 l0 a1 y317 ji14) = some r := by first | (rw [hy317]; with_reducible exact H) | (have H2_ := (Option.bind_some _ _).symm.trans H; rw [hy317]; with_reducible exact H2_) | (have H2_ := (Option.bind_some _ _).symm.trans H; with_reducible exact H2_) | with_reducible exact H | (rw [hy317]; exact H) | exact H
                   have Ny317 := Aside0.mk hy317
                   clear hy317
                   have H' := Aside0.mk H
                   clear H
                   have p314 : 0 ≤ (x6_1 : Int) := of_decide_eq_true (by first | (with_reducible assumption) | assumption)
                   have q314 : x6_1 < (l0.length : Int) := of_decide_eq_true (by first | (with_reducible assumption) | assumption)
                   obtain ⟨ad314, e314, hx314_0⟩ := Kd.at_int HR0.out x6_1 p314 q314
                   cases e314
                   replace hx314_0 := (HB.out.cell (World.block_lt_of_cell? w _ hx314_0)).trans hx314_0
                   replace p314 := eq_true p314
                   replace q314 := eq_true q314
                   obtain ⟨Ao18, co18, eo18⟩ := Kd.R_slice HO_5.out
                   subst eo18
                   have p315 : 0 ≤ (x6_1 : Int) := of_decide_eq_true (by first | (with_reducible assumption) | assumption)
                   have q315 : x6_1 < (x5_1.length : Int) := of_decide_eq_true (by first | (with_reducible assumption) | assumption)
                   obtain ⟨ad315, e315, hx315_0⟩ := Kd.at_int (Kd.R_reads' HO_5.out).2.2 x6_1 p315 q315
                   cases e315
                   replace p315 := eq_true p315
                   replace q315 := eq_true q315
                   have p13 : 0 ≤ (x6_1 : Int) := of_decide_eq_true (by first | (with_reducible assumption) | assumption)
                   have q13 : (x6_1 : Int) < ((x5_1.length : Int) : Int) := of_decide_eq_true (by first | (with_reducible assumption) | assumption)
                   obtain ⟨go13, co13, eo13, gb13, gl13, cl13, HG13⟩ := Kd.R_form HO_5.out (by omega)
                   (first | cases eo13 | (injection eo13 with ea_ en_ ec_; (first | subst ea_ | (injection ea_ with ea_; subst ea_)); subst ec_; clear en_))
                   have GB13 := Aside0.mk gb13
                   have GG13 := Aside0.mk HG13
                   clear gb13 gl13 HG13
                   (first | simp only [add_plain] at hx315_0 | skip)
                   obtain ⟨hx13_0, hf13_0⟩ := Kd.R_celln 0 HO_5.out (x6_1 : Int) p13 q13
                   replace p13 := eq_true p13
                   replace q13 := eq_true q13
                   have HP19 := Kd.R_putg HO_5.out (x6_1 : Int) (Go.bits .or .u32 (rd x5_1 x6_1) ((ji11) % 4294967296))
                   go_wp2_with (first | ((with_reducible refine gate_store (t := 60) (p := 34) rfl ?_); refine store_event (t := 60) (p := 34) (v := ?vo_w20) (w1 := (wr.setCell ⟨go13, (x6_1 : Int).toNat, none⟩ (.int .u32 (Go.bits .or .u32 (rd x5_1 x6_1) ((ji11) % 4294967296))))) ?hg ?ho ?hn ?hr ?_; (case ho => rfl); (case hg => rfl); (case hn => rfl); (case hr => first | (go_simp; done) | (go_simp; rfl)); intro w20 hw; have hg : wr.grownBy w20 (some go13) := (by rw [hw]; exact HP19.2); have hp_ : Kd.R (Kd.int .u32) 60 w20 w.heap.size (fun _ => True) (.slice (some ⟨go13, 0, none⟩) x5_1.length co18) y316 := (by rw [hw, Ny316.out]; exact HP19.1); clear HP19; have n0_ := Aside0.mk (hp_); have n1_ := Aside0.mk ((by rw [hw]; exact below_set (HB.out) GB13.out : Below w.heap.size w w20)); clear HO_5; clear HB; have HO_5 := n0_; have HB := n1_; clear n0_ n1_; clear hg hw hp_; have p17 : 0 ≤ ((ji14) : Int) := of_decide_eq_true (by first | (with_reducible assumption) | assumption); have q17 : ((ji14) : Int) < ((x5_1.length : Int) : Int) := of_decide_eq_true (by first | (with_reducible assumption) | assumption); obtain ⟨hx17_0, hf17_0⟩ := Kd.R_celln 0 HO_5.out ((ji14) : Int) p17 q17; replace p17 := eq_true p17; replace q17 := eq_true q17; obtain ⟨hy21_, hz21_⟩ := Kd.R_celln 0 HO_5.out ((ji14) : Int) (of_decide_eq_true (by first | (with_reducible assumption) | assumption)) (of_decide_eq_true (by first | (with_reducible assumption) | assumption)); have HP21 := Kd.R_putg HO_5.out ((ji14) : Int) (((ji11) / 4294967296) % 4294967296)) | ((with_reducible refine gate_store (t := 60) (p := 41) rfl ?_); refine store_event (t := 60) (p := 41) (v := ?vo_w22) (w1 := (w20.setCell ⟨go13, ((ji14) : Int).toNat, none⟩ (.int .u32 (((ji11) / 4294967296) % 4294967296)))) ?hg ?ho ?hn ?hr ?_; (case ho => rfl); (case hg => rfl); (case hn => rfl); (case hr => first | (go_simp; done) | (go_simp; rfl)); intro w22 hw; have hg : w20.grownBy w22 (some go13) := (by rw [hw]; exact HP21.2); have hp_ : Kd.R (Kd.int .u32) 60 w22 w.heap.size (fun _ => True) (.slice (some ⟨go13, 0, none⟩) x5_1.length co18) y317 := (by rw [hw, Ny317.out]; exact HP21.1); clear HP21; have n0_ := Aside0.mk (hp_); have n1_ := Aside0.mk ((by rw [hw]; exact below_set (HB.out) GB13.out : Below w.heap.size w w22)); clear HO_5; clear HB; have HO_5 := n0_; have HB := n1_; clear n0_ n1_; clear hg hw hp_))
                   go_roundg k1
                   case measure => have := HK1.out; omega
                   case rel => exact ⟨(y317), (ji14), (by first | rfl | (simp; done) | (simp only [← hji14] <;> (first | rfl | simp)) | (simp [*]; done)), H', ⟨by have := HK1.out; omega⟩, ⟨by (with_reducible repeat (first | apply Kd.R_alloc | apply Kd.R_drewN | apply Kd.R_drew)); exact HO_5.out⟩, ⟨by repeat (first | (with_reducible first | exact HB.out | apply below_alloc | apply pw_below_drewN | apply below_drew1) | exact HB.out)⟩⟩
                 · rw [if_neg c16] at H
                   exact absurd H (by simp)
               · rw [if_neg c15] at H
                 exact absurd H (by simp)
             · rw [if_neg c12] at H
               exact absurd H (by simp)
           · rw [if_neg c10] at H
             exact absurd H (by simp)
         · rw [if_neg c9] at H
           exact absurd H (by simp)
       · rw [if_neg c8] at H
         have c8b0 : decide (x6_1 < (l0.length : Int)) = false := decide_eq_false c8
         clear c8
         obtain rfl := Option.some.inj H
         go_wp2
         go_ret
         exact ⟨_, by first | rfl | (simp [errW_none, errW_some] <;> rfl) | (simp only [← hji3]; first | rfl | (simp [errW_none, errW_some] <;> rfl)) | (simp [*, errW_none, errW_some] <;> rfl), by (with_reducible repeat (first | apply Kd.R_alloc | apply Kd.R_drewN | apply Kd.R_drew)); exact HO_5.out, by repeat (first | (with_reducible first | exact HB.out | apply below_alloc | apply pw_below_drewN | apply below_drew1) | exact HB.out)⟩
   · rw [if_neg c5] at H
     exact absurd H (by simp)
 · rw [if_neg c4] at H
   exact absurd H (by simp)
end Go.Proofs.YtjaflmhdclmolaaDoor.F
end
section
namespace Go.Proofs.YtjaflmhdclmolaaDoor.Num
open Go.RowKit Go.Proofs.YtjaflmhdclmolaaDoorW.PrintWords Go.Proofs.YtjaflmhdclmolaaDoorW.PrintLast Go.Proofs.YtjaflmhdclmolaaDoorW.PrintMore Go.Proofs.YtjaflmhdclmolaaDoor.F
set_option linter.unusedVariables false
theorem small_round {r a d : Int} (h0 : 0 < d) (h1 : d < 4294967296) (r0 : 0 ≤ r) (r1 : r < d) (a0 : 0 ≤ a) (a1 : a < 4294967296) :
 0 ≤ (r * 4294967296 + a) / d ∧ (r * 4294967296 + a) / d < 4294967296 ∧ 0 ≤ (r * 4294967296 + a) % d ∧ (r * 4294967296 + a) % d < d := by
 refine ⟨Int.ediv_nonneg (by omega) (by omega), ?_, Int.emod_nonneg _ (by omega), Int.emod_lt_of_pos _ h0⟩
 exact Int.ediv_lt_of_lt_mul h0 (by omega)
theorem small_bits {r a : Int} (r0 : 0 ≤ r) (r1 : r < 4294967296) (a0 : 0 ≤ a) (a1 : a < 4294967296) : Go.bits .or .u64 (IntKind.u64.wrap (r * 4294967296)) (IntKind.u64.wrap a) = r * 4294967296 + a := by
 rw [wu (by omega) (by omega), wu (by omega) (by omega), orHi r0 r1 a0 a1]
theorem small_val {t a d r q v : Int} (e1 : t = r * 4294967296 + a) (e2 : v = q * d + r) : a + 4294967296 * v = (t / d + 4294967296 * q) * d + t % d := by
 have h := divmod_eq t d
 rw [e2, Int.add_mul, Int.mul_assoc, Int.mul_add]
 omega
theorem set_rep (i : Nat) (d : Int) (q : List Int) : (List.replicate (i + 1) 0 ++ q).set i d = List.replicate i 0 ++ d :: q := by
 rw [List.replicate_succ', List.append_assoc, List.singleton_append]
 have := set_at (List.replicate i 0) 0 d q (i : Int) (by rw [List.length_replicate])
 rwa [Int.toNat_natCast] at this
theorem divideSmall_loop (x : List Int) (hx : Dig x) (hl : x.length ≤ 400000) (d : Int) (h0 : 0 < d) (h1 : d < 4294967296) (i : Nat) : ∀ (q : List Int) (r : Int), i ≤ x.length → Dig q → i + q.length = x.length → 0 ≤ r → r < d → val (x.drop i) = val q * d + r →
 Ev (fun k => natural_divideSmall.l0 k x d (List.replicate i 0 ++ q) r ((i : Int) - 1)) (L (val x / d), val x % d) := by
 induction i with
 | zero =>
  intro q r hi hq hql r0 r1 hv
  obtain ⟨e1, e2⟩ := divmod hv r0 r1
  rw [List.drop_zero] at e1 e2
  refine Ev.step (f := fun k => (natural_limbs_trim.f k q).bind fun t => some (t, r % 4294967296)) (fun k => ?_) ?_
  · simp only [natural_divideSmall.l0]
    rw [if_neg (by omega), List.replicate_zero, List.nil_append]
  · refine Ev.bind (trim_ev q (by omega)) ?_
    rw [tr_L hq, e1, e2, Int.emod_eq_of_lt r0 (by omega)]
    exact Ev.now _
 | succ i ih =>
  intro q r hi hq hql r0 r1 hv
  obtain ⟨a, ea, ra, la, da⟩ := drop_split (l := x) (i := i) (by omega)
  have ba : 0 ≤ a ∧ a < 4294967296 := by rw [← ra]; exact hx.at _
  obtain ⟨t0, t1, t2, t3⟩ := small_round h0 h1 r0 r1 ba.1 ba.2
  have hb := small_bits r0 (by omega) ba.1 ba.2
  have ht0 : 0 ≤ r * 4294967296 + a := by omega
  have ih := ih ((r * 4294967296 + a) / d :: q) ((r * 4294967296 + a) % d) (by omega) (Dig.cons t0 t1 hq) (by rw [List.length_cons]; omega) t2 t3 (by
   rw [da, val, val]
   exact small_val rfl hv)
  refine Ev.step (fun k => ?_) ih
  simp only [natural_divideSmall.l0]
  have hlen : (List.replicate (i + 1) (0 : Int) ++ q).length = x.length := by rw [List.length_append, List.length_replicate]; omega
  rw [show ((i + 1 : Nat) : Int) - 1 = (i : Int) by omega, ra, hb, wu (n := d) (by omega) (by omega), hlen, Int.tdiv_eq_ediv_of_nonneg ht0, Int.tmod_eq_emod_of_nonneg ht0, if_pos (by omega), if_pos (by omega), if_pos (by omega), if_neg (by omega), if_pos (by omega), Int.toNat_natCast, set_rep, w64 (by omega) (by omega), wu t0 (by omega), Int.emod_eq_of_lt t0 t1]
theorem divideSmall_ev (x : List Int) (hx : Dig x) (hl : x.length ≤ 400000) (d : Int) (h0 : 0 < d) (h1 : d < 4294967296) : Ev (fun k => natural_divideSmall.f k x d) (L (val x / d), val x % d) := by
 have g := divideSmall_loop x hx hl d h0 h1 x.length [] 0 (Nat.le_refl _) Dig.nil rfl (Int.le_refl _) h0 (by rw [List.drop_length]; simp [val])
 rw [List.append_nil] at g
 refine Ev.congr (fun k => ?_) g
 simp only [natural_divideSmall.f]
 rw [Int.toNat_natCast, if_pos (by omega), if_pos (by omega), w64 (by omega) (by omega)]
theorem shl64 {a : Int} {s : Nat} (a0 : 0 ≤ a) (a1 : a < 4294967296) (hs : s < 32) : shl .u64 (IntKind.u64.wrap a) (s : Int) = a * 2 ^ s ∧ 0 ≤ a * 2 ^ s ∧ a * 2 ^ s < 4294967296 * 2 ^ s := by
 have h1 : (0 : Int) < 2 ^ s := Int.pow_pos (by decide)
 have h2 : (2 : Int) ^ s ≤ 2147483648 := by
  have e : ((2 ^ s : Nat) : Int) = (2 : Int) ^ s := Int.natCast_pow 2 s
  rw [← e]
  have := Nat.pow_le_pow_right (show 0 < 2 by decide) (show s ≤ 31 by omega)
  omega
 have h3 := Int.mul_nonneg a0 (Int.le_of_lt h1)
 have h4 := Int.mul_le_mul_of_nonneg_right (show a ≤ 4294967295 by omega) (Int.le_of_lt h1)
 refine ⟨?_, h3, by omega⟩
 unfold shl
 rw [Int.toNat_natCast, show min s IntKind.u64.bits = s from Nat.min_eq_left (by show s ≤ 64; omega), wu (n := a) (by omega) (by omega), wu h3 (by omega)]
theorem pow32 {s : Nat} (hs : s < 32) : (0 : Int) < 2 ^ s ∧ (2 : Int) ^ s ≤ 2147483648 ∧ (2 : Int) ^ s * 2 ^ (32 - s) = 4294967296 ∧ (0 : Int) < 2 ^ (32 - s) := by
 refine ⟨Int.pow_pos (by decide), ?_, ?_, Int.pow_pos (by decide)⟩
 · have e : ((2 ^ s : Nat) : Int) = (2 : Int) ^ s := Int.natCast_pow 2 s
   rw [← e]
   have := Nat.pow_le_pow_right (show 0 < 2 by decide) (show s ≤ 31 by omega)
   omega
 · rw [← Int.pow_add, show s + (32 - s) = 32 by omega]; rfl
theorem shlow {a : Int} {s : Nat} (hs : s < 32) : a * 2 ^ s % 4294967296 % 2 ^ s = 0 ∧ a * 2 ^ s % 4294967296 + (2 : Int) ^ s ≤ 4294967296 := by
 obtain ⟨p0, p1, p2, p3⟩ := pow32 hs
 have h1 : a * 2 ^ s % 4294967296 % 2 ^ s = 0 := by
  rw [Int.emod_emod_of_dvd _ ⟨2 ^ (32 - s), p2.symm⟩, Int.mul_emod_left]
 refine ⟨h1, ?_⟩
 have h2 := Int.emod_lt_of_pos (a * 2 ^ s) (show (0 : Int) < 4294967296 by decide)
 have h3 := divmod_eq (a * 2 ^ s % 4294967296) (2 ^ s)
 rw [h1, Int.add_zero] at h3
 generalize a * 2 ^ s % 4294967296 = y at *
 have h4 : y / 2 ^ s < 2 ^ (32 - s) := Int.ediv_lt_of_lt_mul p0 (by rw [Int.mul_comm, p2]; exact h2)
 have h5 := Int.mul_le_mul_of_nonneg_right (show y / 2 ^ s + 1 ≤ 2 ^ (32 - s) by omega) (Int.le_of_lt p0)
 rw [Int.mul_comm (2 ^ (32 - s)), p2, Int.add_mul, ← h3] at h5
 omega
theorem or_low {c y : Int} {s : Nat} (hs : s < 32) (c0 : 0 ≤ c) (c1 : c < 2 ^ s) (y0 : 0 ≤ y) (y1 : y < 4294967296) (hy : y % 2 ^ s = 0) : Go.bits .or .u32 c y = c + y := by
 obtain ⟨p0, p1, p2, p3⟩ := pow32 hs
 rw [bitor_comm, bits_join .u32 32 (by decide) u32_in s y c y0 hy (by omega) c0 c1 (by omega)]
 omega
theorem or_zero {y : Int} (y0 : 0 ≤ y) (y1 : y < 4294967296) : Go.bits .or .u32 0 y = y := by
 rw [bits_join .u32 32 (by decide) u32_in 32 0 y (by omega) (by omega) (by omega) y0 (by omega) (by omega)]
 omega
theorem shhigh {a : Int} {s : Nat} (a0 : 0 ≤ a) (a1 : a < 4294967296) (hs : s < 32) : 0 ≤ a * 2 ^ s / 4294967296 ∧ a * 2 ^ s / 4294967296 < 2 ^ s := by
 obtain ⟨h1, h2, h3⟩ := shl64 a0 a1 hs
 exact ⟨Int.ediv_nonneg h2 (by decide), Int.ediv_lt_of_lt_mul (by decide) (by rw [Int.mul_comm (2 ^ s)]; exact h3)⟩
theorem shift_loop (x : List Int) (hx : Dig x) (hl : x.length ≤ 400000) (s : Nat) (hs : s < 32) (n : Nat) (hn : n = x.length ∨ n = x.length + 1) (xs : List Int) : ∀ (o : List Int) (c : Int), x.drop o.length = xs → o.length ≤ x.length → Dig o → 0 ≤ c → c < 2 ^ s → (n = x.length → val xs * 2 ^ s + c < 4294967296 ^ xs.length) →
 ∃ l, Dig l ∧ l.length = n ∧ val l = val o + 4294967296 ^ o.length * (c + val xs * 2 ^ s) ∧ Ev (fun k => natural_shift.l0 k (s : Int) (n : Int) (o ++ (if o.length < n then [c] else []) ++ List.replicate (n - o.length - 1) 0) x (x.length : Int) (o.length : Int)) l := by
 obtain ⟨p0, p1, p2, p3⟩ := pow32 hs
 induction xs with
 | nil =>
  intro o c h1 h2 ho c0 c1 hfit
  have e1 := drop_nil h1
  rcases hn with hn | hn
  · have hc := hfit hn
    simp only [val, List.length_nil, Int.zero_mul, Int.zero_add, Int.pow_zero] at hc
    refine ⟨o, ho, by omega, by simp only [val]; rw [show c = 0 by omega]; simp, ?_⟩
    refine Ev.step (f := fun _ => some o) (fun k => ?_) (Ev.now _)
    simp only [natural_shift.l0]
    rw [if_neg (by omega), if_neg (by omega), show n - o.length - 1 = 0 by omega]
    simp
  · refine ⟨o ++ [c], snoc_dig ho c0 (by omega), by rw [snoc_len]; omega, by rw [val_app]; simp [val], ?_⟩
    refine Ev.step (f := fun _ => some (o ++ [c])) (fun k => ?_) (Ev.now _)
    simp only [natural_shift.l0]
    rw [if_neg (by omega), if_pos (by omega), show n - o.length - 1 = 0 by omega]
    simp
 | cons a xs ih =>
  intro o c h1 h2 ho c0 c1 hfit
  obtain ⟨i1, r1, d1, m1⟩ := drop_cons h1
  have ba := hx a m1
  obtain ⟨s1, s2, s3⟩ := shl64 ba.1 ba.2 hs
  obtain ⟨l1, l2⟩ := shlow (a := a) hs
  obtain ⟨g1, g2⟩ := shhigh ba.1 ba.2 hs
  have y0 := Int.emod_nonneg (a * 2 ^ s) (show (4294967296 : Int) ≠ 0 by decide)
  have y1 := Int.emod_lt_of_pos (a * 2 ^ s) (show (0 : Int) < 4294967296 by decide)
  have hor := or_low hs c0 c1 y0 y1 l1
  have hz : a * 2 ^ s = 4294967296 * (a * 2 ^ s / 4294967296) + a * 2 ^ s % 4294967296 := by omega
  have hxl := drop_len d1
  have hval : (c + a * 2 ^ s % 4294967296) + 4294967296 * (a * 2 ^ s / 4294967296 + val xs * 2 ^ s) = c + val (a :: xs) * 2 ^ s := by
   rw [val, Int.add_mul, Int.mul_assoc]
   omega
  have hsplit : o ++ (if o.length < n then [c] else []) ++ List.replicate (n - o.length - 1) 0 = o ++ c :: List.replicate (n - o.length - 1) 0 := by
   rw [if_pos (by omega), List.append_assoc, List.singleton_append]
  have hrd : rd (o ++ c :: List.replicate (n - o.length - 1) 0) (o.length : Int) = c := rd_at _ _ _ _ rfl
  have hd1 := snoc_dig (d := c + a * 2 ^ s % 4294967296) ho (by omega) (by omega)
  have hlen1 : (o ++ c :: List.replicate (n - o.length - 1) 0).length = n := by
   rw [List.length_append, List.length_cons, List.length_replicate]; omega
  obtain ⟨l, q1, q2, q3, q4⟩ := ih (o ++ [c + a * 2 ^ s % 4294967296]) (a * 2 ^ s / 4294967296) (by rw [snoc_len]; exact d1) (by rw [snoc_len]; omega) hd1 g1 g2 (by
   intro e
   have h5 := hfit e
   rw [← Int.add_comm c, ← hval, List.length_cons, Int.pow_succ] at h5
   generalize (4294967296 : Int) ^ xs.length = P at *
   omega)
  rw [vsnoc, hval] at q3
  refine ⟨l, q1, q2, q3, ?_⟩
  rw [hsplit]
  refine Ev.step (fun k => ?_) q4
  simp only [natural_shift.l0]
  by_cases hlast : o.length + 1 < n
  · obtain ⟨w, hw⟩ : ∃ w, n - o.length - 1 = w + 1 := ⟨n - o.length - 2, by omega⟩
    have e2 : o ++ [c + a * 2 ^ s % 4294967296] ++ List.replicate (n - o.length - 1) 0 = (o ++ [c + a * 2 ^ s % 4294967296]) ++ 0 :: List.replicate w 0 := by rw [hw, List.replicate_succ]
    have e3 : rd ((o ++ [c + a * 2 ^ s % 4294967296]) ++ 0 :: List.replicate w 0) ((o.length + 1 : Nat) : Int) = 0 := rd_at _ _ _ _ (by rw [snoc_len])
    have e4 : ∀ d, ((o ++ [c + a * 2 ^ s % 4294967296]) ++ 0 :: List.replicate w 0).set (o.length + 1) d = o ++ [c + a * 2 ^ s % 4294967296] ++ [d] ++ List.replicate w 0 := fun d => by
     have := set_snoc (o ++ [c + a * 2 ^ s % 4294967296]) d 0 (List.replicate w 0)
     rwa [snoc_len] at this
    rw [hlen1, r1, s1, hrd, hor, if_pos (by omega), if_pos (by omega), if_pos (by omega), if_pos (by omega), if_pos (by omega), Option.bind_some, winc (by omega), if_pos (by omega), if_pos (by omega), Int.toNat_natCast, Int.toNat_natCast, set_snoc, e2, if_pos (by omega), e3, Int.emod_eq_of_lt g1 (by omega), or_zero g1 (by omega), e4, snoc_len, if_pos (by omega), show n - (o.length + 1) - 1 = w by omega]
  · rw [hlen1, r1, s1, hrd, hor, if_pos (by omega), if_pos (by omega), if_pos (by omega), if_pos (by omega), if_pos (by omega), Option.bind_some, winc (by omega), if_neg (by omega), Int.toNat_natCast, set_snoc, snoc_len, if_neg (by omega), show n - o.length - 1 = 0 by omega, show n - (o.length + 1) - 1 = 0 by omega]
    simp only [List.replicate_zero, List.append_nil]
theorem shift_ev (x : List Int) (hx : Dig x) (hl : x.length ≤ 400000) (s : Nat) (hs : s < 32) (n : Nat) (hn : n = x.length ∨ n = x.length + 1) (hfit : n = x.length → val x * 2 ^ s < 4294967296 ^ x.length) :
 ∃ l, Dig l ∧ l.length = n ∧ val l = val x * 2 ^ s ∧ Ev (fun k => natural_shift.f k x (s : Int) (n : Int)) l := by
 obtain ⟨p0, p1, p2, p3⟩ := pow32 hs
 obtain ⟨l, q1, q2, q3, q4⟩ := shift_loop x hx hl s hs n hn x [] 0 rfl (Nat.zero_le _) Dig.nil (Int.le_refl _) p0 (fun e => by have := hfit e; omega)
 refine ⟨l, q1, q2, by rw [q3]; simp [val], ?_⟩
 refine Ev.congr (fun k => ?_) q4
 simp only [natural_shift.f]
 rw [Int.toNat_natCast, if_pos (by omega), if_pos (by omega)]
 by_cases h : n = 0
 · rw [h]; rfl
 · obtain ⟨m, rfl⟩ : ∃ m, n = m + 1 := ⟨n - 1, by omega⟩
   rw [List.length_nil, if_pos (by omega), List.nil_append, List.replicate_succ]
   rfl
end Go.Proofs.YtjaflmhdclmolaaDoor.Num
end
