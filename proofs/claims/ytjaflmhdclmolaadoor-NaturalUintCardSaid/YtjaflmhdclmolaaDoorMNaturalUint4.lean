/- Part 4 of the proof of NaturalUint: the functions' walks and what they compute, in the order of the calls; each holds for all arguments that its row allows. -/
import Derived.Test.YtjaflmhdclmolaaDoorMNaturalUint3
import Derived.KernelRfl
/- Strings of limbs, comparing, and the laws' size check, in both packages: for limbs of at most a million, strings of at most a thousand million bytes. -/
namespace Go.Proofs.YtjaflmhdclmolaaDoor.Num
open Go.RowKit Go.Proofs.YtjaflmhdclmolaaDoorW.PrintWords Go.Proofs.YtjaflmhdclmolaaDoorW.PrintLast Go.Proofs.YtjaflmhdclmolaaDoorW.PrintMore Go.Proofs.YtjaflmhdclmolaaDoor.F
set_option linter.unusedVariables false
/-! ### text -/
theorem rd_cons_succ (x : Int) (l : List Int) (i : Nat) : rd (x :: l) ((i + 1 : Nat) : Int) = rd l (i : Int) := by
 unfold rd
 rw [Int.toNat_natCast, Int.toNat_natCast]
 rfl
theorem rd_cons_zero (x : Int) (l : List Int) : rd (x :: l) 0 = x := rfl
theorem leb_at (l : List Int) : ∀ (i : Nat) (y : Int) (r : List Int), (leb l).drop i = y :: r → shr .u32 (rd l ((i / 4 : Nat) : Int)) (8 * ((i % 4 : Nat) : Int)) % 256 = y ∧ i < 4 * l.length := by
 induction l with
 | nil => intro i y r h; simp [leb] at h
 | cons x l ih =>
  intro i y r h
  by_cases h4 : 4 ≤ i
  · obtain ⟨j, rfl⟩ : ∃ j, i = j + 4 := ⟨i - 4, by omega⟩
    have h2 : (leb l).drop j = y :: r := h
    obtain ⟨h3, h5⟩ := ih j y r h2
    refine ⟨?_, by simp only [List.length_cons]; omega⟩
    rw [show (j + 4) / 4 = j / 4 + 1 by omega, show (j + 4) % 4 = j % 4 by omega, rd_cons_succ]
    exact h3
  · have : i = 0 ∨ i = 1 ∨ i = 2 ∨ i = 3 := by omega
    refine ⟨?_, by simp only [List.length_cons]; omega⟩
    rcases this with rfl | rfl | rfl | rfl
    · have h2 : x % 256 = y := (List.cons.inj h).1
      show x / 1 % 256 = y
      rw [Int.ediv_one]; exact h2
    · exact (List.cons.inj h).1
    · exact (List.cons.inj h).1
    · exact (List.cons.inj h).1
theorem text_loop (l : List Int) (hd : Dig l) (hl : l.length ≤ 1000000) (r : List Int) : ∀ (i : Nat) (b : List Int), (leb l).drop i = r → i ≤ 4 * l.length →
 Ev (fun k => natural_limbs_text.l0 k l (List.replicate r.length 0 ++ ((leb l).take i).reverse) ((4 * l.length : Nat) : Int) (i : Int)) (S (val l)) := by
 induction r with
 | nil =>
  intro i b hr hi
  have hlen := leb_len l
  have h2 := congrArg List.length hr
  rw [List.length_drop] at h2
  simp only [List.length_nil] at h2
  refine Ev.step (f := fun k => (natural_Normalize.f (strOfNums (leb l).reverse)).bind fun t => some t) (fun k => ?_) ?_
  · simp only [natural_limbs_text.l0]
    rw [if_neg (by omega), List.take_of_length_le (by omega)]
    rfl
  · rw [normalize_eq, B_nums (leb_byt l), leb_lev hd]
    exact Ev.now _
 | cons y r ih =>
  intro i b hr hi
  have hlen := leb_len l
  obtain ⟨h1, h2⟩ := leb_at l i y r hr
  have hi2 : i < (leb l).length := by omega
  have h3 := hr
  rw [← List.getElem_cons_drop hi2] at h3
  have h4 := (List.cons.inj h3).1
  have h5 := (List.cons.inj h3).2
  have h6 : (leb l).take (i + 1) = (leb l).take i ++ [y] := by rw [List.take_succ_eq_append_getElem hi2, h4]
  have h7 := congrArg List.length h5
  rw [List.length_drop, hlen] at h7
  have ih := ih (i + 1) b h5 (by omega)
  refine Ev.step (fun k => ?_) ih
  have hX : (List.replicate (y :: r).length (0 : Int) ++ ((leb l).take i).reverse).length = 4 * l.length := by
   rw [List.length_append, List.length_replicate, List.length_reverse, List.length_take, List.length_cons]; omega
  have hS : (List.replicate (y :: r).length (0 : Int) ++ ((leb l).take i).reverse).set r.length y = List.replicate r.length 0 ++ ((leb l).take (i + 1)).reverse := by
   rw [List.length_cons, List.replicate_succ', List.append_assoc, List.singleton_append]
   have := set_at (List.replicate r.length 0) 0 y ((leb l).take i).reverse (r.length : Int) (by rw [List.length_replicate])
   rw [Int.toNat_natCast] at this
   rw [this, h6, List.reverse_append, List.reverse_singleton, List.singleton_append]
  simp only [natural_limbs_text.l0]
  rw [hX, wdiv4 (by omega), wmod4 (by omega), wsub1 (by omega) (by omega), winc (by omega), Int.toNat_natCast, h1, show 4 * l.length - 1 - i = r.length by omega, hS]
  clear hS hX h6 h3 h4 h5 hr h1
  rw [if_pos (by omega), if_pos (by omega), if_pos (by omega), if_pos (by omega), if_pos (by omega), if_pos (by omega)]
theorem text_ev {l : List Int} (hd : Dig l) (hl : l.length ≤ 1000000) : Ev (fun k => natural_limbs_text.f k l) (S (val l)) := by
 have h := text_loop l hd hl (leb l) 0 [] rfl (Nat.zero_le _)
 have e : wrap64 ((l.length : Int) * 4) = ((4 * l.length : Nat) : Int) := by rw [w64 (by omega) (by omega)]; omega
 rw [leb_len, List.take_zero, List.reverse_nil, List.append_nil] at h
 refine Ev.congr (fun k => ?_) h
 simp only [natural_limbs_text.f]
 rw [e, Int.toNat_natCast, if_pos (by omega), if_pos (by omega), Option.bind_some, List.length_replicate]
 rfl
theorem leb_app (a b : List Int) : leb (a ++ b) = leb a ++ leb b := by
 induction a with
 | nil => rfl
 | cons x r ih => simp only [List.cons_append, leb, ih]
theorem reftext_loop (l : List Int) (hd : Dig l) (hl : l.length ≤ 1000000) (i : Nat) : i ≤ l.length →
 Ev (fun k => insolvencyref1_text.l0 k l (leb (l.drop i)).reverse ((i : Int) - 1)) (S (val l)) := by
 induction i with
 | zero =>
  intro _
  refine Ev.step (f := fun k => (insolvencyref1_Normalize.f k (strOfNums (leb l).reverse)).bind fun t => some t) (fun k => ?_) ?_
  · simp only [insolvencyref1_text.l0]
    rw [if_neg (by omega)]
    rfl
  · refine Ev.bind (refnorm_ev _ (by rw [strOfNums_size, List.length_reverse, leb_len]; omega)) ?_
    rw [B_nums (leb_byt l), leb_lev hd]
    exact Ev.now _
 | succ i ih =>
  intro hi
  have ih := ih (by omega)
  have h1 : l.drop i = l[i] :: l.drop (i + 1) := (List.getElem_cons_drop (by omega)).symm
  have h2 : rd l (i : Int) = l[i] := by
   unfold rd
   rw [Int.toNat_natCast, List.getD_eq_getElem?_getD, List.getElem?_eq_getElem (by omega)]
   rfl
  have h3 : (leb (l.drop i)).reverse = (leb (l.drop (i + 1))).reverse ++ [l[i] / 16777216 % 256, l[i] / 65536 % 256, l[i] / 256 % 256, l[i] % 256] := by
   rw [h1]
   simp only [leb, List.reverse_cons, List.append_assoc, List.cons_append, List.nil_append]
  have h4 : ((leb (l.drop (i + 1))).reverse).length ≤ 4000000 := by rw [List.length_reverse, leb_len, List.length_drop]; omega
  refine Ev.step (fun k => ?_) ih
  simp only [insolvencyref1_text.l0]
  rw [show ((i + 1 : Nat) : Int) - 1 = (i : Int) by omega, h2, h3, Option.bind_some, if_pos (by omega), if_pos (by omega), if_pos (by omega), if_pos (by simp only [List.length_cons, List.length_nil]; omega), w64 (by omega) (by omega)]
theorem reftext_ev {l : List Int} (hd : Dig l) (hl : l.length ≤ 1000000) : Ev (fun k => insolvencyref1_text.f k l) (S (val l)) := by
 have h1 := tr_len l
 have h2 := tr_val l
 refine Ev.bind (strip_ev l (by omega)) ?_
 have h := reftext_loop (tr l) (tr_dig hd) (by omega) (tr l).length (Nat.le_refl _)
 rw [List.drop_length, h2] at h
 refine Ev.congr (fun k => ?_) h
 rw [if_pos (by omega), w64 (by omega) (by omega)]
 rfl
theorem text_L {n : Int} (h0 : 0 ≤ n) (hl : (L n).length ≤ 1000000) : Ev (fun k => natural_limbs_text.f k (L n)) (S n) := by
 have := text_ev (L_dig h0) hl
 rwa [L_val h0] at this
theorem reftext_L {n : Int} (h0 : 0 ≤ n) (hl : (L n).length ≤ 1000000) : Ev (fun k => insolvencyref1_text.f k (L n)) (S n) := by
 have := reftext_ev (L_dig h0) hl
 rwa [L_val h0] at this
/-! ### comparing -/
def sgn (a b : Int) : Int := if a < b then -1 else if a = b then 0 else 1
theorem sgn_lt {a b : Int} : sgn a b < 0 ↔ a < b := by unfold sgn; split <;> (try split) <;> omega
theorem sgn_neg (a b : Int) : sgn b a = wrap64 (-sgn a b) := by
 unfold sgn
 by_cases h1 : a < b
 · rw [if_neg (by omega), if_neg (by omega), if_pos h1, w64 (by decide) (by decide)]; rfl
 · by_cases h2 : a = b
   · rw [if_neg (by omega), if_pos h2.symm, if_neg h1, if_pos h2, w64 (by decide) (by decide)]; rfl
   · rw [if_pos (by omega), if_neg h1, if_neg h2, w64 (by decide) (by decide)]
theorem cmp_top {d1 d2 t : List Int} {x y : Int} (h1 : Dig d1) (h2 : Dig d2) (hl : d1.length = d2.length) (h : x < y) : val (d1 ++ x :: t) < val (d2 ++ y :: t) := by
 rw [val_app, val_app, ← hl]
 have g1 := val_lt h1
 have g2 := val_nonneg h2
 have g3 := Int.mul_le_mul_of_nonneg_left (show x + 1 ≤ y by omega) (Int.le_of_lt (pw d1.length))
 simp only [val, Int.mul_add, Int.mul_one] at g3 ⊢
 omega
theorem drop_split {l : List Int} {i : Nat} (h : i < l.length) : ∃ x, l = l.take i ++ x :: l.drop (i + 1) ∧ rd l (i : Int) = x ∧ (l.take i).length = i ∧ l.drop i = x :: l.drop (i + 1) := by
 have h1 : l.drop i = l[i] :: l.drop (i + 1) := (List.getElem_cons_drop h).symm
 refine ⟨l[i], by rw [← h1, List.take_append_drop], ?_, by rw [List.length_take]; omega, h1⟩
 unfold rd
 rw [Int.toNat_natCast, List.getD_eq_getElem?_getD, List.getElem?_eq_getElem h]
 rfl
theorem compare_loop (a b : List Int) (ha : Dig a) (hb : Dig b) (hl : a.length = b.length) (hs : a.length ≤ 1000000) (i : Nat) : i ≤ a.length → a.drop i = b.drop i → Ev (fun k => natural_compare.l0 k a b ((i : Int) - 1)) (sgn (val a) (val b)) := by
 induction i with
 | zero =>
  intro _ h
  have h2 : a = b := h
  refine Ev.step (f := fun k => some (sgn (val a) (val b))) (fun k => ?_) (Ev.now _)
  simp only [natural_compare.l0]
  rw [if_neg (by omega), h2]
  unfold sgn
  rw [if_neg (by omega), if_pos rfl]
 | succ i ih =>
  intro hi h
  obtain ⟨x, ex, rx, lx, dx⟩ := drop_split (l := a) (i := i) (by omega)
  obtain ⟨y, ey, ry, ly, dy⟩ := drop_split (l := b) (i := i) (by omega)
  have e1 : ((i + 1 : Nat) : Int) - 1 = (i : Int) := by omega
  by_cases hxy : x = y
  · have ih := ih (by omega) (by rw [dx, dy, hxy, h])
    refine Ev.step (fun k => ?_) ih
    simp only [natural_compare.l0]
    rw [e1, rx, ry, if_pos (by omega), if_pos (by omega), if_pos (by omega), if_pos (by omega), if_pos hxy, w64 (by omega) (by omega)]
  · refine Ev.step (f := fun k => some (sgn (val a) (val b))) (fun k => ?_) (Ev.now _)
    simp only [natural_compare.l0]
    rw [e1, rx, ry, if_pos (by omega), if_pos (by omega), if_pos (by omega), if_pos (by omega), if_neg hxy]
    by_cases hlt : x < y
    · have g := cmp_top (t := a.drop (i + 1)) (ha.take i) (hb.take i) (by rw [lx, ly]) hlt
      rw [← ex, h, ← ey] at g
      unfold sgn
      rw [if_pos hlt, if_pos g]
    · have g := cmp_top (t := a.drop (i + 1)) (hb.take i) (ha.take i) (by rw [lx, ly]) (show y < x by omega)
      rw [← ex, h, ← ey] at g
      unfold sgn
      rw [if_neg hlt, if_neg (by omega), if_neg (by omega)]
theorem order_loop (a b : List Int) (ha : Dig a) (hb : Dig b) (hl : a.length = b.length) (hs : a.length ≤ 1000000) (i : Nat) : i ≤ a.length → a.drop i = b.drop i → Ev (fun k => insolvencyref1_order.l0 k a b ((i : Int) - 1)) (sgn (val a) (val b)) := by
 induction i with
 | zero =>
  intro _ h
  have h2 : a = b := h
  refine Ev.step (f := fun k => some (sgn (val a) (val b))) (fun k => ?_) (Ev.now _)
  simp only [insolvencyref1_order.l0]
  rw [if_neg (by omega), h2]
  unfold sgn
  rw [if_neg (by omega), if_pos rfl]
 | succ i ih =>
  intro hi h
  obtain ⟨x, ex, rx, lx, dx⟩ := drop_split (l := a) (i := i) (by omega)
  obtain ⟨y, ey, ry, ly, dy⟩ := drop_split (l := b) (i := i) (by omega)
  have e1 : ((i + 1 : Nat) : Int) - 1 = (i : Int) := by omega
  by_cases hxy : x = y
  · have ih := ih (by omega) (by rw [dx, dy, hxy, h])
    refine Ev.step (fun k => ?_) ih
    simp only [insolvencyref1_order.l0]
    rw [e1, rx, ry, if_pos (by omega), if_pos (by omega), if_pos (by omega), if_pos (by omega), if_pos hxy, w64 (by omega) (by omega)]
  · refine Ev.step (f := fun k => some (sgn (val a) (val b))) (fun k => ?_) (Ev.now _)
    simp only [insolvencyref1_order.l0]
    rw [e1, rx, ry, if_pos (by omega), if_pos (by omega), if_pos (by omega), if_pos (by omega), if_neg hxy]
    by_cases hlt : x < y
    · have g := cmp_top (t := a.drop (i + 1)) (ha.take i) (hb.take i) (by rw [lx, ly]) hlt
      rw [← ex, h, ← ey] at g
      unfold sgn
      rw [if_pos hlt, if_pos g]
    · have g := cmp_top (t := a.drop (i + 1)) (hb.take i) (ha.take i) (by rw [lx, ly]) (show y < x by omega)
      rw [← ex, h, ← ey] at g
      unfold sgn
      rw [if_neg hlt, if_neg (by omega), if_neg (by omega)]
theorem sgn_len {a b : Int} (ha : 0 ≤ a) (hb : 0 ≤ b) (h : (L a).length ≠ (L b).length) : sgn a b = if (L a).length < (L b).length then -1 else 1 := by
 unfold sgn
 by_cases hlt : (L a).length < (L b).length
 · have : ¬ b ≤ a := fun h2 => by have := L_mono hb h2; omega
   rw [if_pos hlt, if_pos (by omega)]
 · have : ¬ a ≤ b := fun h2 => by have := L_mono ha h2; omega
   rw [if_neg hlt, if_neg (by omega), if_neg (by omega)]
theorem sign_eq (n : Int) : natural_sign.f n = some (if n < 0 then -1 else if n > 0 then 1 else 0) := by
 unfold natural_sign.f
 split
 · rfl
 · split <;> rfl
theorem compare_ev {a b : Int} (ha : 0 ≤ a) (hb : 0 ≤ b) (hla : (L a).length ≤ 1000000) (hlb : (L b).length ≤ 1000000) : Ev (fun k => natural_compare.f k (L a) (L b)) (sgn a b) := by
 unfold natural_compare.f
 by_cases h : (L a).length = (L b).length
 · refine Ev.ite (by omega) ?_
   have g := compare_loop (L a) (L b) (L_dig ha) (L_dig hb) h hla (L a).length (Nat.le_refl _) (by rw [List.drop_length, h, List.drop_length])
   rw [L_val ha, L_val hb] at g
   rw [w64 (by omega) (by omega)]
   exact g
 · refine Ev.ite_not (by omega) ?_
   rw [sgn_len ha hb h, w64 (by omega) (by omega), sign_eq, Option.bind_some]
   by_cases hlt : (L a).length < (L b).length
   · rw [if_pos (by omega), if_pos hlt]; exact Ev.now _
   · rw [if_neg (by omega), if_pos (by omega), if_neg hlt]; exact Ev.now _
theorem order_ev {a b : Int} (ha : 0 ≤ a) (hb : 0 ≤ b) (hla : (L a).length ≤ 1000000) (hlb : (L b).length ≤ 1000000) : Ev (fun k => insolvencyref1_order.f k (L a) (L b)) (sgn a b) := by
 unfold insolvencyref1_order.f
 by_cases h : (L a).length = (L b).length
 · refine Ev.ite (by omega) ?_
   have g := order_loop (L a) (L b) (L_dig ha) (L_dig hb) h hla (L a).length (Nat.le_refl _) (by rw [List.drop_length, h, List.drop_length])
   rw [L_val ha, L_val hb] at g
   rw [w64 (by omega) (by omega)]
   exact g
 · refine Ev.ite_not (by omega) ?_
   rw [sgn_len ha hb h]
   by_cases hlt : (L a).length < (L b).length
   · rw [if_pos hlt]
     exact Ev.ite (by omega) (Ev.now _)
   · rw [if_neg hlt]
     exact Ev.ite_not (by omega) (Ev.now _)
theorem B_small {s : ByteArray} {m : Nat} (h : s.size ≤ 4 * m) : (L (B s)).length ≤ m := by
 refine L_len (B_nonneg s) (Int.lt_of_lt_of_le (B_lt s) ?_)
 rw [show (4294967296 : Int) = 256 ^ 4 by decide, ← Int.pow_mul]
 have e1 : ((256 ^ s.size : Nat) : Int) = (256 : Int) ^ s.size := Int.natCast_pow 256 _
 have e2 : ((256 ^ (4 * m) : Nat) : Int) = (256 : Int) ^ (4 * m) := Int.natCast_pow 256 _
 rw [← e1, ← e2]
 exact Int.ofNat_le.2 (Nat.pow_le_pow_right (by decide) h)
theorem refcompare_ev (a b : ByteArray) (ha : a.size ≤ 4000000) (hb : b.size ≤ 4000000) : Ev (fun k => insolvencyref1_NatCompare.f k a b) (sgn (B a) (B b)) := by
 refine Ev.bind (reflimbs_ev a (by omega)) ?_
 refine Ev.bind (reflimbs_ev b (by omega)) ?_
 refine Ev.bind (order_ev (B_nonneg a) (B_nonneg b) (B_small (by omega)) (B_small (by omega))) ?_
 exact Ev.now _
/-! ### comparing strings -/
theorem bev_cons (x : UInt8) (l : List UInt8) : bev (x :: l) = x.toNat * 256 ^ l.length + bev l := by
 refine snoc_ind (P := fun l => bev (x :: l) = x.toNat * 256 ^ l.length + bev l) ?_ ?_ l.length l rfl
 · show 0 * 256 + x.toNat = x.toNat * 1 + 0; omega
 · intro a y ih
   rw [← List.cons_append, bev_snoc, ih, bev_snoc, List.length_append, List.length_singleton, Nat.pow_succ, Nat.add_mul, ← Nat.mul_assoc]
   omega
theorem cmpB (a : List UInt8) : ∀ b : List UInt8, a.length = b.length → Lib.compareBytes a b = sgn (bev a) (bev b) := by
 induction a with
 | nil =>
  intro b h
  cases b with
  | nil => rfl
  | cons y b => simp at h
 | cons x a ih =>
  intro b h
  cases b with
  | nil => simp at h
  | cons y b =>
   have hl : a.length = b.length := by simpa using h
   have ih := ih b hl
   have g1 := bev_lt a
   have g2 := bev_lt b
   unfold Lib.compareBytes
   rw [bev_cons, bev_cons, hl]
   rw [hl] at g1
   by_cases h1 : x < y
   · rw [if_pos h1]
     have h2 : x.toNat < y.toNat := h1
     have h3 : (x.toNat + 1) * 256 ^ b.length ≤ y.toNat * 256 ^ b.length := Nat.mul_le_mul_right _ h2
     rw [Nat.add_mul] at h3
     unfold sgn
     rw [if_pos (by omega)]
   · rw [if_neg h1]
     by_cases h2 : y < x
     · rw [if_pos h2]
       have h2 : y.toNat < x.toNat := h2
       have h3 : (y.toNat + 1) * 256 ^ b.length ≤ x.toNat * 256 ^ b.length := Nat.mul_le_mul_right _ h2
       rw [Nat.add_mul] at h3
       unfold sgn
       rw [if_neg (by omega), if_neg (by omega)]
     · rw [if_neg h2, ih]
       have h4 : x.toNat = y.toNat := Nat.le_antisymm (UInt8.not_lt.1 h2) (UInt8.not_lt.1 h1)
       rw [h4]
       unfold sgn
       generalize y.toNat * 256 ^ b.length = p
       by_cases q1 : (bev a : Int) < bev b
       · rw [if_pos q1, if_pos (by omega)]
       · by_cases q2 : (bev a : Int) = bev b
         · rw [if_neg q1, if_pos q2, if_neg (by omega), if_pos (by omega)]
         · rw [if_neg q1, if_neg q2, if_neg (by omega), if_neg (by omega)]
theorem S_mono {a b : Int} (hb : 0 ≤ b) (h : a ≤ b) : (S a).size ≤ (S b).size := by
 refine S_size (Int.lt_of_le_of_lt h ?_)
 have := B_lt (S b)
 rwa [B_S hb] at this
theorem Compare_eq (a b : ByteArray) (ha : a.size ≤ 1000000000000000) (hb : b.size ≤ 1000000000000000) : natural_Compare.f a b = some (sgn (B a) (B b)) := by
 have h1 := S_size (B_lt a)
 have h2 := S_size (B_lt b)
 have h3 := B_nonneg a
 have h4 := B_nonneg b
 unfold natural_Compare.f
 rw [normalize_eq, Option.bind_some, normalize_eq, Option.bind_some]
 by_cases h : (S (B a)).size = (S (B b)).size
 · rw [if_pos (by omega)]
   unfold strings_Compare.f
   rw [Option.bind_some, cmpB _ _ (by rw [Array.length_toList, Array.length_toList]; exact h)]
   show some (sgn (B (S (B a))) (B (S (B b)))) = _
   rw [B_S h3, B_S h4]
 · rw [if_neg (by omega), w64 (by omega) (by omega), sign_eq, Option.bind_some]
   unfold sgn
   by_cases hlt : (S (B a)).size < (S (B b)).size
   · have : ¬ B b ≤ B a := fun q => by have := S_mono h3 q; omega
     rw [if_pos (by omega), if_pos (by omega)]
   · have : ¬ B a ≤ B b := fun q => by have := S_mono h4 q; omega
     rw [if_neg (by omega), if_pos (by omega), if_neg (by omega), if_neg (by omega)]
/-! ### few -/
theorem few_loop (l : List ByteArray) (hl : l.length ≤ 1000) (r : List ByteArray) : ∀ i : Nat, l.drop i = r → i ≤ l.length → Ev (fun k => insolvencylaw1_few.l0 k l (l.length : Int) (i : Int)) (r.all fun s => decide (s.size ≤ 60)) := by
 induction r with
 | nil =>
  intro i h hi
  have h2 := congrArg List.length h
  rw [List.length_drop, List.length_nil] at h2
  refine Ev.step (f := fun _ => some true) (fun k => ?_) (Ev.now _)
  simp only [insolvencylaw1_few.l0]
  rw [if_neg (by omega)]
 | cons s r ih =>
  intro i h hi
  have hlt : i < l.length := by
   rcases Nat.lt_or_ge i l.length with q | q
   · exact q
   · rw [List.drop_of_length_le q] at h; cases h
  rw [← List.getElem_cons_drop hlt] at h
  have h1 := (List.cons.inj h).1
  have h2 := (List.cons.inj h).2
  have hr : rdOf ByteArray.empty l (i : Int) = s := by
   unfold rdOf
   rw [Int.toNat_natCast, List.getD_eq_getElem?_getD, List.getElem?_eq_getElem hlt, h1]
   rfl
  by_cases hs : s.size ≤ 60
  · have ih := ih (i + 1) h2 (by omega)
    rw [List.all_cons, decide_eq_true hs, Bool.true_and]
    refine Ev.step (fun k => ?_) ih
    simp only [insolvencylaw1_few.l0]
    rw [hr, if_pos (by omega), if_pos (by omega), if_pos (by omega), if_neg (by omega), winc (by omega)]
  · rw [List.all_cons, decide_eq_false hs, Bool.false_and]
    refine Ev.step (f := fun _ => some false) (fun k => ?_) (Ev.now _)
    simp only [insolvencylaw1_few.l0]
    rw [hr, if_pos (by omega), if_pos (by omega), if_pos (by omega), if_pos (by omega)]
theorem few_ev (l : List ByteArray) (hl : l.length ≤ 1000) : Ev (fun k => insolvencylaw1_few.f k l) (l.all fun s => decide (s.size ≤ 60)) := few_loop l hl l 0 rfl (Nat.zero_le _)
end Go.Proofs.YtjaflmhdclmolaaDoor.Num
/- The sanity check of the laws: the chapter's examples, reckoned out. -/
namespace Go.Proofs.YtjaflmhdclmolaaDoor.Num
open Go.RowKit Go.Proofs.YtjaflmhdclmolaaDoorW.PrintWords Go.Proofs.YtjaflmhdclmolaaDoorW.PrintLast Go.Proofs.YtjaflmhdclmolaaDoorW.PrintMore Go.Proofs.YtjaflmhdclmolaaDoor.F
set_option maxRecDepth 100000 in
theorem awake_div : natural_Divide.f 40 ⟨#[3, 232]⟩ ⟨#[7]⟩ = some (⟨#[142]⟩, ⟨#[6]⟩, true) := by kernel_rfl
set_option maxRecDepth 100000 in
theorem awake_parse : natural_Parse.f 40 ⟨#[48, 48, 55]⟩ = some (⟨#[]⟩, 3) := by kernel_rfl
set_option maxRecDepth 100000 in
theorem awake_add : natural_Add.f 40 ⟨#[255]⟩ ⟨#[1]⟩ = some ⟨#[1, 0]⟩ := by kernel_rfl
set_option maxRecDepth 100000 in
theorem awake_fmt1 : natural_Format.f 40 ⟨#[142]⟩ = some ⟨#[49, 52, 50]⟩ := by kernel_rfl
set_option maxRecDepth 100000 in
theorem awake_fmt2 : natural_Format.f 40 ⟨#[6]⟩ = some ⟨#[54]⟩ := by kernel_rfl
theorem awake_ev : Ev (fun k => insolvencylaw1_awake.f k) true := by
 refine Ev.of (fun k => insolvencylaw1_awake.mono k) (k := 40) ?_
 unfold insolvencylaw1_awake.f
 rw [awake_div, Option.bind_some, awake_parse, Option.bind_some, awake_add, Option.bind_some, if_pos (by rw [Lib.toList_data]), if_pos rfl, awake_fmt1, Option.bind_some, if_pos (by rw [Lib.toList_data]), awake_fmt2, Option.bind_some, if_pos (by rw [Lib.toList_data])]
 rfl
end Go.Proofs.YtjaflmhdclmolaaDoor.Num
/- NaturalUint answers true for every number below 2^64 and every string: both ways between a number and its string agree. -/
namespace Go.Proofs.YtjaflmhdclmolaaDoor.Num
open Go.RowKit Go.Proofs.YtjaflmhdclmolaaDoorW.PrintWords Go.Proofs.YtjaflmhdclmolaaDoorW.PrintLast Go.Proofs.YtjaflmhdclmolaaDoorW.PrintMore Go.Proofs.YtjaflmhdclmolaaDoor.F
theorem two_val {u : Int} (h0 : 0 ≤ u) (h1 : u ≤ 18446744073709551615) : Dig [u % 4294967296, u / 4294967296 % 4294967296] ∧ val [u % 4294967296, u / 4294967296 % 4294967296] = u := by
 refine ⟨Dig.cons (by omega) (by omega) (Dig.cons (by omega) (by omega) Dig.nil), ?_⟩
 simp only [val]; omega
theorem fromUint_ev {u : Int} (h0 : 0 ≤ u) (h1 : u ≤ 18446744073709551615) : Ev (fun k => natural_FromUint.f k u) (S u) := by
 obtain ⟨hd, hv⟩ := two_val h0 h1
 have h := text_ev hd (by simp)
 rw [hv] at h
 exact Ev.bind h (Ev.now _)
theorem reffromUint_ev {u : Int} (h0 : 0 ≤ u) (h1 : u ≤ 18446744073709551615) : Ev (fun k => insolvencyref1_FromUint.f k u) (S u) := by
 obtain ⟨hd, hv⟩ := two_val h0 h1
 have h := reftext_ev hd (by simp)
 rw [hv] at h
 exact Ev.bind h (Ev.now _)
theorem or256 {x b : Int} (hx0 : 0 ≤ x) (hx : x < 72057594037927936) (hb0 : 0 ≤ b) (hb : b < 256) : Go.bits .or .u64 (IntKind.u64.wrap (x * 256)) (IntKind.u64.wrap b) = x * 256 + b := by
 rw [wu (by omega) (by omega), wu (by omega) (by omega)]
 exact bits_join .u64 64 (by decide) (fun n h0 h1 => wu h0 (by omega)) 8 _ _ (by omega) (by omega) (by omega) hb0 (by omega) (by omega)
theorem take_bev (s : ByteArray) (i : Nat) (h : i < s.size) : (bev (s.data.toList.take (i + 1)) : Int) = bev (s.data.toList.take i) * 256 + bt s (i : Int) ∧ 0 ≤ bt s (i : Int) ∧ bt s (i : Int) < 256 := by
 have hl : i < s.data.toList.length := by rw [Array.length_toList]; exact h
 rw [List.take_succ_eq_append_getElem hl, bev_snoc, bt_get s i h]
 have := (s.data.toList[i]).toNat_lt
 omega
theorem take_lt (s : ByteArray) (i : Nat) (h : i < s.size) (h8 : s.size ≤ 8) : (bev (s.data.toList.take i) : Int) < 72057594037927936 := by
 have h1 := bev_lt (s.data.toList.take i)
 have h2 : 256 ^ (s.data.toList.take i).length ≤ 256 ^ 7 := Nat.pow_le_pow_right (by decide) (by rw [List.length_take]; omega)
 omega
theorem uint_loop (s : ByteArray) (h8 : s.size ≤ 8) (m : Nat) : ∀ i : Nat, i + m = s.size → Ev (fun k => natural_Uint.l0 k s (bev (s.data.toList.take i) : Int) (s.size : Int) (i : Int)) (B s, true) := by
 induction m with
 | zero =>
  intro i hi
  refine Ev.step (f := fun _ => some ((bev (s.data.toList.take i) : Int), true)) (fun k => ?_) ?_
  · simp only [natural_Uint.l0]
    rw [if_neg (by omega)]
  · rw [List.take_of_length_le (by rw [Array.length_toList]; show s.size ≤ i; omega)]
    exact Ev.now _
 | succ m ih =>
  intro i hi
  have ih := ih (i + 1) (by omega)
  obtain ⟨h1, h2, h3⟩ := take_bev s i (by omega)
  have h4 := take_lt s i (by omega) h8
  rw [h1] at ih
  refine Ev.step (fun k => ?_) ih
  simp only [natural_Uint.l0]
  rw [if_pos (by omega), if_pos (by omega), if_pos (by omega), or256 (by omega) h4 h2 h3, winc (by omega)]
theorem refuint_loop (s : ByteArray) (h8 : s.size ≤ 8) (m : Nat) : ∀ i : Nat, i + m = s.size → Ev (fun k => insolvencyref1_Uint.l0 k s (bev (s.data.toList.take i) : Int) (i : Int)) (B s, true) := by
 induction m with
 | zero =>
  intro i hi
  refine Ev.step (f := fun _ => some ((bev (s.data.toList.take i) : Int), true)) (fun k => ?_) ?_
  · simp only [insolvencyref1_Uint.l0]
    rw [if_neg (by omega)]
  · rw [List.take_of_length_le (by rw [Array.length_toList]; show s.size ≤ i; omega)]
    exact Ev.now _
 | succ m ih =>
  intro i hi
  have ih := ih (i + 1) (by omega)
  obtain ⟨h1, h2, h3⟩ := take_bev s i (by omega)
  have h4 := take_lt s i (by omega) h8
  rw [h1] at ih
  refine Ev.step (fun k => ?_) ih
  simp only [insolvencyref1_Uint.l0]
  rw [if_pos (by omega), if_pos (by omega), or256 (by omega) h4 h2 h3, winc (by omega)]
def uintOf (s : ByteArray) : Int × Bool := if (S (B s)).size > 8 then (0, false) else (B s, true)
theorem uint_ev (s : ByteArray) : Ev (fun k => natural_Uint.f k s) (uintOf s) := by
 unfold natural_Uint.f uintOf
 rw [normalize_eq]
 simp only [Option.bind_some]
 by_cases h : (S (B s)).size > 8
 · rw [if_pos h]
   exact Ev.ite (by omega) (Ev.now _)
 · rw [if_neg h]
   refine Ev.ite_not (by omega) ?_
   have g := uint_loop (S (B s)) (by omega) (S (B s)).size 0 (by omega)
   rw [B_S (B_nonneg s)] at g
   exact g
theorem refuint_ev (s : ByteArray) (hs : s.size ≤ 1000000000000000) : Ev (fun k => insolvencyref1_Uint.f k s) (uintOf s) := by
 refine Ev.bind (refnorm_ev s hs) ?_
 unfold uintOf
 by_cases h : (S (B s)).size > 8
 · rw [if_pos h]
   exact Ev.ite (by omega) (Ev.now _)
 · rw [if_neg h]
   refine Ev.ite_not (by omega) ?_
   have g := refuint_loop (S (B s)) (by omega) (S (B s)).size 0 (by omega)
   rw [B_S (B_nonneg s)] at g
   exact g
end Go.Proofs.YtjaflmhdclmolaaDoor.Num
namespace Go.Proofs.YtjaflmhdclmolaaDoor.Pure
open Go.RowKit Go.Proofs.YtjaflmhdclmolaaDoor.F Go.Proofs.YtjaflmhdclmolaaDoorW.PrintWords Go.Proofs.YtjaflmhdclmolaaDoorW.PrintLast
open Go.Proofs.YtjaflmhdclmolaaDoor.Num
theorem NaturalUint : insolvencylaw1_NaturalUint.Pure := by
 intro a0 a1 h0 h1
 have h3 : 0 ≤ a0 ∧ a0 ≤ 18446744073709551615 := by
  simp only [Lit.wf, Bool.and_eq_true, decide_eq_true_eq] at h0
  exact h0
 have hu : uintOf (S a0) = (a0, true) := by
  have h4 : (S a0).size ≤ 8 := S_size (by omega)
  unfold uintOf
  rw [B_S h3.1, if_neg (by omega)]
 have key : Ev (fun k => insolvencylaw1_NaturalUint.f k a0 a1) true := by
  unfold insolvencylaw1_NaturalUint.f
  refine Ev.bind (fromUint_ev h3.1 h3.2) ?_
  refine Ev.bind (uint_ev _) ?_
  refine Ev.bind (uint_ev a1) ?_
  refine Ev.bind (refuint_ev a1 (by omega)) ?_
  refine Ev.bind awake_ev ?_
  refine Ev.ite rfl ?_
  rw [hu]
  refine Ev.ite rfl ?_
  refine Ev.ite rfl ?_
  refine Ev.bind (fromUint_ev h3.1 h3.2) ?_
  refine Ev.bind (reffromUint_ev h3.1 h3.2) ?_
  refine Ev.ite rfl ?_
  by_cases h5 : (a1.size : Int) > 300
  · exact Ev.ite h5 (Ev.now _)
  · refine Ev.ite_not h5 ?_
    refine Ev.ite rfl ?_
    rw [BEq.rfl]
    exact Ev.now _
 obtain ⟨K, hK⟩ := key
 exact ⟨K, hK K (Nat.le_refl _)⟩
end Go.Proofs.YtjaflmhdclmolaaDoor.Pure
