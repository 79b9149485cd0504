/- Part 11 of the proof of NaturalDivision: the functions' walks and what they compute, in the order of the calls; each holds for all arguments that its row allows. -/
import Derived.Test.YtjaflmhdclmolaaDoorMNaturalDivision10
import Derived.Test.YtjaflmhdclmolaaDoorMNaturalDivision8
import Derived.Test.YtjaflmhdclmolaaDoorMNaturalDivision6
import Derived.Test.YtjaflmhdclmolaaDoorMNaturalDivision7
import Derived.Lib.ItoaNum
import Derived.Test.YtjaflmhdclmolaaDoorMNaturalDivision9
section
namespace Go.Proofs.YtjaflmhdclmolaaDoor.Num
open Go.RowKit Go.Proofs.YtjaflmhdclmolaaDoorW.PrintWords Go.Proofs.YtjaflmhdclmolaaDoorW.PrintLast Go.Proofs.YtjaflmhdclmolaaDoorW.PrintMore Go.Proofs.YtjaflmhdclmolaaDoor.F
set_option linter.unusedVariables false
theorem drop_rd {l : List Int} {i : Nat} (h : i < l.length) : l.drop i = rd l (i : Int) :: l.drop (i + 1) := by
 obtain ⟨x, _, h2, _, h4⟩ := drop_split h
 rw [h4, h2]
theorem val_top2 {l : List Int} {m : Nat} (h : l.length = m + 2) : val l = (rd l ((m + 1 : Nat) : Int) * 4294967296 + rd l (m : Int)) * 4294967296 ^ m + val (l.take m) := by
 have e : l = l.take m ++ [rd l (m : Int), rd l ((m + 1 : Nat) : Int)] := by
  rw [← List.take_append_drop m l]
  conv => lhs; rw [drop_rd (show m < l.length by omega), drop_rd (show m + 1 < l.length by omega), List.drop_of_length_le (show l.length ≤ m + 1 + 1 by omega)]
  rw [List.take_append_drop]
 have hm : (l.take m).length = m := by rw [List.length_take]; omega
 conv => lhs; rw [e]
 rw [val_app, hm]
 simp only [val, Int.mul_zero, Int.add_zero]
 rw [Int.mul_comm (4294967296 ^ m), Int.mul_comm 4294967296 (rd l ((m + 1 : Nat) : Int)), Int.add_comm (rd l (m : Int))]
 omega
theorem val_top3 {l : List Int} {m : Nat} (h : l.length = m + 3) : val l = ((rd l ((m + 2 : Nat) : Int) * 4294967296 + rd l ((m + 1 : Nat) : Int)) * 4294967296 + rd l (m : Int)) * 4294967296 ^ m + val (l.take m) := by
 have e : l = l.take m ++ [rd l (m : Int), rd l ((m + 1 : Nat) : Int), rd l ((m + 2 : Nat) : Int)] := by
  rw [← List.take_append_drop m l]
  conv => lhs; rw [drop_rd (show m < l.length by omega), drop_rd (show m + 1 < l.length by omega), drop_rd (show m + 1 + 1 < l.length by omega), List.drop_of_length_le (show l.length ≤ m + 1 + 1 + 1 by omega)]
  rw [List.take_append_drop]
 have hm : (l.take m).length = m := by rw [List.length_take]; omega
 conv => lhs; rw [e]
 rw [val_app, hm]
 simp only [val, Int.mul_zero, Int.add_zero]
 rw [Int.mul_comm (4294967296 ^ m)]
 rw [show rd l (m : Int) + 4294967296 * (rd l ((m + 1 : Nat) : Int) + 4294967296 * rd l ((m + 2 : Nat) : Int)) = (rd l ((m + 2 : Nat) : Int) * 4294967296 + rd l ((m + 1 : Nat) : Int)) * 4294967296 + rd l (m : Int) by omega]
 omega
theorem kn_of {u d : List Int} {m : Nat} (hu : Dig u) (hd : Dig d) (hul : u.length = m + 3) (hdl : d.length = m + 2) (hv : 2147483648 ≤ rd d ((m + 1 : Nat) : Int)) (hlt : val u < 4294967296 * val d) :
 Kn (val d) (val u) (4294967296 ^ m) (val (d.take m)) (val (u.take m)) (rd d ((m + 1 : Nat) : Int)) (rd d (m : Int)) (rd u ((m + 2 : Nat) : Int)) (rd u ((m + 1 : Nat) : Int)) (rd u (m : Int)) (val u / val d) := by
 have hD := val_top2 hdl
 have hB := pw m
 have dl0 := val_nonneg (hd.take m)
 have dl1 := val_lt (hd.take m)
 have ul1 := val_lt (hu.take m)
 rw [List.length_take, Nat.min_eq_left (by omega)] at dl1 ul1
 have v1 := hd.at ((m + 1 : Nat) : Int)
 have v2 := hd.at (m : Int)
 have hpos : 0 < val d := by
  rw [hD]
  have := Int.mul_pos (show 0 < rd d ((m + 1 : Nat) : Int) * 4294967296 + rd d (m : Int) by omega) hB
  omega
 have hq := divmod_eq (val u) (val d)
 have r0 := Int.emod_nonneg (val u) (show val d ≠ 0 by omega)
 have r1 := Int.emod_lt_of_pos (val u) hpos
 exact { hD := hD, hU := val_top3 hul, hB := hB, dl0 := dl0, dl1 := dl1, ul0 := val_nonneg (hu.take m), ul1 := ul1, v10 := hv, v11 := v1.2, v20 := v2.1, v21 := v2.2, u00 := (hu.at _).1, u01 := (hu.at _).2, u10 := (hu.at _).1, u11 := (hu.at _).2, u20 := (hu.at _).1, u21 := (hu.at _).2, q0 := Int.ediv_nonneg (val_nonneg hu) (val_nonneg hd), q1 := by omega, q2 := by omega, hlt := hlt }
section
variable {D U B dl ul v1 v2 u0 u1 u2 q : Int}
theorem Gs.gle (h : Kn D U B dl ul v1 v2 u0 u1 u2 q) {g r : Int} (a : Gs v1 u0 u1 q g r) : 0 ≤ g ∧ g ≤ 8589934592 := by
 have g0 := a.g0 h
 have h1 := a.eq
 have h2 := Int.mul_le_mul_of_nonneg_left h.v10 g0
 have := h.u01
 have := h.u11
 have := a.r0
 omega
end
theorem guess_loop {u d : List Int} {m : Nat} {D U B dl ul q : Int} (hul : u.length = m + 3) (hdl : d.length = m + 2) (hm : m ≤ 400000)
 (h : Kn D U B dl ul (rd d ((m + 1 : Nat) : Int)) (rd d (m : Int)) (rd u ((m + 2 : Nat) : Int)) (rd u ((m + 1 : Nat) : Int)) (rd u (m : Int)) q) {R : Int × List Int}
 (hc : ∀ g, 0 ≤ g → g < 4294967296 → q ≤ g → g ≤ q + 1 → Ev (fun k => natural_step.j2 k u d ((m + 2 : Nat) : Int) g) R) (f : Nat) : ∀ g r : Int, Gs (rd d ((m + 1 : Nat) : Int)) (rd u ((m + 2 : Nat) : Int)) (rd u ((m + 1 : Nat) : Int)) q g r → r < 4294967296 → 4294967296 ≤ r + f * 2147483648 →
 Ev (fun k => natural_step.l0 k u d ((m + 2 : Nat) : Int) g r) R := by
 induction f with
 | zero => intro g r a h1 h2; omega
 | succ f ih =>
  intro g r a h1 h2
  obtain ⟨g0, g1⟩ := a.gle h
  have r0 := a.r0
  have hv10 := h.v10
  have hv11 := h.v11
  have hv20 := h.v20
  have hv21 := h.v21
  have w1 : wrap64 (((m + 2 : Nat) : Int) - 1) = ((m + 1 : Nat) : Int) := by rw [w64 (by omega) (by omega)]; omega
  have w2 : wrap64 (((m + 2 : Nat) : Int) - 2) = (m : Int) := by rw [w64 (by omega) (by omega)]; omega
  have yes : (4294967296 ≤ g ∨ r * 4294967296 + rd u (m : Int) < g * rd d (m : Int)) → Ev (fun k => natural_step.j1 k u d ((m + 2 : Nat) : Int) g r true) R := fun c => by
   have a2 := a.next h c
   have b1 := a2.g0 h
   by_cases hb : 4294967296 ≤ r + rd d ((m + 1 : Nat) : Int)
   · obtain ⟨c1, c2⟩ := a2.brk h hb
     have g := hc (g - 1) b1 c1 a2.le (a2.done h c1 c2)
     refine Ev.step (fun k => ?_) g
     simp only [natural_step.j1]
     rw [if_pos trivial, w1, wu (n := rd d ((m + 1 : Nat) : Int)) (by omega) (by omega), wu (n := r + rd d ((m + 1 : Nat) : Int)) (by omega) (by omega), if_pos (by omega), if_pos (by omega), if_pos (by omega), wu (by omega) (by omega)]
   · have g := ih (g - 1) (r + rd d ((m + 1 : Nat) : Int)) a2 (by omega) (by omega)
     refine Ev.step (fun k => ?_) g
     simp only [natural_step.j1]
     rw [if_pos trivial, w1, wu (n := rd d ((m + 1 : Nat) : Int)) (by omega) (by omega), wu (n := r + rd d ((m + 1 : Nat) : Int)) (by omega) (by omega), if_pos (by omega), if_pos (by omega), if_neg (by omega), wu (by omega) (by omega)]
  by_cases hg : 4294967296 ≤ g
  · refine Ev.step (fun k => ?_) (yes (.inl hg))
    simp only [natural_step.l0]
    rw [if_pos (by omega)]
  · have hp := mul_le g0 (show g < 4294967296 by omega) hv20 hv21
    have ho := small_bits r0 h1 h.u20 h.u21
    by_cases ht : r * 4294967296 + rd u (m : Int) < g * rd d (m : Int)
    · refine Ev.step (fun k => ?_) (yes (.inr ht))
      simp only [natural_step.l0]
      rw [if_neg (by omega), w2, ho, wu (n := rd d (m : Int)) (by omega) (by omega), wu (n := g * rd d (m : Int)) (by omega) (by omega), decide_eq_true (show g * rd d (m : Int) > r * 4294967296 + rd u (m : Int) from ht), if_pos (by omega), if_pos (by omega), if_pos (by omega)]
    · have g2 := hc g g0 (by omega) a.le (a.done h (by omega) (by omega))
      refine Ev.step (f := fun k => natural_step.j1 k u d ((m + 2 : Nat) : Int) g r false) (fun k => ?_) (Ev.step (fun k => ?_) g2)
      · simp only [natural_step.l0]
        rw [if_neg (by omega), w2, ho, wu (n := rd d (m : Int)) (by omega) (by omega), wu (n := g * rd d (m : Int)) (by omega) (by omega), decide_eq_false (show ¬ g * rd d (m : Int) > r * 4294967296 + rd u (m : Int) from ht), if_pos (by omega), if_pos (by omega), if_pos (by omega)]
      · simp only [natural_step.j1]
        rw [if_neg (by decide)]
theorem mulsub_loop (d : List Int) (hd : Dig d) (hdl : d.length ≤ 400002) (n g t : Int) (g0 : 0 ≤ g) (g1 : g < 4294967296) (R : Int × List Int) (us : List Int) : ∀ (ys p : List Int) (c b : Int), d.drop p.length = ys → ys.length = us.length → p.length ≤ d.length → Dig p → Dig us → 0 ≤ c → c < 4294967296 → 0 ≤ b → b ≤ 1 →
 (∀ p' c' b', Dig p' → p'.length = d.length → 0 ≤ c' → c' < 4294967296 → 0 ≤ b' → b' ≤ 1 → val p' + 4294967296 ^ p.length * (g * val ys + c + b) = val p + 4294967296 ^ p.length * val us + 4294967296 ^ p'.length * (c' + b') → Ev (fun k => natural_step.l1 k (p' ++ [t]) d n g c' b' d (d.length : Int) (d.length : Int)) R) →
 Ev (fun k => natural_step.l1 k (p ++ (us ++ [t])) d n g c b d (d.length : Int) (p.length : Int)) R := by
 induction us with
 | nil =>
  intro ys p c b h1 h2 h3 hp hus c0 c1 b0 b1 hcont
  have e2 : ys = [] := List.eq_nil_of_length_eq_zero (by simpa using h2)
  rw [e2] at h1 hcont
  have e1 := drop_nil h1
  have e3 : p.length = d.length := by omega
  have g2 := hcont p c b hp e3 c0 c1 b0 b1 (by simp [val])
  rw [List.nil_append, e3]
  exact g2
 | cons a us ih =>
  intro ys p c b h1 h2 h3 hp hus c0 c1 b0 b1 hcont
  cases ys with
  | nil => simp at h2
  | cons v ys =>
   obtain ⟨i1, r1, d1, m1⟩ := drop_cons h1
   have bv := hd v m1
   have ba := hus.head
   have bp := mul_le g0 g1 bv.1 bv.2
   have hq : ∀ t : Int, 0 ≤ t → t ≤ 18446744065119617025 + 4294967295 → 0 ≤ t % 4294967296 ∧ t % 4294967296 < 4294967296 ∧ 0 ≤ t / 4294967296 ∧ t / 4294967296 < 4294967296 := fun t _ _ => by omega
   have bt := hq (g * v + c) (by omega) (by omega)
   have hs := sub32_eq ba.1 ba.2 bt.1 bt.2.1 b0 b1
   have hb : ∀ x y : Int, 0 ≤ x → x < 4294967296 → 0 ≤ y → y < 4294967296 → 0 ≤ (x - y - b) % 4294967296 ∧ (x - y - b) % 4294967296 < 4294967296 ∧ 0 ≤ -((x - y - b) / 4294967296) ∧ -((x - y - b) / 4294967296) ≤ 1 := fun x y _ _ _ _ => by omega
   have bb := hb a ((g * v + c) % 4294967296) ba.1 ba.2 bt.1 bt.2.1
   have ih := ih ys (p ++ [(a - (g * v + c) % 4294967296 - b) % 4294967296]) ((g * v + c) / 4294967296) (-((a - (g * v + c) % 4294967296 - b) / 4294967296)) (by rw [snoc_len]; exact d1) (by simpa using h2) (by rw [snoc_len]; omega) (snoc_dig hp bb.1 bb.2.1) hus.tail bt.2.2.1 bt.2.2.2 bb.2.2.1 bb.2.2.2 (by
    intro p' c' b' a1 a2 a3 a4 a5 a6 a7
    refine hcont p' c' b' a1 a2 a3 a4 a5 a6 ?_
    have s1 := vsnoc p ((a - (g * v + c) % 4294967296 - b) % 4294967296) (val us)
    rw [snoc_len] at s1 a7
    have e5 : val p + 4294967296 ^ p.length * ((a - (g * v + c) % 4294967296 - b) % 4294967296 + 4294967296 * val us) = val p + 4294967296 ^ p.length * (val (a :: us)) - 4294967296 ^ p.length * (g * val (v :: ys) + c + b) + 4294967296 ^ p.length * (4294967296 * (g * val ys + (g * v + c) / 4294967296 + -((a - (g * v + c) % 4294967296 - b) / 4294967296))) := by
     rw [Int.add_sub_assoc, ← Int.mul_sub, Int.add_assoc, ← Int.mul_add]
     congr 2
     simp only [val, Int.mul_add]
     rw [Int.mul_left_comm g 4294967296]
     generalize g * v = q1
     generalize g * val ys = q2
     omega
    have e6 : (4294967296 : Int) ^ (p.length + 1) * (g * val ys + (g * v + c) / 4294967296 + -((a - (g * v + c) % 4294967296 - b) / 4294967296)) = 4294967296 ^ p.length * (4294967296 * (g * val ys + (g * v + c) / 4294967296 + -((a - (g * v + c) % 4294967296 - b) / 4294967296))) := by
     rw [Int.pow_succ, Int.mul_assoc]
    rw [e6, s1, e5] at a7
    omega)
   rw [snoc_len] at ih
   refine Ev.step (fun k => ?_) ih
   simp only [natural_step.l1]
   have hr : rd (p ++ (a :: us ++ [t])) (p.length : Int) = a := rd_at _ _ _ _ rfl
   have he : ∀ x, (p ++ (a :: us ++ [t])).set p.length x = (p ++ [x]) ++ (us ++ [t]) := fun x => set_snoc p x a (us ++ [t])
   have hln : (p ++ (a :: us ++ [t])).length = p.length + us.length + 2 := by simp only [List.length_append, List.length_cons, List.length_nil]; omega
   rw [if_pos (by omega), r1, hr, hln, wu (n := v) (by omega) (by omega), wu (n := g * v) (by omega) (by omega), wu (n := g * v + c) (by omega) (by omega), hs, Option.bind_some, if_pos (by omega), if_pos (by omega), if_pos (by omega), Int.toNat_natCast, he, winc (by omega)]
theorem addback_loop (d : List Int) (hd : Dig d) (hdl : d.length ≤ 400002) (n g t : Int) (hn : n = (d.length : Int)) (g0 : 1 ≤ g) (g1 : g < 4294967296) (us : List Int) : ∀ (ys p : List Int) (c : Int), d.drop p.length = ys → ys.length = us.length → p.length ≤ d.length → Dig p → Dig us → 0 ≤ c → c ≤ 1 →
 ∃ p' c', Dig p' ∧ p'.length = d.length ∧ 0 ≤ c' ∧ c' ≤ 1 ∧ val p' + 4294967296 ^ p'.length * c' = val p + 4294967296 ^ p.length * (c + val us + val ys) ∧ Ev (fun k => natural_step.l2 k (p ++ (us ++ [t])) n g c d (d.length : Int) (p.length : Int)) (g - 1, p' ++ [(t + c') % 4294967296]) := by
 induction us with
 | nil =>
  intro ys p c h1 h2 h3 hp hus c0 c1
  have e2 : ys = [] := List.eq_nil_of_length_eq_zero (by simpa using h2)
  rw [e2] at h1 ⊢
  have e1 := drop_nil h1
  have e3 : p.length = d.length := by omega
  refine ⟨p, c, hp, e3, c0, c1, by simp [val], ?_⟩
  refine Ev.step (f := fun _ => some (g - 1, p ++ [(t + c) % 4294967296])) (fun k => ?_) (Ev.now _)
  simp only [natural_step.l2]
  have hr : rd (p ++ ([] ++ [t])) n = t := rd_at p t [] n (by omega)
  have he : ∀ x, (p ++ ([] ++ [t])).set n.toNat x = p ++ [x] := fun x => by
   rw [show n.toNat = p.length by omega]
   exact (set_snoc p x t []).trans (List.append_nil _)
  have hln : (p ++ ([] ++ [t])).length = p.length + 1 := by simp
  rw [if_neg (by omega), hr, he, hln, if_pos (by omega), if_pos (by omega), wu (by omega) (by omega), Int.emod_eq_of_lt (by omega) (by omega)]
 | cons a us ih =>
  intro ys p c h1 h2 h3 hp hus c0 c1
  cases ys with
  | nil => simp at h2
  | cons v ys =>
   obtain ⟨i1, r1, d1, m1⟩ := drop_cons h1
   have bv := hd v m1
   have ba := hus.head
   have hs := add32_eq ba.1 ba.2 bv.1 bv.2 c0 c1
   obtain ⟨p', c', q1, q2, q3, q4, q5, q6⟩ := ih ys (p ++ [(a + v + c) % 4294967296]) ((a + v + c) / 4294967296) (by rw [snoc_len]; exact d1) (by simpa using h2) (by rw [snoc_len]; omega) (snoc_dig hp (by omega) (by omega)) hus.tail (by omega) (by omega)
   rw [vsnoc, show (a + v + c) % 4294967296 + 4294967296 * ((a + v + c) / 4294967296 + val us + val ys) = c + val (a :: us) + val (v :: ys) by simp only [val]; omega] at q5
   refine ⟨p', c', q1, q2, q3, q4, q5, ?_⟩
   rw [snoc_len] at q6
   refine Ev.step (fun k => ?_) q6
   simp only [natural_step.l2]
   have hr : rd (p ++ (a :: us ++ [t])) (p.length : Int) = a := rd_at _ _ _ _ rfl
   have he : ∀ x, (p ++ (a :: us ++ [t])).set p.length x = (p ++ [x]) ++ (us ++ [t]) := fun x => set_snoc p x a (us ++ [t])
   have hln : (p ++ (a :: us ++ [t])).length = p.length + us.length + 2 := by simp only [List.length_append, List.length_cons, List.length_nil]; omega
   rw [if_pos (by omega), r1, hr, hln, hs, Option.bind_some, if_pos (by omega), if_pos (by omega), if_pos (by omega), Int.toNat_natCast, he, winc (by omega)]
theorem step_ev {u d : List Int} {m : Nat} (hu : Dig u) (hd : Dig d) (hul : u.length = m + 3) (hdl : d.length = m + 2) (hm : m ≤ 400000) (hv : 2147483648 ≤ rd d ((m + 1 : Nat) : Int)) (hlt : val u < 4294967296 * val d) :
 ∃ w, Dig w ∧ w.length = u.length ∧ val w = val u % val d ∧ Ev (fun k => natural_step.f k u d) (val u / val d, w) := by
 have h := kn_of hu hd hul hdl hv hlt
 have hD0 : 0 < val d := by have := h.dpos; have := h.hB; omega
 have hDlt := val_lt hd
 have hPn := pw d.length
 obtain ⟨w, w1, w2, w3, w4⟩ : ∃ w, Dig w ∧ w.length = u.length ∧ val w = val u % val d ∧ ∀ g, 0 ≤ g → g < 4294967296 → val u / val d ≤ g → g ≤ val u / val d + 1 → Ev (fun k => natural_step.j2 k u d ((m + 2 : Nat) : Int) g) (val u / val d, w) := by
  have hr0 := Int.emod_nonneg (val u) (show val d ≠ 0 by omega)
  have hr1 := Int.emod_lt_of_pos (val u) hD0
  have hqr := divmod_eq (val u) (val d)
  have huniq : ∀ a b : List Int, Dig a → Dig b → a.length = b.length → val a = val b → a = b := by
   intro a
   induction a with
   | nil => intro b _ _ hl _; exact (List.eq_nil_of_length_eq_zero hl.symm).symm
   | cons x a ih =>
    intro b ha hb hl hv
    cases b with
    | nil => simp at hl
    | cons y b =>
     have a0 := ha.head
     have b0 := hb.head
     simp only [val] at hv
     rw [show x = y by omega, ih b ha.tail hb.tail (by simpa using hl) (by omega)]
  refine ⟨L (val u % val d) ++ List.replicate (u.length - (L (val u % val d)).length) 0, (L_dig hr0).app (Dig.zeros _), ?_, ?_, ?_⟩
  · have : (L (val u % val d)).length ≤ d.length := L_len hr0 (by omega)
    rw [List.length_append, List.length_replicate]; omega
  · rw [val_app, val_zeros, Int.mul_zero, Int.add_zero, L_val hr0]
  · have hwlen : (L (val u % val d) ++ List.replicate (u.length - (L (val u % val d)).length) 0).length = u.length := by
     have : (L (val u % val d)).length ≤ d.length := L_len hr0 (by omega)
     rw [List.length_append, List.length_replicate]; omega
    have hwval : val (L (val u % val d) ++ List.replicate (u.length - (L (val u % val d)).length) 0) = val u % val d := by
     rw [val_app, val_zeros, Int.mul_zero, Int.add_zero, L_val hr0]
    have hwdig : Dig (L (val u % val d) ++ List.replicate (u.length - (L (val u % val d)).length) 0) := (L_dig hr0).app (Dig.zeros _)
    generalize L (val u % val d) ++ List.replicate (u.length - (L (val u % val d)).length) 0 = w at hwlen hwval hwdig
    intro g g0 g1 gq gq1
    have hsp : u = u.take (m + 2) ++ [rd u ((m + 2 : Nat) : Int)] := by
     conv => lhs; rw [← List.take_append_drop (m + 2) u, drop_rd (show m + 2 < u.length by omega), List.drop_of_length_le (show u.length ≤ m + 2 + 1 by omega)]
    have ht := hu.at ((m + 2 : Nat) : Int)
    have hus := hu.take (m + 2)
    have husl : (u.take (m + 2)).length = m + 2 := by rw [List.length_take]; omega
    have hUv : val u = val (u.take (m + 2)) + 4294967296 ^ (m + 2) * rd u ((m + 2 : Nat) : Int) := by
     conv => lhs; rw [hsp, val_app, husl]
     simp [val]
    generalize u.take (m + 2) = us at hsp hus husl hUv
    generalize rd u ((m + 2 : Nat) : Int) = t at hsp ht hUv
    have key := mulsub_loop d hd (by omega) ((m + 2 : Nat) : Int) g t g0 g1 (val u / val d, w) us d [] 0 0 rfl (by omega) (Nat.zero_le _) Dig.nil hus (Int.le_refl _) (by decide) (Int.le_refl _) (by decide) (by
     intro p c b hp hpl c0 c1 b0 b1 he
     have he : val p + g * val d = val us + 4294967296 ^ (m + 2) * (c + b) := by
      rw [hpl, hdl] at he
      simp only [List.length_nil, Int.pow_zero, Int.one_mul, Int.add_zero, val, Int.zero_add] at he
      exact he
     have hs := sub32_eq ht.1 ht.2 c0 c1 b0 b1
     have hx0 := Int.emod_nonneg (t - c - b) (show (4294967296 : Int) ≠ 0 by decide)
     have hx1 := Int.emod_lt_of_pos (t - c - b) (show (0 : Int) < 4294967296 by decide)
     have hb2 : 0 ≤ -((t - c - b) / 4294967296) ∧ -((t - c - b) / 4294967296) ≤ 1 := by omega
     have hz : (t - c - b) % 4294967296 = t - c - b + 4294967296 * -((t - c - b) / 4294967296) := by omega
     generalize (t - c - b) % 4294967296 = t2 at hs hx0 hx1 hz
     generalize -((t - c - b) / 4294967296) = bo at hs hb2 hz
     have hXv : val (p ++ [t2]) = val p + 4294967296 ^ (m + 2) * t2 := by rw [val_app, hpl, hdl]; simp [val]
     have hXd : Dig (p ++ [t2]) := snoc_dig hp hx0 hx1
     have hXl : (p ++ [t2]).length = m + 3 := by rw [snoc_len, hpl, hdl]
     have hXlt := val_lt hXd
     rw [hXl] at hXlt
     have hP : (4294967296 : Int) ^ (m + 3) = 4294967296 ^ (m + 2) * 4294967296 := Int.pow_succ ..
     have hfix := Kn.fix (W := 4294967296 ^ (m + 3)) (X := val (p ++ [t2])) hD0 h.q1 h.q2 gq gq1 (val_nonneg hXd) hXlt hb2.1 hb2.2 (by
      rw [hXv, hUv, hP, hz]
      simp only [Int.mul_add, Int.mul_sub, Int.mul_assoc] at he ⊢
      omega)
     have hrd : rd (p ++ [t]) ((m + 2 : Nat) : Int) = t := rd_at p t [] _ (by omega)
     have hset : ∀ x, (p ++ [t]).set (m + 2) x = p ++ [x] := fun x => by
      have := set_snoc p x t []
      rw [hpl, hdl, List.append_nil] at this
      exact this
     by_cases hbo : bo = 0
     · obtain ⟨f1, f2⟩ := hfix.1 hbo
       have e1 : p ++ [t2] = w := huniq _ _ hXd hwdig (by omega) (by rw [f2, hwval]; omega)
       refine Ev.step (f := fun _ => some (val u / val d, w)) (fun k => ?_) (Ev.now _)
       simp only [natural_step.l1]
       rw [if_neg (by omega), hrd, Int.emod_eq_of_lt c0 c1, hs, Option.bind_some, if_pos (by omega), if_pos (by rw [snoc_len]; omega), Option.bind_some, if_pos hbo, Int.toNat_natCast, hset, e1, Int.emod_eq_of_lt g0 g1, f1]
     · have hbo1 : bo = 1 := by omega
       obtain ⟨f1, f2⟩ := hfix.2 hbo1
       have hq0 := h.q0
       obtain ⟨p2, c2, q1, q2, q3, q4, q5, q6⟩ := addback_loop d hd (by omega) ((m + 2 : Nat) : Int) g t2 (by omega) (by omega) g1 p d [] 0 rfl (by omega) (Nat.zero_le _) Dig.nil hp (Int.le_refl _) (by decide)
       have q5 : val p2 + 4294967296 ^ (m + 2) * c2 = val p + val d := by
        rw [q2, hdl] at q5
        simp only [List.length_nil, Int.pow_zero, Int.one_mul, val, Int.zero_add] at q5
        exact q5
       have hp2 := val_lt q1
       rw [q2, hdl] at hp2
       have hp20 := val_nonneg q1
       have hsum : val p2 + 4294967296 ^ (m + 2) * (c2 + t2) = val (p ++ [t2]) + val d := by
        rw [hXv, Int.mul_add]; omega
       have hc2 : c2 + t2 = 4294967296 := by
        have hcase : c2 + t2 ≤ 4294967295 ∨ c2 + t2 = 4294967296 := by omega
        rcases hcase with hcase | hcase
        · have e2 := Int.mul_le_mul_of_nonneg_left hcase (Int.le_of_lt (pw (m + 2)))
          have e3 : val u % val d = val u - val u / val d * val d := by omega
          rw [hP] at f2
          omega
        · exact hcase
       rw [show (t2 + c2) % 4294967296 = 0 by omega] at q6
       have e1 : p2 ++ [0] = w := by
        refine huniq _ _ (snoc_dig q1 (by decide) (by decide)) hwdig (by rw [snoc_len]; omega) ?_
        rw [hwval, val_app]
        rw [hc2] at hsum
        rw [hP] at f2
        simp only [val, Int.mul_zero, Int.add_zero]
        omega
       rw [e1, show g - 1 = val u / val d by omega] at q6
       refine Ev.step (fun k => ?_) q6
       simp only [natural_step.l1]
       rw [if_neg (by omega), hrd, Int.emod_eq_of_lt c0 c1, hs, Option.bind_some, if_pos (by omega), if_pos (by rw [snoc_len]; omega), Option.bind_some, if_neg hbo, Int.toNat_natCast, hset, List.nil_append, List.length_nil]
       rfl)
    refine Ev.step (fun k => ?_) key
    simp only [natural_step.j2]
    rw [← hsp]
    rfl
 refine ⟨w, w1, w2, w3, ?_⟩
 have hT := kn_of hu hd hul hdl hv hlt
 have hu0 := hT.u00
 have hu01 := hT.u01
 have hst := hT.start
 have hr1 := Int.emod_lt_of_pos (rd u ((m + 2 : Nat) : Int) * 4294967296 + rd u ((m + 1 : Nat) : Int)) (show 0 < rd d ((m + 1 : Nat) : Int) by omega)
 have hv11 := hT.v11
 have g := guess_loop hul hdl hm hT w4 2 _ _ hst (by omega) (by have := hst.r0; omega)
 have w5 : wrap64 ((d.length : Int) - 1) = ((m + 1 : Nat) : Int) := by rw [w64 (by omega) (by omega)]; omega
 have hbits := small_bits hu0 hu01 hT.u10 hT.u11
 have hnn : 0 ≤ rd u ((m + 2 : Nat) : Int) * 4294967296 + rd u ((m + 1 : Nat) : Int) := by have := hT.u10; omega
 obtain ⟨gl0, gl1⟩ := hst.gle hT
 refine Ev.congr (fun k => ?_) g
 simp only [natural_step.f]
 rw [w5, hdl, wu (n := rd u ((m + 2 : Nat) : Int)) (by omega) (by omega), hbits, wu (n := rd d ((m + 1 : Nat) : Int)) (by omega) (by omega), Int.tdiv_eq_ediv_of_nonneg hnn, Int.tmod_eq_emod_of_nonneg hnn, wu gl0 (by omega), if_pos (by omega), if_pos (by omega), if_pos (by omega), if_pos (by omega), if_pos (by omega), if_neg (by omega)]
end Go.Proofs.YtjaflmhdclmolaaDoor.Num
end
section
namespace Go.Proofs.YtjaflmhdclmolaaDoor.F
open Go.RowKit Go.Proofs.YtjaflmhdclmolaaDoorW.PrintWords Go.Proofs.YtjaflmhdclmolaaDoorW.PrintLast Go.Proofs.YtjaflmhdclmolaaDoorW.PrintMore
attribute [local go_sem] max2_int min2_int max_two min_two max_three min_three max_four min_four   
set_option linter.unusedVariables false
set_option linter.unusedSimpArgs false
def natural_GCD.l0 : Nat → List Int → List Int → Option (ByteArray)
 | 0, _, _ => none
 | k + 1, x5, x6 => if (x6.length : Int) > 0 then ((natural_divide.f k x5 x6).bind fun bt511 => (natural_GCD.l0 k x6 bt511.2)) else ((natural_limbs_text.f k x5).bind fun t517 => (some t517))
def natural_GCD.f (k : Nat) (a0 : ByteArray) (a1 : ByteArray) : Option (ByteArray) := (natural_parse.f k a0).bind fun t505 => ((natural_parse.f k a1).bind fun t508 => (natural_GCD.l0 k t505 t508))
theorem natural_GCD.mono_l : ∀ k, (∀ y0 y1, LeO (natural_GCD.l0 k y0 y1) (natural_GCD.l0 (k + 1) y0 y1))
 | 0 => fun _ _ r h => by simp [natural_GCD.l0] at h
 | k + 1 => by
  have ih0 := natural_GCD.mono_l k
  · intro y0 y1
    unfold natural_GCD.l0
    repeat' first
    | (with_reducible exact ih0 _ _)
    | (with_reducible exact natural_divide.mono _ _ _)
    | (with_reducible exact natural_limbs_text.mono _ _)
    | (with_reducible exact natural_parse.mono _ _)
    | (with_reducible exact LeO.refl _)
    | (with_reducible exact LeO.none _)
    | (with_reducible refine LeO.ite ?_ ?_)
    | (with_reducible refine LeO.bind ?_ (fun _ => ?_))
    | exact ih0 _ _
    | exact natural_divide.mono _ _ _
    | exact natural_limbs_text.mono _ _
    | exact natural_parse.mono _ _
    | exact LeO.none _
    | refine LeO.ite ?_ ?_
    | refine LeO.bind ?_ (fun _ => ?_)
theorem natural_GCD.mono : ∀ a0 a1 k, LeO (natural_GCD.f k a0 a1) (natural_GCD.f (k + 1) a0 a1) := by
 intro a0 a1 k
 have ih0 := natural_GCD.mono_l k
 unfold natural_GCD.f
 repeat' first
  | (with_reducible exact ih0 _ _)
  | (with_reducible exact natural_divide.mono _ _ _)
  | (with_reducible exact natural_limbs_text.mono _ _)
  | (with_reducible exact natural_parse.mono _ _)
  | (with_reducible exact LeO.refl _)
  | (with_reducible exact LeO.none _)
  | (with_reducible refine LeO.ite ?_ ?_)
  | (with_reducible refine LeO.bind ?_ (fun _ => ?_))
  | exact ih0 _ _
  | exact natural_divide.mono _ _ _
  | exact natural_limbs_text.mono _ _
  | exact natural_parse.mono _ _
  | exact LeO.none _
  | refine LeO.ite ?_ ?_
  | refine LeO.bind ?_ (fun _ => ?_)
set_option maxHeartbeats 8000000 in
set_option maxRecDepth 100000 in
theorem natural_GCD.calls (k : Nat) (a0 : ByteArray) (a1 : ByteArray) (r : ByteArray) (w : World) (h : natural_GCD.f k a0 a1 = some r) :
 Calls Tryd.prog 30 #[.string a0, .string a1] w fun e w' => e = .returned (.string r) ∧ Below w.heap.size w w' := by
 have HB := Aside0.mk (Below.refl w.heap.size w)
 have H : ((natural_parse.f k a0).bind fun t505 => ((natural_parse.f k a1).bind fun t508 => (natural_GCD.l0 k t505 t508))) = some r := h
 clear h
 replace H := Option.bind_eq_some_iff.mp H
 obtain ⟨t505, A30, H⟩ := H
 replace H : ((natural_parse.f k a1).bind fun t508 => (natural_GCD.l0 k t505 t508)) = some r := H
 have A3 := Aside0.mk A30
 clear A30
 replace H := Option.bind_eq_some_iff.mp H
 obtain ⟨t508, A40, H⟩ := H
 replace H : (natural_GCD.l0 k t505 t508) = some r := H
 have A4 := Aside0.mk A40
 clear A40
 have H' := Aside0.mk H
 clear H
 go_enter Tryd.func30, Tryd.ntmps30
 go_wp2_with (first | ((with_reducible refine gate_callee (f := 42) rfl ?_); refine goesL_ (some 10) rfl rfl Tryd.func42 (by kernel_rfl) rfl #[.string a0] rfl (by (try simp only [List.map_toArray, List.map_cons, List.map_nil]); first | done | rfl | (simp only [List.length_drop, List.length_take]; rfl)) ?_; (with_reducible refine (natural_parse.calls k a0 t505 _ A3.out).mono ?_); rintro e w5 ⟨v506, rfl, ho0, hb⟩; refine ⟨_, rfl, ?_⟩; have n0_ := Aside0.mk (Kd.R_lower ho0 (below_size (by repeat (first | (with_reducible first | exact HB.out | apply below_alloc | apply pw_below_drewN | apply below_drew1) | exact HB.out)))); have n1_ := Aside0.mk (below_step (by repeat (first | (with_reducible first | exact HB.out | apply below_alloc | apply pw_below_drewN | apply below_drew1) | exact HB.out)) hb); clear HB; have HO507 := n0_; have HB := n1_; clear n0_ n1_; (try clear hb); (try clear hb2); (try clear hk); (try clear hi); (try clear ho0)) | ((with_reducible refine gate_callee (f := 42) rfl ?_); refine goesL_ (some 12) rfl rfl Tryd.func42 (by kernel_rfl) rfl #[.string a1] rfl (by (try simp only [List.map_toArray, List.map_cons, List.map_nil]); first | done | rfl | (simp only [List.length_drop, List.length_take]; rfl)) ?_; (with_reducible refine (natural_parse.calls k a1 t508 _ A4.out).mono ?_); rintro e w6 ⟨v509, rfl, ho0, hb⟩; refine ⟨_, rfl, ?_⟩; have n0_ := Aside0.mk (Kd.R_elder' (by (with_reducible repeat (first | apply Kd.R_alloc | apply Kd.R_drewN | apply Kd.R_drew)); exact HO507.out) (Kd.R_base ho0) hb); have n1_ := Aside0.mk (Kd.R_lower (Kd.R_new' ho0 (Kd.R_lt (by (with_reducible repeat (first | apply Kd.R_alloc | apply Kd.R_drewN | apply Kd.R_drew)); exact HO507.out))) (below_size (by repeat (first | (with_reducible first | exact HB.out | apply below_alloc | apply pw_below_drewN | apply below_drew1) | exact HB.out)))); have n2_ := Aside0.mk (below_step (by repeat (first | (with_reducible first | exact HB.out | apply below_alloc | apply pw_below_drewN | apply below_drew1) | exact HB.out)) hb); clear HO507; clear HB; have HO507 := n0_; have HO510 := n1_; have HB := n2_; clear n0_ n1_ n2_; (try clear hb); (try clear hb2); (try clear hk); (try clear hi); (try clear ho0)))
 go_loopg [5, 6] k (fun kq v5 v6 w' => ∃ (x5_1 : List Int) (x6_1 : List Int), Aside0 (natural_GCD.l0 kq x5_1 x6_1 = some r) ∧ Aside0 (kq ≤ k) ∧ Aside0 (Kd.R (Kd.int .u32) 60 w' w.heap.size (fun k_ => some k_ ≠ (v6 : Value).ownBlock) v5 x5_1) ∧ Aside0 (Kd.R (Kd.int .u32) 60 w' w.heap.size (fun k_ => some k_ ≠ (v5 : Value).ownBlock) v6 x6_1) ∧ Aside0 (Below w.heap.size w w'))
 case atStart => exact ⟨(t505), (t508), H', ⟨Nat.le_refl _⟩, ⟨by (with_reducible repeat (first | apply Kd.R_alloc | apply Kd.R_drewN | apply Kd.R_drew)); exact Kd.R_mono HO507.out (fun _ hk => hk.2)⟩, ⟨by (with_reducible repeat (first | apply Kd.R_alloc | apply Kd.R_drewN | apply Kd.R_drew)); exact Kd.R_mono HO510.out (fun _ hk => hk.2)⟩, ⟨by repeat (first | (with_reducible first | exact HB.out | apply below_alloc | apply pw_below_drewN | apply below_drew1) | exact HB.out)⟩⟩
 case round =>
  clear H'
  try clear p2
  try clear c3
  try clear c4
  obtain ⟨x5_1, x6_1, HA, HK1, HO_5, HO_6, HB⟩ := hrel
  cases gk with
  | zero => exact absurd HA.out (by simp [natural_GCD.l0])
  | succ k1 =>
   have H := HA.out
   clear HA
   simp only [natural_GCD.l0] at H
   by_cases c7 : (x6_1.length : Int) > 0
   · rw [if_pos c7] at H
     have c7b0 : decide (0 < (x6_1.length : Int)) = true := decide_eq_true c7
     have c7b1 : decide (0 < x6_1.length) = true := decide_eq_true (by omega)
     clear c7
     replace H := Option.bind_eq_some_iff.mp H
     obtain ⟨⟨t511, t514⟩, A80, H⟩ := H
     replace H : (natural_GCD.l0 k1 x6_1 t514) = some r := H
     have A8 := Aside0.mk A80
     clear A80
     have H' := Aside0.mk H
     clear H
     obtain ⟨Ao9, co9, eo9⟩ := Kd.R_slice HO_6.out
     subst eo9
     obtain ⟨Ao10, co10, eo10⟩ := Kd.R_slice HO_5.out
     subst eo10
     go_wp2_with (first | ((with_reducible refine gate_callee (f := 43) rfl ?_); refine goesL_ (some 19) rfl rfl Tryd.func43 (by kernel_rfl) rfl #[.slice Ao10 x5_1.length co10, .slice Ao9 x6_1.length co9] rfl (by (try simp only [List.map_toArray, List.map_cons, List.map_nil]); first | done | rfl | (simp only [List.length_drop, List.length_take]; rfl)) ?_; (with_reducible refine (natural_divide.calls k1 (fun k_ => some k_ = (.slice Ao10 x5_1.length co10 : Value).ownBlock) (.slice Ao10 x5_1.length co10) x5_1 _ _ x6_1 t511 t514 w _ ?side1 ?side2 ?side3 ?side4 A8.out).mono ?_); (case side1 => repeat (first | (with_reducible first | exact HB.out | apply below_alloc | apply pw_below_drewN | apply below_drew1) | exact HB.out)); (case side2 => exact Kd.R_tight rfl HO_5.out); (case side3 => exact Kd.C_kept_own (HO_6.out) (fun k_ hk_ hs_ => (hk_) hs_)); (case side4 => exact (Kd.R_reads' HO_6.out).2.1); rintro e w11 ⟨v512, v515, rfl, ho0, ho1, hb, hkp⟩; refine ⟨_, rfl, ?_⟩; have n0_ := Aside0.mk (Kd.R_mono (ok' := fun k_ => some k_ ≠ (v512 : Value).ownBlock ∧ some k_ ≠ (v515 : Value).ownBlock) (Kd.R_keptB (HO_6.out) hkp (fun k_ hk_ hs_ => (hk_) hs_)) (fun k_ hk_ => ⟨fun e_ => Or.elim (ho0.1 k_ e_.symm).1 (fun hs_ => hk_.2.1 hs_) (fun hn_ => Nat.not_le.2 hk_.2.2 hn_), fun e_ => Or.elim (ho1.1 k_ e_.symm).1 (fun hs_ => hk_.2.1 hs_) (fun hn_ => Nat.not_le.2 hk_.2.2 hn_)⟩)); have n1_ := Aside0.mk (Kd.R_mono (ok' := fun k_ => some k_ ≠ (v515 : Value).ownBlock ∧ some k_ ≠ (.slice Ao9 x6_1.length co9 : Value).ownBlock) ho0 (fun k_ hk_ => ⟨hk_.2, Or.elim hk_.1 (fun hs_ => fun e_ => (((HO_6.out).1 k_ e_.symm)) hs_) (fun hn_ => (Kd.fresh' (Kd.R_lt (by (with_reducible repeat (first | apply Kd.R_alloc | apply Kd.R_drewN | apply Kd.R_drew)); exact HO_6.out)) k_ hn_))⟩)); have n2_ := Aside0.mk (Kd.R_mono (ok' := fun k_ => some k_ ≠ (v512 : Value).ownBlock ∧ some k_ ≠ (.slice Ao9 x6_1.length co9 : Value).ownBlock) ho1 (fun k_ hk_ => ⟨hk_.2, Or.elim hk_.1 (fun hs_ => fun e_ => (((HO_6.out).1 k_ e_.symm)) hs_) (fun hn_ => (Kd.fresh' (Kd.R_lt (by (with_reducible repeat (first | apply Kd.R_alloc | apply Kd.R_drewN | apply Kd.R_drew)); exact HO_6.out)) k_ hn_))⟩)); have n3_ := Aside0.mk (hb); clear HO_6; clear HB; clear HO_5; have HO_6 := n0_; have HO513 := n1_; have HO516 := n2_; have HB := n3_; clear n0_ n1_ n2_ n3_; (try clear hb); (try clear hkp); (try clear ho0); (try clear ho1)))
     go_roundg k1
     case measure => have := HK1.out; omega
     case rel => exact ⟨(x6_1), (t514), H', ⟨by have := HK1.out; omega⟩, ⟨by (with_reducible repeat (first | apply Kd.R_alloc | apply Kd.R_drewN | apply Kd.R_drew)); exact Kd.R_mono HO_6.out (fun _ hk => hk.2)⟩, ⟨by (with_reducible repeat (first | apply Kd.R_alloc | apply Kd.R_drewN | apply Kd.R_drew)); exact Kd.R_mono HO516.out (fun _ hk => hk.2)⟩, ⟨by repeat (first | (with_reducible first | exact HB.out | apply below_alloc | apply pw_below_drewN | apply below_drew1) | exact HB.out)⟩⟩
   · rw [if_neg c7] at H
     have c7b0 : decide (0 < (x6_1.length : Int)) = false := decide_eq_false c7
     have c7b1 : decide (0 < x6_1.length) = false := decide_eq_false (by omega)
     clear c7
     replace H := Option.bind_eq_some_iff.mp H
     obtain ⟨t517, A120, H⟩ := H
     replace H : (some t517) = some r := H
     have A12 := Aside0.mk A120
     clear A120
     obtain rfl := Option.some.inj H
     obtain ⟨Ao13, co13, eo13⟩ := Kd.R_slice HO_6.out
     subst eo13
     obtain ⟨Ao14, co14, eo14⟩ := Kd.R_slice HO_5.out
     subst eo14
     go_wp2_with (first | ((with_reducible refine gate_callee (f := 44) rfl ?_); refine goesL_ (some 25) rfl rfl Tryd.func44 (by kernel_rfl) rfl #[.slice Ao14 x5_1.length co14] rfl (by (try simp only [List.map_toArray, List.map_cons, List.map_nil]); first | done | rfl | (simp only [List.length_drop, List.length_take]; rfl)) ?_; (with_reducible refine (natural_limbs_text.calls k1 _ _ x5_1 t517 _ ?side1 ?side2 A12.out).mono ?_); (case side1 => repeat (first | exact (Kd.R_reads' HO_5.out).2.2 | (with_reducible refine Kd.C_alloc ?_ _) | (with_reducible refine Kd.C_drewN ?_ _) | (with_reducible refine Kd.C_drew ?_))); (case side2 => exact (Kd.R_reads' HO_5.out).2.1); rintro e w15 ⟨rfl, hb⟩; refine ⟨_, rfl, ?_⟩; have n0_ := Aside0.mk (Kd.R_below (by (with_reducible repeat (first | apply Kd.R_alloc | apply Kd.R_drewN | apply Kd.R_drew)); exact HO_5.out) hb); have n1_ := Aside0.mk (Kd.R_below (by (with_reducible repeat (first | apply Kd.R_alloc | apply Kd.R_drewN | apply Kd.R_drew)); exact HO_6.out) hb); have n2_ := Aside0.mk (below_step (by repeat (first | (with_reducible first | exact HB.out | apply below_alloc | apply pw_below_drewN | apply below_drew1) | exact HB.out)) hb); clear HO_5; clear HO_6; clear HB; have HO_5 := n0_; have HO_6 := n1_; have HB := n2_; clear n0_ n1_ n2_; (try clear hb); (try clear hb2); (try clear hk); (try clear hi)))
     go_ret
     exact ⟨by first | rfl | (simp [errW_none, errW_some] <;> rfl) | (simp [*, errW_none, errW_some] <;> rfl), by repeat (first | (with_reducible first | exact HB.out | apply below_alloc | apply pw_below_drewN | apply below_drew1) | exact HB.out)⟩
end Go.Proofs.YtjaflmhdclmolaaDoor.F
end
section
namespace Go.Proofs.YtjaflmhdclmolaaDoor.Num
open Go.RowKit Go.Proofs.YtjaflmhdclmolaaDoorW.PrintWords Go.Proofs.YtjaflmhdclmolaaDoorW.PrintLast Go.Proofs.YtjaflmhdclmolaaDoorW.PrintMore Go.Proofs.YtjaflmhdclmolaaDoor.F
set_option linter.unusedVariables false
theorem shr64 {t : Int} {s : Nat} (hs : s < 32) : shr .u64 t (s : Int) = t / 2 ^ s := by
 unfold shr
 rw [Int.toNat_natCast, show min s IntKind.u64.bits = s from Nat.min_eq_left (by show s ≤ 64; omega)]
theorem unshift_digit {x y v : Int} {s : Nat} (hs : s < 32) (x0 : 0 ≤ x) (x1 : x < 4294967296) : (x + 4294967296 * (y + 4294967296 * v)) / 2 ^ s = (x + 4294967296 * y) / 2 ^ s % 4294967296 + 4294967296 * ((y + 4294967296 * v) / 2 ^ s) := by
 obtain ⟨p0, p1, p2, p3⟩ := pow32 hs
 have e1 : x + 4294967296 * (y + 4294967296 * v) = x + 4294967296 * y + 2 ^ s * (2 ^ (32 - s) * 4294967296 * v) := by
  rw [← Int.mul_assoc, ← Int.mul_assoc, p2, Int.mul_assoc]; omega
 have e2 : (x + 4294967296 * (y + 4294967296 * v)) / 2 ^ s = (x + 4294967296 * y) / 2 ^ s + 2 ^ (32 - s) * 4294967296 * v := by
  rw [e1, Int.add_mul_ediv_left _ _ (by omega)]
 have e3 : (x + 4294967296 * (y + 4294967296 * v)) / 2 ^ s % 4294967296 = (x + 4294967296 * y) / 2 ^ s % 4294967296 := by
  rw [e2, show (2 : Int) ^ (32 - s) * 4294967296 * v = 4294967296 * (2 ^ (32 - s) * v) by rw [Int.mul_comm (2 ^ (32 - s)), Int.mul_assoc], Int.add_mul_emod_self_left]
 have e4 : (x + 4294967296 * (y + 4294967296 * v)) / 2 ^ s / 4294967296 = (y + 4294967296 * v) / 2 ^ s := by
  rw [Int.ediv_ediv_of_nonneg (by omega), Int.mul_comm (2 ^ s), ← Int.ediv_ediv_of_nonneg (by decide), Int.add_mul_ediv_left _ _ (by decide), Int.ediv_eq_zero_of_lt x0 x1, Int.zero_add]
 have hq := divmod_eq ((x + 4294967296 * (y + 4294967296 * v)) / 2 ^ s) 4294967296
 rw [e3, e4] at hq
 omega
theorem unshift_bits {x y : Int} (x0 : 0 ≤ x) (x1 : x < 4294967296) (y0 : 0 ≤ y) (y1 : y < 4294967296) : Go.bits .or .u64 (IntKind.u64.wrap x) (IntKind.u64.wrap (IntKind.u64.wrap y * 4294967296)) = x + 4294967296 * y := by
 rw [wu (n := x) (by omega) (by omega), wu (n := y) (by omega) (by omega), wu (by omega) (by omega), bitor_comm, orHi y0 y1 x0 x1]
 omega
theorem unshift_loop (x : List Int) (hx : Dig x) (hl : x.length ≤ 400001) (s : Nat) (hs : s < 32) (xs : List Int) : ∀ (o : List Int), x.drop o.length = xs → o.length ≤ x.length → Dig o →
 Ev (fun k => natural_unshift.l0 k x (s : Int) (o ++ List.replicate xs.length 0) (x.length : Int) (o.length : Int)) (L (val o + 4294967296 ^ o.length * (val xs / 2 ^ s))) := by
 obtain ⟨p0, p1, p2, p3⟩ := pow32 hs
 induction xs with
 | nil =>
  intro o h1 h2 ho
  have e1 := drop_nil h1
  refine Ev.step (f := fun k => (natural_limbs_trim.f k o).bind fun t => some t) (fun k => ?_) ?_
  · simp only [natural_unshift.l0]
    rw [if_neg (by omega), List.length_nil, List.replicate_zero, List.append_nil]
  · refine Ev.bind (trim_ev o (by omega)) ?_
    rw [tr_L ho]
    simp only [val, Int.zero_ediv, Int.mul_zero, Int.add_zero]
    exact Ev.now _
 | cons a xs ih =>
  intro o h1 h2 ho
  obtain ⟨i1, r1, d1, m1⟩ := drop_cons h1
  have ba := hx a m1
  have hset : ∀ d, (o ++ List.replicate (a :: xs).length 0).set o.length d = (o ++ [d]) ++ List.replicate xs.length 0 := fun d => by
   rw [List.length_cons, List.replicate_succ]
   exact set_snoc o d 0 _
  have hlen : (o ++ List.replicate (a :: xs).length (0 : Int)).length = o.length + xs.length + 1 := by rw [List.length_append, List.length_replicate, List.length_cons]; omega
  have key : ∀ q, 0 ≤ q → q < 4294967296 → val (a :: xs) / 2 ^ s = q + 4294967296 * (val xs / 2 ^ s) → Ev (fun k => natural_unshift.l0 k x (s : Int) (o ++ [q] ++ List.replicate xs.length 0) (x.length : Int) ((o.length + 1 : Nat) : Int)) (L (val o + 4294967296 ^ o.length * (val (a :: xs) / 2 ^ s))) := fun q q0 q1 e => by
   have ih := ih (o ++ [q]) (by rw [snoc_len]; exact d1) (by rw [snoc_len]; omega) (snoc_dig ho q0 q1)
   rw [vsnoc, ← e, snoc_len] at ih
   exact ih
  cases xs with
  | nil =>
   have e1 := drop_nil d1
   have hb : 0 ≤ a / 2 ^ s ∧ a / 2 ^ s < 4294967296 := ⟨Int.ediv_nonneg ba.1 (by omega), Int.lt_of_le_of_lt (Int.ediv_le_self _ ba.1) ba.2⟩
   refine Ev.step (fun k => ?_) (key (a / 2 ^ s) hb.1 hb.2 (by simp [val]))
   simp only [natural_unshift.l0]
   rw [hlen, winc (by omega), if_pos (by omega), if_pos (by omega), if_pos (by omega), if_neg (by omega), if_pos (by omega), if_pos (by omega), r1, Int.toNat_natCast, hset, wu (n := a) (by omega) (by omega), shr64 hs, Int.emod_eq_of_lt hb.1 hb.2]
  | cons y ys =>
   obtain ⟨i2, r2, d2, m2⟩ := drop_cons d1
   have by' := hx y m2
   have hub := unshift_bits ba.1 ba.2 by'.1 by'.2
   refine Ev.step (fun k => ?_) (key ((a + 4294967296 * y) / 2 ^ s % 4294967296) (Int.emod_nonneg _ (by decide)) (Int.emod_lt_of_pos _ (by decide)) (by simp only [val]; exact unshift_digit hs ba.1 ba.2))
   simp only [natural_unshift.l0]
   rw [hlen, winc (by omega), if_pos (by omega), if_pos (by omega), if_pos (by omega), if_pos (by omega), if_pos (by omega), if_pos (by omega), if_pos (by omega), r1, r2, hub, Int.toNat_natCast, hset, shr64 hs]
theorem unshift_ev (x : List Int) (hx : Dig x) (hl : x.length ≤ 400001) (s : Nat) (hs : s < 32) : Ev (fun k => natural_unshift.f k x (s : Int)) (L (val x / 2 ^ s)) := by
 have g := unshift_loop x hx hl s hs x [] rfl (Nat.zero_le _) Dig.nil
 rw [show val [] + 4294967296 ^ ([] : List Int).length * (val x / 2 ^ s) = val x / 2 ^ s by simp [val]] at g
 refine Ev.congr (fun k => ?_) g
 simp only [natural_unshift.f]
 rw [Int.toNat_natCast, if_pos (by omega), if_pos (by omega)]
 rfl
theorem val_take_drop (l : List Int) (i : Nat) (h : i ≤ l.length) : val l = val (l.take i) + 4294967296 ^ i * val (l.drop i) := by
 conv => lhs; rw [← List.take_append_drop i l]
 rw [val_app, List.length_take, Nat.min_eq_left h]
theorem divide_loop {d : List Int} {m : Nat} (hd : Dig d) (hdl : d.length = m + 2) (hm : m ≤ 200000) (hv : 2147483648 ≤ rd d ((m + 1 : Nat) : Int)) (A : Int) (s : Nat) (hs : s < 32) (i : Nat) : ∀ (u qd : List Int), Dig u → Dig qd → i + qd.length + (m + 2) = u.length → u.length ≤ 400001 → val (u.drop i) < val d → A = (val qd * 4294967296 ^ i) * val d + val u →
 Ev (fun k => natural_divide.l0 k ((m + 2 : Nat) : Int) (s : Int) d u (List.replicate i 0 ++ qd) ((i : Int) - 1)) (L (A / val d), L ((A % val d) / 2 ^ s)) := by
 have hDlt := val_lt hd
 induction i with
 | zero =>
  intro u qd hu hq hlen hul hlt hA
  rw [List.drop_zero] at hlt
  rw [Int.pow_zero, Int.mul_one] at hA
  obtain ⟨e1, e2⟩ := divmod hA (val_nonneg hu) hlt
  have ht := val_take_drop u (m + 2) (by omega)
  have hz : val (u.drop (m + 2)) = 0 := by
   have h0 := val_nonneg (hu.drop (m + 2))
   rcases Int.lt_or_le 0 (val (u.drop (m + 2))) with h1 | h1
   · have h2 := Int.mul_le_mul_of_nonneg_left (show 1 ≤ val (u.drop (m + 2)) by omega) (Int.le_of_lt (pw (m + 2)))
     have h3 := val_nonneg (hu.take (m + 2))
     rw [hdl] at hDlt
     omega
   · omega
  rw [hz, Int.mul_zero, Int.add_zero] at ht
  refine Ev.step (f := fun k => (natural_limbs_trim.f k qd).bind fun t => (natural_unshiftAt.f k ((m + 2 : Nat) : Int) u (s : Int)).bind fun t2 => some (t, t2)) (fun k => ?_) ?_
  · simp only [natural_divide.l0]
    rw [if_neg (by omega), List.replicate_zero, List.nil_append]
  · refine Ev.bind (trim_ev qd (by omega)) ?_
    have g := unshift_ev (u.take (m + 2)) (hu.take _) (by rw [List.length_take]; omega) s hs
    rw [← ht] at g
    have g2 : Ev (fun k => natural_unshiftAt.f k ((m + 2 : Nat) : Int) u (s : Int)) (L (val u / 2 ^ s)) := by
     refine Ev.congr (fun k => ?_) g
     simp only [natural_unshiftAt.f]
     rw [if_pos ⟨by omega, by omega⟩, Int.toNat_natCast]
    refine Ev.bind g2 ?_
    rw [tr_L hq, e1, e2]
    exact Ev.now _
 | succ i ih =>
  intro u qd hu hq hlen hul hlt hA
  have hx := drop_rd (l := u) (i := i) (by omega)
  have hxb := hu.at (i : Int)
  have hdd := val_take_drop (u.drop i) (m + 3) (by rw [List.length_drop]; omega)
  have hwd : Dig ((u.drop i).take (m + 3)) := (hu.drop i).take _
  have hwl : ((u.drop i).take (m + 3)).length = m + 3 := by rw [List.length_take, List.length_drop]; omega
  have hhid : Dig ((u.drop i).drop (m + 3)) := (hu.drop i).drop _
  have hD0 : 0 ≤ val d := val_nonneg hd
  have hvi : val (u.drop i) = rd u (i : Int) + 4294967296 * val (u.drop (i + 1)) := by rw [hx, val]
  have hvlt : val (u.drop i) < 4294967296 * val d := by omega
  have hhi : val ((u.drop i).drop (m + 3)) = 0 := by
   have h0 := val_nonneg hhid
   rcases Int.lt_or_le 0 (val ((u.drop i).drop (m + 3))) with h1 | h1
   · have h2 := Int.mul_le_mul_of_nonneg_left (show 1 ≤ val ((u.drop i).drop (m + 3)) by omega) (Int.le_of_lt (pw (m + 3)))
     have h3 := val_nonneg hwd
     rw [hdl] at hDlt
     have h4 : (4294967296 : Int) ^ (m + 3) = 4294967296 ^ (m + 2) * 4294967296 := Int.pow_succ ..
     omega
   · omega
  rw [hhi, Int.mul_zero, Int.add_zero] at hdd
  obtain ⟨w, w1, w2, w3, w4⟩ := step_ev hwd hd hwl hdl (by omega) hv (by omega)
  have hsp : u.take i ++ w ++ (u.drop i).drop (m + 3) = u.take i ++ (w ++ (u.drop i).drop (m + 3)) := List.append_assoc ..
  have htl : (u.take i).length = i := by rw [List.length_take]; omega
  have hu2d : Dig (u.take i ++ w ++ (u.drop i).drop (m + 3)) := ((hu.take i).app w1).app hhid
  have hu2l : (u.take i ++ w ++ (u.drop i).drop (m + 3)).length = u.length := by
   rw [List.length_append, List.length_append, htl, w2, hwl, List.length_drop, List.length_drop]; omega
  have hu2v : val (u.take i ++ w ++ (u.drop i).drop (m + 3)) = val (u.take i) + 4294967296 ^ i * (val ((u.drop i).take (m + 3)) % val d) := by
   rw [hsp, val_app, htl, val_app, hhi, Int.mul_zero, Int.add_zero, w3]
  have hu2t : val ((u.take i ++ w ++ (u.drop i).drop (m + 3)).drop i) = val ((u.drop i).take (m + 3)) % val d := by
   rw [hsp, List.drop_append, htl, Nat.sub_self, List.drop_zero, List.drop_of_length_le (by omega), List.nil_append, val_app, hhi, Int.mul_zero, Int.add_zero, w3]
  have hkn := kn_of hwd hd hwl hdl hv (by omega)
  have hq0 := hkn.q0
  have hq1 := hkn.qlt
  have hDp : 0 < val d := by have := hkn.dpos; have := hkn.hB; omega
  have hr1 := Int.emod_lt_of_pos (val ((u.drop i).take (m + 3))) hDp
  have hqr := divmod_eq (val ((u.drop i).take (m + 3))) (val d)
  have hut := val_take_drop u i (by omega)
  rw [hdd] at hut
  generalize val ((u.drop i).take (m + 3)) / val d = q at *
  generalize val ((u.drop i).take (m + 3)) % val d = r at *
  have ih := ih (u.take i ++ w ++ (u.drop i).drop (m + 3)) (q :: qd) hu2d (Dig.cons hq0 hq1 hq) (by rw [hu2l, List.length_cons]; omega) (by omega) (by rw [hu2t]; exact hr1) (by
   rw [hu2v, hA, hut, hqr, val, Int.pow_succ]
   simp only [Int.mul_add, Int.mul_assoc, Int.mul_comm, Int.mul_left_comm]
   omega)
  have hstep : Ev (fun k => natural_stepAt.f k ((m + 2 : Nat) : Int) u (i : Int) d) (q, u.take i ++ w ++ (u.drop i).drop (m + 3)) := by
   unfold natural_stepAt.f
   refine Ev.ite ⟨by omega, by omega, by omega⟩ ?_
   rw [Int.toNat_natCast, Int.toNat_natCast]
   refine Ev.bind w4 ?_
   rw [List.drop_drop]
   exact Ev.now _
  refine Ev.step (f := fun k => (natural_stepAt.f k ((m + 2 : Nat) : Int) u (i : Int) d).bind fun bt => natural_divide.l0 k ((m + 2 : Nat) : Int) (s : Int) d bt.2 (List.replicate i 0 ++ bt.1 :: qd) ((i : Int) - 1)) (fun k => ?_) (Ev.bind hstep ih)
  simp only [natural_divide.l0]
  have hrl : (List.replicate (i + 1) (0 : Int) ++ qd).length = i + 1 + qd.length := by rw [List.length_append, List.length_replicate]
  rw [show ((i + 1 : Nat) : Int) - 1 = (i : Int) by omega, if_pos (by omega), hrl, Int.toNat_natCast, w64 (by omega) (by omega)]
  congr 1
  funext bt
  rw [if_pos (by omega), if_pos (by omega), set_rep]
end Go.Proofs.YtjaflmhdclmolaaDoor.Num
end
section
namespace Go.Proofs.YtjaflmhdclmolaaDoor.Num
open Go.RowKit Go.Proofs.YtjaflmhdclmolaaDoorW.PrintWords Go.Proofs.YtjaflmhdclmolaaDoorW.PrintLast Go.Proofs.YtjaflmhdclmolaaDoorW.PrintMore Go.Proofs.YtjaflmhdclmolaaDoor.F
set_option linter.unusedVariables false
theorem val_top1 {l : List Int} {m : Nat} (h : l.length = m + 1) : val l = val (l.take m) + 4294967296 ^ m * rd l (m : Int) := by
 have h1 := val_take_drop l m (by omega)
 rw [drop_rd (show m < l.length by omega), List.drop_of_length_le (show l.length ≤ m + 1 by omega)] at h1
 simp only [val, Int.mul_zero, Int.add_zero] at h1
 exact h1
theorem nz_top {l : List Int} : ∀ {m : Nat}, Nz l → l.length = m + 1 → rd l (m : Int) ≠ 0 := by
 induction l with
 | nil => intro m _ h; simp at h
 | cons x r ih =>
  intro m hz h
  cases r with
  | nil =>
   have : m = 0 := by simpa using h.symm
   rw [this]
   exact hz
  | cons y r =>
   obtain ⟨j, rfl⟩ : ∃ j, m = j + 1 := ⟨m - 1, by simp at h; omega⟩
   rw [rd_cons_succ]
   exact ih hz.tail (by simpa using h)
theorem lead {v : Int} (h0 : 0 < v) (h1 : v < 4294967296) : ∃ s : Nat, s < 32 ∧ bits_LeadingZeros32.f v = some (s : Int) ∧ 2147483648 ≤ v * 2 ^ s ∧ (v + 1) * 2 ^ s ≤ 4294967296 := by
 obtain ⟨n, rfl⟩ := Int.eq_ofNat_of_zero_le (Int.le_of_lt h0)
 obtain ⟨hb1, b2, b1⟩ := Lib.bitLenAux_bounds 64 n (by omega) (by omega)
 have hbl : Lib.bitLenAux 64 n = Lib.bitLen n := rfl
 rw [hbl] at hb1 b1 b2
 have hb2 : Lib.bitLen n ≤ 32 := by
  rcases Nat.lt_or_ge 32 (Lib.bitLen n) with q | q
  · have := Nat.pow_le_pow_right (show 0 < 2 by decide) (show 32 ≤ Lib.bitLen n - 1 by omega)
    omega
  · exact q
 have heq : bits_LeadingZeros32.f (n : Int) = some (((32 - Lib.bitLen n : Nat) : Nat) : Int) := by
  unfold bits_LeadingZeros32.f
  rw [if_pos ⟨by omega, by omega⟩, Int.toNat_natCast]
  congr 1
  omega
 refine ⟨32 - Lib.bitLen n, by omega, heq, ?_, ?_⟩
 · have e : 2 ^ (Lib.bitLen n - 1) * 2 ^ (32 - Lib.bitLen n) = 2147483648 := by rw [← Nat.pow_add, show Lib.bitLen n - 1 + (32 - Lib.bitLen n) = 31 by omega]
   have h2 := Nat.mul_le_mul_right (2 ^ (32 - Lib.bitLen n)) b2
   rw [e] at h2
   have h3 : ((n * 2 ^ (32 - Lib.bitLen n) : Nat) : Int) = (n : Int) * 2 ^ (32 - Lib.bitLen n) := by rw [Int.natCast_mul, Int.natCast_pow]; rfl
   omega
 · have e : 2 ^ Lib.bitLen n * 2 ^ (32 - Lib.bitLen n) = 4294967296 := by rw [← Nat.pow_add, show Lib.bitLen n + (32 - Lib.bitLen n) = 32 by omega]
   have h2 := Nat.mul_le_mul_right (2 ^ (32 - Lib.bitLen n)) (show n + 1 ≤ 2 ^ Lib.bitLen n from b1)
   rw [e] at h2
   have h3 : (((n + 1) * 2 ^ (32 - Lib.bitLen n) : Nat) : Int) = ((n : Int) + 1) * 2 ^ (32 - Lib.bitLen n) := by rw [Int.natCast_mul, Int.natCast_pow]; rfl
   omega
theorem scaled {a b : Int} {s : Nat} (hb : 0 < b) : a * 2 ^ s / (b * 2 ^ s) = a / b ∧ a * 2 ^ s % (b * 2 ^ s) / 2 ^ s = a % b := by
 have p0 : (0 : Int) < 2 ^ s := Int.pow_pos (by decide)
 have h1 := divmod_eq a b
 have h2 := Int.emod_nonneg a (show b ≠ 0 by omega)
 have h3 := Int.emod_lt_of_pos a hb
 have h4 : a * 2 ^ s = (a / b) * (b * 2 ^ s) + (a % b) * 2 ^ s := by
  conv => lhs; rw [h1]
  rw [Int.add_mul, Int.mul_assoc]
 obtain ⟨e1, e2⟩ := divmod h4 (Int.mul_nonneg h2 (Int.le_of_lt p0)) (Int.mul_lt_mul_of_pos_right h3 p0)
 rw [e1, e2]
 exact ⟨rfl, Int.mul_ediv_cancel _ (by omega)⟩
theorem one_L {r : Int} (h0 : 0 ≤ r) (h1 : r < 4294967296) : tr [r] = L r := by
 have hd : Dig [r] := Dig.cons h0 h1 Dig.nil
 rw [tr_L hd]
 simp [val]
theorem norm_facts {b : Int} {m : Nat} (hb : 0 < b) (hl : (L b).length = m + 2) : 0 < rd (L b) ((m + 1 : Nat) : Int) ∧ rd (L b) ((m + 1 : Nat) : Int) < 4294967296 ∧
 ∀ s : Nat, 2147483648 ≤ rd (L b) ((m + 1 : Nat) : Int) * 2 ^ s → (rd (L b) ((m + 1 : Nat) : Int) + 1) * 2 ^ s ≤ 4294967296 → b * 2 ^ s < 4294967296 ^ (m + 2) ∧ 2147483648 * 4294967296 ^ (m + 1) ≤ b * 2 ^ s := by
 have hi := L_is (Int.le_of_lt hb)
 have hv := hi.1.at ((m + 1 : Nat) : Int)
 have hn := nz_top hi.2.1 hl
 refine ⟨by omega, hv.2, fun s h1 h2 => ?_⟩
 have ht := val_top1 (l := L b) (m := m + 1) hl
 rw [hi.2.2] at ht
 have lo := val_nonneg (hi.1.take (m + 1))
 have hi' := val_lt (hi.1.take (m + 1))
 rw [List.length_take, Nat.min_eq_left (by omega)] at hi'
 have p0 : (0 : Int) < 2 ^ s := Int.pow_pos (by decide)
 have hP := pw (m + 1)
 have e2 : (4294967296 : Int) ^ (m + 2) = 4294967296 ^ (m + 1) * 4294967296 := Int.pow_succ ..
 generalize rd (L b) ((m + 1 : Nat) : Int) = v at *
 generalize (4294967296 : Int) ^ (m + 1) = P at *
 have h3 := Int.mul_le_mul_of_nonneg_left h1 (Int.le_of_lt hP)
 have h4 := Int.mul_le_mul_of_nonneg_left h2 (Int.le_of_lt hP)
 have h5 : P * v * 2 ^ s ≤ b * 2 ^ s := Int.mul_le_mul_of_nonneg_right (by omega) (Int.le_of_lt p0)
 have h6 : b * 2 ^ s < (P * v + P) * 2 ^ s := Int.mul_lt_mul_of_pos_right (by omega) p0
 rw [Int.mul_assoc] at h5
 rw [Int.add_mul, Int.mul_assoc] at h6
 rw [Int.add_mul, Int.one_mul, Int.mul_add] at h4
 rw [e2]
 constructor <;> omega
theorem top_bit {d : List Int} {m : Nat} (hd : Dig d) (hl : d.length = m + 2) (h : 2147483648 * 4294967296 ^ (m + 1) ≤ val d) : 2147483648 ≤ rd d ((m + 1 : Nat) : Int) := by
 have ht := val_top1 (l := d) (m := m + 1) hl
 have hi' := val_lt (hd.take (m + 1))
 rw [List.length_take, Nat.min_eq_left (by omega)] at hi'
 have hP := pw (m + 1)
 have h2 : 2147483648 * 4294967296 ^ (m + 1) < (rd d ((m + 1 : Nat) : Int) + 1) * 4294967296 ^ (m + 1) := by
  rw [Int.add_mul, Int.one_mul, Int.mul_comm (rd d ((m + 1 : Nat) : Int))]
  omega
 have := Int.lt_of_mul_lt_mul_right h2 (Int.le_of_lt hP)
 omega
theorem first_small {u : List Int} {m c : Nat} {b a : Int} {s : Nat} (hu : Dig u) (hs : s < 32) (hlen : c + (m + 2) = u.length) (hv : val u = a * 2 ^ s) (ha : a < 4294967296 ^ (c + m + 1)) (hb : 2147483648 * 4294967296 ^ (m + 1) ≤ b) : val (u.drop c) < b := by
 obtain ⟨p0, p1, p2, p3⟩ := pow32 hs
 have h1 := val_take_drop u c (by omega)
 have h2 := val_nonneg (hu.take c)
 have h3 := val_nonneg (hu.drop c)
 have e1 : (4294967296 : Int) ^ (c + m + 1) = 4294967296 ^ c * 4294967296 ^ (m + 1) := by rw [← Int.pow_add]; rfl
 have hP := pw c
 have hQ := pw (m + 1)
 have h4 : a * 2 ^ s < 4294967296 ^ c * 4294967296 ^ (m + 1) * 2 ^ s := by rw [← e1]; exact Int.mul_lt_mul_of_pos_right ha p0
 have h5 : (4294967296 : Int) ^ c * val (u.drop c) < 4294967296 ^ c * (4294967296 ^ (m + 1) * 2 ^ s) := by
  rw [← Int.mul_assoc]; omega
 have h6 := Int.lt_of_mul_lt_mul_left h5 (Int.le_of_lt hP)
 have h7 := Int.mul_le_mul_of_nonneg_left p1 (Int.le_of_lt hQ)
 omega
theorem ndivide_ev {a b : Int} (ha : 0 ≤ a) (hb : 0 < b) (hla : (L a).length ≤ 200000) (hlb : (L b).length ≤ 200000) : Ev (fun k => natural_divide.f k (L a) (L b)) (L (a / b), L (a % b)) := by
 unfold natural_divide.f
 refine Ev.bind (compare_ev ha (Int.le_of_lt hb) (by omega) (by omega)) ?_
 by_cases hlt : a < b
 · refine Ev.ite (sgn_lt.2 hlt) ?_
   rw [Int.ediv_eq_zero_of_lt ha hlt, Int.emod_eq_of_lt ha hlt, L_zero]
   exact Ev.now _
 · refine Ev.ite_not (fun q => hlt (sgn_lt.1 q)) ?_
   have hbl : (L b).length ≠ 0 := fun e => L_ne hb (List.eq_nil_of_length_eq_zero e)
   have hab := L_mono (Int.le_of_lt hb) (show b ≤ a by omega)
   by_cases h1 : (L b).length = 1
   · refine Ev.ite (by omega) (Ev.ite (by omega) ?_)
     obtain ⟨d, hd⟩ : ∃ d, L b = [d] := by
      cases hL : L b with
      | nil => rw [hL] at h1; simp at h1
      | cons x r =>
       rw [hL] at h1
       exact ⟨x, by rw [List.eq_nil_of_length_eq_zero (show r.length = 0 by simpa using h1)]⟩
     have hdb : d = b := by have := L_val (Int.le_of_lt hb); rw [hd] at this; simpa [val] using this
     have hdd := (L_dig (Int.le_of_lt hb)) d (by rw [hd]; exact List.mem_cons_self)
     have hr : rd (L b) 0 = b := by rw [hd, ← hdb]; rfl
     rw [hr]
     have g := divideSmall_ev (L a) (L_dig ha) (by omega) b hb (by omega)
     rw [L_val ha] at g
     refine Ev.bind g ?_
     have r0 := Int.emod_nonneg a (show b ≠ 0 by omega)
     have r1 := Int.emod_lt_of_pos a hb
     refine Ev.bind (trim_ev _ (by simp)) ?_
     rw [one_L r0 (by omega)]
     exact Ev.now _
   · obtain ⟨m, hm⟩ : ∃ m, (L b).length = m + 2 := ⟨(L b).length - 2, by omega⟩
     refine Ev.ite_not (by omega) ?_
     obtain ⟨v0, v1, hnf⟩ := norm_facts hb hm
     obtain ⟨s, hs, hlead, hs1, hs2⟩ := lead v0 v1
     obtain ⟨n1, n2⟩ := hnf s hs1 hs2
     have w1 : wrap64 (((L b).length : Int) - 1) = ((m + 1 : Nat) : Int) := by rw [w64 (by omega) (by omega)]; omega
     rw [w1]
     refine Ev.ite (by omega) (Ev.ite (by omega) ?_)
     rw [hlead]
     simp only [Option.bind_some]
     rw [wu (n := (s : Int)) (by omega) (by omega)]
     obtain ⟨d, d1, d2, d3, d4⟩ := shift_ev (L b) (L_dig (Int.le_of_lt hb)) (by omega) s hs (L b).length (.inl rfl) (fun _ => by rw [L_val (Int.le_of_lt hb), hm]; exact n1)
     obtain ⟨u, u1, u2, u3, u4⟩ := shift_ev (L a) (L_dig ha) (by omega) s hs ((L a).length + 1) (.inr rfl) (fun e => by omega)
     rw [L_val (Int.le_of_lt hb)] at d3
     rw [L_val ha] at u3
     refine Ev.bind d4 ?_
     rw [winc (by omega)]
     refine Ev.bind u4 ?_
     have hc : wrap64 (wrap64 (((L a).length : Int) - ((L b).length : Int)) + 1) = (((L a).length - (L b).length + 1 : Nat) : Int) := by
      rw [w64 (n := ((L a).length : Int) - ((L b).length : Int)) (by omega) (by omega), w64 (by omega) (by omega)]; omega
     rw [hc, Int.toNat_natCast]
     refine Ev.ite (by omega) (Ev.ite (by omega) ?_)
     have hdl : d.length = m + 2 := by omega
     have hv := top_bit d1 hdl (by rw [d3]; exact n2)
     have ha2 := L_lt ha
     have hfs := first_small (c := (L a).length - (L b).length + 1) (m := m) (b := val d) u1 hs (by omega) u3 (by rw [show (L a).length - (L b).length + 1 + m + 1 = (L a).length by omega]; exact ha2) (by rw [d3]; exact n2)
     have g := divide_loop d1 hdl (by omega) hv (a * 2 ^ s) s hs ((L a).length - (L b).length + 1) u [] u1 Dig.nil (by rw [List.length_nil]; omega) (by omega) hfs (by rw [u3]; simp [val])
     obtain ⟨e1, e2⟩ := scaled (a := a) (s := s) hb
     rw [d3, e1, e2, List.append_nil] at g
     refine Ev.congr (fun k => ?_) g
     rw [List.length_replicate, hm, w64 (by omega) (by omega)]
def divOf (a b : ByteArray) : ByteArray × ByteArray × Bool := if B b = 0 then (⟨#[]⟩, ⟨#[]⟩, false) else (S (B a / B b), S (B a % B b), true)
theorem div_len {a b : Int} (ha : 0 ≤ a) (hb : 0 < b) : 0 ≤ a / b ∧ (L (a / b)).length ≤ (L a).length ∧ 0 ≤ a % b ∧ (L (a % b)).length ≤ (L a).length ∧ a % b < b := by
 have h1 := Int.ediv_nonneg ha (Int.le_of_lt hb)
 have h2 := Int.emod_nonneg a (show b ≠ 0 by omega)
 have h3 := Int.ediv_le_self b ha
 have h4 := Int.emod_lt_of_pos a hb
 have h5 : a % b ≤ a := by
  have h6 := divmod_eq a b
  have := Int.mul_nonneg h1 (Int.le_of_lt hb)
  omega
 exact ⟨h1, L_mono h1 h3, h2, L_mono h2 h5, h4⟩
theorem Divide_ev (a b : ByteArray) (ha : a.size ≤ 800000) (hb : b.size ≤ 800000) : Ev (fun k => natural_Divide.f k a b) (divOf a b) := by
 have h1 := B_nonneg a
 have h2 := B_nonneg b
 have l1 := B_small (s := a) (m := 200000) (by omega)
 have l2 := B_small (s := b) (m := 200000) (by omega)
 refine Ev.bind (parse_ev b (by omega)) ?_
 unfold divOf
 by_cases h : B b = 0
 · rw [if_pos h, h, L_zero]
   exact Ev.ite rfl (Ev.now _)
 · rw [if_neg h]
   have hb0 : 0 < B b := by omega
   refine Ev.ite_not (fun e => L_ne hb0 (List.eq_nil_of_length_eq_zero (by omega))) ?_
   refine Ev.bind (parse_ev a (by omega)) ?_
   refine Ev.bind (ndivide_ev h1 hb0 l1 l2) ?_
   obtain ⟨q1, q2, q3, q4, q5⟩ := div_len h1 hb0
   refine Ev.bind (text_L q1 (by omega)) ?_
   refine Ev.bind (text_L q3 (by omega)) ?_
   exact Ev.now _
end Go.Proofs.YtjaflmhdclmolaaDoor.Num
end
section
namespace Go.Proofs.YtjaflmhdclmolaaDoor.Num
theorem S_nil {n : Int} (h0 : 0 ≤ n) : (S n).toList = ([] : List UInt8) ↔ n = 0 := by
 rw [S_toList]
 constructor
 · intro h
   rcases Int.lt_or_le 0 n with q | q
   · rw [digs_pos (by omega)] at h; simp at h
   · omega
 · intro h
   rw [h, show (0 : Int).toNat = 0 from rfl, digs_zero]
end Go.Proofs.YtjaflmhdclmolaaDoor.Num
namespace Go.Proofs.YtjaflmhdclmolaaDoor.Pure
open Go.RowKit Go.Proofs.YtjaflmhdclmolaaDoor.F Go.Proofs.YtjaflmhdclmolaaDoorW.PrintWords Go.Proofs.YtjaflmhdclmolaaDoorW.PrintLast
open Go.Proofs.YtjaflmhdclmolaaDoor.Num
theorem NaturalDivision : insolvencylaw1_NaturalDivision.Pure := by
 intro a b h0 h1
 refine some_of (with_few (by simp) fun hf => ?_)
 have s0 := hf a (by simp)
 have s1 := hf b (by simp)
 have n0 := B_nonneg a
 have n1 := B_nonneg b
 refine Ev.bind (Divide_ev a b (by omega) (by omega)) ?_
 rw [normalize_eq]
 simp only [Option.bind_some]
 unfold divOf
 by_cases hb : B b = 0
 · refine Ev.ite ((S_nil n1).2 hb) ?_
   rw [if_pos hb]
   refine Ev.bind awake_ev ?_
   refine Ev.ite rfl ?_
   refine Ev.ite_not (by decide) ?_
   have hz : (⟨#[]⟩ : ByteArray).toList = ([] : List UInt8) := by rw [Lib.toList_data]
   refine Ev.ite hz ?_
   rw [hz, BEq.rfl]
   exact Ev.now _
 · refine Ev.ite_not (fun e => hb ((S_nil n1).1 e)) ?_
   rw [if_neg hb]
   have hb0 : 0 < B b := by omega
   obtain ⟨q1, q2, q3, q4, q5⟩ := div_len n0 hb0
   have z0 := sz_B s0
   have z1 := sz_B s1
   have zq := sz_le n0 (Int.ediv_le_self (B b) n0) z0
   have zr := sz_le n1 (Int.le_of_lt q5) z1
   have hm := Int.mul_nonneg q1 n1
   have hqr := divmod_eq (B a) (B b)
   have zm := sz_le n0 (show B a / B b * B b ≤ B a by omega) z0
   refine Ev.bind awake_ev ?_
   refine Ev.ite rfl ?_
   refine Ev.ite rfl ?_
   dsimp only
   rw [Compare_eq _ b (by omega) (by omega)]
   simp only [Option.bind_some]
   refine Ev.ite (sgn_lt.2 (by rw [B_S q3]; exact q5)) ?_
   refine Ev.bind (Multiply_ev _ b (by omega) (by omega)) ?_
   rw [B_S q1]
   refine Ev.bind (Add_ev _ _ (by omega) (by omega)) ?_
   rw [B_S q3, B_S hm, ← hqr, normalize_eq]
   simp only [Option.bind_some]
   rw [BEq.rfl]
   exact Ev.now _
end Go.Proofs.YtjaflmhdclmolaaDoor.Pure
end
