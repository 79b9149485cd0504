/- Part 8 of the proof of CodecRound: the functions' walks and what they compute, in the order of the calls; each holds for all arguments that its row allows. -/
import Derived.Test.YtcipcpodgkeobaaDoorMCodecRound7
section
namespace Go.Proofs.YtcipcpodgkeobaaDoor.F
open Go.RowKit Go.Proofs.YtcipcpodgkeobaaDoorW.PrintWords Go.Proofs.YtcipcpodgkeobaaDoorW.PrintLast Go.Proofs.YtcipcpodgkeobaaDoorW.PrintMore
set_option linter.unusedVariables false
section
variable {P:Program} {ops:Array Oper} {Q:Exit→Act→World→Prop} {md:Region.Mode} {S:World→Prop} {ds:List Nat}
theorem pp (i n:Nat) {oi:Oper} {v:Value} {fuel:Nat} {l:Array Bool} {a:Act} {w:World} (hi:ops[i]?=some oi) (hN:oi.dst=some n)
 {a':Act} (h:wpAnyLast P md ops Q S ds fuel (l.setIfInBounds i true) a' w)
 (hc:anyB md ops l (l.setIfInBounds i true) i=true:=by exact any_of HT_.out (by kernel_rfl))
 (hQ:∀ c a w,Q (.panic c) (a.put oi.dst v) w→Q (.panic c) a w:=by exact fun _ _ _ h=>h)
 (hy:Yields P ops oi v a:=by exact Or.inl ⟨by rfl,by intro w';go_simp;with_reducible rfl⟩)
 (ha:a.put (some n) v=a':=by simp only [Act.put,List.setIfInBounds_toArray,List.set_cons_zero,List.set_cons_succ,i64_w,i32_w];rfl) :
 wpAnyLast P md ops Q S ds (fuel+1) l a w:=pure_ _ hi hN hc hQ hy ha h
theorem pu (i n:Nat) {oi:Oper} {fuel:Nat} {l:Array Bool} {a:Act} {w:World} (hi:ops[i]?=some oi) (hN:oi.dst=some n)
 {a':Act} (h:wpAnyLast P md ops Q S ds fuel (l.setIfInBounds i true) a' w)
 (hc:anyB md ops l (l.setIfInBounds i true) i=true:=by exact any_of HT_.out (by kernel_rfl))
 (hQ:∀ c a w,Q (.panic c) (a.put oi.dst undef) w→Q (.panic c) a w:=by exact fun _ _ _ h=>h)
 (hy:Yields P ops oi undef a:=by exact Or.inr ⟨by rfl,rfl⟩)
 (ha:a.put (some n) undef=a':=by simp only [Act.put,List.setIfInBounds_toArray,List.set_cons_zero,List.set_cons_succ,i64_w,i32_w];rfl) :
 wpAnyLast P md ops Q S ds (fuel+1) l a w:=pure_ _ hi hN hc hQ hy ha h
theorem am {p:Prop} (h:p):za1 p:=⟨h⟩
theorem bc {w:World} {g:Nat} {t:TypeId} {cs:Array Value} (h:za1 (w.heap[g]?=some (.cells cs t (0,0)))) (i:Nat) {v:Value} (e:cs[i]?=some v:=by rfl):w.cell? ⟨g,i,none⟩=some v:=(zal h.out i).trans e
theorem tk3 (i n:Nat) {oi:Oper} {v:Value} {fuel:Nat} {l:Array Bool} {a:Act} {w:World} (hi:ops[i]?=some oi) (hN:oi.dst=some n)
 {a':Act} (h:wpAnyLast P md ops Q S ds fuel (l.setIfInBounds i true) a' w)
 (hc:takeB md ops ds l (l.setIfInBounds i true) i=true:=by exact zcs HT_.out HW_.out (by kernel_rfl))
 (hQ:∀ c a w,Q (.panic c) (a.put oi.dst v) w→Q (.panic c) a w:=by exact fun _ _ _ h=>h)
 (hS:S w:=by exact hHeld)
 (hy:YieldsIf P ops S oi v a:=by exact Or.inl ⟨by rfl,by rintro w' ⟨s0,s1,s2⟩;go_simp;with_reducible rfl⟩)
 (ha:a.put (some n) v=a':=by simp only [Act.put,List.setIfInBounds_toArray,List.set_cons_zero,List.set_cons_succ,i64_w,i32_w];rfl) :
 wpAnyLast P md ops Q S ds (fuel+1) l a w:=take_ _ hi hN hc hQ hy hS ha h
theorem tk4 (i n:Nat) {oi:Oper} {v:Value} {fuel:Nat} {l:Array Bool} {a:Act} {w:World} (hi:ops[i]?=some oi) (hN:oi.dst=some n)
 {a':Act} (h:wpAnyLast P md ops Q S ds fuel (l.setIfInBounds i true) a' w)
 (hc:takeB md ops ds l (l.setIfInBounds i true) i=true:=by exact zcs HT_.out HW_.out (by kernel_rfl))
 (hQ:∀ c a w,Q (.panic c) (a.put oi.dst v) w→Q (.panic c) a w:=by exact fun _ _ _ h=>h)
 (hS:S w:=by exact hHeld)
 (hy:YieldsIf P ops S oi v a:=by exact Or.inl ⟨by rfl,by rintro w' ⟨s0,s1,s2,s3⟩;go_simp;with_reducible rfl⟩)
 (ha:a.put (some n) v=a':=by simp only [Act.put,List.setIfInBounds_toArray,List.set_cons_zero,List.set_cons_succ,i64_w,i32_w];rfl) :
 wpAnyLast P md ops Q S ds (fuel+1) l a w:=take_ _ hi hN hc hQ hy hS ha h
theorem tk8 (i n:Nat) {oi:Oper} {v:Value} {fuel:Nat} {l:Array Bool} {a:Act} {w:World} (hi:ops[i]?=some oi) (hN:oi.dst=some n)
 {a':Act} (h:wpAnyLast P md ops Q S ds fuel (l.setIfInBounds i true) a' w)
 (hc:takeB md ops ds l (l.setIfInBounds i true) i=true:=by exact zcs HT_.out HW_.out (by kernel_rfl))
 (hQ:∀ c a w,Q (.panic c) (a.put oi.dst v) w→Q (.panic c) a w:=by exact fun _ _ _ h=>h)
 (hS:S w:=by exact hHeld)
 (hy:YieldsIf P ops S oi v a:=by exact Or.inl ⟨by rfl,by rintro w' ⟨s0,s1,s2,s3,s4,s5,s6,s7⟩;go_simp;with_reducible rfl⟩)
 (ha:a.put (some n) v=a':=by simp only [Act.put,List.setIfInBounds_toArray,List.set_cons_zero,List.set_cons_succ,i64_w,i32_w];rfl) :
 wpAnyLast P md ops Q S ds (fuel+1) l a w:=take_ _ hi hN hc hQ hy hS ha h
theorem tk14 (i n:Nat) {oi:Oper} {v:Value} {fuel:Nat} {l:Array Bool} {a:Act} {w:World} (hi:ops[i]?=some oi) (hN:oi.dst=some n)
 {a':Act} (h:wpAnyLast P md ops Q S ds fuel (l.setIfInBounds i true) a' w)
 (hc:takeB md ops ds l (l.setIfInBounds i true) i=true:=by exact zcs HT_.out HW_.out (by kernel_rfl))
 (hQ:∀ c a w,Q (.panic c) (a.put oi.dst v) w→Q (.panic c) a w:=by exact fun _ _ _ h=>h)
 (hS:S w:=by exact hHeld)
 (hy:YieldsIf P ops S oi v a:=by exact Or.inl ⟨by rfl,by rintro w' ⟨s0,s1,s2,s3,s4,s5,s6,s7,s8,s9,s10,s11,s12,s13⟩;go_simp;with_reducible rfl⟩)
 (ha:a.put (some n) v=a':=by simp only [Act.put,List.setIfInBounds_toArray,List.set_cons_zero,List.set_cons_succ,i64_w,i32_w];rfl) :
 wpAnyLast P md ops Q S ds (fuel+1) l a w:=take_ _ hi hN hc hQ hy hS ha h
theorem tk15 (i n:Nat) {oi:Oper} {v:Value} {fuel:Nat} {l:Array Bool} {a:Act} {w:World} (hi:ops[i]?=some oi) (hN:oi.dst=some n)
 {a':Act} (h:wpAnyLast P md ops Q S ds fuel (l.setIfInBounds i true) a' w)
 (hc:takeB md ops ds l (l.setIfInBounds i true) i=true:=by exact zcs HT_.out HW_.out (by kernel_rfl))
 (hQ:∀ c a w,Q (.panic c) (a.put oi.dst v) w→Q (.panic c) a w:=by exact fun _ _ _ h=>h)
 (hS:S w:=by exact hHeld)
 (hy:YieldsIf P ops S oi v a:=by exact Or.inl ⟨by rfl,by rintro w' ⟨s0,s1,s2,s3,s4,s5,s6,s7,s8,s9,s10,s11,s12,s13,s14⟩;go_simp;with_reducible rfl⟩)
 (ha:a.put (some n) v=a':=by simp only [Act.put,List.setIfInBounds_toArray,List.set_cons_zero,List.set_cons_succ,i64_w,i32_w];rfl) :
 wpAnyLast P md ops Q S ds (fuel+1) l a w:=take_ _ hi hN hc hQ hy hS ha h
theorem tk17 (i n:Nat) {oi:Oper} {v:Value} {fuel:Nat} {l:Array Bool} {a:Act} {w:World} (hi:ops[i]?=some oi) (hN:oi.dst=some n)
 {a':Act} (h:wpAnyLast P md ops Q S ds fuel (l.setIfInBounds i true) a' w)
 (hc:takeB md ops ds l (l.setIfInBounds i true) i=true:=by exact zcs HT_.out HW_.out (by kernel_rfl))
 (hQ:∀ c a w,Q (.panic c) (a.put oi.dst v) w→Q (.panic c) a w:=by exact fun _ _ _ h=>h)
 (hS:S w:=by exact hHeld)
 (hy:YieldsIf P ops S oi v a:=by exact Or.inl ⟨by rfl,by rintro w' ⟨s0,s1,s2,s3,s4,s5,s6,s7,s8,s9,s10,s11,s12,s13,s14,s15,s16⟩;go_simp;with_reducible rfl⟩)
 (ha:a.put (some n) v=a':=by simp only [Act.put,List.setIfInBounds_toArray,List.set_cons_zero,List.set_cons_succ,i64_w,i32_w];rfl) :
 wpAnyLast P md ops Q S ds (fuel+1) l a w:=take_ _ hi hN hc hQ hy hS ha h
theorem tk19 (i n:Nat) {oi:Oper} {v:Value} {fuel:Nat} {l:Array Bool} {a:Act} {w:World} (hi:ops[i]?=some oi) (hN:oi.dst=some n)
 {a':Act} (h:wpAnyLast P md ops Q S ds fuel (l.setIfInBounds i true) a' w)
 (hc:takeB md ops ds l (l.setIfInBounds i true) i=true:=by exact zcs HT_.out HW_.out (by kernel_rfl))
 (hQ:∀ c a w,Q (.panic c) (a.put oi.dst v) w→Q (.panic c) a w:=by exact fun _ _ _ h=>h)
 (hS:S w:=by exact hHeld)
 (hy:YieldsIf P ops S oi v a:=by exact Or.inl ⟨by rfl,by rintro w' ⟨s0,s1,s2,s3,s4,s5,s6,s7,s8,s9,s10,s11,s12,s13,s14,s15,s16,s17,s18⟩;go_simp;with_reducible rfl⟩)
 (ha:a.put (some n) v=a':=by simp only [Act.put,List.setIfInBounds_toArray,List.set_cons_zero,List.set_cons_succ,i64_w,i32_w];rfl) :
 wpAnyLast P md ops Q S ds (fuel+1) l a w:=take_ _ hi hN hc hQ hy hS ha h
theorem tk23 (i n:Nat) {oi:Oper} {v:Value} {fuel:Nat} {l:Array Bool} {a:Act} {w:World} (hi:ops[i]?=some oi) (hN:oi.dst=some n)
 {a':Act} (h:wpAnyLast P md ops Q S ds fuel (l.setIfInBounds i true) a' w)
 (hc:takeB md ops ds l (l.setIfInBounds i true) i=true:=by exact zcs HT_.out HW_.out (by kernel_rfl))
 (hQ:∀ c a w,Q (.panic c) (a.put oi.dst v) w→Q (.panic c) a w:=by exact fun _ _ _ h=>h)
 (hS:S w:=by exact hHeld)
 (hy:YieldsIf P ops S oi v a:=by exact Or.inl ⟨by rfl,by rintro w' ⟨s0,s1,s2,s3,s4,s5,s6,s7,s8,s9,s10,s11,s12,s13,s14,s15,s16,s17,s18,s19,s20,s21,s22⟩;go_simp;with_reducible rfl⟩)
 (ha:a.put (some n) v=a':=by simp only [Act.put,List.setIfInBounds_toArray,List.set_cons_zero,List.set_cons_succ,i64_w,i32_w];rfl) :
 wpAnyLast P md ops Q S ds (fuel+1) l a w:=take_ _ hi hN hc hQ hy hS ha h
theorem tk28 (i n:Nat) {oi:Oper} {v:Value} {fuel:Nat} {l:Array Bool} {a:Act} {w:World} (hi:ops[i]?=some oi) (hN:oi.dst=some n)
 {a':Act} (h:wpAnyLast P md ops Q S ds fuel (l.setIfInBounds i true) a' w)
 (hc:takeB md ops ds l (l.setIfInBounds i true) i=true:=by exact zcs HT_.out HW_.out (by kernel_rfl))
 (hQ:∀ c a w,Q (.panic c) (a.put oi.dst v) w→Q (.panic c) a w:=by exact fun _ _ _ h=>h)
 (hS:S w:=by exact hHeld)
 (hy:YieldsIf P ops S oi v a:=by exact Or.inl ⟨by rfl,by rintro w' ⟨s0,s1,s2,s3,s4,s5,s6,s7,s8,s9,s10,s11,s12,s13,s14,s15,s16,s17,s18,s19,s20,s21,s22,s23,s24,s25,s26,s27⟩;go_simp;with_reducible rfl⟩)
 (ha:a.put (some n) v=a':=by simp only [Act.put,List.setIfInBounds_toArray,List.set_cons_zero,List.set_cons_succ,i64_w,i32_w];rfl) :
 wpAnyLast P md ops Q S ds (fuel+1) l a w:=take_ _ hi hN hc hQ hy hS ha h
theorem tk32 (i n:Nat) {oi:Oper} {v:Value} {fuel:Nat} {l:Array Bool} {a:Act} {w:World} (hi:ops[i]?=some oi) (hN:oi.dst=some n)
 {a':Act} (h:wpAnyLast P md ops Q S ds fuel (l.setIfInBounds i true) a' w)
 (hc:takeB md ops ds l (l.setIfInBounds i true) i=true:=by exact zcs HT_.out HW_.out (by kernel_rfl))
 (hQ:∀ c a w,Q (.panic c) (a.put oi.dst v) w→Q (.panic c) a w:=by exact fun _ _ _ h=>h)
 (hS:S w:=by exact hHeld)
 (hy:YieldsIf P ops S oi v a:=by exact Or.inl ⟨by rfl,by rintro w' ⟨s0,s1,s2,s3,s4,s5,s6,s7,s8,s9,s10,s11,s12,s13,s14,s15,s16,s17,s18,s19,s20,s21,s22,s23,s24,s25,s26,s27,s28,s29,s30,s31⟩;go_simp;with_reducible rfl⟩)
 (ha:a.put (some n) v=a':=by simp only [Act.put,List.setIfInBounds_toArray,List.set_cons_zero,List.set_cons_succ,i64_w,i32_w];rfl) :
 wpAnyLast P md ops Q S ds (fuel+1) l a w:=take_ _ hi hN hc hQ hy hS ha h
theorem tk36 (i n:Nat) {oi:Oper} {v:Value} {fuel:Nat} {l:Array Bool} {a:Act} {w:World} (hi:ops[i]?=some oi) (hN:oi.dst=some n)
 {a':Act} (h:wpAnyLast P md ops Q S ds fuel (l.setIfInBounds i true) a' w)
 (hc:takeB md ops ds l (l.setIfInBounds i true) i=true:=by exact zcs HT_.out HW_.out (by kernel_rfl))
 (hQ:∀ c a w,Q (.panic c) (a.put oi.dst v) w→Q (.panic c) a w:=by exact fun _ _ _ h=>h)
 (hS:S w:=by exact hHeld)
 (hy:YieldsIf P ops S oi v a:=by exact Or.inl ⟨by rfl,by rintro w' ⟨s0,s1,s2,s3,s4,s5,s6,s7,s8,s9,s10,s11,s12,s13,s14,s15,s16,s17,s18,s19,s20,s21,s22,s23,s24,s25,s26,s27,s28,s29,s30,s31,s32,s33,s34,s35⟩;go_simp;with_reducible rfl⟩)
 (ha:a.put (some n) v=a':=by simp only [Act.put,List.setIfInBounds_toArray,List.set_cons_zero,List.set_cons_succ,i64_w,i32_w];rfl) :
 wpAnyLast P md ops Q S ds (fuel+1) l a w:=take_ _ hi hN hc hQ hy hS ha h
end
theorem cs2 {w:World} {g:Nat} {t:TypeId} {v0 v1:Value} (h:w.heap[g]?=some (.cells #[v0,v1] t (0,0))):w.cell? ⟨g,0,none⟩=some v0∧w.cell? ⟨g,1,none⟩=some v1:=⟨(zal h 0).trans rfl,(zal h 1).trans rfl⟩
theorem fs2 {w:World} {g:Nat} {t:TypeId} {v0 v1:Value} (h:w.heap[g]?=some (.cells #[v0,v1] t (0,0))):w.frozen? ⟨g,0,none⟩=false∧w.frozen? ⟨g,1,none⟩=false:=⟨zau h 0,zau h 1⟩
theorem cs3 {w:World} {g:Nat} {t:TypeId} {v0 v1 v2:Value} (h:w.heap[g]?=some (.cells #[v0,v1,v2] t (0,0))):w.cell? ⟨g,0,none⟩=some v0∧w.cell? ⟨g,1,none⟩=some v1∧w.cell? ⟨g,2,none⟩=some v2:=⟨(zal h 0).trans rfl,(zal h 1).trans rfl,(zal h 2).trans rfl⟩
theorem fs3 {w:World} {g:Nat} {t:TypeId} {v0 v1 v2:Value} (h:w.heap[g]?=some (.cells #[v0,v1,v2] t (0,0))):w.frozen? ⟨g,0,none⟩=false∧w.frozen? ⟨g,1,none⟩=false∧w.frozen? ⟨g,2,none⟩=false:=⟨zau h 0,zau h 1,zau h 2⟩
theorem cs4 {w:World} {g:Nat} {t:TypeId} {v0 v1 v2 v3:Value} (h:w.heap[g]?=some (.cells #[v0,v1,v2,v3] t (0,0))):w.cell? ⟨g,0,none⟩=some v0∧w.cell? ⟨g,1,none⟩=some v1∧w.cell? ⟨g,2,none⟩=some v2∧w.cell? ⟨g,3,none⟩=some v3:=⟨(zal h 0).trans rfl,(zal h 1).trans rfl,(zal h 2).trans rfl,(zal h 3).trans rfl⟩
theorem fs4 {w:World} {g:Nat} {t:TypeId} {v0 v1 v2 v3:Value} (h:w.heap[g]?=some (.cells #[v0,v1,v2,v3] t (0,0))):w.frozen? ⟨g,0,none⟩=false∧w.frozen? ⟨g,1,none⟩=false∧w.frozen? ⟨g,2,none⟩=false∧w.frozen? ⟨g,3,none⟩=false:=⟨zau h 0,zau h 1,zau h 2,zau h 3⟩
theorem cs6 {w:World} {g:Nat} {t:TypeId} {v0 v1 v2 v3 v4 v5:Value} (h:w.heap[g]?=some (.cells #[v0,v1,v2,v3,v4,v5] t (0,0))):w.cell? ⟨g,0,none⟩=some v0∧w.cell? ⟨g,1,none⟩=some v1∧w.cell? ⟨g,2,none⟩=some v2∧w.cell? ⟨g,3,none⟩=some v3∧w.cell? ⟨g,4,none⟩=some v4∧w.cell? ⟨g,5,none⟩=some v5:=⟨(zal h 0).trans rfl,(zal h 1).trans rfl,(zal h 2).trans rfl,(zal h 3).trans rfl,(zal h 4).trans rfl,(zal h 5).trans rfl⟩
theorem fs6 {w:World} {g:Nat} {t:TypeId} {v0 v1 v2 v3 v4 v5:Value} (h:w.heap[g]?=some (.cells #[v0,v1,v2,v3,v4,v5] t (0,0))):w.frozen? ⟨g,0,none⟩=false∧w.frozen? ⟨g,1,none⟩=false∧w.frozen? ⟨g,2,none⟩=false∧w.frozen? ⟨g,3,none⟩=false∧w.frozen? ⟨g,4,none⟩=false∧w.frozen? ⟨g,5,none⟩=false:=⟨zau h 0,zau h 1,zau h 2,zau h 3,zau h 4,zau h 5⟩
theorem cs14 {w:World} {g:Nat} {t:TypeId} {v0 v1 v2 v3 v4 v5 v6 v7 v8 v9 v10 v11 v12 v13:Value} (h:w.heap[g]?=some (.cells #[v0,v1,v2,v3,v4,v5,v6,v7,v8,v9,v10,v11,v12,v13] t (0,0))):w.cell? ⟨g,0,none⟩=some v0∧w.cell? ⟨g,1,none⟩=some v1∧w.cell? ⟨g,2,none⟩=some v2∧w.cell? ⟨g,3,none⟩=some v3∧w.cell? ⟨g,4,none⟩=some v4∧w.cell? ⟨g,5,none⟩=some v5∧w.cell? ⟨g,6,none⟩=some v6∧w.cell? ⟨g,7,none⟩=some v7∧w.cell? ⟨g,8,none⟩=some v8∧w.cell? ⟨g,9,none⟩=some v9∧w.cell? ⟨g,10,none⟩=some v10∧w.cell? ⟨g,11,none⟩=some v11∧w.cell? ⟨g,12,none⟩=some v12∧w.cell? ⟨g,13,none⟩=some v13:=⟨(zal h 0).trans rfl,(zal h 1).trans rfl,(zal h 2).trans rfl,(zal h 3).trans rfl,(zal h 4).trans rfl,(zal h 5).trans rfl,(zal h 6).trans rfl,(zal h 7).trans rfl,(zal h 8).trans rfl,(zal h 9).trans rfl,(zal h 10).trans rfl,(zal h 11).trans rfl,(zal h 12).trans rfl,(zal h 13).trans rfl⟩
theorem fs14 {w:World} {g:Nat} {t:TypeId} {v0 v1 v2 v3 v4 v5 v6 v7 v8 v9 v10 v11 v12 v13:Value} (h:w.heap[g]?=some (.cells #[v0,v1,v2,v3,v4,v5,v6,v7,v8,v9,v10,v11,v12,v13] t (0,0))):w.frozen? ⟨g,0,none⟩=false∧w.frozen? ⟨g,1,none⟩=false∧w.frozen? ⟨g,2,none⟩=false∧w.frozen? ⟨g,3,none⟩=false∧w.frozen? ⟨g,4,none⟩=false∧w.frozen? ⟨g,5,none⟩=false∧w.frozen? ⟨g,6,none⟩=false∧w.frozen? ⟨g,7,none⟩=false∧w.frozen? ⟨g,8,none⟩=false∧w.frozen? ⟨g,9,none⟩=false∧w.frozen? ⟨g,10,none⟩=false∧w.frozen? ⟨g,11,none⟩=false∧w.frozen? ⟨g,12,none⟩=false∧w.frozen? ⟨g,13,none⟩=false:=⟨zau h 0,zau h 1,zau h 2,zau h 3,zau h 4,zau h 5,zau h 6,zau h 7,zau h 8,zau h 9,zau h 10,zau h 11,zau h 12,zau h 13⟩
theorem cs15 {w:World} {g:Nat} {t:TypeId} {v0 v1 v2 v3 v4 v5 v6 v7 v8 v9 v10 v11 v12 v13 v14:Value} (h:w.heap[g]?=some (.cells #[v0,v1,v2,v3,v4,v5,v6,v7,v8,v9,v10,v11,v12,v13,v14] t (0,0))):w.cell? ⟨g,0,none⟩=some v0∧w.cell? ⟨g,1,none⟩=some v1∧w.cell? ⟨g,2,none⟩=some v2∧w.cell? ⟨g,3,none⟩=some v3∧w.cell? ⟨g,4,none⟩=some v4∧w.cell? ⟨g,5,none⟩=some v5∧w.cell? ⟨g,6,none⟩=some v6∧w.cell? ⟨g,7,none⟩=some v7∧w.cell? ⟨g,8,none⟩=some v8∧w.cell? ⟨g,9,none⟩=some v9∧w.cell? ⟨g,10,none⟩=some v10∧w.cell? ⟨g,11,none⟩=some v11∧w.cell? ⟨g,12,none⟩=some v12∧w.cell? ⟨g,13,none⟩=some v13∧w.cell? ⟨g,14,none⟩=some v14:=⟨(zal h 0).trans rfl,(zal h 1).trans rfl,(zal h 2).trans rfl,(zal h 3).trans rfl,(zal h 4).trans rfl,(zal h 5).trans rfl,(zal h 6).trans rfl,(zal h 7).trans rfl,(zal h 8).trans rfl,(zal h 9).trans rfl,(zal h 10).trans rfl,(zal h 11).trans rfl,(zal h 12).trans rfl,(zal h 13).trans rfl,(zal h 14).trans rfl⟩
theorem fs15 {w:World} {g:Nat} {t:TypeId} {v0 v1 v2 v3 v4 v5 v6 v7 v8 v9 v10 v11 v12 v13 v14:Value} (h:w.heap[g]?=some (.cells #[v0,v1,v2,v3,v4,v5,v6,v7,v8,v9,v10,v11,v12,v13,v14] t (0,0))):w.frozen? ⟨g,0,none⟩=false∧w.frozen? ⟨g,1,none⟩=false∧w.frozen? ⟨g,2,none⟩=false∧w.frozen? ⟨g,3,none⟩=false∧w.frozen? ⟨g,4,none⟩=false∧w.frozen? ⟨g,5,none⟩=false∧w.frozen? ⟨g,6,none⟩=false∧w.frozen? ⟨g,7,none⟩=false∧w.frozen? ⟨g,8,none⟩=false∧w.frozen? ⟨g,9,none⟩=false∧w.frozen? ⟨g,10,none⟩=false∧w.frozen? ⟨g,11,none⟩=false∧w.frozen? ⟨g,12,none⟩=false∧w.frozen? ⟨g,13,none⟩=false∧w.frozen? ⟨g,14,none⟩=false:=⟨zau h 0,zau h 1,zau h 2,zau h 3,zau h 4,zau h 5,zau h 6,zau h 7,zau h 8,zau h 9,zau h 10,zau h 11,zau h 12,zau h 13,zau h 14⟩
theorem q0 {p:Prop} (h:p:=by first|(with_reducible assumption)|assumption):p:=h
theorem q1 {p:Prop} (h:p:=by (with_reducible repeat (first|refine za4 ?_ _|refine za6 ?_|refine za0 ?_ _));exact B_a.out):p:=h
theorem q2 {p:Prop} (h:p:=by repeat (first|(with_reducible first|exact HB.out|apply zaw|apply zah|apply zar)|exact HB.out)):p:=h
theorem q3 {p:Prop} (h:p:=by repeat (first|(with_reducible first|exact HB.out|apply zaw|apply zah|apply zar|refine zak ?_ E_a.out)|exact HB.out)):p:=h
theorem q4 {p:Prop} (h:p:=by (try simp only [List.map_toArray,List.map_cons,List.map_nil]);first|done|rfl|(simp only [List.length_drop,List.length_take];rfl)):p:=h
theorem q5 {p:Prop} (h:p:=by first|rfl|(simp;done)|(simp [*];done)):p:=h
theorem q6 {p:Prop} (h:p:=by repeat (first|(with_reducible first|exact HB.out|apply zaw|apply zah|apply zar|refine zak ?_ E_a.out|refine zak ?_ E_b.out)|exact HB.out)):p:=h
theorem q7 {p:Prop} (h:p:=by (with_reducible repeat (first|refine za4 ?_ _|refine za6 ?_|refine za0 ?_ _));exact B_b.out):p:=h
theorem q8 {p:Prop} (h:p:=by first|rfl|(simp [zcp,zcq] <;> rfl)|(simp [*,zcp,zcq] <;> rfl)):p:=h
theorem q9 {p:Prop} (h:p:=by repeat (first|(with_reducible first|exact HK.out|apply Kept.alloc|apply Kept.drewN|apply Kept.drew)|exact HK.out)):p:=h
theorem q10 {p:Prop} (h:p:=by (with_reducible repeat (first|refine za4 ?_ _|refine za6 ?_|refine za0 ?_ _));exact B_c.out):p:=h
theorem q11 {p:Prop} (h:p:=by repeat (first|exact Drawn0.refl _|apply Drawn0.step)):p:=h
theorem q12 {p:Prop} (h:p:=by repeat (first|(with_reducible first|exact HB.out|apply zaw|apply zah|apply zar|refine zak ?_ E_a.out|refine zak ?_ E_b.out|refine zak ?_ E_c.out)|exact HB.out)):p:=h
theorem q13 {p:Prop} (h:p:=by have:=HK1.out;omega):p:=h
theorem q14 {p:Prop} (h:p:=by repeat (first|(with_reducible first|exact HB.out|apply zaw|apply zah|apply zar|refine zak ?_ E_a.out|refine zak ?_ E_b.out|refine zak ?_ E_c.out|refine zak ?_ E_d.out)|exact HB.out)):p:=h
theorem q15 {p:Prop} (h:p:=by repeat (first|(with_reducible first|exact HK.out|apply zb7.set_|apply keep_drewN|apply zda|apply keep_alloc)|exact HK.out)):p:=h
theorem q16 {p:Prop} (h:p:=by repeat (first|(with_reducible first|exact HK.out|apply zb7.set_|apply keep_drewN|apply zda|apply keep_alloc|refine keep_far ?_ W_a.out _)|exact HK.out)):p:=h
theorem q18 {p:Prop} (h:p:=by first|omega|exact Nat.le_refl _):p:=h
theorem q19 {p:Prop} (h:p:=by (with_reducible repeat (first|apply Kd.zb1|apply Kd.zb2|apply Kd.zb9));exact HO_13.out):p:=h
theorem q20 {p:Prop} (h:p:=by (with_reducible repeat (first|refine za4 ?_ _|refine za6 ?_|refine za0 ?_ _));exact B_d.out):p:=h
theorem q21 {p:Prop} (h:p:=by (with_reducible repeat (first|apply Kd.zb1|apply Kd.zb2|apply Kd.zb9));exact HO0.out):p:=h
theorem q22 {p:Prop} (h:p:=by (with_reducible repeat (first|apply Kd.zb1|apply Kd.zb2|apply Kd.zb9));exact HO_3.out):p:=h
theorem q23 {p:Prop} (h:p:=by repeat (first|(with_reducible first|exact HK.out|apply zb7.set_|apply keep_drewN|apply zda|apply keep_alloc|refine keep_far ?_ W_a.out _|refine keep_far ?_ W_b.out _)|exact HK.out)):p:=h
theorem q25 {p:Prop} (h:p:=by (with_reducible repeat (first|apply Kd.zb1|apply Kd.zb2|apply Kd.zb9));exact HO117.out):p:=h
theorem q26 {p:Prop} (h:p:=by first|exact Kd.zd8 _ _ _ _ _|exact Kd.N_nil _ _ _ _ _|exact Kd.V_nil _ _ _ _ _|exact Kd.Q_nil _ _ _ _ _|exact Kd.S_nil _ _ _ _ _):p:=h
theorem q27 {p:Prop} (h:p:=by (with_reducible repeat (first|apply Kd.zb1|apply Kd.zb2|apply Kd.zb9));exact HO_605012.out):p:=h
theorem q28 {p:Prop} (h:p:=by (with_reducible repeat (first|apply Kd.zb1|apply Kd.zb2|apply Kd.zb9));exact HO869.out):p:=h
theorem q30 {p:Prop} (h:p:=by (with_reducible repeat (first|apply Kd.zb1|apply Kd.zb2|apply Kd.zb9));exact HO_738012.out):p:=h
theorem q31 {p:Prop} (h:p:=by (with_reducible repeat (first|apply Kd.zb1|apply Kd.zb2|apply Kd.zb9));exact HO_5.out):p:=h
theorem q32 {p:Prop} (h:p:=by repeat (first|(with_reducible first|exact HK.out|apply Kept.alloc|apply Kept.drewN|apply Kept.drew|refine Kept.setCell ?_ (.inr W_a.out) _)|exact HK.out)):p:=h
theorem q33 {p:Prop} (h:p:=by repeat (first|(with_reducible first|exact HI0.out|apply zat.alloc|apply zat.drewN|apply zat.drew|apply zat.set_1)|exact HI0.out)):p:=h
theorem q34 {p:Prop} (h:p:=by repeat (first|(with_reducible first|exact HB.out|apply zaw|apply zah|apply zar|refine zak ?_ (zat.ge HI0.out))|exact HB.out)):p:=h
theorem q35 {p:Prop} (h:p:=by (with_reducible repeat (first|apply Kd.zb1|apply Kd.zb2|apply Kd.zb9));exact HO_605013.out):p:=h
theorem q36 {p:Prop} (h:p:=by (with_reducible repeat (first|apply Kd.zb1|apply Kd.zb2|apply Kd.zb9));exact HO_0.out):p:=h
theorem q37 {p:Prop} (h:p:=by repeat (first|(with_reducible first|exact HI0.out|apply zat.alloc|apply zat.drewN|apply zat.drew|apply zat.set_1|refine zat.far ?_ N_d_a.out _|refine zat.far ?_ N_d_b.out _)|exact HI0.out)):p:=h
theorem q38 {p:Prop} (h:p:=by repeat (first|(with_reducible first|exact HB.out|apply zaw|apply zah|apply zar|refine zak ?_ (zat.ge HI0.out)|refine zak ?_ E_a.out|refine zak ?_ E_b.out)|exact HB.out)):p:=h
theorem q40 {p:Prop} (h:p:=by repeat (first|(with_reducible first|exact HK.out|apply zb7.set_|apply keep_drewN|apply zda|apply keep_alloc|refine keep_far ?_ W_a.out _|refine keep_far ?_ W_b.out _|refine keep_far ?_ W_c.out _)|exact HK.out)):p:=h
theorem q43 {p:Prop} (h:p:=by (with_reducible repeat (first|refine za4 ?_ _|refine za6 ?_|refine za0 ?_ _));refine zay ?_ N_a_d.out _;(with_reducible repeat (first|refine za4 ?_ _|refine za6 ?_|refine za0 ?_ _));refine zay ?_ N_a_d.out _;(with_reducible repeat (first|refine za4 ?_ _|refine za6 ?_|refine za0 ?_ _));refine zay ?_ N_a_d.out _;(with_reducible repeat (first|refine za4 ?_ _|refine za6 ?_|refine za0 ?_ _));refine zay ?_ N_a_d.out _;(with_reducible repeat (first|refine za4 ?_ _|refine za6 ?_|refine za0 ?_ _));refine zay ?_ N_a_d.out _;(with_reducible repeat (first|refine za4 ?_ _|refine za6 ?_|refine za0 ?_ _));refine zay ?_ N_a_d.out _;(with_reducible repeat (first|refine za4 ?_ _|refine za6 ?_|refine za0 ?_ _));refine zay ?_ N_a_d.out _;(with_reducible repeat (first|refine za4 ?_ _|refine za6 ?_|refine za0 ?_ _));refine zay ?_ N_a_d.out _;(with_reducible repeat (first|refine za4 ?_ _|refine za6 ?_|refine za0 ?_ _));refine zay ?_ N_a_d.out _;(with_reducible repeat (first|refine za4 ?_ _|refine za6 ?_|refine za0 ?_ _));refine zay ?_ N_a_d.out _;(with_reducible repeat (first|refine za4 ?_ _|refine za6 ?_|refine za0 ?_ _));refine zay ?_ N_a_d.out _;(with_reducible repeat (first|refine za4 ?_ _|refine za6 ?_|refine za0 ?_ _));refine zay ?_ N_a_d.out _;(with_reducible repeat (first|refine za4 ?_ _|refine za6 ?_|refine za0 ?_ _));refine zay ?_ N_a_d.out _;(with_reducible repeat (first|refine za4 ?_ _|refine za6 ?_|refine za0 ?_ _));refine zay ?_ N_a_d.out _;(with_reducible repeat (first|refine za4 ?_ _|refine za6 ?_|refine za0 ?_ _));refine zay ?_ N_a_d.out _;(with_reducible repeat (first|refine za4 ?_ _|refine za6 ?_|refine za0 ?_ _));exact B_a.out):p:=h
theorem q44 {p:Prop} (h:p:=by (with_reducible repeat (first|refine za4 ?_ _|refine za6 ?_|refine za0 ?_ _));refine zay ?_ N_b_d.out _;(with_reducible repeat (first|refine za4 ?_ _|refine za6 ?_|refine za0 ?_ _));refine zay ?_ N_b_d.out _;(with_reducible repeat (first|refine za4 ?_ _|refine za6 ?_|refine za0 ?_ _));refine zay ?_ N_b_d.out _;(with_reducible repeat (first|refine za4 ?_ _|refine za6 ?_|refine za0 ?_ _));refine zay ?_ N_b_d.out _;(with_reducible repeat (first|refine za4 ?_ _|refine za6 ?_|refine za0 ?_ _));refine zay ?_ N_b_d.out _;(with_reducible repeat (first|refine za4 ?_ _|refine za6 ?_|refine za0 ?_ _));refine zay ?_ N_b_d.out _;(with_reducible repeat (first|refine za4 ?_ _|refine za6 ?_|refine za0 ?_ _));refine zay ?_ N_b_d.out _;(with_reducible repeat (first|refine za4 ?_ _|refine za6 ?_|refine za0 ?_ _));refine zay ?_ N_b_d.out _;(with_reducible repeat (first|refine za4 ?_ _|refine za6 ?_|refine za0 ?_ _));refine zay ?_ N_b_d.out _;(with_reducible repeat (first|refine za4 ?_ _|refine za6 ?_|refine za0 ?_ _));refine zay ?_ N_b_d.out _;(with_reducible repeat (first|refine za4 ?_ _|refine za6 ?_|refine za0 ?_ _));refine zay ?_ N_b_d.out _;(with_reducible repeat (first|refine za4 ?_ _|refine za6 ?_|refine za0 ?_ _));refine zay ?_ N_b_d.out _;(with_reducible repeat (first|refine za4 ?_ _|refine za6 ?_|refine za0 ?_ _));refine zay ?_ N_b_d.out _;(with_reducible repeat (first|refine za4 ?_ _|refine za6 ?_|refine za0 ?_ _));refine zay ?_ N_b_d.out _;(with_reducible repeat (first|refine za4 ?_ _|refine za6 ?_|refine za0 ?_ _));refine zay ?_ N_b_d.out _;(with_reducible repeat (first|refine za4 ?_ _|refine za6 ?_|refine za0 ?_ _));exact B_b.out):p:=h
theorem q47 {p:Prop} (h:p:=by (with_reducible repeat (first|refine za4 ?_ _|refine za6 ?_|refine za0 ?_ _));refine zay ?_ N_a_b.out _;(with_reducible repeat (first|refine za4 ?_ _|refine za6 ?_|refine za0 ?_ _));refine zay ?_ N_a_b.out _;(with_reducible repeat (first|refine za4 ?_ _|refine za6 ?_|refine za0 ?_ _));refine zay ?_ N_a_b.out _;(with_reducible repeat (first|refine za4 ?_ _|refine za6 ?_|refine za0 ?_ _));exact B_a.out):p:=h
theorem q48 {p:Prop} (h:p:=by rw [hg];exact (zbb q2)):p:=h
theorem q49 {p:Prop} (h:p:=by rw [hg];exact (zbb q3)):p:=h
theorem q50 {p:Prop} (h:p:=by rw [hg];exact Nat.ne_of_lt (zcj q1)):p:=h
theorem q51 {p:Prop} (h:p:=by rw [hg];exact Nat.ne_of_gt (zcj q1)):p:=h
end Go.Proofs.YtcipcpodgkeobaaDoor.F
end
section
namespace Go.Proofs.YtcipcpodgkeobaaDoor.F
open Go.RowKit Go.Proofs.YtcipcpodgkeobaaDoorW.PrintWords Go.Proofs.YtcipcpodgkeobaaDoorW.PrintLast Go.Proofs.YtcipcpodgkeobaaDoorW.PrintMore
attribute [local go_sem] max2_int min2_int max_two min_two max_three min_three max_four min_four   
set_option linter.unusedVariables false
set_option linter.unusedSimpArgs false
def zcu.f (a0:Int):Option (Int):=if a0<0 then (some (-1)) else (if a0>0 then (some 1) else (some 0))
set_option maxHeartbeats 8000000 in
set_option maxRecDepth 100000 in
theorem zcu.calls (a0:Int) (r:Int) (w:World) (h:zcu.f a0=some r) :
 Calls Tryd.prog 94 #[.int .i64 a0] w fun e w'=>e = .returned (.int .i64 r)∧Drawn0 w w':=by
 have H:(if a0<0 then (some (-1)) else (if a0>0 then (some 1) else (some 0)))=some r:=h;clear h
 by_cases c2:a0<0
 ·rw [if_pos c2] at H
  have c2b0:decide (a0<0)=true:=decide_eq_true c2;clear c2;obtain rfl:=Option.some.inj H;go_enter Tryd.func94,Tryd.ntmps94
  go_wp2
  go_ret;exact ⟨q5,q11⟩
 ·rw [if_neg c2] at H
  have c2b0:decide (a0<0)=false:=decide_eq_false c2;clear c2
  by_cases c3:a0>0
  ·rw [if_pos c3] at H
   have c3b0:decide (0<a0)=true:=decide_eq_true c3;clear c3;obtain rfl:=Option.some.inj H;go_enter Tryd.func94,Tryd.ntmps94
   go_wp2
   go_ret;exact ⟨q5,q11⟩
  ·rw [if_neg c3] at H
   have c3b0:decide (0<a0)=false:=decide_eq_false c3;clear c3;obtain rfl:=Option.some.inj H;go_enter Tryd.func94,Tryd.ntmps94
   go_wp2
   go_ret;exact ⟨q5,q11⟩
def zbt.l0:Nat→List Int→List Int→Int→Option (Int)
 | 0,_,_,_=>none
 | k+1,x0,x1,x5=>if x5≥0 then (if 0≤x5 then (if x5<(x0.length:Int) then (if x5<(x1.length:Int) then (if (rd x0 x5)=(rd x1 x5) then (zbt.l0 k x0 x1 (wrap64 (x5-1))) else (if (rd x0 x5)<(rd x1 x5) then (some (-1)) else (some 1))) else (none)) else (none)) else (none)) else (some 0)
def zbt.f (k:Nat) (l0:List Int) (l1:List Int):Option (Int):=if (l0.length:Int)=(l1.length:Int) then (zbt.l0 k l0 l1 (wrap64 ((l0.length:Int)-1))) else ((zcu.f (wrap64 ((l0.length:Int)-(l1.length:Int)))).bind fun t119=>(some t119))
theorem zbt.mono_l:∀ k,(∀ y0 y1 y2,LeO (zbt.l0 k y0 y1 y2) (zbt.l0 (k+1) y0 y1 y2))
 | 0=>fun _ _ _ r h=>by simp [zbt.l0] at h
 | k+1=>by
  have ih0:=zbt.mono_l k
  ·intro y0 y1 y2
   unfold zbt.l0
   repeat' first
   | (with_reducible exact ih0 _ _ _)
   | (with_reducible exact LeO.refl _)
   | (with_reducible exact LeO.none _)
   | (with_reducible refine LeO.ite ?_ ?_)
   | (with_reducible refine LeO.bind ?_ (fun _=>?_))
   | exact ih0 _ _ _
   | exact LeO.none _
   | refine LeO.ite ?_ ?_
   | refine LeO.bind ?_ (fun _=>?_)
theorem zbt.mono:∀ a0 a1 k,LeO (zbt.f k a0 a1) (zbt.f (k+1) a0 a1):=by
 intro a0 a1 k;have ih0:=zbt.mono_l k;unfold zbt.f
 repeat' first
  | (with_reducible exact ih0 _ _ _)
  | (with_reducible exact LeO.refl _)
  | (with_reducible exact LeO.none _)
  | (with_reducible refine LeO.ite ?_ ?_)
  | (with_reducible refine LeO.bind ?_ (fun _=>?_))
  | exact ih0 _ _ _
  | exact LeO.none _
  | refine LeO.ite ?_ ?_
  | refine LeO.bind ?_ (fun _=>?_)
set_option maxHeartbeats 8000000 in
set_option maxRecDepth 100000 in
theorem zbt.calls (k:Nat) (A0:Option Addr) (c0:Nat) (l0:List Int) (A1:Option Addr) (c1:Nat) (l1:List Int) (r:Int) (w:World) (hr0:Kd.C (Kd.int .u32) w A0 l0.length l0) (hc0:l0.length≤c0) (hr1:Kd.C (Kd.int .u32) w A1 l1.length l1) (hc1:l1.length≤c1) (h:zbt.f k l0 l1=some r) :
 Calls Tryd.prog 84 #[.slice A0 l0.length c0,.slice A1 l1.length c1] w fun e w'=>e = .returned (.int .i64 r)∧Drawn0 w w':=by
 have HR0:=za1.mk hr0;have HC0:=za1.mk hc0;clear hr0 hc0;have HR1:=za1.mk hr1;have HC1:=za1.mk hc1;clear hr1 hc1;have H:(if (l0.length:Int)=(l1.length:Int) then (zbt.l0 k l0 l1 (wrap64 ((l0.length:Int)-1))) else ((zcu.f (wrap64 ((l0.length:Int)-(l1.length:Int)))).bind fun t119=>(some t119)))=some r:=h;clear h
 by_cases c3:(l0.length:Int)=(l1.length:Int)
 ·rw [if_pos c3] at H
  have c3b0:((l0.length:Int) == (l1.length:Int))=true:=beq_iff_eq.mpr c3;have c3b1:((l0.length:Int) != (l1.length:Int))=false:=bne_eq_false_iff_eq.mpr c3
  have c3b2:(l0.length == l1.length)=true:=by first|simpa using c3|(simp at c3 ⊢;omega)
  clear c3;have H':=za1.mk H;clear H;go_enter Tryd.func84,Tryd.ntmps84
  go_wp2
  repeat (go_quiet (fail);try go_wp2)
  go_loopg [5] k (fun kq v5 w'=>∃ (x5_1:Int),v5 = .int .i64 x5_1∧za1 (zbt.l0 kq l0 l1 x5_1=some r)∧za1 (kq≤k)∧Drawn0 w w')
  case atStart=>exact ⟨(wrap64 ((l0.length:Int)-1)),q5,H',⟨Nat.le_refl _⟩,q11⟩
  case round=>
   clear H';(try clear c1);(try clear p2);(try clear c3);(try clear c3b0);(try clear c3b1);(try clear c3b2);obtain ⟨x5_1,rfl,HA,HK1,⟨m1,rfl⟩⟩:=hrel
   cases gk with
   | zero=>exact absurd HA.out (by simp [zbt.l0])
   | succ k1=>
    have H:=HA.out;clear HA;simp only [zbt.l0] at H
    by_cases c4:x5_1≥0
    ·rw [if_pos c4] at H
     have c4b0:decide (0≤x5_1)=true:=decide_eq_true c4;clear c4
     by_cases c5:0≤x5_1
     ·rw [if_pos c5] at H
      have c5b0:decide (0≤x5_1)=true:=decide_eq_true c5;clear c5
      by_cases c6:x5_1<(l0.length:Int)
      ·rw [if_pos c6] at H
       have c6b0:decide (x5_1<(l0.length:Int))=true:=decide_eq_true c6;clear c6
       by_cases c7:x5_1<(l1.length:Int)
       ·rw [if_pos c7] at H
        have c7b0:decide (x5_1<(l1.length:Int))=true:=decide_eq_true c7;clear c7
        by_cases c8:(rd l0 x5_1)=(rd l1 x5_1)
        ·rw [if_pos c8] at H
         have c8b0:((rd l0 x5_1) == (rd l1 x5_1))=true:=beq_iff_eq.mpr c8;have c8b1:((rd l0 x5_1) != (rd l1 x5_1))=false:=bne_eq_false_iff_eq.mpr c8;clear c8;have H':=za1.mk H;clear H;have p120:0≤(x5_1:Int):=of_decide_eq_true q0;have q120:x5_1<(l0.length:Int):=of_decide_eq_true q0;obtain ⟨ad120,e120,hx120_0⟩:=Kd.at_int HR0.out x5_1 p120 q120;cases e120;replace p120:=eq_true p120;replace q120:=eq_true q120;have p121:0≤(x5_1:Int):=of_decide_eq_true q0;have q121:x5_1<(l1.length:Int):=of_decide_eq_true q0;obtain ⟨ad121,e121,hx121_0⟩:=Kd.at_int HR1.out x5_1 p121 q121;cases e121;replace p121:=eq_true p121;replace q121:=eq_true q121
         go_wp2
         repeat (go_quiet (fail);try go_wp2)
         go_roundg k1
         case measure=>have:=HK1.out;omega
         case rel=>exact ⟨(wrap64 (x5_1-1)),q5,H',⟨q13⟩,q11⟩
        ·rw [if_neg c8] at H
         have c8b0:((rd l0 x5_1) == (rd l1 x5_1))=false:=beq_eq_false_iff_ne.mpr c8;have c8b1:((rd l0 x5_1) != (rd l1 x5_1))=true:=bne_iff_ne.mpr c8
         by_cases c9:(rd l0 x5_1)<(rd l1 x5_1)
         ·rw [if_pos c9] at H
          have c9b0:decide ((rd l0 x5_1)<(rd l1 x5_1))=true:=decide_eq_true c9;clear c9;obtain rfl:=Option.some.inj H;have p120:0≤(x5_1:Int):=of_decide_eq_true q0;have q120:x5_1<(l0.length:Int):=of_decide_eq_true q0;obtain ⟨ad120,e120,hx120_0⟩:=Kd.at_int HR0.out x5_1 p120 q120;cases e120;replace p120:=eq_true p120;replace q120:=eq_true q120;have p121:0≤(x5_1:Int):=of_decide_eq_true q0;have q121:x5_1<(l1.length:Int):=of_decide_eq_true q0;obtain ⟨ad121,e121,hx121_0⟩:=Kd.at_int HR1.out x5_1 p121 q121;cases e121;replace p121:=eq_true p121;replace q121:=eq_true q121;have p122:0≤(x5_1:Int):=of_decide_eq_true q0;have q122:x5_1<(l0.length:Int):=of_decide_eq_true q0;obtain ⟨ad122,e122,hx122_0⟩:=Kd.at_int HR0.out x5_1 p122 q122
          obtain rfl:ad120=ad122:=(by injection e122)
          replace p122:=eq_true p122;replace q122:=eq_true q122;have p123:0≤(x5_1:Int):=of_decide_eq_true q0;have q123:x5_1<(l1.length:Int):=of_decide_eq_true q0;obtain ⟨ad123,e123,hx123_0⟩:=Kd.at_int HR1.out x5_1 p123 q123
          obtain rfl:ad121=ad123:=(by injection e123)
          replace p123:=eq_true p123;replace q123:=eq_true q123
          go_wp2
          repeat (go_quiet (fail);try go_wp2)
          go_ret;exact ⟨q5,q11⟩
         ·rw [if_neg c9] at H
          have c9b0:decide ((rd l0 x5_1)<(rd l1 x5_1))=false:=decide_eq_false c9;clear c9;obtain rfl:=Option.some.inj H;have p120:0≤(x5_1:Int):=of_decide_eq_true q0;have q120:x5_1<(l0.length:Int):=of_decide_eq_true q0;obtain ⟨ad120,e120,hx120_0⟩:=Kd.at_int HR0.out x5_1 p120 q120;cases e120;replace p120:=eq_true p120;replace q120:=eq_true q120;have p121:0≤(x5_1:Int):=of_decide_eq_true q0;have q121:x5_1<(l1.length:Int):=of_decide_eq_true q0;obtain ⟨ad121,e121,hx121_0⟩:=Kd.at_int HR1.out x5_1 p121 q121;cases e121;replace p121:=eq_true p121;replace q121:=eq_true q121;have p122:0≤(x5_1:Int):=of_decide_eq_true q0;have q122:x5_1<(l0.length:Int):=of_decide_eq_true q0;obtain ⟨ad122,e122,hx122_0⟩:=Kd.at_int HR0.out x5_1 p122 q122
          obtain rfl:ad120=ad122:=(by injection e122)
          replace p122:=eq_true p122;replace q122:=eq_true q122;have p123:0≤(x5_1:Int):=of_decide_eq_true q0;have q123:x5_1<(l1.length:Int):=of_decide_eq_true q0;obtain ⟨ad123,e123,hx123_0⟩:=Kd.at_int HR1.out x5_1 p123 q123
          obtain rfl:ad121=ad123:=(by injection e123)
          replace p123:=eq_true p123;replace q123:=eq_true q123
          go_wp2
          repeat (go_quiet (fail);try go_wp2)
          go_ret;exact ⟨q5,q11⟩
       ·rw [if_neg c7] at H
        exact absurd H (by simp)
      ·rw [if_neg c6] at H
       exact absurd H (by simp)
     ·rw [if_neg c5] at H
      exact absurd H (by simp)
    ·rw [if_neg c4] at H
     have c4b0:decide (0≤x5_1)=false:=decide_eq_false c4;clear c4;obtain rfl:=Option.some.inj H
     go_wp2
     repeat (go_quiet (fail);try go_wp2)
     go_ret;exact ⟨q5,q11⟩
 ·rw [if_neg c3] at H
  have c3b0:((l0.length:Int) == (l1.length:Int))=false:=beq_eq_false_iff_ne.mpr c3;have c3b1:((l0.length:Int) != (l1.length:Int))=true:=bne_iff_ne.mpr c3
  have c3b2:(l0.length == l1.length)=false:=by first|simpa using c3|(simp at c3 ⊢;omega)
  replace H:=Option.bind_eq_some_iff.mp H;obtain ⟨t119,A100,H⟩:=H;replace H:(some t119)=some r:=H;have A10:=za1.mk A100;clear A100;obtain rfl:=Option.some.inj H;go_enter Tryd.func84,Tryd.ntmps84
  go_wp2_with (first|(go_at_call 94;(with_reducible refine (zcu.calls (wrap64 ((l0.length:Int)-(l1.length:Int))) t119 _ A10.out).mono ?_);rintro e w' ⟨rfl,⟨nd,rfl⟩⟩;(try first|exact ⟨rfl,_,World.drewN_drewN _ _ _⟩|exact ⟨rfl,_,Eq.trans (World.drewN_drewN _ _ _) (congrArg (World.drewN _) (Nat.add_assoc _ _ _))⟩)))
  repeat (go_quiet (first|(go_at_call 94;(with_reducible refine (zcu.calls (wrap64 ((l0.length:Int)-(l1.length:Int))) t119 _ A10.out).mono ?_);rintro e w' ⟨rfl,⟨nd,rfl⟩⟩;(try first|exact ⟨rfl,_,World.drewN_drewN _ _ _⟩|exact ⟨rfl,_,Eq.trans (World.drewN_drewN _ _ _) (congrArg (World.drewN _) (Nat.add_assoc _ _ _))⟩)));try go_wp2_with (first|(go_at_call 94;(with_reducible refine (zcu.calls (wrap64 ((l0.length:Int)-(l1.length:Int))) t119 _ A10.out).mono ?_);rintro e w' ⟨rfl,⟨nd,rfl⟩⟩;(try first|exact ⟨rfl,_,World.drewN_drewN _ _ _⟩|exact ⟨rfl,_,Eq.trans (World.drewN_drewN _ _ _) (congrArg (World.drewN _) (Nat.add_assoc _ _ _))⟩))))
  go_ret;exact ⟨q5,q11⟩
def zaz.l0:Nat→List Int→Int→Option (List Int)
 | 0,_,_=>none
 | k+1,x0,x3=>if x3>0 then (if 0≤(wrap64 (x3-1)) then (if (wrap64 (x3-1))<(x0.length:Int) then (if (rd x0 (wrap64 (x3-1)))=0 then (zaz.l0 k x0 (wrap64 (x3-1))) else (if 0≤x3 then (if x3≤(x0.length:Int) then (some (x0.take (x3:Int).toNat)) else (none)) else (none))) else (none)) else (none)) else (if 0≤x3 then (if x3≤(x0.length:Int) then (some (x0.take (x3:Int).toNat)) else (none)) else (none))
def zaz.f (k:Nat) (l0:List Int):Option (List Int):=zaz.l0 k l0 (l0.length:Int)
theorem zaz.mono_l:∀ k,(∀ y0 y1,LeO (zaz.l0 k y0 y1) (zaz.l0 (k+1) y0 y1))
 | 0=>fun _ _ r h=>by simp [zaz.l0] at h
 | k+1=>by
  have ih0:=zaz.mono_l k
  ·intro y0 y1
   unfold zaz.l0
   repeat' first
   | (with_reducible exact ih0 _ _)
   | (with_reducible exact LeO.refl _)
   | (with_reducible exact LeO.none _)
   | (with_reducible refine LeO.ite ?_ ?_)
   | (with_reducible refine LeO.bind ?_ (fun _=>?_))
   | exact ih0 _ _
   | exact LeO.none _
   | refine LeO.ite ?_ ?_
   | refine LeO.bind ?_ (fun _=>?_)
theorem zaz.mono:∀ a0 k,LeO (zaz.f k a0) (zaz.f (k+1) a0):=by
 intro a0 k;have ih0:=zaz.mono_l k;unfold zaz.f
 repeat' first
  | (with_reducible exact ih0 _ _)
  | (with_reducible exact LeO.refl _)
  | (with_reducible exact LeO.none _)
  | (with_reducible refine LeO.ite ?_ ?_)
  | (with_reducible refine LeO.bind ?_ (fun _=>?_))
  | exact ih0 _ _
  | exact LeO.none _
  | refine LeO.ite ?_ ?_
  | refine LeO.bind ?_ (fun _=>?_)
set_option maxHeartbeats 8000000 in
set_option maxRecDepth 100000 in
theorem zaz.calls (k:Nat) (P0_:Nat→Prop) (u9000_:Value) (l0:List Int) (r:List Int) (w0 w:World) (hB:Below w0.heap.size w0 w) (ho0:Kd.R (Kd.int .u32) 25 w w0.heap.size P0_ u9000_ l0) (h:zaz.f k l0=some r) :
 Calls Tryd.prog 83 #[u9000_] w fun e w'=>∃ v0_:Value,e = .returned (v0_)∧Kd.R (Kd.int .u32) 25 w' w0.heap.size (fun k_=>(P0_ k_∨w.heap.size≤k_)) v0_ r∧Below w0.heap.size w0 w'∧Kept w w' (fun k_=>P0_ k_):=by
 have HO0:=am (show Kd.R (Kd.int .u32) 25 w w0.heap.size (fun k_=>(P0_ k_∨w.heap.size≤k_)) u9000_ l0 from Kd.zbm ho0 (fun k_ hk=>(.inl hk)));have HK:=am (Kept.refl w (fun k_=>P0_ k_));have HW0:=za1.mk hB.size;have HB:=za1.mk hB;clear hB;have H:(zaz.l0 k l0 (l0.length:Int))=some r:=h;clear h;have H':=za1.mk H;clear H;obtain ⟨Ao2,co2,eo2⟩:=Kd.zbn HO0.out;subst eo2;go_enter Tryd.func83,Tryd.ntmps83
 go_wp2
 go_loopg [3] k (fun kq v3 w'=>∃ (x3_1:Int),v3 = .int .i64 x3_1∧za1 (zaz.l0 kq l0 x3_1=some r)∧za1 (kq≤k)∧za1 (Kd.R (Kd.int .u32) 25 w' w0.heap.size (fun k_=>(P0_ k_∨w.heap.size≤k_)) (.slice Ao2 l0.length co2) l0)∧za1 (Kept w w' (fun k_=>P0_ k_))∧za1 (Below w0.heap.size w0 w'))
 case atStart=>exact ⟨((l0.length:Int)),q5,H',⟨Nat.le_refl _⟩,⟨q21⟩,⟨q9⟩,⟨q2⟩⟩
 case round=>
  clear H';(try clear p2);obtain ⟨x3_1,rfl,HA,HK1,HO_0,HK,HB⟩:=hrel
  cases gk with
  | zero=>exact absurd HA.out (by simp [zaz.l0])
  | succ k1=>
   have H:=HA.out;clear HA;simp only [zaz.l0] at H
   by_cases c3:x3_1>0
   ·rw [if_pos c3] at H
    have c3b0:decide (0<x3_1)=true:=decide_eq_true c3;clear c3
    obtain ⟨ji4,hji4⟩:∃ j_:Int,(wrap64 (x3_1-1))=j_:=⟨_,rfl⟩
    replace H:(if 0≤(ji4) then (if (ji4)<(l0.length:Int) then (if (rd l0 (ji4))=0 then (zaz.l0 k1 l0 ji4) else (if 0≤x3_1 then (if x3_1≤(l0.length:Int) then (some (l0.take (x3_1:Int).toNat)) else (none)) else (none))) else (none)) else (none))=some r:=by first|(rw [hji4] at H;exact H)|(simp only [hji4] at H ⊢;exact H)
    have hji4w:(IntKind.i64.wrap (x3_1-1))=ji4:=(i64_w _).trans hji4
    by_cases c5:0≤(ji4)
    ·rw [if_pos c5] at H
     have c5b0:decide (0≤(ji4))=true:=decide_eq_true c5;clear c5
     by_cases c6:(ji4)<(l0.length:Int)
     ·rw [if_pos c6] at H
      have c6b0:decide ((ji4)<(l0.length:Int))=true:=decide_eq_true c6;clear c6
      by_cases c7:(rd l0 (ji4))=0
      ·rw [if_pos c7] at H
       have c7b0:((rd l0 (ji4)) == 0)=true:=beq_iff_eq.mpr c7;have c7b1:((rd l0 (ji4)) != 0)=false:=bne_eq_false_iff_eq.mpr c7;clear c7;have H':=za1.mk H;clear H;have p104:0≤((ji4):Int):=of_decide_eq_true q0;have q104:(ji4)<(l0.length:Int):=of_decide_eq_true q0;obtain ⟨ad104,e104,hx104_0⟩:=Kd.at_int (Kd.R_reads' HO_0.out).2.2 (ji4) p104 q104;cases e104;replace p104:=eq_true p104;replace q104:=eq_true q104
       go_wp2
       go_roundg k1
       case measure=>have:=HK1.out;omega
       case rel=>exact ⟨(ji4),(by first|rfl|(simp;done)|(simp only [← hji4] <;> (first|rfl|simp))|(simp [*];done)),H',⟨q13⟩,⟨q36⟩,⟨q9⟩,⟨q2⟩⟩
      ·rw [if_neg c7] at H
       have c7b0:((rd l0 (ji4)) == 0)=false:=beq_eq_false_iff_ne.mpr c7;have c7b1:((rd l0 (ji4)) != 0)=true:=bne_iff_ne.mpr c7
       by_cases c8:0≤x3_1
       ·rw [if_pos c8] at H
        have c8b0:=eq_true c8;have c8b1:decide (0≤x3_1)=true:=decide_eq_true c8;clear c8
        by_cases c9:x3_1≤(l0.length:Int)
        ·rw [if_pos c9] at H
         have c9b0:=eq_true c9;have c9b1:decide (x3_1≤(l0.length:Int))=true:=decide_eq_true c9;clear c9
         obtain ⟨y105,hy105⟩:∃ y_:List Int,y_=(l0.take (x3_1:Int).toNat):=⟨_,rfl⟩
         replace H:(some y105)=some r:=by first|(rw [hy105];with_reducible exact H)|(have H2_:=(Option.bind_some _ _).symm.trans H;rw [hy105];with_reducible exact H2_)|(have H2_:=(Option.bind_some _ _).symm.trans H;with_reducible exact H2_)|with_reducible exact H|(rw [hy105];exact H)|exact H
         have Ny105:=za1.mk hy105;clear hy105;obtain rfl:=Option.some.inj H;have p104:0≤((ji4):Int):=of_decide_eq_true q0;have q104:(ji4)<(l0.length:Int):=of_decide_eq_true q0;obtain ⟨ad104,e104,hx104_0⟩:=Kd.at_int (Kd.R_reads' HO_0.out).2.2 (ji4) p104 q104;cases e104;replace p104:=eq_true p104;replace q104:=eq_true q104;have q10:(x3_1:Int)≤((l0.length:Int):Int):=of_decide_eq_true q0;obtain ⟨i010,hi010,_,hsz10,_⟩:=info_parts info25;have hcut10:=cut_to (P:=Tryd.prog) 128 25 .i64 Tryd.underlying128 hi010 (some ad104) l0.length co2 x3_1 (of_decide_eq_true q0) q10 (Kd.R_reads' HO_0.out).2.1;have hr10:=Kd.R_take (m:=(x3_1:Int).toNat) HO_0.out (by omega)
         have hy10:y105.length=(x3_1:Int).toNat:=(by rw [Ny105.out,List.length_take];omega)
         rw [← Ny105.out] at hr10;rw [← hy10] at hr10 hcut10;clear hy10 hi010 hsz10 HO_0;have HO107:=za1.mk hr10;clear hr10;replace q10:=eq_true q10
         go_wp2
         go_ret;exact ⟨_,by first|rfl|(simp [zcp,zcq] <;> rfl)|(simp only [← hji4];first|rfl|(simp [zcp,zcq] <;> rfl))|(simp [*,zcp,zcq] <;> rfl),by (with_reducible repeat (first|apply Kd.zb1|apply Kd.zb2|apply Kd.zb9));exact HO107.out,q2,q9⟩
        ·rw [if_neg c9] at H
         exact absurd H (by simp)
       ·rw [if_neg c8] at H
        exact absurd H (by simp)
     ·rw [if_neg c6] at H
      exact absurd H (by simp)
    ·rw [if_neg c5] at H
     exact absurd H (by simp)
   ·rw [if_neg c3] at H
    have c3b0:decide (0<x3_1)=false:=decide_eq_false c3;clear c3
    by_cases c11:0≤x3_1
    ·rw [if_pos c11] at H
     have c11b0:=eq_true c11;have c11b1:decide (0≤x3_1)=true:=decide_eq_true c11;clear c11
     by_cases c12:x3_1≤(l0.length:Int)
     ·rw [if_pos c12] at H
      have c12b0:=eq_true c12;have c12b1:decide (x3_1≤(l0.length:Int))=true:=decide_eq_true c12;clear c12
      obtain ⟨y108,hy108⟩:∃ y_:List Int,y_=(l0.take (x3_1:Int).toNat):=⟨_,rfl⟩
      replace H:(some y108)=some r:=by first|(rw [hy108];with_reducible exact H)|(have H2_:=(Option.bind_some _ _).symm.trans H;rw [hy108];with_reducible exact H2_)|(have H2_:=(Option.bind_some _ _).symm.trans H;with_reducible exact H2_)|with_reducible exact H|(rw [hy108];exact H)|exact H
      have Ny108:=za1.mk hy108;clear hy108;obtain rfl:=Option.some.inj H;have q13:(x3_1:Int)≤((l0.length:Int):Int):=of_decide_eq_true q0;obtain ⟨i013,hi013,_,hsz13,_⟩:=info_parts info25;have hcut13:=cut_to (P:=Tryd.prog) 128 25 .i64 Tryd.underlying128 hi013 Ao2 l0.length co2 x3_1 (of_decide_eq_true q0) q13 (Kd.R_reads' HO_0.out).2.1;have hr13:=Kd.R_take (m:=(x3_1:Int).toNat) HO_0.out (by omega)
      have hy13:y108.length=(x3_1:Int).toNat:=(by rw [Ny108.out,List.length_take];omega)
      rw [← Ny108.out] at hr13;rw [← hy13] at hr13 hcut13;clear hy13 hi013 hsz13 HO_0;have HO110:=za1.mk hr13;clear hr13;replace q13:=eq_true q13
      go_wp2
      go_ret;exact ⟨_,q8,by (with_reducible repeat (first|apply Kd.zb1|apply Kd.zb2|apply Kd.zb9));exact HO110.out,q2,q9⟩
     ·rw [if_neg c12] at H
      exact absurd H (by simp)
    ·rw [if_neg c11] at H
     exact absurd H (by simp)
def zbj.l0:Nat→List Int→Int→List Int→Int→Int→Option (List Int×Int)
 | 0,_,_,_,_,_=>none
 | k+1,x0,x1,x6,x7,x8=>if x8≥0 then (if 0≤x8 then (if x8<(x0.length:Int) then (if (IntKind.u64.wrap (x1))=0 then (none) else (if x8<(x6.length:Int) then (zbj.l0 k x0 x1 (x6.set (x8:Int).toNat ((IntKind.u64.wrap (Int.tdiv (Go.bits .or .u64 (IntKind.u64.wrap (x7*4294967296)) (IntKind.u64.wrap (rd x0 x8))) (IntKind.u64.wrap (x1))))%4294967296)) (Int.tmod (Go.bits .or .u64 (IntKind.u64.wrap (x7*4294967296)) (IntKind.u64.wrap (rd x0 x8))) (IntKind.u64.wrap (x1))) (wrap64 (x8-1))) else (none))) else (none)) else (none)) else ((zaz.f k x6).bind fun t129=>(some (t129,(x7)%4294967296)))
def zbj.f (k:Nat) (l0:List Int) (a1:Int):Option (List Int×Int):=if 0≤(l0.length:Int) then (if ((l0.length:Int):Int).toNat≤70368744177664 then (zbj.l0 k l0 a1 (List.replicate ((l0.length:Int):Int).toNat 0) 0 (wrap64 ((l0.length:Int)-1))) else (none)) else (none)
theorem zbj.mono_l:∀ k,(∀ y0 y1 y2 y3 y4,LeO (zbj.l0 k y0 y1 y2 y3 y4) (zbj.l0 (k+1) y0 y1 y2 y3 y4))
 | 0=>fun _ _ _ _ _ r h=>by simp [zbj.l0] at h
 | k+1=>by
  have ih0:=zbj.mono_l k
  ·intro y0 y1 y2 y3 y4
   unfold zbj.l0
   repeat' first
   | (with_reducible exact ih0 _ _ _ _ _)
   | (with_reducible exact zaz.mono _ _)
   | (with_reducible exact LeO.refl _)
   | (with_reducible exact LeO.none _)
   | (with_reducible refine LeO.ite ?_ ?_)
   | (with_reducible refine LeO.bind ?_ (fun _=>?_))
   | exact ih0 _ _ _ _ _
   | exact zaz.mono _ _
   | exact LeO.none _
   | refine LeO.ite ?_ ?_
   | refine LeO.bind ?_ (fun _=>?_)
theorem zbj.mono:∀ a0 a1 k,LeO (zbj.f k a0 a1) (zbj.f (k+1) a0 a1):=by
 intro a0 a1 k;have ih0:=zbj.mono_l k;unfold zbj.f
 repeat' first
  | (with_reducible exact ih0 _ _ _ _ _)
  | (with_reducible exact zaz.mono _ _)
  | (with_reducible exact LeO.refl _)
  | (with_reducible exact LeO.none _)
  | (with_reducible refine LeO.ite ?_ ?_)
  | (with_reducible refine LeO.bind ?_ (fun _=>?_))
  | exact ih0 _ _ _ _ _
  | exact zaz.mono _ _
  | exact LeO.none _
  | refine LeO.ite ?_ ?_
  | refine LeO.bind ?_ (fun _=>?_)
set_option maxHeartbeats 8000000 in
set_option maxRecDepth 100000 in
theorem zbj.calls (k:Nat) (A0:Option Addr) (c0:Nat) (l0:List Int) (a1:Int) (r1:List Int) (r2:Int) (w:World) (hr0:Kd.C (Kd.int .u32) w A0 l0.length l0) (hc0:l0.length≤c0) (h:zbj.f k l0 a1=some (r1,r2)) :
 Calls Tryd.prog 85 #[.slice A0 l0.length c0,.int .u32 a1] w fun e w'=>∃ v0_:Value,e = .returned (.tuple #[v0_,.int .u32 r2])∧Kd.R (Kd.int .u32) 25 w' w.heap.size (fun _=>True) v0_ r1∧Below w.heap.size w w':=by
 have HR0:=za1.mk hr0;have HC0:=za1.mk hc0;clear hr0 hc0;have HB:=am (Below.refl w.heap.size w);have H:(if 0≤(l0.length:Int) then (if ((l0.length:Int):Int).toNat≤70368744177664 then (zbj.l0 k l0 a1 (List.replicate ((l0.length:Int):Int).toNat 0) 0 (wrap64 ((l0.length:Int)-1))) else (none)) else (none))=some (r1,r2):=h;clear h
 by_cases c3:0≤(l0.length:Int)
 ·rw [if_pos c3] at H
  have c3b0:=eq_true c3;have c3b1:decide (0≤(l0.length:Int))=true:=decide_eq_true c3;clear c3
  by_cases c4:((l0.length:Int):Int).toNat≤70368744177664
  ·rw [if_pos c4] at H
   have c4b0:=eq_true c4;have c4b1:decide (((l0.length:Int):Int).toNat≤70368744177664)=true:=decide_eq_true c4;clear c4
   obtain ⟨y124,hy124⟩:∃ y_:List Int,y_=(List.replicate ((l0.length:Int):Int).toNat 0):=⟨_,rfl⟩
   replace H:(zbj.l0 k l0 a1 y124 0 (wrap64 ((l0.length:Int)-1)))=some (r1,r2):=by first|(rw [hy124];with_reducible exact H)|(have H2_:=(Option.bind_some _ _).symm.trans H;rw [hy124];with_reducible exact H2_)|(have H2_:=(Option.bind_some _ _).symm.trans H;with_reducible exact H2_)|with_reducible exact H|(rw [hy124];exact H)|exact H
   have Ny124:=za1.mk hy124;clear hy124;have H':=za1.mk H;clear H;go_enter Tryd.func85,Tryd.ntmps85
   go_wp2_with (first|((with_reducible refine zbr (N:=12) rfl ?_);refine Kd.R_make (Kd.int .u32) _ 25 rfl (N:=12) rfl 128 _ _ rfl (l0.length:Int) rfl rfl Tryd.underlying128 (.int .u32 0) 4 info25 rfl (by decide) (by omega) 0 (ok:=fun _=>True) (okp:=fun _=>True) rfl (fun _ hk=>hk) trivial (of_decide_eq_true q0) (Nat.le_trans (Nat.mul_le_mul_right _ (of_decide_eq_true q0:(l0.length:Int).toNat≤70368744177664)) (by omega)) (Below.refl _ _) (Nat.le_refl _) ?_;intro v125 w5 ho6 hb hg_ hnew_;clear hg_ hnew_;(first|rw [← Ny124.out] at ho6|(simp only [Int.reduceToNat] at ho6;rw [← Ny124.out] at ho6));have HO126:=am (Kd.zc9 ho6 (zbb q2));replace HB:=am (zab q2 hb);clear hb ho6))
   go_loopg [7,8] k (fun kq v7 v8 w'=>∃ (x6_1:List Int) (x7_1:Int) (x8_1:Int),v7 = .int .u64 x7_1∧v8 = .int .i64 x8_1∧za1 (zbj.l0 kq l0 a1 x6_1 x7_1 x8_1=some (r1,r2))∧za1 (kq≤k)∧za1 (Kd.R (Kd.int .u32) 25 w' w.heap.size (fun _=>True) v125 x6_1)∧za1 (Below w.heap.size w w'))
   case atStart=>exact ⟨(y124),(0),(wrap64 ((l0.length:Int)-1)),q5,q5,H',⟨Nat.le_refl _⟩,⟨by (with_reducible repeat (first|apply Kd.zb1|apply Kd.zb2|apply Kd.zb9));exact HO126.out⟩,⟨q2⟩⟩
   case round=>
    clear H';(try clear p2);(try clear c3);(try clear c3b0);(try clear c3b1);(try clear c4);(try clear c4b0);(try clear c4b1);(try clear p6);obtain ⟨x6_1,x7_1,x8_1,rfl,rfl,HA,HK1,HO_6,HB⟩:=hrel
    cases gk with
    | zero=>exact absurd HA.out (by simp [zbj.l0])
    | succ k1=>
     have H:=HA.out;clear HA;simp only [zbj.l0] at H
     by_cases c7:x8_1≥0
     ·rw [if_pos c7] at H
      have c7b0:decide (0≤x8_1)=true:=decide_eq_true c7;clear c7
      by_cases c8:0≤x8_1
      ·rw [if_pos c8] at H
       have c8b0:decide (0≤x8_1)=true:=decide_eq_true c8;clear c8
       by_cases c9:x8_1<(l0.length:Int)
       ·rw [if_pos c9] at H
        have c9b0:decide (x8_1<(l0.length:Int))=true:=decide_eq_true c9;clear c9
        by_cases c10:(IntKind.u64.wrap (a1))=0
        ·rw [if_pos c10] at H
         exact absurd H (by simp)
        ·rw [if_neg c10] at H
         have c10b0:((IntKind.u64.wrap (a1)) == 0)=false:=beq_eq_false_iff_ne.mpr c10;have c10b1:((IntKind.u64.wrap (a1)) != 0)=true:=bne_iff_ne.mpr c10
         by_cases c11:x8_1<(x6_1.length:Int)
         ·rw [if_pos c11] at H
          have c11b0:decide (x8_1<(x6_1.length:Int))=true:=decide_eq_true c11;clear c11
          obtain ⟨y128,hy128⟩:∃ y_:List Int,y_=(x6_1.set (x8_1:Int).toNat ((IntKind.u64.wrap (Int.tdiv (Go.bits .or .u64 (IntKind.u64.wrap (x7_1*4294967296)) (IntKind.u64.wrap (rd l0 x8_1))) (IntKind.u64.wrap (a1))))%4294967296)):=⟨_,rfl⟩
          replace H:(zbj.l0 k1 l0 a1 y128 (Int.tmod (Go.bits .or .u64 (IntKind.u64.wrap (x7_1*4294967296)) (IntKind.u64.wrap (rd l0 x8_1))) (IntKind.u64.wrap (a1))) (wrap64 (x8_1-1)))=some (r1,r2):=by first|(rw [hy128];with_reducible exact H)|(have H2_:=(Option.bind_some _ _).symm.trans H;rw [hy128];with_reducible exact H2_)|(have H2_:=(Option.bind_some _ _).symm.trans H;with_reducible exact H2_)|with_reducible exact H|(rw [hy128];exact H)|exact H
          have Ny128:=za1.mk hy128;clear hy128;have H':=za1.mk H;clear H;have p127:0≤(x8_1:Int):=of_decide_eq_true q0;have q127:x8_1<(l0.length:Int):=of_decide_eq_true q0;obtain ⟨ad127,e127,hx127_0⟩:=Kd.at_int HR0.out x8_1 p127 q127;cases e127;replace hx127_0:=(HB.out.cell (World.block_lt_of_cell? w _ hx127_0)).trans hx127_0;replace p127:=eq_true p127;replace q127:=eq_true q127;have p12:0≤(x8_1:Int):=of_decide_eq_true q0;have q12:(x8_1:Int)<((x6_1.length:Int):Int):=of_decide_eq_true q0;obtain ⟨go12,co12,eo12,g_a,gl12,cl12,HG12⟩:=Kd.R_form HO_6.out (by omega)
          (first|cases eo12|(injection eo12 with ea_ en_ ec_;(first|subst ea_|(injection ea_ with ea_;subst ea_));subst ec_;clear en_))
          have GB12:=za1.mk g_a;have GG12:=za1.mk HG12;clear g_a gl12 HG12;obtain ⟨hx12_0,hf12_0⟩:=Kd.R_celln 0 HO_6.out (x8_1:Int) p12 q12;replace p12:=eq_true p12;replace q12:=eq_true q12;have HP13:=Kd.R_putg HO_6.out (x8_1:Int) ((IntKind.u64.wrap (Int.tdiv (Go.bits .or .u64 (IntKind.u64.wrap (x7_1*4294967296)) (IntKind.u64.wrap (rd l0 x8_1))) (IntKind.u64.wrap (a1))))%4294967296)
          go_wp2_with (first|((with_reducible refine gate_store (t:=25) (p:=35) rfl ?_);refine store_event (t:=25) (p:=35) (v:=?vo_w14) (w1:=(wr.setCell ⟨go12,(x8_1:Int).toNat,none⟩ (.int .u32 ((IntKind.u64.wrap (Int.tdiv (Go.bits .or .u64 (IntKind.u64.wrap (x7_1*4294967296)) (IntKind.u64.wrap (rd l0 x8_1))) (IntKind.u64.wrap (a1))))%4294967296)))) ?hg ?ho ?hn ?hr ?_;(case ho=>rfl);(case hg=>rfl);(case hn=>rfl);(case hr=>first|(go_simp;done)|(go_simp;rfl));intro w14 hw;have hg:wr.grownBy w14 (some go12):=(by rw [hw];exact HP13.2);have hp_:Kd.R (Kd.int .u32) 25 w14 w.heap.size (fun _=>True) (.slice (some ⟨go12,0,none⟩) x6_1.length co12) y128:=(by rw [hw,Ny128.out];exact HP13.1);clear HP13;replace HO_6:=am (hp_);replace HB:=am ((by rw [hw];exact zak (HB.out) GB12.out:Below w.heap.size w w14));clear hg hw hp_))
          go_roundg k1
          case measure=>have:=HK1.out;omega
          case rel=>exact ⟨(y128),(Int.tmod (Go.bits .or .u64 (IntKind.u64.wrap (x7_1*4294967296)) (IntKind.u64.wrap (rd l0 x8_1))) (IntKind.u64.wrap (a1))),(wrap64 (x8_1-1)),q5,q5,H',⟨q13⟩,⟨by (with_reducible repeat (first|apply Kd.zb1|apply Kd.zb2|apply Kd.zb9));exact HO_6.out⟩,⟨q2⟩⟩
         ·rw [if_neg c11] at H
          exact absurd H (by simp)
       ·rw [if_neg c9] at H
        exact absurd H (by simp)
      ·rw [if_neg c8] at H
       exact absurd H (by simp)
     ·rw [if_neg c7] at H
      have c7b0:decide (0≤x8_1)=false:=decide_eq_false c7;clear c7;replace H:=Option.bind_eq_some_iff.mp H;obtain ⟨t129,A150,H⟩:=H;replace H:(some (t129,(x7_1)%4294967296))=some (r1,r2):=H;have A15:=za1.mk A150;clear A150;simp only [Option.some.injEq,Prod.mk.injEq] at H;obtain ⟨rfl,rfl⟩:=H;obtain ⟨Ao16,co16,eo16⟩:=Kd.zbn HO_6.out;subst eo16
      go_wp2_with (first|((with_reducible refine zan (f:=83) rfl ?_);refine goesL_ (some 41) rfl rfl Tryd.func83 (by kernel_rfl) rfl #[.slice Ao16 x6_1.length co16] rfl q4 ?_;(with_reducible refine (zaz.calls k1 (fun k_=>some k_=(.slice Ao16 x6_1.length co16:Value).ownBlock) (.slice Ao16 x6_1.length co16) x6_1 t129 w _ ?side1 ?side2 A15.out).mono ?_);(case side1=>repeat (first|(with_reducible first|exact HB.out|apply zaw|apply zah|apply zar)|exact HB.out));(case side2=>exact Kd.zci rfl HO_6.out);rintro e w17 ⟨v130,rfl,ho0,hb,hkp⟩;refine ⟨_,rfl,?_⟩;have n0_:=am (Kd.zbm (ok':=fun k_=>True) ho0 (fun k_ hk_=>trivial));have n1_:=am (hb);clear HB;clear HO_6;have HO131:=n0_;have HB:=n1_;clear n0_ n1_;(try clear hb);(try clear hkp);(try clear ho0)))
      go_ret2
      exact ⟨_,q8,by (with_reducible repeat (first|apply Kd.zb1|apply Kd.zb2|apply Kd.zb9));exact HO131.out,q2⟩
  ·rw [if_neg c4] at H
   exact absurd H (by simp)
 ·rw [if_neg c3] at H
  exact absurd H (by simp)
def zcl.f (k:Nat) (l0:List Int) (l1:List Int):Option (List Int×List Int):=(zbt.f k l0 l1).bind fun t173=>(if t173<0 then (some (([]:List Int),l0)) else (if (l1.length:Int)=1 then (if 0<(l1.length:Int) then ((zbj.f k l0 (rd l1 0)).bind fun bt175=>((zaz.f k (([bt175.2]:List Int))).bind fun t182=>(some (bt175.1,t182)))) else (none)) else (none)))
theorem zcl.mono:∀ a0 a1 k,LeO (zcl.f k a0 a1) (zcl.f (k+1) a0 a1):=by
 intro a0 a1 k;unfold zcl.f
 repeat' first
  | (with_reducible exact zbt.mono _ _ _)
  | (with_reducible exact zbj.mono _ _ _)
  | (with_reducible exact zaz.mono _ _)
  | (with_reducible exact LeO.refl _)
  | (with_reducible exact LeO.none _)
  | (with_reducible refine LeO.ite ?_ ?_)
  | (with_reducible refine LeO.bind ?_ (fun _=>?_))
  | exact zbt.mono _ _ _
  | exact zbj.mono _ _ _
  | exact zaz.mono _ _
  | exact LeO.none _
  | refine LeO.ite ?_ ?_
  | refine LeO.bind ?_ (fun _=>?_)
set_option maxHeartbeats 8000000 in
set_option maxRecDepth 100000 in
theorem zcl.calls (k:Nat) (P0_:Nat→Prop) (u9000_:Value) (l0:List Int) (A1:Option Addr) (c1:Nat) (l1:List Int) (r1:List Int) (r2:List Int) (w0 w:World) (hB:Below w0.heap.size w0 w) (ho0:Kd.R (Kd.int .u32) 25 w w0.heap.size P0_ u9000_ l0) (hr1:∀ W_,Kept w W_ (fun k_=>P0_ k_)→Kd.C (Kd.int .u32) W_ A1 l1.length l1) (hc1:l1.length≤c1) (h:zcl.f k l0 l1=some (r1,r2)) :
 Calls Tryd.prog 73 #[u9000_,.slice A1 l1.length c1] w fun e w'=>∃ v0_ v1_:Value,e = .returned (.tuple #[v0_,v1_])∧Kd.R (Kd.int .u32) 25 w' w0.heap.size (fun k_=>(P0_ k_∨w.heap.size≤k_)∧some k_≠(v1_:Value).ownBlock) v0_ r1∧Kd.R (Kd.int .u32) 25 w' w0.heap.size (fun k_=>(P0_ k_∨w.heap.size≤k_)∧some k_≠(v0_:Value).ownBlock) v1_ r2∧Below w0.heap.size w0 w'∧Kept w w' (fun k_=>P0_ k_):=by
 have HO0:=am (show Kd.R (Kd.int .u32) 25 w w0.heap.size (fun k_=>(P0_ k_∨w.heap.size≤k_)) u9000_ l0 from Kd.zbm ho0 (fun k_ hk=>(.inl hk)));have HR1:=za1.mk hr1;have HC1:=za1.mk hc1;clear hr1 hc1;have HK:=am (Kept.refl w (fun k_=>P0_ k_));have HW0:=za1.mk hB.size;have HB:=za1.mk hB;clear hB;have H:((zbt.f k l0 l1).bind fun t173=>(if t173<0 then (some (([]:List Int),l0)) else (if (l1.length:Int)=1 then (if 0<(l1.length:Int) then ((zbj.f k l0 (rd l1 0)).bind fun bt175=>((zaz.f k (([bt175.2]:List Int))).bind fun t182=>(some (bt175.1,t182)))) else (none)) else (none))))=some (r1,r2):=h;clear h;replace H:=Option.bind_eq_some_iff.mp H;obtain ⟨t173,A30,H⟩:=H;replace H:(if t173<0 then (some (([]:List Int),l0)) else (if (l1.length:Int)=1 then (if 0<(l1.length:Int) then ((zbj.f k l0 (rd l1 0)).bind fun bt175=>((zaz.f k (([bt175.2]:List Int))).bind fun t182=>(some (bt175.1,t182)))) else (none)) else (none)))=some (r1,r2):=H;have A3:=za1.mk A30;clear A30
 by_cases c4:t173<0
 ·rw [if_pos c4] at H
  have c4b0:decide (t173<0)=true:=decide_eq_true c4;clear c4;simp only [Option.some.injEq,Prod.mk.injEq] at H;obtain ⟨rfl,rfl⟩:=H;obtain ⟨Ao5,co5,eo5⟩:=Kd.zbn HO0.out;subst eo5;go_enter Tryd.func73,Tryd.ntmps73
  go_wp2_with (first|((with_reducible refine zan (f:=84) rfl ?_);refine goesL_ (some 16) rfl rfl Tryd.func84 (by kernel_rfl) rfl #[.slice Ao5 l0.length co5,.slice A1 l1.length c1] rfl q4 ?_;(with_reducible refine (zbt.calls k _ _ l0 _ _ l1 t173 _ ?side1 ?side2 ?side3 ?side4 A3.out).mono ?_);(case side1=>repeat (first|exact (Kd.R_reads' HO0.out).2.2|(with_reducible refine Kd.zbv ?_ _)|(with_reducible refine Kd.zbw ?_ _)|(with_reducible refine Kd.zc8 ?_)));(case side2=>exact (Kd.R_reads' HO0.out).2.1);(case side3=>exact Kd.zcy HR1.out q9);(case side4=>exact HC1.out);rintro e w' ⟨rfl,⟨nd,rfl⟩⟩;refine ⟨_,rfl,?_⟩))
  go_ret2
  exact ⟨_,_,q8,q26,by (with_reducible repeat (first|apply Kd.zb1|apply Kd.zb2|apply Kd.zb9));exact Kd.zbm HO0.out (fun _ hk=>⟨hk,(by simp [Value.ownBlock])⟩),q2,q9⟩
 ·rw [if_neg c4] at H
  have c4b0:decide (t173<0)=false:=decide_eq_false c4;clear c4
  by_cases c6:(l1.length:Int)=1
  ·rw [if_pos c6] at H
   have c6b0:((l1.length:Int) == 1)=true:=beq_iff_eq.mpr c6;have c6b1:((l1.length:Int) != 1)=false:=bne_eq_false_iff_eq.mpr c6;clear c6
   by_cases c7:0<(l1.length:Int)
   ·rw [if_pos c7] at H
    have c7b0:decide (0<(l1.length:Int))=true:=decide_eq_true c7;have c7b1:decide (0<l1.length)=true:=decide_eq_true (by omega);clear c7;replace H:=Option.bind_eq_some_iff.mp H;obtain ⟨⟨t175,t176⟩,A80,H⟩:=H;replace H:((zaz.f k (([t176]:List Int))).bind fun t182=>(some (t175,t182)))=some (r1,r2):=H;have A8:=za1.mk A80;clear A80
    obtain ⟨y179,hy179⟩:∃ y_:List Int,y_=(([t176]:List Int)):=⟨_,rfl⟩
    replace H:((zaz.f k y179).bind fun t182=>(some (t175,t182)))=some (r1,r2):=by first|(rw [hy179];with_reducible exact H)|(have H2_:=(Option.bind_some _ _).symm.trans H;rw [hy179];with_reducible exact H2_)|(have H2_:=(Option.bind_some _ _).symm.trans H;with_reducible exact H2_)|with_reducible exact H|(rw [hy179];exact H)|exact H
    have Ny179:=za1.mk hy179;clear hy179;replace H:=Option.bind_eq_some_iff.mp H;obtain ⟨t182,A90,H⟩:=H;replace H:(some (t175,t182))=some (r1,r2):=H;have A9:=za1.mk A90;clear A90;simp only [Option.some.injEq,Prod.mk.injEq] at H;obtain ⟨rfl,rfl⟩:=H;obtain ⟨Ao10,co10,eo10⟩:=Kd.zbn HO0.out;subst eo10;go_enter Tryd.func73,Tryd.ntmps73
    go_wp2_with (first|((with_reducible refine zan (f:=84) rfl ?_);refine goesL_ (some 16) rfl rfl Tryd.func84 (by kernel_rfl) rfl #[.slice Ao10 l0.length co10,.slice A1 l1.length c1] rfl q4 ?_;(with_reducible refine (zbt.calls k _ _ l0 _ _ l1 t173 _ ?side1 ?side2 ?side3 ?side4 A3.out).mono ?_);(case side1=>repeat (first|exact (Kd.R_reads' HO0.out).2.2|(with_reducible refine Kd.zbv ?_ _)|(with_reducible refine Kd.zbw ?_ _)|(with_reducible refine Kd.zc8 ?_)));(case side2=>exact (Kd.R_reads' HO0.out).2.1);(case side3=>exact Kd.zcy HR1.out q9);(case side4=>exact HC1.out);rintro e w' ⟨rfl,⟨nd,rfl⟩⟩;refine ⟨_,rfl,?_⟩;have p174:0≤(0:Int):=(by omega);have q174:0<(l1.length:Int):=of_decide_eq_true q0;obtain ⟨ad174,e174,hx174_0⟩:=Kd.at_int (Kd.zcy HR1.out HK.out) 0 p174 q174;cases e174;have qi174:(0<l1.length)=True:=eq_true (by omega);(try rw [show ((0:Int)).toNat=0 from rfl] at hx174_0);(try rw [Addr.add_zero'] at hx174_0);replace p174:=eq_true p174;replace q174:=eq_true q174)|((with_reducible refine zan (f:=85) rfl ?_);refine goesL_ (some 27) rfl rfl Tryd.func85 (by kernel_rfl) rfl #[.slice Ao10 l0.length co10,.int .u32 (rd l1 0)] rfl q4 ?_;(with_reducible refine (zbj.calls k _ _ l0 (rd l1 0) t175 t176 _ ?side1 ?side2 A8.out).mono ?_);(case side1=>repeat (first|exact (Kd.R_reads' HO0.out).2.2|(with_reducible refine Kd.zbv ?_ _)|(with_reducible refine Kd.zbw ?_ _)|(with_reducible refine Kd.zc8 ?_)));(case side2=>exact (Kd.R_reads' HO0.out).2.1);rintro e w11 ⟨v177,rfl,ho0,hb⟩;refine ⟨_,rfl,?_⟩;have HO178:=am (Kd.zc9 (Kd.R_new' (Kd.R_newM (M:=fun k_=>(P0_ k_∨w.heap.size≤k_)) ho0 (by first|exact HK.out.1|exact (show Kept w _ (fun k_=>P0_ k_) from by repeat (first|(with_reducible first|exact HK.out|apply Kept.alloc|apply Kept.drewN|apply Kept.drew)|exact HK.out)).1) (fun k_ h_=>.inr h_)) (Kd.R_lt q21)) (zbb q2));replace HO0:=am (Kd.R_elder' q21 (Kd.zct ho0) hb);replace HK:=am (Kept.below (S:=(fun k_=>P0_ k_)) q9 hb);replace HB:=am (zab q2 hb);(try clear hb);(try clear hb2);(try clear hk);(try clear hi);(try clear ho0))|((with_reducible refine zbr (N:=32) rfl ?_);refine Kd.R_lit (Kd.int .u32) _ 25 ?hg (N:=32) ?hd (xs:=([t176]:List Int)) (inner:=[.int .u32 t176]) (ok:=fun _=>True) (okp:=fun _=>True) ?hr ?hp (fun _ hk=>hk) trivial (Below.refl _ _) (Nat.le_refl _) (by simp) ?_;(case hd=>rfl);(case hg=>rfl);(case hr=>first|(go_simp;done)|(go_simp;rfl));(case hp=>exact (Reps.one (show Kd.M (Kd.int .u32) _ _ _ t176 [.int .u32 t176] from rfl) (Reps.none _ _)));intro v180 w12 ho13 hb hg_ hnew_;clear hg_ hnew_;(first|rw [← Ny179.out] at ho13|(simp only [Int.reduceToNat] at ho13;rw [← Ny179.out] at ho13));have HO181:=am (Kd.zc9 (Kd.R_new' (Kd.R_new' (Kd.R_newM (M:=fun k_=>(P0_ k_∨w.heap.size≤k_)) ho13 (by first|exact HK.out.1|exact (show Kept w _ (fun k_=>P0_ k_) from by repeat (first|(with_reducible first|exact HK.out|apply Kept.alloc|apply Kept.drewN|apply Kept.drew)|exact HK.out)).1) (fun k_ h_=>.inr h_)) (Kd.R_lt q21)) (Kd.R_lt (by (with_reducible repeat (first|apply Kd.zb1|apply Kd.zb2|apply Kd.zb9));exact HO178.out))) (zbb q2));replace HO0:=am (Kd.R_elder' q21 (Kd.zct ho13) hb);replace HO178:=am (Kd.R_elder' (by (with_reducible repeat (first|apply Kd.zb1|apply Kd.zb2|apply Kd.zb9));exact HO178.out) (Kd.zct ho13) hb);replace HK:=am (Kept.below (S:=(fun k_=>P0_ k_)) q9 hb);replace HB:=am (zab q2 hb);clear hb ho13;obtain ⟨Ao14,co14,eo14⟩:=Kd.zbn HO181.out;subst eo14)|((with_reducible refine zan (f:=83) rfl ?_);refine goesL_ (some 33) rfl rfl Tryd.func83 (by kernel_rfl) rfl #[.slice Ao14 y179.length co14] rfl q4 ?_;(with_reducible refine (zaz.calls k (fun k_=>some k_=(.slice Ao14 y179.length co14:Value).ownBlock) (.slice Ao14 y179.length co14) y179 t182 w0 _ ?side1 ?side2 A9.out).mono ?_);(case side1=>repeat (first|(with_reducible first|exact HB.out|apply zaw|apply zah|apply zar)|exact HB.out));(case side2=>exact Kd.zci rfl HO181.out);rintro e w15 ⟨v183,rfl,ho0,hb,hkp⟩;refine ⟨_,rfl,?_⟩;have n0_:=am (Kd.zbm (ok':=fun k_=>(P0_ k_∨w.heap.size≤k_)∧some k_≠(v177:Value).ownBlock∧some k_≠(v183:Value).ownBlock) (Kd.zd9 (HO0.out) hkp (fun k_ hk_ hs_=>(hk_.2) hs_)) (fun k_ hk_=>⟨hk_.1.1.1,hk_.1.1.2,fun e_=>Or.elim (ho0.1 k_ e_.symm) (fun hs_=>hk_.2.1 hs_) (fun hn_=>Nat.not_le.2 hk_.2.2 hn_)⟩));have n1_:=am (Kd.zbm (ok':=fun k_=>(P0_ k_∨w.heap.size≤k_)∧some k_≠(.slice Ao10 l0.length co10:Value).ownBlock∧some k_≠(v183:Value).ownBlock) (Kd.zd9 (HO178.out) hkp (fun k_ hk_ hs_=>(hk_.2) hs_)) (fun k_ hk_=>⟨hk_.1.1.1.1,hk_.1.1.2,fun e_=>Or.elim (ho0.1 k_ e_.symm) (fun hs_=>hk_.2.1 hs_) (fun hn_=>Nat.not_le.2 hk_.2.2 hn_)⟩));have n2_:=am (Kd.zbm (ok':=fun k_=>(P0_ k_∨w.heap.size≤k_)∧some k_≠(.slice Ao10 l0.length co10:Value).ownBlock∧some k_≠(v177:Value).ownBlock) ho0 (fun k_ hk_=>⟨Or.elim hk_ (fun hs_=>(HO181.out.1 k_ (hs_).symm).1.1.1) (fun hn_=>(.inr (Nat.le_trans (by first|exact HK.out.1|exact (show Kept w _ (fun k_=>P0_ k_) from by repeat (first|(with_reducible first|exact HK.out|apply Kept.alloc|apply Kept.drewN|apply Kept.drew)|exact HK.out)).1) hn_))),Or.elim hk_ (fun hs_=>fun e_=>(((HO0.out).1 k_ e_.symm).2) hs_) (fun hn_=>(Kd.fresh' (Kd.R_lt q21) k_ hn_)),Or.elim hk_ (fun hs_=>fun e_=>(((HO178.out).1 k_ e_.symm).2) hs_) (fun hn_=>(Kd.fresh' (Kd.R_lt (by (with_reducible repeat (first|apply Kd.zb1|apply Kd.zb2|apply Kd.zb9));exact HO178.out)) k_ hn_))⟩));have n3_:=am (Kept.then_ (S:=(fun k_=>P0_ k_)) q9 hkp (fun k_ hs_=>(fun e_=>(HO181.out.1 k_ e_.symm).1.1.1) hs_));have n4_:=am (hb);clear HO0;clear HO178;clear HK;clear HB;clear HO181;have HO0:=n0_;have HO178:=n1_;have HO184:=n2_;have HK:=n3_;have HB:=n4_;clear n0_ n1_ n2_ n3_ n4_;(try clear hb);(try clear hkp);(try clear ho0)))
    go_ret2
    exact ⟨_,_,q8,by (with_reducible repeat (first|apply Kd.zb1|apply Kd.zb2|apply Kd.zb9));exact Kd.zbm HO178.out (fun _ hk=>⟨hk.1,hk.2.2⟩),by (with_reducible repeat (first|apply Kd.zb1|apply Kd.zb2|apply Kd.zb9));exact Kd.zbm HO184.out (fun _ hk=>⟨hk.1,hk.2.2⟩),q2,q9⟩
   ·rw [if_neg c7] at H
    exact absurd H (by simp)
  ·rw [if_neg c6] at H
   exact absurd H (by simp)
theorem zco.one (a1:ByteArray) (h1:a1.size=1):∃ c:UInt8,a1=⟨#[c]⟩:=by
 have hlen:a1.data.toList.length=1:=by rw [← Lib.size_eq];exact h1
 match hh:a1.data.toList,hlen with
 | [c],_=>exact ⟨c,by rw [← Lib.mk_data a1,hh]⟩
def zco.f (a0:ByteArray) (a1:ByteArray):Option (ByteArray):=if a1.size=1 then (if (bt a1 0)<128 then (some (⟨(Lib.trimLeftS a0.data.toList a1.data.toList).toArray⟩:ByteArray)) else (none)) else (none)
theorem zco.calls (a0:ByteArray) (a1:ByteArray) (r:ByteArray) (w:World) (h:zco.f a0 a1=some r) :
 Calls Tryd.prog 71 #[.string a0,.string a1] w fun e w'=>e = .returned (.string r)∧Drawn0 w w':=by
 unfold zco.f at h
 by_cases h1:a1.size=1
 ·rw [if_pos h1] at h
  by_cases h2:bt a1 0<128
  ·rw [if_pos h2] at h
   obtain rfl:=Option.some.inj h;obtain ⟨c,rfl⟩:=zco.one a1 h1
   have hc:c.toNat<128:=by
    have:bt ⟨#[c]⟩ 0=(c.toNat:Int):=rfl
    omega
   refine (Tryd.strings_TrimLeft_one a0 c hc w).mono ?_;rintro e w' ⟨rfl,rfl⟩;refine ⟨?_,Drawn0.refl _⟩;rw [← Lib.trimLeftS_one]
  ·rw [if_neg h2] at h
   exact absurd h (by simp)
 ·rw [if_neg h1] at h
  exact absurd h (by simp)
def zbz.f (a0:ByteArray):Option (ByteArray):=(zco.f a0 (⟨#[0]⟩:ByteArray)).bind fun t103=>(some t103)
set_option maxHeartbeats 8000000 in
set_option maxRecDepth 100000 in
theorem zbz.calls (a0:ByteArray) (r:ByteArray) (w:World) (h:zbz.f a0=some r) :
 Calls Tryd.prog 64 #[.string a0] w fun e w'=>e = .returned (.string r)∧Drawn0 w w':=by
 have H:((zco.f a0 (⟨#[0]⟩:ByteArray)).bind fun t103=>(some t103))=some r:=h;clear h;replace H:=Option.bind_eq_some_iff.mp H;obtain ⟨t103,A20,H⟩:=H;replace H:(some t103)=some r:=H;have A2:=za1.mk A20;clear A20;obtain rfl:=Option.some.inj H;go_enter Tryd.func64,Tryd.ntmps64
 go_wp2_with (first|((with_reducible refine zan (f:=71) rfl ?_);refine goesL_ (some 4) rfl rfl Tryd.func71 (by kernel_rfl) rfl #[.string a0,.string (⟨#[0]⟩:ByteArray)] rfl q4 ?_;(with_reducible refine (zco.calls a0 (⟨#[0]⟩:ByteArray) t103 _ A2.out).mono ?_);rintro e w' ⟨rfl,⟨nd,rfl⟩⟩;refine ⟨_,rfl,?_⟩))
 go_ret;exact ⟨q5,q11⟩
def zba.l0:Nat→List Int→List Int→Int→Int→Option (ByteArray)
 | 0,_,_,_,_=>none
 | k+1,x0,x3,x10,x11=>if x11<x10 then (if 0≤(wrap64 (Int.tdiv x11 4)) then (if (wrap64 (Int.tdiv x11 4))<(x0.length:Int) then (if 0≤(wrap64 (8*(Int.tmod x11 4))) then (if 0≤(wrap64 ((wrap64 ((x3.length:Int)-1))-x11)) then (if (wrap64 ((wrap64 ((x3.length:Int)-1))-x11))<(x3.length:Int) then (zba.l0 k x0 (x3.set ((wrap64 ((wrap64 ((x3.length:Int)-1))-x11)):Int).toNat ((shr .u32 (rd x0 (wrap64 (Int.tdiv x11 4))) (wrap64 (8*(Int.tmod x11 4))))%256)) x10 (wrap64 (x11+1))) else (none)) else (none)) else (none)) else (none)) else (none)) else ((zbz.f (strOfNums x3)).bind fun t210=>(some t210))
def zba.f (k:Nat) (l0:List Int):Option (ByteArray):=if 0≤(wrap64 ((l0.length:Int)*4)) then (if (wrap64 ((l0.length:Int)*4):Int).toNat≤281474976710656 then ((some (List.replicate (wrap64 ((l0.length:Int)*4):Int).toNat 0:List Int)).bind fun y205=>(zba.l0 k l0 y205 (y205.length:Int) 0)) else (none)) else (none)
theorem zba.mono_l:∀ k,(∀ y0 y1 y2 y3,LeO (zba.l0 k y0 y1 y2 y3) (zba.l0 (k+1) y0 y1 y2 y3))
 | 0=>fun _ _ _ _ r h=>by simp [zba.l0] at h
 | k+1=>by
  have ih0:=zba.mono_l k
  ·intro y0 y1 y2 y3
   unfold zba.l0
   repeat' first
   | (with_reducible exact ih0 _ _ _ _)
   | (with_reducible exact LeO.refl _)
   | (with_reducible exact LeO.none _)
   | (with_reducible refine LeO.ite ?_ ?_)
   | (with_reducible refine LeO.bind ?_ (fun _=>?_))
   | exact ih0 _ _ _ _
   | exact LeO.none _
   | refine LeO.ite ?_ ?_
   | refine LeO.bind ?_ (fun _=>?_)
theorem zba.mono:∀ a0 k,LeO (zba.f k a0) (zba.f (k+1) a0):=by
 intro a0 k;have ih0:=zba.mono_l k;unfold zba.f
 repeat' first
  | (with_reducible exact ih0 _ _ _ _)
  | (with_reducible exact LeO.refl _)
  | (with_reducible exact LeO.none _)
  | (with_reducible refine LeO.ite ?_ ?_)
  | (with_reducible refine LeO.bind ?_ (fun _=>?_))
  | exact ih0 _ _ _ _
  | exact LeO.none _
  | refine LeO.ite ?_ ?_
  | refine LeO.bind ?_ (fun _=>?_)
set_option maxHeartbeats 8000000 in
set_option maxRecDepth 100000 in
theorem zba.calls (k:Nat) (A0:Option Addr) (c0:Nat) (l0:List Int) (r:ByteArray) (w:World) (hr0:Kd.C (Kd.int .u32) w A0 l0.length l0) (hc0:l0.length≤c0) (h:zba.f k l0=some r) :
 Calls Tryd.prog 74 #[.slice A0 l0.length c0] w fun e w'=>e = .returned (.string r)∧Below w.heap.size w w':=by
 have HR0:=za1.mk hr0;have HC0:=za1.mk hc0;clear hr0 hc0;have HB:=am (Below.refl w.heap.size w);have H:(if 0≤(wrap64 ((l0.length:Int)*4)) then (if (wrap64 ((l0.length:Int)*4):Int).toNat≤281474976710656 then ((some (List.replicate (wrap64 ((l0.length:Int)*4):Int).toNat 0:List Int)).bind fun y205=>(zba.l0 k l0 y205 (y205.length:Int) 0)) else (none)) else (none))=some r:=h;clear h
 obtain ⟨ji2,hji2⟩:∃ j_:Int,(wrap64 ((l0.length:Int)*4))=j_:=⟨_,rfl⟩
 replace H:(if 0≤(ji2) then (if (ji2:Int).toNat≤281474976710656 then ((some (List.replicate (ji2:Int).toNat 0:List Int)).bind fun y205=>(zba.l0 k l0 y205 (y205.length:Int) 0)) else (none)) else (none))=some r:=by first|(rw [hji2] at H;exact H)|(simp only [hji2] at H ⊢;exact H)
 have hji2w:(IntKind.i64.wrap ((l0.length:Int)*4))=ji2:=(i64_w _).trans hji2
 by_cases c3:0≤(ji2)
 ·rw [if_pos c3] at H
  have c3b0:=eq_true c3;have c3b1:decide (0≤(ji2))=true:=decide_eq_true c3;clear c3
  by_cases c4:(ji2:Int).toNat≤281474976710656
  ·rw [if_pos c4] at H
   have c4b0:=eq_true c4;have c4b1:decide ((ji2:Int).toNat≤281474976710656)=true:=decide_eq_true c4;clear c4
   obtain ⟨y205,hy205⟩:∃ y_:List Int,y_=(List.replicate (ji2:Int).toNat 0):=⟨_,rfl⟩
   replace H:(zba.l0 k l0 y205 (y205.length:Int) 0)=some r:=by first|(rw [hy205];with_reducible exact H)|(have H2_:=(Option.bind_some _ _).symm.trans H;rw [hy205];with_reducible exact H2_)|(have H2_:=(Option.bind_some _ _).symm.trans H;with_reducible exact H2_)|with_reducible exact H|(rw [hy205];exact H)|exact H
   have Ny205:=za1.mk hy205;clear hy205;have H':=za1.mk H;clear H;go_enter Tryd.func74,Tryd.ntmps74
   go_wp2_with (first|((with_reducible refine zbr (N:=8) rfl ?_);refine Kd.R_make (Kd.int .u8) _ 5 rfl (N:=8) rfl 22 _ _ rfl ji2 rfl rfl Tryd.underlying22 (.int .u8 0) 1 info5 rfl (by decide) (by omega) 0 (ok:=fun _=>True) (okp:=fun _=>True) rfl (fun _ hk=>hk) trivial (of_decide_eq_true q0) (Nat.le_trans (Nat.mul_le_mul_right _ (of_decide_eq_true q0:ji2.toNat≤281474976710656)) (by omega)) (Below.refl _ _) (Nat.le_refl _) ?_;intro v206 w5 ho6 hb hg_ hnew_;clear hg_ hnew_;(first|rw [← Ny205.out] at ho6|(simp only [Int.reduceToNat] at ho6;rw [← Ny205.out] at ho6));have HO207:=am (Kd.zc9 ho6 (zbb q2));replace HB:=am (zab q2 hb);clear hb ho6;obtain ⟨Ao7,co7,eo7⟩:=Kd.zbn HO207.out;subst eo7))
   go_loopg [11] k (fun kq v11 w'=>∃ (x3_1:List Int) (x11_1:Int),v11 = .int .i64 x11_1∧za1 (zba.l0 kq l0 x3_1 (y205.length:Int) x11_1=some r)∧za1 (kq≤k)∧za1 (Kd.R (Kd.int .u8) 5 w' w.heap.size (fun _=>True) (.slice Ao7 y205.length co7) x3_1)∧za1 (Below w.heap.size w w'))
   case atStart=>exact ⟨(y205),(0),q5,H',⟨Nat.le_refl _⟩,⟨by (with_reducible repeat (first|apply Kd.zb1|apply Kd.zb2|apply Kd.zb9));exact HO207.out⟩,⟨q2⟩⟩
   case round=>
    clear H';(try clear p2);(try clear c3);(try clear c3b0);(try clear c3b1);(try clear c4);(try clear c4b0);(try clear c4b1);(try clear p6);(try clear c7);obtain ⟨x3_1,x11_1,rfl,HA,HK1,HO_3,HB⟩:=hrel;have hl3_1:=(Kd.R_reads' HO_3.out).1;rw [hl3_1] at HO_3
    (try simp only [hl3_1])
    cases gk with
    | zero=>exact absurd HA.out (by simp [zba.l0])
    | succ k1=>
     have H:=HA.out;clear HA;simp only [zba.l0] at H
     by_cases c8:x11_1<(y205.length:Int)
     ·rw [if_pos c8] at H
      have c8b0:decide (x11_1<(y205.length:Int))=true:=decide_eq_true c8
      (try (have cX_:=c8b0;rw [hl3_1] at cX_))
      clear c8
      obtain ⟨ji9,hji9⟩:∃ j_:Int,(wrap64 (Int.tdiv x11_1 4))=j_:=⟨_,rfl⟩
      replace H:(if 0≤(ji9) then (if (ji9)<(l0.length:Int) then (if 0≤(wrap64 (8*(Int.tmod x11_1 4))) then (if 0≤(wrap64 ((wrap64 ((x3_1.length:Int)-1))-x11_1)) then (if (wrap64 ((wrap64 ((x3_1.length:Int)-1))-x11_1))<(x3_1.length:Int) then (zba.l0 k1 l0 (x3_1.set ((wrap64 ((wrap64 ((x3_1.length:Int)-1))-x11_1)):Int).toNat ((shr .u32 (rd l0 (ji9)) (wrap64 (8*(Int.tmod x11_1 4))))%256)) (y205.length:Int) (wrap64 (x11_1+1))) else (none)) else (none)) else (none)) else (none)) else (none))=some r:=by first|(rw [hji9] at H;exact H)|(simp only [hji9] at H ⊢;exact H)
      have hji9w:(IntKind.i64.wrap (Int.tdiv x11_1 4))=ji9:=(i64_w _).trans hji9
      by_cases c10:0≤(ji9)
      ·rw [if_pos c10] at H
       have c10b0:decide (0≤(ji9))=true:=decide_eq_true c10;clear c10
       by_cases c11:(ji9)<(l0.length:Int)
       ·rw [if_pos c11] at H
        have c11b0:decide ((ji9)<(l0.length:Int))=true:=decide_eq_true c11;clear c11
        obtain ⟨ji12,hji12⟩:∃ j_:Int,(wrap64 (8*(Int.tmod x11_1 4)))=j_:=⟨_,rfl⟩
        replace H:(if 0≤(ji12) then (if 0≤(wrap64 ((wrap64 ((x3_1.length:Int)-1))-x11_1)) then (if (wrap64 ((wrap64 ((x3_1.length:Int)-1))-x11_1))<(x3_1.length:Int) then (zba.l0 k1 l0 (x3_1.set ((wrap64 ((wrap64 ((x3_1.length:Int)-1))-x11_1)):Int).toNat ((shr .u32 (rd l0 (ji9)) (ji12))%256)) (y205.length:Int) (wrap64 (x11_1+1))) else (none)) else (none)) else (none))=some r:=by first|(rw [hji12] at H;exact H)|(simp only [hji12] at H ⊢;exact H)
        have hji12w:(IntKind.i64.wrap (8*(Int.tmod x11_1 4)))=ji12:=(i64_w _).trans hji12
        by_cases c13:0≤(ji12)
        ·rw [if_pos c13] at H
         have c13b0:=eq_true c13;have c13b1:decide (0≤(ji12))=true:=decide_eq_true c13;clear c13
         obtain ⟨ji14,hji14⟩:∃ j_:Int,(shr .u32 (rd l0 (ji9)) (ji12))=j_:=⟨_,rfl⟩
         replace H:(if 0≤(wrap64 ((wrap64 ((x3_1.length:Int)-1))-x11_1)) then (if (wrap64 ((wrap64 ((x3_1.length:Int)-1))-x11_1))<(x3_1.length:Int) then (zba.l0 k1 l0 (x3_1.set ((wrap64 ((wrap64 ((x3_1.length:Int)-1))-x11_1)):Int).toNat ((ji14)%256)) (y205.length:Int) (wrap64 (x11_1+1))) else (none)) else (none))=some r:=by first|(rw [hji14] at H;exact H)|(simp only [hji14] at H ⊢;exact H)
         have hji14_:((rd l0 (ji9))/2 ^ min (ji12).toNat 32)=ji14:=hji14;have hji14z:(ji12)≤32→((rd l0 (ji9))/2 ^ (ji12).toNat)=ji14:=shr_small hji14
         obtain ⟨ji15,hji15⟩:∃ j_:Int,(wrap64 ((wrap64 ((x3_1.length:Int)-1))-x11_1))=j_:=⟨_,rfl⟩
         replace H:(if 0≤(ji15) then (if (ji15)<(x3_1.length:Int) then (zba.l0 k1 l0 (x3_1.set ((ji15):Int).toNat ((ji14)%256)) (y205.length:Int) (wrap64 (x11_1+1))) else (none)) else (none))=some r:=by first|(rw [hji15] at H;exact H)|(simp only [hji15] at H ⊢;exact H)
         have hji15w:(IntKind.i64.wrap ((wrap64 ((x3_1.length:Int)-1))-x11_1))=ji15:=(i64_w _).trans hji15
         by_cases c16:0≤(ji15)
         ·rw [if_pos c16] at H
          have c16b0:decide (0≤(ji15))=true:=decide_eq_true c16;clear c16
          by_cases c17:(ji15)<(x3_1.length:Int)
          ·rw [if_pos c17] at H
           have c17b0:decide ((ji15)<(x3_1.length:Int))=true:=decide_eq_true c17;clear c17
           obtain ⟨y209,hy209⟩:∃ y_:List Int,y_=(x3_1.set ((ji15):Int).toNat ((ji14)%256)):=⟨_,rfl⟩
           replace H:(zba.l0 k1 l0 y209 (y205.length:Int) (wrap64 (x11_1+1)))=some r:=by first|(rw [hy209];with_reducible exact H)|(have H2_:=(Option.bind_some _ _).symm.trans H;rw [hy209];with_reducible exact H2_)|(have H2_:=(Option.bind_some _ _).symm.trans H;with_reducible exact H2_)|with_reducible exact H|(rw [hy209];exact H)|exact H
           have Ny209:=za1.mk hy209;clear hy209;have H':=za1.mk H;clear H;have p208:0≤((ji9):Int):=of_decide_eq_true q0;have q208:(ji9)<(l0.length:Int):=of_decide_eq_true q0;obtain ⟨ad208,e208,hx208_0⟩:=Kd.at_int HR0.out (ji9) p208 q208;cases e208;replace hx208_0:=(HB.out.cell (World.block_lt_of_cell? w _ hx208_0)).trans hx208_0;replace p208:=eq_true p208;replace q208:=eq_true q208;have p18:0≤((ji15):Int):=of_decide_eq_true q0;have q18:((ji15):Int)<((x3_1.length:Int):Int):=of_decide_eq_true q0;obtain ⟨go18,co18,eo18,g_a,gl18,cl18,HG18⟩:=Kd.R_form HO_3.out (by omega)
           (first|cases eo18|(injection eo18 with ea_ en_ ec_;(first|subst ea_|(injection ea_ with ea_;subst ea_));subst ec_;clear en_))
           have GB18:=za1.mk g_a;have GG18:=za1.mk HG18;clear g_a gl18 HG18;obtain ⟨hx18_0,hf18_0⟩:=Kd.R_celln 0 HO_3.out ((ji15):Int) p18 q18;replace p18:=eq_true p18;replace q18:=eq_true q18;have HP19:=Kd.R_putg HO_3.out ((ji15):Int) ((ji14)%256)
           go_wp2_with (first|((with_reducible refine gate_store (t:=5) (p:=30) rfl ?_);refine store_event (t:=5) (p:=30) (v:=?vo_w20) (w1:=(wr.setCell ⟨go18,((ji15):Int).toNat,none⟩ (.int .u8 ((ji14)%256)))) ?hg ?ho ?hn ?hr ?_;(case ho=>rfl);(case hg=>rfl);(case hn=>rfl);(case hr=>first|(go_simp;done)|(go_simp;rfl));intro w20 hw;have hg:wr.grownBy w20 (some go18):=(by rw [hw];exact HP19.2);have hp_:Kd.R (Kd.int .u8) 5 w20 w.heap.size (fun _=>True) (.slice (some ⟨go18,0,none⟩) x3_1.length co7) y209:=(by rw [hw,Ny209.out];exact HP19.1);clear HP19;replace HO_3:=am (hp_);replace HB:=am ((by rw [hw];exact zak (HB.out) GB18.out:Below w.heap.size w w20));clear hg hw hp_))
           (try simp only [← hl3_1])
           go_roundg k1
           case measure=>have:=HK1.out;omega
           case rel=>exact ⟨(y209),(wrap64 (x11_1+1)),q5,H',⟨q13⟩,⟨by (try simp only [hl3_1]);(with_reducible repeat (first|apply Kd.zb1|apply Kd.zb2|apply Kd.zb9));exact HO_3.out⟩,⟨q2⟩⟩
          ·rw [if_neg c17] at H
           exact absurd H (by simp)
         ·rw [if_neg c16] at H
          exact absurd H (by simp)
        ·rw [if_neg c13] at H
         exact absurd H (by simp)
       ·rw [if_neg c11] at H
        exact absurd H (by simp)
      ·rw [if_neg c10] at H
       exact absurd H (by simp)
     ·rw [if_neg c8] at H
      have c8b0:decide (x11_1<(y205.length:Int))=false:=decide_eq_false c8
      (try (have cX_:=c8b0;rw [hl3_1] at cX_))
      clear c8;replace H:=Option.bind_eq_some_iff.mp H;obtain ⟨t210,A210,H⟩:=H;replace H:(some t210)=some r:=H;have A21:=za1.mk A210;clear A210;obtain rfl:=Option.some.inj H;have hcv22:=zcn (P:=Tryd.prog) Tryd.underlying22 Tryd.underlying5 Tryd.underlying9 (Kd.zcr HO_3.out)
      go_wp2_with (first|((with_reducible refine zan (f:=64) rfl ?_);refine goesL_ (some 34) rfl rfl Tryd.func64 (by kernel_rfl) rfl #[.string (strOfNums x3_1)] rfl q4 ?_;(with_reducible refine (zbz.calls (strOfNums x3_1) t210 _ A21.out).mono ?_);rintro e w' ⟨rfl,⟨nd,rfl⟩⟩;refine ⟨_,rfl,?_⟩))
      go_ret;exact ⟨by first|rfl|(simp [zcp,zcq] <;> rfl)|(simp only [← hji2];first|rfl|(simp [zcp,zcq] <;> rfl))|(simp [*,zcp,zcq] <;> rfl),q2⟩
  ·rw [if_neg c4] at H
   exact absurd H (by simp)
 ·rw [if_neg c3] at H
  exact absurd H (by simp)
def zbf.l0:Nat→ByteArray→List Int→Int→Int→Option (List Int)
 | 0,_,_,_,_=>none
 | k+1,x0,x3,x12,x13=>if x13<x12 then (if 0≤(wrap64 (Int.tdiv x13 4)) then (if (wrap64 (Int.tdiv x13 4))<(x3.length:Int) then (if 0≤(wrap64 ((wrap64 ((x0.size:Int)-1))-x13)) then (if (wrap64 ((wrap64 ((x0.size:Int)-1))-x13))<(x0.size:Int) then (if 0≤(wrap64 (8*(Int.tmod x13 4))) then (zbf.l0 k x0 (x3.set ((wrap64 (Int.tdiv x13 4)):Int).toNat (Go.bits .or .u32 (rd x3 (wrap64 (Int.tdiv x13 4))) (shl .u32 ((bt x0 (wrap64 ((wrap64 ((x0.size:Int)-1))-x13)))%4294967296) (wrap64 (8*(Int.tmod x13 4)))))) x12 (wrap64 (x13+1))) else (none)) else (none)) else (none)) else (none)) else (none)) else ((zaz.f k x3).bind fun t116=>(some t116))
def zbf.f (k:Nat) (a0:ByteArray):Option (List Int):=if 0≤(wrap64 (Int.tdiv (wrap64 ((wrap64 ((a0.size:Int)+4))-1)) 4)) then (if (wrap64 (Int.tdiv (wrap64 ((wrap64 ((a0.size:Int)+4))-1)) 4):Int).toNat≤70368744177664 then (zbf.l0 k a0 (List.replicate (wrap64 (Int.tdiv (wrap64 ((wrap64 ((a0.size:Int)+4))-1)) 4):Int).toNat 0) (a0.size:Int) 0) else (none)) else (none)
theorem zbf.mono_l:∀ k,(∀ y0 y1 y2 y3,LeO (zbf.l0 k y0 y1 y2 y3) (zbf.l0 (k+1) y0 y1 y2 y3))
 | 0=>fun _ _ _ _ r h=>by simp [zbf.l0] at h
 | k+1=>by
  have ih0:=zbf.mono_l k
  ·intro y0 y1 y2 y3
   unfold zbf.l0
   repeat' first
   | (with_reducible exact ih0 _ _ _ _)
   | (with_reducible exact zaz.mono _ _)
   | (with_reducible exact LeO.refl _)
   | (with_reducible exact LeO.none _)
   | (with_reducible refine LeO.ite ?_ ?_)
   | (with_reducible refine LeO.bind ?_ (fun _=>?_))
   | exact ih0 _ _ _ _
   | exact zaz.mono _ _
   | exact LeO.none _
   | refine LeO.ite ?_ ?_
   | refine LeO.bind ?_ (fun _=>?_)
theorem zbf.mono:∀ a0 k,LeO (zbf.f k a0) (zbf.f (k+1) a0):=by
 intro a0 k;have ih0:=zbf.mono_l k;unfold zbf.f
 repeat' first
  | (with_reducible exact ih0 _ _ _ _)
  | (with_reducible exact zaz.mono _ _)
  | (with_reducible exact LeO.refl _)
  | (with_reducible exact LeO.none _)
  | (with_reducible refine LeO.ite ?_ ?_)
  | (with_reducible refine LeO.bind ?_ (fun _=>?_))
  | exact ih0 _ _ _ _
  | exact zaz.mono _ _
  | exact LeO.none _
  | refine LeO.ite ?_ ?_
  | refine LeO.bind ?_ (fun _=>?_)
def zbf.T5:Bool×List (List Nat×List Nat):=(true,[([],[]),([],[]),([1],[1]),([0,2],[0,2]),([3],[3]),([],[]),([],[]),([6],[6]),([7],[7]),([],[]),([8,9],[8,9]),([5,10],[5,10]),([11],[11]),([],[]),([13],[13]),([14],[14]),([12,15],[12,15]),([4,16],[4,16]),([0,2,0,1,2,3,4,5,6,7,8,9,10,11,12,13,14,15,16,17],[0,2]),([18,17,0,1,2,3,4,5,6,7,8,9,10,11,12,13,14,15,16,17],[17,18])])
def zbf.B5:List Nat:=[0,0,2,7,15,0,0,64,192,0,960,2016,4064,0,8192,24576,65504,131071,262143,524287]
theorem zbf.tab5:rtab .any (opsOf Tryd.f72 5)=zbf.T5:=by kernel_rfl
theorem zbf.bits5:waitsOk zbf.T5.2 zbf.B5=true:=by kernel_rfl
set_option maxHeartbeats 8000000 in
set_option maxRecDepth 100000 in
theorem zbf.calls (k:Nat) (a0:ByteArray) (r:List Int) (w:World) (h:zbf.f k a0=some r) :
 Calls Tryd.prog 72 #[.string a0] w fun e w'=>∃ v0_:Value,e = .returned (v0_)∧Kd.R (Kd.int .u32) 25 w' w.heap.size (fun _=>True) v0_ r∧Below w.heap.size w w':=by
 have HB:=am (Below.refl w.heap.size w);have H:(if 0≤(wrap64 (Int.tdiv (wrap64 ((wrap64 ((a0.size:Int)+4))-1)) 4)) then (if (wrap64 (Int.tdiv (wrap64 ((wrap64 ((a0.size:Int)+4))-1)) 4):Int).toNat≤70368744177664 then (zbf.l0 k a0 (List.replicate (wrap64 (Int.tdiv (wrap64 ((wrap64 ((a0.size:Int)+4))-1)) 4):Int).toNat 0) (a0.size:Int) 0) else (none)) else (none))=some r:=h;clear h
 obtain ⟨ji2,hji2⟩:∃ j_:Int,(wrap64 (Int.tdiv (wrap64 ((wrap64 ((a0.size:Int)+4))-1)) 4))=j_:=⟨_,rfl⟩
 replace H:(if 0≤(ji2) then (if (ji2:Int).toNat≤70368744177664 then (zbf.l0 k a0 (List.replicate (ji2:Int).toNat 0) (a0.size:Int) 0) else (none)) else (none))=some r:=by first|(rw [hji2] at H;exact H)|(simp only [hji2] at H ⊢;exact H)
 have hji2w:(IntKind.i64.wrap (Int.tdiv (wrap64 ((wrap64 ((a0.size:Int)+4))-1)) 4))=ji2:=(i64_w _).trans hji2
 by_cases c3:0≤(ji2)
 ·rw [if_pos c3] at H
  have c3b0:=eq_true c3;have c3b1:decide (0≤(ji2))=true:=decide_eq_true c3;clear c3
  by_cases c4:(ji2:Int).toNat≤70368744177664
  ·rw [if_pos c4] at H
   have c4b0:=eq_true c4;have c4b1:decide ((ji2:Int).toNat≤70368744177664)=true:=decide_eq_true c4;clear c4
   obtain ⟨y111,hy111⟩:∃ y_:List Int,y_=(List.replicate (ji2:Int).toNat 0):=⟨_,rfl⟩
   replace H:(zbf.l0 k a0 y111 (a0.size:Int) 0)=some r:=by first|(rw [hy111];with_reducible exact H)|(have H2_:=(Option.bind_some _ _).symm.trans H;rw [hy111];with_reducible exact H2_)|(have H2_:=(Option.bind_some _ _).symm.trans H;with_reducible exact H2_)|with_reducible exact H|(rw [hy111];exact H)|exact H
   have Ny111:=za1.mk hy111;clear hy111;have H':=za1.mk H;clear H;go_enter Tryd.func72,Tryd.ntmps72
   go_wp2_with (first|((with_reducible refine zbr (N:=10) rfl ?_);refine Kd.R_make (Kd.int .u32) _ 25 rfl (N:=10) rfl 128 _ _ rfl ji2 rfl rfl Tryd.underlying128 (.int .u32 0) 4 info25 rfl (by decide) (by omega) 0 (ok:=fun _=>True) (okp:=fun _=>True) rfl (fun _ hk=>hk) trivial (of_decide_eq_true q0) (Nat.le_trans (Nat.mul_le_mul_right _ (of_decide_eq_true q0:ji2.toNat≤70368744177664)) (by omega)) (Below.refl _ _) (Nat.le_refl _) ?_;intro v112 w5 ho6 hb hg_ hnew_;clear hg_ hnew_;(first|rw [← Ny111.out] at ho6|(simp only [Int.reduceToNat] at ho6;rw [← Ny111.out] at ho6));have HO113:=am (Kd.zc9 ho6 (zbb q2));replace HB:=am (zab q2 hb);clear hb ho6))
   go_loopg [13] k (fun kq v13 w'=>∃ (x3_1:List Int) (x13_1:Int),v13 = .int .i64 x13_1∧za1 (zbf.l0 kq a0 x3_1 (a0.size:Int) x13_1=some r)∧za1 (kq≤k)∧za1 (Kd.R (Kd.int .u32) 25 w' w.heap.size (fun _=>True) v112 x3_1)∧za1 (Below w.heap.size w w'))
   case atStart=>exact ⟨(y111),(0),q5,H',⟨Nat.le_refl _⟩,⟨by (with_reducible repeat (first|apply Kd.zb1|apply Kd.zb2|apply Kd.zb9));exact HO113.out⟩,⟨q2⟩⟩
   case round=>
    clear H';(try clear p2);(try clear c3);(try clear c3b0);(try clear c3b1);(try clear c4);(try clear c4b0);(try clear c4b1);(try clear p6);obtain ⟨x3_1,x13_1,rfl,HA,HK1,HO_3,HB⟩:=hrel
    cases gk with
    | zero=>exact absurd HA.out (by simp [zbf.l0])
    | succ k1=>
     have H:=HA.out;clear HA;simp only [zbf.l0] at H
     by_cases c7:x13_1<(a0.size:Int)
     ·rw [if_pos c7] at H
      have c7b0:decide (x13_1<(a0.size:Int))=true:=decide_eq_true c7;clear c7
      obtain ⟨ji8,hji8⟩:∃ j_:Int,(wrap64 (Int.tdiv x13_1 4))=j_:=⟨_,rfl⟩
      replace H:(if 0≤(ji8) then (if (ji8)<(x3_1.length:Int) then (if 0≤(wrap64 ((wrap64 ((a0.size:Int)-1))-x13_1)) then (if (wrap64 ((wrap64 ((a0.size:Int)-1))-x13_1))<(a0.size:Int) then (if 0≤(wrap64 (8*(Int.tmod x13_1 4))) then (zbf.l0 k1 a0 (x3_1.set ((ji8):Int).toNat (Go.bits .or .u32 (rd x3_1 (ji8)) (shl .u32 ((bt a0 (wrap64 ((wrap64 ((a0.size:Int)-1))-x13_1)))%4294967296) (wrap64 (8*(Int.tmod x13_1 4)))))) (a0.size:Int) (wrap64 (x13_1+1))) else (none)) else (none)) else (none)) else (none)) else (none))=some r:=by first|(rw [hji8] at H;exact H)|(simp only [hji8] at H ⊢;exact H)
      have hji8w:(IntKind.i64.wrap (Int.tdiv x13_1 4))=ji8:=(i64_w _).trans hji8
      by_cases c9:0≤(ji8)
      ·rw [if_pos c9] at H
       have c9b0:decide (0≤(ji8))=true:=decide_eq_true c9;clear c9
       by_cases c10:(ji8)<(x3_1.length:Int)
       ·rw [if_pos c10] at H
        have c10b0:decide ((ji8)<(x3_1.length:Int))=true:=decide_eq_true c10;clear c10
        obtain ⟨ji11,hji11⟩:∃ j_:Int,(wrap64 ((wrap64 ((a0.size:Int)-1))-x13_1))=j_:=⟨_,rfl⟩
        replace H:(if 0≤(ji11) then (if (ji11)<(a0.size:Int) then (if 0≤(wrap64 (8*(Int.tmod x13_1 4))) then (zbf.l0 k1 a0 (x3_1.set ((ji8):Int).toNat (Go.bits .or .u32 (rd x3_1 (ji8)) (shl .u32 ((bt a0 (ji11))%4294967296) (wrap64 (8*(Int.tmod x13_1 4)))))) (a0.size:Int) (wrap64 (x13_1+1))) else (none)) else (none)) else (none))=some r:=by first|(rw [hji11] at H;exact H)|(simp only [hji11] at H ⊢;exact H)
        have hji11w:(IntKind.i64.wrap ((wrap64 ((a0.size:Int)-1))-x13_1))=ji11:=(i64_w _).trans hji11
        by_cases c12:0≤(ji11)
        ·rw [if_pos c12] at H
         have c12b0:decide (0≤(ji11))=true:=decide_eq_true c12;clear c12
         by_cases c13:(ji11)<(a0.size:Int)
         ·rw [if_pos c13] at H
          have c13b0:decide ((ji11)<(a0.size:Int))=true:=decide_eq_true c13;clear c13
          obtain ⟨ji15,hji15⟩:∃ j_:Int,(wrap64 (8*(Int.tmod x13_1 4)))=j_:=⟨_,rfl⟩
          replace H:(if 0≤(ji15) then (zbf.l0 k1 a0 (x3_1.set ((ji8):Int).toNat (Go.bits .or .u32 (rd x3_1 (ji8)) (shl .u32 ((bt a0 (ji11))%4294967296) (ji15)))) (a0.size:Int) (wrap64 (x13_1+1))) else (none))=some r:=by first|(rw [hji15] at H;exact H)|(simp only [hji15] at H ⊢;exact H)
          have hji15w:(IntKind.i64.wrap (8*(Int.tmod x13_1 4)))=ji15:=(i64_w _).trans hji15
          by_cases c16:0≤(ji15)
          ·rw [if_pos c16] at H
           have c16b0:=eq_true c16;have c16b1:decide (0≤(ji15))=true:=decide_eq_true c16;clear c16
           obtain ⟨ji17,hji17⟩:∃ j_:Int,(shl .u32 ((bt a0 (ji11))%4294967296) (ji15))=j_:=⟨_,rfl⟩
           replace H:(zbf.l0 k1 a0 (x3_1.set ((ji8):Int).toNat (Go.bits .or .u32 (rd x3_1 (ji8)) (ji17))) (a0.size:Int) (wrap64 (x13_1+1)))=some r:=by first|(rw [hji17] at H;exact H)|(simp only [hji17] at H ⊢;exact H)
           have hji17_:(IntKind.u32.wrap (((bt a0 (ji11))%4294967296)*2 ^ min (ji15).toNat 32))=ji17:=hji17;have hji17z:(ji15)≤32→(IntKind.u32.wrap (((bt a0 (ji11))%4294967296)*2 ^ (ji15).toNat))=ji17:=shl_small hji17
           obtain ⟨y115,hy115⟩:∃ y_:List Int,y_=(x3_1.set ((ji8):Int).toNat (Go.bits .or .u32 (rd x3_1 (ji8)) (ji17))):=⟨_,rfl⟩
           replace H:(zbf.l0 k1 a0 y115 (a0.size:Int) (wrap64 (x13_1+1)))=some r:=by first|(rw [hy115];with_reducible exact H)|(have H2_:=(Option.bind_some _ _).symm.trans H;rw [hy115];with_reducible exact H2_)|(have H2_:=(Option.bind_some _ _).symm.trans H;with_reducible exact H2_)|with_reducible exact H|(rw [hy115];exact H)|exact H
           have Ny115:=za1.mk hy115;clear hy115;have H':=za1.mk H;clear H
           try go_wp2
           replace HO_3:=am (Kd.zb9 HO_3.out);replace HB:=am (zar HB.out);obtain ⟨Ao20,co20,eo20⟩:=Kd.zbn HO_3.out
           (first|subst eo20|(injection eo20 with f1_ f2_ f3_;have f4_:=f1_.symm;have f5_:=f3_.symm;clear f1_ f2_ f3_;subst f4_;subst f5_))
           have p114:0≤((ji8):Int):=of_decide_eq_true q0;have q114:(ji8)<(x3_1.length:Int):=of_decide_eq_true q0;obtain ⟨ad114,e114,hx114_0⟩:=Kd.at_int (Kd.R_reads' HO_3.out).2.2 (ji8) p114 q114;cases e114;replace p114:=eq_true p114;replace q114:=eq_true q114;have p14:0≤((ji11):Int):=of_decide_eq_true q0;have q14:(ji11)<(a0.size:Int):=of_decide_eq_true q0;have hx14:=bt_at a0 (ji11);replace p14:=eq_true p14;replace q14:=eq_true q14;have p18:0≤((ji8):Int):=of_decide_eq_true q0;have q18:((ji8):Int)<((x3_1.length:Int):Int):=of_decide_eq_true q0;obtain ⟨go18,co18,eo18,g_a,gl18,cl18,HG18⟩:=Kd.R_form HO_3.out (by omega)
           (first|cases eo18|(injection eo18 with ea_ en_ ec_;(first|subst ea_|(injection ea_ with ea_;subst ea_));subst ec_;clear en_))
           have GB18:=za1.mk g_a;have GG18:=za1.mk HG18;clear g_a gl18 HG18
           (first|simp only [add_plain] at hx114_0|skip)
           obtain ⟨hx18_0,hf18_0⟩:=Kd.R_celln 0 HO_3.out ((ji8):Int) p18 q18;replace p18:=eq_true p18;replace q18:=eq_true q18;have HP21:=Kd.R_putn HO_3.out ((ji8):Int) (Go.bits .or .u32 (rd x3_1 (ji8)) (ji17));rw [← Ny115.out] at HP21;have HQ21:=za1.mk HP21;clear HP21;refine start_ (n:=20) (S:=fun w'=>w'.cell? ⟨go18,((ji8)).toNat,none⟩=some (.int .u32 (rd x3_1 (ji8)))) (ds:=[19]) #[false,false,false,false,false,false,false,false,false,false,false,false,false,false,false,false,false,false,false,false] (by kernel_rfl) rfl rfl (hx114_0) (fun hHeld=>?_);refine with_tabW zbf.tab5 zbf.bits5 (fun HT_ HW_=>?_)
           generalize wr.drew=w19 at HO_3 HB GG18 HQ21 hf18_0 hx114_0 hx18_0 hHeld ⊢
           refine pp 0 16 rfl rfl ?_;refine pp 1 17 rfl rfl ?_;refine pp 2 18 rfl rfl ?_;refine pp 3 19 rfl rfl ?_;refine pp 5 21 rfl rfl ?_;refine pp 6 22 rfl rfl ?_;refine pp 7 23 rfl rfl ?_;refine pp 8 24 rfl rfl ?_;refine pp 9 25 rfl rfl ?_;refine pp 10 26 rfl rfl ?_;refine pp 13 29 rfl rfl ?_;refine pp 14 30 rfl rfl ?_;refine pp 15 31 rfl rfl ?_;refine take_ (i:=4) (N:=some 20) (v:=?_) (a':=?_) #[true,true,true,true,true,true,true,true,true,true,true,false,false,true,true,true,false,false,false,false] rfl rfl (zcs HT_.out HW_.out (by kernel_rfl)) (fun _ _ _ h=>h) (Or.inl ⟨by rfl,?_⟩) hHeld ?_ ?_;rotate_left
           ·intro w' s0
            go_simp
            with_reducible rfl
           rotate_left
           ·simp only [Act.put,List.setIfInBounds_toArray,List.set_cons_zero,List.set_cons_succ,i64_w,i32_w]
            rfl
           refine take_ (i:=11) (N:=some 27) (v:=?_) (a':=?_) #[true,true,true,true,true,true,true,true,true,true,true,true,false,true,true,true,false,false,false,false] rfl rfl (zcs HT_.out HW_.out (by kernel_rfl)) (fun _ _ _ h=>h) (Or.inl ⟨by rfl,?_⟩) hHeld ?_ ?_;rotate_left
           ·intro w' s0
            go_simp
            with_reducible rfl
           rotate_left
           ·simp only [Act.put,List.setIfInBounds_toArray,List.set_cons_zero,List.set_cons_succ,i64_w,i32_w]
            rfl
           refine pp 12 28 rfl rfl ?_;refine pp 16 32 rfl rfl ?_;refine pp 17 33 rfl rfl ?_;refine pp 18 34 rfl rfl ?_;refine last_ (i:=19) (N:=none) #[true,true,true,true,true,true,true,true,true,true,true,true,true,true,true,true,true,true,true,true] rfl rfl (one_of HT_.out (by kernel_rfl)) (by decide) (fun K hK=>?_);refine skip_ (w1:=?_) (by rfl) rfl ?_ ?_;rotate_left
           ·go_simp
            rfl
           refine hK.out _ _ ?_;clear hK K;refine done_ (done_of HT_.out (by kernel_rfl)) ?_
           try go_wp2
           go_roundg k1
           case measure=>have:=HK1.out;omega
           case rel=>exact ⟨(y115),(wrap64 (x13_1+1)),q5,H',⟨q13⟩,⟨by (with_reducible repeat (first|apply Kd.zb1|apply Kd.zb2|apply Kd.zb9));first|exact HQ21.out|(subst_vars;exact HQ21.out)⟩,⟨by repeat (first|(with_reducible first|exact HB.out|apply zaw|apply zah|apply zar|refine zak ?_ GB18.out)|exact HB.out)⟩⟩
          ·rw [if_neg c16] at H
           exact absurd H (by simp)
         ·rw [if_neg c13] at H
          exact absurd H (by simp)
        ·rw [if_neg c12] at H
         exact absurd H (by simp)
       ·rw [if_neg c10] at H
        exact absurd H (by simp)
      ·rw [if_neg c9] at H
       exact absurd H (by simp)
     ·rw [if_neg c7] at H
      have c7b0:decide (x13_1<(a0.size:Int))=false:=decide_eq_false c7;clear c7;replace H:=Option.bind_eq_some_iff.mp H;obtain ⟨t116,A220,H⟩:=H;replace H:(some t116)=some r:=H;have A22:=za1.mk A220;clear A220;obtain rfl:=Option.some.inj H;obtain ⟨Ao23,co23,eo23⟩:=Kd.zbn HO_3.out;subst eo23
      go_wp2_with (first|((with_reducible refine zan (f:=83) rfl ?_);refine goesL_ (some 37) rfl rfl Tryd.func83 (by kernel_rfl) rfl #[.slice Ao23 x3_1.length co23] rfl q4 ?_;(with_reducible refine (zaz.calls k1 (fun k_=>some k_=(.slice Ao23 x3_1.length co23:Value).ownBlock) (.slice Ao23 x3_1.length co23) x3_1 t116 w _ ?side1 ?side2 A22.out).mono ?_);(case side1=>repeat (first|(with_reducible first|exact HB.out|apply zaw|apply zah|apply zar)|exact HB.out));(case side2=>exact Kd.zci rfl HO_3.out);rintro e w24 ⟨v117,rfl,ho0,hb,hkp⟩;refine ⟨_,rfl,?_⟩;have n0_:=am (Kd.zbm (ok':=fun k_=>True) ho0 (fun k_ hk_=>trivial));have n1_:=am (hb);clear HB;clear HO_3;have HO118:=n0_;have HB:=n1_;clear n0_ n1_;(try clear hb);(try clear hkp);(try clear ho0)))
      go_ret;exact ⟨_,by first|rfl|(simp [zcp,zcq] <;> rfl)|(simp only [← hji2];first|rfl|(simp [zcp,zcq] <;> rfl))|(simp [*,zcp,zcq] <;> rfl),by (with_reducible repeat (first|apply Kd.zb1|apply Kd.zb2|apply Kd.zb9));exact HO118.out,q2⟩
  ·rw [if_neg c4] at H
   exact absurd H (by simp)
 ·rw [if_neg c3] at H
  exact absurd H (by simp)
def zc1.l0:Nat→List Int→List Int→Option (ByteArray)
 | 0,_,_=>none
 | k+1,x5,x6=>if (x6.length:Int)>0 then ((zcl.f k x5 x6).bind fun bt217=>(zc1.l0 k x6 bt217.2)) else ((zba.f k x5).bind fun t223=>(some t223))
def zc1.f (k:Nat) (a0:ByteArray) (a1:ByteArray):Option (ByteArray):=(zbf.f k a0).bind fun t211=>((zbf.f k a1).bind fun t214=>(zc1.l0 k t211 t214))
theorem zc1.mono_l:∀ k,(∀ y0 y1,LeO (zc1.l0 k y0 y1) (zc1.l0 (k+1) y0 y1))
 | 0=>fun _ _ r h=>by simp [zc1.l0] at h
 | k+1=>by
  have ih0:=zc1.mono_l k
  ·intro y0 y1
   unfold zc1.l0
   repeat' first
   | (with_reducible exact ih0 _ _)
   | (with_reducible exact zcl.mono _ _ _)
   | (with_reducible exact zba.mono _ _)
   | (with_reducible exact zbf.mono _ _)
   | (with_reducible exact LeO.refl _)
   | (with_reducible exact LeO.none _)
   | (with_reducible refine LeO.ite ?_ ?_)
   | (with_reducible refine LeO.bind ?_ (fun _=>?_))
   | exact ih0 _ _
   | exact zcl.mono _ _ _
   | exact zba.mono _ _
   | exact zbf.mono _ _
   | exact LeO.none _
   | refine LeO.ite ?_ ?_
   | refine LeO.bind ?_ (fun _=>?_)
theorem zc1.mono:∀ a0 a1 k,LeO (zc1.f k a0 a1) (zc1.f (k+1) a0 a1):=by
 intro a0 a1 k;have ih0:=zc1.mono_l k;unfold zc1.f
 repeat' first
  | (with_reducible exact ih0 _ _)
  | (with_reducible exact zcl.mono _ _ _)
  | (with_reducible exact zba.mono _ _)
  | (with_reducible exact zbf.mono _ _)
  | (with_reducible exact LeO.refl _)
  | (with_reducible exact LeO.none _)
  | (with_reducible refine LeO.ite ?_ ?_)
  | (with_reducible refine LeO.bind ?_ (fun _=>?_))
  | exact ih0 _ _
  | exact zcl.mono _ _ _
  | exact zba.mono _ _
  | exact zbf.mono _ _
  | exact LeO.none _
  | refine LeO.ite ?_ ?_
  | refine LeO.bind ?_ (fun _=>?_)
set_option maxHeartbeats 8000000 in
set_option maxRecDepth 100000 in
theorem zc1.calls (k:Nat) (a0:ByteArray) (a1:ByteArray) (r:ByteArray) (w:World) (h:zc1.f k a0 a1=some r) :
 Calls Tryd.prog 65 #[.string a0,.string a1] w fun e w'=>e = .returned (.string r)∧Below w.heap.size w w':=by
 have HB:=am (Below.refl w.heap.size w);have H:((zbf.f k a0).bind fun t211=>((zbf.f k a1).bind fun t214=>(zc1.l0 k t211 t214)))=some r:=h;clear h;replace H:=Option.bind_eq_some_iff.mp H;obtain ⟨t211,A30,H⟩:=H;replace H:((zbf.f k a1).bind fun t214=>(zc1.l0 k t211 t214))=some r:=H;have A3:=za1.mk A30;clear A30;replace H:=Option.bind_eq_some_iff.mp H;obtain ⟨t214,A40,H⟩:=H;replace H:(zc1.l0 k t211 t214)=some r:=H;have A4:=za1.mk A40;clear A40;have H':=za1.mk H;clear H;go_enter Tryd.func65,Tryd.ntmps65
 go_wp2_with (first|((with_reducible refine zan (f:=72) rfl ?_);refine goesL_ (some 10) rfl rfl Tryd.func72 (by kernel_rfl) rfl #[.string a0] rfl q4 ?_;(with_reducible refine (zbf.calls k a0 t211 _ A3.out).mono ?_);rintro e w5 ⟨v212,rfl,ho0,hb⟩;refine ⟨_,rfl,?_⟩;have HO213:=am (Kd.zc9 ho0 (zbb q2));replace HB:=am (zab q2 hb);(try clear hb);(try clear hb2);(try clear hk);(try clear hi);(try clear ho0))|((with_reducible refine zan (f:=72) rfl ?_);refine goesL_ (some 12) rfl rfl Tryd.func72 (by kernel_rfl) rfl #[.string a1] rfl q4 ?_;(with_reducible refine (zbf.calls k a1 t214 _ A4.out).mono ?_);rintro e w6 ⟨v215,rfl,ho0,hb⟩;refine ⟨_,rfl,?_⟩;have HO216:=am (Kd.zc9 (Kd.R_new' ho0 (Kd.R_lt (by (with_reducible repeat (first|apply Kd.zb1|apply Kd.zb2|apply Kd.zb9));exact HO213.out))) (zbb q2));replace HO213:=am (Kd.R_elder' (by (with_reducible repeat (first|apply Kd.zb1|apply Kd.zb2|apply Kd.zb9));exact HO213.out) (Kd.zct ho0) hb);replace HB:=am (zab q2 hb);(try clear hb);(try clear hb2);(try clear hk);(try clear hi);(try clear ho0)))
 go_loopg [5,6] k (fun kq v5 v6 w'=>∃ (x5_1:List Int) (x6_1:List Int),za1 (zc1.l0 kq x5_1 x6_1=some r)∧za1 (kq≤k)∧za1 (Kd.R (Kd.int .u32) 25 w' w.heap.size (fun k_=>some k_≠(v6:Value).ownBlock) v5 x5_1)∧za1 (Kd.R (Kd.int .u32) 25 w' w.heap.size (fun k_=>some k_≠(v5:Value).ownBlock) v6 x6_1)∧za1 (Below w.heap.size w w'))
 case atStart=>exact ⟨(t211),(t214),H',⟨Nat.le_refl _⟩,⟨by (with_reducible repeat (first|apply Kd.zb1|apply Kd.zb2|apply Kd.zb9));exact Kd.zbm HO213.out (fun _ hk=>hk.2)⟩,⟨by (with_reducible repeat (first|apply Kd.zb1|apply Kd.zb2|apply Kd.zb9));exact Kd.zbm HO216.out (fun _ hk=>hk.2)⟩,⟨q2⟩⟩
 case round=>
  clear H';(try clear p2);(try clear c6);obtain ⟨x5_1,x6_1,HA,HK1,HO_5,HO_6,HB⟩:=hrel
  cases gk with
  | zero=>exact absurd HA.out (by simp [zc1.l0])
  | succ k1=>
   have H:=HA.out;clear HA;simp only [zc1.l0] at H
   by_cases c7:(x6_1.length:Int)>0
   ·rw [if_pos c7] at H
    have c7b0:decide (0<(x6_1.length:Int))=true:=decide_eq_true c7;have c7b1:decide (0<x6_1.length)=true:=decide_eq_true (by omega);clear c7;replace H:=Option.bind_eq_some_iff.mp H;obtain ⟨⟨t217,t220⟩,A80,H⟩:=H;replace H:(zc1.l0 k1 x6_1 t220)=some r:=H;have A8:=za1.mk A80;clear A80;have H':=za1.mk H;clear H;obtain ⟨Ao9,co9,eo9⟩:=Kd.zbn HO_6.out;subst eo9;obtain ⟨Ao10,co10,eo10⟩:=Kd.zbn HO_5.out;subst eo10
    go_wp2_with (first|((with_reducible refine zan (f:=73) rfl ?_);refine goesL_ (some 19) rfl rfl Tryd.func73 (by kernel_rfl) rfl #[.slice Ao10 x5_1.length co10,.slice Ao9 x6_1.length co9] rfl q4 ?_;(with_reducible refine (zcl.calls k1 (fun k_=>some k_=(.slice Ao10 x5_1.length co10:Value).ownBlock) (.slice Ao10 x5_1.length co10) x5_1 _ _ x6_1 t217 t220 w _ ?side1 ?side2 ?side3 ?side4 A8.out).mono ?_);(case side1=>repeat (first|(with_reducible first|exact HB.out|apply zaw|apply zah|apply zar)|exact HB.out));(case side2=>exact Kd.zci rfl HO_5.out);(case side3=>exact Kd.C_kept_own (HO_6.out) (fun k_ hk_ hs_=>(hk_) hs_));(case side4=>exact (Kd.R_reads' HO_6.out).2.1);rintro e w11 ⟨v218,v221,rfl,ho0,ho1,hb,hkp⟩;refine ⟨_,rfl,?_⟩;have n0_:=am (Kd.zbm (ok':=fun k_=>some k_≠(v218:Value).ownBlock∧some k_≠(v221:Value).ownBlock) (Kd.zd9 (HO_6.out) hkp (fun k_ hk_ hs_=>(hk_) hs_)) (fun k_ hk_=>⟨fun e_=>Or.elim (ho0.1 k_ e_.symm).1 (fun hs_=>hk_.2.1 hs_) (fun hn_=>Nat.not_le.2 hk_.2.2 hn_),fun e_=>Or.elim (ho1.1 k_ e_.symm).1 (fun hs_=>hk_.2.1 hs_) (fun hn_=>Nat.not_le.2 hk_.2.2 hn_)⟩));have n1_:=am (Kd.zbm (ok':=fun k_=>some k_≠(v221:Value).ownBlock∧some k_≠(.slice Ao9 x6_1.length co9:Value).ownBlock) ho0 (fun k_ hk_=>⟨hk_.2,Or.elim hk_.1 (fun hs_=>fun e_=>(((HO_6.out).1 k_ e_.symm)) hs_) (fun hn_=>(Kd.fresh' (Kd.R_lt (by (with_reducible repeat (first|apply Kd.zb1|apply Kd.zb2|apply Kd.zb9));exact HO_6.out)) k_ hn_))⟩));have n2_:=am (Kd.zbm (ok':=fun k_=>some k_≠(v218:Value).ownBlock∧some k_≠(.slice Ao9 x6_1.length co9:Value).ownBlock) ho1 (fun k_ hk_=>⟨hk_.2,Or.elim hk_.1 (fun hs_=>fun e_=>(((HO_6.out).1 k_ e_.symm)) hs_) (fun hn_=>(Kd.fresh' (Kd.R_lt (by (with_reducible repeat (first|apply Kd.zb1|apply Kd.zb2|apply Kd.zb9));exact HO_6.out)) k_ hn_))⟩));have n3_:=am (hb);clear HO_6;clear HB;clear HO_5;have HO_6:=n0_;have HO219:=n1_;have HO222:=n2_;have HB:=n3_;clear n0_ n1_ n2_ n3_;(try clear hb);(try clear hkp);(try clear ho0);(try clear ho1)))
    go_roundg k1
    case measure=>have:=HK1.out;omega
    case rel=>exact ⟨(x6_1),(t220),H',⟨q13⟩,⟨by (with_reducible repeat (first|apply Kd.zb1|apply Kd.zb2|apply Kd.zb9));exact Kd.zbm HO_6.out (fun _ hk=>hk.2)⟩,⟨by (with_reducible repeat (first|apply Kd.zb1|apply Kd.zb2|apply Kd.zb9));exact Kd.zbm HO222.out (fun _ hk=>hk.2)⟩,⟨q2⟩⟩
   ·rw [if_neg c7] at H
    have c7b0:decide (0<(x6_1.length:Int))=false:=decide_eq_false c7;have c7b1:decide (0<x6_1.length)=false:=decide_eq_false (by omega);clear c7;replace H:=Option.bind_eq_some_iff.mp H;obtain ⟨t223,A120,H⟩:=H;replace H:(some t223)=some r:=H;have A12:=za1.mk A120;clear A120;obtain rfl:=Option.some.inj H;obtain ⟨Ao13,co13,eo13⟩:=Kd.zbn HO_6.out;subst eo13;obtain ⟨Ao14,co14,eo14⟩:=Kd.zbn HO_5.out;subst eo14
    go_wp2_with (first|((with_reducible refine zan (f:=74) rfl ?_);refine goesL_ (some 25) rfl rfl Tryd.func74 (by kernel_rfl) rfl #[.slice Ao14 x5_1.length co14] rfl q4 ?_;(with_reducible refine (zba.calls k1 _ _ x5_1 t223 _ ?side1 ?side2 A12.out).mono ?_);(case side1=>repeat (first|exact (Kd.R_reads' HO_5.out).2.2|(with_reducible refine Kd.zbv ?_ _)|(with_reducible refine Kd.zbw ?_ _)|(with_reducible refine Kd.zc8 ?_)));(case side2=>exact (Kd.R_reads' HO_5.out).2.1);rintro e w15 ⟨rfl,hb⟩;refine ⟨_,rfl,?_⟩;replace HO_5:=am (Kd.zbx q31 hb);replace HO_6:=am (Kd.zbx (by (with_reducible repeat (first|apply Kd.zb1|apply Kd.zb2|apply Kd.zb9));exact HO_6.out) hb);replace HB:=am (zab q2 hb);(try clear hb);(try clear hb2);(try clear hk);(try clear hi)))
    go_ret;exact ⟨q8,q2⟩
def zbs.j0:Nat→Bool→Bool→ByteArray→ByteArray→Option (Bool)
 | 0,_,_,_,_=>none
 | k+1,x16,x225000,x225001,x225002=>if x16=true then (some false) else (if x225001.toList=([]:List UInt8) then (if x225000=true then (some false) else (some (x225002.toList == ([]:List UInt8)))) else (if x225002.toList=([]:List UInt8) then (some true) else (if x225002.toList=([1]:List UInt8) then (some false) else ((zc1.f k x225001 x225002).bind fun t227=>(some (t227.toList == ([1]:List UInt8)))))))
def zbs.f (k:Nat) (a0_0:Bool) (a0_1:ByteArray) (a0_2:ByteArray):Option (Bool):=(zbz.f a0_1).bind fun t225=>(if t225.toList=a0_1.toList then ((zbz.f a0_2).bind fun t226=>(zbs.j0 k (t226.toList != a0_2.toList) a0_0 a0_1 a0_2)) else (zbs.j0 k true a0_0 a0_1 a0_2))
theorem zbs.mono_l:∀ k,(∀ y0 y1 y2 y3,LeO (zbs.j0 k y0 y1 y2 y3) (zbs.j0 (k+1) y0 y1 y2 y3))
 | 0=>fun _ _ _ _ r h=>by simp [zbs.j0] at h
 | k+1=>by
  have ih0:=zbs.mono_l k
  ·intro y0 y1 y2 y3
   unfold zbs.j0
   repeat' first
   | (with_reducible exact ih0 _ _ _ _)
   | (with_reducible exact zc1.mono _ _ _)
   | (with_reducible exact LeO.refl _)
   | (with_reducible exact LeO.none _)
   | (with_reducible refine LeO.ite ?_ ?_)
   | (with_reducible refine LeO.bind ?_ (fun _=>?_))
   | exact ih0 _ _ _ _
   | exact zc1.mono _ _ _
   | exact LeO.none _
   | refine LeO.ite ?_ ?_
   | refine LeO.bind ?_ (fun _=>?_)
theorem zbs.mono:∀ a0 a1 a2 k,LeO (zbs.f k a0 a1 a2) (zbs.f (k+1) a0 a1 a2):=by
 intro a0 a1 a2 k;have ih0:=zbs.mono_l k;unfold zbs.f
 repeat' first
  | (with_reducible exact ih0 _ _ _ _)
  | (with_reducible exact zc1.mono _ _ _)
  | (with_reducible exact LeO.refl _)
  | (with_reducible exact LeO.none _)
  | (with_reducible refine LeO.ite ?_ ?_)
  | (with_reducible refine LeO.bind ?_ (fun _=>?_))
  | exact ih0 _ _ _ _
  | exact zc1.mono _ _ _
  | exact LeO.none _
  | refine LeO.ite ?_ ?_
  | refine LeO.bind ?_ (fun _=>?_)
set_option maxHeartbeats 8000000 in
set_option maxRecDepth 100000 in
theorem zbs.calls (k:Nat) (a0_0:Bool) (a0_1:ByteArray) (a0_2:ByteArray) (r:Bool) (w:World) (h:zbs.f k a0_0 a0_1 a0_2=some r) :
 Calls Tryd.prog 53 #[.agg #[.bool a0_0,.string a0_1,.string a0_2]] w fun e w'=>e = .returned (.bool r)∧Below w.heap.size w w':=by
 have hu30:=Tryd.underlying30;have HB:=am (Below.refl w.heap.size w);have H:((zbz.f a0_1).bind fun t225=>(if t225.toList=a0_1.toList then ((zbz.f a0_2).bind fun t226=>(zbs.j0 k (t226.toList != a0_2.toList) a0_0 a0_1 a0_2)) else (zbs.j0 k true a0_0 a0_1 a0_2)))=some r:=h;clear h;have HC2:=za1.mk H;clear H;go_enter Tryd.func53,Tryd.ntmps53
 go_upto_region 1 with (first|((with_reducible refine zbr (N:=1) rfl ?_);refine zbq ?hg (N:=1) ?hd (cs:=#[.bool a0_0,.string a0_1,.string a0_2]) (t:=30) ?hr ?_;(case hd=>rfl);(case hg=>rfl);(case hr=>first|(go_simp;done)|(go_simp;rfl));intro g_a hg w3 hbox hb;have B_a:=am (hbox);have W_a:=am ((q48:w.heap.size≤g_a));have E_a:=am ((q48:w.heap.size≤g_a));replace HB:=am (zab q2 hb);clear hb hbox hg))
 repeat (go_quiet (first|((with_reducible refine zbr (N:=1) rfl ?_);refine zbq ?hg (N:=1) ?hd (cs:=#[.bool a0_0,.string a0_1,.string a0_2]) (t:=30) ?hr ?_;(case hd=>rfl);(case hg=>rfl);(case hr=>first|(go_simp;done)|(go_simp;rfl));intro g_a hg w3 hbox hb;have B_a:=am (hbox);have W_a:=am ((q48:w.heap.size≤g_a));have E_a:=am ((q48:w.heap.size≤g_a));replace HB:=am (zab q2 hb);clear hb hbox hg));go_upto_region 1 with (first|((with_reducible refine zbr (N:=1) rfl ?_);refine zbq ?hg (N:=1) ?hd (cs:=#[.bool a0_0,.string a0_1,.string a0_2]) (t:=30) ?hr ?_;(case hd=>rfl);(case hg=>rfl);(case hr=>first|(go_simp;done)|(go_simp;rfl));intro g_a hg w3 hbox hb;have B_a:=am (hbox);have W_a:=am ((q48:w.heap.size≤g_a));have E_a:=am ((q48:w.heap.size≤g_a));replace HB:=am (zab q2 hb);clear hb hbox hg)))
 (try simp only [Act.put,List.setIfInBounds_toArray,List.set_cons_zero,List.set_cons_succ])
 go_cut [16] (fun v16 wc=>∃ (kq:Nat) (x16_1:Bool),v16 = .bool x16_1∧za1 (zbs.j0 kq x16_1 a0_0 a0_1 a0_2=some r)∧za1 (kq≤k)∧za1 (wc.heap[g_a]?=some (.cells #[.bool a0_0,.string a0_1,.string a0_2] 30 (0,0)))∧za1 (Below w.heap.size w wc))
 case first=>
  have H:=HC2.out;clear HC2;replace H:=Option.bind_eq_some_iff.mp H;obtain ⟨t225,A40,H⟩:=H;replace H:(if t225.toList=a0_1.toList then ((zbz.f a0_2).bind fun t226=>(zbs.j0 k (t226.toList != a0_2.toList) a0_0 a0_1 a0_2)) else (zbs.j0 k true a0_0 a0_1 a0_2))=some r:=H;have A4:=za1.mk A40;clear A40
  by_cases c5:t225.toList=a0_1.toList
  ·rw [if_pos c5] at H
   have c5b0:(t225.toList == a0_1.toList)=true:=beq_iff_eq.mpr c5;have c5b1:(t225.toList != a0_1.toList)=false:=bne_eq_false_iff_eq.mpr c5;clear c5
   (first|rw [c5b0]|(simp only [i64_w,i32_w];rw [c5b0])|skip)
   replace H:=Option.bind_eq_some_iff.mp H;obtain ⟨t226,A60,H⟩:=H;replace H:(zbs.j0 k (t226.toList != a0_2.toList) a0_0 a0_1 a0_2)=some r:=H;have A6:=za1.mk A60;clear A60;have H':=za1.mk H;clear H;obtain ⟨c_a0,c_a1,c_a2⟩:=cs3 B_a.out;obtain ⟨f_a0,f_a1,f_a2⟩:=fs3 B_a.out
   go_wp2_with (first|(go_at_call 64;(with_reducible refine (zbz.calls a0_1 t225 _ A4.out).mono ?_);rintro e w' ⟨rfl,⟨nd,rfl⟩⟩;(try first|exact ⟨rfl,_,World.drewN_drewN _ _ _⟩|exact ⟨rfl,_,Eq.trans (World.drewN_drewN _ _ _) (congrArg (World.drewN _) (Nat.add_assoc _ _ _))⟩))|(go_at_call 64;(with_reducible refine (zbz.calls a0_2 t226 _ A6.out).mono ?_);rintro e w' ⟨rfl,⟨nd,rfl⟩⟩;(try first|exact ⟨rfl,_,World.drewN_drewN _ _ _⟩|exact ⟨rfl,_,Eq.trans (World.drewN_drewN _ _ _) (congrArg (World.drewN _) (Nat.add_assoc _ _ _))⟩)))
   repeat (go_quiet (first|(go_at_call 64;(with_reducible refine (zbz.calls a0_1 t225 _ A4.out).mono ?_);rintro e w' ⟨rfl,⟨nd,rfl⟩⟩;(try first|exact ⟨rfl,_,World.drewN_drewN _ _ _⟩|exact ⟨rfl,_,Eq.trans (World.drewN_drewN _ _ _) (congrArg (World.drewN _) (Nat.add_assoc _ _ _))⟩))|(go_at_call 64;(with_reducible refine (zbz.calls a0_2 t226 _ A6.out).mono ?_);rintro e w' ⟨rfl,⟨nd,rfl⟩⟩;(try first|exact ⟨rfl,_,World.drewN_drewN _ _ _⟩|exact ⟨rfl,_,Eq.trans (World.drewN_drewN _ _ _) (congrArg (World.drewN _) (Nat.add_assoc _ _ _))⟩)));try go_wp2_with (first|(go_at_call 64;(with_reducible refine (zbz.calls a0_1 t225 _ A4.out).mono ?_);rintro e w' ⟨rfl,⟨nd,rfl⟩⟩;(try first|exact ⟨rfl,_,World.drewN_drewN _ _ _⟩|exact ⟨rfl,_,Eq.trans (World.drewN_drewN _ _ _) (congrArg (World.drewN _) (Nat.add_assoc _ _ _))⟩))|(go_at_call 64;(with_reducible refine (zbz.calls a0_2 t226 _ A6.out).mono ?_);rintro e w' ⟨rfl,⟨nd,rfl⟩⟩;(try first|exact ⟨rfl,_,World.drewN_drewN _ _ _⟩|exact ⟨rfl,_,Eq.trans (World.drewN_drewN _ _ _) (congrArg (World.drewN _) (Nat.add_assoc _ _ _))⟩))))
   go_meet
   case rel=>exact ⟨_,((t226.toList != a0_2.toList)),q5,H',⟨q18⟩,⟨q1⟩,⟨q3⟩⟩
  ·rw [if_neg c5] at H
   have c5b0:(t225.toList == a0_1.toList)=false:=beq_eq_false_iff_ne.mpr c5;have c5b1:(t225.toList != a0_1.toList)=true:=bne_iff_ne.mpr c5
   (first|rw [c5b0]|(simp only [i64_w,i32_w];rw [c5b0])|skip)
   have H':=za1.mk H;clear H;obtain ⟨c_b0,c_b1,c_b2⟩:=cs3 B_a.out;obtain ⟨f_b0,f_b1,f_b2⟩:=fs3 B_a.out
   go_wp2_with (first|(go_at_call 64;(with_reducible refine (zbz.calls a0_1 t225 _ A4.out).mono ?_);rintro e w' ⟨rfl,⟨nd,rfl⟩⟩;(try first|exact ⟨rfl,_,World.drewN_drewN _ _ _⟩|exact ⟨rfl,_,Eq.trans (World.drewN_drewN _ _ _) (congrArg (World.drewN _) (Nat.add_assoc _ _ _))⟩)))
   repeat (go_quiet (first|(go_at_call 64;(with_reducible refine (zbz.calls a0_1 t225 _ A4.out).mono ?_);rintro e w' ⟨rfl,⟨nd,rfl⟩⟩;(try first|exact ⟨rfl,_,World.drewN_drewN _ _ _⟩|exact ⟨rfl,_,Eq.trans (World.drewN_drewN _ _ _) (congrArg (World.drewN _) (Nat.add_assoc _ _ _))⟩)));try go_wp2_with (first|(go_at_call 64;(with_reducible refine (zbz.calls a0_1 t225 _ A4.out).mono ?_);rintro e w' ⟨rfl,⟨nd,rfl⟩⟩;(try first|exact ⟨rfl,_,World.drewN_drewN _ _ _⟩|exact ⟨rfl,_,Eq.trans (World.drewN_drewN _ _ _) (congrArg (World.drewN _) (Nat.add_assoc _ _ _))⟩))))
   go_meet
   case rel=>exact ⟨_,(true),q5,H',⟨q18⟩,⟨q1⟩,⟨q3⟩⟩
 case rest=>
  clear HC2;(try clear p2);(try clear c5);(try clear c5b0);(try clear c5b1);(try clear c_a0 c_a1 c_a2 f_a0 f_a1 f_a2);(try clear c_b0 c_b1 c_b2 f_b0 f_b1 f_b2);obtain ⟨kq,x16_1,rfl,HA,HJ1,B_a,HB⟩:=hcut
  cases kq with
  | zero=>exact absurd HA.out (by simp [zbs.j0])
  | succ kj1=>
   have H:=HA.out;clear HA;simp only [zbs.j0] at H
   by_cases c9:x16_1=true
   ·subst c9
    have H1:(some false)=some r:=by rw [if_pos rfl] at H;exact H
    clear H;have H:=H1;clear H1;obtain rfl:=Option.some.inj H
    go_wp2
    repeat (go_quiet (fail);try go_wp2)
    go_ret;exact ⟨q8,q3⟩
   ·replace c9:=Bool.eq_false_iff.mpr c9
    subst c9
    have H1:(if a0_1.toList=([]:List UInt8) then (if a0_0=true then (some false) else (some (a0_2.toList == ([]:List UInt8)))) else (if a0_2.toList=([]:List UInt8) then (some true) else (if a0_2.toList=([1]:List UInt8) then (some false) else ((zc1.f kj1 a0_1 a0_2).bind fun t227=>(some (t227.toList == ([1]:List UInt8)))))))=some r:=by rw [if_neg (show ¬ (false=true) by decide)] at H;exact H
    clear H;have H:=H1;clear H1
    by_cases c10:a0_1.toList=([]:List UInt8)
    ·rw [if_pos c10] at H
     have c10b0:(a0_1.toList == ([]:List UInt8))=true:=beq_iff_eq.mpr c10;have c10b1:(a0_1.toList != ([]:List UInt8))=false:=bne_eq_false_iff_eq.mpr c10;clear c10
     by_cases c11:a0_0=true
     ·subst c11
      have H1:(some false)=some r:=by rw [if_pos rfl] at H;exact H
      clear H;have H:=H1;clear H1;obtain rfl:=Option.some.inj H;obtain ⟨c_c0,c_c1,c_c2⟩:=cs3 B_a.out;obtain ⟨f_c0,f_c1,f_c2⟩:=fs3 B_a.out
      go_wp2
      repeat (go_quiet (fail);try go_wp2)
      go_ret;exact ⟨q8,q3⟩
     ·replace c11:=Bool.eq_false_iff.mpr c11
      subst c11
      have H1:(some (a0_2.toList == ([]:List UInt8)))=some r:=by rw [if_neg (show ¬ (false=true) by decide)] at H;exact H
      clear H;have H:=H1;clear H1;obtain rfl:=Option.some.inj H;obtain ⟨c_d0,c_d1,c_d2⟩:=cs3 B_a.out;obtain ⟨f_d0,f_d1,f_d2⟩:=fs3 B_a.out
      go_wp2
      repeat (go_quiet (fail);try go_wp2)
      go_ret;exact ⟨q8,q3⟩
    ·rw [if_neg c10] at H
     have c10b0:(a0_1.toList == ([]:List UInt8))=false:=beq_eq_false_iff_ne.mpr c10;have c10b1:(a0_1.toList != ([]:List UInt8))=true:=bne_iff_ne.mpr c10
     by_cases c14:a0_2.toList=([]:List UInt8)
     ·rw [if_pos c14] at H
      have c14b0:(a0_2.toList == ([]:List UInt8))=true:=beq_iff_eq.mpr c14;have c14b1:(a0_2.toList != ([]:List UInt8))=false:=bne_eq_false_iff_eq.mpr c14;clear c14;obtain rfl:=Option.some.inj H;obtain ⟨c_e0,c_e1,c_e2⟩:=cs3 B_a.out;obtain ⟨f_e0,f_e1,f_e2⟩:=fs3 B_a.out
      go_wp2
      repeat (go_quiet (fail);try go_wp2)
      go_ret;exact ⟨q8,q3⟩
     ·rw [if_neg c14] at H
      have c14b0:(a0_2.toList == ([]:List UInt8))=false:=beq_eq_false_iff_ne.mpr c14;have c14b1:(a0_2.toList != ([]:List UInt8))=true:=bne_iff_ne.mpr c14
      by_cases c16:a0_2.toList=([1]:List UInt8)
      ·rw [if_pos c16] at H
       have c16b0:(a0_2.toList == ([1]:List UInt8))=true:=beq_iff_eq.mpr c16;have c16b1:(a0_2.toList != ([1]:List UInt8))=false:=bne_eq_false_iff_eq.mpr c16;clear c16;obtain rfl:=Option.some.inj H;obtain ⟨c_f0,c_f1,c_f2⟩:=cs3 B_a.out;obtain ⟨f_f0,f_f1,f_f2⟩:=fs3 B_a.out
       go_wp2
       repeat (go_quiet (fail);try go_wp2)
       go_ret;exact ⟨q8,q3⟩
      ·rw [if_neg c16] at H
       have c16b0:(a0_2.toList == ([1]:List UInt8))=false:=beq_eq_false_iff_ne.mpr c16;have c16b1:(a0_2.toList != ([1]:List UInt8))=true:=bne_iff_ne.mpr c16;replace H:=Option.bind_eq_some_iff.mp H;obtain ⟨t227,A180,H⟩:=H;replace H:(some (t227.toList == ([1]:List UInt8)))=some r:=H;have A18:=za1.mk A180;clear A180;obtain rfl:=Option.some.inj H;obtain ⟨c_g0,c_g1,c_g2⟩:=cs3 B_a.out;obtain ⟨f_g0,f_g1,f_g2⟩:=fs3 B_a.out
       go_wp2_with (first|(go_at_call 65;(with_reducible refine (zc1.calls kj1 a0_1 a0_2 t227 _ A18.out).mono ?_);rintro e w20 ⟨rfl,hb⟩;replace B_a:=am (zaf q1 hb);replace HB:=am (zab q3 hb);(try clear hb);(try clear hb2);(try clear hk);(try clear hi)))
       repeat (go_quiet (first|(go_at_call 65;(with_reducible refine (zc1.calls kj1 a0_1 a0_2 t227 _ A18.out).mono ?_);rintro e w20 ⟨rfl,hb⟩;replace B_a:=am (zaf q1 hb);replace HB:=am (zab q3 hb);(try clear hb);(try clear hb2);(try clear hk);(try clear hi)));try go_wp2_with (first|(go_at_call 65;(with_reducible refine (zc1.calls kj1 a0_1 a0_2 t227 _ A18.out).mono ?_);rintro e w20 ⟨rfl,hb⟩;replace B_a:=am (zaf q1 hb);replace HB:=am (zab q3 hb);(try clear hb);(try clear hb2);(try clear hk);(try clear hi))))
       go_ret;exact ⟨q8,q3⟩
structure WS (w:World) (base p:Nat) (v:Value) (xs:List Int) (ok:Bool):Prop where
 c0:w.cell? ⟨p,0,none⟩=some v
 c1:w.cell? ⟨p,1,none⟩=some (.bool ok)
 f0:w.frozen? ⟨p,0,none⟩=false
 f1:w.frozen? ⟨p,1,none⟩=false
 own:w.ownsRow base 5 1 v xs.length (nums .u8 xs)
 ne:v.ownBlock≠some p
 pb:base≤p
 pl:p<w.heap.size
def Wk (w w':World) (p:Nat) (v v':Value):Prop:=Kept w w' (fun k=>k=p∨some k=v.ownBlock)∧(v'.ownBlock=v.ownBlock ∨ ∃ b,v'.ownBlock=some b∧w.heap.size≤b)
theorem Wk.refl (w:World) (p:Nat) (v:Value):Wk w w p v v:=⟨Kept.refl _ _,.inl rfl⟩
theorem Wk.trans {w w1 w2:World} {p:Nat} {v v1 v2:Value} (h:Wk w w1 p v v1) (k:Wk w1 w2 p v1 v2):Wk w w2 p v v2:=by
 refine ⟨h.1.then_ k.1 ?_,?_⟩
 ·rintro q (rfl|hq)
  ·exact .inl (.inl rfl)
  ·rcases h.2 with h2|⟨b,h2,h3⟩
   ·exact .inl (.inr (by rw [hq,h2]))
   ·rw [h2] at hq
    obtain rfl:=Option.some.inj hq;exact .inr h3
 ·rcases k.2 with k2|⟨b,k2,k3⟩
  ·rcases h.2 with h2|⟨b,h2,h3⟩
   ·exact .inl (k2.trans h2)
   ·exact .inr ⟨b,k2.trans h2,h3⟩
  ·exact .inr ⟨b,k2,Nat.le_trans h.1.1 k3⟩
theorem WS.below {w w1:World} {base p:Nat} {v:Value} {xs:List Int} {ok:Bool} (h:WS w base p v xs ok) (hb:Below w.heap.size w w1):WS w1 base p v xs ok:=
 { c0:=(hb.cell (p:=⟨p,0,none⟩) h.pl).trans h.c0,c1:=(hb.cell (p:=⟨p,1,none⟩) h.pl).trans h.c1,f0:=(hb.frozen (p:=⟨p,0,none⟩) h.pl).trans h.f0,f1:=(hb.frozen (p:=⟨p,1,none⟩) h.pl).trans h.f1,own:=pw_own_below h.own hb,ne:=h.ne,pb:=h.pb,pl:=Nat.lt_of_lt_of_le h.pl hb.size }
theorem WS.drewN {w:World} {base p:Nat} {v:Value} {xs:List Int} {ok:Bool} (h:WS w base p v xs ok) (m:Nat):WS (w.drewN m) base p v xs ok:=h.below (zah (Below.refl _ _) m)
theorem set_grown (w:World) (p i:Nat) (u:Value):w.grownBy (w.setCell ⟨p,i,none⟩ u) (some p):=⟨rfl,rfl,rfl,by simp,fun k _ hk=>heap_setCell_other w ⟨p,i,none⟩ k _ (fun e=>hk (by simp [e]))⟩
theorem WS.setOk {w:World} {base p:Nat} {v:Value} {xs:List Int} {ok:Bool} (h:WS w base p v xs ok) (b:Bool):WS (w.setCell ⟨p,1,none⟩ (.bool b)) base p v xs b:=
 { c0:=(World.cell?_setCell_other _ _ _ _ (by simp)).trans h.c0,c1:=World.cell?_setCell_same _ _ _ h.c1,f0:=(World.frozen?_setCell _ _ _ _).trans h.f0,f1:=(World.frozen?_setCell _ _ _ _).trans h.f1,own:=own_other h.own (set_grown w p 1 _) (.inr h.ne),ne:=h.ne,pb:=h.pb,pl:=Nat.lt_of_lt_of_le h.pl (set_grown w p 1 (.bool b)).size }
theorem blk_cells {w w1:World} {p:Nat} (h:w1.heap[p]?=w.heap[p]?) (i:Nat):w1.cell? ⟨p,i,none⟩=w.cell? ⟨p,i,none⟩∧w1.frozen? ⟨p,i,none⟩=w.frozen? ⟨p,i,none⟩:=by
 constructor
 ·simp only [World.cell?,h]
 ·simp only [World.frozen?,h]
theorem WS.row {w:World} {base p:Nat} {v:Value} {xs:List Int} {ok:Bool} (h:WS w base p v xs ok) {v1:Value} {w1:World} (hg:w.grownBy w1 v.ownBlock) (hat:v1.ownBlock=v.ownBlock ∨ ∃ b,v1.ownBlock=some b∧w.heap.size≤b) :
 w1.cell? ⟨p,0,none⟩=some v∧w1.cell? ⟨p,1,none⟩=some (.bool ok)∧w1.frozen? ⟨p,0,none⟩=false∧w1.frozen? ⟨p,1,none⟩=false∧v1.ownBlock≠some p∧p<w1.heap.size:=by
 have hb:w1.heap[p]?=w.heap[p]?:=hg.block p h.pl (fun e=>h.ne e.symm);refine ⟨(blk_cells hb 0).1.trans h.c0,(blk_cells hb 1).1.trans h.c1,(blk_cells hb 0).2.trans h.f0,(blk_cells hb 1).2.trans h.f1,?_,Nat.lt_of_lt_of_le h.pl hg.size⟩
 rcases hat with e|⟨b,e,hb2⟩
 ·rw [e];exact h.ne
 ·rw [e]
  intro e2;have:=Option.some.inj e2;have:=h.pl
  omega
theorem WS.setRow {w:World} {base p:Nat} {v:Value} {xs:List Int} {ok:Bool} (h:WS w base p v xs ok) {v1:Value} {ys:List Int} {w1:World} (ho:w1.ownsRow base 5 1 v1 ys.length (nums .u8 ys)) (hg:w.grownBy w1 v.ownBlock) (hat:v1.ownBlock=v.ownBlock ∨ ∃ b,v1.ownBlock=some b∧w.heap.size≤b):WS (w1.setCell ⟨p,0,none⟩ v1) base p v1 ys ok∧Wk w (w1.setCell ⟨p,0,none⟩ v1) p v v1:=by
 obtain ⟨a0,a1,a2,a3,a4,a5⟩:=h.row hg hat;refine ⟨{ c0:=World.cell?_setCell_same _ _ _ a0,c1:=(World.cell?_setCell_other _ _ _ _ (by simp)).trans a1,f0:=(World.frozen?_setCell _ _ _ _).trans a2,f1:=(World.frozen?_setCell _ _ _ _).trans a3,own:=own_other ho (set_grown w1 p 0 _) (.inr a4),ne:=a4,pb:=h.pb,pl:=Nat.lt_of_lt_of_le a5 (set_grown w1 p 0 v1).size },?_,hat⟩;exact (Kept.of_grown (S:=fun k=>k=p∨some k=v.ownBlock) hg (Kept.refl _ _) (fun k hk=>.inl (.inr hk.symm))).setCell (.inl (.inl rfl)) _
theorem WS.belowSet {w0 w:World} {base p:Nat} (hB:Below base w0 w) (hp:base≤p) (hs:base≤w.heap.size) (i:Nat) (u:Value):Below base w0 (w.setCell ⟨p,i,none⟩ u):=hB.grown (set_grown w p i u) hs (fun k hk=>by obtain rfl:=Option.some.inj hk;exact hp)
theorem first_ok {w0 w:World} {base p:Nat} {v:Value} {xs:List Int} {ok:Bool} (h:WS w base p v xs ok) (hB:Below base w0 w) (b:Bool):za1 (WS (w.setCell ⟨p,1,none⟩ (.bool b)) base p v xs b)∧za1 (Below base w0 (w.setCell ⟨p,1,none⟩ (.bool b)))∧za1 (Wk w (w.setCell ⟨p,1,none⟩ (.bool b)) p v v):=
 ⟨⟨h.setOk b⟩,⟨WS.belowSet hB h.pb (Nat.le_trans h.pb (Nat.le_of_lt h.pl)) 1 _⟩,⟨(Kept.refl _ _).setCell (.inl (.inl rfl)) _,.inl rfl⟩⟩
def vb:Nat→Int→List Int
 | 0,u=>[u%256]
 | f+1,u=>if 128≤u then Go.bits .or .u8 (u%256) 128 :: vb f (u/128) else [u%256]
def zz (n:Int):Int:=if n<0 then IntKind.u64.wrap (wrap64 (wrap64 (-2*n)-1)) else IntKind.u64.wrap (wrap64 (2*n))
def vbytes (n:Int):List Int:=vb 10 (zz n)
def small (n:Int):Bool:=decide (-1125899906842624≤n) && decide (n≤1125899906842624)
set_option maxHeartbeats 8000000 in
set_option maxRecDepth 100000 in
theorem writer_number.calls {w0 w:World} {base p:Nat} {v:Value} {xs:List Int} {ok:Bool} (n:Int) (hW:WS w base p v xs ok) (hB:Below base w0 w) (hl:xs.length+16≤140737488355328) :
 Calls Tryd.prog 41 #[.pointer (some ⟨p,0,none⟩),.int .i64 n] w fun e w'=>e = .returned (.tuple #[]) ∧ ∃ v',WS w' base p v' (xs ++ vbytes n) (ok && small n)∧Below base w0 w'∧Wk w w' p v v':=by
 have HW:=za1.mk hW;have HB:=za1.mk hB;have hu94:=Tryd.underlying94;clear hW hB;go_enter Tryd.func41,Tryd.ntmps41
 go_upto_region 0 with (fail)
 go_cut [] from 5 (fun wc=>za1 (WS wc base p v xs (ok && small n))∧za1 (Below base w0 wc)∧za1 (Wk w wc p v v))
 case first=>
  have c1:=HW.out.c1;have f1:=HW.out.f1
  cases ok with
  | false=>
   go_wp2
   go_meet
   case rel=>exact first_ok HW.out HB.out false
  | true=>
   by_cases ha : -1125899906842624≤n
   ·by_cases hb:n≤1125899906842624
    ·go_wp2
     go_meet
     case rel=>
      rw [show (true && small n)=true by simp [small,ha,hb]];exact first_ok HW.out HB.out true
    ·go_wp2
     go_meet
     case rel=>
      rw [show (true && small n)=false by simp only [small,decide_eq_false (show ¬ n≤1125899906842624 by omega),Bool.and_false]];exact first_ok HW.out HB.out false
   ·go_wp2
    go_meet
    case rel=>
     rw [show (true && small n)=false by simp only [small,decide_eq_false (show ¬ -1125899906842624≤n by omega),Bool.false_and,Bool.and_false]];exact first_ok HW.out HB.out false
 case rest=>
  obtain ⟨HW1,HB1,HK1⟩:=hcut;clear HW HB
  go_upto_if 24 with (fail)
  go_cut [4] from 5 (fun v4 wx=>v4 = .int .u64 (zz n)∧wx=wc)
  case first=>
   by_cases hn:n<0
   ·have hn':=decide_eq_true hn
    go_wp2
    go_meet
    case rel=>exact ⟨by unfold zz;rw [if_pos hn],rfl⟩
   ·have hn':=decide_eq_false hn
    go_wp2
    go_meet
    case rel=>exact ⟨by unfold zz;rw [if_neg (by omega)],rfl⟩
  case rest=>
   obtain ⟨e4,ew⟩:=hcut;subst ew e4
   have hz0:0≤zz n:=by unfold zz;split <;> (rw [IntKind.wrap_u64];omega)
   have hz1:zz n≤18446744073709551615:=by unfold zz;split <;> (rw [IntKind.wrap_u64];omega)
   go_wp2
   go_loopg [4] 10 (fun kq v4 w'=>∃ (u:Int) (ys:List Int) (v2:Value),v4 = .int .u64 u∧za1 (0≤u∧u<128*128 ^ kq∧u≤18446744073709551615∧ys ++ vb kq u=xs ++ vb 10 (zz n)∧ys.length+kq≤xs.length+10)∧za1 (WS w' base p v2 ys (ok && small n))∧za1 (Below base w0 w')∧za1 (Wk w w' p v v2))
   case atStart=>exact ⟨zz n,xs,v,rfl,⟨hz0,by omega,hz1,rfl,by omega⟩,HW1,HB1,HK1⟩
   case round=>
    clear HW1 HB1 HK1;obtain ⟨u,ys,v2,rfl,HA,HW,HB,HK⟩:=hrel;obtain ⟨A2,k2,rfl⟩:=zd2 HW.out.own;have c0:=HW.out.c0;have f0:=HW.out.f0
    by_cases hu:128≤u
    ·have hu':=decide_eq_true hu
     go_wp2_with (at_builtin;refine print_append_num (w0:=w0) base rfl (.tmp 35) (.tmp 39) 22 5 .u8 1 rfl Tryd.underlying22 info5 (by decide) _ ys _ rfl rfl ?hO ?hB ?hs ?hl ?_)
     case hO=>exact HW.out.own
     case hB=>exact HB.out
     case hs=>exact Nat.le_trans HW.out.pb (Nat.le_of_lt HW.out.pl)
     case hl=>
      have:=HA.out.2.2.2.2
      omega
     intro v1 w1 ho hb hg hat
     have ho:w1.ownsRow base 5 1 v1 (ys ++ [bits BinOp.or IntKind.u8 (u%256) 128]).length (nums IntKind.u8 (ys ++ [bits BinOp.or IntKind.u8 (u%256) 128])):=by simpa using ho
     obtain ⟨A1,k1,rfl⟩:=zd2 ho;obtain ⟨a0,a1,a2,a3,a4,a5⟩:=HW.out.row hg hat;have hset:=HW.out.setRow ho hg hat;have HW2:=za1.mk hset.1;have HK2:=am (HK.out.trans hset.2);have HB2:=am (WS.belowSet hb HW.out.pb (Nat.le_trans HW.out.pb (Nat.le_of_lt a5)) 0 (.slice A1 (ys ++ [bits BinOp.or IntKind.u8 (u%256) 128]).length k1));clear hset ho hb hg hat c0 f0 a1 a3 a4 a5 HK HB;have HW:=za1.mk HW.out
     go_wp2
     go_roundg (gk-1)
     case measure=>
      obtain ⟨h0,h1,h2,h3,h4⟩:=HA.out
      rcases Nat.eq_zero_or_pos gk with e|e
      ·rw [e] at h1;simp at h1;omega
      ·omega
     case rel=>
      obtain ⟨h0,h1,h2,h3,h4⟩:=HA.out
      obtain ⟨m,rfl⟩:∃ m,gk=m+1:=by
       rcases Nat.eq_zero_or_pos gk with e|e
       ·rw [e] at h1;simp at h1;omega
       ·exact ⟨gk-1,by omega⟩
      have e1:(ys ++ [bits BinOp.or IntKind.u8 (u%256) 128]).length=ys.length+1:=by simp
      rw [e1] at HW2 HK2 HB2;refine ⟨u/128,ys ++ [bits BinOp.or IntKind.u8 (u%256) 128],_,rfl,⟨by omega,?_,by omega,?_,?_⟩,HW2,HB2,HK2⟩
      ·rw [Nat.add_sub_cancel]
       rw [Int.pow_succ] at h1
       omega
      ·rw [Nat.add_sub_cancel,List.append_assoc,List.singleton_append,← h3]
       simp only [vb];rw [if_pos hu]
      ·rw [e1];omega
    ·have hu':=decide_eq_false hu
     go_wp2_with (at_builtin;refine print_append_num (w0:=w0) base rfl (.tmp 49) (.tmp 52) 22 5 .u8 1 rfl Tryd.underlying22 info5 (by decide) _ ys _ rfl rfl ?hO ?hB ?hs ?hl ?_)
     case hO=>exact HW.out.own
     case hB=>exact HB.out
     case hs=>exact Nat.le_trans HW.out.pb (Nat.le_of_lt HW.out.pl)
     case hl=>
      have:=HA.out.2.2.2.2
      omega
     intro v1 w1 ho hb hg hat
     have ho:w1.ownsRow base 5 1 v1 (ys ++ [u%256]).length (nums IntKind.u8 (ys ++ [u%256])):=by simpa using ho
     obtain ⟨A1,k1,rfl⟩:=zd2 ho;obtain ⟨a0,a1,a2,a3,a4,a5⟩:=HW.out.row hg hat;have hset:=HW.out.setRow ho hg hat;have HW2:=za1.mk hset.1;have HK2:=am (HK.out.trans hset.2);have HB2:=am (WS.belowSet hb HW.out.pb (Nat.le_trans HW.out.pb (Nat.le_of_lt a5)) 0 (.slice A1 (ys ++ [u%256]).length k1));clear hset ho hb hg hat c0 f0 a1 a3 a4 a5 HK HB
     go_wp2
     go_end0
     have e1:(ys ++ [u%256]).length=ys.length+1:=by simp
     rw [e1] at HW2 HK2 HB2;obtain ⟨h0,h1,h2,h3,h4⟩:=HA.out;refine ⟨rfl,_,?_,HB2.out,HK2.out⟩
     have e2:xs ++ vbytes n=ys ++ [u%256]:=by
      unfold vbytes;rw [← h3]
      cases gk with
      | zero=>rfl
      | succ m=>simp only [vb];rw [if_neg (by omega)]
     rw [e2];exact HW2.out
theorem vb_len (f:Nat):∀ u,(vb f u).length≤f+1:=by
 induction f with
 | zero=>intro u;simp [vb]
 | succ f ih=>
  intro u;simp only [vb]
  split
  ·have:=ih (u/128)
   simp only [List.length_cons];omega
  ·simp
theorem vbytes_len (n:Int):(vbytes n).length≤11:=vb_len 10 _
def nbytes (l:List Int):List Int:=l.flatMap vbytes
theorem nbytes_len (l:List Int):(nbytes l).length≤11*l.length:=by
 induction l with
 | nil=>exact Nat.le_refl _
 | cons x r ih=>
  have:=vbytes_len x;have e:nbytes (x :: r)=vbytes x ++ nbytes r:=rfl;rw [e,List.length_append,List.length_cons];omega
theorem take_rd {l:List Int} {i:Nat} (h:i<l.length):l.take (i+1)=l.take i ++ [rd l (i:Int)]:=by
 rw [← List.take_append_getElem h];unfold rd;rw [Int.toNat_natCast,List.getD_eq_getElem?_getD,List.getElem?_eq_getElem h]
 rfl
theorem nbytes_app (a b:List Int):nbytes (a ++ b)=nbytes a ++ nbytes b:=by unfold nbytes;rw [List.flatMap_append]
set_option maxHeartbeats 8000000 in
set_option maxRecDepth 100000 in
theorem writer_numbers.calls {w0 w:World} {base p:Nat} {v:Value} {xs:List Int} {ok:Bool} (A:Option Addr) (c:Nat) (l:List Int) (hW:WS w base p v xs ok) (hB:Below base w0 w) (hr:∀ W',Kept w W' (fun k=>k=p∨some k=v.ownBlock)→Kd.C (Kd.int .i64) W' A l.length l) (hll:l.length≤1000) (hl:xs.length+11*l.length+16≤140737488355328) :
 Calls Tryd.prog 39 #[.pointer (some ⟨p,0,none⟩),.slice A l.length c] w fun e w'=>e = .returned (.tuple #[]) ∧ ∃ v',WS w' base p v' (xs ++ nbytes l) (ok && l.all small)∧Below base w0 w'∧Wk w w' p v v':=by
 have HW0:=za1.mk hW;have HB0:=za1.mk hB;have HR:=za1.mk hr;clear hW hB hr;go_enter Tryd.func39,Tryd.ntmps39
 go_wp2
 go_loopg [8] (l.length+1) (fun kq v8 w'=>∃ (i:Nat) (v2:Value),v8 = .int .i64 (i:Int)∧za1 (i+kq=l.length+1∧i≤l.length)∧za1 (WS w' base p v2 (xs ++ nbytes (l.take i)) (ok && (l.take i).all small))∧za1 (Below base w0 w')∧za1 (Wk w w' p v v2))
 case atStart=>exact ⟨0,v,rfl,⟨by omega,by omega⟩,⟨by simpa [nbytes] using HW0.out⟩,HB0,⟨Wk.refl _ _ _⟩⟩
 case round=>
  clear HW0 HB0;obtain ⟨i,v2,rfl,HA,HW,HB,HK⟩:=hrel
  by_cases hi:(i:Int)<(l.length:Int)
  ·have hi1:=decide_eq_true hi
   have hil:i<l.length:=by omega
   have hi2:decide (0≤(i:Int))=true:=decide_eq_true (by omega);have hi3:decide (i<l.length)=true:=decide_eq_true hil;obtain ⟨ad,rfl,hx⟩:=Kd.at_int (HR.out _ HK.out.1) (i:Int) (by omega) hi;rw [Int.toNat_natCast] at hx
   have hlen:(xs ++ nbytes (l.take i)).length+16≤140737488355328:=by
    have:=nbytes_len (l.take i);rw [List.length_take] at this;rw [List.length_append];omega
   have HL:=za1.mk hlen;clear hlen
   go_wp2_with (go_at_call 41;(with_reducible refine (writer_number.calls (rd l (i:Int)) HW.out HB.out HL.out).mono ?_);rintro e w3 ⟨rfl,v3,hW3,hB3,hK3⟩;have HW3:=za1.mk hW3;have HB3:=za1.mk hB3;have HK3:=am (HK.out.trans hK3);clear hW3 hB3 hK3)
   go_roundg (gk-1)
   case measure=>have:=HA.out;omega
   case rel=>
    have ha:=HA.out;refine ⟨i+1,v3,?_,⟨by omega,by omega⟩,⟨?_⟩,HB3,HK3⟩
    ·first|rfl|(congr 1;done)|(congr 1;unfold wrap64;omega)
    ·rw [take_rd hil,nbytes_app,List.all_append,← List.append_assoc,← Bool.and_assoc]
     simpa [nbytes] using HW3.out
  ·have hi1:=decide_eq_false hi
   have hil:i=l.length:=by have:=HA.out;omega
   have hW:=HW.out;rw [hil,List.take_length] at hW;have HW:=za1.mk hW;clear hW
   go_wp2
   go_end0
   exact ⟨rfl,v2,HW.out,HB.out,HK.out⟩
theorem run_append_str {P:Program} (w:World) (base:Nat) (t u ty e:TypeId) (i:TypeInfo) (ht:P.underlying t=some (.slice e)) (hu:P.underlying u=some .string) (hi:P.info? e=some i) (hz:i.zero=some (.int .u8 0))
 (hsize:i.size=1) (hby:i.bytes=1) (v:Value) (n:Nat) (xs:List Value) (hown:w.ownsRow base e 1 v n xs) (s:ByteArray) (h63:n+s.size≤maxLen) (hbytes:n+s.size≤140737488355328) (hbase:base≤w.heap.size) :
 ∃ v' w',(Builtin.append_ #[t,u] ty #[v,.string s]).run P w = .ok v' w'∧w'.ownsRow base e 1 v' (n+s.size) (xs ++ Lib.strCells s)∧w.grownBy w' v.ownBlock∧(v'.ownBlock=v.ownBlock ∨ ∃ b,v'.ownBlock=some b∧w.heap.size≤b):=by
 obtain ⟨v',w',hr,h2,h3,h4⟩:=Lib.run_append_own_string (P:=P) w base t u ty e i ht hu hi hz hsize hby v n xs hown s h63 hbytes hbase;refine ⟨v',w',hr,h2,h3,?_⟩
 have hxl:xs.length=n:=by simpa using hown.1
 rcases hown.2 with ⟨rfl,rfl⟩|⟨g,cap,cur,rfl,hbg,hg,hnc,hcm,hcs,htake⟩
 ·by_cases hm:s.size=0
  ·rw [h4.2 ⟨rfl,hm⟩];exact .inl rfl
  ·have hr2:=run_append_nil_string (P:=P) w t u ty e i (.int .u8 0) ht hu hi hz s (by omega) (by simp only [maxLen] at h63;omega) (by rw [hby];omega)
   rw [hr2] at hr
   injection hr with e1 e2
   rw [← e1];exact .inr ⟨_,rfl,Nat.le_refl _⟩
 ·by_cases hroom:n+s.size≤cap
  ·have hcs':cur.size=cap:=by simpa using hcs
   have hr2:=Lib.run_append_room_string (P:=P) w t u ty e i ht hu hi hsize g n cap cur hg s hroom (by omega);rw [hr2] at hr
   injection hr with e1 e2
   rw [← e1];exact .inl rfl
  ·have holds:∀ j u,xs[j]?=some u→w.cell? ((⟨g,0,none⟩:Addr).add j)=some u:=hown.cells (g:=g) rfl
   have hr2:=Lib.run_append_grow_string (P:=P) w t u ty e i (.int .u8 0) ht hu hi hz ⟨g,0,none⟩ n cap xs (by rw [hsize];simpa using hxl) holds s (by omega) (by simp only [maxLen] at h63;omega) (by rw [hby];exact growslice_fits (by omega) (by omega));rw [hr2] at hr
   injection hr with e1 e2
   rw [← e1];exact .inr ⟨_,rfl,Nat.le_refl _⟩
theorem append_str {P:Program} {ops:Array Oper} {rest:List Oper} {o:Oper} {a:Act} {Q:Exit→Act→World→Prop} {w0 W:World} (base:Nat) (hgd:o.guard=none) (s x:Operand) (t u e:TypeId)
 (ho:o.op = .call { callee:=.builtin .append,args:=#[s,x],argTypes:=#[t,u] })
 (ht:P.underlying t=some (.slice e)) (hu:P.underlying u=some .string) (hinfo:(P.info? e).map (fun i=>(i.zero,i.size,i.bytes))=some (some (.int .u8 0),1,1))
 (v:Value) (xs:List Int) (y:ByteArray) (hs:a.eval s=v) (hx:a.eval x = .string y)
 (HO:W.ownsRow base e 1 v xs.length (nums .u8 xs)) (HB:Below base w0 W) (hbase:base≤W.heap.size) (hl:xs.length+y.size≤140737488355328)
 (h:∀ v1 w1,w1.ownsRow base e 1 v1 (xs ++ bytesOf y).length (nums .u8 (xs ++ bytesOf y))→Below base w0 w1→W.grownBy w1 v.ownBlock→(v1.ownBlock=v.ownBlock ∨ ∃ b,v1.ownBlock=some b∧W.heap.size≤b)→wpList P ops Q rest (a.put o.dst v1) w1) :
 wpList P ops Q (o :: rest) a W:=by
 obtain ⟨i0,hi,hzz⟩:=Option.map_eq_some_iff.1 hinfo;simp only [Prod.mk.injEq] at hzz;obtain ⟨hz0,hz1,hz2⟩:=hzz
 refine wpList_plain hgd fun K hK=>?_
 obtain ⟨v1,w1,hr,hown,hg,hat⟩:=run_append_str (P:=P) W base t u o.type e i0 ht hu hi hz0 hz1 hz2 v xs.length (nums .u8 xs) HO y (by simp only [maxLen];omega) hl hbase;unfold Oper.wp execOp;simp only [ho,resolve,invoke,builtin,Sem.run_bind,Sem.run_pure,Result.andThen_ok,List.map_toArray,List.map_cons,List.map_nil,hs,hx,hr];refine hK _ _ (h v1 w1 ?_ (HB.grown hg hbase (own_base HO)) hg hat)
 have hl2:(xs ++ bytesOf y).length=xs.length+y.size:=by rw [List.length_append,bytesOf_length]
 have hc:nums .u8 (xs ++ bytesOf y)=nums .u8 xs ++ Lib.strCells y:=by
  rw [nums_append]
  congr 1
  simp [nums,bytesOf,Lib.strCells]
 rw [hl2,hc];exact hown
def tbytes (s:ByteArray):List Int:=if s.size≤4096 then vbytes (s.size:Int) ++ bytesOf s else []
def toks4 (s:ByteArray):Bool:=decide (s.size≤4096)
theorem small_size {n:Nat} (h:n≤4096):small (n:Int)=true:=by
 unfold small;rw [decide_eq_true (by omega),decide_eq_true (by omega)]
 rfl
set_option maxHeartbeats 8000000 in
set_option maxRecDepth 100000 in
theorem writer_text.calls {w0 w:World} {base p:Nat} {v:Value} {xs:List Int} {ok:Bool} (s:ByteArray) (hW:WS w base p v xs ok) (hB:Below base w0 w) (hl:xs.length+5000≤140737488355328) :
 Calls Tryd.prog 54 #[.pointer (some ⟨p,0,none⟩),.string s] w fun e w'=>e = .returned (.tuple #[]) ∧ ∃ v',WS w' base p v' (xs ++ tbytes s) (ok && toks4 s)∧Below base w0 w'∧Wk w w' p v v':=by
 have HW:=za1.mk hW;have HB:=za1.mk hB;have hu94:=Tryd.underlying94;clear hW hB;go_enter Tryd.func54,Tryd.ntmps54
 by_cases hs:(s.size:Int)>4096
 ·have hs1:=decide_eq_true hs
  have c1:=HW.out.c1;have f1:=HW.out.f1
  go_wp2
  refine bodyPost_ret (results_none rfl _ _ _) rfl ?_;have h:=first_ok HW.out HB.out false;refine ⟨rfl,v,?_,h.2.1.out,h.2.2.out⟩;unfold tbytes toks4;rw [if_neg (by omega),decide_eq_false (by omega),Bool.and_false,List.append_nil];exact h.1.out
 ·have hs1:=decide_eq_false hs
  have hsz:s.size≤4096:=by omega
  have HS:=za1.mk hsz
  obtain ⟨ys,hy⟩:∃ ys,ys=xs ++ vbytes (s.size:Int):=⟨_,rfl⟩
  obtain ⟨zs,hz⟩:∃ zs,zs=ys ++ bytesOf s:=⟨_,rfl⟩
  have hyl:ys.length≤xs.length+11:=by
   have:=vbytes_len (s.size:Int);rw [hy,List.length_append];omega
  have HY:=za1.mk hy;have HZ:=za1.mk hz;have HYL:=za1.mk hyl;clear hy hz hsz hyl
  go_wp2_with (first|(go_at_call 41;(with_reducible refine (writer_number.calls (s.size:Int) HW.out HB.out (by omega)).mono ?_);rintro e w3 ⟨rfl,v3,hW3,hB3,hK3⟩;rw [← HY.out] at hW3;obtain ⟨A3,k3,rfl⟩:=zd2 hW3.own;have c0:=hW3.c0;have f0:=hW3.f0;have HW3:=za1.mk hW3;have HB3:=za1.mk hB3;have HK3:=za1.mk hK3;clear hW3 hB3 hK3)|(at_builtin;refine append_str (w0:=w0) base rfl (.tmp 18) (.tmp 19) 22 9 5 rfl Tryd.underlying22 Tryd.underlying9 info5 _ ys s rfl rfl HW3.out.own HB3.out ?hs ?hl ?_))
  case hs=>exact Nat.le_trans HW3.out.pb (Nat.le_of_lt HW3.out.pl)
  case hl=>
   have:=HYL.out;have:=HS.out
   omega
  intro v1 w1 ho hb hg hat
  have ho:w1.ownsRow base 5 1 v1 zs.length (nums .u8 zs):=by rw [HZ.out];simpa using ho
  obtain ⟨A1,k1,rfl⟩:=zd2 ho;obtain ⟨a0,a1,a2,a3,a4,a5⟩:=HW3.out.row hg hat;have hset:=HW3.out.setRow ho hg hat;have HW2:=za1.mk hset.1;have HK2:=am (HK3.out.trans hset.2);have HB2:=am (WS.belowSet hb HW3.out.pb (Nat.le_trans HW3.out.pb (Nat.le_of_lt a5)) 0 (.slice A1 zs.length k1));clear hset ho hb hg hat c0 f0 a1 a3 a4 a5 HK3 HB3
  go_wp2
  go_end0
  refine ⟨rfl,_,?_,HB2.out,HK2.out⟩;have h:=HW2.out;rw [HZ.out,HY.out,small_size HS.out,Bool.and_true] at h;unfold tbytes toks4;rw [if_pos HS.out,decide_eq_true HS.out,Bool.and_true,← List.append_assoc];rw [HZ.out,HY.out];exact h
def ratok (k:Nat) (ok neg:Bool) (num den:ByteArray):Option Bool:=if ok=true then (if num.size≤4096 then (if den.size≤4096 then zbs.f k neg num den else some false) else some false) else some false
def nb (neg:Bool):Int:=if neg=true then 1 else 0
def rbytes (neg:Bool) (num den:ByteArray):List Int:=vbytes (nb neg) ++ (tbytes num ++ tbytes den)
theorem small_nb (neg:Bool):small (nb neg)=true:=by cases neg <;> decide
theorem tbytes_len (s:ByteArray):(tbytes s).length≤4200:=by
 unfold tbytes
 split
 ·have:=vbytes_len (s.size:Int)
  rw [List.length_append,bytesOf_length];omega
 ·simp
theorem Wk.blk {w w1:World} {p g:Nat} {v v':Value} {o:Obj} (h:Wk w w1 p v v') (hb:w.heap[g]?=some o) (h1:g≠p) (h2:some g≠v.ownBlock):w1.heap[g]?=some o:=zcm hb h.1 (fun q=>q.elim h1 h2)
theorem Wk.ne {w w1:World} {p g:Nat} {v v':Value} (h:Wk w w1 p v v') (h2:some g≠v.ownBlock) (hg:g<w.heap.size):some g≠v'.ownBlock:=by
 rcases h.2 with e|⟨b,e,hb⟩
 ·rw [e];exact h2
 ·rw [e]
  intro q;have:=Option.some.inj q
  omega
set_option maxHeartbeats 8000000 in
set_option maxRecDepth 100000 in
theorem writer_rat.calls {w0 w:World} {base p:Nat} {v:Value} {xs:List Int} {ok:Bool} (k:Nat) (neg:Bool) (num den:ByteArray) (b:Bool) (hW:WS w base p v xs ok) (hB:Below base w0 w) (hl:xs.length+20000≤140737488355328) (h:ratok k ok neg num den=some b) :
 Calls Tryd.prog 40 #[.pointer (some ⟨p,0,none⟩),.agg #[.bool neg,.string num,.string den]] w fun e w'=>e = .returned (.tuple #[]) ∧ ∃ v',WS w' base p v' (xs ++ rbytes neg num den) (b && toks4 num && toks4 den)∧Below base w0 w'∧Wk w w' p v v':=by
 have HW0:=za1.mk hW;have HB0:=za1.mk hB;have HH:=za1.mk h;have hu94:=Tryd.underlying94;have hu30:=Tryd.underlying30;clear hW hB h;go_enter Tryd.func40,Tryd.ntmps40
 go_upto_region 1 with (first|((with_reducible refine zbr (N:=3) rfl ?_);refine zbq ?hg (N:=3) ?hd (cs:=#[.bool neg,.string num,.string den]) (t:=30) ?hr ?_;(case hd=>rfl);(case hg=>rfl);(case hr=>first|(go_simp;done)|(go_simp;rfl));intro gb hg w1 hbox hb;have HG:=za1.mk hg;have BK:=za1.mk hbox;have HB1:=za1.mk hb;clear hg hbox hb))
 (try simp only [Act.put,List.setIfInBounds_toArray,List.set_cons_zero,List.set_cons_succ])
 have hgp:gb≠p:=by have:=HG.out;have:=HW0.out.pl;omega
 have hgv:some gb≠v.ownBlock:=by
  intro e;have:=own_lt HW0.out.own gb e.symm;have:=HG.out
  omega
 have HGP:=za1.mk hgp;have HGV:=za1.mk hgv;have HW1:=am (HW0.out.below HB1.out);have HK1:=am (show Wk w w1 p v v from ⟨Kept.of_below HB1.out _,.inl rfl⟩);have HBB:=am (zcx HB0.out (Nat.le_trans HW0.out.pb (Nat.le_of_lt HW0.out.pl)) HB1.out);clear hgp hgv HW0 HB0 HB1
 go_cut [] from 5 (fun wc=>za1 (WS wc base p v xs b)∧za1 (wc.heap[gb]?=some (.cells #[.bool neg,.string num,.string den] 30 (0,0)))∧za1 (Below base w0 wc)∧za1 (Wk w wc p v v))
 case first=>
  have hcz0:w1.cell? ⟨gb,0,none⟩=some (.bool neg):=bc BK 0;have hcz1:w1.cell? ⟨gb,1,none⟩=some (.string num):=bc BK 1;have hcz2:w1.cell? ⟨gb,2,none⟩=some (.string den):=bc BK 2;have hfz0:=zau BK.out 0;have hfz1:=zau BK.out 1;have hfz2:=zau BK.out 2;have c1:=HW1.out.c1;have f1:=HW1.out.f1
  have hend:∀ (wx:World),Below w1.heap.size w1 wx→za1 (WS (wx.setCell ⟨p,1,none⟩ (.bool b)) base p v xs b)∧za1 ((wx.setCell ⟨p,1,none⟩ (.bool b)).heap[gb]?=some (.cells #[.bool neg,.string num,.string den] 30 (0,0)))∧za1 (Below base w0 (wx.setCell ⟨p,1,none⟩ (.bool b)))∧za1 (Wk w (wx.setCell ⟨p,1,none⟩ (.bool b)) p v v):=fun wx hx=>by
   have h1:=HW1.out.below hx;have h2:=zcx HBB.out (Nat.le_trans HW1.out.pb (Nat.le_of_lt HW1.out.pl)) hx;have h3:=first_ok h1 h2 b
   have h4:Wk w1 wx p v v:=⟨Kept.of_below hx _,.inl rfl⟩
   have h5:=h4.trans h3.2.2.out;exact ⟨h3.1,⟨h5.blk BK.out HGP.out HGV.out⟩,h3.2.1,⟨HK1.out.trans h5⟩⟩
  have HE:=za1.mk hend;clear hend
  cases ok with
  | false=>
   have hb:b=false:=by have:=HH.out;simp [ratok] at this;exact this
   subst hb
   go_wp2
   go_meet
   case rel=>exact HE.out w1 (Below.refl _ _)
  | true=>
   by_cases hn:(num.size:Int)≤4096
   ·by_cases hd:(den.size:Int)≤4096
    ·have HV:=am (show zbs.f k neg num den=some b by
      have:=HH.out;unfold ratok at this;rw [if_pos rfl,if_pos (by omega),if_pos (by omega)] at this
      exact this)
     have hn1:=decide_eq_true hn;have hd1:=decide_eq_true hd
     go_wp2_with (go_at_call 53;(with_reducible refine (zbs.calls k neg num den b _ HV.out).mono ?_);rintro e w2 ⟨rfl,hb2⟩;have c1:=(HW1.out.below hb2).c1;have f1:=(HW1.out.below hb2).f1;have HB2:=za1.mk hb2;clear hb2)
     go_meet
     case rel=>exact HE.out w2 HB2.out
    ·have hb:b=false:=by
      have:=HH.out;unfold ratok at this;rw [if_pos rfl,if_pos (by omega),if_neg (by omega)] at this;exact (Option.some.inj this).symm
     subst hb;have hn1:=decide_eq_true hn;have hd1:=decide_eq_false hd
     go_wp2
     go_meet
     case rel=>exact HE.out w1 (Below.refl _ _)
   ·have hb:b=false:=by
     have:=HH.out;unfold ratok at this;rw [if_pos rfl,if_neg (by omega)] at this;exact (Option.some.inj this).symm
    subst hb;have hn1:=decide_eq_false hn
    go_wp2
    go_meet
    case rel=>exact HE.out w1 (Below.refl _ _)
 case rest=>
  obtain ⟨HW2,B_a,HB2,HK2⟩:=hcut;clear HW1 BK HBB HK1 HH;have hcz0:wc.cell? ⟨gb,0,none⟩=some (.bool neg):=bc B_a 0;have hfz0:=zau B_a.out 0
  go_upto_if 29 with (fail)
  go_cut [4] from 5 (fun v4 wx=>v4 = .int .i64 (nb neg)∧wx=wc)
  case first=>
   cases neg with
   | true=>
    go_wp2
    go_meet
    case rel=>exact ⟨rfl,rfl⟩
   | false=>
    go_wp2
    go_meet
    case rel=>exact ⟨rfl,rfl⟩
  case rest=>
   obtain ⟨e4,ew⟩:=hcut;subst ew e4;clear hcz0 hfz0
   obtain ⟨y1,hy1⟩:∃ y,y=xs ++ vbytes (nb neg):=⟨_,rfl⟩
   obtain ⟨y2,hy2⟩:∃ y,y=y1 ++ tbytes num:=⟨_,rfl⟩
   obtain ⟨y3,hy3⟩:∃ y,y=y2 ++ tbytes den:=⟨_,rfl⟩
   have l1:=vbytes_len (nb neg);have l2:=tbytes_len num;have HL1:=am (show y1.length+5000≤140737488355328 by rw [hy1,List.length_append];omega);have HL2:=am (show y2.length+5000≤140737488355328 by rw [hy2,hy1,List.length_append,List.length_append];omega);have HY1:=za1.mk hy1;have HY2:=za1.mk hy2;have HY3:=za1.mk hy3;clear hy1 hy2 hy3 l1 l2
   go_upto_region 6 with (go_at_call 41;(with_reducible refine (writer_number.calls (nb neg) HW2.out HB2.out (by omega)).mono ?_);rintro e w3 ⟨rfl,v3,hW3,hB3,hK3⟩;rw [← HY1.out,small_nb,Bool.and_true] at hW3;have HW3:=za1.mk hW3;have HB3:=za1.mk hB3;have B_b:=am (hK3.blk B_a.out HGP.out HGV.out);have HGV3:=am (hK3.ne HGV.out (zcj B_a.out));have HK3:=am (HK2.out.trans hK3);clear hW3 hB3 hK3)
   have hcz1:w3.cell? ⟨gb,1,none⟩=some (.string num):=bc B_b 1;have hfz1:=zau B_b.out 1
   go_upto_region 7 with (go_at_call 54;(with_reducible refine (writer_text.calls num HW3.out HB3.out HL1.out).mono ?_);rintro e w4 ⟨rfl,v4,hW4,hB4,hK4⟩;rw [← HY2.out] at hW4;have HW4:=za1.mk hW4;have HB4:=za1.mk hB4;have B_c:=am (hK4.blk B_b.out HGP.out HGV3.out);have HGV4:=am (hK4.ne HGV3.out (zcj B_b.out));have HK4:=am (HK3.out.trans hK4);clear hW4 hB4 hK4)
   have hcz2:w4.cell? ⟨gb,2,none⟩=some (.string den):=bc B_c 2;have hfz2:=zau B_c.out 2
   go_wp2_with (go_at_call 54;(with_reducible refine (writer_text.calls den HW4.out HB4.out HL2.out).mono ?_);rintro e w5 ⟨rfl,v5,hW5,hB5,hK5⟩;rw [← HY3.out] at hW5;have HW5:=za1.mk hW5;have HB5:=za1.mk hB5;have HK5:=am (HK4.out.trans hK5);clear hW5 hB5 hK5)
   go_end0
   refine ⟨rfl,v5,?_,HB5.out,HK5.out⟩;have h:=HW5.out;rw [HY3.out,HY2.out,HY1.out] at h;unfold rbytes;rw [← List.append_assoc,← List.append_assoc];exact h
def wnums (st:Bool×List Int) (l:List Int):Bool×List Int:=(st.1 && l.all small,st.2 ++ nbytes l)
def wrat (k:Nat) (st:Bool×List Int) (neg:Bool) (num den:ByteArray):Option (Bool×List Int):=(ratok k st.1 neg num den).bind fun b=>some (b && toks4 num && toks4 den,st.2 ++ rbytes neg num den)
def wleg (st:Bool×List Int) (x:S49):Bool×List Int:=wnums st [x.f0,x.f1]
def wlegs (st:Bool×List Int) (l:List S49):Bool×List Int:=l.foldl wleg st
def wopt (k:Nat) (st:Bool×List Int) (x:S51):Option (Bool×List Int):=(wrat k st x.f0.f0 x.f0.f1 x.f0.f2).bind fun st=>some (wnums st [x.f1])
def wopts (k:Nat):Bool×List Int→List S51→Option (Bool×List Int)
 | st,[]=>some st
 | st,x :: r=>(wopt k st x).bind fun st=>wopts k st r
def wpay (st:Bool×List Int) (x:S55):Bool×List Int:=wnums (wnums st [x.f0.f0,x.f0.f1.f0,x.f0.f1.f1]) [x.f1]
def wpays (st:Bool×List Int) (l:List S55):Bool×List Int:=l.foldl wpay st
def zce.f (k:Nat) (a0_0:Int) (a0_1:Int) (a0_2:Int) (a0_3:Int) (a0_4:Int) (a0_5:Int) (a0_6:Bool) (a0_7:ByteArray) (a0_8:ByteArray) (a0_9:Bool) (a0_10:ByteArray) (a0_11:ByteArray) (l0_12:List (S49)) (l0_13:List (S51)) (l0_14:List (S55)):Option (List Int×Bool):=
 if l0_12.length>8∨l0_13.length>4∨l0_14.length>256 then some ([],false) else
 (wrat k (wnums (true,[]) [a0_0,a0_1,a0_2,a0_3,a0_4,a0_5]) a0_6 a0_7 a0_8).bind fun st=>(wrat k st a0_9 a0_10 a0_11).bind fun st=>
 (wopts k (wnums (wlegs (wnums st [(l0_12.length:Int)]) l0_12) [(l0_13.length:Int)]) l0_13).bind fun st=>
 some ((wpays (wnums st [(l0_14.length:Int)]) l0_14).2,(wpays (wnums st [(l0_14.length:Int)]) l0_14).1 && decide (((wpays (wnums st [(l0_14.length:Int)]) l0_14).2.length:Int)≤4096))
theorem wnums_len (st:Bool×List Int) (l:List Int):(wnums st l).2.length≤st.2.length+11*l.length:=by
 have:=nbytes_len l
 show (st.2 ++ nbytes l).length≤_
 rw [List.length_append];omega
theorem rbytes_len (neg:Bool) (num den:ByteArray):(rbytes neg num den).length≤9000:=by
 have h1:=vbytes_len (nb neg);have h2:=tbytes_len num;have h3:=tbytes_len den;unfold rbytes;rw [List.length_append,List.length_append];omega
theorem wrat_some {k:Nat} {st:Bool×List Int} {neg:Bool} {num den:ByteArray} {st':Bool×List Int} (h:wrat k st neg num den=some st'):∃ b,ratok k st.1 neg num den=some b∧st'=(b && toks4 num && toks4 den,st.2 ++ rbytes neg num den):=by
 obtain ⟨b,h1,h2⟩:=Option.bind_eq_some_iff.1 h;exact ⟨b,h1,(Option.some.inj h2).symm⟩
theorem wrat_len {k:Nat} {st:Bool×List Int} {neg:Bool} {num den:ByteArray} {st':Bool×List Int} (h:wrat k st neg num den=some st'):st'.2.length≤st.2.length+9000:=by
 obtain ⟨b,_,rfl⟩:=wrat_some h;have:=rbytes_len neg num den
 show (st.2 ++ rbytes neg num den).length≤_
 rw [List.length_append];omega
theorem wlegs_len (l:List S49):∀ st:Bool×List Int,(wlegs st l).2.length≤st.2.length+22*l.length:=by
 induction l with
 | nil=>intro st;exact Nat.le_refl _
 | cons x r ih=>
  intro st;have h1:=ih (wleg st x);have h2:=wnums_len st [x.f0,x.f1];have e:wlegs st (x :: r)=wlegs (wleg st x) r:=rfl;rw [e];simp only [List.length_cons,List.length_nil] at h2 ⊢;have e2:(wleg st x).2.length=(wnums st [x.f0,x.f1]).2.length:=rfl
  omega
theorem wopt_len {k:Nat} {st st':Bool×List Int} {x:S51} (h:wopt k st x=some st'):st'.2.length≤st.2.length+9011:=by
 obtain ⟨s1,h1,h2⟩:=Option.bind_eq_some_iff.1 h;have:=wrat_len h1;have h3:=wnums_len s1 [x.f1];rw [← Option.some.inj h2];simp only [List.length_cons,List.length_nil] at h3
 omega
theorem wopts_app {k:Nat} (a:List S51) (x:S51):∀ st:Bool×List Int,wopts k st (a ++ [x])=(wopts k st a).bind fun st=>wopt k st x:=by
 induction a with
 | nil=>
  intro st
  show (wopt k st x).bind (fun st=>wopts k st [])=wopt k st x
  cases wopt k st x <;> rfl
 | cons y r ih=>
  intro st
  show (wopt k st y).bind (fun st=>wopts k st (r ++ [x]))=((wopt k st y).bind fun st=>wopts k st r).bind fun st=>wopt k st x
  cases wopt k st y with
  | none=>rfl
  | some s=>exact ih s
theorem wopts_len {k:Nat} (l:List S51):∀ {st st':Bool×List Int},wopts k st l=some st'→st'.2.length≤st.2.length+9011*l.length:=by
 induction l with
 | nil=>intro st st' h;rw [← Option.some.inj h];exact Nat.le_add_right _ _
 | cons x r ih=>
  intro st st' h;obtain ⟨s1,h1,h2⟩:=Option.bind_eq_some_iff.1 h;have:=wopt_len h1;have:=ih h2;simp only [List.length_cons];omega
theorem wopts_take {k:Nat} {l:List S51} {st st':Bool×List Int} (h:wopts k st l=some st'):∀ i,i≤l.length → ∃ s,wopts k st (l.take i)=some s:=by
 intro i hi
 have key:∀ n i,i+n=l.length → ∃ s,wopts k st (l.take i)=some s:=by
  intro n
  induction n with
  | zero=>intro i e;rw [List.take_of_length_le (by omega)];exact ⟨_,h⟩
  | succ n ih=>
   intro i e;obtain ⟨s,hs⟩:=ih (i+1) (by omega);rw [← List.take_append_getElem (show i<l.length by omega),wopts_app] at hs;obtain ⟨s1,h1,_⟩:=Option.bind_eq_some_iff.1 hs;exact ⟨s1,h1⟩
 exact key (l.length-i) i (by omega)
theorem wpays_len (l:List S55):∀ st:Bool×List Int,(wpays st l).2.length≤st.2.length+44*l.length:=by
 induction l with
 | nil=>intro st;exact Nat.le_refl _
 | cons x r ih=>
  intro st;have h1:=ih (wpay st x);have h2:=wnums_len st [x.f0.f0,x.f0.f1.f0,x.f0.f1.f1];have h3:=wnums_len (wnums st [x.f0.f0,x.f0.f1.f0,x.f0.f1.f1]) [x.f1];have e:wpays st (x :: r)=wpays (wpay st x) r:=rfl;rw [e];simp only [List.length_cons,List.length_nil] at h2 h3 ⊢;have e2:(wpay st x).2.length=(wnums (wnums st [x.f0.f0,x.f0.f1.f0,x.f0.f1.f1]) [x.f1]).2.length:=rfl
  omega
theorem wlegs_snoc (st:Bool×List Int) (a:List S49) (x:S49):wlegs st (a ++ [x])=wleg (wlegs st a) x:=by unfold wlegs;rw [List.foldl_append];rfl
theorem wpays_snoc (st:Bool×List Int) (a:List S55) (x:S55):wpays st (a ++ [x])=wpay (wpays st a) x:=by unfold wpays;rw [List.foldl_append];rfl
structure EN (w wc:World) (p ga gb:Nat) (v:Value) (st:Bool×List Int) (ca cb:Array Value):Prop where
 ws:WS wc w.heap.size p v st.2 st.1
 a:wc.heap[ga]?=some (.cells ca 34 (0,0))
 b:wc.heap[gb]?=some (.cells cb 37 (0,0))
 na:some ga≠v.ownBlock
 nb:some gb≠v.ownBlock
 pa:ga≠p
 pb:gb≠p
 below:Below w.heap.size w wc
theorem EN.step {w wc w1:World} {p ga gb:Nat} {v v1:Value} {st st1:Bool×List Int} {ca cb:Array Value} (h:EN w wc p ga gb v st ca cb) (hw:WS w1 w.heap.size p v1 st1.2 st1.1) (hb:Below w.heap.size w w1) (hk:Wk wc w1 p v v1):EN w w1 p ga gb v1 st1 ca cb:=
 { ws:=hw,a:=hk.blk h.a h.pa h.na,b:=hk.blk h.b h.pb h.nb,na:=hk.ne h.na (zcj h.a),nb:=hk.ne h.nb (zcj h.b),pa:=h.pa,pb:=h.pb,below:=hb }
theorem EN.on {w wc w1:World} {p ga gb:Nat} {v:Value} {st:Bool×List Int} {ca cb:Array Value} (h:EN w wc p ga gb v st ca cb) (hb:Below wc.heap.size wc w1):EN w w1 p ga gb v st ca cb:=
 h.step (h.ws.below hb) (zcx h.below (Nat.le_trans h.ws.pb (Nat.le_of_lt h.ws.pl)) hb) ⟨Kept.of_below hb _,.inl rfl⟩
theorem lit_C {W:World} {q:Nat} {l:List Int} (hb:W.heap[q]?=some (.cells (nums .i64 l).toArray 3 (0,0))) (hl:l.length≤1000):Kd.C (Kd.int .i64) W (some ⟨q,0,none⟩) l.length l:=by
 refine ⟨rfl,by omega,fun _=>⟨_,rfl,fun j x hx=>⟨[.int .i64 x],rfl,rfl,fun i u hu=>?_⟩⟩⟩;have hj:j<l.length:=(List.getElem?_eq_some_iff.1 hx).1
 cases i with
 | zero=>
  have hu':u = .int .i64 x:=by simpa using hu.symm
  rw [hu',add_plain];refine (zal hb _).trans ?_
  show (nums .i64 l).toArray[j*1+0]?=_
  rw [List.getElem?_toArray,Nat.mul_one,Nat.add_zero];unfold nums;rw [List.getElem?_map,hx]
  rfl
 | succ i=>simp at hu
section
variable {w wc:World} {p ga gb:Nat} {v:Value} {st:Bool×List Int} {ca cb:Array Value}
theorem EN.call (h:EN w wc p ga gb v st ca cb) {w1 w':World} (hb:Below wc.heap.size wc w1) {st1:Bool×List Int} (hp:∃ v',WS w' w.heap.size p v' st1.2 st1.1∧Below w.heap.size w w'∧Wk w1 w' p v v'):∃ v',EN w w' p ga gb v' st1 ca cb∧Wk wc w' p v v':=by
 obtain ⟨v',hw,hb2,hk⟩:=hp;have hk2:Wk wc w' p v v':=Wk.trans (⟨Kept.of_below hb _,.inl rfl⟩:Wk wc w1 p v v) hk;exact ⟨v',h.step hw hb2 hk2,hk2⟩
theorem EN.number (h:EN w wc p ga gb v st ca cb) (n:Int) (hl:st.2.length+16≤140737488355328):Calls Tryd.prog 41 #[.pointer (some ⟨p,0,none⟩),.int .i64 n] wc fun e w'=>e = .returned (.tuple #[]) ∧ ∃ v',EN w w' p ga gb v' (wnums st [n]) ca cb∧Wk wc w' p v v':=by
 refine (writer_number.calls n h.ws h.below hl).mono ?_;rintro e w' ⟨rfl,hp⟩;refine ⟨rfl,h.call (Below.refl _ _) (st1:=wnums st [n]) ?_⟩
 have e1:(wnums st [n]).1=(st.1 && small n):=by show (st.1 && [n].all small)=_;simp
 have e2:(wnums st [n]).2=st.2 ++ vbytes n:=by show st.2 ++ nbytes [n]=_;simp [nbytes]
 rw [e1,e2];exact hp
theorem EN.numbers (h:EN w wc p ga gb v st ca cb) (l:List Int) (c:Nat) (hll:l.length≤1000) (hl:st.2.length+11*l.length+16≤140737488355328):Calls Tryd.prog 39 #[.pointer (some ⟨p,0,none⟩),.slice (some ⟨wc.heap.size,0,none⟩) l.length c] (wc.alloc (.cells (nums .i64 l).toArray 3)) fun e w'=>e = .returned (.tuple #[]) ∧ ∃ v',EN w w' p ga gb v' (wnums st l) ca cb∧Wk wc w' p v v':=by
 have hb:Below wc.heap.size wc (wc.alloc (.cells (nums .i64 l).toArray 3)):=zaw (Below.refl _ _) _;have h1:=h.on hb;have hblk:(wc.alloc (.cells (nums .i64 l).toArray 3)).heap[wc.heap.size]?=some (.cells (nums .i64 l).toArray 3 (0,0)):=blk_new wc _
 have hqv:some wc.heap.size≠v.ownBlock:=fun e=>by
  have:=own_lt h.ws.own _ e.symm
  omega
 refine (writer_numbers.calls (some ⟨wc.heap.size,0,none⟩) c l h1.ws h1.below (fun W' hk=>lit_C (zcm hblk hk (fun q=>q.elim (fun e=>by have:=h.ws.pl;omega) hqv)) hll) hll hl).mono ?_;rintro e w' ⟨rfl,hp⟩;exact ⟨rfl,h.call hb (st1:=wnums st l) hp⟩
theorem EN.wrat_call (h:EN w wc p ga gb v st ca cb) (k:Nat) (neg:Bool) (num den:ByteArray) {st1:Bool×List Int} (hr:wrat k st neg num den=some st1) (hl:st.2.length+20000≤140737488355328):Calls Tryd.prog 40 #[.pointer (some ⟨p,0,none⟩),.agg #[.bool neg,.string num,.string den]] wc fun e w'=>e = .returned (.tuple #[]) ∧ ∃ v',EN w w' p ga gb v' st1 ca cb∧Wk wc w' p v v':=by
 obtain ⟨b,hb,rfl⟩:=wrat_some hr;refine (writer_rat.calls k neg num den b h.ws h.below hl hb).mono ?_;rintro e w' ⟨rfl,hp⟩;exact ⟨rfl,h.call (Below.refl _ _) (st1:=(b && toks4 num && toks4 den,st.2 ++ rbytes neg num den)) hp⟩
theorem EN.fresh (h:EN w wc p ga gb v st ca cb):wc.heap.size≠p∧some wc.heap.size≠v.ownBlock:=by
 refine ⟨fun e=>by have:=h.ws.pl;omega,fun e=>?_⟩;have:=own_lt h.ws.own _ e.symm
 omega
end
theorem take_getD {α : Type} (l:List α) (d : α) (i:Nat) (h:i<l.length):l.take (i+1)=l.take i ++ [l.getD ((i:Int)).toNat d]:=by
 rw [Int.toNat_natCast,← List.take_append_getElem h,List.getD_eq_getElem?_getD,List.getElem?_eq_getElem h]
 rfl
theorem EN.start {w wc w2:World} {p ga gb:Nat} {ca cb:Array Value} (hp:p=wc.heap.size) (ha:wc.heap[ga]?=some (.cells ca 34 (0,0))) (hb:wc.heap[gb]?=some (.cells cb 37 (0,0))) (hw:Below w.heap.size w wc) (hx:w2.heap[p]?=some (.cells #[.slice none 0 0,.bool true] 94 (0,0))) (h2:Below wc.heap.size wc w2):EN w w2 p ga gb (.slice none 0 0) (true,[]) ca cb:=
 { ws:={ c0:=(zal hx 0).trans rfl,c1:=(zal hx 1).trans rfl,f0:=zau hx 0,f1:=zau hx 1,own:=own_nil _ _ _ _,ne:=(by intro e;cases e),pb:=(by rw [hp];exact hw.size),pl:=zcj hx },a:=(h2.block ga (zcj ha)).trans ha,b:=(h2.block gb (zcj hb)).trans hb,na:=(by intro e;cases e),nb:=(by intro e;cases e),pa:=(by have:=zcj ha;omega),pb:=(by have:=zcj hb;omega),below:=zcx hw hw.size h2 }
set_option maxHeartbeats 2000000 in
set_option maxRecDepth 100000 in
theorem zce.calls (k:Nat) (a0_0:Int) (a0_1:Int) (a0_2:Int) (a0_3:Int) (a0_4:Int) (a0_5:Int) (a0_6:Bool) (a0_7:ByteArray) (a0_8:ByteArray) (a0_9:Bool) (a0_10:ByteArray) (a0_11:ByteArray) (A0_12:Option Addr) (c0_12:Nat) (l0_12:List (S49)) (A0_13:Option Addr) (c0_13:Nat) (l0_13:List (S51)) (A0_14:Option Addr) (c0_14:Nat) (l0_14:List (S55)) (r1:List Int) (r2:Bool) (w:World) (hr0_12:Kd.C k49 w A0_12 l0_12.length l0_12) (hc0_12:l0_12.length≤c0_12) (hr0_13:Kd.C k51 w A0_13 l0_13.length l0_13) (hc0_13:l0_13.length≤c0_13) (hr0_14:Kd.C k55 w A0_14 l0_14.length l0_14) (hc0_14:l0_14.length≤c0_14) (h:zce.f k a0_0 a0_1 a0_2 a0_3 a0_4 a0_5 a0_6 a0_7 a0_8 a0_9 a0_10 a0_11 l0_12 l0_13 l0_14=some (r1,r2)) :
 Calls Tryd.prog 25 #[.agg #[.int .i64 a0_0,.int .i64 a0_1,.int .i64 a0_2,.int .i64 a0_3,.int .i64 a0_4,.int .i64 a0_5,.bool a0_6,.string a0_7,.string a0_8,.bool a0_9,.string a0_10,.string a0_11,.slice A0_12 l0_12.length c0_12,.slice A0_13 l0_13.length c0_13,.slice A0_14 l0_14.length c0_14]] w fun e w'=>∃ v0_:Value,e = .returned (.tuple #[v0_,.bool r2])∧Kd.R (Kd.int .u8) 5 w' w.heap.size (fun _=>True) v0_ r1∧Below w.heap.size w w':=by
 have hu37:=Tryd.underlying37;have hu34:=Tryd.underlying34;have hu30:=Tryd.underlying30;have hu94:=Tryd.underlying94;have HR12:=za1.mk hr0_12;have HR13:=za1.mk hr0_13;have HR14:=za1.mk hr0_14;have HH:=za1.mk h;clear hr0_12 hr0_13 hr0_14 h
 obtain ⟨cb,hcb⟩:∃ cb:Array Value,cb = #[.int .i64 a0_0,.int .i64 a0_1,.int .i64 a0_2,.int .i64 a0_3,.int .i64 a0_4,.int .i64 a0_5,.bool a0_6,.string a0_7,.string a0_8,.bool a0_9,.string a0_10,.string a0_11,.slice A0_12 l0_12.length c0_12,.slice A0_13 l0_13.length c0_13,.slice A0_14 l0_14.length c0_14]:=⟨_,rfl⟩
 have HCB:=za1.mk hcb;clear hcb;go_enter Tryd.func25,Tryd.ntmps25
 go_upto_region 1 with (first|((with_reducible refine zbr (N:=1) rfl ?_);refine zbq ?hg (N:=1) ?hd (cs:=cb) (t:=37) ?hr ?_;(case hd=>rfl);(case hg=>rfl);(case hr=>rw [HCB.out];first|(go_simp;done)|(go_simp;rfl));intro gb hg w1 hbox hb;have HG:=za1.mk hg;have BK:=za1.mk hbox;have HB1:=za1.mk hb;clear hg hbox hb))
 have hcz0:w1.cell? ⟨gb,0,none⟩=some (.int .i64 a0_0):=(zal BK.out 0).trans (by rw [HCB.out];rfl);have hcz1:w1.cell? ⟨gb,1,none⟩=some (.int .i64 a0_1):=(zal BK.out 1).trans (by rw [HCB.out];rfl);have hcz2:w1.cell? ⟨gb,2,none⟩=some (.int .i64 a0_2):=(zal BK.out 2).trans (by rw [HCB.out];rfl);have hcz3:w1.cell? ⟨gb,3,none⟩=some (.int .i64 a0_3):=(zal BK.out 3).trans (by rw [HCB.out];rfl);have hcz4:w1.cell? ⟨gb,4,none⟩=some (.int .i64 a0_4):=(zal BK.out 4).trans (by rw [HCB.out];rfl);have hcz5:w1.cell? ⟨gb,5,none⟩=some (.int .i64 a0_5):=(zal BK.out 5).trans (by rw [HCB.out];rfl);have hcz6:w1.cell? ⟨gb,6,none⟩=some (.bool a0_6):=(zal BK.out 6).trans (by rw [HCB.out];rfl);have hcz7:w1.cell? ⟨gb,7,none⟩=some (.string a0_7):=(zal BK.out 7).trans (by rw [HCB.out];rfl);have hcz8:w1.cell? ⟨gb,8,none⟩=some (.string a0_8):=(zal BK.out 8).trans (by rw [HCB.out];rfl);have hcz9:w1.cell? ⟨gb,9,none⟩=some (.bool a0_9):=(zal BK.out 9).trans (by rw [HCB.out];rfl);have hcz10:w1.cell? ⟨gb,10,none⟩=some (.string a0_10):=(zal BK.out 10).trans (by rw [HCB.out];rfl);have hcz11:w1.cell? ⟨gb,11,none⟩=some (.string a0_11):=(zal BK.out 11).trans (by rw [HCB.out];rfl);have hcz12:w1.cell? ⟨gb,12,none⟩=some (.slice A0_12 l0_12.length c0_12):=(zal BK.out 12).trans (by rw [HCB.out];rfl);have hcz13:w1.cell? ⟨gb,13,none⟩=some (.slice A0_13 l0_13.length c0_13):=(zal BK.out 13).trans (by rw [HCB.out];rfl)
 go_upto_region 2 with (fail)
 obtain ⟨ca,hca⟩:∃ ca:Array Value,ca = #[.int .i64 a0_0,.int .i64 a0_1,.int .i64 a0_2,.int .i64 a0_3,.int .i64 a0_4,.int .i64 a0_5,.bool a0_6,.string a0_7,.string a0_8,.bool a0_9,.string a0_10,.string a0_11,.slice A0_12 l0_12.length c0_12,.slice A0_13 l0_13.length c0_13]:=⟨_,rfl⟩
 have HCA:=za1.mk hca;clear hca;have hcz14:w1.cell? ⟨gb,14,none⟩=some (.slice A0_14 l0_14.length c0_14):=(zal BK.out 14).trans (by rw [HCB.out];rfl)
 go_cut [4,29] from 12 (fun v4 v29 wc=>∃ ga,v4 = .pointer (some ⟨ga,0,none⟩)∧v29 = .bool (decide (l0_12.length>8∨l0_13.length>4∨l0_14.length>256))∧za1 (wc.heap[ga]?=some (.cells ca 34 (0,0)))∧za1 (wc.heap[gb]?=some (.cells cb 37 (0,0)))∧za1 (Below w.heap.size w wc))
 case first=>
  have hend:∀ (W:World),W=w1.alloc (.cells ca 34)→za1 (W.heap[w1.heap.size]?=some (.cells ca 34 (0,0)))∧za1 (W.heap[gb]?=some (.cells cb 37 (0,0)))∧za1 (Below w.heap.size w W):=by
   rintro W rfl;exact ⟨⟨blk_new w1 _⟩,⟨za0 BK.out _⟩,⟨(HB1.out).alloc HB1.out.size _⟩⟩
  have HE:=za1.mk hend;clear hend;have hgl:=zcj BK.out
  by_cases h8:(l0_12.length:Int)>8
  ·have h8b:=decide_eq_true h8
   go_wp2
   go_meet
   case rel=>exact ⟨_,rfl,by rw [decide_eq_true (Or.inl (by omega))],HE.out _ (by rw [HCA.out])⟩
  ·have h8b:=decide_eq_false h8
   by_cases h4:(l0_13.length:Int)>4
   ·have h4b:=decide_eq_true h4
    go_wp2
    go_meet
    case rel=>exact ⟨_,rfl,by rw [decide_eq_true (Or.inr (Or.inl (by omega)))],HE.out _ (by rw [HCA.out])⟩
   ·have h4b:=decide_eq_false h4
    by_cases h2:(l0_14.length:Int)>256
    ·have h2b:=decide_eq_true h2
     go_wp2
     go_meet
     case rel=>exact ⟨_,rfl,by rw [decide_eq_true (Or.inr (Or.inr (by omega)))],HE.out _ (by rw [HCA.out])⟩
    ·have h2b:=decide_eq_false h2
     go_wp2
     go_meet
     case rel=>exact ⟨_,rfl,by rw [decide_eq_false (by omega)],HE.out _ (by rw [HCA.out])⟩
 case rest=>
  obtain ⟨ga,rfl,rfl,HA,HBk,HBw⟩:=hcut;clear hcz0 hcz1 hcz2 hcz3 hcz4 hcz5 hcz6 hcz7 hcz8 hcz9 hcz10 hcz11 hcz12 hcz13 hcz14 BK HB1 HG
  by_cases hlim:l0_12.length>8∨l0_13.length>4∨l0_14.length>256
  ·have hl1:=decide_eq_true hlim
   have hr:=HH.out;unfold zce.f at hr;rw [if_pos hlim] at hr;obtain ⟨e1,e2⟩:=Prod.mk.inj (Option.some.inj hr);subst e1 e2
   go_wp2
   go_ret2
   exact ⟨_,rfl,Kd.zd8 _ _ _ _ _,HBw.out⟩
  ·have hl1:=decide_eq_false hlim
   have hr:=HH.out;unfold zce.f at hr;rw [if_neg hlim] at hr;obtain ⟨s2,e2,hr⟩:=Option.bind_eq_some_iff.1 hr;obtain ⟨s3,e3,hr⟩:=Option.bind_eq_some_iff.1 hr;obtain ⟨s7,e7,hr⟩:=Option.bind_eq_some_iff.1 hr;obtain ⟨er1,er2⟩:=Prod.mk.inj (Option.some.inj hr);have b1:=wnums_len (true,[]) [a0_0,a0_1,a0_2,a0_3,a0_4,a0_5];have b2:=wrat_len e2;have b3:=wrat_len e3;have b4:=wnums_len s3 [(l0_12.length:Int)];have b5:=wlegs_len l0_12 (wnums s3 [(l0_12.length:Int)]);have b6:=wnums_len (wlegs (wnums s3 [(l0_12.length:Int)]) l0_12) [(l0_13.length:Int)];have b7:=wopts_len _ e7;have b8:=wnums_len s7 [(l0_14.length:Int)];simp only [List.length_cons,List.length_nil] at b1 b4 b6 b8;have HLN:=am (show (wnums (true,[]) [a0_0,a0_1,a0_2,a0_3,a0_4,a0_5]).2.length≤100∧s2.2.length≤10000∧s3.2.length≤20000∧(wnums s3 [(l0_12.length:Int)]).2.length≤20020∧(wlegs (wnums s3 [(l0_12.length:Int)]) l0_12).2.length≤20300∧(wnums (wlegs (wnums s3 [(l0_12.length:Int)]) l0_12) [(l0_13.length:Int)]).2.length≤20320∧s7.2.length≤60000∧(wnums s7 [(l0_14.length:Int)]).2.length≤60020∧l0_12.length≤8∧l0_13.length≤4∧l0_14.length≤256 by omega);have E2:=za1.mk e2;have E3:=za1.mk e3;have E7:=za1.mk e7;have ER1:=za1.mk er1;have ER2:=za1.mk er2;clear hr e2 e3 e7 er1 er2 b1 b2 b3 b4 b5 b6 b7 b8 HH
   go_upto_region 5 with (first|((with_reducible refine zbr (N:=31) rfl ?_);refine zbq ?hg (N:=31) ?hd (cs:=#[.slice none 0 0,.bool true]) (t:=94) ?hr ?_;(case hd=>rfl);(case hg=>rfl);(case hr=>first|(go_simp;done)|(go_simp;rfl));intro p hp w2 hbox hb;have HP:=za1.mk hp;have BP:=za1.mk hbox;have HB2:=za1.mk hb;clear hp hbox hb))
   have HEN:=am (EN.start HP.out HA.out HBk.out HBw.out BP.out HB2.out);clear HP HA HBk HBw BP HB2;have hc0:w2.cell? ⟨ga,0,none⟩=some (.int .i64 a0_0):=(zal HEN.out.a 0).trans (by rw [HCA.out];rfl);have hc1:w2.cell? ⟨ga,1,none⟩=some (.int .i64 a0_1):=(zal HEN.out.a 1).trans (by rw [HCA.out];rfl);have hc2:w2.cell? ⟨ga,2,none⟩=some (.int .i64 a0_2):=(zal HEN.out.a 2).trans (by rw [HCA.out];rfl);have hc3:w2.cell? ⟨ga,3,none⟩=some (.int .i64 a0_3):=(zal HEN.out.a 3).trans (by rw [HCA.out];rfl);have hc4:w2.cell? ⟨ga,4,none⟩=some (.int .i64 a0_4):=(zal HEN.out.a 4).trans (by rw [HCA.out];rfl);have hc5:w2.cell? ⟨ga,5,none⟩=some (.int .i64 a0_5):=(zal HEN.out.a 5).trans (by rw [HCA.out];rfl)
   go_upto_region 6 with (go_at_call 39;refine (EN.numbers HEN.out [a0_0,a0_1,a0_2,a0_3,a0_4,a0_5] 6 (by simp) (by simp)).mono ?_;rintro e w3 ⟨rfl,v3,hE,hK⟩;have HEN3:=za1.mk hE;clear hE hK)
   clear hc0 hc1 hc2 hc3 hc4 hc5 HEN;have hc6:w3.cell? ⟨ga,6,none⟩=some (.bool a0_6):=(zal HEN3.out.a 6).trans (by rw [HCA.out];rfl);have hc7:w3.cell? ⟨ga,7,none⟩=some (.string a0_7):=(zal HEN3.out.a 7).trans (by rw [HCA.out];rfl);have hc8:w3.cell? ⟨ga,8,none⟩=some (.string a0_8):=(zal HEN3.out.a 8).trans (by rw [HCA.out];rfl)
   go_upto_region 7 with (go_at_call 40;refine (EN.wrat_call HEN3.out k a0_6 a0_7 a0_8 E2.out (by have:=HLN.out;omega)).mono ?_;rintro e w4 ⟨rfl,v4,hE,hK⟩;have HEN4:=za1.mk hE;clear hE hK)
   clear hc6 hc7 hc8 HEN3;have hc9:w4.cell? ⟨ga,9,none⟩=some (.bool a0_9):=(zal HEN4.out.a 9).trans (by rw [HCA.out];rfl);have hc10:w4.cell? ⟨ga,10,none⟩=some (.string a0_10):=(zal HEN4.out.a 10).trans (by rw [HCA.out];rfl);have hc11:w4.cell? ⟨ga,11,none⟩=some (.string a0_11):=(zal HEN4.out.a 11).trans (by rw [HCA.out];rfl)
   go_upto_region 8 with (go_at_call 40;refine (EN.wrat_call HEN4.out k a0_9 a0_10 a0_11 E3.out (by have:=HLN.out;omega)).mono ?_;rintro e w5 ⟨rfl,v5,hE,hK⟩;have HEN5:=za1.mk hE;clear hE hK)
   clear hc9 hc10 hc11 HEN4;have hc12:w5.cell? ⟨ga,12,none⟩=some (.slice A0_12 l0_12.length c0_12):=(zal HEN5.out.a 12).trans (by rw [HCA.out];rfl)
   go_upto_region 9 with (go_at_call 39;refine (EN.numbers HEN5.out [(l0_12.length:Int)] 1 (by simp) (by have:=HLN.out;simp only [List.length_cons,List.length_nil];omega)).mono ?_;rintro e w6 ⟨rfl,v6,hE,hK⟩;have HEN6:=za1.mk hE;clear hE hK)
   clear hc12 HEN5;have hc12:w6.cell? ⟨ga,12,none⟩=some (.slice A0_12 l0_12.length c0_12):=(zal HEN6.out.a 12).trans (by rw [HCA.out];rfl)
   obtain ⟨s4,hs4⟩:∃ s4,s4=wnums s3 [(l0_12.length:Int)]:=⟨_,rfl⟩
   rw [← hs4] at HEN6 HLN E7;have HS4:=za1.mk hs4;clear hs4
   go_wp2
   clear hc12
   go_loopg [64] (l0_12.length+1) (fun kq v64 w'=>∃ (i:Nat) (v:Value),v64 = .int .i64 (i:Int)∧za1 (i+kq=l0_12.length+1∧i≤l0_12.length)∧za1 (EN w w' p ga gb v (wlegs s4 (l0_12.take i)) ca cb))
   case atStart=>exact ⟨0,v6,rfl,⟨by omega,by omega⟩,HEN6⟩
   case round=>
    clear HEN6;obtain ⟨i,v,rfl,HI,HEN⟩:=hrel
    by_cases hi:(i:Int)<(l0_12.length:Int)
    ·have hi1:=decide_eq_true hi
     have hil:i<l0_12.length:=by omega
     have hu49:=Tryd.underlying49
     have HLI:=am (show (wlegs s4 (l0_12.take i)).2.length≤30000 by
      have h1:=wlegs_len (l0_12.take i) s4;have h2:=HLN.out;rw [List.length_take] at h1
      omega)
     obtain ⟨ad,rfl,hx0,hx1⟩:=at_T49 (Kd.zc6 HR12.out HEN.out.below) (i:Int) (by omega) hi;rw [Int.toNat_natCast] at hx0 hx1
     go_upto_region 12 with (fail)
     have hE:=HEN.out.on (zaw (Below.refl _ _) (.cells #[.int .i64 (rd_T49 l0_12 (i:Int)).f0,.int .i64 (rd_T49 l0_12 (i:Int)).f1] 49));have hBQ:=blk_new wr (.cells #[.int .i64 (rd_T49 l0_12 (i:Int)).f0,.int .i64 (rd_T49 l0_12 (i:Int)).f1] 49)
     generalize wr.alloc (.cells #[.int .i64 (rd_T49 l0_12 (i:Int)).f0,.int .i64 (rd_T49 l0_12 (i:Int)).f1] 49)=wq at hE hBQ ⊢
     generalize wr.heap.size=q at hBQ ⊢
     have HEQ:=za1.mk hE;have hq0:wq.cell? ⟨q,0,none⟩=some (.int .i64 (rd_T49 l0_12 (i:Int)).f0):=(zal hBQ 0).trans rfl;have hq1:wq.cell? ⟨q,1,none⟩=some (.int .i64 (rd_T49 l0_12 (i:Int)).f1):=(zal hBQ 1).trans rfl;clear hE hBQ hx0 hx1 HEN
     go_wp2_with (go_at_call 39;refine (EN.numbers HEQ.out [(rd_T49 l0_12 (i:Int)).f0,(rd_T49 l0_12 (i:Int)).f1] 2 (by simp) (by have:=HLI.out;simp only [List.length_cons,List.length_nil];omega)).mono ?_;rintro e w7 ⟨rfl,v7,hE,hK⟩;have HEN7:=za1.mk hE;clear hE hK)
     go_roundg (gk-1)
     case measure=>have:=HI.out;omega
     case rel=>
      have ha:=HI.out;refine ⟨i+1,v7,?_,⟨by omega,by omega⟩,⟨?_⟩⟩
      ·first|rfl|(congr 1;done)|(congr 1;unfold wrap64;omega)
      ·rw [take_getD _ z49 _ hil,wlegs_snoc]
       exact HEN7.out
    ·have hi1:=decide_eq_false hi
     have hil:i=l0_12.length:=by have:=HI.out;omega
     have hE:=HEN.out;rw [hil,List.take_length] at hE;have HEN:=za1.mk hE;clear hE;have hc13:wr.cell? ⟨ga,13,none⟩=some (.slice A0_13 l0_13.length c0_13):=(zal HEN.out.a 13).trans (by rw [HCA.out];rfl)
     go_upto_region 15 with (go_at_call 39;refine (EN.numbers HEN.out [(l0_13.length:Int)] 1 (by simp) (by have:=HLN.out;simp only [List.length_cons,List.length_nil];omega)).mono ?_;rintro e w8 ⟨rfl,v8,hE,hK⟩;have HEN8:=za1.mk hE;clear hE hK)
     clear hc13 HEN;have hc13:w8.cell? ⟨ga,13,none⟩=some (.slice A0_13 l0_13.length c0_13):=(zal HEN8.out.a 13).trans (by rw [HCA.out];rfl)
     obtain ⟨s6,hs6⟩:∃ s6,s6=wnums (wlegs s4 l0_12) [(l0_13.length:Int)]:=⟨_,rfl⟩
     rw [← hs6] at HEN8 HLN E7;have HS6:=za1.mk hs6;clear hs6
     go_wp2
     clear hc13
     go_loopg [85] (l0_13.length+1) (fun kq v85 w'=>∃ (i:Nat) (v:Value) (s:Bool×List Int),v85 = .int .i64 (i:Int)∧za1 (i+kq=l0_13.length+1∧i≤l0_13.length)∧za1 (wopts k s6 (l0_13.take i)=some s)∧za1 (EN w w' p ga gb v s ca cb))
     case atStart=>exact ⟨0,v8,s6,rfl,⟨by omega,by omega⟩,⟨rfl⟩,HEN8⟩
     case round=>
      clear HEN8;obtain ⟨i,v,s,rfl,HI,HS,HEN⟩:=hrel
      by_cases hi:(i:Int)<(l0_13.length:Int)
      ·have hi1:=decide_eq_true hi
       have hil:i<l0_13.length:=by omega
       have hu51:=Tryd.underlying51;obtain ⟨s',hs'⟩:=wopts_take E7.out (i+1) (by omega);have HS2:=za1.mk hs';rw [take_getD _ z51 _ hil,wopts_app,HS.out] at hs';obtain ⟨s1,hs1,hs2⟩:=Option.bind_eq_some_iff.1 (show wopt k s (rd_T51 l0_13 (i:Int))=some s' from hs');obtain rfl:=Option.some.inj hs2;have HS1:=za1.mk hs1
       have HLI:=am (show s.2.length≤70000∧s1.2.length≤80000 by
        have h1:=wopts_len _ HS.out;have h2:=HLN.out;have h3:=wrat_len hs1;rw [List.length_take] at h1
        omega)
       clear hs' hs1 hs2;obtain ⟨ad,rfl,hx0,hx1,hx2,hx3⟩:=at_T51 (Kd.zc6 HR13.out HEN.out.below) (i:Int) (by omega) hi;rw [Int.toNat_natCast] at hx0 hx1 hx2 hx3
       go_upto_region 18 with (fail)
       have hE:=HEN.out.on (zaw (Below.refl _ _) (.cells #[.bool (rd_T51 l0_13 (i:Int)).f0.f0,.string (rd_T51 l0_13 (i:Int)).f0.f1,.string (rd_T51 l0_13 (i:Int)).f0.f2,.int .i64 (rd_T51 l0_13 (i:Int)).f1] 51));have hBQ:=blk_new wr (.cells #[.bool (rd_T51 l0_13 (i:Int)).f0.f0,.string (rd_T51 l0_13 (i:Int)).f0.f1,.string (rd_T51 l0_13 (i:Int)).f0.f2,.int .i64 (rd_T51 l0_13 (i:Int)).f1] 51);have HF:=za1.mk HEN.out.fresh
       generalize wr.alloc (.cells #[.bool (rd_T51 l0_13 (i:Int)).f0.f0,.string (rd_T51 l0_13 (i:Int)).f0.f1,.string (rd_T51 l0_13 (i:Int)).f0.f2,.int .i64 (rd_T51 l0_13 (i:Int)).f1] 51)=wq at hE hBQ ⊢
       generalize wr.heap.size=q at hBQ HF ⊢
       have HEQ:=za1.mk hE;have HBQ:=za1.mk hBQ;have hq0:wq.cell? ⟨q,0,none⟩=some (.bool (rd_T51 l0_13 (i:Int)).f0.f0):=(zal hBQ 0).trans rfl;have hq1:wq.cell? ⟨q,1,none⟩=some (.string (rd_T51 l0_13 (i:Int)).f0.f1):=(zal hBQ 1).trans rfl;have hq2:wq.cell? ⟨q,2,none⟩=some (.string (rd_T51 l0_13 (i:Int)).f0.f2):=(zal hBQ 2).trans rfl;clear hE hBQ hx0 hx1 hx2 hx3 HEN
       go_upto_region 19 with (go_at_call 40;refine (EN.wrat_call HEQ.out k _ _ _ HS1.out (by have:=HLI.out;omega)).mono ?_;rintro e w9 ⟨rfl,v9,hE,hK⟩;have HEN9:=za1.mk hE;have HBQ9:=am (hK.blk HBQ.out HF.out.1 HF.out.2);clear hE hK)
       clear hq0 hq1 hq2 HEQ HBQ;have hq3:w9.cell? ⟨q,3,none⟩=some (.int .i64 (rd_T51 l0_13 (i:Int)).f1):=bc HBQ9 3
       go_wp2_with (go_at_call 39;refine (EN.numbers HEN9.out [(rd_T51 l0_13 (i:Int)).f1] 1 (by simp) (by have:=HLI.out;simp only [List.length_cons,List.length_nil];omega)).mono ?_;rintro e w10 ⟨rfl,v10,hE,hK⟩;have HEN10:=za1.mk hE;clear hE hK)
       go_roundg (gk-1)
       case measure=>have:=HI.out;omega
       case rel=>
        have ha:=HI.out;refine ⟨i+1,v10,_,?_,⟨by omega,by omega⟩,HS2,HEN10⟩
        first|rfl|(congr 1;done)|(congr 1;unfold wrap64;omega)
      ·have hi1:=decide_eq_false hi
       have hil:i=l0_13.length:=by have:=HI.out;omega
       have hE:=HS.out;rw [hil,List.take_length,E7.out] at hE;obtain rfl:=Option.some.inj hE;clear hE;have hc14:wr.cell? ⟨gb,14,none⟩=some (.slice A0_14 l0_14.length c0_14):=(zal HEN.out.b 14).trans (by rw [HCB.out];rfl)
       go_upto_region 22 with (go_at_call 39;refine (EN.numbers HEN.out [(l0_14.length:Int)] 1 (by simp) (by have:=HLN.out;simp only [List.length_cons,List.length_nil];omega)).mono ?_;rintro e w11 ⟨rfl,v11,hE,hK⟩;have HEN11:=za1.mk hE;clear hE hK)
       clear hc14 HEN;have hc14:w11.cell? ⟨gb,14,none⟩=some (.slice A0_14 l0_14.length c0_14):=(zal HEN11.out.b 14).trans (by rw [HCB.out];rfl)
       obtain ⟨s8,hs8⟩:∃ s8,s8=wnums s7 [(l0_14.length:Int)]:=⟨_,rfl⟩
       rw [← hs8] at HEN11 HLN ER1 ER2;clear hs8
       go_wp2
       clear hc14
       go_loopg [108] (l0_14.length+1) (fun kq v108 w'=>∃ (i:Nat) (v:Value),v108 = .int .i64 (i:Int)∧za1 (i+kq=l0_14.length+1∧i≤l0_14.length)∧za1 (EN w w' p ga gb v (wpays s8 (l0_14.take i)) ca cb))
       case atStart=>exact ⟨0,v11,rfl,⟨by omega,by omega⟩,HEN11⟩
       case round=>
        clear HEN11;obtain ⟨i,v,rfl,HI,HEN⟩:=hrel
        by_cases hi:(i:Int)<(l0_14.length:Int)
        ·have hi1:=decide_eq_true hi
         have hil:i<l0_14.length:=by omega
         have hu49:=Tryd.underlying49;have hu53:=Tryd.underlying53;have hu55:=Tryd.underlying55
         have HLI:=am (show (wpays s8 (l0_14.take i)).2.length≤80000 by
          have h1:=wpays_len (l0_14.take i) s8;have h2:=HLN.out;rw [List.length_take] at h1
          omega)
         obtain ⟨ad,rfl,hx0,hx1,hx2,hx3⟩:=at_T55 (Kd.zc6 HR14.out HEN.out.below) (i:Int) (by omega) hi;rw [Int.toNat_natCast] at hx0 hx1 hx2 hx3
         go_upto_region 25 with (fail)
         have hE:=HEN.out.on (zaw (Below.refl _ _) (.cells #[.int .i64 (rd_T55 l0_14 (i:Int)).f0.f0,.int .i64 (rd_T55 l0_14 (i:Int)).f0.f1.f0,.int .i64 (rd_T55 l0_14 (i:Int)).f0.f1.f1,.int .i64 (rd_T55 l0_14 (i:Int)).f1] 55));have hBQ:=blk_new wr (.cells #[.int .i64 (rd_T55 l0_14 (i:Int)).f0.f0,.int .i64 (rd_T55 l0_14 (i:Int)).f0.f1.f0,.int .i64 (rd_T55 l0_14 (i:Int)).f0.f1.f1,.int .i64 (rd_T55 l0_14 (i:Int)).f1] 55);have HF:=za1.mk HEN.out.fresh
         generalize wr.alloc (.cells #[.int .i64 (rd_T55 l0_14 (i:Int)).f0.f0,.int .i64 (rd_T55 l0_14 (i:Int)).f0.f1.f0,.int .i64 (rd_T55 l0_14 (i:Int)).f0.f1.f1,.int .i64 (rd_T55 l0_14 (i:Int)).f1] 55)=wq at hE hBQ ⊢
         generalize wr.heap.size=q at hBQ HF ⊢
         have HEQ:=za1.mk hE;have HBQ:=za1.mk hBQ;have hq0:wq.cell? ⟨q,0,none⟩=some (.int .i64 (rd_T55 l0_14 (i:Int)).f0.f0):=(zal hBQ 0).trans rfl;have hq1:wq.cell? ⟨q,1,none⟩=some (.int .i64 (rd_T55 l0_14 (i:Int)).f0.f1.f0):=(zal hBQ 1).trans rfl;have hq2:wq.cell? ⟨q,2,none⟩=some (.int .i64 (rd_T55 l0_14 (i:Int)).f0.f1.f1):=(zal hBQ 2).trans rfl;clear hE hBQ hx0 hx1 hx2 hx3 HEN
         go_upto_region 26 with (go_at_call 39;refine (EN.numbers HEQ.out [(rd_T55 l0_14 (i:Int)).f0.f0,(rd_T55 l0_14 (i:Int)).f0.f1.f0,(rd_T55 l0_14 (i:Int)).f0.f1.f1] 3 (by simp) (by have:=HLI.out;simp only [List.length_cons,List.length_nil];omega)).mono ?_;rintro e w12 ⟨rfl,v12,hE,hK⟩;have HEN12:=za1.mk hE;have HBQ12:=am (hK.blk HBQ.out HF.out.1 HF.out.2);clear hE hK)
         clear hq0 hq1 hq2 HEQ HBQ;have hq3:w12.cell? ⟨q,3,none⟩=some (.int .i64 (rd_T55 l0_14 (i:Int)).f1):=bc HBQ12 3
         go_wp2_with (go_at_call 41;refine (EN.number HEN12.out (rd_T55 l0_14 (i:Int)).f1 (by
          have h1:=HLI.out;have h2:=wnums_len (wpays s8 (l0_14.take i)) [(rd_T55 l0_14 (i:Int)).f0.f0,(rd_T55 l0_14 (i:Int)).f0.f1.f0,(rd_T55 l0_14 (i:Int)).f0.f1.f1];simp only [List.length_cons,List.length_nil] at h2
          omega)).mono ?_;rintro e w13 ⟨rfl,v13,hE,hK⟩;have HEN13:=za1.mk hE;clear hE hK)
         go_roundg (gk-1)
         case measure=>have:=HI.out;omega
         case rel=>
          have ha:=HI.out;refine ⟨i+1,v13,?_,⟨by omega,by omega⟩,⟨?_⟩⟩
          ·first|rfl|(congr 1;done)|(congr 1;unfold wrap64;omega)
          ·rw [take_getD _ z55 _ hil,wpays_snoc]
           exact HEN13.out
        ·have hi1:=decide_eq_false hi
         have hil:i=l0_14.length:=by have:=HI.out;omega
         have hE:=HEN.out;rw [hil,List.take_length] at hE;have HEN:=za1.mk hE;clear hE
         obtain ⟨⟨ok9,xs9⟩,hs9⟩:∃ s9,s9=wpays s8 l0_14:=⟨_,rfl⟩
         rw [← hs9] at HEN ER1 ER2;clear hs9;have e1:xs9=r1:=ER1.out;have e2:(ok9 && decide ((xs9.length:Int)≤4096))=r2:=ER2.out;subst e1;have HR2:=za1.mk e2;clear e2 ER1 ER2;have hW:WS wr w.heap.size p v xs9 ok9:=HEN.out.ws;have HB9:=za1.mk HEN.out.below;obtain ⟨A9,k9,rfl⟩:=zd2 hW.own;have hc0:=hW.c0;have hc1:=hW.c1;have HO9:=za1.mk hW.own;clear hW HEN
         cases ok9 with
         | false=>
          obtain rfl:false=r2:=HR2.out
          go_wp2
          repeat (go_quiet (fail);try go_wp2)
          go_ret2
          refine ⟨_,rfl,Kd.R_of_own (h1:=fun _=>rfl) (ok:=fun _=>True) (pw_own_below HO9.out ?_) (fun _ _=>trivial),?_⟩
          ·repeat (first|exact Below.refl _ _|apply zah|apply zcv)
          ·repeat (first|exact HB9.out|apply zah|apply zcv)
         | true=>
          by_cases hlen:(xs9.length:Int)≤4096
          ·have hlen1:=decide_eq_true hlen
           obtain rfl:true=r2:=by
            have h:=HR2.out;rw [hlen1] at h;exact h
           go_wp2
           repeat (go_quiet (fail);try go_wp2)
           go_ret2
           refine ⟨_,rfl,Kd.R_of_own (h1:=fun _=>rfl) (ok:=fun _=>True) (pw_own_below HO9.out ?_) (fun _ _=>trivial),?_⟩
           ·repeat (first|exact Below.refl _ _|apply zah|apply zcv)
           ·repeat (first|exact HB9.out|apply zah|apply zcv)
          ·have hlen1:=decide_eq_false hlen
           obtain rfl:false=r2:=by
            have h:=HR2.out;rw [hlen1] at h;exact h
           go_wp2
           repeat (go_quiet (fail);try go_wp2)
           go_ret2
           refine ⟨_,rfl,Kd.R_of_own (h1:=fun _=>rfl) (ok:=fun _=>True) (pw_own_below HO9.out ?_) (fun _ _=>trivial),?_⟩
           ·repeat (first|exact Below.refl _ _|apply zah|apply zcv)
           ·repeat (first|exact HB9.out|apply zah|apply zcv)
theorem ratok_mono (k:Nat) (ok neg:Bool) (num den:ByteArray):LeO (ratok k ok neg num den) (ratok (k+1) ok neg num den):=LeO.ite (LeO.ite (LeO.ite (zbs.mono _ _ _ _) (LeO.refl _)) (LeO.refl _)) (LeO.refl _)
theorem wrat_mono (k:Nat) (st:Bool×List Int) (neg:Bool) (num den:ByteArray):LeO (wrat k st neg num den) (wrat (k+1) st neg num den):=LeO.bind (ratok_mono _ _ _ _ _) (fun _=>LeO.refl _)
theorem wopts_mono (k:Nat) (l:List S51):∀ st:Bool×List Int,LeO (wopts k st l) (wopts (k+1) st l):=by
 induction l with
 | nil=>intro st;exact LeO.refl _
 | cons x r ih=>intro st;exact LeO.bind (LeO.bind (wrat_mono _ _ _ _ _) (fun _=>LeO.refl _)) (fun s=>ih s)
theorem zce.mono:∀ a0 a1 a2 a3 a4 a5 a6 a7 a8 a9 a10 a11 a12 a13 a14 k,LeO (zce.f k a0 a1 a2 a3 a4 a5 a6 a7 a8 a9 a10 a11 a12 a13 a14) (zce.f (k+1) a0 a1 a2 a3 a4 a5 a6 a7 a8 a9 a10 a11 a12 a13 a14):=by
 intro a0 a1 a2 a3 a4 a5 a6 a7 a8 a9 a10 a11 a12 a13 a14 k;exact LeO.ite (LeO.refl _) (LeO.bind (wrat_mono _ _ _ _ _) (fun _=>LeO.bind (wrat_mono _ _ _ _ _) (fun _=>LeO.bind (wopts_mono _ _ _) (fun _=>LeO.refl _))))
theorem strOfNums_bytes {l:List Int} (h:∀ x ∈ l,0≤x∧x≤255):bytesOf (strOfNums l)=l:=by
 unfold bytesOf strOfNums;simp only [List.map_map];rw [List.map_congr_left (g:=id) ?_,List.map_id];intro x hx;have:=h x hx
 show ((UInt8.ofNat x.toNat).toNat:Int)=x
 rw [UInt8.toNat_ofNat']
 omega
theorem bytesOf_rng (s:ByteArray):∀ x ∈ bytesOf s,0≤x∧x≤255:=by
 intro x hx;obtain ⟨b,_,rfl⟩:=List.mem_map.1 hx;have:=b.toNat_lt
 omega
def dropS (n:Nat) (s:ByteArray):ByteArray:=strOfNums ((bytesOf s).drop n)
def takeS (n:Nat) (s:ByteArray):ByteArray:=strOfNums ((bytesOf s).take n)
theorem dropS_bytes (n:Nat) (s:ByteArray):bytesOf (dropS n s)=(bytesOf s).drop n:=strOfNums_bytes fun x hx=>bytesOf_rng s x (List.mem_of_mem_drop hx)
theorem dropS_size (n:Nat) (s:ByteArray):(dropS n s).size=s.size-n:=by rw [← bytesOf_length,dropS_bytes,List.length_drop,bytesOf_length]
def zat (w0 W:World) (g:Nat) (f0:ByteArray) (f1:Bool):Prop:=∃ v,W.heap[g]?=some (.cells #[v,.bool f1] 78 (0,0))∧w0.heap.size≤g ∧ ∃ A c,v = .slice A f0.size c∧f0.size≤c∧(Kd.int .u8).C w0 A f0.size (bytesOf f0)
theorem zat.grown {w0 W:World} {g:Nat} {f0:ByteArray} {f1:Bool} {W1:World} {row:Option Nat} (h:zat w0 W g f0 f1) (hw:W.grownBy W1 row) (hne:some g≠row):zat w0 W1 g f0 f1:=by
 obtain ⟨v,hb,hs⟩:=h;exact ⟨v,zck hb hw hne,hs⟩
theorem zat.fresh {w0 W:World} {g:Nat} {f0:ByteArray} {f1:Bool} (h:zat w0 W g f0 f1):∀ k,W.heap.size≤k→k≠g:=by
 obtain ⟨v,hb,hs⟩:=h;exact Kd.freshB hb
theorem zat.kept {w0 W:World} {g:Nat} {f0:ByteArray} {f1:Bool} {W1:World} {S:Nat→Prop} (h:zat w0 W g f0 f1) (hk:Kept W W1 S) (hne:¬ S g):zat w0 W1 g f0 f1:=by
 obtain ⟨v,hb,hs⟩:=h;exact ⟨v,zcm hb hk hne,hs⟩
theorem zat.below {w0 W:World} {g:Nat} {f0:ByteArray} {f1:Bool} {W1:World} (h:zat w0 W g f0 f1) (hw:Below W.heap.size W W1):zat w0 W1 g f0 f1:=h.grown (grown_of_below hw none) (by simp)
theorem zat.alloc {w0 W:World} {g:Nat} {f0:ByteArray} {f1:Bool} (h:zat w0 W g f0 f1) (o:Obj):zat w0 (W.alloc o) g f0 f1:=h.below (zaw (Below.refl _ _) o)
theorem zat.drewN {w0 W:World} {g:Nat} {f0:ByteArray} {f1:Bool} (h:zat w0 W g f0 f1) (m:Nat):zat w0 (W.drewN m) g f0 f1:=h
theorem zat.drew {w0 W:World} {g:Nat} {f0:ByteArray} {f1:Bool} (h:zat w0 W g f0 f1):zat w0 W.drew g f0 f1:=h
theorem zat.at_ {w0 W:World} {g:Nat} {f0:ByteArray} {f1:Bool} {w':World} {m:Nat} (hq:W.drewN m=w') (h:zat w0 W g f0 f1):zat w0 w' g f0 f1:=by subst hq;exact zat.drewN h m
theorem zat.apart {w0 W:World} {g:Nat} {f0:ByteArray} {f1:Bool} {α : Type} {d:Kd α} {e:Nat} {base:Nat} {ok:Nat→Prop} {v:Value} {xs:List α} (h:zat w0 W g f0 f1) (ho:d.R e W base ok v xs) (ht:∀ q,q ∈ e :: d.E→q≠78):d.R e W base (fun k=>ok k∧k≠g) v xs:=by
 obtain ⟨_,hb,hs⟩:=h;exact Kd.zcf ho hb ht
theorem zat.own_ne {w0 W:World} {g:Nat} {f0:ByteArray} {f1:Bool} {α : Type} {d:Kd α} {e:Nat} {base:Nat} {ok:Nat→Prop} {v:Value} {xs:List α} (h:zat w0 W g f0 f1) (ho:d.R e W base ok v xs) (ht:e≠78):some g≠v.ownBlock:=by
 obtain ⟨_,hb,hs⟩:=h;exact Kd.zd5 ho hb ht
theorem zat.lt {w0 W:World} {g:Nat} {f0:ByteArray} {f1:Bool} (h:zat w0 W g f0 f1):g<W.heap.size:=by
 obtain ⟨_,hb,hs⟩:=h;exact zcj hb
theorem zat.ge {w0 W:World} {g:Nat} {f0:ByteArray} {f1:Bool} (h:zat w0 W g f0 f1):w0.heap.size≤g:=by
 obtain ⟨_,hb,hg,hs⟩:=h;exact hg
theorem zat.ne_blk {w0 W:World} {g:Nat} {f0:ByteArray} {f1:Bool} {a:Nat} {cs:Array Value} {t:TypeId} {fr:Nat×Nat} (h:zat w0 W g f0 f1) (hb2:W.heap[a]?=some (.cells cs t fr)) (ht:t≠78):g≠a:=by
 obtain ⟨_,hb,hs⟩:=h;rintro rfl;rw [hb] at hb2
 injection hb2 with hb2
 injection hb2 with _ ht2
 exact ht ht2.symm
theorem zat.far {w0 W:World} {g:Nat} {f0:ByteArray} {f1:Bool} {p:Addr} (h:zat w0 W g f0 f1) (hne:g≠p.block) (u:Value):zat w0 (W.setCell p u) g f0 f1:=by
 obtain ⟨v,hb,hs⟩:=h;exact ⟨v,zay hb hne u,hs⟩
theorem cellS78_0 {W:World} {g:Nat} {v:Value} {f1:Bool} (h:W.heap[g]?=some (.cells #[v,.bool f1] 78 (0,0))):W.cell? ⟨g,0,none⟩=some v:=(zal h 0).trans rfl
theorem cellS78_1 {W:World} {g:Nat} {v:Value} {f1:Bool} (h:W.heap[g]?=some (.cells #[v,.bool f1] 78 (0,0))):W.cell? ⟨g,1,none⟩=some (.bool f1):=(zal h 1).trans rfl
theorem zat.set_0 {w0 W:World} {g:Nat} {f0:ByteArray} {f1:Bool} (h:zat w0 W g f0 f1) (x:ByteArray) {A:Option Addr} {c:Nat} (hc:x.size≤c) (hC:(Kd.int .u8).C w0 A x.size (bytesOf x)):zat w0 (W.setCell ⟨g,0,none⟩ (.slice A x.size c)) g x f1:=by
 obtain ⟨v,hb,hg,hs⟩:=h;exact ⟨_,by simpa using blk_set hb 0 (.slice A x.size c),hg,A,c,rfl,hc,hC⟩
theorem zat.set_1 {w0 W:World} {g:Nat} {f0:ByteArray} {f1:Bool} (h:zat w0 W g f0 f1) (x:Bool):zat w0 (W.setCell ⟨g,1,none⟩ (.bool x)) g f0 x:=by
 obtain ⟨v,hb,hs⟩:=h;exact ⟨v,by simpa using blk_set hb 1 (.bool x),hs⟩
theorem zat.slc {w0 W:World} {g:Nat} {f0:ByteArray} {f1:Bool} (h:zat w0 W g f0 f1) (hB:Below w0.heap.size w0 W):∃ A c,W.cell? ⟨g,0,none⟩=some (.slice A f0.size c)∧W.cell? ⟨g,1,none⟩=some (.bool f1)∧W.frozen? ⟨g,0,none⟩=false∧W.frozen? ⟨g,1,none⟩=false∧f0.size≤c∧(Kd.int .u8).C w0 A f0.size (bytesOf f0)∧(Kd.int .u8).C W A f0.size (bytesOf f0):=by
 obtain ⟨v,hb,hg,A,c,rfl,hc,hC⟩:=h;exact ⟨A,c,cellS78_0 hb,cellS78_1 hb,zau hb 0,zau hb 1,hc,hC,Kd.zc6 hC hB⟩
theorem zat.cut {w0 W:World} {g:Nat} {f0:ByteArray} {f1:Bool} (h:zat w0 W g f0 f1) {A:Option Addr} {c:Nat} (hc:f0.size≤c) (hC:(Kd.int .u8).C w0 A f0.size (bytesOf f0)) (n:Nat) (hn:n≤f0.size):zat w0 (W.setCell ⟨g,0,none⟩ (.slice (if c=n then A else A.map (·.add (n*1))) (f0.size-n) (c-n))) g (dropS n f0) f1:=by
 have h1:=Kd.C_drop (k:=Kd.int .u8) (m:=n) (c:=c) (by rw [bytesOf_length];exact hC) (by rw [bytesOf_length];exact hn) (by rw [bytesOf_length];exact hc);rw [← dropS_bytes,bytesOf_length] at h1;rw [← dropS_size];exact h.set_0 (dropS n f0) (by rw [dropS_size];omega) h1
theorem zat.cutA {w0 W:World} {g:Nat} {f0:ByteArray} {f1:Bool} (h:zat w0 W g f0 f1) {A:Option Addr} {c:Nat} (hc:f0.size≤c) (hC:(Kd.int .u8).C w0 A f0.size (bytesOf f0)) (n:Nat) (hn:n≤f0.size) (e:c=n):zat w0 (W.setCell ⟨g,0,none⟩ (.slice A (f0.size-n) 0)) g (dropS n f0) f1:=by
 have h1:=h.cut hc hC n hn
 rwa [if_pos e,show c-n=0 by omega] at h1
theorem zat.cutB {w0 W:World} {g:Nat} {f0:ByteArray} {f1:Bool} (h:zat w0 W g f0 f1) {ad:Addr} {c:Nat} (hc:f0.size≤c) (hC:(Kd.int .u8).C w0 (some ad) f0.size (bytesOf f0)) (n:Nat) (hn:n≤f0.size) (e:¬ c=n) (h0:0<n):zat w0 (W.setCell ⟨g,0,none⟩ (.slice (some ⟨ad.block,ad.off+n,none⟩) (f0.size-n) (c-n))) g (dropS n f0) f1:=by
 have h1:=h.cut hc hC n hn;rw [if_neg e,Nat.mul_one] at h1
 have e2:ad.add n=⟨ad.block,ad.off+n,none⟩:=by unfold Addr.add;rw [if_neg (by omega)]
 rw [← e2];exact h1
theorem zat.cutC {w0 W:World} {g:Nat} {f0:ByteArray} {f1:Bool} (h:zat w0 W g f0 f1) {A:Option Addr} {c:Nat} (hc:f0.size≤c) (hC:(Kd.int .u8).C w0 A f0.size (bytesOf f0)) (n:Nat) (hn:n≤f0.size) (e:¬ c=n):zat w0 (W.setCell ⟨g,0,none⟩ (.slice (Option.map (fun x=>x.add n) A) (f0.size-n) (c-n))) g (dropS n f0) f1:=by
 have h1:=h.cut hc hC n hn
 rwa [if_neg e,Nat.mul_one] at h1
def st7 (u x:Int) (i:Nat):Int:=bits .or .u64 u (IntKind.u64.wrap (IntKind.u64.wrap (bits .and .u8 x 127)*2 ^ (7*i)))
def rn:Nat→Nat→Int→List Int→Option (Int×Nat)
 | 0,_,_,_=>none
 | _+1,_,_,[]=>none
 | f+1,i,u,x :: r=>if x<128 then some (st7 u x i,i+1) else rn f (i+1) (st7 u x i) r
def sv (u:Int):Int:=if (bits .and .u64 u 1 == 1)=true then wrap64 (wrap64 (-wrap64 (IntKind.u64.wrap (u.tdiv 2)))-1) else wrap64 (IntKind.u64.wrap (u.tdiv 2))
def rnum (s:ByteArray) (bad:Bool):Int×ByteArray×Bool:=
 match rn 9 0 0 (bytesOf s) with
 | none=>(0,s,true)
 | some (u,n)=>(sv u,dropS n s,bad)
theorem rn_nil (f i:Nat) (u:Int):rn f i u []=none:=by cases f <;> rfl
theorem drop_rd' {l:List Int} {i:Nat} (h:i<l.length):l.drop i=rd l (i:Int) :: l.drop (i+1):=by
 rw [List.drop_eq_getElem_cons h]
 congr 1
 unfold rd;rw [Int.toNat_natCast,List.getD_eq_getElem?_getD,List.getElem?_eq_getElem h]
 rfl
def zbk.f (_:Nat) (s:ByteArray) (bad:Bool):Option (Int×ByteArray×Bool):=some (rnum s bad)
theorem zbk.mono:∀ a0 a1 k,LeO (zbk.f k a0 a1) (zbk.f (k+1) a0 a1):=fun _ _ _=>LeO.refl _
set_option maxHeartbeats 4000000 in
set_option maxRecDepth 100000 in
theorem zbk.calls (k:Nat) (g:Nat) (s0_0:ByteArray) (s0_1:Bool) (r1:Int) (r2:ByteArray) (r3:Bool) (w0 w:World) (hI:zat w0 w g s0_0 s0_1) (hB:Below w0.heap.size w0 w) (h:zbk.f k s0_0 s0_1=some (r1,r2,r3)) :
 Calls Tryd.prog 29 #[.pointer (some ⟨g,0,none⟩)] w fun e w'=>e = .returned (.int .i64 r1)∧zat w0 w' g r2 r3∧Below w0.heap.size w0 w'∧zb7 w w' g none:=by
 have hu78:=Tryd.underlying78;obtain ⟨A,c,hc0,hc1,hf0,hf1,hlc,hC0,hC⟩:=hI.slc hB;have HI:=za1.mk hI;have HB:=za1.mk hB;have HC0:=za1.mk hC0;have HC:=za1.mk hC;have HR:rnum s0_0 s0_1=(r1,r2,r3):=Option.some.inj h;have HLC:=za1.mk hlc;have HS:=am (show s0_0.size≤9223372036854775807 by have:=hC.2.1;omega);clear hI hB hC0 hC h hlc;have HRA:=za1.mk HR;clear HR;go_enter Tryd.func29,Tryd.ntmps29
 go_wp2
 go_loopg [3,4] 10 (fun kq v3 v4 w'=>∃ (i:Nat) (u:Int),v3 = .int .u64 u∧v4 = .int .i64 (i:Int)∧w'=w∧za1 (i+kq=10∧i≤9∧i≤s0_0.size∧rn (9-i) i u ((bytesOf s0_0).drop i)=rn 9 0 0 (bytesOf s0_0)))
 case atStart=>exact ⟨0,0,rfl,rfl,rfl,⟨by omega,by omega,by omega,rfl⟩⟩
 case round=>
  obtain ⟨i,u,rfl,rfl,rfl,HA⟩:=hrel
  by_cases hi:(i:Int)<(s0_0.size:Int)
  ·have hi1:=decide_eq_true hi
   by_cases h9:(i:Int)<9
   ·have h91:=decide_eq_true h9
    have hp:decide (0≤(i:Int))=true:=decide_eq_true (by omega);obtain ⟨ad,rfl,hx⟩:=Kd.at_int HC.out (i:Int) (by omega) hi;rw [Int.toNat_natCast] at hx
    obtain ⟨x,hxe⟩:∃ x,x=rd (bytesOf s0_0) (i:Int):=⟨_,rfl⟩
    rw [← hxe] at hx
    obtain ⟨m,hm⟩:∃ m,9-i=m+1:=⟨8-i,by omega⟩
    have hd:(bytesOf s0_0).drop i=x :: (bytesOf s0_0).drop (i+1):=by
     rw [hxe];exact drop_rd' (by rw [bytesOf_length];omega)
    have HN:=HA.out.2.2.2;rw [hm,hd] at HN;have HD:=za1.mk HN;clear HN hd
    by_cases h8:x<128
    ·have h81:=decide_eq_true h8
     have HE:=HD.out;simp only [rn] at HE;rw [if_pos h8] at HE;have HQ:=HRA.out;unfold rnum at HQ;rw [← HE] at HQ;obtain ⟨e1,e2⟩:=Prod.mk.inj HQ;obtain ⟨e2,e3⟩:=Prod.mk.inj e2;have E1:=za1.mk e1;subst e2 e3;clear HE HQ e1;rw [hxe] at E1
     by_cases hq:(bits BinOp.and IntKind.u64 (st7 u (rd (bytesOf s0_0) (i:Int)) i) 1 == 1)=true
     ·have hq':=hq
      unfold st7 at hq';have E2:=E1.out;unfold sv at E2;rw [if_pos hq] at E2;unfold st7 at E2
      go_wp2
      case inl=>go_ret;exact ⟨rfl,HI.out.cutA HLC.out HC0.out _ (by omega) (by assumption),zak HB.out HI.out.ge,zb7.set_ (zb7.refl _ _ _) _ _⟩
      case inr=>go_ret;exact ⟨rfl,HI.out.cutB HLC.out HC0.out _ (by omega) (by assumption) (by omega),zak HB.out HI.out.ge,zb7.set_ (zb7.refl _ _ _) _ _⟩
     ·have hq':=Bool.eq_false_iff.mpr hq
      unfold st7 at hq';have E2:=E1.out;unfold sv at E2;rw [if_neg hq] at E2;unfold st7 at E2
      go_wp2
      case inl=>go_ret;exact ⟨rfl,HI.out.cutA HLC.out HC0.out _ (by omega) (by assumption),zak HB.out HI.out.ge,zb7.set_ (zb7.refl _ _ _) _ _⟩
      case inr=>go_ret;exact ⟨rfl,HI.out.cutB HLC.out HC0.out _ (by omega) (by assumption) (by omega),zak HB.out HI.out.ge,zb7.set_ (zb7.refl _ _ _) _ _⟩
    ·have h81:=decide_eq_false h8
     have HE:=HD.out;simp only [rn] at HE;rw [if_neg h8,hxe] at HE;have HE':=za1.mk HE;clear HE
     go_wp2
     go_roundg (gk-1)
     case measure=>have:=HA.out;omega
     case rel=>
      have ha:=HA.out;refine ⟨i+1,_,rfl,?_,rfl,⟨by omega,by omega,by omega,?_⟩⟩
      ·first|rfl|(congr 1;done)|(congr 1;unfold wrap64;omega)
      ·rw [show 9-(i+1)=m by omega]
       exact HE'.out
   ·have h91:=decide_eq_false h9
    have hz:9-i=0:=by omega
    have HE:=HA.out.2.2.2;rw [hz] at HE;simp only [rn] at HE;have HQ:=HRA.out;unfold rnum at HQ;rw [← HE] at HQ;obtain ⟨e1,e2⟩:=Prod.mk.inj HQ;obtain ⟨e2,e3⟩:=Prod.mk.inj e2;subst e1 e2 e3;clear HE HQ
    go_wp2
    go_ret;exact ⟨rfl,HI.out.set_1 true,zak HB.out HI.out.ge,zb7.set_ (zb7.refl _ _ _) _ _⟩
  ·have hi1:=decide_eq_false hi
   have hz:(bytesOf s0_0).drop i=[]:=List.drop_eq_nil_of_le (by rw [bytesOf_length];omega);have HE:=HA.out.2.2.2;rw [hz] at HE;have HQ:=HRA.out;unfold rnum at HQ;rw [← HE,rn_nil] at HQ;obtain ⟨e1,e2⟩:=Prod.mk.inj HQ;obtain ⟨e2,e3⟩:=Prod.mk.inj e2;subst e1 e2 e3;clear HE HQ
   go_wp2
   go_ret;exact ⟨rfl,HI.out.set_1 true,zak HB.out HI.out.ge,zb7.set_ (zb7.refl _ _ _) _ _⟩
def zax.f (k:Nat) (s0_0:ByteArray) (s0_1:Bool) (a1:Int):Option (Int×ByteArray×Bool):=(zbk.f k s0_0 s0_1).bind fun bt702=>(if bt702.2.2=true then (some (0,bt702.2.1,true)) else (if bt702.1<0 then (some (0,bt702.2.1,true)) else (if bt702.1>a1 then (some (0,bt702.2.1,true)) else (some (bt702.1,bt702.2.1,bt702.2.2)))))
theorem zax.mono:∀ a0 a1 a2 k,LeO (zax.f k a0 a1 a2) (zax.f (k+1) a0 a1 a2):=by
 intro a0 a1 a2 k;unfold zax.f
 repeat' first
  | (with_reducible exact zbk.mono _ _ _)
  | (with_reducible exact LeO.refl _)
  | (with_reducible exact LeO.none _)
  | (with_reducible refine LeO.ite ?_ ?_)
  | (with_reducible refine LeO.bind ?_ (fun _=>?_))
  | exact zbk.mono _ _ _
  | exact LeO.none _
  | refine LeO.ite ?_ ?_
  | refine LeO.bind ?_ (fun _=>?_)
set_option maxHeartbeats 8000000 in
set_option maxRecDepth 100000 in
theorem zax.calls (k:Nat) (g:Nat) (s0_0:ByteArray) (s0_1:Bool) (a1:Int) (r1:Int) (r2:ByteArray) (r3:Bool) (w0 w:World) (hI:zat w0 w g s0_0 s0_1) (hB:Below w0.heap.size w0 w) (h:zax.f k s0_0 s0_1 a1=some (r1,r2,r3)) :
 Calls Tryd.prog 27 #[.pointer (some ⟨g,0,none⟩),.int .i64 a1] w fun e w'=>e = .returned (.int .i64 r1)∧zat w0 w' g r2 r3∧Below w0.heap.size w0 w'∧zb7 w w' g none:=by
 have HI0:=za1.mk hI;have HK:=am (zb7.refl w g none);have HL:=za1.mk hB.size;clear hI;have HW0:=za1.mk hB.size;have HB:=za1.mk hB;clear hB;have H:((zbk.f k s0_0 s0_1).bind fun bt702=>(if bt702.2.2=true then (some (0,bt702.2.1,true)) else (if bt702.1<0 then (some (0,bt702.2.1,true)) else (if bt702.1>a1 then (some (0,bt702.2.1,true)) else (some (bt702.1,bt702.2.1,bt702.2.2))))))=some (r1,r2,r3):=h;clear h;replace H:=Option.bind_eq_some_iff.mp H;obtain ⟨⟨t702,t703,t704⟩,A30,H⟩:=H;replace H:(if t704=true then (some (0,t703,true)) else (if t702<0 then (some (0,t703,true)) else (if t702>a1 then (some (0,t703,true)) else (some (t702,t703,t704)))))=some (r1,r2,r3):=H;have A3:=za1.mk A30;clear A30
 by_cases c4:t704=true
 ·subst c4
  have H1:(some (0,t703,true))=some (r1,r2,r3):=by rw [if_pos rfl] at H;exact H
  clear H;have H:=H1;clear H1;simp only [Option.some.injEq,Prod.mk.injEq] at H;obtain ⟨rfl,rfl,rfl⟩:=H;go_enter Tryd.func27,Tryd.ntmps27
  go_wp2_with (first|((with_reducible refine zan (f:=29) rfl ?_);refine goesL_ (some 7) rfl rfl Tryd.func29 (by kernel_rfl) rfl #[.pointer (some ⟨g,0,none⟩)] rfl q4 ?_;(with_reducible refine (zbk.calls k g s0_0 s0_1 t702 t703 true w0 _ ?side1 ?side2 A3.out).mono ?_);(case side1=>repeat (first|(with_reducible first|exact HI0.out|apply zat.alloc|apply zat.drewN|apply zat.drew|apply zat.set_1)|exact HI0.out));(case side2=>repeat (first|(with_reducible first|exact HB.out|apply zaw|apply zah|apply zar|refine zak ?_ (zat.ge HI0.out))|exact HB.out));rintro e w5 ⟨rfl,hi,hb,hk⟩;refine ⟨_,rfl,?_⟩;replace HK:=am (zb7.trans q15 hk (.inl rfl));replace HI0:=am (hi);replace HB:=am (hb);(try clear hb);(try clear hb2);(try clear hk);(try clear hi);obtain ⟨vz_,HGz6,hgz6⟩:=HI0.out;have c_a0:=cellS78_0 HGz6;have c_a1:=cellS78_1 HGz6;have f_a0:=zau HGz6 0;have f_a1:=zau HGz6 1;clear HGz6 hgz6))
  go_ret;exact ⟨q8,q33,q34,q15⟩
 ·replace c4:=Bool.eq_false_iff.mpr c4
  subst c4
  have H1:(if t702<0 then (some (0,t703,true)) else (if t702>a1 then (some (0,t703,true)) else (some (t702,t703,false))))=some (r1,r2,r3):=by rw [if_neg (show ¬ (false=true) by decide)] at H;exact H
  clear H;have H:=H1;clear H1
  by_cases c7:t702<0
  ·rw [if_pos c7] at H
   have c7b0:decide (t702<0)=true:=decide_eq_true c7;clear c7;simp only [Option.some.injEq,Prod.mk.injEq] at H;obtain ⟨rfl,rfl,rfl⟩:=H;go_enter Tryd.func27,Tryd.ntmps27
   go_wp2_with (first|((with_reducible refine zan (f:=29) rfl ?_);refine goesL_ (some 7) rfl rfl Tryd.func29 (by kernel_rfl) rfl #[.pointer (some ⟨g,0,none⟩)] rfl q4 ?_;(with_reducible refine (zbk.calls k g s0_0 s0_1 t702 t703 false w0 _ ?side1 ?side2 A3.out).mono ?_);(case side1=>repeat (first|(with_reducible first|exact HI0.out|apply zat.alloc|apply zat.drewN|apply zat.drew|apply zat.set_1)|exact HI0.out));(case side2=>repeat (first|(with_reducible first|exact HB.out|apply zaw|apply zah|apply zar|refine zak ?_ (zat.ge HI0.out))|exact HB.out));rintro e w8 ⟨rfl,hi,hb,hk⟩;refine ⟨_,rfl,?_⟩;replace HK:=am (zb7.trans q15 hk (.inl rfl));replace HI0:=am (hi);replace HB:=am (hb);(try clear hb);(try clear hb2);(try clear hk);(try clear hi);obtain ⟨vz_,HGz9,hgz9⟩:=HI0.out;have c_b0:=cellS78_0 HGz9;have c_b1:=cellS78_1 HGz9;have f_b0:=zau HGz9 0;have f_b1:=zau HGz9 1;clear HGz9 hgz9))
   go_ret;exact ⟨q8,q33,q34,q15⟩
  ·rw [if_neg c7] at H
   have c7b0:decide (t702<0)=false:=decide_eq_false c7;clear c7
   by_cases c10:t702>a1
   ·rw [if_pos c10] at H
    have c10b0:decide (a1<t702)=true:=decide_eq_true c10;clear c10;simp only [Option.some.injEq,Prod.mk.injEq] at H;obtain ⟨rfl,rfl,rfl⟩:=H;go_enter Tryd.func27,Tryd.ntmps27
    go_wp2_with (first|((with_reducible refine zan (f:=29) rfl ?_);refine goesL_ (some 7) rfl rfl Tryd.func29 (by kernel_rfl) rfl #[.pointer (some ⟨g,0,none⟩)] rfl q4 ?_;(with_reducible refine (zbk.calls k g s0_0 s0_1 t702 t703 false w0 _ ?side1 ?side2 A3.out).mono ?_);(case side1=>repeat (first|(with_reducible first|exact HI0.out|apply zat.alloc|apply zat.drewN|apply zat.drew|apply zat.set_1)|exact HI0.out));(case side2=>repeat (first|(with_reducible first|exact HB.out|apply zaw|apply zah|apply zar|refine zak ?_ (zat.ge HI0.out))|exact HB.out));rintro e w11 ⟨rfl,hi,hb,hk⟩;refine ⟨_,rfl,?_⟩;replace HK:=am (zb7.trans q15 hk (.inl rfl));replace HI0:=am (hi);replace HB:=am (hb);(try clear hb);(try clear hb2);(try clear hk);(try clear hi);obtain ⟨vz_,HGz12,hgz12⟩:=HI0.out;have c_c0:=cellS78_0 HGz12;have c_c1:=cellS78_1 HGz12;have f_c0:=zau HGz12 0;have f_c1:=zau HGz12 1;clear HGz12 hgz12))
    go_ret;exact ⟨q8,q33,q34,q15⟩
   ·rw [if_neg c10] at H
    have c10b0:decide (a1<t702)=false:=decide_eq_false c10;clear c10;simp only [Option.some.injEq,Prod.mk.injEq] at H;obtain ⟨rfl,rfl,rfl⟩:=H;go_enter Tryd.func27,Tryd.ntmps27
    go_wp2_with (first|((with_reducible refine zan (f:=29) rfl ?_);refine goesL_ (some 7) rfl rfl Tryd.func29 (by kernel_rfl) rfl #[.pointer (some ⟨g,0,none⟩)] rfl q4 ?_;(with_reducible refine (zbk.calls k g s0_0 s0_1 t702 t703 false w0 _ ?side1 ?side2 A3.out).mono ?_);(case side1=>repeat (first|(with_reducible first|exact HI0.out|apply zat.alloc|apply zat.drewN|apply zat.drew|apply zat.set_1)|exact HI0.out));(case side2=>repeat (first|(with_reducible first|exact HB.out|apply zaw|apply zah|apply zar|refine zak ?_ (zat.ge HI0.out))|exact HB.out));rintro e w13 ⟨rfl,hi,hb,hk⟩;refine ⟨_,rfl,?_⟩;replace HK:=am (zb7.trans q15 hk (.inl rfl));replace HI0:=am (hi);replace HB:=am (hb);(try clear hb);(try clear hb2);(try clear hk);(try clear hi);obtain ⟨vz_,HGz14,hgz14⟩:=HI0.out;have c_d0:=cellS78_0 HGz14;have c_d1:=cellS78_1 HGz14;have f_d0:=zau HGz14 0;have f_d1:=zau HGz14 1;clear HGz14 hgz14))
    go_ret;exact ⟨q8,q33,q34,q15⟩
def zaa.f (k:Nat) (s0_0:ByteArray) (s0_1:Bool):Option (Int×ByteArray×Bool):=(zbk.f k s0_0 s0_1).bind fun bt705=>(some (bt705.1,bt705.2.1,bt705.2.2))
theorem zaa.mono:∀ a0 a1 k,LeO (zaa.f k a0 a1) (zaa.f (k+1) a0 a1):=by
 intro a0 a1 k;unfold zaa.f
 repeat' first
  | (with_reducible exact zbk.mono _ _ _)
  | (with_reducible exact LeO.refl _)
  | (with_reducible exact LeO.none _)
  | (with_reducible refine LeO.ite ?_ ?_)
  | (with_reducible refine LeO.bind ?_ (fun _=>?_))
  | exact zbk.mono _ _ _
  | exact LeO.none _
  | refine LeO.ite ?_ ?_
  | refine LeO.bind ?_ (fun _=>?_)
set_option maxHeartbeats 8000000 in
set_option maxRecDepth 100000 in
theorem zaa.calls (k:Nat) (g:Nat) (s0_0:ByteArray) (s0_1:Bool) (r1:Int) (r2:ByteArray) (r3:Bool) (w0 w:World) (hI:zat w0 w g s0_0 s0_1) (hB:Below w0.heap.size w0 w) (h:zaa.f k s0_0 s0_1=some (r1,r2,r3)) :
 Calls Tryd.prog 28 #[.pointer (some ⟨g,0,none⟩)] w fun e w'=>e = .returned (.int .i64 r1)∧zat w0 w' g r2 r3∧Below w0.heap.size w0 w'∧zb7 w w' g none:=by
 have HI0:=za1.mk hI;have HK:=am (zb7.refl w g none);have HL:=za1.mk hB.size;clear hI;have HW0:=za1.mk hB.size;have HB:=za1.mk hB;clear hB;have H:((zbk.f k s0_0 s0_1).bind fun bt705=>(some (bt705.1,bt705.2.1,bt705.2.2)))=some (r1,r2,r3):=h;clear h;replace H:=Option.bind_eq_some_iff.mp H;obtain ⟨⟨t705,t706,t707⟩,A20,H⟩:=H;replace H:(some (t705,t706,t707))=some (r1,r2,r3):=H;have A2:=za1.mk A20;clear A20;simp only [Option.some.injEq,Prod.mk.injEq] at H;obtain ⟨rfl,rfl,rfl⟩:=H;go_enter Tryd.func28,Tryd.ntmps28
 go_wp2_with (first|((with_reducible refine zan (f:=29) rfl ?_);refine goesL_ (some 4) rfl rfl Tryd.func29 (by kernel_rfl) rfl #[.pointer (some ⟨g,0,none⟩)] rfl q4 ?_;(with_reducible refine (zbk.calls k g s0_0 s0_1 t705 t706 t707 w0 _ ?side1 ?side2 A2.out).mono ?_);(case side1=>repeat (first|(with_reducible first|exact HI0.out|apply zat.alloc|apply zat.drewN|apply zat.drew|apply zat.set_1)|exact HI0.out));(case side2=>repeat (first|(with_reducible first|exact HB.out|apply zaw|apply zah|apply zar|refine zak ?_ (zat.ge HI0.out))|exact HB.out));rintro e w3 ⟨rfl,hi,hb,hk⟩;refine ⟨_,rfl,?_⟩;replace HK:=am (zb7.trans q15 hk (.inl rfl));replace HI0:=am (hi);replace HB:=am (hb);(try clear hb);(try clear hb2);(try clear hk);(try clear hi)))
 go_ret;exact ⟨q8,q33,q34,q15⟩
theorem zax.nonneg {k:Nat} {s s':ByteArray} {b b':Bool} {m n:Int} (h:zax.f k s b m=some (n,s',b')):0≤n:=by
 unfold zax.f at h;obtain ⟨⟨n1,s1,b1⟩,_,h⟩:=Option.bind_eq_some_iff.mp h
 split at h
 ·cases h;exact Int.le_refl 0
 ·split at h
  ·cases h;exact Int.le_refl 0
  ·split at h
   ·cases h;exact Int.le_refl 0
   ·cases h
    rename_i _ h1 _
    exact Int.not_lt.mp h1
theorem C_cut {w:World} {A:Option Addr} {s:ByteArray} (h:(Kd.int .u8).C w A s.size (bytesOf s)) (n:Nat) (hn:n≤s.size):(Kd.int .u8).C w A n ((bytesOf s).take n):=by
 have h1:=Kd.C_take (m:=n) (by rw [bytesOf_length];exact h) (by rw [bytesOf_length];exact hn)
 rwa [List.length_take,bytesOf_length,Nat.min_eq_left hn] at h1
def zc0.f (k:Nat) (s:ByteArray) (bad:Bool):Option (ByteArray×ByteArray×Bool):=(zax.f k s bad (s.size:Int)).bind fun t=>if t.1>(t.2.1.size:Int) then some ((⟨#[]⟩:ByteArray),t.2.1,true) else some (takeS t.1.toNat t.2.1,dropS t.1.toNat t.2.1,t.2.2)
theorem zc0.mono:∀ a0 a1 k,LeO (zc0.f k a0 a1) (zc0.f (k+1) a0 a1):=fun a0 a1 k=>LeO.bind (zax.mono _ _ _ _) (fun _=>LeO.refl _)
set_option maxHeartbeats 4000000 in
set_option maxRecDepth 100000 in
theorem zc0.calls (k:Nat) (g:Nat) (s0_0:ByteArray) (s0_1:Bool) (r1:ByteArray) (r2:ByteArray) (r3:Bool) (w0 w:World) (hI:zat w0 w g s0_0 s0_1) (hB:Below w0.heap.size w0 w) (h:zc0.f k s0_0 s0_1=some (r1,r2,r3)) :
 Calls Tryd.prog 55 #[.pointer (some ⟨g,0,none⟩)] w fun e w'=>e = .returned (.string r1)∧zat w0 w' g r2 r3∧Below w0.heap.size w0 w'∧zb7 w w' g none:=by
 have hu78:=Tryd.underlying78;obtain ⟨A,c,hc0,hc1,hf0,hf1,hlc,hC0,hC⟩:=hI.slc hB;have HI:=za1.mk hI;have HB:=za1.mk hB;obtain ⟨⟨n,s1,b1⟩,ht,hr⟩:=Option.bind_eq_some_iff.mp h;have HT:=za1.mk ht;have HRA:=za1.mk hr;have HN:=am (zax.nonneg ht);clear hI hB hC0 hC h hlc ht hr;go_enter Tryd.func55,Tryd.ntmps55
 go_upto_region 2 with (go_at_call 27;(with_reducible refine (zax.calls k g s0_0 s0_1 (s0_0.size:Int) n s1 b1 w0 w HI.out HB.out HT.out).mono ?_);rintro e w1 ⟨rfl,hi,hb,hk⟩;have HI1:=za1.mk hi;have HB1:=za1.mk hb;have HK1:=za1.mk hk;clear hi hb hk)
 clear hc0 hc1 hf0 hf1;obtain ⟨A1,c1,hc0,hc1,hf0,hf1,hlc,hC0,hC⟩:=HI1.out.slc HB1.out;have HC0:=za1.mk hC0;have HC:=za1.mk hC;have HLC:=za1.mk hlc;clear hC0 hC hlc
 by_cases hn:n>(s1.size:Int)
 ·have hn1:=decide_eq_true hn
  have HQ:=HRA.out;rw [if_pos hn] at HQ;obtain ⟨e1,e2⟩:=Prod.mk.inj (Option.some.inj HQ);obtain ⟨e2,e3⟩:=Prod.mk.inj e2;subst e1 e2 e3;clear HQ
  go_wp2
  go_ret;exact ⟨rfl,HI1.out.set_1 true,zak HB1.out HI1.out.ge,zb7.set_ HK1.out _ _⟩
 ·have hn1:=decide_eq_false hn
  have HQ:=HRA.out;rw [if_neg hn] at HQ
  obtain ⟨m,rfl⟩:∃ m:Nat,n=(m:Int):=⟨n.toNat,by have:=HN.out;omega⟩
  simp only [Int.toNat_natCast] at HQ;obtain ⟨e1,e2⟩:=Prod.mk.inj (Option.some.inj HQ);obtain ⟨e2,e3⟩:=Prod.mk.inj e2;subst e1 e2 e3;clear HQ;have hcv:=Kd.C_string (P:=Tryd.prog) (src:=22) (dst:=9) (c:=c1) Tryd.underlying22 Tryd.underlying5 Tryd.underlying9 (C_cut HC.out m (by omega))
  have hmc:m≤c1:=by have:=HLC.out;omega
  go_wp2
  case inl=>go_ret;exact ⟨rfl,HI1.out.cutA HLC.out HC0.out m (by omega) (by assumption),zak HB1.out HI1.out.ge,zb7.set_ HK1.out _ _⟩
  case inr=>go_ret;exact ⟨rfl,HI1.out.cutC HLC.out HC0.out m (by omega) (by assumption),zak HB1.out HI1.out.ge,zb7.set_ HK1.out _ _⟩
def zbi.f (k:Nat) (s0_0:ByteArray) (s0_1:Bool):Option (Bool×ByteArray×ByteArray×ByteArray×Bool):=(zbk.f k s0_0 s0_1).bind fun bt709=>((zc0.f k bt709.2.1 bt709.2.2).bind fun bt712=>((zc0.f k bt712.2.1 bt712.2.2).bind fun bt715=>(some ((bt709.1 == 1),bt712.1,bt715.1,bt715.2.1,bt715.2.2))))
theorem zbi.mono:∀ a0 a1 k,LeO (zbi.f k a0 a1) (zbi.f (k+1) a0 a1):=by
 intro a0 a1 k;unfold zbi.f
 repeat' first
  | (with_reducible exact zbk.mono _ _ _)
  | (with_reducible exact zc0.mono _ _ _)
  | (with_reducible exact LeO.refl _)
  | (with_reducible exact LeO.none _)
  | (with_reducible refine LeO.ite ?_ ?_)
  | (with_reducible refine LeO.bind ?_ (fun _=>?_))
  | exact zbk.mono _ _ _
  | exact zc0.mono _ _ _
  | exact LeO.none _
  | refine LeO.ite ?_ ?_
  | refine LeO.bind ?_ (fun _=>?_)
set_option maxHeartbeats 8000000 in
set_option maxRecDepth 100000 in
theorem zbi.calls (k:Nat) (g:Nat) (s0_0:ByteArray) (s0_1:Bool) (r1:Bool) (r2:ByteArray) (r3:ByteArray) (r4:ByteArray) (r5:Bool) (w0 w:World) (hI:zat w0 w g s0_0 s0_1) (hB:Below w0.heap.size w0 w) (h:zbi.f k s0_0 s0_1=some (r1,r2,r3,r4,r5)) :
 Calls Tryd.prog 42 #[.pointer (some ⟨g,0,none⟩)] w fun e w'=>e = .returned (.agg #[.bool r1,.string r2,.string r3])∧zat w0 w' g r4 r5∧Below w0.heap.size w0 w'∧zb7 w w' g none:=by
 have hu30:=Tryd.underlying30;have HI0:=za1.mk hI;have HK:=am (zb7.refl w g none);have HL:=za1.mk hB.size;clear hI;have HW0:=za1.mk hB.size;have HB:=za1.mk hB;clear hB;have H:((zbk.f k s0_0 s0_1).bind fun bt709=>((zc0.f k bt709.2.1 bt709.2.2).bind fun bt712=>((zc0.f k bt712.2.1 bt712.2.2).bind fun bt715=>(some ((bt709.1 == 1),bt712.1,bt715.1,bt715.2.1,bt715.2.2)))))=some (r1,r2,r3,r4,r5):=h;clear h;replace H:=Option.bind_eq_some_iff.mp H;obtain ⟨⟨t709,t710,t711⟩,A20,H⟩:=H;replace H:((zc0.f k t710 t711).bind fun bt712=>((zc0.f k bt712.2.1 bt712.2.2).bind fun bt715=>(some ((t709 == 1),bt712.1,bt715.1,bt715.2.1,bt715.2.2))))=some (r1,r2,r3,r4,r5):=H;have A2:=za1.mk A20;clear A20;replace H:=Option.bind_eq_some_iff.mp H;obtain ⟨⟨t712,t713,t714⟩,A30,H⟩:=H;replace H:((zc0.f k t713 t714).bind fun bt715=>(some ((t709 == 1),t712,bt715.1,bt715.2.1,bt715.2.2)))=some (r1,r2,r3,r4,r5):=H;have A3:=za1.mk A30;clear A30;replace H:=Option.bind_eq_some_iff.mp H;obtain ⟨⟨t715,t716,t717⟩,A40,H⟩:=H;replace H:(some ((t709 == 1),t712,t715,t716,t717))=some (r1,r2,r3,r4,r5):=H;have A4:=za1.mk A40;clear A40;simp only [Option.some.injEq,Prod.mk.injEq] at H;obtain ⟨rfl,rfl,rfl,rfl,rfl⟩:=H;go_enter Tryd.func42,Tryd.ntmps42
 go_wp2_with (first|((with_reducible refine zbr (N:=2) rfl ?_);refine zbq ?hg (N:=2) ?hd (cs:=#[.bool false,.string (⟨#[]⟩:ByteArray),.string (⟨#[]⟩:ByteArray)]) (t:=30) ?hr ?_;(case hd=>rfl);(case hg=>rfl);(case hr=>first|(go_simp;done)|(go_simp;rfl));intro g_a hg w5 hbox hb;have n0_:=am (zat.below q33 hb);have n1_:=am (zb7.trans q15 (zb7.of_below hb g none) (.inl rfl));have n2_:=am (zab q34 hb);have n3_:=am (hbox);have n4_:=am ((by rw [hg];exact (zcw (w:=w) (g:=g) (row:=none) q15):w.heap.size≤g_a));have n5_:=am ((Nat.le_trans HW0.out (by rw [hg];exact (zcw (w:=w) (g:=g) (row:=none) q15):w.heap.size≤g_a):w0.heap.size≤g_a));have n6_:=am ((by rw [hg];exact Nat.ne_of_lt (zat.lt (show zat w0 _ g s0_0 s0_1 from by repeat (first|(with_reducible first|exact HI0.out|apply zat.alloc|apply zat.drewN|apply zat.drew|apply zat.set_1)|exact HI0.out))):g≠g_a));have n7_:=am ((by rw [hg];exact Nat.ne_of_gt (zat.lt (show zat w0 _ g s0_0 s0_1 from by repeat (first|(with_reducible first|exact HI0.out|apply zat.alloc|apply zat.drewN|apply zat.drew|apply zat.set_1)|exact HI0.out))):g_a≠g));clear HI0;clear HK;clear HB;have HI0:=n0_;have HK:=n1_;have HB:=n2_;have B_a:=n3_;have W_a:=n4_;have E_a:=n5_;have N_b_a:=n6_;have N_a_b:=n7_;clear n0_ n1_ n2_ n3_ n4_ n5_ n6_ n7_;clear hb hbox hg)|((with_reducible refine zan (f:=29) rfl ?_);refine goesL_ (some 6) rfl rfl Tryd.func29 (by kernel_rfl) rfl #[.pointer (some ⟨g,0,none⟩)] rfl q4 ?_;(with_reducible refine (zbk.calls k g s0_0 s0_1 t709 t710 t711 w0 _ ?side1 ?side2 A2.out).mono ?_);(case side1=>repeat (first|(with_reducible first|exact HI0.out|apply zat.alloc|apply zat.drewN|apply zat.drew|apply zat.set_1|refine zat.far ?_ N_b_a.out _)|exact HI0.out));(case side2=>repeat (first|(with_reducible first|exact HB.out|apply zaw|apply zah|apply zar|refine zak ?_ (zat.ge HI0.out)|refine zak ?_ E_a.out)|exact HB.out));rintro e w6 ⟨rfl,hi,hb,hk⟩;refine ⟨_,rfl,?_⟩;replace B_a:=am (zb7.blk hk (g':=g_a) (o:=.cells #[.bool false,.string (⟨#[]⟩:ByteArray),.string (⟨#[]⟩:ByteArray)] 30 (0,0)) q1 N_a_b.out (by simp));replace HK:=am (zb7.trans q16 hk (.inl rfl));replace HI0:=am (hi);replace HB:=am (hb);(try clear hb);(try clear hb2);(try clear hk);(try clear hi))|((with_reducible refine zan (f:=55) rfl ?_);refine goesL_ (some 9) rfl rfl Tryd.func55 (by kernel_rfl) rfl #[.pointer (some ⟨g,0,none⟩)] rfl q4 ?_;(with_reducible refine (zc0.calls k g t710 t711 t712 t713 t714 w0 _ ?side1 ?side2 A3.out).mono ?_);(case side1=>repeat (first|(with_reducible first|exact HI0.out|apply zat.alloc|apply zat.drewN|apply zat.drew|apply zat.set_1|refine zat.far ?_ N_b_a.out _)|exact HI0.out));(case side2=>repeat (first|(with_reducible first|exact HB.out|apply zaw|apply zah|apply zar|refine zak ?_ (zat.ge HI0.out)|refine zak ?_ E_a.out)|exact HB.out));rintro e w7 ⟨rfl,hi,hb,hk⟩;refine ⟨_,rfl,?_⟩;replace B_a:=am (zb7.blk hk (g':=g_a) (o:=.cells #[.bool false,.string (⟨#[]⟩:ByteArray),.string (⟨#[]⟩:ByteArray)] 30 (0,0)) q1 N_a_b.out (by simp));replace HK:=am (zb7.trans q16 hk (.inl rfl));replace HI0:=am (hi);replace HB:=am (hb);(try clear hb);(try clear hb2);(try clear hk);(try clear hi))|((with_reducible refine zan (f:=55) rfl ?_);refine goesL_ (some 13) rfl rfl Tryd.func55 (by kernel_rfl) rfl #[.pointer (some ⟨g,0,none⟩)] rfl q4 ?_;(with_reducible refine (zc0.calls k g t713 t714 t715 t716 t717 w0 _ ?side1 ?side2 A4.out).mono ?_);(case side1=>repeat (first|(with_reducible first|exact HI0.out|apply zat.alloc|apply zat.drewN|apply zat.drew|apply zat.set_1|refine zat.far ?_ N_b_a.out _)|exact HI0.out));(case side2=>repeat (first|(with_reducible first|exact HB.out|apply zaw|apply zah|apply zar|refine zak ?_ (zat.ge HI0.out)|refine zak ?_ E_a.out)|exact HB.out));rintro e w8 ⟨rfl,hi,hb,hk⟩;refine ⟨_,rfl,?_⟩;replace B_a:=am (zb7.blk hk (g':=g_a) (o:=.cells #[.bool false,.string (⟨#[]⟩:ByteArray),.string (⟨#[]⟩:ByteArray)] 30 (0,0)) q1 N_a_b.out (by simp));replace HK:=am (zb7.trans q16 hk (.inl rfl));replace HI0:=am (hi);replace HB:=am (hb);(try clear hb);(try clear hb2);(try clear hk);(try clear hi);have hnb9:=N_a_b.out;have hnc9:=N_b_a.out;obtain ⟨c_a0,c_a1,c_a2⟩:=cs3 B_a.out;obtain ⟨f_a0,f_a1,f_a2⟩:=fs3 B_a.out))
 refine bodyPost_ret (results_cell_row rfl _ _ g_a 30 #[.bool (t709 == 1),.string t712,.string t715] (0,0) _ rfl (by (with_reducible repeat (first|refine za4 ?_ _|refine za6 ?_|refine za0 ?_ _));refine za9 (cs:=#[.bool (t709 == 1),.string t712,.string (⟨#[]⟩:ByteArray)]) ?_ 2 _ rfl;(with_reducible repeat (first|refine za4 ?_ _|refine za6 ?_|refine za0 ?_ _));refine za9 (cs:=#[.bool (t709 == 1),.string (⟨#[]⟩:ByteArray),.string (⟨#[]⟩:ByteArray)]) ?_ 1 _ rfl;(with_reducible repeat (first|refine za4 ?_ _|refine za6 ?_|refine za0 ?_ _));refine za9 (cs:=#[.bool false,.string (⟨#[]⟩:ByteArray),.string (⟨#[]⟩:ByteArray)]) ?_ 0 _ rfl;(with_reducible repeat (first|refine za4 ?_ _|refine za6 ?_|refine za0 ?_ _));exact B_a.out) Tryd.underlying30 rfl (by kernel_rfl)) rfl ?_;exact ⟨q8,by repeat (first|(with_reducible first|exact HI0.out|apply zat.alloc|apply zat.drewN|apply zat.drew|apply zat.set_1|refine zat.far ?_ N_b_a.out _)|exact HI0.out),by repeat (first|(with_reducible first|exact HB.out|apply zaw|apply zah|apply zar|refine zak ?_ (zat.ge HI0.out)|refine zak ?_ E_a.out)|exact HB.out),q16⟩
end Go.Proofs.YtcipcpodgkeobaaDoor.F
end
