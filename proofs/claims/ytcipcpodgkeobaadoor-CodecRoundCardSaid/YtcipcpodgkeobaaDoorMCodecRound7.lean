/- Part 7 of the proof of CodecRound: the functions' walks and what they compute, in the order of the calls; each holds for all arguments that its row allows. -/
import Derived.Test.YtcipcpodgkeobaaDoorProg
import Derived.Below
import Derived.Deep.Draws
import Derived.Deep.AppendLies
import Derived.Maps.AppendAt
import Derived.OwnWalk
import Derived.Laws.BytesArg
import Derived.Laws.MakeOwn
import Derived.Laws.OwnMore
import Derived.Deep.OwnRows
import Derived.Tactics
import Derived.Lib.ConvBytes
import Derived.Laws.Slices
import Derived.WalkKit
import Derived.KernelRfl
import Derived.RowKit3
import Derived.Deep.LoopGhost
import Derived.Deep.QuietTactic
import Derived.BigQuiet
import Derived.WideLaws
import Derived.Deep.DeepCutAuto
import Derived.Deep.CutBlock
import Derived.Deep.RegionHeld3
import Derived.Laws.Rows
import Derived.Lib.AppendStr
import Derived.ArgAppend
import Derived.Laws.IdiomCopy
import Derived.OrdersHeld
import Derived.Laws.BitsLemmas
import Derived.RowKit
import Derived.Test.YtcipcpodgkeobaaDoorMCodecRound3
import Derived.Test.YtcipcpodgkeobaaDoorMCodecRound4
import Derived.Test.YtcipcpodgkeobaaDoorMCodecRound2
import Derived.Test.YtcipcpodgkeobaaDoorMCodecRound6
import Derived.Test.YtcipcpodgkeobaaDoorMCodecRound5
section
namespace Go.Proofs.YtcipcpodgkeobaaDoor.F
open Go.RowKit Go.Proofs.YtcipcpodgkeobaaDoorW.PrintWords Go.Proofs.YtcipcpodgkeobaaDoorW.PrintLast Go.Proofs.YtcipcpodgkeobaaDoorW.PrintMore
attribute [local go_sem] max2_int min2_int max_two min_two max_three min_three max_four min_four   
set_option linter.unusedVariables false
set_option linter.unusedSimpArgs false
def errW:Option Int→Value
 | none=>.nilIface
 | some c=>.iface 0 (.int .i64 c)
theorem zcp:errW none = .nilIface:=rfl
theorem zcq (c:Int):errW (some c) = .iface 0 (.int .i64 c):=rfl
theorem info5:(Tryd.prog.info? 5).map (fun i=>(i.zero,i.size,i.bytes))=some (some (.int .u8 0),1,1):=by kernel_rfl
theorem info25:(Tryd.prog.info? 25).map (fun i=>(i.zero,i.size,i.bytes))=some (some (.int .u32 0),1,4):=by kernel_rfl
theorem info49:(Tryd.prog.info? 49).map (fun i=>(i.zero,i.size,i.bytes))=some (some (.agg #[(.int .i64 0),(.int .i64 0)]),2,16):=by kernel_rfl
theorem info51:(Tryd.prog.info? 51).map (fun i=>(i.zero,i.size,i.bytes))=some (some (.agg #[(.bool false),(.string ⟨#[]⟩),(.string ⟨#[]⟩),(.int .i64 0)]),4,48):=by kernel_rfl
theorem info55:(Tryd.prog.info? 55).map (fun i=>(i.zero,i.size,i.bytes))=some (some (.agg #[(.int .i64 0),(.int .i64 0),(.int .i64 0),(.int .i64 0)]),4,32):=by kernel_rfl
structure S49 where
 f0:Int
 f1:Int
def z49:S49:=⟨(0:Int),(0:Int)⟩
def k49:Kd S49:=Kd.iso (Kd.pair (Kd.int .i64) (Kd.int .i64)) (fun x:S49=>(x.f0,x.f1))
theorem k49_open {w:World} {x:S49} {cs:List Value} (h:k49.K w x cs):cs=[.int .i64 x.f0,.int .i64 x.f1]:=by
 obtain ⟨_,_,rfl,rfl,rfl⟩:=h;exact rfl
theorem k49_mkM (w:World) (base:Nat) (ok:Nat→Prop) (x:S49)  : k49.M w base ok x [.int .i64 x.f0,.int .i64 x.f1]:=⟨[.int .i64 x.f0],[.int .i64 x.f1],rfl,rfl,rfl⟩
def rd_T49 (xs:List S49) (i:Int):S49:=xs.getD i.toNat z49
theorem at_T49 {w:World} {A:Option Addr} {n:Nat} {xs:List S49} (h:Kd.C k49 w A n xs) (i:Int) (h0:0≤i) (h1:i<n):∃ ad ,A=some ad∧w.cell? (ad.add (i.toNat*2))=some (.int .i64 (rd_T49 xs i).f0)∧w.cell? ⟨(ad.add (i.toNat*2)).block,(ad.add (i.toNat*2)).off+1,none⟩=some (.int .i64 (rd_T49 xs i).f1):=by
 obtain ⟨ad,c,e,_,hK,hc0⟩:=Kd.C_get h z49 i h0 h1;have hc:∀ j u,c[j]?=some u→w.cell? (ad.add (i.toNat*2+j))=some u:=hc0;obtain rfl:=k49_open hK;exact ⟨ad,e,hc 0 _ rfl,by rw [← add_field _ _ 1 (by omega)];exact hc 1 _ rfl⟩
structure S30 where
 f0:Bool
 f1:ByteArray
 f2:ByteArray
def z30:S30:=⟨false,(⟨#[]⟩:ByteArray),(⟨#[]⟩:ByteArray)⟩
def k30:Kd S30:=Kd.iso (Kd.pair Kd.bool (Kd.pair Kd.string Kd.string)) (fun x:S30=>(x.f0,x.f1,x.f2))
theorem k30_open {w:World} {x:S30} {cs:List Value} (h:k30.K w x cs):cs=[.bool x.f0,.string x.f1,.string x.f2]:=by
 obtain ⟨_,_,rfl,rfl,⟨_,_,rfl,rfl,rfl⟩⟩:=h;exact rfl
theorem k30_mkM (w:World) (base:Nat) (ok:Nat→Prop) (x:S30)  : k30.M w base ok x [.bool x.f0,.string x.f1,.string x.f2]:=⟨[.bool x.f0],[.string x.f1,.string x.f2],rfl,rfl,⟨[.string x.f1],[.string x.f2],rfl,rfl,rfl⟩⟩
structure S51 where
 f0:S30
 f1:Int
def z51:S51:=⟨z30,(0:Int)⟩
def k51:Kd S51:=Kd.iso (Kd.pair k30 (Kd.int .i64)) (fun x:S51=>(x.f0,x.f1))
theorem k51_open {w:World} {x:S51} {cs:List Value} (h:k51.K w x cs):cs=[.bool x.f0.f0,.string x.f0.f1,.string x.f0.f2,.int .i64 x.f1]:=by
 obtain ⟨_,_,rfl,s0,rfl⟩:=h;obtain rfl:=k30_open s0;exact rfl
theorem k51_mkM (w:World) (base:Nat) (ok:Nat→Prop) (x:S51)  : k51.M w base ok x [.bool x.f0.f0,.string x.f0.f1,.string x.f0.f2,.int .i64 x.f1]:=⟨[.bool x.f0.f0,.string x.f0.f1,.string x.f0.f2],[.int .i64 x.f1],rfl,(k30_mkM w base ok x.f0 ),rfl⟩
def rd_T51 (xs:List S51) (i:Int):S51:=xs.getD i.toNat z51
theorem at_T51 {w:World} {A:Option Addr} {n:Nat} {xs:List S51} (h:Kd.C k51 w A n xs) (i:Int) (h0:0≤i) (h1:i<n):∃ ad ,A=some ad∧w.cell? (ad.add (i.toNat*4))=some (.bool (rd_T51 xs i).f0.f0)∧w.cell? ⟨(ad.add (i.toNat*4)).block,(ad.add (i.toNat*4)).off+1,none⟩=some (.string (rd_T51 xs i).f0.f1)∧w.cell? ⟨(ad.add (i.toNat*4)).block,(ad.add (i.toNat*4)).off+2,none⟩=some (.string (rd_T51 xs i).f0.f2)∧w.cell? ⟨(ad.add (i.toNat*4)).block,(ad.add (i.toNat*4)).off+3,none⟩=some (.int .i64 (rd_T51 xs i).f1):=by
 obtain ⟨ad,c,e,_,hK,hc0⟩:=Kd.C_get h z51 i h0 h1;have hc:∀ j u,c[j]?=some u→w.cell? (ad.add (i.toNat*4+j))=some u:=hc0;obtain rfl:=k51_open hK;exact ⟨ad,e,hc 0 _ rfl,by rw [← add_field _ _ 1 (by omega)];exact hc 1 _ rfl,by rw [← add_field _ _ 2 (by omega)];exact hc 2 _ rfl,by rw [← add_field _ _ 3 (by omega)];exact hc 3 _ rfl⟩
structure S53 where
 f0:Int
 f1:S49
def z53:S53:=⟨(0:Int),z49⟩
def k53:Kd S53:=Kd.iso (Kd.pair (Kd.int .i64) k49) (fun x:S53=>(x.f0,x.f1))
theorem k53_open {w:World} {x:S53} {cs:List Value} (h:k53.K w x cs):cs=[.int .i64 x.f0,.int .i64 x.f1.f0,.int .i64 x.f1.f1]:=by
 obtain ⟨_,_,rfl,rfl,s1⟩:=h;obtain rfl:=k49_open s1;exact rfl
theorem k53_mkM (w:World) (base:Nat) (ok:Nat→Prop) (x:S53)  : k53.M w base ok x [.int .i64 x.f0,.int .i64 x.f1.f0,.int .i64 x.f1.f1]:=⟨[.int .i64 x.f0],[.int .i64 x.f1.f0,.int .i64 x.f1.f1],rfl,rfl,(k49_mkM w base ok x.f1 )⟩
structure S55 where
 f0:S53
 f1:Int
def z55:S55:=⟨z53,(0:Int)⟩
def k55:Kd S55:=Kd.iso (Kd.pair k53 (Kd.int .i64)) (fun x:S55=>(x.f0,x.f1))
theorem k55_open {w:World} {x:S55} {cs:List Value} (h:k55.K w x cs):cs=[.int .i64 x.f0.f0,.int .i64 x.f0.f1.f0,.int .i64 x.f0.f1.f1,.int .i64 x.f1]:=by
 obtain ⟨_,_,rfl,s0,rfl⟩:=h;obtain rfl:=k53_open s0;exact rfl
theorem k55_mkM (w:World) (base:Nat) (ok:Nat→Prop) (x:S55)  : k55.M w base ok x [.int .i64 x.f0.f0,.int .i64 x.f0.f1.f0,.int .i64 x.f0.f1.f1,.int .i64 x.f1]:=⟨[.int .i64 x.f0.f0,.int .i64 x.f0.f1.f0,.int .i64 x.f0.f1.f1],[.int .i64 x.f1],rfl,(k53_mkM w base ok x.f0 ),rfl⟩
def rd_T55 (xs:List S55) (i:Int):S55:=xs.getD i.toNat z55
theorem at_T55 {w:World} {A:Option Addr} {n:Nat} {xs:List S55} (h:Kd.C k55 w A n xs) (i:Int) (h0:0≤i) (h1:i<n):∃ ad ,A=some ad∧w.cell? (ad.add (i.toNat*4))=some (.int .i64 (rd_T55 xs i).f0.f0)∧w.cell? ⟨(ad.add (i.toNat*4)).block,(ad.add (i.toNat*4)).off+1,none⟩=some (.int .i64 (rd_T55 xs i).f0.f1.f0)∧w.cell? ⟨(ad.add (i.toNat*4)).block,(ad.add (i.toNat*4)).off+2,none⟩=some (.int .i64 (rd_T55 xs i).f0.f1.f1)∧w.cell? ⟨(ad.add (i.toNat*4)).block,(ad.add (i.toNat*4)).off+3,none⟩=some (.int .i64 (rd_T55 xs i).f1):=by
 obtain ⟨ad,c,e,_,hK,hc0⟩:=Kd.C_get h z55 i h0 h1;have hc:∀ j u,c[j]?=some u→w.cell? (ad.add (i.toNat*4+j))=some u:=hc0;obtain rfl:=k55_open hK;exact ⟨ad,e,hc 0 _ rfl,by rw [← add_field _ _ 1 (by omega)];exact hc 1 _ rfl,by rw [← add_field _ _ 2 (by omega)];exact hc 2 _ rfl,by rw [← add_field _ _ 3 (by omega)];exact hc 3 _ rfl⟩
structure S72 where
 f0:Int
 f1:Int
def z72:S72:=⟨(0:Int),(0:Int)⟩
def k72:Kd S72:=Kd.iso (Kd.pair (Kd.int .i8) (Kd.int .i8)) (fun x:S72=>(x.f0,x.f1))
theorem k72_open {w:World} {x:S72} {cs:List Value} (h:k72.K w x cs):cs=[.int .i8 x.f0,.int .i8 x.f1]:=by
 obtain ⟨_,_,rfl,rfl,rfl⟩:=h;exact rfl
theorem k72_mk (w:World) (x:S72)  : k72.K w x [.int .i8 x.f0,.int .i8 x.f1]:=⟨[.int .i8 x.f0],[.int .i8 x.f1],rfl,rfl,rfl⟩
def rd_T72 (xs:List S72) (i:Int):S72:=xs.getD i.toNat z72
theorem at_T72 {w:World} {A:Option Addr} {n:Nat} {xs:List S72} (h:Kd.C k72 w A n xs) (i:Int) (h0:0≤i) (h1:i<n):∃ ad ,A=some ad∧w.cell? (ad.add (i.toNat*2))=some (.int .i8 (rd_T72 xs i).f0)∧w.cell? ⟨(ad.add (i.toNat*2)).block,(ad.add (i.toNat*2)).off+1,none⟩=some (.int .i8 (rd_T72 xs i).f1):=by
 obtain ⟨ad,c,e,_,hK,hc0⟩:=Kd.C_get h z72 i h0 h1;have hc:∀ j u,c[j]?=some u→w.cell? (ad.add (i.toNat*2+j))=some u:=hc0;obtain rfl:=k72_open hK;exact ⟨ad,e,hc 0 _ rfl,by rw [← add_field _ _ 1 (by omega)];exact hc 1 _ rfl⟩
structure S40 where
 f0:Int
 f1:Int
def z40:S40:=⟨(0:Int),(0:Int)⟩
def k40:Kd S40:=Kd.iso (Kd.pair (Kd.int .u16) (Kd.int .u16)) (fun x:S40=>(x.f0,x.f1))
theorem k40_open {w:World} {x:S40} {cs:List Value} (h:k40.K w x cs):cs=[.int .u16 x.f0,.int .u16 x.f1]:=by
 obtain ⟨_,_,rfl,rfl,rfl⟩:=h;exact rfl
theorem k40_mk (w:World) (x:S40)  : k40.K w x [.int .u16 x.f0,.int .u16 x.f1]:=⟨[.int .u16 x.f0],[.int .u16 x.f1],rfl,rfl,rfl⟩
def rd_T40 (xs:List S40) (i:Int):S40:=xs.getD i.toNat z40
theorem at_T40 {w:World} {A:Option Addr} {n:Nat} {xs:List S40} (h:Kd.C k40 w A n xs) (i:Int) (h0:0≤i) (h1:i<n):∃ ad ,A=some ad∧w.cell? (ad.add (i.toNat*2))=some (.int .u16 (rd_T40 xs i).f0)∧w.cell? ⟨(ad.add (i.toNat*2)).block,(ad.add (i.toNat*2)).off+1,none⟩=some (.int .u16 (rd_T40 xs i).f1):=by
 obtain ⟨ad,c,e,_,hK,hc0⟩:=Kd.C_get h z40 i h0 h1;have hc:∀ j u,c[j]?=some u→w.cell? (ad.add (i.toNat*2+j))=some u:=hc0;obtain rfl:=k40_open hK;exact ⟨ad,e,hc 0 _ rfl,by rw [← add_field _ _ 1 (by omega)];exact hc 1 _ rfl⟩
structure S73 where
 f0:Int
 f1:Int
 f2:Int
 f3:Int
def z73:S73:=⟨(0:Int),(0:Int),(0:Int),(0:Int)⟩
def k73:Kd S73:=Kd.iso (Kd.pair (Kd.int .i16) (Kd.pair (Kd.int .i16) (Kd.pair (Kd.int .i16) (Kd.int .i16)))) (fun x:S73=>(x.f0,x.f1,x.f2,x.f3))
theorem k73_open {w:World} {x:S73} {cs:List Value} (h:k73.K w x cs):cs=[.int .i16 x.f0,.int .i16 x.f1,.int .i16 x.f2,.int .i16 x.f3]:=by
 obtain ⟨_,_,rfl,rfl,⟨_,_,rfl,rfl,⟨_,_,rfl,rfl,rfl⟩⟩⟩:=h;exact rfl
theorem k73_mk (w:World) (x:S73)  : k73.K w x [.int .i16 x.f0,.int .i16 x.f1,.int .i16 x.f2,.int .i16 x.f3]:=⟨[.int .i16 x.f0],[.int .i16 x.f1,.int .i16 x.f2,.int .i16 x.f3],rfl,rfl,⟨[.int .i16 x.f1],[.int .i16 x.f2,.int .i16 x.f3],rfl,rfl,⟨[.int .i16 x.f2],[.int .i16 x.f3],rfl,rfl,rfl⟩⟩⟩
def rd_T73 (xs:List S73) (i:Int):S73:=xs.getD i.toNat z73
theorem at_T73 {w:World} {A:Option Addr} {n:Nat} {xs:List S73} (h:Kd.C k73 w A n xs) (i:Int) (h0:0≤i) (h1:i<n):∃ ad ,A=some ad∧w.cell? (ad.add (i.toNat*4))=some (.int .i16 (rd_T73 xs i).f0)∧w.cell? ⟨(ad.add (i.toNat*4)).block,(ad.add (i.toNat*4)).off+1,none⟩=some (.int .i16 (rd_T73 xs i).f1)∧w.cell? ⟨(ad.add (i.toNat*4)).block,(ad.add (i.toNat*4)).off+2,none⟩=some (.int .i16 (rd_T73 xs i).f2)∧w.cell? ⟨(ad.add (i.toNat*4)).block,(ad.add (i.toNat*4)).off+3,none⟩=some (.int .i16 (rd_T73 xs i).f3):=by
 obtain ⟨ad,c,e,_,hK,hc0⟩:=Kd.C_get h z73 i h0 h1;have hc:∀ j u,c[j]?=some u→w.cell? (ad.add (i.toNat*4+j))=some u:=hc0;obtain rfl:=k73_open hK;exact ⟨ad,e,hc 0 _ rfl,by rw [← add_field _ _ 1 (by omega)];exact hc 1 _ rfl,by rw [← add_field _ _ 2 (by omega)];exact hc 2 _ rfl,by rw [← add_field _ _ 3 (by omega)];exact hc 3 _ rfl⟩
end Go.Proofs.YtcipcpodgkeobaaDoor.F
end
