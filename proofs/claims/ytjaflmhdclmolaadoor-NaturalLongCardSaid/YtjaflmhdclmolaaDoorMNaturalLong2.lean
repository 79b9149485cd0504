/- Part 2 of the proof of NaturalLong: the functions' walks and what they compute, in the order of the calls; each holds for all arguments that its row allows. -/
import Derived.Shelf.Strings.Trim
import Derived.Shelf.Strings.SlTrimAscii
import Derived.Shelf.Small.Strs
import Derived.Shelf.Small.Bits
import Derived.Test.YtjaflmhdclmolaaDoorProg
section
namespace Go.Proofs
open Go.Shelf
def Tryd.lays161_ren:Go.Shelf.Ren:=⟨fun|161=>41|231=>66|227=>67|233=>68|235=>69|228=>82|197=>83|151=>84|260=>89|152=>90|137=>92|119=>93|224=>94|225=>95|217=>96|266=>97|n=>n,fun|9=>9|4=>4|3=>3|5=>5|117=>76|116=>75|0=>0|124=>79|105=>88|21=>21|119=>93|46=>63|139=>96|138=>95|n=>n,fun|3=>1|4=>2|n=>n⟩
theorem Tryd.lays161:Go.Proofs.Lays.n161 Tryd.prog Tryd.lays161_ren:={
 mixed:=by kernel_rfl
 f119:=Tryd.func93.trans (congrArg some (by kernel_rfl))
 f137:=Tryd.func92.trans (congrArg some (by kernel_rfl))
 f151:=Tryd.func84.trans (congrArg some (by kernel_rfl))
 f152:=Tryd.func90.trans (congrArg some (by kernel_rfl))
 f161:=Tryd.func41.trans (congrArg some (by kernel_rfl))
 f197:=Tryd.func83.trans (congrArg some (by kernel_rfl))
 f217:=Tryd.func96.trans (congrArg some (by kernel_rfl))
 f224:=Tryd.func94.trans (congrArg some (by kernel_rfl))
 f225:=Tryd.func95.trans (congrArg some (by kernel_rfl))
 f227:=Tryd.func67.trans (congrArg some (by kernel_rfl))
 f228:=Tryd.func82.trans (congrArg some (by kernel_rfl))
 f231:=Tryd.func66.trans (congrArg some (by kernel_rfl))
 f233:=Tryd.func68.trans (congrArg some (by kernel_rfl))
 f235:=Tryd.func69.trans (congrArg some (by kernel_rfl))
 f260:=Tryd.func89.trans (congrArg some (by kernel_rfl))
 f266:=Tryd.func97.trans (congrArg some (by kernel_rfl))
 t0:=Tryd.underlying0
 a0:=Tryd.isAgg0
 z0:=Tryd.sizeOf0
 v0:=Tryd.zeroValue0
 t3:=Tryd.underlying3
 a3:=Tryd.isAgg3
 z3:=Tryd.sizeOf3
 v3:=Tryd.zeroValue3
 t4:=Tryd.underlying4
 a4:=Tryd.isAgg4
 z4:=Tryd.sizeOf4
 v4:=Tryd.zeroValue4
 t5:=Tryd.underlying5
 a5:=Tryd.isAgg5
 z5:=Tryd.sizeOf5
 v5:=Tryd.zeroValue5
 t9:=Tryd.underlying9
 a9:=Tryd.isAgg9
 z9:=Tryd.sizeOf9
 v9:=Tryd.zeroValue9
 t21:=Tryd.underlying21
 a21:=Tryd.isAgg21
 z21:=Tryd.sizeOf21
 v21:=Tryd.zeroValue21
 t46:=Tryd.underlying63
 a46:=Tryd.isAgg63
 z46:=Tryd.sizeOf63
 v46:=Tryd.zeroValue63
 t105:=Tryd.underlying88
 a105:=Tryd.isAgg88
 z105:=Tryd.sizeOf88
 v105:=Tryd.zeroValue88
 t116:=Tryd.underlying75
 a116:=Tryd.isAgg75
 z116:=Tryd.sizeOf75
 t117:=Tryd.underlying76
 a117:=Tryd.isAgg76
 z117:=Tryd.sizeOf76
 v117:=Tryd.zeroValue76
 t119:=Tryd.underlying93
 a119:=Tryd.isAgg93
 z119:=Tryd.sizeOf93
 t124:=Tryd.underlying79
 a124:=Tryd.isAgg79
 z124:=Tryd.sizeOf79
 v124:=Tryd.zeroValue79
 t138:=Tryd.underlying95
 a138:=Tryd.isAgg95
 z138:=Tryd.sizeOf95
 v138:=Tryd.zeroValue95
 t139:=Tryd.underlying96
 a139:=Tryd.isAgg96
 z139:=Tryd.sizeOf96
 v139:=Tryd.zeroValue96
 g3:=by kernel_rfl
 g4:=by kernel_rfl }
open Go.RowKit Go.Lib in
theorem Tryd.strings_TrimLeft_one (s:ByteArray) (c:UInt8) (hc:c.toNat<128) (w:World) :
 Calls Tryd.prog 41 #[.string s,.string ⟨#[c]⟩] w fun e w'=>e = .returned (.string ⟨(Lib.trimLeftB s.data.toList c).toArray⟩)∧w'=w:=Any.strings_TrimLeft_one Tryd.lays161 s c hc w
def Tryd.lays160_ren:Go.Shelf.Ren:=⟨fun|160=>51|232=>78|231=>66|227=>67|234=>79|233=>68|236=>80|235=>69|228=>82|271=>88|151=>84|197=>83|120=>91|152=>90|260=>89|137=>92|119=>93|224=>94|225=>95|217=>96|266=>97|n=>n,fun|9=>9|4=>4|3=>3|5=>5|117=>76|116=>75|0=>0|124=>79|21=>21|105=>88|46=>63|119=>93|139=>96|138=>95|n=>n,fun|3=>1|4=>2|n=>n⟩
theorem Tryd.lays160:Go.Proofs.Lays.n160 Tryd.prog Tryd.lays160_ren:={
 mixed:=by kernel_rfl
 f119:=Tryd.func93.trans (congrArg some (by kernel_rfl))
 f120:=Tryd.func91.trans (congrArg some (by kernel_rfl))
 f137:=Tryd.func92.trans (congrArg some (by kernel_rfl))
 f151:=Tryd.func84.trans (congrArg some (by kernel_rfl))
 f152:=Tryd.func90.trans (congrArg some (by kernel_rfl))
 f160:=Tryd.func51.trans (congrArg some (by kernel_rfl))
 f197:=Tryd.func83.trans (congrArg some (by kernel_rfl))
 f217:=Tryd.func96.trans (congrArg some (by kernel_rfl))
 f224:=Tryd.func94.trans (congrArg some (by kernel_rfl))
 f225:=Tryd.func95.trans (congrArg some (by kernel_rfl))
 f227:=Tryd.func67.trans (congrArg some (by kernel_rfl))
 f228:=Tryd.func82.trans (congrArg some (by kernel_rfl))
 f231:=Tryd.func66.trans (congrArg some (by kernel_rfl))
 f232:=Tryd.func78.trans (congrArg some (by kernel_rfl))
 f233:=Tryd.func68.trans (congrArg some (by kernel_rfl))
 f234:=Tryd.func79.trans (congrArg some (by kernel_rfl))
 f235:=Tryd.func69.trans (congrArg some (by kernel_rfl))
 f236:=Tryd.func80.trans (congrArg some (by kernel_rfl))
 f260:=Tryd.func89.trans (congrArg some (by kernel_rfl))
 f266:=Tryd.func97.trans (congrArg some (by kernel_rfl))
 f271:=Tryd.func88.trans (congrArg some (by kernel_rfl))
 t0:=Tryd.underlying0
 a0:=Tryd.isAgg0
 z0:=Tryd.sizeOf0
 v0:=Tryd.zeroValue0
 t3:=Tryd.underlying3
 a3:=Tryd.isAgg3
 z3:=Tryd.sizeOf3
 v3:=Tryd.zeroValue3
 t4:=Tryd.underlying4
 a4:=Tryd.isAgg4
 z4:=Tryd.sizeOf4
 v4:=Tryd.zeroValue4
 t5:=Tryd.underlying5
 a5:=Tryd.isAgg5
 z5:=Tryd.sizeOf5
 v5:=Tryd.zeroValue5
 t9:=Tryd.underlying9
 a9:=Tryd.isAgg9
 z9:=Tryd.sizeOf9
 v9:=Tryd.zeroValue9
 t21:=Tryd.underlying21
 a21:=Tryd.isAgg21
 z21:=Tryd.sizeOf21
 v21:=Tryd.zeroValue21
 t46:=Tryd.underlying63
 a46:=Tryd.isAgg63
 z46:=Tryd.sizeOf63
 v46:=Tryd.zeroValue63
 t105:=Tryd.underlying88
 a105:=Tryd.isAgg88
 z105:=Tryd.sizeOf88
 v105:=Tryd.zeroValue88
 t116:=Tryd.underlying75
 a116:=Tryd.isAgg75
 z116:=Tryd.sizeOf75
 t117:=Tryd.underlying76
 a117:=Tryd.isAgg76
 z117:=Tryd.sizeOf76
 v117:=Tryd.zeroValue76
 t119:=Tryd.underlying93
 a119:=Tryd.isAgg93
 z119:=Tryd.sizeOf93
 t124:=Tryd.underlying79
 a124:=Tryd.isAgg79
 z124:=Tryd.sizeOf79
 v124:=Tryd.zeroValue79
 t138:=Tryd.underlying95
 a138:=Tryd.isAgg95
 z138:=Tryd.sizeOf95
 v138:=Tryd.zeroValue95
 t139:=Tryd.underlying96
 a139:=Tryd.isAgg96
 z139:=Tryd.sizeOf96
 v139:=Tryd.zeroValue96
 g3:=by kernel_rfl
 g4:=by kernel_rfl }
open Go.RowKit Go.Lib in
theorem Tryd.strings_Trim_any (s cutset:ByteArray) (w:World) (hs:s.size≤9223372036854775807) (hcs:cutset.size<4294967281) (hascii:∀ (j:Nat) b,cutset.data.toList[j]?=some b→b.toNat<128) :
 Calls Tryd.prog 51 #[.string s,.string cutset] w fun e w'=>e = .returned (.string ⟨(Lib.trimS s.data.toList cutset.data.toList).toArray⟩)∧Below w.heap.size w w':=Any.strings_Trim_laid Tryd.lays160 (by kernel_rfl) s cutset w hs hcs hascii
def Tryd.lays106_ren:Go.Shelf.Ren:=⟨fun|106=>49|213=>77|265=>87|n=>n,fun|9=>9|3=>3|n=>n,fun|n=>n⟩
theorem Tryd.lays106:Go.Proofs.Lays.n106 Tryd.prog Tryd.lays106_ren:={
 mixed:=by kernel_rfl
 f106:=Tryd.func49.trans (congrArg some (by kernel_rfl))
 f213:=Tryd.func77.trans (congrArg some (by kernel_rfl))
 f265:=Tryd.func87.trans (congrArg some (by kernel_rfl))
 t3:=Tryd.underlying3
 a3:=Tryd.isAgg3
 z3:=Tryd.sizeOf3
 v3:=Tryd.zeroValue3
 t9:=Tryd.underlying9
 a9:=Tryd.isAgg9
 z9:=Tryd.sizeOf9
 v9:=Tryd.zeroValue9 }
open Go.RowKit Go.Lib in
theorem Tryd.strings_Compare (a b:ByteArray) (w:World) :
 Calls Tryd.prog 49 #[.string a,.string b] w fun e w'=>e = .returned (.int .i64 (Lib.compareBytes a.data.toList b.data.toList))∧w'=w:=Any.strings_Compare Tryd.lays106 a b w
def Tryd.lays133_ren:Go.Shelf.Ren:=⟨fun|133=>70|128=>85|n=>n,fun|51=>60|3=>3|4=>4|46=>63|5=>5|9=>9|n=>n,fun|n=>n⟩
theorem Tryd.lays133:Go.Proofs.Lays.n133 Tryd.prog Tryd.lays133_ren:={
 mixed:=by kernel_rfl
 f128:=Tryd.func85.trans (congrArg some (by kernel_rfl))
 f133:=Tryd.func70.trans (congrArg some (by kernel_rfl))
 t3:=Tryd.underlying3
 a3:=Tryd.isAgg3
 z3:=Tryd.sizeOf3
 v3:=Tryd.zeroValue3
 t4:=Tryd.underlying4
 a4:=Tryd.isAgg4
 z4:=Tryd.sizeOf4
 v4:=Tryd.zeroValue4
 t5:=Tryd.underlying5
 a5:=Tryd.isAgg5
 z5:=Tryd.sizeOf5
 v5:=Tryd.zeroValue5
 t9:=Tryd.underlying9
 a9:=Tryd.isAgg9
 z9:=Tryd.sizeOf9
 v9:=Tryd.zeroValue9
 t46:=Tryd.underlying63
 a46:=Tryd.isAgg63
 z46:=Tryd.sizeOf63
 v46:=Tryd.zeroValue63
 t51:=Tryd.underlying60
 a51:=Tryd.isAgg60
 z51:=Tryd.sizeOf60
 v51:=Tryd.zeroValue60 }
open Go.RowKit Go.Lib in
theorem Tryd.bits_LeadingZeros32 (x:Int) (w:World) (h0:0≤x) (h1:x≤4294967295) :
 Calls Tryd.prog 70 #[.int .u32 x] w fun e w'=>e = .returned (.int .i64 (32-(Lib.bitLen x.toNat:Int)))∧w'=w:=Any.bits_LeadingZeros32 Tryd.lays133 x w h0 h1
end Go.Proofs
end
