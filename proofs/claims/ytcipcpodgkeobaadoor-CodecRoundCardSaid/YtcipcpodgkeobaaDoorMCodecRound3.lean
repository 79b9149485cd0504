/- Part 3 of the proof of CodecRound: the functions' walks and what they compute, in the order of the calls; each holds for all arguments that its row allows. -/
import Derived.Shelf.Strings.Trim
import Derived.Shelf.Strings.SlTrimAscii
import Derived.Shelf.Small.Strs
import Derived.Shelf.Small.Bits
import Derived.Test.YtcipcpodgkeobaaDoorProg
section
namespace Go.Proofs
open Go.Shelf
def Tryd.lays161_ren:Go.Shelf.Ren:=⟨fun|161=>71|231=>79|227=>80|233=>81|235=>82|228=>91|197=>92|151=>93|260=>98|152=>99|137=>100|119=>101|224=>102|225=>103|217=>104|266=>105|n=>n,fun|9=>9|4=>4|3=>3|5=>5|117=>139|116=>138|0=>0|124=>142|105=>153|21=>21|119=>159|46=>69|139=>162|138=>161|n=>n,fun|3=>0|4=>1|n=>n⟩
theorem Tryd.lays161:Go.Proofs.Lays.n161 Tryd.prog Tryd.lays161_ren:={
 mixed:=by kernel_rfl
 f119:=Tryd.func101.trans (congrArg some (by kernel_rfl))
 f137:=Tryd.func100.trans (congrArg some (by kernel_rfl))
 f151:=Tryd.func93.trans (congrArg some (by kernel_rfl))
 f152:=Tryd.func99.trans (congrArg some (by kernel_rfl))
 f161:=Tryd.func71.trans (congrArg some (by kernel_rfl))
 f197:=Tryd.func92.trans (congrArg some (by kernel_rfl))
 f217:=Tryd.func104.trans (congrArg some (by kernel_rfl))
 f224:=Tryd.func102.trans (congrArg some (by kernel_rfl))
 f225:=Tryd.func103.trans (congrArg some (by kernel_rfl))
 f227:=Tryd.func80.trans (congrArg some (by kernel_rfl))
 f228:=Tryd.func91.trans (congrArg some (by kernel_rfl))
 f231:=Tryd.func79.trans (congrArg some (by kernel_rfl))
 f233:=Tryd.func81.trans (congrArg some (by kernel_rfl))
 f235:=Tryd.func82.trans (congrArg some (by kernel_rfl))
 f260:=Tryd.func98.trans (congrArg some (by kernel_rfl))
 f266:=Tryd.func105.trans (congrArg some (by kernel_rfl))
 t0:=Tryd.underlying0
 a0:=Tryd.isAgg0
 z0:=Tryd.sizeOf0
 v0:=Tryd.zeroValue0
 t3:=Tryd.underlying3
 a3:=Tryd.isAgg3
 z3:=Tryd.sizeOf3
 v3:=Tryd.zeroValue3
 t4:=Tryd.underlying4
 a4:=Tryd.isAgg4
 z4:=Tryd.sizeOf4
 v4:=Tryd.zeroValue4
 t5:=Tryd.underlying5
 a5:=Tryd.isAgg5
 z5:=Tryd.sizeOf5
 v5:=Tryd.zeroValue5
 t9:=Tryd.underlying9
 a9:=Tryd.isAgg9
 z9:=Tryd.sizeOf9
 v9:=Tryd.zeroValue9
 t21:=Tryd.underlying21
 a21:=Tryd.isAgg21
 z21:=Tryd.sizeOf21
 v21:=Tryd.zeroValue21
 t46:=Tryd.underlying69
 a46:=Tryd.isAgg69
 z46:=Tryd.sizeOf69
 v46:=Tryd.zeroValue69
 t105:=Tryd.underlying153
 a105:=Tryd.isAgg153
 z105:=Tryd.sizeOf153
 v105:=Tryd.zeroValue153
 t116:=Tryd.underlying138
 a116:=Tryd.isAgg138
 z116:=Tryd.sizeOf138
 t117:=Tryd.underlying139
 a117:=Tryd.isAgg139
 z117:=Tryd.sizeOf139
 v117:=Tryd.zeroValue139
 t119:=Tryd.underlying159
 a119:=Tryd.isAgg159
 z119:=Tryd.sizeOf159
 t124:=Tryd.underlying142
 a124:=Tryd.isAgg142
 z124:=Tryd.sizeOf142
 v124:=Tryd.zeroValue142
 t138:=Tryd.underlying161
 a138:=Tryd.isAgg161
 z138:=Tryd.sizeOf161
 v138:=Tryd.zeroValue161
 t139:=Tryd.underlying162
 a139:=Tryd.isAgg162
 z139:=Tryd.sizeOf162
 v139:=Tryd.zeroValue162
 g3:=by kernel_rfl
 g4:=by kernel_rfl }
open Go.RowKit Go.Lib in
theorem Tryd.strings_TrimLeft_one (s:ByteArray) (c:UInt8) (hc:c.toNat<128) (w:World) :
 Calls Tryd.prog 71 #[.string s,.string ⟨#[c]⟩] w fun e w'=>e = .returned (.string ⟨(Lib.trimLeftB s.data.toList c).toArray⟩)∧w'=w:=Any.strings_TrimLeft_one Tryd.lays161 s c hc w
end Go.Proofs
end
