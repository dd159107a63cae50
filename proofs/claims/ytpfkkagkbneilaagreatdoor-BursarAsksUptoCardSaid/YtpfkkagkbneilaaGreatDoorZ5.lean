/- Texts Shelf, G1, G2 of the proof of BursarAsks, joined. -/
import Derived.Test.YtpfkkagkbneilaaGreatDoorProg
import Derived.Test.YtpfkkagkbneilaaGreatDoorZ4
import Derived.Shelf.Strings.OnBuilder
import Derived.Shelf.Strings.Trim
import Derived.Shelf.Small.Utf8
import Derived.Shelf.Small.Bits
import Derived.Shelf.Small.Strs
import Derived.Shelf.Small.Wraps
import Derived.Ground.MpProg
import Derived.Shelf.Pu.ParseUintPublic10
import Derived.Shelf.Strings.Search1
import Derived.Shelf.Strings.Search2
import Derived.Shelf.Strings.Search3
import Derived.Shelf.Strings.Cut
import Derived.Shelf.Strings.Count
import Derived.Shelf.Strings.Prefix
import Derived.Shelf.Strings.Split
import Derived.Shelf.Strings.Runes
import Derived.Shelf.Strings.IndexAny
import Derived.Shelf.Strings.AsciiSet
import Derived.Shelf.Strings.IndexAnyAll
import Derived.Shelf.Bits.Mul64
import Derived.Shelf.Unicode.DecodeSlow
import Derived.Shelf.Slices.Turned
import Derived.Lib.BitFns
import Derived.Deep.CutBlock
namespace Go.Proofs
open Go.Shelf
def Tryz.lays156_ren:Go.Shelf.Ren:=⟨fun | 156=>156 | 165=>180 | 166=>181 | 169=>182 | 240=>201 | 241=>202 | 276=>209 | 277=>210 | n=>n,fun | 31=>59 | 9=>9 | 3=>3 | 4=>4 | 0=>0 | 20=>20 | 72=>247 | 76=>249 | 70=>245 | 37=>66 | 75=>220 | 127=>261 | 164=>267 | 5=>5 | 80=>84 | n=>n,fun | n=>n⟩
theorem Tryz.lays156:Go.Proofs.Lays.n156 Tryz.prog Tryz.lays156_ren:={
 mixed:=by kernel_rfl
 f156:=Tryz.func156.trans (congrArg some (by kernel_rfl))
 f165:=Tryz.func180.trans (congrArg some (by kernel_rfl))
 f166:=Tryz.func181.trans (congrArg some (by kernel_rfl))
 f169:=Tryz.func182.trans (congrArg some (by kernel_rfl))
 f240:=Tryz.func201.trans (congrArg some (by kernel_rfl))
 f241:=Tryz.func202.trans (congrArg some (by kernel_rfl))
 f276:=Tryz.func209.trans (congrArg some (by kernel_rfl))
 f277:=Tryz.func210.trans (congrArg some (by kernel_rfl))
 t0:=Tryz.underlying0
 a0:=Tryz.isAgg0
 z0:=Tryz.sizeOf0
 v0:=Tryz.zeroValue0
 t3:=Tryz.underlying3
 a3:=Tryz.isAgg3
 z3:=Tryz.sizeOf3
 v3:=Tryz.zeroValue3
 t4:=Tryz.underlying4
 a4:=Tryz.isAgg4
 z4:=Tryz.sizeOf4
 v4:=Tryz.zeroValue4
 t9:=Tryz.underlying9
 a9:=Tryz.isAgg9
 z9:=Tryz.sizeOf9
 v9:=Tryz.zeroValue9
 t20:=Tryz.underlying20
 a20:=Tryz.isAgg20
 z20:=Tryz.sizeOf20
 v20:=Tryz.zeroValue20
 t31:=Tryz.underlying59
 a31:=Tryz.isAgg59
 z31:=Tryz.sizeOf59
 v31:=Tryz.zeroValue59
 t37:=Tryz.underlying66
 a37:=Tryz.isAgg66
 z37:=Tryz.sizeOf66
 v37:=Tryz.zeroValue66
 t70:=Tryz.underlying245
 a70:=Tryz.isAgg245
 z70:=Tryz.sizeOf245
 v70:=Tryz.zeroValue245
 t72:=Tryz.underlying247
 a72:=Tryz.isAgg247
 z72:=Tryz.sizeOf247
 v72:=Tryz.zeroValue247
 t75:=Tryz.underlying220
 a75:=Tryz.isAgg220
 z75:=Tryz.sizeOf220
 v75:=Tryz.zeroValue220
 t76:=Tryz.underlying249
 a76:=Tryz.isAgg249
 z76:=Tryz.sizeOf249
 v76:=Tryz.zeroValue249
 t127:=Tryz.underlying261
 a127:=Tryz.isAgg261
 z127:=Tryz.sizeOf261
 v127:=Tryz.zeroValue261
 t164:=Tryz.underlying267
 a164:=Tryz.isAgg267
 z164:=Tryz.sizeOf267
 v164:=Tryz.zeroValue267 }
theorem Tryz.Builder_Extra_156:Builder.Extra Tryz.prog Tryz.lays156_ren:={
 sizeBuilder:=by kernel_rfl
 liesBuilder:=by kernel_rfl
 t5:=Tryz.underlying5
 a5:=Tryz.isAgg5
 z5:=Tryz.sizeOf5
 v5:=Tryz.zeroValue5
 infoByte:=by kernel_rfl
 cellsByte:=by kernel_rfl
 sizeByte:=by kernel_rfl
 neB5:=by decide }
open Go.RowKit in
theorem Tryz.strings_Join (bk o c:Nat) (xs:List ByteArray) (sep:ByteArray) (w:World) (hcells:∀ (j:Nat) x,xs[j]? = some x → w.cell? ⟨bk,o + j,none⟩ = some (.string x)) (hbk:bk < w.heap.size) (hN:xs.length ≤ 140737488355328) (hcap:xs.length ≤ c) (hlen:(Lib.join (xs.map (·.data.toList)) sep.data.toList).length ≤ 140737488355328) :
  Calls Tryz.prog 156 #[.slice (some ⟨bk,o,none⟩) xs.length c,.string sep] w fun e w'=>e = .returned (.string ⟨(Lib.join (xs.map (·.data.toList)) sep.data.toList).toArray⟩) ∧ Below w.heap.size w w':=Any.strings_Join Tryz.lays156 Tryz.Builder_Extra_156 bk o c xs sep w hcells hbk hN hcap hlen
def Tryz.lays161_ren:Go.Shelf.Ren:=⟨fun | 161=>44 | 231=>89 | 227=>90 | 233=>91 | 235=>92 | 228=>95 | 197=>120 | 151=>121 | 260=>142 | 152=>93 | 137=>122 | 119=>123 | 224=>87 | 225=>86 | 217=>85 | 266=>118 | n=>n,fun | 9=>9 | 4=>4 | 3=>3 | 5=>5 | 117=>150 | 116=>149 | 0=>0 | 124=>153 | 105=>191 | 21=>21 | 119=>237 | 46=>146 | 139=>240 | 138=>239 | n=>n,fun | 3=>4 | 4=>5 | n=>n⟩
theorem Tryz.lays161:Go.Proofs.Lays.n161 Tryz.prog Tryz.lays161_ren:={
 mixed:=by kernel_rfl
 f119:=Tryz.func123.trans (congrArg some (by kernel_rfl))
 f137:=Tryz.func122.trans (congrArg some (by kernel_rfl))
 f151:=Tryz.func121.trans (congrArg some (by kernel_rfl))
 f152:=Tryz.func93.trans (congrArg some (by kernel_rfl))
 f161:=Tryz.func44.trans (congrArg some (by kernel_rfl))
 f197:=Tryz.func120.trans (congrArg some (by kernel_rfl))
 f217:=Tryz.func85.trans (congrArg some (by kernel_rfl))
 f224:=Tryz.func87.trans (congrArg some (by kernel_rfl))
 f225:=Tryz.func86.trans (congrArg some (by kernel_rfl))
 f227:=Tryz.func90.trans (congrArg some (by kernel_rfl))
 f228:=Tryz.func95.trans (congrArg some (by kernel_rfl))
 f231:=Tryz.func89.trans (congrArg some (by kernel_rfl))
 f233:=Tryz.func91.trans (congrArg some (by kernel_rfl))
 f235:=Tryz.func92.trans (congrArg some (by kernel_rfl))
 f260:=Tryz.func142.trans (congrArg some (by kernel_rfl))
 f266:=Tryz.func118.trans (congrArg some (by kernel_rfl))
 t0:=Tryz.underlying0
 a0:=Tryz.isAgg0
 z0:=Tryz.sizeOf0
 v0:=Tryz.zeroValue0
 t3:=Tryz.underlying3
 a3:=Tryz.isAgg3
 z3:=Tryz.sizeOf3
 v3:=Tryz.zeroValue3
 t4:=Tryz.underlying4
 a4:=Tryz.isAgg4
 z4:=Tryz.sizeOf4
 v4:=Tryz.zeroValue4
 t5:=Tryz.underlying5
 a5:=Tryz.isAgg5
 z5:=Tryz.sizeOf5
 v5:=Tryz.zeroValue5
 t9:=Tryz.underlying9
 a9:=Tryz.isAgg9
 z9:=Tryz.sizeOf9
 v9:=Tryz.zeroValue9
 t21:=Tryz.underlying21
 a21:=Tryz.isAgg21
 z21:=Tryz.sizeOf21
 v21:=Tryz.zeroValue21
 t46:=Tryz.underlying146
 a46:=Tryz.isAgg146
 z46:=Tryz.sizeOf146
 v46:=Tryz.zeroValue146
 t105:=Tryz.underlying191
 a105:=Tryz.isAgg191
 z105:=Tryz.sizeOf191
 v105:=Tryz.zeroValue191
 t116:=Tryz.underlying149
 a116:=Tryz.isAgg149
 z116:=Tryz.sizeOf149
 t117:=Tryz.underlying150
 a117:=Tryz.isAgg150
 z117:=Tryz.sizeOf150
 v117:=Tryz.zeroValue150
 t119:=Tryz.underlying237
 a119:=Tryz.isAgg237
 z119:=Tryz.sizeOf237
 t124:=Tryz.underlying153
 a124:=Tryz.isAgg153
 z124:=Tryz.sizeOf153
 v124:=Tryz.zeroValue153
 t138:=Tryz.underlying239
 a138:=Tryz.isAgg239
 z138:=Tryz.sizeOf239
 v138:=Tryz.zeroValue239
 t139:=Tryz.underlying240
 a139:=Tryz.isAgg240
 z139:=Tryz.sizeOf240
 v139:=Tryz.zeroValue240
 g3:=by kernel_rfl
 g4:=by kernel_rfl }
def Tryz.lays162_ren:Go.Shelf.Ren:=⟨fun | 162=>104 | 232=>131 | 227=>90 | 234=>132 | 236=>133 | 228=>95 | 271=>157 | 151=>121 | 120=>183 | 197=>120 | 152=>93 | 260=>142 | 137=>122 | 119=>123 | 224=>87 | 225=>86 | 217=>85 | 266=>118 | n=>n,fun | 9=>9 | 4=>4 | 3=>3 | 5=>5 | 117=>150 | 116=>149 | 0=>0 | 124=>153 | 21=>21 | 105=>191 | 46=>146 | 119=>237 | 139=>240 | 138=>239 | n=>n,fun | 3=>4 | 4=>5 | n=>n⟩
theorem Tryz.lays162:Go.Proofs.Lays.n162 Tryz.prog Tryz.lays162_ren:={
 mixed:=by kernel_rfl
 f119:=Tryz.func123.trans (congrArg some (by kernel_rfl))
 f120:=Tryz.func183.trans (congrArg some (by kernel_rfl))
 f137:=Tryz.func122.trans (congrArg some (by kernel_rfl))
 f151:=Tryz.func121.trans (congrArg some (by kernel_rfl))
 f152:=Tryz.func93.trans (congrArg some (by kernel_rfl))
 f162:=Tryz.func104.trans (congrArg some (by kernel_rfl))
 f197:=Tryz.func120.trans (congrArg some (by kernel_rfl))
 f217:=Tryz.func85.trans (congrArg some (by kernel_rfl))
 f224:=Tryz.func87.trans (congrArg some (by kernel_rfl))
 f225:=Tryz.func86.trans (congrArg some (by kernel_rfl))
 f227:=Tryz.func90.trans (congrArg some (by kernel_rfl))
 f228:=Tryz.func95.trans (congrArg some (by kernel_rfl))
 f232:=Tryz.func131.trans (congrArg some (by kernel_rfl))
 f234:=Tryz.func132.trans (congrArg some (by kernel_rfl))
 f236:=Tryz.func133.trans (congrArg some (by kernel_rfl))
 f260:=Tryz.func142.trans (congrArg some (by kernel_rfl))
 f266:=Tryz.func118.trans (congrArg some (by kernel_rfl))
 f271:=Tryz.func157.trans (congrArg some (by kernel_rfl))
 t0:=Tryz.underlying0
 a0:=Tryz.isAgg0
 z0:=Tryz.sizeOf0
 v0:=Tryz.zeroValue0
 t3:=Tryz.underlying3
 a3:=Tryz.isAgg3
 z3:=Tryz.sizeOf3
 v3:=Tryz.zeroValue3
 t4:=Tryz.underlying4
 a4:=Tryz.isAgg4
 z4:=Tryz.sizeOf4
 v4:=Tryz.zeroValue4
 t5:=Tryz.underlying5
 a5:=Tryz.isAgg5
 z5:=Tryz.sizeOf5
 v5:=Tryz.zeroValue5
 t9:=Tryz.underlying9
 a9:=Tryz.isAgg9
 z9:=Tryz.sizeOf9
 v9:=Tryz.zeroValue9
 t21:=Tryz.underlying21
 a21:=Tryz.isAgg21
 z21:=Tryz.sizeOf21
 v21:=Tryz.zeroValue21
 t46:=Tryz.underlying146
 a46:=Tryz.isAgg146
 z46:=Tryz.sizeOf146
 v46:=Tryz.zeroValue146
 t105:=Tryz.underlying191
 a105:=Tryz.isAgg191
 z105:=Tryz.sizeOf191
 v105:=Tryz.zeroValue191
 t116:=Tryz.underlying149
 a116:=Tryz.isAgg149
 z116:=Tryz.sizeOf149
 t117:=Tryz.underlying150
 a117:=Tryz.isAgg150
 z117:=Tryz.sizeOf150
 v117:=Tryz.zeroValue150
 t119:=Tryz.underlying237
 a119:=Tryz.isAgg237
 z119:=Tryz.sizeOf237
 t124:=Tryz.underlying153
 a124:=Tryz.isAgg153
 z124:=Tryz.sizeOf153
 v124:=Tryz.zeroValue153
 t138:=Tryz.underlying239
 a138:=Tryz.isAgg239
 z138:=Tryz.sizeOf239
 v138:=Tryz.zeroValue239
 t139:=Tryz.underlying240
 a139:=Tryz.isAgg240
 z139:=Tryz.sizeOf240
 v139:=Tryz.zeroValue240
 g3:=by kernel_rfl
 g4:=by kernel_rfl }
def Tryz.lays160_ren:Go.Shelf.Ren:=⟨fun | 160=>170 | 232=>131 | 231=>89 | 227=>90 | 234=>132 | 233=>91 | 236=>133 | 235=>92 | 228=>95 | 271=>157 | 151=>121 | 197=>120 | 120=>183 | 152=>93 | 260=>142 | 137=>122 | 119=>123 | 224=>87 | 225=>86 | 217=>85 | 266=>118 | n=>n,fun | 9=>9 | 4=>4 | 3=>3 | 5=>5 | 117=>150 | 116=>149 | 0=>0 | 124=>153 | 21=>21 | 105=>191 | 46=>146 | 119=>237 | 139=>240 | 138=>239 | n=>n,fun | 3=>4 | 4=>5 | n=>n⟩
theorem Tryz.lays160:Go.Proofs.Lays.n160 Tryz.prog Tryz.lays160_ren:={
 mixed:=by kernel_rfl
 f119:=Tryz.func123.trans (congrArg some (by kernel_rfl))
 f120:=Tryz.func183.trans (congrArg some (by kernel_rfl))
 f137:=Tryz.func122.trans (congrArg some (by kernel_rfl))
 f151:=Tryz.func121.trans (congrArg some (by kernel_rfl))
 f152:=Tryz.func93.trans (congrArg some (by kernel_rfl))
 f160:=Tryz.func170.trans (congrArg some (by kernel_rfl))
 f197:=Tryz.func120.trans (congrArg some (by kernel_rfl))
 f217:=Tryz.func85.trans (congrArg some (by kernel_rfl))
 f224:=Tryz.func87.trans (congrArg some (by kernel_rfl))
 f225:=Tryz.func86.trans (congrArg some (by kernel_rfl))
 f227:=Tryz.func90.trans (congrArg some (by kernel_rfl))
 f228:=Tryz.func95.trans (congrArg some (by kernel_rfl))
 f231:=Tryz.func89.trans (congrArg some (by kernel_rfl))
 f232:=Tryz.func131.trans (congrArg some (by kernel_rfl))
 f233:=Tryz.func91.trans (congrArg some (by kernel_rfl))
 f234:=Tryz.func132.trans (congrArg some (by kernel_rfl))
 f235:=Tryz.func92.trans (congrArg some (by kernel_rfl))
 f236:=Tryz.func133.trans (congrArg some (by kernel_rfl))
 f260:=Tryz.func142.trans (congrArg some (by kernel_rfl))
 f266:=Tryz.func118.trans (congrArg some (by kernel_rfl))
 f271:=Tryz.func157.trans (congrArg some (by kernel_rfl))
 t0:=Tryz.underlying0
 a0:=Tryz.isAgg0
 z0:=Tryz.sizeOf0
 v0:=Tryz.zeroValue0
 t3:=Tryz.underlying3
 a3:=Tryz.isAgg3
 z3:=Tryz.sizeOf3
 v3:=Tryz.zeroValue3
 t4:=Tryz.underlying4
 a4:=Tryz.isAgg4
 z4:=Tryz.sizeOf4
 v4:=Tryz.zeroValue4
 t5:=Tryz.underlying5
 a5:=Tryz.isAgg5
 z5:=Tryz.sizeOf5
 v5:=Tryz.zeroValue5
 t9:=Tryz.underlying9
 a9:=Tryz.isAgg9
 z9:=Tryz.sizeOf9
 v9:=Tryz.zeroValue9
 t21:=Tryz.underlying21
 a21:=Tryz.isAgg21
 z21:=Tryz.sizeOf21
 v21:=Tryz.zeroValue21
 t46:=Tryz.underlying146
 a46:=Tryz.isAgg146
 z46:=Tryz.sizeOf146
 v46:=Tryz.zeroValue146
 t105:=Tryz.underlying191
 a105:=Tryz.isAgg191
 z105:=Tryz.sizeOf191
 v105:=Tryz.zeroValue191
 t116:=Tryz.underlying149
 a116:=Tryz.isAgg149
 z116:=Tryz.sizeOf149
 t117:=Tryz.underlying150
 a117:=Tryz.isAgg150
 z117:=Tryz.sizeOf150
 v117:=Tryz.zeroValue150
 t119:=Tryz.underlying237
 a119:=Tryz.isAgg237
 z119:=Tryz.sizeOf237
 t124:=Tryz.underlying153
 a124:=Tryz.isAgg153
 z124:=Tryz.sizeOf153
 v124:=Tryz.zeroValue153
 t138:=Tryz.underlying239
 a138:=Tryz.isAgg239
 z138:=Tryz.sizeOf239
 v138:=Tryz.zeroValue239
 t139:=Tryz.underlying240
 a139:=Tryz.isAgg240
 z139:=Tryz.sizeOf240
 v139:=Tryz.zeroValue240
 g3:=by kernel_rfl
 g4:=by kernel_rfl }
def Tryz.lays119_ren:Go.Shelf.Ren:=⟨fun | 119=>123 | n=>n,fun | 21=>21 | 4=>4 | n=>n,fun | n=>n⟩
theorem Tryz.lays119:Go.Proofs.Lays.n119 Tryz.prog Tryz.lays119_ren:={
 mixed:=by kernel_rfl
 f119:=Tryz.func123.trans (congrArg some (by kernel_rfl))
 t4:=Tryz.underlying4
 a4:=Tryz.isAgg4
 z4:=Tryz.sizeOf4
 v4:=Tryz.zeroValue4
 t21:=Tryz.underlying21
 a21:=Tryz.isAgg21
 z21:=Tryz.sizeOf21
 v21:=Tryz.zeroValue21 }
theorem Tryz.utf8_ValidRune (r:Int) (w:World) :
  Calls Tryz.prog 123 #[.int .i32 r] w fun e w'=>e = .returned (.bool (Lib.validRune r)) ∧ w' = w:=Any.utf8_ValidRune Tryz.lays119 r w
def Tryz.lays134_ren:Go.Shelf.Ren:=⟨fun | 134=>195 | 129=>206 | n=>n,fun | 53=>212 | 3=>3 | 4=>4 | 46=>146 | 5=>5 | 9=>9 | n=>n,fun | n=>n⟩
theorem Tryz.lays134:Go.Proofs.Lays.n134 Tryz.prog Tryz.lays134_ren:={
 mixed:=by kernel_rfl
 f129:=Tryz.func206.trans (congrArg some (by kernel_rfl))
 f134:=Tryz.func195.trans (congrArg some (by kernel_rfl))
 t3:=Tryz.underlying3
 a3:=Tryz.isAgg3
 z3:=Tryz.sizeOf3
 v3:=Tryz.zeroValue3
 t4:=Tryz.underlying4
 a4:=Tryz.isAgg4
 z4:=Tryz.sizeOf4
 v4:=Tryz.zeroValue4
 t5:=Tryz.underlying5
 a5:=Tryz.isAgg5
 z5:=Tryz.sizeOf5
 v5:=Tryz.zeroValue5
 t9:=Tryz.underlying9
 a9:=Tryz.isAgg9
 z9:=Tryz.sizeOf9
 v9:=Tryz.zeroValue9
 t46:=Tryz.underlying146
 a46:=Tryz.isAgg146
 z46:=Tryz.sizeOf146
 v46:=Tryz.zeroValue146
 t53:=Tryz.underlying212
 a53:=Tryz.isAgg212
 z53:=Tryz.sizeOf212
 v53:=Tryz.zeroValue212 }
theorem Tryz.bits_LeadingZeros64 (x:Int) (w:World) (h0:0 ≤ x) (h1:x ≤ 18446744073709551615) :
  Calls Tryz.prog 195 #[.int .u64 x] w fun e w'=>e = .returned (.int .i64 (64 - (Lib.bitLen x.toNat:Int))) ∧ w' = w:=Any.bits_LeadingZeros64 Tryz.lays134 x w h0 h1
def Tryz.lays137_ren:Go.Shelf.Ren:=⟨fun | 137=>122 | 217=>85 | 266=>118 | n=>n,fun | 9=>9 | 5=>5 | 3=>3 | n=>n,fun | n=>n⟩
theorem Tryz.lays137:Go.Proofs.Lays.n137 Tryz.prog Tryz.lays137_ren:={
 mixed:=by kernel_rfl
 f137:=Tryz.func122.trans (congrArg some (by kernel_rfl))
 f217:=Tryz.func85.trans (congrArg some (by kernel_rfl))
 f266:=Tryz.func118.trans (congrArg some (by kernel_rfl))
 t3:=Tryz.underlying3
 a3:=Tryz.isAgg3
 z3:=Tryz.sizeOf3
 v3:=Tryz.zeroValue3
 t5:=Tryz.underlying5
 a5:=Tryz.isAgg5
 z5:=Tryz.sizeOf5
 v5:=Tryz.zeroValue5
 t9:=Tryz.underlying9
 a9:=Tryz.isAgg9
 z9:=Tryz.sizeOf9
 v9:=Tryz.zeroValue9 }
open Go.RowKit in
theorem Tryz.strings_IndexByte (s:ByteArray) (c:Int) (w:World) :
  Calls Tryz.prog 122 #[.string s,.int .u8 c] w fun e w'=>e = .returned (.int .i64 (Lib.indexByte s.data.toList c.toNat.toUInt8)) ∧ w' = w:=Any.strings_IndexByte Tryz.lays137 s c w
def Tryz.lays103_ren:Go.Shelf.Ren:=⟨fun | 103=>124 | 210=>143 | 206=>167 | n=>n,fun | 9=>9 | 4=>4 | 24=>121 | 3=>3 | n=>n,fun | n=>n⟩
theorem Tryz.lays103:Go.Proofs.Lays.n103 Tryz.prog Tryz.lays103_ren:={
 mixed:=by kernel_rfl
 f103:=Tryz.func124.trans (congrArg some (by kernel_rfl))
 f206:=Tryz.func167.trans (congrArg some (by kernel_rfl))
 f210:=Tryz.func143.trans (congrArg some (by kernel_rfl))
 t3:=Tryz.underlying3
 a3:=Tryz.isAgg3
 z3:=Tryz.sizeOf3
 v3:=Tryz.zeroValue3
 t4:=Tryz.underlying4
 a4:=Tryz.isAgg4
 z4:=Tryz.sizeOf4
 v4:=Tryz.zeroValue4
 t9:=Tryz.underlying9
 a9:=Tryz.isAgg9
 z9:=Tryz.sizeOf9
 v9:=Tryz.zeroValue9
 t24:=Tryz.underlying121
 a24:=Tryz.isAgg121
 z24:=Tryz.sizeOf121
 v24:=Tryz.zeroValue121 }
open Go.RowKit in
theorem Tryz.strings_CutPrefix (s p:ByteArray) (w:World) :
  Calls Tryz.prog 124 #[.string s,.string p] w fun e w'=>e = .returned (.tuple #[.string ⟨(Lib.trimPrefix s.data.toList p.data.toList).toArray⟩,.bool (Lib.hasPrefix s.data.toList p.data.toList)]) ∧ w' = w:=Any.strings_CutPrefix Tryz.lays103 s p w
def Tryz.lays104_ren:Go.Shelf.Ren:=⟨fun | 104=>153 | 211=>176 | 207=>168 | n=>n,fun | 9=>9 | 4=>4 | 24=>121 | 3=>3 | n=>n,fun | n=>n⟩
theorem Tryz.lays104:Go.Proofs.Lays.n104 Tryz.prog Tryz.lays104_ren:={
 mixed:=by kernel_rfl
 f104:=Tryz.func153.trans (congrArg some (by kernel_rfl))
 f207:=Tryz.func168.trans (congrArg some (by kernel_rfl))
 f211:=Tryz.func176.trans (congrArg some (by kernel_rfl))
 t3:=Tryz.underlying3
 a3:=Tryz.isAgg3
 z3:=Tryz.sizeOf3
 v3:=Tryz.zeroValue3
 t4:=Tryz.underlying4
 a4:=Tryz.isAgg4
 z4:=Tryz.sizeOf4
 v4:=Tryz.zeroValue4
 t9:=Tryz.underlying9
 a9:=Tryz.isAgg9
 z9:=Tryz.sizeOf9
 v9:=Tryz.zeroValue9
 t24:=Tryz.underlying121
 a24:=Tryz.isAgg121
 z24:=Tryz.sizeOf121
 v24:=Tryz.zeroValue121 }
open Go.RowKit in
theorem Tryz.strings_CutSuffix (s p:ByteArray) (w:World) (hs:s.size ≤ 9223372036854775807) :
  Calls Tryz.prog 153 #[.string s,.string p] w fun e w'=>e = .returned (.tuple #[.string ⟨(Lib.trimSuffix s.data.toList p.data.toList).toArray⟩,.bool (Lib.hasSuffix s.data.toList p.data.toList)]) ∧ w' = w:=Any.strings_CutSuffix Tryz.lays104 s p w hs
def Tryz.laysPu14_ren:Go.Shelf.Ren:=⟨fun | 14=>149 | 16=>171 | 17=>172 | 19=>189 | 20=>190 | 21=>191 | 22=>192 | 23=>193 | 24=>194 | 25=>203 | 27=>205 | 26=>204 | 28=>211 | 29=>212 | 30=>213 | 31=>214 | 32=>215 | 33=>216 | 35=>206 | 34=>217 | 36=>218 | 37=>219 | 38=>220 | 39=>221 | 40=>222 | n=>n,fun | 9=>9 | 3=>3 | 22=>212 | 24=>220 | 25=>221 | 4=>4 | 34=>253 | 5=>5 | 36=>146 | 37=>66 | 0=>0 | 39=>255 | 21=>21 | 44=>263 | 47=>261 | 50=>272 | 48=>270 | 2=>2 | 52=>274 | 55=>276 | 59=>279 | 60=>188 | 20=>20 | 61=>280 | 65=>283 | 66=>284 | 67=>84 | n=>n,fun | 0=>8 | 1=>9 | 2=>10 | 3=>11 | 4=>12 | n=>n⟩
theorem Tryz.laysPu14:Go.Proofs.LaysPu.n14 Tryz.prog Tryz.laysPu14_ren:={
 mixed:=by kernel_rfl
 f14:=Tryz.func149.trans (congrArg some (by kernel_rfl))
 f16:=Tryz.func171.trans (congrArg some (by kernel_rfl))
 f17:=Tryz.func172.trans (congrArg some (by kernel_rfl))
 f19:=Tryz.func189.trans (congrArg some (by kernel_rfl))
 f20:=Tryz.func190.trans (congrArg some (by kernel_rfl))
 f21:=Tryz.func191.trans (congrArg some (by kernel_rfl))
 f22:=Tryz.func192.trans (congrArg some (by kernel_rfl))
 f23:=Tryz.func193.trans (congrArg some (by kernel_rfl))
 f24:=Tryz.func194.trans (congrArg some (by kernel_rfl))
 f25:=Tryz.func203.trans (congrArg some (by kernel_rfl))
 f26:=Tryz.func204.trans (congrArg some (by kernel_rfl))
 f27:=Tryz.func205.trans (congrArg some (by kernel_rfl))
 f28:=Tryz.func211.trans (congrArg some (by kernel_rfl))
 f29:=Tryz.func212.trans (congrArg some (by kernel_rfl))
 f30:=Tryz.func213.trans (congrArg some (by kernel_rfl))
 f31:=Tryz.func214.trans (congrArg some (by kernel_rfl))
 f32:=Tryz.func215.trans (congrArg some (by kernel_rfl))
 f33:=Tryz.func216.trans (congrArg some (by kernel_rfl))
 f34:=Tryz.func217.trans (congrArg some (by kernel_rfl))
 f35:=Tryz.func206.trans (congrArg some (by kernel_rfl))
 f36:=Tryz.func218.trans (congrArg some (by kernel_rfl))
 f37:=Tryz.func219.trans (congrArg some (by kernel_rfl))
 f38:=Tryz.func220.trans (congrArg some (by kernel_rfl))
 f39:=Tryz.func221.trans (congrArg some (by kernel_rfl))
 f40:=Tryz.func222.trans (congrArg some (by kernel_rfl))
 t0:=Tryz.underlying0
 a0:=Tryz.isAgg0
 z0:=Tryz.sizeOf0
 v0:=Tryz.zeroValue0
 i0:=by kernel_rfl
 t2:=Tryz.underlying2
 a2:=Tryz.isAgg2
 z2:=Tryz.sizeOf2
 v2:=Tryz.zeroValue2
 i2:=by kernel_rfl
 t3:=Tryz.underlying3
 a3:=Tryz.isAgg3
 z3:=Tryz.sizeOf3
 v3:=Tryz.zeroValue3
 i3:=by kernel_rfl
 t4:=Tryz.underlying4
 a4:=Tryz.isAgg4
 z4:=Tryz.sizeOf4
 v4:=Tryz.zeroValue4
 i4:=by kernel_rfl
 t5:=Tryz.underlying5
 a5:=Tryz.isAgg5
 z5:=Tryz.sizeOf5
 v5:=Tryz.zeroValue5
 i5:=by kernel_rfl
 t9:=Tryz.underlying9
 a9:=Tryz.isAgg9
 z9:=Tryz.sizeOf9
 v9:=Tryz.zeroValue9
 i9:=by kernel_rfl
 t20:=Tryz.underlying20
 a20:=Tryz.isAgg20
 z20:=Tryz.sizeOf20
 v20:=Tryz.zeroValue20
 i20:=by kernel_rfl
 t21:=Tryz.underlying21
 a21:=Tryz.isAgg21
 z21:=Tryz.sizeOf21
 v21:=Tryz.zeroValue21
 i21:=by kernel_rfl
 t22:=Tryz.underlying212
 a22:=Tryz.isAgg212
 z22:=Tryz.sizeOf212
 v22:=Tryz.zeroValue212
 i22:=by kernel_rfl
 t24:=Tryz.underlying220
 a24:=Tryz.isAgg220
 z24:=Tryz.sizeOf220
 v24:=Tryz.zeroValue220
 i24:=by kernel_rfl
 t25:=Tryz.underlying221
 a25:=Tryz.isAgg221
 z25:=Tryz.sizeOf221
 v25:=Tryz.zeroValue221
 i25:=by kernel_rfl
 t34:=Tryz.underlying253
 a34:=Tryz.isAgg253
 z34:=Tryz.sizeOf253
 v34:=Tryz.zeroValue253
 i34:=by kernel_rfl
 c34:=by kernel_rfl
 t36:=Tryz.underlying146
 a36:=Tryz.isAgg146
 z36:=Tryz.sizeOf146
 v36:=Tryz.zeroValue146
 i36:=by kernel_rfl
 t37:=Tryz.underlying66
 a37:=Tryz.isAgg66
 z37:=Tryz.sizeOf66
 v37:=Tryz.zeroValue66
 i37:=by kernel_rfl
 t39:=Tryz.underlying255
 a39:=Tryz.isAgg255
 z39:=Tryz.sizeOf255
 v39:=Tryz.zeroValue255
 i39:=by kernel_rfl
 t44:=Tryz.underlying263
 a44:=Tryz.isAgg263
 z44:=Tryz.sizeOf263
 v44:=Tryz.zeroValue263
 i44:=by kernel_rfl
 t47:=Tryz.underlying261
 a47:=Tryz.isAgg261
 z47:=Tryz.sizeOf261
 v47:=Tryz.zeroValue261
 i47:=by kernel_rfl
 t48:=Tryz.underlying270
 a48:=Tryz.isAgg270
 z48:=Tryz.sizeOf270
 v48:=Tryz.zeroValue270
 i48:=by kernel_rfl
 t50:=Tryz.underlying272
 a50:=Tryz.isAgg272
 z50:=Tryz.sizeOf272
 v50:=Tryz.zeroValue272
 i50:=by kernel_rfl
 t52:=Tryz.underlying274
 a52:=Tryz.isAgg274
 z52:=Tryz.sizeOf274
 v52:=Tryz.zeroValue274
 i52:=by kernel_rfl
 t55:=Tryz.underlying276
 a55:=Tryz.isAgg276
 z55:=Tryz.sizeOf276
 v55:=Tryz.zeroValue276
 i55:=by kernel_rfl
 t59:=Tryz.underlying279
 a59:=Tryz.isAgg279
 z59:=Tryz.sizeOf279
 v59:=Tryz.zeroValue279
 i59:=by kernel_rfl
 t60:=Tryz.underlying188
 a60:=Tryz.isAgg188
 z60:=Tryz.sizeOf188
 v60:=Tryz.zeroValue188
 i60:=by kernel_rfl
 t61:=Tryz.underlying280
 a61:=Tryz.isAgg280
 z61:=Tryz.sizeOf280
 t65:=Tryz.underlying283
 a65:=Tryz.isAgg283
 z65:=Tryz.sizeOf283
 v65:=Tryz.zeroValue283
 i65:=by kernel_rfl
 t66:=Tryz.underlying284
 a66:=Tryz.isAgg284
 z66:=Tryz.sizeOf284
 v66:=Tryz.zeroValue284
 i66:=by kernel_rfl
 t67:=Tryz.underlying84
 a67:=Tryz.isAgg84
 z67:=Tryz.sizeOf84
 v67:=Tryz.zeroValue84
 i67:=by kernel_rfl
 g0:=by kernel_rfl
 m0:=by kernel_rfl
 g1:=by kernel_rfl
 m1:=by kernel_rfl
 g2:=by kernel_rfl
 m2:=by kernel_rfl
 g3:=by kernel_rfl
 m3:=by kernel_rfl
 g4:=by kernel_rfl
 m4:=by kernel_rfl }
open Go.RowKit in
theorem Tryz.strconv_ParseUint_10_at64_ok (s:ByteArray) (hmax:s.size ≤ 9223372036854775806) (u:Nat) (h:Lib.parseUintB 64 s.data.toList = .ok u) (w:World) :
  Calls Tryz.prog 149 #[.string s,.int .i64 10,.int .i64 64] w fun e w'=>e = .returned (.tuple #[.int .u64 u,.nilIface]) ∧ (w' = w ∨ w' = Lib.bytesWorld w 5 s):=Any.strconv_ParseUint_10_at64_ok Tryz.laysPu14 s hmax u h w
def Tryz.lays144_ren:Go.Shelf.Ren:=⟨fun | 144=>10 | 143=>24 | 219=>43 | 217=>85 | 225=>86 | 224=>87 | 267=>88 | 266=>118 | 314=>119 | n=>n,fun | 9=>9 | 4=>4 | 3=>3 | 5=>5 | 46=>146 | 146=>189 | 51=>188 | n=>n,fun | 1=>0 | n=>n⟩
theorem Tryz.lays144:Go.Proofs.Lays.n144 Tryz.prog Tryz.lays144_ren:={
 mixed:=by kernel_rfl
 f143:=Tryz.func24.trans (congrArg some (by kernel_rfl))
 f144:=Tryz.func10.trans (congrArg some (by kernel_rfl))
 f217:=Tryz.func85.trans (congrArg some (by kernel_rfl))
 f219:=Tryz.func43.trans (congrArg some (by kernel_rfl))
 f224:=Tryz.func87.trans (congrArg some (by kernel_rfl))
 f225:=Tryz.func86.trans (congrArg some (by kernel_rfl))
 f266:=Tryz.func118.trans (congrArg some (by kernel_rfl))
 f267:=Tryz.func88.trans (congrArg some (by kernel_rfl))
 f314:=Tryz.func119.trans (congrArg some (by kernel_rfl))
 t3:=Tryz.underlying3
 a3:=Tryz.isAgg3
 z3:=Tryz.sizeOf3
 v3:=Tryz.zeroValue3
 t4:=Tryz.underlying4
 a4:=Tryz.isAgg4
 z4:=Tryz.sizeOf4
 v4:=Tryz.zeroValue4
 t5:=Tryz.underlying5
 a5:=Tryz.isAgg5
 z5:=Tryz.sizeOf5
 v5:=Tryz.zeroValue5
 t9:=Tryz.underlying9
 a9:=Tryz.isAgg9
 z9:=Tryz.sizeOf9
 v9:=Tryz.zeroValue9
 t46:=Tryz.underlying146
 a46:=Tryz.isAgg146
 z46:=Tryz.sizeOf146
 v46:=Tryz.zeroValue146
 t51:=Tryz.underlying188
 a51:=Tryz.isAgg188
 z51:=Tryz.sizeOf188
 v51:=Tryz.zeroValue188
 t146:=Tryz.underlying189
 a146:=Tryz.isAgg189
 z146:=Tryz.sizeOf189
 v146:=Tryz.zeroValue189
 g1:=by kernel_rfl }
open Go.RowKit Go.Lib in
theorem Tryz.strings_Contains_one (s:ByteArray) (c:UInt8) (w:World) :
  Calls Tryz.prog 10 #[.string s,.string ⟨#[c]⟩] w fun e w'=>e = .returned (.bool (decide (0 ≤ Lib.indexByte s.data.toList c))) ∧ w' = w:=Any.strings_Contains_one Tryz.lays144 s c w
def Tryz.lays145_ren:Go.Shelf.Ren:=⟨fun | 145=>11 | 220=>25 | 219=>43 | 217=>85 | 225=>86 | 224=>87 | 267=>88 | 266=>118 | 314=>119 | n=>n,fun | 9=>9 | 4=>4 | 59=>49 | 3=>3 | 5=>5 | 46=>146 | 146=>189 | 51=>188 | n=>n,fun | 1=>0 | n=>n⟩
theorem Tryz.lays145:Go.Proofs.Lays.n145 Tryz.prog Tryz.lays145_ren:={
 mixed:=by kernel_rfl
 f145:=Tryz.func11.trans (congrArg some (by kernel_rfl))
 f217:=Tryz.func85.trans (congrArg some (by kernel_rfl))
 f219:=Tryz.func43.trans (congrArg some (by kernel_rfl))
 f220:=Tryz.func25.trans (congrArg some (by kernel_rfl))
 f224:=Tryz.func87.trans (congrArg some (by kernel_rfl))
 f225:=Tryz.func86.trans (congrArg some (by kernel_rfl))
 f266:=Tryz.func118.trans (congrArg some (by kernel_rfl))
 f267:=Tryz.func88.trans (congrArg some (by kernel_rfl))
 f314:=Tryz.func119.trans (congrArg some (by kernel_rfl))
 t3:=Tryz.underlying3
 a3:=Tryz.isAgg3
 z3:=Tryz.sizeOf3
 v3:=Tryz.zeroValue3
 t4:=Tryz.underlying4
 a4:=Tryz.isAgg4
 z4:=Tryz.sizeOf4
 v4:=Tryz.zeroValue4
 t5:=Tryz.underlying5
 a5:=Tryz.isAgg5
 z5:=Tryz.sizeOf5
 v5:=Tryz.zeroValue5
 t9:=Tryz.underlying9
 a9:=Tryz.isAgg9
 z9:=Tryz.sizeOf9
 v9:=Tryz.zeroValue9
 t46:=Tryz.underlying146
 a46:=Tryz.isAgg146
 z46:=Tryz.sizeOf146
 v46:=Tryz.zeroValue146
 t51:=Tryz.underlying188
 a51:=Tryz.isAgg188
 z51:=Tryz.sizeOf188
 v51:=Tryz.zeroValue188
 t59:=Tryz.underlying49
 a59:=Tryz.isAgg49
 z59:=Tryz.sizeOf49
 v59:=Tryz.zeroValue49
 t146:=Tryz.underlying189
 a146:=Tryz.isAgg189
 z146:=Tryz.sizeOf189
 v146:=Tryz.zeroValue189
 g1:=by kernel_rfl }
open Go.RowKit Go.Lib in
theorem Tryz.strings_Cut (s sep:ByteArray) (m:Int) (w:World) (hs:s.size < 4294967281) (hm:w.cell? ⟨0,0,none⟩ = some (.int .i64 m)) :
  Calls Tryz.prog 11 #[.string s,.string sep] w fun e w'=>e = .returned (.tuple #[.string ⟨(Lib.cut s.data.toList sep.data.toList).1.toArray⟩,.string ⟨(Lib.cut s.data.toList sep.data.toList).2.1.toArray⟩,.bool (Lib.cut s.data.toList sep.data.toList).2.2]) ∧ ∃ n,w' = w.drewN n:=Any.strings_Cut Tryz.lays145 s sep m w hs hm
def Tryz.lays99_ren:Go.Shelf.Ren:=⟨fun | 99=>141 | 206=>167 | n=>n,fun | 9=>9 | 4=>4 | 3=>3 | n=>n,fun | n=>n⟩
theorem Tryz.lays99:Go.Proofs.Lays.n99 Tryz.prog Tryz.lays99_ren:={
 mixed:=by kernel_rfl
 f99:=Tryz.func141.trans (congrArg some (by kernel_rfl))
 f206:=Tryz.func167.trans (congrArg some (by kernel_rfl))
 t3:=Tryz.underlying3
 a3:=Tryz.isAgg3
 z3:=Tryz.sizeOf3
 v3:=Tryz.zeroValue3
 t4:=Tryz.underlying4
 a4:=Tryz.isAgg4
 z4:=Tryz.sizeOf4
 v4:=Tryz.zeroValue4
 t9:=Tryz.underlying9
 a9:=Tryz.isAgg9
 z9:=Tryz.sizeOf9
 v9:=Tryz.zeroValue9 }
open Go.RowKit Go.Lib in
theorem Tryz.strings_HasPrefix (s p:ByteArray) (w:World) :
  Calls Tryz.prog 141 #[.string s,.string p] w fun e w'=>e = .returned (.bool (Lib.hasPrefix s.data.toList p.data.toList)) ∧ w' = w:=Any.strings_HasPrefix Tryz.lays99 s p w
def Tryz.lays100_ren:Go.Shelf.Ren:=⟨fun | 100=>146 | 207=>168 | n=>n,fun | 9=>9 | 4=>4 | 3=>3 | n=>n,fun | n=>n⟩
theorem Tryz.lays100:Go.Proofs.Lays.n100 Tryz.prog Tryz.lays100_ren:={
 mixed:=by kernel_rfl
 f100:=Tryz.func146.trans (congrArg some (by kernel_rfl))
 f207:=Tryz.func168.trans (congrArg some (by kernel_rfl))
 t3:=Tryz.underlying3
 a3:=Tryz.isAgg3
 z3:=Tryz.sizeOf3
 v3:=Tryz.zeroValue3
 t4:=Tryz.underlying4
 a4:=Tryz.isAgg4
 z4:=Tryz.sizeOf4
 v4:=Tryz.zeroValue4
 t9:=Tryz.underlying9
 a9:=Tryz.isAgg9
 z9:=Tryz.sizeOf9
 v9:=Tryz.zeroValue9 }
open Go.RowKit Go.Lib in
theorem Tryz.strings_HasSuffix (s p:ByteArray) (w:World) (hs:s.size ≤ 9223372036854775807) :
  Calls Tryz.prog 146 #[.string s,.string p] w fun e w'=>e = .returned (.bool (Lib.hasSuffix s.data.toList p.data.toList)) ∧ w' = w:=Any.strings_HasSuffix Tryz.lays100 s p w hs
def Tryz.lays102_ren:Go.Shelf.Ren:=⟨fun | 102=>147 | 209=>169 | 207=>168 | n=>n,fun | 9=>9 | 4=>4 | 3=>3 | n=>n,fun | n=>n⟩
theorem Tryz.lays102:Go.Proofs.Lays.n102 Tryz.prog Tryz.lays102_ren:={
 mixed:=by kernel_rfl
 f102:=Tryz.func147.trans (congrArg some (by kernel_rfl))
 f207:=Tryz.func168.trans (congrArg some (by kernel_rfl))
 f209:=Tryz.func169.trans (congrArg some (by kernel_rfl))
 t3:=Tryz.underlying3
 a3:=Tryz.isAgg3
 z3:=Tryz.sizeOf3
 v3:=Tryz.zeroValue3
 t4:=Tryz.underlying4
 a4:=Tryz.isAgg4
 z4:=Tryz.sizeOf4
 v4:=Tryz.zeroValue4
 t9:=Tryz.underlying9
 a9:=Tryz.isAgg9
 z9:=Tryz.sizeOf9
 v9:=Tryz.zeroValue9 }
open Go.RowKit Go.Lib in
theorem Tryz.strings_TrimSuffix (s p:ByteArray) (w:World) (hs:s.size ≤ 9223372036854775807) :
  Calls Tryz.prog 147 #[.string s,.string p] w fun e w'=>e = .returned (.string ⟨(Lib.trimSuffix s.data.toList p.data.toList).toArray⟩) ∧ w' = w:=Any.strings_TrimSuffix Tryz.lays102 s p w hs
def Tryz.lays146_ren:Go.Shelf.Ren:=⟨fun | 146=>127 | 221=>152 | 268=>174 | 138=>175 | 143=>24 | 195=>196 | 197=>120 | 218=>197 | 219=>43 | 260=>142 | 217=>85 | 225=>86 | 224=>87 | 267=>88 | 266=>118 | 314=>119 | n=>n,fun | 9=>9 | 31=>59 | 3=>3 | 4=>4 | 0=>0 | 105=>191 | 21=>21 | 5=>5 | 46=>146 | 119=>237 | 139=>240 | 138=>239 | 146=>189 | 51=>188 | n=>n,fun | 1=>0 | 3=>4 | 4=>5 | n=>n⟩
theorem Tryz.lays146:Go.Proofs.Lays.n146 Tryz.prog Tryz.lays146_ren:={
 mixed:=by kernel_rfl
 f138:=Tryz.func175.trans (congrArg some (by kernel_rfl))
 f143:=Tryz.func24.trans (congrArg some (by kernel_rfl))
 f146:=Tryz.func127.trans (congrArg some (by kernel_rfl))
 f195:=Tryz.func196.trans (congrArg some (by kernel_rfl))
 f197:=Tryz.func120.trans (congrArg some (by kernel_rfl))
 f217:=Tryz.func85.trans (congrArg some (by kernel_rfl))
 f218:=Tryz.func197.trans (congrArg some (by kernel_rfl))
 f219:=Tryz.func43.trans (congrArg some (by kernel_rfl))
 f221:=Tryz.func152.trans (congrArg some (by kernel_rfl))
 f224:=Tryz.func87.trans (congrArg some (by kernel_rfl))
 f225:=Tryz.func86.trans (congrArg some (by kernel_rfl))
 f260:=Tryz.func142.trans (congrArg some (by kernel_rfl))
 f266:=Tryz.func118.trans (congrArg some (by kernel_rfl))
 f267:=Tryz.func88.trans (congrArg some (by kernel_rfl))
 f268:=Tryz.func174.trans (congrArg some (by kernel_rfl))
 f314:=Tryz.func119.trans (congrArg some (by kernel_rfl))
 t0:=Tryz.underlying0
 a0:=Tryz.isAgg0
 z0:=Tryz.sizeOf0
 v0:=Tryz.zeroValue0
 t3:=Tryz.underlying3
 a3:=Tryz.isAgg3
 z3:=Tryz.sizeOf3
 v3:=Tryz.zeroValue3
 t4:=Tryz.underlying4
 a4:=Tryz.isAgg4
 z4:=Tryz.sizeOf4
 v4:=Tryz.zeroValue4
 t5:=Tryz.underlying5
 a5:=Tryz.isAgg5
 z5:=Tryz.sizeOf5
 v5:=Tryz.zeroValue5
 t9:=Tryz.underlying9
 a9:=Tryz.isAgg9
 z9:=Tryz.sizeOf9
 v9:=Tryz.zeroValue9
 t21:=Tryz.underlying21
 a21:=Tryz.isAgg21
 z21:=Tryz.sizeOf21
 v21:=Tryz.zeroValue21
 t31:=Tryz.underlying59
 a31:=Tryz.isAgg59
 z31:=Tryz.sizeOf59
 v31:=Tryz.zeroValue59
 t46:=Tryz.underlying146
 a46:=Tryz.isAgg146
 z46:=Tryz.sizeOf146
 v46:=Tryz.zeroValue146
 t51:=Tryz.underlying188
 a51:=Tryz.isAgg188
 z51:=Tryz.sizeOf188
 v51:=Tryz.zeroValue188
 t105:=Tryz.underlying191
 a105:=Tryz.isAgg191
 z105:=Tryz.sizeOf191
 v105:=Tryz.zeroValue191
 t119:=Tryz.underlying237
 a119:=Tryz.isAgg237
 z119:=Tryz.sizeOf237
 t138:=Tryz.underlying239
 a138:=Tryz.isAgg239
 z138:=Tryz.sizeOf239
 v138:=Tryz.zeroValue239
 t139:=Tryz.underlying240
 a139:=Tryz.isAgg240
 z139:=Tryz.sizeOf240
 v139:=Tryz.zeroValue240
 t146:=Tryz.underlying189
 a146:=Tryz.isAgg189
 z146:=Tryz.sizeOf189
 v146:=Tryz.zeroValue189
 g1:=by kernel_rfl
 g3:=by kernel_rfl
 g4:=by kernel_rfl }
open Go.RowKit Go.Lib in
theorem Tryz.strings_Split (s sep:ByteArray) (m:Int) (w:World) (hs:s.size < 4294967281) (hm:w.cell? ⟨0,0,none⟩ = some (.int .i64 m)) (h1:1 ≤ sep.size) :
  Calls Tryz.prog 127 #[.string s,.string sep] w fun e w'=>
   e = .returned (.slice (some ⟨w.heap.size,0,none⟩) (Lib.countB s sep + 1) (Lib.countB s sep + 1)) ∧ w' = w.alloc (.cells ((Lib.splitB sep 0 (Lib.countB s sep) s).map Value.string).toArray 9):=Any.strings_Split Tryz.lays146 (by kernel_rfl) s sep m w hs hm h1
def Tryz.lays152_ren:Go.Shelf.Ren:=⟨fun | 152=>93 | 137=>122 | 119=>123 | 224=>87 | 225=>86 | 217=>85 | 266=>118 | n=>n,fun | 9=>9 | 21=>21 | 3=>3 | 4=>4 | 5=>5 | 0=>0 | 46=>146 | n=>n,fun | n=>n⟩
theorem Tryz.lays152:Go.Proofs.Lays.n152 Tryz.prog Tryz.lays152_ren:={
 mixed:=by kernel_rfl
 f119:=Tryz.func123.trans (congrArg some (by kernel_rfl))
 f137:=Tryz.func122.trans (congrArg some (by kernel_rfl))
 f152:=Tryz.func93.trans (congrArg some (by kernel_rfl))
 f217:=Tryz.func85.trans (congrArg some (by kernel_rfl))
 f224:=Tryz.func87.trans (congrArg some (by kernel_rfl))
 f225:=Tryz.func86.trans (congrArg some (by kernel_rfl))
 f266:=Tryz.func118.trans (congrArg some (by kernel_rfl))
 t0:=Tryz.underlying0
 a0:=Tryz.isAgg0
 z0:=Tryz.sizeOf0
 v0:=Tryz.zeroValue0
 t3:=Tryz.underlying3
 a3:=Tryz.isAgg3
 z3:=Tryz.sizeOf3
 v3:=Tryz.zeroValue3
 t4:=Tryz.underlying4
 a4:=Tryz.isAgg4
 z4:=Tryz.sizeOf4
 v4:=Tryz.zeroValue4
 t5:=Tryz.underlying5
 a5:=Tryz.isAgg5
 z5:=Tryz.sizeOf5
 v5:=Tryz.zeroValue5
 t9:=Tryz.underlying9
 a9:=Tryz.isAgg9
 z9:=Tryz.sizeOf9
 v9:=Tryz.zeroValue9
 t21:=Tryz.underlying21
 a21:=Tryz.isAgg21
 z21:=Tryz.sizeOf21
 v21:=Tryz.zeroValue21
 t46:=Tryz.underlying146
 a46:=Tryz.isAgg146
 z46:=Tryz.sizeOf146
 v46:=Tryz.zeroValue146 }
open Go.RowKit Go.Lib in
theorem Tryz.strings_IndexRune_ascii (s:ByteArray) (r:Int) (w:World) (h0:0 ≤ r) (h1:r < 128) :
  Calls Tryz.prog 93 #[.string s,.int .i32 r] w fun e w'=>e = .returned (.int .i64 (Lib.indexByte s.data.toList r.toNat.toUInt8)) ∧ w' = w:=Any.strings_IndexRune_ascii Tryz.lays152 s r w h0 h1
def Tryz.lays153_ren:Go.Shelf.Ren:=⟨fun | 153=>45 | 152=>93 | 226=>94 | 227=>90 | 228=>95 | 137=>122 | 119=>123 | 224=>87 | 225=>86 | 217=>85 | 266=>118 | n=>n,fun | 9=>9 | 3=>3 | 4=>4 | 5=>5 | 21=>21 | 117=>150 | 116=>149 | 0=>0 | 46=>146 | 124=>153 | n=>n,fun | n=>n⟩
theorem Tryz.lays153:Go.Proofs.Lays.n153 Tryz.prog Tryz.lays153_ren:={
 mixed:=by kernel_rfl
 f119:=Tryz.func123.trans (congrArg some (by kernel_rfl))
 f137:=Tryz.func122.trans (congrArg some (by kernel_rfl))
 f152:=Tryz.func93.trans (congrArg some (by kernel_rfl))
 f153:=Tryz.func45.trans (congrArg some (by kernel_rfl))
 f217:=Tryz.func85.trans (congrArg some (by kernel_rfl))
 f224:=Tryz.func87.trans (congrArg some (by kernel_rfl))
 f225:=Tryz.func86.trans (congrArg some (by kernel_rfl))
 f226:=Tryz.func94.trans (congrArg some (by kernel_rfl))
 f227:=Tryz.func90.trans (congrArg some (by kernel_rfl))
 f228:=Tryz.func95.trans (congrArg some (by kernel_rfl))
 f266:=Tryz.func118.trans (congrArg some (by kernel_rfl))
 t0:=Tryz.underlying0
 a0:=Tryz.isAgg0
 z0:=Tryz.sizeOf0
 v0:=Tryz.zeroValue0
 t3:=Tryz.underlying3
 a3:=Tryz.isAgg3
 z3:=Tryz.sizeOf3
 v3:=Tryz.zeroValue3
 t4:=Tryz.underlying4
 a4:=Tryz.isAgg4
 z4:=Tryz.sizeOf4
 v4:=Tryz.zeroValue4
 t5:=Tryz.underlying5
 a5:=Tryz.isAgg5
 z5:=Tryz.sizeOf5
 v5:=Tryz.zeroValue5
 t9:=Tryz.underlying9
 a9:=Tryz.isAgg9
 z9:=Tryz.sizeOf9
 v9:=Tryz.zeroValue9
 t21:=Tryz.underlying21
 a21:=Tryz.isAgg21
 z21:=Tryz.sizeOf21
 v21:=Tryz.zeroValue21
 t46:=Tryz.underlying146
 a46:=Tryz.isAgg146
 z46:=Tryz.sizeOf146
 v46:=Tryz.zeroValue146
 t116:=Tryz.underlying149
 a116:=Tryz.isAgg149
 z116:=Tryz.sizeOf149
 t117:=Tryz.underlying150
 a117:=Tryz.isAgg150
 z117:=Tryz.sizeOf150
 v117:=Tryz.zeroValue150
 t124:=Tryz.underlying153
 a124:=Tryz.isAgg153
 z124:=Tryz.sizeOf153
 v124:=Tryz.zeroValue153 }
open Go.RowKit Go.Lib in
theorem Tryz.strings_IndexAny_long (hv116:∀ w,(zeroValue 149).run Tryz.prog w = .ok (.agg (Array.replicate 256 (.bool false))) w) (s chars:ByteArray) (w:World) (h2:2 ≤ chars.size) (h8:8 < s.size) (hs:s.size < 4294967281) (hcs:chars.size < 4294967281) (hascii:∀ (j:Nat) b,chars.data.toList[j]? = some b → b.toNat < 128) :
  Calls Tryz.prog 45 #[.string s,.string chars] w fun e w'=>e = .returned (.int .i64 (Lib.indexAny s.data.toList chars.data.toList)) ∧ w' = ((w.alloc (.cells (Lib.setCells chars.data.toList) 149)).alloc (.cells (Lib.setCells chars.data.toList) 149)):=Any.strings_IndexAny_long Tryz.lays153 hv116 (by kernel_rfl) s chars w h2 h8 hs hcs hascii
def Tryz.lays264_ren:Go.Shelf.Ren:=⟨fun | 264=>150 | n=>n,fun | 53=>212 | 46=>146 | n=>n,fun | n=>n⟩
theorem Tryz.lays264:Go.Proofs.Lays.n264 Tryz.prog Tryz.lays264_ren:={
 mixed:=by kernel_rfl
 f264:=Tryz.func150.trans (congrArg some (by kernel_rfl))
 t46:=Tryz.underlying146
 a46:=Tryz.isAgg146
 z46:=Tryz.sizeOf146
 v46:=Tryz.zeroValue146
 t53:=Tryz.underlying212
 a53:=Tryz.isAgg212
 z53:=Tryz.sizeOf212
 v53:=Tryz.zeroValue212 }
open Go.RowKit Go.Lib in
theorem Tryz.bits_Mul64 (x y:Nat) (hx:x < 18446744073709551616) (hy:y < 18446744073709551616) (w:World) :
  Calls Tryz.prog 150 #[.int .u64 x,.int .u64 y] w fun e w'=>e = .returned (.tuple #[.int .u64 ((x * y / 18446744073709551616:Nat):Int),.int .u64 ((x * y % 18446744073709551616:Nat):Int)]) ∧ w' = w:=Any.bits_Mul64 Tryz.lays264 x y hx hy w
def Tryz.lays110_ren:Go.Shelf.Ren:=⟨fun | 110=>200 | 109=>208 | n=>n,fun | 31=>59 | 9=>9 | 4=>4 | 3=>3 | 0=>0 | n=>n,fun | n=>n⟩
theorem Tryz.lays110:Go.Proofs.Lays.n110 Tryz.prog Tryz.lays110_ren:={
 mixed:=by kernel_rfl
 f109:=Tryz.func208.trans (congrArg some (by kernel_rfl))
 f110:=Tryz.func200.trans (congrArg some (by kernel_rfl))
 t0:=Tryz.underlying0
 a0:=Tryz.isAgg0
 z0:=Tryz.sizeOf0
 v0:=Tryz.zeroValue0
 t3:=Tryz.underlying3
 a3:=Tryz.isAgg3
 z3:=Tryz.sizeOf3
 v3:=Tryz.zeroValue3
 t4:=Tryz.underlying4
 a4:=Tryz.isAgg4
 z4:=Tryz.sizeOf4
 v4:=Tryz.zeroValue4
 t9:=Tryz.underlying9
 a9:=Tryz.isAgg9
 z9:=Tryz.sizeOf9
 v9:=Tryz.zeroValue9
 t31:=Tryz.underlying59
 a31:=Tryz.isAgg59
 z31:=Tryz.sizeOf59
 v31:=Tryz.zeroValue59 }
open Go.Lib in
theorem Tryz.slices_Contains_string (b off n c:Nat) (zs:List ByteArray) (x:ByteArray) (w:World) (hz:n ≤ zs.length) (hbig:n ≤ 9223372036854775807) (hc:∀ j,j < zs.length → w.cell? ⟨b,off + j,none⟩ = some (.string (zs.getD j ByteArray.empty))) :
  Calls Tryz.prog 200 #[.slice (some ⟨b,off,none⟩) n c,.string x] w fun e w'=>e = .returned (.bool (Lib.containsS (zs.take n) x)) ∧ w' = w:=Any.slices_Contains_string Tryz.lays110 b off n c zs x w hz hbig hc
end Go.Proofs
namespace Go.Proofs.YtpfkkagkbneilaaGreatDoor
set_option linter.unusedVariables false
set_option linter.unusedSimpArgs false
structure KInv (y1 y0 U n1 q r:Nat):Prop where
 y1lo:2147483648 ≤ y1
 y1hi:y1 < 4294967296
 y0hi:y0 < 4294967296
 n1hi:n1 < 4294967296
 hU:U < y1 * 4294967296 + y0
 inv:q * y1 + r = U
 ge:(U * 4294967296 + n1) / (y1 * 4294967296 + y0) ≤ q
 qhi:q ≤ 4294967297
 rhi:r < 4294967296
theorem k_start {y1 y0 U n1:Nat} (y1lo:2147483648 ≤ y1) (y1hi:y1 < 4294967296) (y0hi:y0 < 4294967296) (n1hi:n1 < 4294967296) (hU:U < y1 * 4294967296 + y0):KInv y1 y0 U n1 (U / y1) (U % y1):=by
 have h1:=Nat.div_add_mod U y1
 have h2:=Nat.mod_lt U (show 0 < y1 by omega)
 have h3:y1 * (U / y1) = U / y1 * y1:=Nat.mul_comm _ _
 refine ⟨y1lo,y1hi,y0hi,n1hi,hU,by omega,?_,?_,by omega⟩
 ·rw [← Nat.lt_succ_iff,Nat.div_lt_iff_lt_mul (by omega)]
  generalize U / y1 = q at h1 h3
  have e1:(q + 1) * (y1 * 4294967296 + y0) = (q * y1 + y1) * 4294967296 + (q + 1) * y0:=by rw [Nat.mul_add,← Nat.mul_assoc,Nat.succ_mul]
  rw [Nat.succ_eq_add_one,e1]
  have:U + 1 ≤ q * y1 + y1:=by omega
  have h4:(U + 1) * 4294967296 ≤ (q * y1 + y1) * 4294967296:=Nat.mul_le_mul_right _ this
  omega
 ·generalize U / y1 = q at h1 h3
  rcases Nat.lt_or_ge q 4294967298 with h | h
  ·omega
  ·have h5:4294967298 * y1 ≤ q * y1:=Nat.mul_le_mul_right _ h
   omega
theorem k_lt {y1 y0 U n1 q r:Nat} (h:KInv y1 y0 U n1 q r):(U * 4294967296 + n1) / (y1 * 4294967296 + y0) < 4294967296:=by
 have:=h.hU;have:=h.n1hi;have:=h.y1lo
 rw [Nat.div_lt_iff_lt_mul (by omega)]
 have h1:(U + 1) * 4294967296 ≤ (y1 * 4294967296 + y0) * 4294967296:=Nat.mul_le_mul_right _ (by omega)
 rw [Nat.mul_comm 4294967296]
 omega
theorem k_down {y1 y0 U n1 q r:Nat} (h:KInv y1 y0 U n1 q r) (hc:4294967296 ≤ q ∨ 4294967296 * r + n1 < q * y0) :
  1 ≤ q ∧ (q - 1) * y1 + (r + y1) = U ∧ (U * 4294967296 + n1) / (y1 * 4294967296 + y0) ≤ q - 1 ∧ q - 1 ≤ 4294967296 ∧ r + y1 < 8589934592:=by
 have hlt:=k_lt h
 have hge:=h.ge
 have:=h.y1hi;have:=h.rhi;have:=h.qhi;have:=h.y1lo
 have hgt:(U * 4294967296 + n1) / (y1 * 4294967296 + y0) < q:=by
  rcases hc with h1 | h1
  ·omega
  ·rw [Nat.div_lt_iff_lt_mul (by omega)]
   have e1:q * (y1 * 4294967296 + y0) = q * y1 * 4294967296 + q * y0:=by rw [Nat.mul_add,← Nat.mul_assoc]
   rw [e1,← h.inv,Nat.add_mul]
   omega
 obtain ⟨p,rfl⟩ : ∃ p,q = p + 1:=⟨q - 1,by have:=Nat.lt_of_le_of_lt (Nat.zero_le _) hgt;omega⟩
 have hi:=h.inv
 rw [Nat.succ_mul] at hi
 refine ⟨by omega,by rw [Nat.add_sub_cancel];omega,by omega,by omega,by omega⟩
theorem k_next {y1 y0 U n1 q r:Nat} (h:KInv y1 y0 U n1 q r) (hc:4294967296 ≤ q ∨ 4294967296 * r + n1 < q * y0) (hr:r + y1 < 4294967296):KInv y1 y0 U n1 (q - 1) (r + y1):=by
 obtain ⟨h1,h2,h3,h4,h5⟩:=k_down h hc
 exact ⟨h.y1lo,h.y1hi,h.y0hi,h.n1hi,h.hU,h2,h3,by omega,hr⟩
structure KFin (y1 y0 U n1 q:Nat):Prop where
 hq:q = (U * 4294967296 + n1) / (y1 * 4294967296 + y0)
 lt:q < 4294967296
 le:q * (y1 * 4294967296 + y0) ≤ U * 4294967296 + n1
 rest:U * 4294967296 + n1 - q * (y1 * 4294967296 + y0) = (U * 4294967296 + n1) % (y1 * 4294967296 + y0)
theorem k_fin {y1 y0 U n1 q r:Nat} (hlt:(U * 4294967296 + n1) / (y1 * 4294967296 + y0) < 4294967296) (hy:2147483648 ≤ y1) (hinv:q * y1 + r = U) (hge:(U * 4294967296 + n1) / (y1 * 4294967296 + y0) ≤ q) (hle:q * y0 ≤ 4294967296 * r + n1):KFin y1 y0 U n1 q:=by
 have e1:q * (y1 * 4294967296 + y0) = q * y1 * 4294967296 + q * y0:=by rw [Nat.mul_add,← Nat.mul_assoc]
 have h1:q * (y1 * 4294967296 + y0) ≤ U * 4294967296 + n1:=by
  rw [e1,← hinv,Nat.add_mul];omega
 have hq:q = (U * 4294967296 + n1) / (y1 * 4294967296 + y0):=Nat.le_antisymm ((Nat.le_div_iff_mul_le (by omega)).2 h1) hge
 refine ⟨hq,by omega,h1,?_⟩
 have h2:=Nat.div_add_mod (U * 4294967296 + n1) (y1 * 4294967296 + y0)
 rw [← hq,Nat.mul_comm] at h2
 omega
theorem k_stop {y1 y0 U n1 q r:Nat} (h:KInv y1 y0 U n1 q r) (h1:q < 4294967296) (h2:q * y0 ≤ 4294967296 * r + n1):KFin y1 y0 U n1 q:=
 k_fin (k_lt h) h.y1lo h.inv h.ge h2
theorem k_break {y1 y0 U n1 q r:Nat} (h:KInv y1 y0 U n1 q r) (hc:4294967296 ≤ q ∨ 4294967296 * r + n1 < q * y0) (hr:4294967296 ≤ r + y1):KFin y1 y0 U n1 (q - 1):=by
 obtain ⟨h1,h2,h3,h4,h5⟩:=k_down h hc
 refine k_fin (k_lt h) h.y1lo h2 h3 ?_
 have h6:(q - 1) * y0 ≤ 4294967296 * y0:=Nat.mul_le_mul_right _ h4
 have:=h.y0hi
 have h7:4294967296 * 4294967296 ≤ 4294967296 * (r + y1):=Nat.mul_le_mul_left _ hr
 omega
theorem bitLenAux_lt:∀ (f x:Nat),x < 2 ^ f → x < 2 ^ Lib.bitLenAux f x
 | 0,x,h=>by simpa [Lib.bitLenAux] using h
 | f + 1,x,h=>by
  unfold Lib.bitLenAux
  split
  ·rename_i h0;subst h0;exact Nat.pow_pos (by decide)
  ·have h1:x / 2 < 2 ^ f:=by rw [Nat.pow_succ] at h;omega
   have:=bitLenAux_lt f (x / 2) h1
   rw [Nat.add_comm,Nat.pow_succ];omega
theorem bitLenAux_ge:∀ (f x:Nat),x ≠ 0 → x < 2 ^ f → 2 ^ (Lib.bitLenAux f x - 1) ≤ x ∧ 1 ≤ Lib.bitLenAux f x
 | 0,x,h0,h=>by exfalso;simp at h;exact h0 h
 | f + 1,x,h0,h=>by
  unfold Lib.bitLenAux
  rw [if_neg h0]
  have h1:x / 2 < 2 ^ f:=by rw [Nat.pow_succ] at h;omega
  refine ⟨?_,by omega⟩
  rw [Nat.add_sub_cancel_left]
  by_cases h2:x / 2 = 0
  ·rw [h2]
   have:Lib.bitLenAux f 0 = 0:=by cases f <;> simp [Lib.bitLenAux]
   rw [this];simp;omega
  ·obtain ⟨h3,h4⟩:=bitLenAux_ge f (x / 2) h2 h1
   have h5:2 ^ Lib.bitLenAux f (x / 2) = 2 ^ (Lib.bitLenAux f (x / 2) - 1) * 2:=by rw [← Nat.pow_succ];congr 1;omega
   rw [h5];omega
theorem norm_shift {y:Nat} (h0:0 < y) (h:y < 9223372036854775808):∃ s:Nat,1 ≤ s ∧ s ≤ 63 ∧ (64:Int) - (Lib.bitLen y:Int) = (s:Int) ∧ 9223372036854775808 ≤ y * 2 ^ s ∧ y * 2 ^ s < 18446744073709551616:=by
 have h1:y < 2 ^ Lib.bitLen y:=bitLenAux_lt 64 y (by omega)
 obtain ⟨h2,h3⟩:=bitLenAux_ge 64 y (by omega) (by omega)
 have h4:Lib.bitLen y ≤ 63:=Lib.bitLen_le y 63 (by decide) (by omega)
 have h3:1 ≤ Lib.bitLen y:=h3
 have h2:2 ^ (Lib.bitLen y - 1) ≤ y:=h2
 generalize Lib.bitLen y = L at *
 refine ⟨64 - L,by omega,by omega,by omega,?_,?_⟩
 ·have:2 ^ (L - 1) * 2 ^ (64 - L) ≤ y * 2 ^ (64 - L):=Nat.mul_le_mul_right _ h2
  rw [← Nat.pow_add,show L - 1 + (64 - L) = 63 by omega] at this
  exact this
 ·have:y * 2 ^ (64 - L) < 2 ^ L * 2 ^ (64 - L):=Nat.mul_lt_mul_of_pos_right h1 (Nat.pow_pos (by decide))
  rw [← Nat.pow_add,show L + (64 - L) = 64 by omega] at this
  exact this
theorem shifted {hi lo y s:Nat} (hs1:1 ≤ s) (hs:s ≤ 63) (hhi:hi < y) (hlo:lo < 18446744073709551616) (hy:y * 2 ^ s < 18446744073709551616) :
  hi * 2 ^ s ||| lo / 2 ^ (64 - s) = hi * 2 ^ s + lo / 2 ^ (64 - s) ∧ hi * 2 ^ s + lo / 2 ^ (64 - s) < y * 2 ^ s ∧ (hi * 2 ^ s + lo / 2 ^ (64 - s)) * 18446744073709551616 + lo * 2 ^ s % 18446744073709551616 = (hi * 18446744073709551616 + lo) * 2 ^ s:=by
 have hp:2 ^ s * 2 ^ (64 - s) = 18446744073709551616:=by rw [← Nat.pow_add,show s + (64 - s) = 64 by omega]
 have hps:0 < 2 ^ s:=Nat.pow_pos (by decide)
 have hq:lo / 2 ^ (64 - s) < 2 ^ s:=by
  rw [Nat.div_lt_iff_lt_mul (Nat.pow_pos (by decide)),hp];exact hlo
 refine ⟨?_,?_,?_⟩
 ·rw [Nat.mul_comm,← Nat.two_pow_add_eq_or_of_lt hq]
 ·have:(hi + 1) * 2 ^ s ≤ y * 2 ^ s:=Nat.mul_le_mul_right _ hhi
  rw [Nat.add_mul,Nat.one_mul] at this
  omega
 ·have e:lo * 2 ^ s = lo / 2 ^ (64 - s) * 18446744073709551616 + lo * 2 ^ s % 18446744073709551616:=by
   have h1:=Nat.div_add_mod (lo * 2 ^ s) 18446744073709551616
   have h2:lo * 2 ^ s / 18446744073709551616 = lo / 2 ^ (64 - s):=by
    rw [← hp,Nat.mul_comm lo,Nat.mul_div_mul_left _ _ hps]
   rw [h2] at h1;omega
  rw [Nat.add_mul,Nat.add_mul (hi * 18446744073709551616),e,Nat.mul_right_comm]
  omega
theorem div_two' {Y U n1 n0 q1 q0 R:Nat} (e1:Y * q1 + R = U * 4294967296 + n1) (e2:q0 = (R * 4294967296 + n0) / Y) (hY0:0 < Y) :
  q1 * 4294967296 + q0 = (U * 18446744073709551616 + (n1 * 4294967296 + n0)) / Y ∧ (R * 4294967296 + n0) % Y = (U * 18446744073709551616 + (n1 * 4294967296 + n0)) % Y:=by
 have e3:U * 18446744073709551616 + (n1 * 4294967296 + n0) = Y * (q1 * 4294967296) + (R * 4294967296 + n0):=by
  rw [← Nat.mul_assoc]
  generalize Y * q1 = a at e1 ⊢
  clear e2 hY0
  omega
 rw [e3,Nat.mul_add_div hY0,Nat.mul_add_mod,← e2]
 exact ⟨rfl,rfl⟩
theorem div_two {Y U N q1 q0:Nat} {y1 y0 n1 n0:Nat} (hY:Y = y1 * 4294967296 + y0) (hN:N = n1 * 4294967296 + n0) (hn0:n0 < 4294967296) (hy:2147483648 ≤ y1)
  (h1:KFin y1 y0 U n1 q1) (h0:KFin y1 y0 ((U * 4294967296 + n1) % Y) n0 q0) :
  q1 * 4294967296 + q0 = (U * 18446744073709551616 + N) / Y ∧ ((U * 4294967296 + n1) % Y * 4294967296 + n0) % Y = (U * 18446744073709551616 + N) % Y:=by
 subst hN
 have hY0:0 < Y:=by omega
 have e1:=Nat.div_add_mod (U * 4294967296 + n1) Y
 have e4:=h1.hq
 have e2:=h0.hq
 rw [← hY] at e4 e2
 rw [← e4] at e1
 clear h1 h0 e4 hY
 exact div_two' e1 e2 hY0
end Go.Proofs.YtpfkkagkbneilaaGreatDoor
namespace Go.Proofs.YtpfkkagkbneilaaGreatDoor
open Go.RowKit
set_option linter.unusedVariables false
set_option linter.unusedSimpArgs false
theorem wraps_u64 (n:Int) (h₀ : 0 ≤ n) (h₁ : n < 2 ^ 64):IntKind.u64.wrap n = n:=by rw [IntKind.wrap_u64];omega
theorem u64_and32 (a:Nat) (h:a < 18446744073709551616):bits .and .u64 (a:Int) 4294967295 = ((a % 4294967296:Nat):Int):=by
 have h1:=bits_mask .u64 64 (by decide) wraps_u64 32 (by decide) (a:Int) (by omega) (by omega)
 have e:(2:Int) ^ 32 - 1 = 4294967295:=by decide
 have e2:(2:Int) ^ 32 = 4294967296:=by decide
 rw [e,e2] at h1
 rw [h1];omega
theorem u64_or (a b:Nat) (ha:a < 18446744073709551616) (hb:b < 18446744073709551616):bits .or .u64 (a:Int) (b:Int) = ((a ||| b:Nat):Int):=
 (bits_nat .u64 64 (by decide) wraps_u64 a b (by omega) (by omega)).2
theorem mulpow_cast (a s:Nat):(a:Int) * 2 ^ s = ((a * 2 ^ s:Nat):Int):=by simp
theorem divpow_cast (a s:Nat):(a:Int) / 2 ^ s = ((a / 2 ^ s:Nat):Int):=by simp
theorem wrap_nat {a:Nat} (h:a < 18446744073709551616):IntKind.u64.wrap (a:Int) = (a:Int):=by rw [IntKind.wrap_u64];omega
theorem wrap_rest {A Q n R:Nat} (h:Q + R = A + n) (hR:R < 18446744073709551616):IntKind.u64.wrap (IntKind.u64.wrap (IntKind.u64.wrap (A:Int) + (n:Int)) - IntKind.u64.wrap (Q:Int)) = (R:Int):=by
 simp only [IntKind.wrap_u64];omega
def DivLp (y1 y0 U n1:Nat) (vq vr:Value):Prop := ∃ q r:Nat,vq = .int .u64 q ∧ vr = .int .u64 r ∧ KInv y1 y0 U n1 q r
def DivEnd (y1 y0 U n1:Nat) (vq:Value):Prop := ∃ q:Nat,vq = .int .u64 q ∧ KFin y1 y0 U n1 q
set_option maxRecDepth 100000 in
set_option maxHeartbeats 6400000 in
theorem div64_calls (w:World) (hi lo y:Nat) (hhi:hi < y) (hlo:lo < 18446744073709551616) (hy:y < 9223372036854775808) :
  Calls Tryz.prog 173 #[.int .u64 hi,.int .u64 lo,.int .u64 y] w fun e w'=>e = .returned (.tuple #[.int .u64 (((hi * 18446744073709551616 + lo) / y:Nat):Int),.int .u64 (((hi * 18446744073709551616 + lo) % y:Nat):Int)]) ∧ Below w.heap.size w w':=by
 have hy0:¬ y = 0:=by omega
 have hyb:((y:Int) == 0) = false:=by simp;omega
 have hle:¬ (y:Int) ≤ hi:=by omega
 by_cases hz:hi = 0
 ·subst hz
  rw [Nat.zero_mul,Nat.zero_add]
  have hyi:¬ (y:Int) = 0:=by omega
  have E1:IntKind.u64.wrap ((lo:Int) / (y:Int)) = ((lo / y:Nat):Int):=by rw [← Int.natCast_ediv];exact wrap_nat (Nat.lt_of_le_of_lt (Nat.div_le_self _ _) hlo)
  go_enter Tryz.func173,Tryz.ntmps173
  go_wp2
  go_quiet (fail)
  go_wp2
  go_ret2
  exact ⟨by simp,drewB (Below.refl _ _) _⟩
 ·have hzb:((hi:Int) == 0) = false:=by simp;omega
  obtain ⟨s,hs1,hs63,hs,hn1,hn2⟩:=norm_shift (by omega:0 < y) hy
  have hs' : (64:Int) - (Lib.bitLen ((y:Int)).toNat:Int) = (s:Int):=by rw [Int.toNat_natCast];exact hs
  have Hs:=Lib.hid hs'
  obtain ⟨g1,g2,g3⟩:=shifted hs1 hs63 hhi hlo hn2
  have hps:0 < 2 ^ s:=Nat.pow_pos (by decide)
  have hH:hi * 2 ^ s < 18446744073709551616:=Nat.lt_of_le_of_lt (Nat.le_add_right _ _) (Nat.lt_trans g2 hn2)
  have hL:lo / 2 ^ (64 - s) < 18446744073709551616:=Nat.lt_of_le_of_lt (Nat.div_le_self _ _) hlo
  obtain ⟨Y,hY⟩ : ∃ Y,Y = y * 2 ^ s:=⟨_,rfl⟩
  obtain ⟨U,hU⟩ : ∃ U,U = hi * 2 ^ s + lo / 2 ^ (64 - s):=⟨_,rfl⟩
  obtain ⟨N,hN⟩ : ∃ N,N = lo * 2 ^ s % 18446744073709551616:=⟨_,rfl⟩
  obtain ⟨H,hHe⟩ : ∃ H,H = hi * 2 ^ s:=⟨_,rfl⟩
  obtain ⟨L,hLe⟩ : ∃ L,L = lo / 2 ^ (64 - s):=⟨_,rfl⟩
  obtain ⟨y1,hy1⟩ : ∃ a,a = Y / 4294967296:=⟨_,rfl⟩
  obtain ⟨y0,hy0'⟩ : ∃ a,a = Y % 4294967296:=⟨_,rfl⟩
  obtain ⟨n1,hn1'⟩ : ∃ a,a = N / 4294967296:=⟨_,rfl⟩
  obtain ⟨n0,hn0'⟩ : ∃ a,a = N % 4294967296:=⟨_,rfl⟩
  have E1:IntKind.u64.wrap ((y:Int) * 2 ^ s) = (Y:Int):=by rw [mulpow_cast,← hY];exact wrap_nat (by omega)
  have E2:(Y:Int) / 4294967296 = (y1:Int):=by omega
  have E3:bits BinOp.and IntKind.u64 (Y:Int) 4294967295 = (y0:Int):=by rw [u64_and32 Y (by omega),← hy0']
  have E4:IntKind.u64.wrap ((hi:Int) * 2 ^ s) = (H:Int):=by rw [mulpow_cast,← hHe];exact wrap_nat (by omega)
  have E5:(lo:Int) / 2 ^ (64 - s) = (L:Int):=by rw [divpow_cast,← hLe]
  have E6:bits BinOp.or IntKind.u64 (H:Int) (L:Int) = (U:Int):=by rw [u64_or _ _ (by omega) (by omega),hHe,hLe,g1,← hU]
  have E7:IntKind.u64.wrap ((lo:Int) * 2 ^ s) = (N:Int):=by rw [mulpow_cast,IntKind.wrap_u64,hN];omega
  have E8:(N:Int) / 4294967296 = (n1:Int):=by omega
  have E9:bits BinOp.and IntKind.u64 (N:Int) 4294967295 = (n0:Int):=by rw [u64_and32 N (by omega),← hn0']
  have hUY:U < Y:=by omega
  have hY64:Y < 18446744073709551616:=by omega
  have hYe:Y = y1 * 4294967296 + y0:=by omega
  have hNe:N = n1 * 4294967296 + n0:=by omega
  have hK:=k_start (y1:=y1) (y0:=y0) (U:=U) (n1:=n1) (by omega) (by omega) (by omega) (by omega) (by omega)
  obtain ⟨q0,hq0⟩ : ∃ q,q = U / y1:=⟨_,rfl⟩
  obtain ⟨r0,hr0⟩ : ∃ r,r = U % y1:=⟨_,rfl⟩
  rw [← hq0,← hr0] at hK
  have E10:(U:Int) / (y1:Int) = (q0:Int):=by rw [hq0];exact (Int.natCast_ediv _ _).symm
  have hqr:q0 * y1 + r0 = U:=hK.inv
  have E13:IntKind.u64.wrap (q0:Int) = (q0:Int):=wrap_nat (by have:=hK.qhi;omega)
  have E11:IntKind.u64.wrap ((q0:Int) * (y1:Int)) = (q0:Int) * (y1:Int):=by rw [← Int.natCast_mul];exact wrap_nat (by omega)
  have E12:IntKind.u64.wrap ((U:Int) - (q0:Int) * (y1:Int)) = (r0:Int):=by rw [← Int.natCast_mul,IntKind.wrap_u64];omega
  have hy1n:¬ (y1:Int) = 0:=by omega
  have Hfacts:=Lib.hid (show (U * 18446744073709551616 + N = (hi * 18446744073709551616 + lo) * 2 ^ s) ∧ Y = y * 2 ^ s ∧ Y = y1 * 4294967296 + y0 ∧ N = n1 * 4294967296 + n0 ∧ 2147483648 ≤ y1 ∧ y1 < 4294967296 ∧ y0 < 4294967296 ∧ n1 < 4294967296 ∧ n0 < 4294967296 ∧ Y < 18446744073709551616 ∧ U < Y from ⟨by rw [hU,hN];exact g3,hY,hYe,hNe,by omega,by omega,by omega,by omega,by omega,hY64,hUY⟩)
  have HK:=Lib.hid hK
  have hs64:(s:Int) ≤ 63:=by omega
  clear hs hs' hn1 hn2 g1 g2 g3 hps hH hL hY hU hN hHe hLe hy1 hy0' hn1' hn0' hK hqr hUY hY64 hYe hNe hq0 hr0 hhi
  go_enter Tryz.func173,Tryz.ntmps173
  go_upto_block 0 with (first | ((go_at_call 195);(refine (Tryz.bits_LeadingZeros64 _ _ (by omega) (by omega)).mono ?_);(rintro e w' ⟨rfl,hw'⟩);(obtain rfl:=hw');(rw [Hs.out])))
  go_cut [15,16] from 67 to 86 (fun v15 v16 wx=>DivEnd y1 y0 U n1 v15 ∧ wx = w')
  case first=>
   clear E1 E2 E3 E4 E5 E6 E7 E8 E9 E10 E11 E12 E13
   go_wp2_with fail
   go_loop [15,16] (fun v15 v16=>DivLp y1 y0 U n1 v15 v16) (fun v _=>(intOf v).toNat)
   case atStart=>exact ⟨q0,r0,rfl,rfl,HK.out⟩
   case round=>
    obtain ⟨q,r,rfl,rfl,hK⟩:=hrel
    have hql:=hK.qhi
    have hrl:=hK.rhi
    have hyl:=hK.y1hi
    have hnl:=hK.n1hi
    have hm:q * y0 ≤ 18446744073709551615:=Nat.le_trans (Nat.mul_le_mul hql (by have:=hK.y0hi;omega:y0 ≤ 4294967295)) (by omega)
    have Em:IntKind.u64.wrap ((q:Int) * (y0:Int)) = ((q * y0:Nat):Int):=by rw [← Int.natCast_mul];exact wrap_nat (by omega)
    have HK2:=Lib.hid hK
    generalize hP:q * y0 = P at Em hm
    have HP:=Lib.hid hP
    clear hK hP HK Hfacts
    by_cases hc:4294967296 ≤ q ∨ 4294967296 * r + n1 < P
    ·have HC:Hid (4294967296 ≤ q ∨ 4294967296 * r + n1 < q * y0):=by rw [HP.out];exact hc
     have hq1:1 ≤ q:=(k_down HK2.out HC.out).1
     have hcs:(4294967296:Int) ≤ q ∨ (¬ (4294967296:Int) ≤ q ∧ (4294967296:Int) * r + n1 < P):=by omega
     clear hc
     by_cases hbr:4294967296 ≤ r + y1
     ·have HE:Hid (DivEnd y1 y0 U n1 (.int .u64 ((q:Int) - 1))):=⟨q - 1,by rw [show ((q - 1:Nat):Int) = (q:Int) - 1 from by omega],k_break HK2.out HC.out hbr⟩
      have hbr' : (4294967296:Int) ≤ (r:Int) + y1:=by omega
      clear hbr
      rcases hcs with h1 | ⟨h1,h2⟩
      ·go_wp2
       go_meet
       case rel=>exact ⟨HE.out,rfl⟩
      ·go_wp2
       go_meet
       case rel=>exact ⟨HE.out,rfl⟩
     ·have HN:Hid (DivLp y1 y0 U n1 (.int .u64 ((q:Int) - 1)) (.int .u64 ((r:Int) + y1))):=⟨q - 1,r + y1,by rw [show ((q - 1:Nat):Int) = (q:Int) - 1 from by omega],rfl,k_next HK2.out HC.out (by omega)⟩
      have hbr' : ¬ (4294967296:Int) ≤ (r:Int) + y1:=by omega
      clear hbr
      rcases hcs with h1 | ⟨h1,h2⟩
      ·go_wp2
       go_round
       case rel=>exact HN.out
       case measure=>simp [intOf];omega
      ·go_wp2
       go_round
       case rel=>exact HN.out
       case measure=>simp [intOf];omega
    ·have h1:¬ 4294967296 ≤ q:=fun h=>hc (.inl h)
     have h2:¬ 4294967296 * r + n1 < P:=fun h=>hc (.inr h)
     have HE:Hid (DivEnd y1 y0 U n1 (.int .u64 (q:Int))):=⟨q,rfl,k_stop HK2.out (by omega) (by rw [HP.out];omega)⟩
     have h1' : ¬ (4294967296:Int) ≤ q:=by omega
     have h2' : ¬ (4294967296:Int) * r + n1 < P:=by omega
     clear hc h1 h2
     go_wp2
     go_meet
     case rel=>exact ⟨HE.out,rfl⟩
  case rest=>
   obtain ⟨⟨q1,rfl,hF1⟩,rfl⟩:=hcut
   have HF1:=Lib.hid hF1
   clear E1 E2 E3 E4 E5 E6 E7 E8 E9 E10 E11 E12 E13 HK hF1
   obtain ⟨R,hR⟩ : ∃ R,R = (U * 4294967296 + n1) % Y:=⟨_,rfl⟩
   obtain ⟨f1,f2,f3,f4,f5,f6,f7,f8,f9,f10,f11⟩:=Hfacts.out
   have hRY:R < Y:=by rw [hR];exact Nat.mod_lt _ (by omega)
   have hQR:q1 * Y + R = U * 4294967296 + n1:=by
    have h1:=HF1.out.le
    have h2:=HF1.out.rest
    rw [← f3,← hR] at h2
    rw [← f3] at h1
    omega
   obtain ⟨A,hA⟩ : ∃ A,A = U * 4294967296 % 18446744073709551616:=⟨_,rfl⟩
   obtain ⟨B,hB⟩ : ∃ B,B = (A + n1) % 18446744073709551616:=⟨_,rfl⟩
   obtain ⟨C,hC⟩ : ∃ C,C = q1 * Y % 18446744073709551616:=⟨_,rfl⟩
   have F1:IntKind.u64.wrap ((U:Int) * 4294967296) = (A:Int):=by rw [IntKind.wrap_u64,hA];omega
   have F2:IntKind.u64.wrap ((A:Int) + (n1:Int)) = (B:Int):=by rw [IntKind.wrap_u64,hB];omega
   have F3:IntKind.u64.wrap ((q1:Int) * (Y:Int)) = (C:Int):=by rw [← Int.natCast_mul,IntKind.wrap_u64,hC];omega
   have F4:IntKind.u64.wrap ((B:Int) - (C:Int)) = (R:Int):=by
    rw [IntKind.wrap_u64]
    generalize q1 * Y = Q at hC hQR
    omega
   have hK:=k_start (y1:=y1) (y0:=y0) (U:=R) (n1:=n0) f5 f6 f7 f9 (by omega)
   obtain ⟨g0,hg0⟩ : ∃ q,q = R / y1:=⟨_,rfl⟩
   obtain ⟨r1,hr1⟩ : ∃ r,r = R % y1:=⟨_,rfl⟩
   rw [← hg0,← hr1] at hK
   have E10:(R:Int) / (y1:Int) = (g0:Int):=by rw [hg0];exact (Int.natCast_ediv _ _).symm
   have hqr:g0 * y1 + r1 = R:=hK.inv
   have E13:IntKind.u64.wrap (g0:Int) = (g0:Int):=wrap_nat (by have:=hK.qhi;omega)
   have E11:IntKind.u64.wrap ((g0:Int) * (y1:Int)) = (g0:Int) * (y1:Int):=by rw [← Int.natCast_mul];exact wrap_nat (by omega)
   have E12:IntKind.u64.wrap ((R:Int) - (g0:Int) * (y1:Int)) = (r1:Int):=by rw [← Int.natCast_mul,IntKind.wrap_u64];omega
   have HK:=Lib.hid hK
   have HR:=Lib.hid hR
   clear f1 f2 f3 f4 f5 f6 f7 f8 f9 f10 f11 hRY hQR hA hB hC hK hg0 hr1 hqr hR
   go_upto_block 2 with fail
   go_cut [18,16] from 102 to 121 (fun v18 v16 wx=>DivEnd y1 y0 R n0 v18 ∧ wx = wc)
   case first=>
    clear E10 E11 E12 E13 F1 F2 F3 F4
    go_wp2_with fail
    go_loop [18,16] (fun v18 v16=>DivLp y1 y0 R n0 v18 v16) (fun v _=>(intOf v).toNat)
    case atStart=>exact ⟨g0,r1,rfl,rfl,HK.out⟩
    case round=>
     obtain ⟨q,r,rfl,rfl,hK⟩:=hrel
     have hql:=hK.qhi
     have hrl:=hK.rhi
     have hyl:=hK.y1hi
     have hnl:=hK.n1hi
     have hm:q * y0 ≤ 18446744073709551615:=Nat.le_trans (Nat.mul_le_mul hql (by have:=hK.y0hi;omega:y0 ≤ 4294967295)) (by omega)
     have Em:IntKind.u64.wrap ((q:Int) * (y0:Int)) = ((q * y0:Nat):Int):=by rw [← Int.natCast_mul];exact wrap_nat (by omega)
     have HK2:=Lib.hid hK
     generalize hP:q * y0 = P at Em hm
     have HP:=Lib.hid hP
     clear hK hP HK Hfacts HF1 HR
     by_cases hc:4294967296 ≤ q ∨ 4294967296 * r + n0 < P
     ·have HC:Hid (4294967296 ≤ q ∨ 4294967296 * r + n0 < q * y0):=by rw [HP.out];exact hc
      have hq1:1 ≤ q:=(k_down HK2.out HC.out).1
      have hcs:(4294967296:Int) ≤ q ∨ (¬ (4294967296:Int) ≤ q ∧ (4294967296:Int) * r + n0 < P):=by omega
      clear hc
      by_cases hbr:4294967296 ≤ r + y1
      ·have HE:Hid (DivEnd y1 y0 R n0 (.int .u64 ((q:Int) - 1))):=⟨q - 1,by rw [show ((q - 1:Nat):Int) = (q:Int) - 1 from by omega],k_break HK2.out HC.out hbr⟩
       have hbr' : (4294967296:Int) ≤ (r:Int) + y1:=by omega
       clear hbr
       rcases hcs with h1 | ⟨h1,h2⟩
       ·go_wp2
        go_meet
        case rel=>exact ⟨HE.out,rfl⟩
       ·go_wp2
        go_meet
        case rel=>exact ⟨HE.out,rfl⟩
      ·have HN:Hid (DivLp y1 y0 R n0 (.int .u64 ((q:Int) - 1)) (.int .u64 ((r:Int) + y1))):=⟨q - 1,r + y1,by rw [show ((q - 1:Nat):Int) = (q:Int) - 1 from by omega],rfl,k_next HK2.out HC.out (by omega)⟩
       have hbr' : ¬ (4294967296:Int) ≤ (r:Int) + y1:=by omega
       clear hbr
       rcases hcs with h1 | ⟨h1,h2⟩
       ·go_wp2
        go_round
        case rel=>exact HN.out
        case measure=>simp [intOf];omega
       ·go_wp2
        go_round
        case rel=>exact HN.out
        case measure=>simp [intOf];omega
     ·have h1:¬ 4294967296 ≤ q:=fun h=>hc (.inl h)
      have h2:¬ 4294967296 * r + n0 < P:=fun h=>hc (.inr h)
      have HE:Hid (DivEnd y1 y0 R n0 (.int .u64 (q:Int))):=⟨q,rfl,k_stop HK2.out (by omega) (by rw [HP.out];omega)⟩
      have h1' : ¬ (4294967296:Int) ≤ q:=by omega
      have h2' : ¬ (4294967296:Int) * r + n0 < P:=by omega
      clear hc h1 h2
      go_wp2
      go_meet
      case rel=>exact ⟨HE.out,rfl⟩
   case rest=>
    obtain ⟨⟨q2,rfl,hF2⟩,hw⟩:=hcut
    subst hw
    have HF2:=Lib.hid hF2
    clear E10 E11 E12 E13 F1 F2 F3 F4 HK hF2
    obtain ⟨f1,f2,f3,f4,f5,f6,f7,f8,f9,f10,f11⟩:=Hfacts.out
    obtain ⟨T,hT⟩ : ∃ T,T = (R * 4294967296 + n0) % Y:=⟨_,rfl⟩
    have hTY:T < Y:=by rw [hT];exact Nat.mod_lt _ (by omega)
    have hQT:q2 * Y + T = R * 4294967296 + n0:=by
     have h1:=HF2.out.le
     have h2:=HF2.out.rest
     rw [← f3,← hT] at h2
     rw [← f3] at h1
     omega
    have hb1:=HF1.out.lt
    have hb2:=HF2.out.lt
    obtain ⟨A,hA⟩ : ∃ A,A = R * 4294967296 % 18446744073709551616:=⟨_,rfl⟩
    obtain ⟨B,hB⟩ : ∃ B,B = (A + n0) % 18446744073709551616:=⟨_,rfl⟩
    obtain ⟨C,hC⟩ : ∃ C,C = q2 * Y % 18446744073709551616:=⟨_,rfl⟩
    have F1:IntKind.u64.wrap ((R:Int) * 4294967296) = (A:Int):=by rw [IntKind.wrap_u64,hA];omega
    have F2:IntKind.u64.wrap ((A:Int) + (n0:Int)) = (B:Int):=by rw [IntKind.wrap_u64,hB];omega
    have F3:IntKind.u64.wrap ((q2:Int) * (Y:Int)) = (C:Int):=by rw [← Int.natCast_mul,IntKind.wrap_u64,hC];omega
    have F4:IntKind.u64.wrap ((B:Int) - (C:Int)) = (T:Int):=by
     rw [IntKind.wrap_u64]
     generalize q2 * Y = Q at hC hQT
     omega
    have Hfin:Hid (q1 * 4294967296 + q2 = (hi * 18446744073709551616 + lo) / y ∧ T / 2 ^ s = (hi * 18446744073709551616 + lo) % y):=by
     have hF2:=HF2.out
     rw [HR.out] at hF2 hT
     obtain ⟨d1,d2⟩:=div_two f3 f4 f9 f5 HF1.out hF2
     have hps:0 < 2 ^ s:=Nat.pow_pos (by decide)
     refine ⟨?_,?_⟩
     ·rw [d1,f1,f2,Nat.mul_div_mul_right _ _ hps]
     ·rw [hT,d2,f1,f2,Nat.mul_mod_mul_right,Nat.mul_div_cancel _ hps]
    obtain ⟨M,hM⟩ : ∃ M,M = (hi * 18446744073709551616 + lo) % y:=⟨_,rfl⟩
    have F5:(T:Int) / 2 ^ s = (M:Int):=by rw [divpow_cast,Hfin.out.2,hM]
    have HM:=Lib.hid hM
    have Hq:Hid ((((hi * 18446744073709551616 + lo) / y:Nat):Int) = (q1:Int) * 4294967296 + q2):=by
     show _ = _
     rw [← Hfin.out.1];omega
    clear f1 f2 f3 f4 f5 f6 f7 f8 f9 f10 f11 hTY hQT hA hB hC hT Hfacts HF1 HF2 Hfin HR hM
    go_wp2
    go_ret2
    rw [Hq.out,← HM.out]
    exact ⟨rfl,Below.refl _ _⟩
end Go.Proofs.YtpfkkagkbneilaaGreatDoor
