/-
  DERIVED: THE SHELF's CONTRACTS AT THIS DUMP, IN PLAIN WORDS (tools/lay-plain.mjs out of 'TryzShelf.lean', which tools/lay-shelf.mjs wrote): THE SAME DECLARATIONS UNDER THE SAME NAMES: 'import', 'namespace', 'open', 'def', 'theorem' AND NOTHING ELSE: no command of the shelf's: FOR A HAND-IN. Each laying: the table of numbers ('.._ren') and one theorem, a field a fact of the dump's own or the kernel's comparison; each contract: ONE APPLICATION.
-/
import Derived.Shelf.Strings.Builder1
import Derived.Shelf.Strings.Builder2
import Derived.Shelf.Strings.OnBuilder
import Derived.Shelf.Strings.Trim
import Derived.Shelf.Small.Utf8
import Derived.Shelf.Small.Bits
import Derived.Shelf.Small.Strs
import Derived.Shelf.Small.Wraps
import Derived.Shelf.Strings.BuilderF
import Derived.Shelf.Strings.BuilderK
import Derived.Shelf.Strings.Builder2Cap
import Derived.Shelf.Strconv.Atoi
import Derived.Shelf.Strconv.Itoa0
import Derived.Shelf.Strconv.Itoa1
import Derived.Shelf.LaysM
import Derived.Shelf.Strconv.Itoa2
import Derived.Shelf.Strconv.Itoa3
import Derived.Shelf.Strconv.AtoiErrFast
import Derived.Shelf.Strconv.ParseIntEmpty
import Derived.Shelf.Strconv.AtoiFail
import Derived.Shelf.Strconv.Clone
import Derived.Shelf.Strconv.SyntaxError
import Derived.Shelf.LaysC
import Derived.Shelf.Strconv.ToError
import Derived.Shelf.Strconv.Lower
import Derived.Shelf.Strconv.ParseUint10
import Derived.Shelf.Strconv.ParseUint10Empty
import Derived.Shelf.Strconv.ParseUint10Any
import Derived.Shelf.Strconv.ParseInt10
import Derived.Shelf.Strconv.AtoiLong
import Derived.Shelf.Strconv.AtoiInnerAll
import Derived.Shelf.Strconv.RangeError
import Derived.Shelf.Strconv.ToErrorRange
import Derived.Shelf.Strconv.AtoiAll
import Derived.Shelf.Strconv.ErrVarAll
import Derived.Ground.MpProg
import Derived.Shelf.Pu.ParseUintPublic10
import Derived.Shelf.Pu.ErrVarParseUint
import Derived.Shelf.Strings.Search1
import Derived.Shelf.Strings.Search2
import Derived.Shelf.Strings.Search3
import Derived.Shelf.Strings.Cut
import Derived.Shelf.Strings.Count
import Derived.Shelf.Strings.Shaped
import Derived.Shelf.Strings.Prefix
import Derived.Shelf.Strings.Split
import Derived.Shelf.Strings.Replace
import Derived.Shelf.Strings.SplitShaped
import Derived.Shelf.Unicode.Decode
import Derived.Shelf.Strings.Runes
import Derived.Shelf.Strings.RuneCount
import Derived.Shelf.Strings.AsciiSet
import Derived.Shelf.Strings.Explode
import Derived.Shelf.Bits.Mul64
import Derived.Shelf.Strings.Repeat
import Derived.Shelf.Unicode.DecodeSlow
import Derived.Shelf.Strings.BuilderCap
import Derived.Shelf.Slices.Turned
import Derived.Shelf.Slices.Equal
import Derived.Ground.Names2Prog
import Derived.Shelf.Slices.ReverseS
import Derived.Shelf.Slices.Clone
import Derived.Shelf.Slices.CompactS
import Derived.Shelf.Slices.Cells
import Derived.Ground.SlsfProg
import Derived.Shelf.SlSortCmp.Insertion
import Derived.Shelf.SlSortCmp.SiftDown1
import Derived.Shelf.SlSortCmp.HeapSort1
import Derived.Shelf.SlSortCmp.Insertion1
import Derived.Shelf.SlSortCmp.Median1
import Derived.Shelf.SlSortCmp.Pivot1
import Derived.Shelf.SlSortCmp.ReverseRange1
import Derived.Shelf.SlSortCmp.PartialInsertion1
import Derived.Shelf.SlSortCmp.PartitionEqual1
import Derived.Shelf.SlSortCmp.Partition1
import Derived.Test.YthcmfnkganacaaaGreatDoorProg
set_option linter.unusedVariables false
set_option linter.unusedSimpArgs false
namespace Go.Proofs
open Go.Shelf
def Tryz.lays169_ren:Go.Shelf.Ren:=⟨fun | 169=>112 | n=>n,fun | 70=>194 | 9=>9 | 0=>0 | 72=>197 | 37=>195 | 127=>283 | 3=>3 | 5=>5 | n=>n,fun | n=>n⟩
theorem Tryz.lays169:Go.Proofs.Lays.n169 Tryz.prog Tryz.lays169_ren:={
 mixed:=by kernel_rfl
 f169:=Tryz.func112.trans (congrArg some (by kernel_rfl))
 t0:=Tryz.underlying0
 a0:=Tryz.isAgg0
 z0:=Tryz.sizeOf0
 v0:=Tryz.zeroValue0
 t3:=Tryz.underlying3
 a3:=Tryz.isAgg3
 z3:=Tryz.sizeOf3
 v3:=Tryz.zeroValue3
 t9:=Tryz.underlying9
 a9:=Tryz.isAgg9
 z9:=Tryz.sizeOf9
 v9:=Tryz.zeroValue9
 t37:=Tryz.underlying195
 a37:=Tryz.isAgg195
 z37:=Tryz.sizeOf195
 v37:=Tryz.zeroValue195
 t70:=Tryz.underlying194
 a70:=Tryz.isAgg194
 z70:=Tryz.sizeOf194
 v70:=Tryz.zeroValue194
 t72:=Tryz.underlying197
 a72:=Tryz.isAgg197
 z72:=Tryz.sizeOf197
 v72:=Tryz.zeroValue197
 t127:=Tryz.underlying283
 a127:=Tryz.isAgg283
 z127:=Tryz.sizeOf283
 v127:=Tryz.zeroValue283 }
theorem Tryz.Builder_Extra_169:Builder.Extra Tryz.prog Tryz.lays169_ren:={
 sizeBuilder:=by kernel_rfl
 liesBuilder:=by kernel_rfl
 t5:=Tryz.underlying5
 a5:=Tryz.isAgg5
 z5:=Tryz.sizeOf5
 v5:=Tryz.zeroValue5
 infoByte:=by kernel_rfl
 cellsByte:=by kernel_rfl
 sizeByte:=by kernel_rfl
 neB5:=by decide }
def Tryz.lays156_ren:Go.Shelf.Ren:=⟨fun | 156=>55 | 165=>110 | 166=>111 | 169=>112 | 240=>188 | 241=>189 | 276=>305 | 277=>306 | n=>n,fun | 31=>30 | 9=>9 | 3=>3 | 4=>4 | 0=>0 | 20=>20 | 72=>197 | 76=>201 | 70=>194 | 37=>195 | 75=>200 | 127=>283 | 164=>381 | 5=>5 | 80=>203 | n=>n,fun | n=>n⟩
theorem Tryz.lays156:Go.Proofs.Lays.n156 Tryz.prog Tryz.lays156_ren:={
 mixed:=by kernel_rfl
 f156:=Tryz.func55.trans (congrArg some (by kernel_rfl))
 f165:=Tryz.func110.trans (congrArg some (by kernel_rfl))
 f166:=Tryz.func111.trans (congrArg some (by kernel_rfl))
 f169:=Tryz.func112.trans (congrArg some (by kernel_rfl))
 f240:=Tryz.func188.trans (congrArg some (by kernel_rfl))
 f241:=Tryz.func189.trans (congrArg some (by kernel_rfl))
 f276:=Tryz.func305.trans (congrArg some (by kernel_rfl))
 f277:=Tryz.func306.trans (congrArg some (by kernel_rfl))
 t0:=Tryz.underlying0
 a0:=Tryz.isAgg0
 z0:=Tryz.sizeOf0
 v0:=Tryz.zeroValue0
 t3:=Tryz.underlying3
 a3:=Tryz.isAgg3
 z3:=Tryz.sizeOf3
 v3:=Tryz.zeroValue3
 t4:=Tryz.underlying4
 a4:=Tryz.isAgg4
 z4:=Tryz.sizeOf4
 v4:=Tryz.zeroValue4
 t9:=Tryz.underlying9
 a9:=Tryz.isAgg9
 z9:=Tryz.sizeOf9
 v9:=Tryz.zeroValue9
 t20:=Tryz.underlying20
 a20:=Tryz.isAgg20
 z20:=Tryz.sizeOf20
 v20:=Tryz.zeroValue20
 t31:=Tryz.underlying30
 a31:=Tryz.isAgg30
 z31:=Tryz.sizeOf30
 v31:=Tryz.zeroValue30
 t37:=Tryz.underlying195
 a37:=Tryz.isAgg195
 z37:=Tryz.sizeOf195
 v37:=Tryz.zeroValue195
 t70:=Tryz.underlying194
 a70:=Tryz.isAgg194
 z70:=Tryz.sizeOf194
 v70:=Tryz.zeroValue194
 t72:=Tryz.underlying197
 a72:=Tryz.isAgg197
 z72:=Tryz.sizeOf197
 v72:=Tryz.zeroValue197
 t75:=Tryz.underlying200
 a75:=Tryz.isAgg200
 z75:=Tryz.sizeOf200
 v75:=Tryz.zeroValue200
 t76:=Tryz.underlying201
 a76:=Tryz.isAgg201
 z76:=Tryz.sizeOf201
 v76:=Tryz.zeroValue201
 t127:=Tryz.underlying283
 a127:=Tryz.isAgg283
 z127:=Tryz.sizeOf283
 v127:=Tryz.zeroValue283
 t164:=Tryz.underlying381
 a164:=Tryz.isAgg381
 z164:=Tryz.sizeOf381
 v164:=Tryz.zeroValue381 }
theorem Tryz.Builder_Extra_156:Builder.Extra Tryz.prog Tryz.lays156_ren:={
 sizeBuilder:=by kernel_rfl
 liesBuilder:=by kernel_rfl
 t5:=Tryz.underlying5
 a5:=Tryz.isAgg5
 z5:=Tryz.sizeOf5
 v5:=Tryz.zeroValue5
 infoByte:=by kernel_rfl
 cellsByte:=by kernel_rfl
 sizeByte:=by kernel_rfl
 neB5:=by decide }
open Go.RowKit in
theorem Tryz.strings_Join_none (a:Option Addr) (c:Nat) (sep:ByteArray) (w:World):
  Calls Tryz.prog 55 #[.slice a 0 c,.string sep] w fun e w' =>e= .returned (.string ⟨#[]⟩)∧w' =w:=Any.strings_Join_none Tryz.lays156 Tryz.Builder_Extra_156 a c sep w
open Go.RowKit in
theorem Tryz.strings_Join (bk o c:Nat) (xs:List ByteArray) (sep:ByteArray) (w:World) (hcells: ∀ (j:Nat) x,xs[j]? =some x→w.cell? ⟨bk,o+j,none⟩=some (.string x)) (hbk:bk<w.heap.size) (hN:xs.length≤140737488355328) (hcap:xs.length≤c) (hlen:(Lib.join (xs.map (·.data.toList)) sep.data.toList).length≤140737488355328):
  Calls Tryz.prog 55 #[.slice (some ⟨bk,o,none⟩) xs.length c,.string sep] w fun e w' =>e= .returned (.string ⟨(Lib.join (xs.map (·.data.toList)) sep.data.toList).toArray⟩)∧Below w.heap.size w w' :=Any.strings_Join Tryz.lays156 Tryz.Builder_Extra_156 bk o c xs sep w hcells hbk hN hcap hlen
def Tryz.lays161_ren:Go.Shelf.Ren:=⟨fun | 161=>420 | 231=>470 | 227=>192 | 233=>471 | 235=>472 | 228=>309 | 197=>180 | 151=>311 | 260=>284 | 152=>377 | 137=>429 | 119=>430 | 224=>321 | 225=>320 | 217=>319 | 266=>382 | n=>n,fun | 9=>9 | 4=>4 | 3=>3 | 5=>5 | 117=>288 | 116=>287 | 0=>0 | 124=>291 | 105=>276 | 21=>21 | 119=>433 | 46=>220 | 139=>436 | 138=>435 | n=>n,fun | 3=>1 | 4=>2 | n=>n⟩
def Tryz.lays162_ren:Go.Shelf.Ren:=⟨fun | 162=>115 | 232=>191 | 227=>192 | 234=>193 | 236=>194 | 228=>309 | 271=>310 | 151=>311 | 120=>376 | 197=>180 | 152=>377 | 260=>284 | 137=>429 | 119=>430 | 224=>321 | 225=>320 | 217=>319 | 266=>382 | n=>n,fun | 9=>9 | 4=>4 | 3=>3 | 5=>5 | 117=>288 | 116=>287 | 0=>0 | 124=>291 | 21=>21 | 105=>276 | 46=>220 | 119=>433 | 139=>436 | 138=>435 | n=>n,fun | 3=>1 | 4=>2 | n=>n⟩
theorem Tryz.lays162:Go.Proofs.Lays.n162 Tryz.prog Tryz.lays162_ren:={
 mixed:=by kernel_rfl
 f119:=Tryz.func430.trans (congrArg some (by kernel_rfl))
 f120:=Tryz.func376.trans (congrArg some (by kernel_rfl))
 f137:=Tryz.func429.trans (congrArg some (by kernel_rfl))
 f151:=Tryz.func311.trans (congrArg some (by kernel_rfl))
 f152:=Tryz.func377.trans (congrArg some (by kernel_rfl))
 f162:=Tryz.func115.trans (congrArg some (by kernel_rfl))
 f197:=Tryz.func180.trans (congrArg some (by kernel_rfl))
 f217:=Tryz.func319.trans (congrArg some (by kernel_rfl))
 f224:=Tryz.func321.trans (congrArg some (by kernel_rfl))
 f225:=Tryz.func320.trans (congrArg some (by kernel_rfl))
 f227:=Tryz.func192.trans (congrArg some (by kernel_rfl))
 f228:=Tryz.func309.trans (congrArg some (by kernel_rfl))
 f232:=Tryz.func191.trans (congrArg some (by kernel_rfl))
 f234:=Tryz.func193.trans (congrArg some (by kernel_rfl))
 f236:=Tryz.func194.trans (congrArg some (by kernel_rfl))
 f260:=Tryz.func284.trans (congrArg some (by kernel_rfl))
 f266:=Tryz.func382.trans (congrArg some (by kernel_rfl))
 f271:=Tryz.func310.trans (congrArg some (by kernel_rfl))
 t0:=Tryz.underlying0
 a0:=Tryz.isAgg0
 z0:=Tryz.sizeOf0
 v0:=Tryz.zeroValue0
 t3:=Tryz.underlying3
 a3:=Tryz.isAgg3
 z3:=Tryz.sizeOf3
 v3:=Tryz.zeroValue3
 t4:=Tryz.underlying4
 a4:=Tryz.isAgg4
 z4:=Tryz.sizeOf4
 v4:=Tryz.zeroValue4
 t5:=Tryz.underlying5
 a5:=Tryz.isAgg5
 z5:=Tryz.sizeOf5
 v5:=Tryz.zeroValue5
 t9:=Tryz.underlying9
 a9:=Tryz.isAgg9
 z9:=Tryz.sizeOf9
 v9:=Tryz.zeroValue9
 t21:=Tryz.underlying21
 a21:=Tryz.isAgg21
 z21:=Tryz.sizeOf21
 v21:=Tryz.zeroValue21
 t46:=Tryz.underlying220
 a46:=Tryz.isAgg220
 z46:=Tryz.sizeOf220
 v46:=Tryz.zeroValue220
 t105:=Tryz.underlying276
 a105:=Tryz.isAgg276
 z105:=Tryz.sizeOf276
 v105:=Tryz.zeroValue276
 t116:=Tryz.underlying287
 a116:=Tryz.isAgg287
 z116:=Tryz.sizeOf287
 t117:=Tryz.underlying288
 a117:=Tryz.isAgg288
 z117:=Tryz.sizeOf288
 v117:=Tryz.zeroValue288
 t119:=Tryz.underlying433
 a119:=Tryz.isAgg433
 z119:=Tryz.sizeOf433
 t124:=Tryz.underlying291
 a124:=Tryz.isAgg291
 z124:=Tryz.sizeOf291
 v124:=Tryz.zeroValue291
 t138:=Tryz.underlying435
 a138:=Tryz.isAgg435
 z138:=Tryz.sizeOf435
 v138:=Tryz.zeroValue435
 t139:=Tryz.underlying436
 a139:=Tryz.isAgg436
 z139:=Tryz.sizeOf436
 v139:=Tryz.zeroValue436
 g3:=by kernel_rfl
 g4:=by kernel_rfl }
def Tryz.lays160_ren:Go.Shelf.Ren:=⟨fun | 160=>431 | 232=>191 | 231=>470 | 227=>192 | 234=>193 | 233=>471 | 236=>194 | 235=>472 | 228=>309 | 271=>310 | 151=>311 | 197=>180 | 120=>376 | 152=>377 | 260=>284 | 137=>429 | 119=>430 | 224=>321 | 225=>320 | 217=>319 | 266=>382 | n=>n,fun | 9=>9 | 4=>4 | 3=>3 | 5=>5 | 117=>288 | 116=>287 | 0=>0 | 124=>291 | 21=>21 | 105=>276 | 46=>220 | 119=>433 | 139=>436 | 138=>435 | n=>n,fun | 3=>1 | 4=>2 | n=>n⟩
theorem Tryz.lays160:Go.Proofs.Lays.n160 Tryz.prog Tryz.lays160_ren:={
 mixed:=by kernel_rfl
 f119:=Tryz.func430.trans (congrArg some (by kernel_rfl))
 f120:=Tryz.func376.trans (congrArg some (by kernel_rfl))
 f137:=Tryz.func429.trans (congrArg some (by kernel_rfl))
 f151:=Tryz.func311.trans (congrArg some (by kernel_rfl))
 f152:=Tryz.func377.trans (congrArg some (by kernel_rfl))
 f160:=Tryz.func431.trans (congrArg some (by kernel_rfl))
 f197:=Tryz.func180.trans (congrArg some (by kernel_rfl))
 f217:=Tryz.func319.trans (congrArg some (by kernel_rfl))
 f224:=Tryz.func321.trans (congrArg some (by kernel_rfl))
 f225:=Tryz.func320.trans (congrArg some (by kernel_rfl))
 f227:=Tryz.func192.trans (congrArg some (by kernel_rfl))
 f228:=Tryz.func309.trans (congrArg some (by kernel_rfl))
 f231:=Tryz.func470.trans (congrArg some (by kernel_rfl))
 f232:=Tryz.func191.trans (congrArg some (by kernel_rfl))
 f233:=Tryz.func471.trans (congrArg some (by kernel_rfl))
 f234:=Tryz.func193.trans (congrArg some (by kernel_rfl))
 f235:=Tryz.func472.trans (congrArg some (by kernel_rfl))
 f236:=Tryz.func194.trans (congrArg some (by kernel_rfl))
 f260:=Tryz.func284.trans (congrArg some (by kernel_rfl))
 f266:=Tryz.func382.trans (congrArg some (by kernel_rfl))
 f271:=Tryz.func310.trans (congrArg some (by kernel_rfl))
 t0:=Tryz.underlying0
 a0:=Tryz.isAgg0
 z0:=Tryz.sizeOf0
 v0:=Tryz.zeroValue0
 t3:=Tryz.underlying3
 a3:=Tryz.isAgg3
 z3:=Tryz.sizeOf3
 v3:=Tryz.zeroValue3
 t4:=Tryz.underlying4
 a4:=Tryz.isAgg4
 z4:=Tryz.sizeOf4
 v4:=Tryz.zeroValue4
 t5:=Tryz.underlying5
 a5:=Tryz.isAgg5
 z5:=Tryz.sizeOf5
 v5:=Tryz.zeroValue5
 t9:=Tryz.underlying9
 a9:=Tryz.isAgg9
 z9:=Tryz.sizeOf9
 v9:=Tryz.zeroValue9
 t21:=Tryz.underlying21
 a21:=Tryz.isAgg21
 z21:=Tryz.sizeOf21
 v21:=Tryz.zeroValue21
 t46:=Tryz.underlying220
 a46:=Tryz.isAgg220
 z46:=Tryz.sizeOf220
 v46:=Tryz.zeroValue220
 t105:=Tryz.underlying276
 a105:=Tryz.isAgg276
 z105:=Tryz.sizeOf276
 v105:=Tryz.zeroValue276
 t116:=Tryz.underlying287
 a116:=Tryz.isAgg287
 z116:=Tryz.sizeOf287
 t117:=Tryz.underlying288
 a117:=Tryz.isAgg288
 z117:=Tryz.sizeOf288
 v117:=Tryz.zeroValue288
 t119:=Tryz.underlying433
 a119:=Tryz.isAgg433
 z119:=Tryz.sizeOf433
 t124:=Tryz.underlying291
 a124:=Tryz.isAgg291
 z124:=Tryz.sizeOf291
 v124:=Tryz.zeroValue291
 t138:=Tryz.underlying435
 a138:=Tryz.isAgg435
 z138:=Tryz.sizeOf435
 v138:=Tryz.zeroValue435
 t139:=Tryz.underlying436
 a139:=Tryz.isAgg436
 z139:=Tryz.sizeOf436
 v139:=Tryz.zeroValue436
 g3:=by kernel_rfl
 g4:=by kernel_rfl }
def Tryz.lays213_ren:Go.Shelf.Ren:=⟨fun | 213=>214 | 265=>318 | n=>n,fun | 9=>9 | 3=>3 | n=>n,fun | n=>n⟩
def Tryz.lays106_ren:Go.Shelf.Ren:=⟨fun | 106=>135 | 213=>214 | 265=>318 | n=>n,fun | 9=>9 | 3=>3 | n=>n,fun | n=>n⟩
theorem Tryz.lays106:Go.Proofs.Lays.n106 Tryz.prog Tryz.lays106_ren:={
 mixed:=by kernel_rfl
 f106:=Tryz.func135.trans (congrArg some (by kernel_rfl))
 f213:=Tryz.func214.trans (congrArg some (by kernel_rfl))
 f265:=Tryz.func318.trans (congrArg some (by kernel_rfl))
 t3:=Tryz.underlying3
 a3:=Tryz.isAgg3
 z3:=Tryz.sizeOf3
 v3:=Tryz.zeroValue3
 t9:=Tryz.underlying9
 a9:=Tryz.isAgg9
 z9:=Tryz.sizeOf9
 v9:=Tryz.zeroValue9 }
open Go.RowKit in
theorem Tryz.strings_Compare (a b:ByteArray) (w:World):
  Calls Tryz.prog 135 #[.string a,.string b] w fun e w' =>e= .returned (.int .i64 (Lib.compareBytes a.data.toList b.data.toList))∧w' =w:=Any.strings_Compare Tryz.lays106 a b w
def Tryz.lays137_ren:Go.Shelf.Ren:=⟨fun | 137=>429 | 217=>319 | 266=>382 | n=>n,fun | 9=>9 | 5=>5 | 3=>3 | n=>n,fun | n=>n⟩
theorem Tryz.lays137:Go.Proofs.Lays.n137 Tryz.prog Tryz.lays137_ren:={
 mixed:=by kernel_rfl
 f137:=Tryz.func429.trans (congrArg some (by kernel_rfl))
 f217:=Tryz.func319.trans (congrArg some (by kernel_rfl))
 f266:=Tryz.func382.trans (congrArg some (by kernel_rfl))
 t3:=Tryz.underlying3
 a3:=Tryz.isAgg3
 z3:=Tryz.sizeOf3
 v3:=Tryz.zeroValue3
 t5:=Tryz.underlying5
 a5:=Tryz.isAgg5
 z5:=Tryz.sizeOf5
 v5:=Tryz.zeroValue5
 t9:=Tryz.underlying9
 a9:=Tryz.isAgg9
 z9:=Tryz.sizeOf9
 v9:=Tryz.zeroValue9 }
open Go.RowKit in
theorem Tryz.strings_IndexByte (s:ByteArray) (c:Int) (w:World):
  Calls Tryz.prog 429 #[.string s,.int .u8 c] w fun e w' =>e= .returned (.int .i64 (Lib.indexByte s.data.toList c.toNat.toUInt8))∧w' =w:=Any.strings_IndexByte Tryz.lays137 s c w
def Tryz.lays210_ren:Go.Shelf.Ren:=⟨fun | 210=>477 | 206=>198 | n=>n,fun | 9=>9 | 4=>4 | 3=>3 | n=>n,fun | n=>n⟩
def Tryz.lays103_ren:Go.Shelf.Ren:=⟨fun | 103=>436 | 210=>477 | 206=>198 | n=>n,fun | 9=>9 | 4=>4 | 24=>35 | 3=>3 | n=>n,fun | n=>n⟩
theorem Tryz.lays103:Go.Proofs.Lays.n103 Tryz.prog Tryz.lays103_ren:={
 mixed:=by kernel_rfl
 f103:=Tryz.func436.trans (congrArg some (by kernel_rfl))
 f206:=Tryz.func198.trans (congrArg some (by kernel_rfl))
 f210:=Tryz.func477.trans (congrArg some (by kernel_rfl))
 t3:=Tryz.underlying3
 a3:=Tryz.isAgg3
 z3:=Tryz.sizeOf3
 v3:=Tryz.zeroValue3
 t4:=Tryz.underlying4
 a4:=Tryz.isAgg4
 z4:=Tryz.sizeOf4
 v4:=Tryz.zeroValue4
 t9:=Tryz.underlying9
 a9:=Tryz.isAgg9
 z9:=Tryz.sizeOf9
 v9:=Tryz.zeroValue9
 t24:=Tryz.underlying35
 a24:=Tryz.isAgg35
 z24:=Tryz.sizeOf35
 v24:=Tryz.zeroValue35 }
open Go.RowKit in
theorem Tryz.strings_CutPrefix (s p:ByteArray) (w:World):
  Calls Tryz.prog 436 #[.string s,.string p] w fun e w' =>e= .returned (.tuple #[.string ⟨(Lib.trimPrefix s.data.toList p.data.toList).toArray⟩,.bool (Lib.hasPrefix s.data.toList p.data.toList)])∧w' =w:=Any.strings_CutPrefix Tryz.lays103 s p w
def Tryz.lays215_ren:Go.Shelf.Ren:=⟨fun | 215=>215 | n=>n,fun | 3=>3 | 4=>4 | n=>n,fun | n=>n⟩
def Tryz.lays122_ren:Go.Shelf.Ren:=⟨fun | 122=>136 | 215=>215 | n=>n,fun | 3=>3 | 4=>4 | n=>n,fun | n=>n⟩
theorem Tryz.lays122:Go.Proofs.Lays.n122 Tryz.prog Tryz.lays122_ren:={
 mixed:=by kernel_rfl
 f122:=Tryz.func136.trans (congrArg some (by kernel_rfl))
 f215:=Tryz.func215.trans (congrArg some (by kernel_rfl))
 t3:=Tryz.underlying3
 a3:=Tryz.isAgg3
 z3:=Tryz.sizeOf3
 v3:=Tryz.zeroValue3
 t4:=Tryz.underlying4
 a4:=Tryz.isAgg4
 z4:=Tryz.sizeOf4
 v4:=Tryz.zeroValue4 }
open Go.RowKit in
theorem Tryz.cmp_Compare_int (x y:Int) (w:World):
  Calls Tryz.prog 136 #[.int .i64 x,.int .i64 y] w fun e w' =>e= .returned (.int .i64 (Lib.compareInt x y))∧w' =w:=Any.cmp_Compare_int Tryz.lays122 x y w
def Tryz.lays172_ren:Go.Shelf.Ren:=⟨fun | 172=>138 | 244=>217 | 245=>218 | 247=>323 | 279=>324 | 280=>325 | 281=>326 | 282=>327 | 287=>384 | 316=>385 | 171=>139 | 205=>386 | 321=>439 | 322=>440 | 243=>219 | 246=>328 | 283=>387 | 284=>388 | 285=>389 | 286=>390 | 129=>213 | 317=>441 | 318=>442 | 319=>443 | 320=>444 | 337=>479 | 338=>480 | n=>n,fun | 9=>9 | 3=>3 | 75=>200 | 76=>201 | 4=>4 | 5=>5 | 167=>394 | 37=>195 | 0=>0 | 85=>395 | 2=>2 | 168=>397 | 53=>304 | 175=>448 | 46=>220 | 210=>451 | 127=>283 | 145=>484 | 143=>482 | 21=>21 | 171=>453 | 173=>455 | 212=>486 | 51=>23 | 20=>20 | 213=>487 | 232=>517 | 233=>518 | 80=>203 | n=>n,fun | 15=>3 | 16=>4 | 17=>5 | 18=>7 | 19=>8 | n=>n⟩
def Tryz.laysM246_ren:Go.Shelf.Ren:=⟨fun | 246=>328 | 283=>387 | 284=>388 | 285=>389 | 286=>390 | 129=>213 | 317=>441 | 318=>442 | 319=>443 | 320=>444 | 337=>479 | 338=>480 | n=>n,fun | 2=>2 | 3=>3 | 9=>9 | 4=>4 | 171=>453 | 0=>0 | 53=>304 | 37=>195 | 5=>5 | 173=>455 | 212=>486 | 51=>23 | 20=>20 | 213=>487 | 46=>220 | 232=>517 | 233=>518 | n=>n,fun | 17=>5 | 18=>7 | 19=>8 | n=>n⟩
def Tryz.laysM243_ren:Go.Shelf.Ren:=⟨fun | 243=>219 | 246=>328 | 283=>387 | 284=>388 | 285=>389 | 286=>390 | 129=>213 | 317=>441 | 318=>442 | 319=>443 | 320=>444 | 337=>479 | 338=>480 | n=>n,fun | 3=>3 | 9=>9 | 2=>2 | 4=>4 | 171=>453 | 0=>0 | 53=>304 | 37=>195 | 5=>5 | 173=>455 | 212=>486 | 51=>23 | 20=>20 | 213=>487 | 46=>220 | 232=>517 | 233=>518 | n=>n,fun | 17=>5 | 18=>7 | 19=>8 | n=>n⟩
def Tryz.laysM171_ren:Go.Shelf.Ren:=⟨fun | 171=>139 | 243=>219 | 246=>328 | 283=>387 | 284=>388 | 285=>389 | 286=>390 | 129=>213 | 317=>441 | 318=>442 | 319=>443 | 320=>444 | 337=>479 | 338=>480 | n=>n,fun | 3=>3 | 9=>9 | 2=>2 | 4=>4 | 171=>453 | 0=>0 | 53=>304 | 37=>195 | 5=>5 | 173=>455 | 212=>486 | 51=>23 | 20=>20 | 213=>487 | 46=>220 | 232=>517 | 233=>518 | n=>n,fun | 17=>5 | 18=>7 | 19=>8 | n=>n⟩
theorem Tryz.laysM171:Go.Proofs.LaysM.n171 Tryz.prog Tryz.laysM171_ren:={
 mixed:=by kernel_rfl
 f129:=Tryz.func213.trans (congrArg some (by kernel_rfl))
 f171:=Tryz.func139.trans (congrArg some (by kernel_rfl))
 f243:=Tryz.func219.trans (congrArg some (by kernel_rfl))
 f246:=Tryz.func328.trans (congrArg some (by kernel_rfl))
 f283:=Tryz.func387.trans (congrArg some (by kernel_rfl))
 f284:=Tryz.func388.trans (congrArg some (by kernel_rfl))
 f285:=Tryz.func389.trans (congrArg some (by kernel_rfl))
 f286:=Tryz.func390.trans (congrArg some (by kernel_rfl))
 f317:=Tryz.func441.trans (congrArg some (by kernel_rfl))
 f318:=Tryz.func442.trans (congrArg some (by kernel_rfl))
 f319:=Tryz.func443.trans (congrArg some (by kernel_rfl))
 f320:=Tryz.func444.trans (congrArg some (by kernel_rfl))
 f337:=Tryz.func479.trans (congrArg some (by kernel_rfl))
 f338:=Tryz.func480.trans (congrArg some (by kernel_rfl))
 t0:=Tryz.underlying0
 a0:=Tryz.isAgg0
 z0:=Tryz.sizeOf0
 v0:=Tryz.zeroValue0
 t2:=Tryz.underlying2
 a2:=Tryz.isAgg2
 z2:=Tryz.sizeOf2
 v2:=Tryz.zeroValue2
 t3:=Tryz.underlying3
 a3:=Tryz.isAgg3
 z3:=Tryz.sizeOf3
 v3:=Tryz.zeroValue3
 t4:=Tryz.underlying4
 a4:=Tryz.isAgg4
 z4:=Tryz.sizeOf4
 v4:=Tryz.zeroValue4
 t5:=Tryz.underlying5
 a5:=Tryz.isAgg5
 z5:=Tryz.sizeOf5
 v5:=Tryz.zeroValue5
 t9:=Tryz.underlying9
 a9:=Tryz.isAgg9
 z9:=Tryz.sizeOf9
 v9:=Tryz.zeroValue9
 t20:=Tryz.underlying20
 a20:=Tryz.isAgg20
 z20:=Tryz.sizeOf20
 v20:=Tryz.zeroValue20
 t37:=Tryz.underlying195
 a37:=Tryz.isAgg195
 z37:=Tryz.sizeOf195
 v37:=Tryz.zeroValue195
 t46:=Tryz.underlying220
 a46:=Tryz.isAgg220
 z46:=Tryz.sizeOf220
 v46:=Tryz.zeroValue220
 t51:=Tryz.underlying23
 a51:=Tryz.isAgg23
 z51:=Tryz.sizeOf23
 v51:=Tryz.zeroValue23
 t53:=Tryz.underlying304
 a53:=Tryz.isAgg304
 z53:=Tryz.sizeOf304
 v53:=Tryz.zeroValue304
 t171:=Tryz.underlying453
 a171:=Tryz.isAgg453
 z171:=Tryz.sizeOf453
 v171:=Tryz.zeroValue453
 t173:=Tryz.underlying455
 a173:=Tryz.isAgg455
 z173:=Tryz.sizeOf455
 v173:=Tryz.zeroValue455
 t212:=Tryz.underlying486
 a212:=Tryz.isAgg486
 z212:=Tryz.sizeOf486
 v212:=Tryz.zeroValue486
 t213:=Tryz.underlying487
 a213:=Tryz.isAgg487
 z213:=Tryz.sizeOf487
 t232:=Tryz.underlying517
 a232:=Tryz.isAgg517
 z232:=Tryz.sizeOf517
 v232:=Tryz.zeroValue517
 t233:=Tryz.underlying518
 a233:=Tryz.isAgg518
 z233:=Tryz.sizeOf518
 v233:=Tryz.zeroValue518
 g17:=by kernel_rfl
 g18:=by kernel_rfl
 g19:=by kernel_rfl
 i0:=by kernel_rfl
 i2:=by kernel_rfl
 i3:=by kernel_rfl
 i4:=by kernel_rfl
 i5:=by kernel_rfl
 i9:=by kernel_rfl
 i20:=by kernel_rfl
 i37:=by kernel_rfl
 i46:=by kernel_rfl
 i51:=by kernel_rfl
 i53:=by kernel_rfl
 i171:=by kernel_rfl
 i173:=by kernel_rfl
 i212:=by kernel_rfl
 i232:=by kernel_rfl
 i233:=by kernel_rfl
 m17:=by kernel_rfl
 m18:=by kernel_rfl
 m19:=by kernel_rfl }
open Go.RowKit Go.Sort Go.Lib in
theorem Tryz.strconv_Itoa (n:Int) (h0: -9223372036854775808≤n) (h1:n≤9223372036854775807) (w:World) (htab:Lib.TabIs Tryz.prog w "internal/strconv.uint64pow10" .u64 Lib.pow10Tab):
  Calls Tryz.prog 139 #[.int .i64 n] w fun e w' =>e= .returned (.string ⟨(Lib.itoa n).toArray⟩)∧ ∃ k os,w' =grow (w.drewN k) os:=Any.strconv_Itoa Tryz.laysM171 n h0 h1 w htab
def Tryz.laysC245_ren:Go.Shelf.Ren:=⟨fun | 245=>218 | 279=>324 | 280=>325 | 281=>326 | 282=>327 | 316=>385 | 171=>139 | 205=>386 | 243=>219 | 246=>328 | 283=>387 | 284=>388 | 285=>389 | 286=>390 | 129=>213 | 317=>441 | 318=>442 | 319=>443 | 320=>444 | 337=>479 | 338=>480 | n=>n,fun | 9=>9 | 3=>3 | 75=>200 | 167=>394 | 4=>4 | 168=>397 | 210=>451 | 37=>195 | 0=>0 | 127=>283 | 145=>484 | 143=>482 | 2=>2 | 171=>453 | 53=>304 | 5=>5 | 173=>455 | 212=>486 | 51=>23 | 20=>20 | 213=>487 | 46=>220 | 232=>517 | 233=>518 | 80=>203 | n=>n,fun | 15=>3 | 16=>4 | 17=>5 | 18=>7 | 19=>8 | n=>n⟩
theorem Tryz.laysC245:Go.Proofs.LaysC.n245 Tryz.prog Tryz.laysC245_ren:={
 mixed:=by kernel_rfl
 f129:=Tryz.func213.trans (congrArg some (by kernel_rfl))
 f171:=Tryz.func139.trans (congrArg some (by kernel_rfl))
 f205:=Tryz.func386.trans (congrArg some (by kernel_rfl))
 f243:=Tryz.func219.trans (congrArg some (by kernel_rfl))
 f245:=Tryz.func218.trans (congrArg some (by kernel_rfl))
 f246:=Tryz.func328.trans (congrArg some (by kernel_rfl))
 f279:=Tryz.func324.trans (congrArg some (by kernel_rfl))
 f280:=Tryz.func325.trans (congrArg some (by kernel_rfl))
 f281:=Tryz.func326.trans (congrArg some (by kernel_rfl))
 f282:=Tryz.func327.trans (congrArg some (by kernel_rfl))
 f283:=Tryz.func387.trans (congrArg some (by kernel_rfl))
 f284:=Tryz.func388.trans (congrArg some (by kernel_rfl))
 f285:=Tryz.func389.trans (congrArg some (by kernel_rfl))
 f286:=Tryz.func390.trans (congrArg some (by kernel_rfl))
 f316:=Tryz.func385.trans (congrArg some (by kernel_rfl))
 f317:=Tryz.func441.trans (congrArg some (by kernel_rfl))
 f318:=Tryz.func442.trans (congrArg some (by kernel_rfl))
 f319:=Tryz.func443.trans (congrArg some (by kernel_rfl))
 f320:=Tryz.func444.trans (congrArg some (by kernel_rfl))
 f337:=Tryz.func479.trans (congrArg some (by kernel_rfl))
 f338:=Tryz.func480.trans (congrArg some (by kernel_rfl))
 t0:=Tryz.underlying0
 a0:=Tryz.isAgg0
 z0:=Tryz.sizeOf0
 v0:=Tryz.zeroValue0
 t2:=Tryz.underlying2
 a2:=Tryz.isAgg2
 z2:=Tryz.sizeOf2
 v2:=Tryz.zeroValue2
 t3:=Tryz.underlying3
 a3:=Tryz.isAgg3
 z3:=Tryz.sizeOf3
 v3:=Tryz.zeroValue3
 t4:=Tryz.underlying4
 a4:=Tryz.isAgg4
 z4:=Tryz.sizeOf4
 v4:=Tryz.zeroValue4
 t5:=Tryz.underlying5
 a5:=Tryz.isAgg5
 z5:=Tryz.sizeOf5
 v5:=Tryz.zeroValue5
 t9:=Tryz.underlying9
 a9:=Tryz.isAgg9
 z9:=Tryz.sizeOf9
 v9:=Tryz.zeroValue9
 t20:=Tryz.underlying20
 a20:=Tryz.isAgg20
 z20:=Tryz.sizeOf20
 v20:=Tryz.zeroValue20
 t37:=Tryz.underlying195
 a37:=Tryz.isAgg195
 z37:=Tryz.sizeOf195
 v37:=Tryz.zeroValue195
 t46:=Tryz.underlying220
 a46:=Tryz.isAgg220
 z46:=Tryz.sizeOf220
 v46:=Tryz.zeroValue220
 t51:=Tryz.underlying23
 a51:=Tryz.isAgg23
 z51:=Tryz.sizeOf23
 v51:=Tryz.zeroValue23
 t53:=Tryz.underlying304
 a53:=Tryz.isAgg304
 z53:=Tryz.sizeOf304
 v53:=Tryz.zeroValue304
 t75:=Tryz.underlying200
 a75:=Tryz.isAgg200
 z75:=Tryz.sizeOf200
 v75:=Tryz.zeroValue200
 t127:=Tryz.underlying283
 a127:=Tryz.isAgg283
 z127:=Tryz.sizeOf283
 v127:=Tryz.zeroValue283
 t143:=Tryz.underlying482
 a143:=Tryz.isAgg482
 z143:=Tryz.sizeOf482
 v143:=Tryz.zeroValue482
 t145:=Tryz.underlying484
 a145:=Tryz.isAgg484
 z145:=Tryz.sizeOf484
 v145:=Tryz.zeroValue484
 t167:=Tryz.underlying394
 a167:=Tryz.isAgg394
 z167:=Tryz.sizeOf394
 v167:=Tryz.zeroValue394
 t168:=Tryz.underlying397
 a168:=Tryz.isAgg397
 z168:=Tryz.sizeOf397
 v168:=Tryz.zeroValue397
 t171:=Tryz.underlying453
 a171:=Tryz.isAgg453
 z171:=Tryz.sizeOf453
 v171:=Tryz.zeroValue453
 t173:=Tryz.underlying455
 a173:=Tryz.isAgg455
 z173:=Tryz.sizeOf455
 v173:=Tryz.zeroValue455
 t210:=Tryz.underlying451
 a210:=Tryz.isAgg451
 z210:=Tryz.sizeOf451
 v210:=Tryz.zeroValue451
 t212:=Tryz.underlying486
 a212:=Tryz.isAgg486
 z212:=Tryz.sizeOf486
 v212:=Tryz.zeroValue486
 t213:=Tryz.underlying487
 a213:=Tryz.isAgg487
 z213:=Tryz.sizeOf487
 t232:=Tryz.underlying517
 a232:=Tryz.isAgg517
 z232:=Tryz.sizeOf517
 v232:=Tryz.zeroValue517
 t233:=Tryz.underlying518
 a233:=Tryz.isAgg518
 z233:=Tryz.sizeOf518
 v233:=Tryz.zeroValue518
 g15:=by kernel_rfl
 g16:=by kernel_rfl
 g17:=by kernel_rfl
 g18:=by kernel_rfl
 g19:=by kernel_rfl
 t80:=Tryz.underlying203
 a80:=Tryz.isAgg203
 z80:=Tryz.sizeOf203
 v80:=Tryz.zeroValue203
 i0:=by kernel_rfl
 i2:=by kernel_rfl
 i3:=by kernel_rfl
 i4:=by kernel_rfl
 i5:=by kernel_rfl
 i9:=by kernel_rfl
 i20:=by kernel_rfl
 i37:=by kernel_rfl
 i46:=by kernel_rfl
 i51:=by kernel_rfl
 i53:=by kernel_rfl
 i75:=by kernel_rfl
 i80:=by kernel_rfl
 i127:=by kernel_rfl
 i143:=by kernel_rfl
 i145:=by kernel_rfl
 i167:=by kernel_rfl
 i168:=by kernel_rfl
 i171:=by kernel_rfl
 i173:=by kernel_rfl
 i210:=by kernel_rfl
 i212:=by kernel_rfl
 i232:=by kernel_rfl
 i233:=by kernel_rfl
 m15:=by kernel_rfl
 m16:=by kernel_rfl
 m17:=by kernel_rfl
 m18:=by kernel_rfl
 m19:=by kernel_rfl
 c0:=by kernel_rfl
 c2:=by kernel_rfl
 c3:=by kernel_rfl
 c4:=by kernel_rfl
 c5:=by kernel_rfl
 c9:=by kernel_rfl
 c20:=by kernel_rfl
 c37:=by kernel_rfl
 c46:=by kernel_rfl
 c51:=by kernel_rfl
 c53:=by kernel_rfl
 c75:=by kernel_rfl
 c80:=by kernel_rfl
 c127:=by kernel_rfl
 c143:=by kernel_rfl
 c145:=by kernel_rfl
 c167:=by kernel_rfl
 c168:=by kernel_rfl
 c171:=by kernel_rfl
 c173:=by kernel_rfl
 c210:=by kernel_rfl
 c212:=by kernel_rfl
 c213:=by kernel_rfl
 c232:=by kernel_rfl
 c233:=by kernel_rfl }
open Go.RowKit in
theorem Tryz.strconv_toError_syntax (fn s:ByteArray) (base bits:Int) (ev:Value) (w:World) (hlim:s.size≤281474976710656) (hv:w.cell? ⟨3,0,none⟩=some ev) (hev:ev= .nilIface∨ ∃ te pe,ev= .iface te pe):
  Calls Tryz.prog 218 #[.string fn,.string s,.int .i64 base,.int .i64 bits,.iface 394 (.int .i64 2)] w fun e w' => ∃ N,e= .returned (.iface 397 (.pointer (some ⟨N,0,none⟩)))∧w.heap.size≤N∧w'.heap[N]? =some (.cells #[.string fn,.string s,ev] 451 (0,0))∧Below w.heap.size w w' :=Any.strconv_toError_syntax Tryz.laysC245 fn s base bits ev w hlim hv hev
def Tryz.lays321_ren:Go.Shelf.Ren:=⟨fun | 321=>439 | n=>n,fun | 5=>5 | n=>n,fun | n=>n⟩
theorem Tryz.lays321:Go.Proofs.Lays.n321 Tryz.prog Tryz.lays321_ren:={
 mixed:=by kernel_rfl
 f321:=Tryz.func439.trans (congrArg some (by kernel_rfl))
 t5:=Tryz.underlying5
 a5:=Tryz.isAgg5
 z5:=Tryz.sizeOf5
 v5:=Tryz.zeroValue5 }
open Go.RowKit in
theorem Tryz.internal_strconv_lower (c:Int) (w:World):
  Calls Tryz.prog 439 #[.int .u8 c] w fun e w' =>e= .returned (.int .u8 (bits .or .u8 c 32))∧w' =w:=Any.internal_strconv_lower Tryz.lays321 c w
open Go.RowKit in
theorem Tryz.strconv_toError_range (fn s:ByteArray) (base bits:Int) (ev:Value) (w:World) (hlim:s.size≤281474976710656) (hv:w.cell? ⟨4,0,none⟩=some ev) (hev:ev= .nilIface∨ ∃ te pe,ev= .iface te pe):
  Calls Tryz.prog 218 #[.string fn,.string s,.int .i64 base,.int .i64 bits,.iface 394 (.int .i64 1)] w fun e w' => ∃ N,e= .returned (.iface 397 (.pointer (some ⟨N,0,none⟩)))∧w.heap.size≤N∧w'.heap[N]? =some (.cells #[.string fn,.string s,ev] 451 (0,0))∧Below w.heap.size w w' :=Any.strconv_toError_range Tryz.laysC245 fn s base bits ev w hlim hv hev
def Tryz.laysC172_ren:Go.Shelf.Ren:=⟨fun | 172=>138 | 244=>217 | 245=>218 | 247=>323 | 279=>324 | 280=>325 | 281=>326 | 282=>327 | 287=>384 | 316=>385 | 171=>139 | 205=>386 | 321=>439 | 322=>440 | 243=>219 | 246=>328 | 283=>387 | 284=>388 | 285=>389 | 286=>390 | 129=>213 | 317=>441 | 318=>442 | 319=>443 | 320=>444 | 337=>479 | 338=>480 | n=>n,fun | 9=>9 | 3=>3 | 75=>200 | 76=>201 | 4=>4 | 5=>5 | 167=>394 | 37=>195 | 0=>0 | 85=>395 | 2=>2 | 168=>397 | 53=>304 | 175=>448 | 46=>220 | 210=>451 | 127=>283 | 145=>484 | 143=>482 | 21=>21 | 171=>453 | 173=>455 | 212=>486 | 51=>23 | 20=>20 | 213=>487 | 232=>517 | 233=>518 | 80=>203 | n=>n,fun | 15=>3 | 16=>4 | 17=>5 | 18=>7 | 19=>8 | n=>n⟩
theorem Tryz.laysC172:Go.Proofs.LaysC.n172 Tryz.prog Tryz.laysC172_ren:={
 mixed:=by kernel_rfl
 f129:=Tryz.func213.trans (congrArg some (by kernel_rfl))
 f171:=Tryz.func139.trans (congrArg some (by kernel_rfl))
 f172:=Tryz.func138.trans (congrArg some (by kernel_rfl))
 f205:=Tryz.func386.trans (congrArg some (by kernel_rfl))
 f243:=Tryz.func219.trans (congrArg some (by kernel_rfl))
 f244:=Tryz.func217.trans (congrArg some (by kernel_rfl))
 f245:=Tryz.func218.trans (congrArg some (by kernel_rfl))
 f246:=Tryz.func328.trans (congrArg some (by kernel_rfl))
 f247:=Tryz.func323.trans (congrArg some (by kernel_rfl))
 f279:=Tryz.func324.trans (congrArg some (by kernel_rfl))
 f280:=Tryz.func325.trans (congrArg some (by kernel_rfl))
 f281:=Tryz.func326.trans (congrArg some (by kernel_rfl))
 f282:=Tryz.func327.trans (congrArg some (by kernel_rfl))
 f283:=Tryz.func387.trans (congrArg some (by kernel_rfl))
 f284:=Tryz.func388.trans (congrArg some (by kernel_rfl))
 f285:=Tryz.func389.trans (congrArg some (by kernel_rfl))
 f286:=Tryz.func390.trans (congrArg some (by kernel_rfl))
 f287:=Tryz.func384.trans (congrArg some (by kernel_rfl))
 f316:=Tryz.func385.trans (congrArg some (by kernel_rfl))
 f317:=Tryz.func441.trans (congrArg some (by kernel_rfl))
 f318:=Tryz.func442.trans (congrArg some (by kernel_rfl))
 f319:=Tryz.func443.trans (congrArg some (by kernel_rfl))
 f320:=Tryz.func444.trans (congrArg some (by kernel_rfl))
 f321:=Tryz.func439.trans (congrArg some (by kernel_rfl))
 f322:=Tryz.func440.trans (congrArg some (by kernel_rfl))
 f337:=Tryz.func479.trans (congrArg some (by kernel_rfl))
 f338:=Tryz.func480.trans (congrArg some (by kernel_rfl))
 t0:=Tryz.underlying0
 a0:=Tryz.isAgg0
 z0:=Tryz.sizeOf0
 v0:=Tryz.zeroValue0
 t2:=Tryz.underlying2
 a2:=Tryz.isAgg2
 z2:=Tryz.sizeOf2
 v2:=Tryz.zeroValue2
 t3:=Tryz.underlying3
 a3:=Tryz.isAgg3
 z3:=Tryz.sizeOf3
 v3:=Tryz.zeroValue3
 t4:=Tryz.underlying4
 a4:=Tryz.isAgg4
 z4:=Tryz.sizeOf4
 v4:=Tryz.zeroValue4
 t5:=Tryz.underlying5
 a5:=Tryz.isAgg5
 z5:=Tryz.sizeOf5
 v5:=Tryz.zeroValue5
 t9:=Tryz.underlying9
 a9:=Tryz.isAgg9
 z9:=Tryz.sizeOf9
 v9:=Tryz.zeroValue9
 t20:=Tryz.underlying20
 a20:=Tryz.isAgg20
 z20:=Tryz.sizeOf20
 v20:=Tryz.zeroValue20
 t21:=Tryz.underlying21
 a21:=Tryz.isAgg21
 z21:=Tryz.sizeOf21
 v21:=Tryz.zeroValue21
 t37:=Tryz.underlying195
 a37:=Tryz.isAgg195
 z37:=Tryz.sizeOf195
 v37:=Tryz.zeroValue195
 t46:=Tryz.underlying220
 a46:=Tryz.isAgg220
 z46:=Tryz.sizeOf220
 v46:=Tryz.zeroValue220
 t51:=Tryz.underlying23
 a51:=Tryz.isAgg23
 z51:=Tryz.sizeOf23
 v51:=Tryz.zeroValue23
 t53:=Tryz.underlying304
 a53:=Tryz.isAgg304
 z53:=Tryz.sizeOf304
 v53:=Tryz.zeroValue304
 t75:=Tryz.underlying200
 a75:=Tryz.isAgg200
 z75:=Tryz.sizeOf200
 v75:=Tryz.zeroValue200
 t76:=Tryz.underlying201
 a76:=Tryz.isAgg201
 z76:=Tryz.sizeOf201
 v76:=Tryz.zeroValue201
 t85:=Tryz.underlying395
 a85:=Tryz.isAgg395
 z85:=Tryz.sizeOf395
 v85:=Tryz.zeroValue395
 t127:=Tryz.underlying283
 a127:=Tryz.isAgg283
 z127:=Tryz.sizeOf283
 v127:=Tryz.zeroValue283
 t143:=Tryz.underlying482
 a143:=Tryz.isAgg482
 z143:=Tryz.sizeOf482
 v143:=Tryz.zeroValue482
 t145:=Tryz.underlying484
 a145:=Tryz.isAgg484
 z145:=Tryz.sizeOf484
 v145:=Tryz.zeroValue484
 t167:=Tryz.underlying394
 a167:=Tryz.isAgg394
 z167:=Tryz.sizeOf394
 v167:=Tryz.zeroValue394
 t168:=Tryz.underlying397
 a168:=Tryz.isAgg397
 z168:=Tryz.sizeOf397
 v168:=Tryz.zeroValue397
 t171:=Tryz.underlying453
 a171:=Tryz.isAgg453
 z171:=Tryz.sizeOf453
 v171:=Tryz.zeroValue453
 t173:=Tryz.underlying455
 a173:=Tryz.isAgg455
 z173:=Tryz.sizeOf455
 v173:=Tryz.zeroValue455
 t175:=Tryz.underlying448
 a175:=Tryz.isAgg448
 z175:=Tryz.sizeOf448
 v175:=Tryz.zeroValue448
 t210:=Tryz.underlying451
 a210:=Tryz.isAgg451
 z210:=Tryz.sizeOf451
 v210:=Tryz.zeroValue451
 t212:=Tryz.underlying486
 a212:=Tryz.isAgg486
 z212:=Tryz.sizeOf486
 v212:=Tryz.zeroValue486
 t213:=Tryz.underlying487
 a213:=Tryz.isAgg487
 z213:=Tryz.sizeOf487
 t232:=Tryz.underlying517
 a232:=Tryz.isAgg517
 z232:=Tryz.sizeOf517
 v232:=Tryz.zeroValue517
 t233:=Tryz.underlying518
 a233:=Tryz.isAgg518
 z233:=Tryz.sizeOf518
 v233:=Tryz.zeroValue518
 g15:=by kernel_rfl
 g16:=by kernel_rfl
 g17:=by kernel_rfl
 g18:=by kernel_rfl
 g19:=by kernel_rfl
 t80:=Tryz.underlying203
 a80:=Tryz.isAgg203
 z80:=Tryz.sizeOf203
 v80:=Tryz.zeroValue203
 i0:=by kernel_rfl
 i2:=by kernel_rfl
 i3:=by kernel_rfl
 i4:=by kernel_rfl
 i5:=by kernel_rfl
 i9:=by kernel_rfl
 i20:=by kernel_rfl
 i21:=by kernel_rfl
 i37:=by kernel_rfl
 i46:=by kernel_rfl
 i51:=by kernel_rfl
 i53:=by kernel_rfl
 i75:=by kernel_rfl
 i76:=by kernel_rfl
 i80:=by kernel_rfl
 i85:=by kernel_rfl
 i127:=by kernel_rfl
 i143:=by kernel_rfl
 i145:=by kernel_rfl
 i167:=by kernel_rfl
 i168:=by kernel_rfl
 i171:=by kernel_rfl
 i173:=by kernel_rfl
 i175:=by kernel_rfl
 i210:=by kernel_rfl
 i212:=by kernel_rfl
 i232:=by kernel_rfl
 i233:=by kernel_rfl
 m15:=by kernel_rfl
 m16:=by kernel_rfl
 m17:=by kernel_rfl
 m18:=by kernel_rfl
 m19:=by kernel_rfl
 c0:=by kernel_rfl
 c2:=by kernel_rfl
 c3:=by kernel_rfl
 c4:=by kernel_rfl
 c5:=by kernel_rfl
 c9:=by kernel_rfl
 c20:=by kernel_rfl
 c21:=by kernel_rfl
 c37:=by kernel_rfl
 c46:=by kernel_rfl
 c51:=by kernel_rfl
 c53:=by kernel_rfl
 c75:=by kernel_rfl
 c76:=by kernel_rfl
 c80:=by kernel_rfl
 c85:=by kernel_rfl
 c127:=by kernel_rfl
 c143:=by kernel_rfl
 c145:=by kernel_rfl
 c167:=by kernel_rfl
 c168:=by kernel_rfl
 c171:=by kernel_rfl
 c173:=by kernel_rfl
 c175:=by kernel_rfl
 c210:=by kernel_rfl
 c212:=by kernel_rfl
 c213:=by kernel_rfl
 c232:=by kernel_rfl
 c233:=by kernel_rfl }
open Go.RowKit in
theorem Tryz.strconv_Atoi_ok (s:ByteArray) (hmax:s.size≤9223372036854775806) (v:Int) (h:Lib.atoiAll s.data.toList= .ok v) (w:World):
  Calls Tryz.prog 138 #[.string s] w fun e w' =>e= .returned (.tuple #[.int .i64 v,.nilIface])∧(w' =w∨ ∃ t,w' =Lib.bytesWorld w 5 t):=Any.strconv_Atoi_ok Tryz.laysC172 s hmax v h w
open Go.RowKit in
theorem Tryz.strconv_Atoi_syntax_var (s:ByteArray) (hlim:s.size≤281474976710656) (h: ∀ v,Lib.atoiAll s.data.toList= .ok v→False) (h2:Lib.atoiAll s.data.toList= .range→False) (tp:TypeId) (p:Value) (w:World) (hvar:w.var? Tryz.prog "strconv.ErrSyntax" =some #[.iface tp p]):
  Calls Tryz.prog 138 #[.string s] w fun e w' => ∃ N,e= .returned (.tuple #[.int .i64 0,.iface 397 (.pointer (some ⟨N,0,none⟩))])∧w.heap.size≤N∧w'.heap[N]? =some (.cells #[.string ⟨#[65,116,111,105]⟩,.string s,.iface tp p] 451 (0,0))∧Below w.heap.size w w' :=Any.strconv_Atoi_syntax_var Tryz.laysC172 s hlim (by
  cases e:Lib.atoiAll s.data.toList with
  | ok v=>exact (h v e).elim
  | range=>exact (h2 e).elim
  | _=>rfl) tp p w hvar
open Go.RowKit in
theorem Tryz.strconv_Atoi_range_var (s:ByteArray) (hlim:s.size≤281474976710656) (h:Lib.atoiAll s.data.toList= .range) (tp:TypeId) (p:Value) (w:World) (hvar:w.var? Tryz.prog "strconv.ErrRange" =some #[.iface tp p]):
  Calls Tryz.prog 138 #[.string s] w fun e w' => ∃ N,e= .returned (.tuple #[.int .i64 (Lib.atoiSat s.data.toList),.iface 397 (.pointer (some ⟨N,0,none⟩))])∧w.heap.size≤N∧w'.heap[N]? =some (.cells #[.string ⟨#[65,116,111,105]⟩,.string s,.iface tp p] 451 (0,0))∧Below w.heap.size w w' :=Any.strconv_Atoi_range_var Tryz.laysC172 s hlim h tp p w hvar
def Tryz.lays219_ren:Go.Shelf.Ren:=⟨fun | 219=>216 | 217=>319 | 225=>320 | 224=>321 | 267=>322 | 266=>382 | 314=>383 | n=>n,fun | 9=>9 | 3=>3 | 4=>4 | 5=>5 | 46=>220 | 146=>306 | 51=>23 | n=>n,fun | 1=>0 | n=>n⟩
theorem Tryz.lays219:Go.Proofs.Lays.n219 Tryz.prog Tryz.lays219_ren:={
 mixed:=by kernel_rfl
 f217:=Tryz.func319.trans (congrArg some (by kernel_rfl))
 f219:=Tryz.func216.trans (congrArg some (by kernel_rfl))
 f224:=Tryz.func321.trans (congrArg some (by kernel_rfl))
 f225:=Tryz.func320.trans (congrArg some (by kernel_rfl))
 f266:=Tryz.func382.trans (congrArg some (by kernel_rfl))
 f267:=Tryz.func322.trans (congrArg some (by kernel_rfl))
 f314:=Tryz.func383.trans (congrArg some (by kernel_rfl))
 t3:=Tryz.underlying3
 a3:=Tryz.isAgg3
 z3:=Tryz.sizeOf3
 v3:=Tryz.zeroValue3
 t4:=Tryz.underlying4
 a4:=Tryz.isAgg4
 z4:=Tryz.sizeOf4
 v4:=Tryz.zeroValue4
 t5:=Tryz.underlying5
 a5:=Tryz.isAgg5
 z5:=Tryz.sizeOf5
 v5:=Tryz.zeroValue5
 t9:=Tryz.underlying9
 a9:=Tryz.isAgg9
 z9:=Tryz.sizeOf9
 v9:=Tryz.zeroValue9
 t46:=Tryz.underlying220
 a46:=Tryz.isAgg220
 z46:=Tryz.sizeOf220
 v46:=Tryz.zeroValue220
 t51:=Tryz.underlying23
 a51:=Tryz.isAgg23
 z51:=Tryz.sizeOf23
 v51:=Tryz.zeroValue23
 t146:=Tryz.underlying306
 a146:=Tryz.isAgg306
 z146:=Tryz.sizeOf306
 v146:=Tryz.zeroValue306
 g1:=by kernel_rfl }
open Go.RowKit Go.Lib in
theorem Tryz.stringslite_Index (s sub:ByteArray) (m:Int) (w:World) (hs:s.size<4294967281) (hm:w.cell? ⟨0,0,none⟩=some (.int .i64 m)):
  Calls Tryz.prog 216 #[.string s,.string sub] w fun e w' =>e= .returned (.int .i64 (Lib.index s.data.toList sub.data.toList))∧w' =w:=Any.stringslite_Index Tryz.lays219 s sub m w hs hm
def Tryz.lays143_ren:Go.Shelf.Ren:=⟨fun | 143=>181 | 219=>216 | 217=>319 | 225=>320 | 224=>321 | 267=>322 | 266=>382 | 314=>383 | n=>n,fun | 9=>9 | 3=>3 | 4=>4 | 5=>5 | 46=>220 | 146=>306 | 51=>23 | n=>n,fun | 1=>0 | n=>n⟩
theorem Tryz.lays143:Go.Proofs.Lays.n143 Tryz.prog Tryz.lays143_ren:={
 mixed:=by kernel_rfl
 f143:=Tryz.func181.trans (congrArg some (by kernel_rfl))
 f217:=Tryz.func319.trans (congrArg some (by kernel_rfl))
 f219:=Tryz.func216.trans (congrArg some (by kernel_rfl))
 f224:=Tryz.func321.trans (congrArg some (by kernel_rfl))
 f225:=Tryz.func320.trans (congrArg some (by kernel_rfl))
 f266:=Tryz.func382.trans (congrArg some (by kernel_rfl))
 f267:=Tryz.func322.trans (congrArg some (by kernel_rfl))
 f314:=Tryz.func383.trans (congrArg some (by kernel_rfl))
 t3:=Tryz.underlying3
 a3:=Tryz.isAgg3
 z3:=Tryz.sizeOf3
 v3:=Tryz.zeroValue3
 t4:=Tryz.underlying4
 a4:=Tryz.isAgg4
 z4:=Tryz.sizeOf4
 v4:=Tryz.zeroValue4
 t5:=Tryz.underlying5
 a5:=Tryz.isAgg5
 z5:=Tryz.sizeOf5
 v5:=Tryz.zeroValue5
 t9:=Tryz.underlying9
 a9:=Tryz.isAgg9
 z9:=Tryz.sizeOf9
 v9:=Tryz.zeroValue9
 t46:=Tryz.underlying220
 a46:=Tryz.isAgg220
 z46:=Tryz.sizeOf220
 v46:=Tryz.zeroValue220
 t51:=Tryz.underlying23
 a51:=Tryz.isAgg23
 z51:=Tryz.sizeOf23
 v51:=Tryz.zeroValue23
 t146:=Tryz.underlying306
 a146:=Tryz.isAgg306
 z146:=Tryz.sizeOf306
 v146:=Tryz.zeroValue306
 g1:=by kernel_rfl }
open Go.RowKit Go.Lib in
theorem Tryz.strings_Index (s sub:ByteArray) (m:Int) (w:World) (hs:s.size<4294967281) (hm:w.cell? ⟨0,0,none⟩=some (.int .i64 m)):
  Calls Tryz.prog 181 #[.string s,.string sub] w fun e w' =>e= .returned (.int .i64 (Lib.index s.data.toList sub.data.toList))∧w' =w:=Any.strings_Index Tryz.lays143 s sub m w hs hm
def Tryz.lays99_ren:Go.Shelf.Ren:=⟨fun | 99=>125 | 206=>198 | n=>n,fun | 9=>9 | 4=>4 | 3=>3 | n=>n,fun | n=>n⟩
theorem Tryz.lays99:Go.Proofs.Lays.n99 Tryz.prog Tryz.lays99_ren:={
 mixed:=by kernel_rfl
 f99:=Tryz.func125.trans (congrArg some (by kernel_rfl))
 f206:=Tryz.func198.trans (congrArg some (by kernel_rfl))
 t3:=Tryz.underlying3
 a3:=Tryz.isAgg3
 z3:=Tryz.sizeOf3
 v3:=Tryz.zeroValue3
 t4:=Tryz.underlying4
 a4:=Tryz.isAgg4
 z4:=Tryz.sizeOf4
 v4:=Tryz.zeroValue4
 t9:=Tryz.underlying9
 a9:=Tryz.isAgg9
 z9:=Tryz.sizeOf9
 v9:=Tryz.zeroValue9 }
open Go.RowKit Go.Lib in
theorem Tryz.strings_HasPrefix (s p:ByteArray) (w:World):
  Calls Tryz.prog 125 #[.string s,.string p] w fun e w' =>e= .returned (.bool (Lib.hasPrefix s.data.toList p.data.toList))∧w' =w:=Any.strings_HasPrefix Tryz.lays99 s p w
def Tryz.lays100_ren:Go.Shelf.Ren:=⟨fun | 100=>116 | 207=>195 | n=>n,fun | 9=>9 | 4=>4 | 3=>3 | n=>n,fun | n=>n⟩
theorem Tryz.lays100:Go.Proofs.Lays.n100 Tryz.prog Tryz.lays100_ren:={
 mixed:=by kernel_rfl
 f100:=Tryz.func116.trans (congrArg some (by kernel_rfl))
 f207:=Tryz.func195.trans (congrArg some (by kernel_rfl))
 t3:=Tryz.underlying3
 a3:=Tryz.isAgg3
 z3:=Tryz.sizeOf3
 v3:=Tryz.zeroValue3
 t4:=Tryz.underlying4
 a4:=Tryz.isAgg4
 z4:=Tryz.sizeOf4
 v4:=Tryz.zeroValue4
 t9:=Tryz.underlying9
 a9:=Tryz.isAgg9
 z9:=Tryz.sizeOf9
 v9:=Tryz.zeroValue9 }
open Go.RowKit Go.Lib in
theorem Tryz.strings_HasSuffix (s p:ByteArray) (w:World) (hs:s.size≤9223372036854775807):
  Calls Tryz.prog 116 #[.string s,.string p] w fun e w' =>e= .returned (.bool (Lib.hasSuffix s.data.toList p.data.toList))∧w' =w:=Any.strings_HasSuffix Tryz.lays100 s p w hs
def Tryz.lays221_ren:Go.Shelf.Ren:=⟨fun | 221=>190 | 268=>307 | 138=>308 | 143=>181 | 195=>374 | 197=>180 | 218=>375 | 219=>216 | 260=>284 | 217=>319 | 225=>320 | 224=>321 | 267=>322 | 266=>382 | 314=>383 | n=>n,fun | 9=>9 | 3=>3 | 31=>30 | 4=>4 | 0=>0 | 105=>276 | 21=>21 | 5=>5 | 46=>220 | 119=>433 | 139=>436 | 138=>435 | 146=>306 | 51=>23 | n=>n,fun | 1=>0 | 3=>1 | 4=>2 | n=>n⟩
def Tryz.lays146_ren:Go.Shelf.Ren:=⟨fun | 146=>114 | 221=>190 | 268=>307 | 138=>308 | 143=>181 | 195=>374 | 197=>180 | 218=>375 | 219=>216 | 260=>284 | 217=>319 | 225=>320 | 224=>321 | 267=>322 | 266=>382 | 314=>383 | n=>n,fun | 9=>9 | 31=>30 | 3=>3 | 4=>4 | 0=>0 | 105=>276 | 21=>21 | 5=>5 | 46=>220 | 119=>433 | 139=>436 | 138=>435 | 146=>306 | 51=>23 | n=>n,fun | 1=>0 | 3=>1 | 4=>2 | n=>n⟩
theorem Tryz.lays146:Go.Proofs.Lays.n146 Tryz.prog Tryz.lays146_ren:={
 mixed:=by kernel_rfl
 f138:=Tryz.func308.trans (congrArg some (by kernel_rfl))
 f143:=Tryz.func181.trans (congrArg some (by kernel_rfl))
 f146:=Tryz.func114.trans (congrArg some (by kernel_rfl))
 f195:=Tryz.func374.trans (congrArg some (by kernel_rfl))
 f197:=Tryz.func180.trans (congrArg some (by kernel_rfl))
 f217:=Tryz.func319.trans (congrArg some (by kernel_rfl))
 f218:=Tryz.func375.trans (congrArg some (by kernel_rfl))
 f219:=Tryz.func216.trans (congrArg some (by kernel_rfl))
 f221:=Tryz.func190.trans (congrArg some (by kernel_rfl))
 f224:=Tryz.func321.trans (congrArg some (by kernel_rfl))
 f225:=Tryz.func320.trans (congrArg some (by kernel_rfl))
 f260:=Tryz.func284.trans (congrArg some (by kernel_rfl))
 f266:=Tryz.func382.trans (congrArg some (by kernel_rfl))
 f267:=Tryz.func322.trans (congrArg some (by kernel_rfl))
 f268:=Tryz.func307.trans (congrArg some (by kernel_rfl))
 f314:=Tryz.func383.trans (congrArg some (by kernel_rfl))
 t0:=Tryz.underlying0
 a0:=Tryz.isAgg0
 z0:=Tryz.sizeOf0
 v0:=Tryz.zeroValue0
 t3:=Tryz.underlying3
 a3:=Tryz.isAgg3
 z3:=Tryz.sizeOf3
 v3:=Tryz.zeroValue3
 t4:=Tryz.underlying4
 a4:=Tryz.isAgg4
 z4:=Tryz.sizeOf4
 v4:=Tryz.zeroValue4
 t5:=Tryz.underlying5
 a5:=Tryz.isAgg5
 z5:=Tryz.sizeOf5
 v5:=Tryz.zeroValue5
 t9:=Tryz.underlying9
 a9:=Tryz.isAgg9
 z9:=Tryz.sizeOf9
 v9:=Tryz.zeroValue9
 t21:=Tryz.underlying21
 a21:=Tryz.isAgg21
 z21:=Tryz.sizeOf21
 v21:=Tryz.zeroValue21
 t31:=Tryz.underlying30
 a31:=Tryz.isAgg30
 z31:=Tryz.sizeOf30
 v31:=Tryz.zeroValue30
 t46:=Tryz.underlying220
 a46:=Tryz.isAgg220
 z46:=Tryz.sizeOf220
 v46:=Tryz.zeroValue220
 t51:=Tryz.underlying23
 a51:=Tryz.isAgg23
 z51:=Tryz.sizeOf23
 v51:=Tryz.zeroValue23
 t105:=Tryz.underlying276
 a105:=Tryz.isAgg276
 z105:=Tryz.sizeOf276
 v105:=Tryz.zeroValue276
 t119:=Tryz.underlying433
 a119:=Tryz.isAgg433
 z119:=Tryz.sizeOf433
 t138:=Tryz.underlying435
 a138:=Tryz.isAgg435
 z138:=Tryz.sizeOf435
 v138:=Tryz.zeroValue435
 t139:=Tryz.underlying436
 a139:=Tryz.isAgg436
 z139:=Tryz.sizeOf436
 v139:=Tryz.zeroValue436
 t146:=Tryz.underlying306
 a146:=Tryz.isAgg306
 z146:=Tryz.sizeOf306
 v146:=Tryz.zeroValue306
 g1:=by kernel_rfl
 g3:=by kernel_rfl
 g4:=by kernel_rfl }
open Go.RowKit Go.Lib in
theorem Tryz.strings_Split (s sep:ByteArray) (m:Int) (w:World) (hs:s.size<4294967281) (hm:w.cell? ⟨0,0,none⟩=some (.int .i64 m)) (h1:1≤sep.size):
  Calls Tryz.prog 114 #[.string s,.string sep] w fun e w' =>
   e= .returned (.slice (some ⟨w.heap.size,0,none⟩) (Lib.countB s sep+1) (Lib.countB s sep+1))∧w' =w.alloc (.cells ((Lib.splitB sep 0 (Lib.countB s sep) s).map Value.string).toArray 9):=Any.strings_Split Tryz.lays146 (by kernel_rfl) s sep m w hs hm h1
def Tryz.lays154_ren:Go.Shelf.Ren:=⟨fun | 154=>476 | 138=>308 | 165=>110 | 143=>181 | 166=>111 | 197=>180 | 169=>112 | 195=>374 | 218=>375 | 240=>188 | 241=>189 | 219=>216 | 260=>284 | 276=>305 | 277=>306 | 217=>319 | 225=>320 | 224=>321 | 267=>322 | 266=>382 | 314=>383 | n=>n,fun | 9=>9 | 3=>3 | 4=>4 | 72=>197 | 0=>0 | 76=>201 | 105=>276 | 21=>21 | 5=>5 | 70=>194 | 20=>20 | 37=>195 | 75=>200 | 127=>283 | 164=>381 | 46=>220 | 119=>433 | 139=>436 | 138=>435 | 146=>306 | 51=>23 | 80=>203 | n=>n,fun | 1=>0 | 3=>1 | 4=>2 | n=>n⟩
def Tryz.lays155_ren:Go.Shelf.Ren:=⟨fun | 155=>433 | 154=>476 | 138=>308 | 165=>110 | 143=>181 | 166=>111 | 197=>180 | 169=>112 | 195=>374 | 218=>375 | 240=>188 | 241=>189 | 219=>216 | 260=>284 | 276=>305 | 277=>306 | 217=>319 | 225=>320 | 224=>321 | 267=>322 | 266=>382 | 314=>383 | n=>n,fun | 9=>9 | 3=>3 | 4=>4 | 72=>197 | 0=>0 | 76=>201 | 105=>276 | 21=>21 | 5=>5 | 70=>194 | 20=>20 | 37=>195 | 75=>200 | 127=>283 | 164=>381 | 46=>220 | 119=>433 | 139=>436 | 138=>435 | 146=>306 | 51=>23 | 80=>203 | n=>n,fun | 1=>0 | 3=>1 | 4=>2 | n=>n⟩
theorem Tryz.lays155:Go.Proofs.Lays.n155 Tryz.prog Tryz.lays155_ren:={
 mixed:=by kernel_rfl
 f138:=Tryz.func308.trans (congrArg some (by kernel_rfl))
 f143:=Tryz.func181.trans (congrArg some (by kernel_rfl))
 f154:=Tryz.func476.trans (congrArg some (by kernel_rfl))
 f155:=Tryz.func433.trans (congrArg some (by kernel_rfl))
 f165:=Tryz.func110.trans (congrArg some (by kernel_rfl))
 f166:=Tryz.func111.trans (congrArg some (by kernel_rfl))
 f169:=Tryz.func112.trans (congrArg some (by kernel_rfl))
 f195:=Tryz.func374.trans (congrArg some (by kernel_rfl))
 f197:=Tryz.func180.trans (congrArg some (by kernel_rfl))
 f217:=Tryz.func319.trans (congrArg some (by kernel_rfl))
 f218:=Tryz.func375.trans (congrArg some (by kernel_rfl))
 f219:=Tryz.func216.trans (congrArg some (by kernel_rfl))
 f224:=Tryz.func321.trans (congrArg some (by kernel_rfl))
 f225:=Tryz.func320.trans (congrArg some (by kernel_rfl))
 f240:=Tryz.func188.trans (congrArg some (by kernel_rfl))
 f241:=Tryz.func189.trans (congrArg some (by kernel_rfl))
 f260:=Tryz.func284.trans (congrArg some (by kernel_rfl))
 f266:=Tryz.func382.trans (congrArg some (by kernel_rfl))
 f267:=Tryz.func322.trans (congrArg some (by kernel_rfl))
 f276:=Tryz.func305.trans (congrArg some (by kernel_rfl))
 f277:=Tryz.func306.trans (congrArg some (by kernel_rfl))
 f314:=Tryz.func383.trans (congrArg some (by kernel_rfl))
 t0:=Tryz.underlying0
 a0:=Tryz.isAgg0
 z0:=Tryz.sizeOf0
 v0:=Tryz.zeroValue0
 t3:=Tryz.underlying3
 a3:=Tryz.isAgg3
 z3:=Tryz.sizeOf3
 v3:=Tryz.zeroValue3
 t4:=Tryz.underlying4
 a4:=Tryz.isAgg4
 z4:=Tryz.sizeOf4
 v4:=Tryz.zeroValue4
 t5:=Tryz.underlying5
 a5:=Tryz.isAgg5
 z5:=Tryz.sizeOf5
 v5:=Tryz.zeroValue5
 t9:=Tryz.underlying9
 a9:=Tryz.isAgg9
 z9:=Tryz.sizeOf9
 v9:=Tryz.zeroValue9
 t20:=Tryz.underlying20
 a20:=Tryz.isAgg20
 z20:=Tryz.sizeOf20
 v20:=Tryz.zeroValue20
 t21:=Tryz.underlying21
 a21:=Tryz.isAgg21
 z21:=Tryz.sizeOf21
 v21:=Tryz.zeroValue21
 t37:=Tryz.underlying195
 a37:=Tryz.isAgg195
 z37:=Tryz.sizeOf195
 v37:=Tryz.zeroValue195
 t46:=Tryz.underlying220
 a46:=Tryz.isAgg220
 z46:=Tryz.sizeOf220
 v46:=Tryz.zeroValue220
 t51:=Tryz.underlying23
 a51:=Tryz.isAgg23
 z51:=Tryz.sizeOf23
 v51:=Tryz.zeroValue23
 t70:=Tryz.underlying194
 a70:=Tryz.isAgg194
 z70:=Tryz.sizeOf194
 v70:=Tryz.zeroValue194
 t72:=Tryz.underlying197
 a72:=Tryz.isAgg197
 z72:=Tryz.sizeOf197
 v72:=Tryz.zeroValue197
 t75:=Tryz.underlying200
 a75:=Tryz.isAgg200
 z75:=Tryz.sizeOf200
 v75:=Tryz.zeroValue200
 t76:=Tryz.underlying201
 a76:=Tryz.isAgg201
 z76:=Tryz.sizeOf201
 v76:=Tryz.zeroValue201
 t105:=Tryz.underlying276
 a105:=Tryz.isAgg276
 z105:=Tryz.sizeOf276
 v105:=Tryz.zeroValue276
 t119:=Tryz.underlying433
 a119:=Tryz.isAgg433
 z119:=Tryz.sizeOf433
 t127:=Tryz.underlying283
 a127:=Tryz.isAgg283
 z127:=Tryz.sizeOf283
 v127:=Tryz.zeroValue283
 t138:=Tryz.underlying435
 a138:=Tryz.isAgg435
 z138:=Tryz.sizeOf435
 v138:=Tryz.zeroValue435
 t139:=Tryz.underlying436
 a139:=Tryz.isAgg436
 z139:=Tryz.sizeOf436
 v139:=Tryz.zeroValue436
 t146:=Tryz.underlying306
 a146:=Tryz.isAgg306
 z146:=Tryz.sizeOf306
 v146:=Tryz.zeroValue306
 t164:=Tryz.underlying381
 a164:=Tryz.isAgg381
 z164:=Tryz.sizeOf381
 v164:=Tryz.zeroValue381
 g1:=by kernel_rfl
 g3:=by kernel_rfl
 g4:=by kernel_rfl }
theorem Tryz.Builder_Extra_155:Builder.Extra Tryz.prog Tryz.lays155_ren:={
 sizeBuilder:=by kernel_rfl
 liesBuilder:=by kernel_rfl
 t5:=Tryz.underlying5
 a5:=Tryz.isAgg5
 z5:=Tryz.sizeOf5
 v5:=Tryz.zeroValue5
 infoByte:=by kernel_rfl
 cellsByte:=by kernel_rfl
 sizeByte:=by kernel_rfl
 neB5:=by decide }
open Go.RowKit Go.Lib in
theorem Tryz.strings_ReplaceAll (s old new:ByteArray) (m:Int) (w:World) (hs:s.size<4294967281) (hm:w.cell? ⟨0,0,none⟩=some (.int .i64 m)) (h1:1≤old.size) (hlen:s.size+Lib.countB s old*new.size≤140737488355328):
  Calls Tryz.prog 433 #[.string s,.string old,.string new] w fun e w' =>
   e= .returned (.string ⟨(Lib.replaceAll s.data.toList old.data.toList new.data.toList).toArray⟩)∧Below w.heap.size w w' :=Any.strings_ReplaceAll Tryz.lays155 Tryz.Builder_Extra_155 s old new m w hs hm h1 hlen
def Tryz.lays105_ren:Go.Shelf.Ren:=⟨fun | 105=>82 | 212=>140 | 99=>125 | 165=>110 | 166=>111 | 170=>141 | 169=>112 | 263=>220 | 264=>221 | 206=>198 | 240=>188 | 241=>189 | 276=>305 | 277=>306 | n=>n,fun | 9=>9 | 3=>3 | 4=>4 | 20=>20 | 0=>0 | 46=>220 | 109=>225 | 5=>5 | 72=>197 | 76=>201 | 51=>23 | 146=>306 | 53=>304 | 148=>308 | 70=>194 | 37=>195 | 75=>200 | 127=>283 | 164=>381 | 80=>203 | n=>n,fun | n=>n⟩
theorem Tryz.lays105:Go.Proofs.Lays.n105 Tryz.prog Tryz.lays105_ren:={
 mixed:=by kernel_rfl
 f99:=Tryz.func125.trans (congrArg some (by kernel_rfl))
 f105:=Tryz.func82.trans (congrArg some (by kernel_rfl))
 f165:=Tryz.func110.trans (congrArg some (by kernel_rfl))
 f166:=Tryz.func111.trans (congrArg some (by kernel_rfl))
 f169:=Tryz.func112.trans (congrArg some (by kernel_rfl))
 f170:=Tryz.func141.trans (congrArg some (by kernel_rfl))
 f206:=Tryz.func198.trans (congrArg some (by kernel_rfl))
 f212:=Tryz.func140.trans (congrArg some (by kernel_rfl))
 f240:=Tryz.func188.trans (congrArg some (by kernel_rfl))
 f241:=Tryz.func189.trans (congrArg some (by kernel_rfl))
 f263:=Tryz.func220.trans (congrArg some (by kernel_rfl))
 f264:=Tryz.func221.trans (congrArg some (by kernel_rfl))
 f276:=Tryz.func305.trans (congrArg some (by kernel_rfl))
 f277:=Tryz.func306.trans (congrArg some (by kernel_rfl))
 t0:=Tryz.underlying0
 a0:=Tryz.isAgg0
 z0:=Tryz.sizeOf0
 v0:=Tryz.zeroValue0
 t3:=Tryz.underlying3
 a3:=Tryz.isAgg3
 z3:=Tryz.sizeOf3
 v3:=Tryz.zeroValue3
 t4:=Tryz.underlying4
 a4:=Tryz.isAgg4
 z4:=Tryz.sizeOf4
 v4:=Tryz.zeroValue4
 t5:=Tryz.underlying5
 a5:=Tryz.isAgg5
 z5:=Tryz.sizeOf5
 v5:=Tryz.zeroValue5
 t9:=Tryz.underlying9
 a9:=Tryz.isAgg9
 z9:=Tryz.sizeOf9
 v9:=Tryz.zeroValue9
 t20:=Tryz.underlying20
 a20:=Tryz.isAgg20
 z20:=Tryz.sizeOf20
 v20:=Tryz.zeroValue20
 t37:=Tryz.underlying195
 a37:=Tryz.isAgg195
 z37:=Tryz.sizeOf195
 v37:=Tryz.zeroValue195
 t46:=Tryz.underlying220
 a46:=Tryz.isAgg220
 z46:=Tryz.sizeOf220
 v46:=Tryz.zeroValue220
 t51:=Tryz.underlying23
 a51:=Tryz.isAgg23
 z51:=Tryz.sizeOf23
 v51:=Tryz.zeroValue23
 t53:=Tryz.underlying304
 a53:=Tryz.isAgg304
 z53:=Tryz.sizeOf304
 v53:=Tryz.zeroValue304
 t70:=Tryz.underlying194
 a70:=Tryz.isAgg194
 z70:=Tryz.sizeOf194
 v70:=Tryz.zeroValue194
 t72:=Tryz.underlying197
 a72:=Tryz.isAgg197
 z72:=Tryz.sizeOf197
 v72:=Tryz.zeroValue197
 t75:=Tryz.underlying200
 a75:=Tryz.isAgg200
 z75:=Tryz.sizeOf200
 v75:=Tryz.zeroValue200
 t76:=Tryz.underlying201
 a76:=Tryz.isAgg201
 z76:=Tryz.sizeOf201
 v76:=Tryz.zeroValue201
 t109:=Tryz.underlying225
 a109:=Tryz.isAgg225
 z109:=Tryz.sizeOf225
 v109:=Tryz.zeroValue225
 t127:=Tryz.underlying283
 a127:=Tryz.isAgg283
 z127:=Tryz.sizeOf283
 v127:=Tryz.zeroValue283
 t146:=Tryz.underlying306
 a146:=Tryz.isAgg306
 z146:=Tryz.sizeOf306
 v146:=Tryz.zeroValue306
 t148:=Tryz.underlying308
 a148:=Tryz.isAgg308
 z148:=Tryz.sizeOf308
 v148:=Tryz.zeroValue308
 t164:=Tryz.underlying381
 a164:=Tryz.isAgg381
 z164:=Tryz.sizeOf381
 v164:=Tryz.zeroValue381 }
theorem Tryz.Builder_Extra_105:Builder.Extra Tryz.prog Tryz.lays105_ren:={
 sizeBuilder:=by kernel_rfl
 liesBuilder:=by kernel_rfl
 t5:=Tryz.underlying5
 a5:=Tryz.isAgg5
 z5:=Tryz.sizeOf5
 v5:=Tryz.zeroValue5
 infoByte:=by kernel_rfl
 cellsByte:=by kernel_rfl
 sizeByte:=by kernel_rfl
 neB5:=by decide }
open Go.RowKit Go.Lib in
theorem Tryz.strings_Repeat (s:ByteArray) (c:Nat) (w:World) (hc:c≤9223372036854775807) (hlen:s.size*c≤140737488355328):
  Calls Tryz.prog 82 #[.string s,.int .i64 c] w fun e w' =>e= .returned (.string ⟨(Lib.repeatL s.data.toList c).toArray⟩)∧Below w.heap.size w w' :=Any.strings_Repeat Tryz.lays105 Tryz.Builder_Extra_105 s c w hc hlen
def Tryz.laysNm217_ren:Go.Shelf.Ren:=⟨fun | 17=>119 | n=>n,fun | 24=>30 | 9=>9 | 3=>3 | 4=>4 | 0=>0 | n=>n,fun | n=>n⟩
theorem Tryz.laysNm217:Go.Proofs.Lays2.n17 Tryz.prog Tryz.laysNm217_ren:={
 mixed:=by kernel_rfl
 f17:=Tryz.func119.trans (congrArg some (by kernel_rfl))
 t0:=Tryz.underlying0
 a0:=Tryz.isAgg0
 z0:=Tryz.sizeOf0
 v0:=Tryz.zeroValue0
 t3:=Tryz.underlying3
 a3:=Tryz.isAgg3
 z3:=Tryz.sizeOf3
 v3:=Tryz.zeroValue3
 t4:=Tryz.underlying4
 a4:=Tryz.isAgg4
 z4:=Tryz.sizeOf4
 v4:=Tryz.zeroValue4
 t9:=Tryz.underlying9
 a9:=Tryz.isAgg9
 z9:=Tryz.sizeOf9
 v9:=Tryz.zeroValue9
 t24:=Tryz.underlying30
 a24:=Tryz.isAgg30
 z24:=Tryz.sizeOf30
 v24:=Tryz.zeroValue30 }
open Go.RowKit Go.Lib Go.Sort in
theorem Tryz.slices_Reverse_string (blk off cap:Nat) (zs:List (List UInt8)) (w:World) (hH:Holds encStr w blk off zs.toArray) (hsz:zs.length≤9223372036854775807):
  Calls Tryz.prog 119 #[.slice (some ⟨blk,off,none⟩) zs.length cap] w fun e w' =>e= .returned (.tuple #[])∧ ∃ n,w' =putRow encStr (Sort.ahead w n) blk off zs.reverse.toArray:=Any.slices_Reverse_string Tryz.laysNm217 blk off cap zs w hH hsz
open Go.RowKit Go.Lib Go.Sort in
theorem Tryz.slices_Reverse_string_empty (a:Option Addr) (cap:Nat) (w:World):
  Calls Tryz.prog 119 #[.slice a 0 cap] w fun e w' =>e= .returned (.tuple #[])∧w' =w:=Any.slices_Reverse_string_empty Tryz.laysNm217 a cap w
end Go.Proofs
