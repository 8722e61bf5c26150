/- Proved here: laws.FnExactEngineTop returns true at every input (the tied card), no condition beyond the card. -/
import Derived.Shelf.Strconv.Atoi
import Derived.Shelf.Strconv.Itoa0
import Derived.Shelf.Strconv.Itoa1
import Derived.Shelf.LaysM
import Derived.Shelf.Strconv.Itoa2
import Derived.Shelf.Strconv.Itoa3
import Derived.Shelf.Strconv.AtoiErrFast
import Derived.Shelf.Strconv.ParseIntEmpty
import Derived.Shelf.Strconv.AtoiFail
import Derived.Shelf.Strconv.Clone
import Derived.Shelf.Strconv.SyntaxError
import Derived.Shelf.Strconv.Lower
import Derived.Shelf.Strconv.ParseUint10
import Derived.Shelf.Strconv.ParseUint10Empty
import Derived.Shelf.Strconv.RangeError
import Derived.Shelf.Strconv.ParseUintEmpty
import Derived.Shelf.Strconv.ParseUint10b64
import Derived.Shelf.Strconv.ParseUint10b32
import Derived.Shelf.Strconv.ParseUint10b16
import Derived.Shelf.Strconv.ParseUint10b8
import Derived.Shelf.Strings.Prefix
import Derived.Test.YtldbfcdfogojfaaGreatDoorProg
import Derived.Test.YtldbfcdfogojfaaGreatDoorChecked
import Derived.WalkKit
import Derived.Recover
import Derived.Laws.Pointers
import Derived.Test.YtldbfcdfogojfaaGreatDoorFc
set_option linter.unusedVariables false
set_option linter.unusedSimpArgs false
set_option linter.unusedSectionVars false
set_option linter.defProp false
set_option maxRecDepth 100000
namespace Go.Proofs
open Go.Shelf
def Tryz.TH:Go.Shelf.Ren:=⟨fun|172=>164|244=>175|245=>176|247=>185|279=>186|280=>187|281=>188|282=>189|287=>196|316=>163|171=>198|205=>197|321=>201|322=>202|243=>203|246=>205|283=>206|284=>207|285=>208|286=>209|129=>211|317=>210|318=>212|319=>213|320=>214|337=>215|338=>216|n=>n,fun|9=>9|3=>3|75=>190|76=>191|4=>4|5=>5|167=>198|37=>195|0=>0|85=>199|2=>2|168=>201|53=>206|175=>207|46=>209|210=>211|127=>196|145=>218|143=>216|21=>21|171=>221|173=>224|212=>226|51=>227|20=>20|213=>228|232=>231|233=>232|80=>158|n=>n,fun|15=>1|16=>2|17=>5|18=>6|19=>7|n=>n⟩
theorem Tryz.aby:Go.Proofs.Lays.n172 Tryz.prog Tryz.TH:={
 mixed:=by kernel_rfl
 f129:=Tryz.func211.trans (congrArg some (by kernel_rfl))
 f171:=Tryz.func198.trans (congrArg some (by kernel_rfl))
 f172:=Tryz.func164.trans (congrArg some (by kernel_rfl))
 f205:=Tryz.func197.trans (congrArg some (by kernel_rfl))
 f243:=Tryz.func203.trans (congrArg some (by kernel_rfl))
 f244:=Tryz.func175.trans (congrArg some (by kernel_rfl))
 f245:=Tryz.func176.trans (congrArg some (by kernel_rfl))
 f246:=Tryz.func205.trans (congrArg some (by kernel_rfl))
 f247:=Tryz.func185.trans (congrArg some (by kernel_rfl))
 f279:=Tryz.func186.trans (congrArg some (by kernel_rfl))
 f280:=Tryz.func187.trans (congrArg some (by kernel_rfl))
 f281:=Tryz.func188.trans (congrArg some (by kernel_rfl))
 f282:=Tryz.func189.trans (congrArg some (by kernel_rfl))
 f283:=Tryz.func206.trans (congrArg some (by kernel_rfl))
 f284:=Tryz.func207.trans (congrArg some (by kernel_rfl))
 f285:=Tryz.func208.trans (congrArg some (by kernel_rfl))
 f286:=Tryz.func209.trans (congrArg some (by kernel_rfl))
 f287:=Tryz.func196.trans (congrArg some (by kernel_rfl))
 f316:=Tryz.func163.trans (congrArg some (by kernel_rfl))
 f317:=Tryz.func210.trans (congrArg some (by kernel_rfl))
 f318:=Tryz.func212.trans (congrArg some (by kernel_rfl))
 f319:=Tryz.func213.trans (congrArg some (by kernel_rfl))
 f320:=Tryz.func214.trans (congrArg some (by kernel_rfl))
 f321:=Tryz.func201.trans (congrArg some (by kernel_rfl))
 f322:=Tryz.func202.trans (congrArg some (by kernel_rfl))
 f337:=Tryz.func215.trans (congrArg some (by kernel_rfl))
 f338:=Tryz.func216.trans (congrArg some (by kernel_rfl))
 t0:=Tryz.underlying0
 a0:=Tryz.isAgg0
 z0:=Tryz.sizeOf0
 v0:=Tryz.zeroValue0
 t2:=Tryz.underlying2
 a2:=Tryz.isAgg2
 z2:=Tryz.sizeOf2
 v2:=Tryz.zeroValue2
 t3:=Tryz.underlying3
 a3:=Tryz.isAgg3
 z3:=Tryz.sizeOf3
 v3:=Tryz.zeroValue3
 t4:=Tryz.underlying4
 a4:=Tryz.isAgg4
 z4:=Tryz.sizeOf4
 v4:=Tryz.zeroValue4
 t5:=Tryz.underlying5
 a5:=Tryz.isAgg5
 z5:=Tryz.sizeOf5
 v5:=Tryz.zeroValue5
 t9:=Tryz.underlying9
 a9:=Tryz.isAgg9
 z9:=Tryz.sizeOf9
 v9:=Tryz.zeroValue9
 t20:=Tryz.underlying20
 a20:=Tryz.isAgg20
 z20:=Tryz.sizeOf20
 v20:=Tryz.zeroValue20
 t21:=Tryz.underlying21
 a21:=Tryz.isAgg21
 z21:=Tryz.sizeOf21
 v21:=Tryz.zeroValue21
 t37:=Tryz.underlying195
 a37:=Tryz.isAgg195
 z37:=Tryz.sizeOf195
 v37:=Tryz.zeroValue195
 t46:=Tryz.underlying209
 a46:=Tryz.isAgg209
 z46:=Tryz.sizeOf209
 v46:=Tryz.zeroValue209
 t51:=Tryz.underlying227
 a51:=Tryz.isAgg227
 z51:=Tryz.sizeOf227
 v51:=Tryz.zeroValue227
 t53:=Tryz.underlying206
 a53:=Tryz.isAgg206
 z53:=Tryz.sizeOf206
 v53:=Tryz.zeroValue206
 t75:=Tryz.underlying190
 a75:=Tryz.isAgg190
 z75:=Tryz.sizeOf190
 v75:=Tryz.zeroValue190
 t76:=Tryz.underlying191
 a76:=Tryz.isAgg191
 z76:=Tryz.sizeOf191
 v76:=Tryz.zeroValue191
 t85:=Tryz.underlying199
 a85:=Tryz.isAgg199
 z85:=Tryz.sizeOf199
 v85:=Tryz.zeroValue199
 t127:=Tryz.underlying196
 a127:=Tryz.isAgg196
 z127:=Tryz.sizeOf196
 v127:=Tryz.zeroValue196
 t143:=Tryz.underlying216
 a143:=Tryz.isAgg216
 z143:=Tryz.sizeOf216
 v143:=Tryz.zeroValue216
 t145:=Tryz.underlying218
 a145:=Tryz.isAgg218
 z145:=Tryz.sizeOf218
 v145:=Tryz.zeroValue218
 t167:=Tryz.underlying198
 a167:=Tryz.isAgg198
 z167:=Tryz.sizeOf198
 v167:=Tryz.zeroValue198
 t168:=Tryz.underlying201
 a168:=Tryz.isAgg201
 z168:=Tryz.sizeOf201
 v168:=Tryz.zeroValue201
 t171:=Tryz.underlying221
 a171:=Tryz.isAgg221
 z171:=Tryz.sizeOf221
 v171:=Tryz.zeroValue221
 t173:=Tryz.underlying224
 a173:=Tryz.isAgg224
 z173:=Tryz.sizeOf224
 v173:=Tryz.zeroValue224
 t175:=Tryz.underlying207
 a175:=Tryz.isAgg207
 z175:=Tryz.sizeOf207
 v175:=Tryz.zeroValue207
 t210:=Tryz.underlying211
 a210:=Tryz.isAgg211
 z210:=Tryz.sizeOf211
 v210:=Tryz.zeroValue211
 t212:=Tryz.underlying226
 a212:=Tryz.isAgg226
 z212:=Tryz.sizeOf226
 v212:=Tryz.zeroValue226
 t213:=Tryz.underlying228
 a213:=Tryz.isAgg228
 z213:=Tryz.sizeOf228
 t232:=Tryz.underlying231
 a232:=Tryz.isAgg231
 z232:=Tryz.sizeOf231
 v232:=Tryz.zeroValue231
 t233:=Tryz.underlying232
 a233:=Tryz.isAgg232
 z233:=Tryz.sizeOf232
 v233:=Tryz.zeroValue232
 g15:=by kernel_rfl
 g16:=by kernel_rfl
 g17:=by kernel_rfl
 g18:=by kernel_rfl
 g19:=by kernel_rfl}
open Go.RowKit in
theorem Tryz.strconv_Atoi(s:ByteArray)(n:Int)(hl:s.size≤18)(h:Lib.atoi s.data.toList=some n)(w:World):
 Calls Tryz.prog 164 #[.string s] w fun e w'=>e=.returned (.tuple #[.int .i64 n,.nilIface])∧∃ t,w' = Lib.bytesWorld w 5 t:=Any.strconv_Atoi Tryz.aby s n hl h w
def Tryz.RS:Go.Shelf.Ren:=⟨fun|316=>163|n=>n,fun|9=>9|3=>3|4=>4|37=>195|0=>0|127=>196|5=>5|n=>n,fun|n=>n⟩
theorem Tryz.ZO:Go.Proofs.LaysM.n316 Tryz.prog Tryz.RS:={
 mixed:=by kernel_rfl
 f316:=Tryz.func163.trans (congrArg some (by kernel_rfl))
 t0:=Tryz.underlying0
 a0:=Tryz.isAgg0
 z0:=Tryz.sizeOf0
 v0:=Tryz.zeroValue0
 t3:=Tryz.underlying3
 a3:=Tryz.isAgg3
 z3:=Tryz.sizeOf3
 v3:=Tryz.zeroValue3
 t4:=Tryz.underlying4
 a4:=Tryz.isAgg4
 z4:=Tryz.sizeOf4
 v4:=Tryz.zeroValue4
 t9:=Tryz.underlying9
 a9:=Tryz.isAgg9
 z9:=Tryz.sizeOf9
 v9:=Tryz.zeroValue9
 t37:=Tryz.underlying195
 a37:=Tryz.isAgg195
 z37:=Tryz.sizeOf195
 v37:=Tryz.zeroValue195
 t127:=Tryz.underlying196
 a127:=Tryz.isAgg196
 z127:=Tryz.sizeOf196
 v127:=Tryz.zeroValue196
 t5:=Tryz.underlying5
 a5:=Tryz.isAgg5
 z5:=Tryz.sizeOf5
 v5:=Tryz.zeroValue5
 i0:=by kernel_rfl
 i3:=by kernel_rfl
 i4:=by kernel_rfl
 i5:=by kernel_rfl
 i9:=by kernel_rfl
 i37:=by kernel_rfl
 i127:=by kernel_rfl}
open Go.RowKit in
theorem Tryz.stringslite_Clone(s:ByteArray)(w:World)(Kk:s.size≤281474976710656):
 Calls Tryz.prog 163 #[.string s] w fun e w'=>e=.returned (.string s)∧Below w.heap.size w w':=Any.stringslite_Clone Tryz.ZO s w Kk
def Tryz.Ve:Go.Shelf.Ren:=⟨fun|99=>165|206=>177|n=>n,fun|9=>9|4=>4|3=>3|n=>n,fun|n=>n⟩
theorem Tryz.adT:Go.Proofs.Lays.n99 Tryz.prog Tryz.Ve:={
 mixed:=by kernel_rfl
 f99:=Tryz.func165.trans (congrArg some (by kernel_rfl))
 f206:=Tryz.func177.trans (congrArg some (by kernel_rfl))
 t3:=Tryz.underlying3
 a3:=Tryz.isAgg3
 z3:=Tryz.sizeOf3
 v3:=Tryz.zeroValue3
 t4:=Tryz.underlying4
 a4:=Tryz.isAgg4
 z4:=Tryz.sizeOf4
 v4:=Tryz.zeroValue4
 t9:=Tryz.underlying9
 a9:=Tryz.isAgg9
 z9:=Tryz.sizeOf9
 v9:=Tryz.zeroValue9}
open Go.RowKit Go.Lib in
theorem Tryz.strings_HasPrefix(s p:ByteArray)(w:World):
 Calls Tryz.prog 165 #[.string s,.string p] w fun e w'=>e=.returned (.bool (Lib.hasPrefix s.data.toList p.data.toList))∧w' = w:=Any.strings_HasPrefix Tryz.adT s p w
end Go.Proofs
namespace Go.Proofs
open Go.Shelf Go.RowKit
set_option maxHeartbeats 4000000
theorem NS(s:ByteArray)(w:World)(hs:0<s.size)(h:(1<s.size∧(s[0]'hs).toNat=48)∨10<s.size):
  Calls Tryz.prog 141 #[.string s] w fun e w'=>e=.returned (.tuple #[.int .i64 0,.bool false])∧w' = w:=by
 go_enter Tryz.func141,Tryz.ntmps141
 go_wp2_with fail
 all_goals first
  |(go_ret2;exact⟨rfl,rfl⟩)
  |(exfalso;rcases h with ⟨h1,h2⟩|h1<;>simp_all<;>omega)
  |skip
theorem LW(s:ByteArray)(w:World)(hs:0<s.size)(h1:1<s.size→(s[0]'hs).toNat≠48)(h2:s.size≤10)(n:Int)(hn:Lib.atoi s.data.toList=some n):
  Calls Tryz.prog 141 #[.string s] w fun e w'=>e=.returned (.tuple (bif decide (2147483647<n) then #[.int .i64 0,.bool false] else #[.int .i64 n,.bool true]))∧∃ t,w' = Lib.bytesWorld w 5 t:=by
 go_enter Tryz.func141,Tryz.ntmps141
 go_wp2_with (go_at_call 164;refine(Tryz.strconv_Atoi s n (by omega) hn w).mono ?_;rintro e w' ⟨rfl,t,rfl⟩)
 all_goals first
  |(exfalso;simp_all<;>omega)
  |(go_ret2;refine⟨?_,_,rfl⟩;rename_i hh;simp only[hh,decide_true,cond_true];rfl)
  |(go_ret2;refine⟨?_,_,rfl⟩;rename_i hh;simp only[show ¬ 2147483647<n by omega,decide_false,cond_false];rfl)
  |skip
end Go.Proofs
namespace Go.Fx.R5
open Go Go.Proofs
theorem aer(w:World):(Instr.typeAssert .nilIface 20 131 true).run Tryz.prog w=.ok (.tuple #[.agg #[.int .i64 0,.int .i64 0],.bool false]) w:=by kernel_rfl
theorem ab7(u:Value)(w:World):(Instr.typeAssert (.iface 131 u) 20 131 true).run Tryz.prog w=.ok (.tuple #[u,.bool true]) w:=by kernel_rfl
def clA(p2 p3:Addr)(l:List Value):Act:={tmps:=(Value.pointer (some p2)::Value.pointer (some p3)::l).toArray,defers:=[]}
theorem U2(p2 p3:Addr)(w:World):
  CallsD Tryz.prog 59 #[.pointer (some p2),.pointer (some p3)] .returning w fun e u' w'=>e=.returned (.tuple #[])∧u' = .returning∧w' = w.alloc (.cells #[.int .i64 0,.int .i64 0] 131):=by
 refine callsD_of_wpS Tryz.func59 rfl fun c₀ cs hu=>?_;show Code.wpS _ _ _ {tmps:=#[Value.pointer (some p2),Value.pointer (some p3),undef,undef,undef,undef,undef,undef,undef,undef,undef,undef],defers:=[]} _ _;apply wpS_seq;apply wpS_region;simp[wpOpsS,go_sem,recoverD,hu,Exit.thenS,aer];apply wpS_seq;apply wpS_region;simp[wpOpsS,go_sem,Exit.thenS];refine wpS_cond (t:=false) (by simp[Act.eval]) ?_
 simp only[asa,aca];refine wpS_of_wp (wp_skip ?_);cases c₀;simp_all[bodyPostS,results,Tryz.results59]
theorem LG(b2 o2 b3 o3:Nat)(c a:Int)(x y z:Value)(acV:List PanicEntry)(w:World)(hb:b2≠b3)(l2:b2<w.heap.size)(l3:b3<w.heap.size)(h2:w.cell? ⟨b2,o2,none⟩=some x)(z2:w.frozen? ⟨b2,o2,none⟩=false)(h3:w.cell? ⟨b3,o3,none⟩=some y)(z3:w.frozen? ⟨b3,o3,none⟩=false)(h4:w.cell? ⟨b3,o3+1,none⟩=some z)(z4:w.frozen? ⟨b3,o3+1,none⟩=false):
  CallsD Tryz.prog 59 #[.pointer (some ⟨b2,o2,none⟩),.pointer (some ⟨b3,o3,none⟩)] (.panicking ({v:=.iface 131 (.agg #[.int .i64 c,.int .i64 a]),recovered:=false}::acV)) w fun e u' w'=>e=.returned (.tuple #[])∧u' = .panicking ({v:=.iface 131 (.agg #[.int .i64 c,.int .i64 a]),recovered:=true}::acV)∧
   w' = ((((w.alloc (.cells #[.int .i64 c,.int .i64 a] 131)).setCell ⟨b2,o2,none⟩ (.slice none 0 0)).setCell ⟨b3,o3,none⟩ (.int .i64 c)).setCell ⟨b3,o3+1,none⟩ (.int .i64 a)).drew:=by
 refine callsD_of_wpS Tryz.func59 rfl fun c₀ cs hu=>?_;show Code.wpS _ _ _ {tmps:=#[Value.pointer (some ⟨b2,o2,none⟩),Value.pointer (some ⟨b3,o3,none⟩),undef,undef,undef,undef,undef,undef,undef,undef,undef,undef],defers:=[]} _ _;apply wpS_seq;apply wpS_region;simp[wpOpsS,go_sem,recoverD,hu,Exit.thenS,ab7];apply wpS_seq;apply wpS_region;simp[wpOpsS,go_sem,Exit.thenS];refine wpS_cond (t:=true) (by simp[Act.eval]) ?_
 simp only[aua];refine wpS_of_wp ?_;have q2:(w.alloc (.cells #[.int .i64 c,.int .i64 a] 131)).cell? ⟨b2,o2,none⟩=some x:=by rw[bCa _ _ _ l2];exact h2
 have q3:(w.alloc (.cells #[.int .i64 c,.int .i64 a] 131)).cell? ⟨b3,o3,none⟩=some y:=by rw[bCa _ _ _ l3];exact h3
 have q4:(w.alloc (.cells #[.int .i64 c,.int .i64 a] 131)).cell? ⟨b3,o3+1,none⟩=some z:=by rw[bCa _ _ _ l3];exact h4
 have r2:(w.alloc (.cells #[.int .i64 c,.int .i64 a] 131)).frozen? ⟨b2,o2,none⟩=false:=by rw[cga _ _ _ l2];exact z2
 have r3:(w.alloc (.cells #[.int .i64 c,.int .i64 a] 131)).frozen? ⟨b3,o3,none⟩=false:=by rw[cga _ _ _ l3];exact z3
 have r4:(w.alloc (.cells #[.int .i64 c,.int .i64 a] 131)).frozen? ⟨b3,o3+1,none⟩=false:=by rw[cga _ _ _ l3];exact z4
 have k0:(w.alloc (.cells #[.int .i64 c,.int .i64 a] 131)).cell? ⟨w.heap.size,0,none⟩=some (.int .i64 c):=by simp[go_sem]
 have k1:(w.alloc (.cells #[.int .i64 c,.int .i64 a] 131)).cell? ⟨w.heap.size,1,none⟩=some (.int .i64 a):=by simp[go_sem]
 have n2:b2≠w.heap.size:=Nat.ne_of_lt l2;have n3:b3≠w.heap.size:=Nat.ne_of_lt l3;generalize w.alloc (.cells #[.int .i64 c,.int .i64 a] 131)=W at *;generalize w.heap.size=B at *
 go_region
 cases c₀;simp_all[bodyPostS,results,Tryz.results59]
end Go.Fx.R5
namespace Go.Fx.R5
open Go Go.Fx Go.Proofs Go.Proofs.Tryz
noncomputable section
abbrev XN:=List (Int×Int×Int×ak×List Int)
abbrev XF:=List (ak×Int×List ak×List ak×Int)
abbrev XT:=List (Int×Int×ak×Int)
abbrev XE:=List (Int×Int×Int×Int×Int)
abbrev XQ:=List (Int×Int×Int×Int)
abbrev XA:=List (ak×Int)
abbrev XL:=List (List Int)
abbrev XS:=List ak
abbrev XI:=List Int
abbrev XB:=List Bool
abbrev tN:Ty:=(.aO I (.aO I (.aO I (.aO .str (.slice I)))))
abbrev tF:Ty:=(.aO .str (.aO I (.aO (.slice .str) (.aO (.slice .str) I))))
abbrev tT:Ty:=(.aO I (.aO I (.aO .str I)))
abbrev tE:Ty:=(.aO I (.aO I (.aO I (.aO I I))))
abbrev tQ:Ty:=(.aO I (.aO I (.aO I I)))
abbrev tA:Ty:=(.aO .str I)
abbrev tP:Ty:=(.aO I I)
abbrev sN:Ty:=(.slice tN)
abbrev sF:Ty:=(.slice tF)
abbrev sT:Ty:=(.slice tT)
abbrev sE:Ty:=(.slice tE)
abbrev sQ:Ty:=(.slice tQ)
abbrev sA:Ty:=(.slice tA)
abbrev sL:Ty:=(.slice (.slice I))
abbrev sI:Ty:=(.slice I)
abbrev sS:Ty:=(.slice .str)
abbrev sB:Ty:=(.slice .bool)
abbrev tM:Ty:=(.aO sA (.aO sS sF))
abbrev tG:Ty:=(.aO (.slice .str) (.aO sS I))
theorem mix:prog.follows .mixedOrders=true:=by kernel_rfl
def xo:List ak:=[[43,37],[45,37],[42,37],[60,60],[62,62],[61,61],[33,61],[60,61],[62,61],[46,46],[43,61],[43],[45],[42],[47],[37],[38],[124],[94],[60],[62],[61],[40],[41],[123],[125],[91],[93],[44],[59]]
def Pg:List ak:=[[],[43],[45],[42],[47],[37],[38],[124],[94],[60,60],[62,62],[43,37],[45,37],[42,37]]
def gl4:List ak:=[[],[61,61],[33,61],[60],[60,61],[62],[62,61]]
def gt:Nat→Option GA
 |0=>some ⟨.str,xo⟩
 |3=>some ⟨.str,Pg⟩
 |4=>some ⟨.str,gl4⟩
 |_=>none
noncomputable def aha:List (Tb prog):=[tb 3 t3 underlying3 ⟨1,8,some I,.int .i64,[.int .i64 0]⟩,
 tb 4 t4 underlying4 ⟨1,1,some .bool,.bool,[.bool false]⟩,
 tb 5 t5 underlying5 ⟨1,1,some U,.int .u8,[.int .u8 0]⟩,
 tb 9 t9 underlying9 ⟨1,16,some .str,.str,[.string ⟨#[]⟩]⟩,
 tb 22 t22 underlying22 ⟨1,24,some sQ,.slice 77,[.slice none 0 0]⟩,
 tb 23 t23 underlying23 ⟨1,24,some (.slice (.aO .bool (.aO sI tQ))),.slice 80,[.slice none 0 0]⟩,
 tb 24 t24 underlying24 ⟨1,24,some sI,.slice 3,[.slice none 0 0]⟩,
 tb 26 t26 underlying26 ⟨2,32,some (.aO I sI),.struct [(0,3),(1,24)],[.int .i64 0,.slice none 0 0]⟩,
 tb 28 t28 underlying28 ⟨6,112,some (.aO .bool (.aO sQ (.aO (.slice (.aO .bool (.aO sI tQ))) (.aO sQ (.aO I sI))))),.struct [(0,4),(1,22),(2,23),(3,22),(4,26)],[.bool false,.slice none 0 0,.slice none 0 0,.slice none 0 0,.int .i64 0,.slice none 0 0]⟩,
 tb 33 t33 underlying33 ⟨1,8,none,.np 48,[.pointer none]⟩,
 tb 37 t37 underlying37 ⟨1,24,some sA,.slice 83,[.slice none 0 0]⟩,
 tb 38 t38 underlying38 ⟨1,24,some sS,.slice 9,[.slice none 0 0]⟩,
 tb 39 t39 underlying39 ⟨1,24,some sF,.slice 73,[.slice none 0 0]⟩,
 tb 41 t41 underlying41 ⟨3,72,some tM,.struct [(0,37),(1,38),(2,39)],[.slice none 0 0,.slice none 0 0,.slice none 0 0]⟩,
 tb 42 t42 underlying42 ⟨1,24,some sN,.slice 101,[.slice none 0 0]⟩,
 tb 43 t43 underlying43 ⟨1,24,some sB,.slice 4,[.slice none 0 0]⟩,
 tb 44 t44 underlying44 ⟨1,24,some sE,.slice 92,[.slice none 0 0]⟩,
 tb 46 t46 underlying46 ⟨4,96,some (.aO sI (.aO sI (.aO sB sE))),.struct [(0,24),(1,24),(2,43),(3,44)],[.slice none 0 0,.slice none 0 0,.slice none 0 0,.slice none 0 0]⟩,
 tb 48 t48 underlying48 ⟨9,216,some (.aO tM (.aO sN (.aO (.aO sI (.aO sI (.aO sB sE))) sB))),.struct [(0,41),(3,42),(4,46),(8,43)],[.slice none 0 0,.slice none 0 0,.slice none 0 0,.slice none 0 0,.slice none 0 0,.slice none 0 0,.slice none 0 0,.slice none 0 0,.slice none 0 0]⟩,
 tb 50 t50 underlying50 ⟨1,8,none,.np 58,[.pointer none]⟩,
 tb 52 t52 underlying52 ⟨2,16,some tP,.struct [(0,3),(1,3)],[.int .i64 0,.int .i64 0]⟩,
 tb 55 t55 underlying55 ⟨1,24,some sQ,.slice 186,[.slice none 0 0]⟩,
 tb 56 t56 underlying56 ⟨1,24,some sL,.slice 24,[.slice none 0 0]⟩,
 tb 58 t58 underlying58 ⟨13,312,some (.aO sN (.aO tM (.aO sI (.aO sI (.aO (.aO sI (.aO sI (.aO sB sE))) (.aO sQ (.aO sL sB))))))),.struct [(0,42),(1,41),(4,24),(5,24),(6,46),(10,55),(11,56),(12,43)],[.slice none 0 0,.slice none 0 0,.slice none 0 0,.slice none 0 0,.slice none 0 0,.slice none 0 0,.slice none 0 0,.slice none 0 0,.slice none 0 0,.slice none 0 0,.slice none 0 0,.slice none 0 0,.slice none 0 0]⟩,
 tb 73 t73 underlying73 ⟨5,80,some tF,.struct [(0,9),(1,3),(2,38),(3,38),(4,3)],[.string ⟨#[]⟩,.int .i64 0,.slice none 0 0,.slice none 0 0,.int .i64 0]⟩,
 tb 77 t77 underlying77 ⟨4,32,some tQ,.struct [(0,3),(1,3),(2,3),(3,3)],[.int .i64 0,.int .i64 0,.int .i64 0,.int .i64 0]⟩,
 tb 80 t80 underlying80 ⟨6,64,some (.aO .bool (.aO sI tQ)),.struct [(0,4),(1,24),(2,77)],[.bool false,.slice none 0 0,.int .i64 0,.int .i64 0,.int .i64 0,.int .i64 0]⟩,
 tb 83 t83 underlying83 ⟨2,24,some tA,.struct [(0,9),(1,3)],[.string ⟨#[]⟩,.int .i64 0]⟩,
 tb 87 t87 underlying87 ⟨1,8,none,.np 89,[.pointer none]⟩,
 tb 89 t89 underlying89 ⟨7,136,none,.struct [(0,50),(1,3),(2,46),(6,55)],[.pointer none,.int .i64 0,.slice none 0 0,.slice none 0 0,.slice none 0 0,.slice none 0 0,.slice none 0 0]⟩,
 tb 92 t92 underlying92 ⟨5,40,some tE,.struct [(0,3),(1,3),(2,3),(3,3),(4,3)],[.int .i64 0,.int .i64 0,.int .i64 0,.int .i64 0,.int .i64 0]⟩,
 tb 101 t101 underlying101 ⟨5,64,some tN,.struct [(0,3),(1,3),(2,3),(3,9),(4,24)],[.int .i64 0,.int .i64 0,.int .i64 0,.string ⟨#[]⟩,.slice none 0 0]⟩,
 tb 106 t106 underlying106 ⟨1,8,none,.np 108,[.pointer none]⟩,
 tb 108 t108 underlying108 ⟨8,152,some (.aO tM (.aO sN (.aO .str (.aO sS tP)))),.struct [(0,41),(3,42),(4,9),(5,38),(6,52)],[.slice none 0 0,.slice none 0 0,.slice none 0 0,.slice none 0 0,.string ⟨#[]⟩,.slice none 0 0,.int .i64 0,.int .i64 0]⟩,
 tb 109 t109 underlying109 ⟨1,24,some sT,.slice 153,[.slice none 0 0]⟩,
 tb 112 t112 underlying112 ⟨1,8,none,.np 114,[.pointer none]⟩,
 tb 114 t114 underlying114 ⟨7,88,some (.aO sT (.aO I (.aO I (.aO sN (.aO I tP))))),.struct [(0,109),(1,3),(2,3),(3,42),(4,3),(5,52)],[.slice none 0 0,.int .i64 0,.int .i64 0,.slice none 0 0,.int .i64 0,.int .i64 0,.int .i64 0]⟩,
 tb 116 t116 underlying116 ⟨11,248,some (.aO tM (.aO sN (.aO I (.aO (.aO sI (.aO sI (.aO sB sE))) (.aO sI sI))))),.struct [(0,41),(3,42),(4,3),(5,46),(9,24),(10,24)],[.slice none 0 0,.slice none 0 0,.slice none 0 0,.slice none 0 0,.int .i64 0,.slice none 0 0,.slice none 0 0,.slice none 0 0,.slice none 0 0,.slice none 0 0,.slice none 0 0]⟩,
 tb 117 t117 underlying117 ⟨1,8,none,.np 116,[.pointer none]⟩,
 tb 122 t122 underlying122 ⟨2,16,some tP,.struct [(0,3),(1,3)],[.int .i64 0,.int .i64 0]⟩,
 tb 125 t125 underlying125 ⟨2,16,some tP,.struct [(0,3),(1,3)],[.int .i64 0,.int .i64 0]⟩,
 tb 127 t127 underlying127 ⟨1,8,none,.np 129,[.pointer none]⟩,
 tb 129 t129 underlying129 ⟨5,72,some (.aO sT (.aO I (.aO I (.aO I sN)))),.struct [(0,109),(1,3),(2,3),(3,3),(4,42)],[.slice none 0 0,.int .i64 0,.int .i64 0,.int .i64 0,.slice none 0 0]⟩,
 tb 131 t131 underlying131 ⟨2,16,some (.one tP),.struct [(0,52)],[.int .i64 0,.int .i64 0]⟩,
 tb 133 t133 underlying133 ⟨1,8,none,.mp 9 3,[.map none]⟩,
 tb 135 t135 underlying135 ⟨1,8,none,.np 41,[.pointer none]⟩,
 tb 137 t137 underlying137 ⟨1,8,none,.np 73,[.pointer none]⟩,
 tb 140 t140 underlying140 ⟨10,184,none,.struct [(0,42),(1,41),(4,73),(9,133)],[.slice none 0 0,.slice none 0 0,.slice none 0 0,.slice none 0 0,.string ⟨#[]⟩,.int .i64 0,.slice none 0 0,.slice none 0 0,.int .i64 0,.map none]⟩,
 tb 147 t147 underlying147 ⟨6,6,some (.arr 6 .bool),.arr 6 4,[.bool false,.bool false,.bool false,.bool false,.bool false,.bool false]⟩,
 tb 148 t148 underlying148 ⟨36,36,some (.arr 6 (.arr 6 .bool)),.arr 6 147,[.bool false,.bool false,.bool false,.bool false,.bool false,.bool false,.bool false,.bool false,.bool false,.bool false,.bool false,.bool false,.bool false,.bool false,.bool false,.bool false,.bool false,.bool false,.bool false,.bool false,.bool false,.bool false,.bool false,.bool false,.bool false,.bool false,.bool false,.bool false,.bool false,.bool false,.bool false,.bool false,.bool false,.bool false,.bool false,.bool false]⟩,
 tb 153 t153 underlying153 ⟨4,40,some tT,.struct [(0,3),(1,3),(2,9),(3,3)],[.int .i64 0,.int .i64 0,.string ⟨#[]⟩,.int .i64 0]⟩,
 tb 169 t169 underlying169 ⟨1,8,none,.np 140,[.pointer none]⟩,
 tb 186 t186 underlying186 ⟨4,32,some tQ,.struct [(0,3),(1,3),(2,3),(3,3)],[.int .i64 0,.int .i64 0,.int .i64 0,.int .i64 0]⟩,
 tb 193 t193 underlying193 ⟨30,480,some (.arr 30 .str),.arr 30 9,[.string ⟨#[]⟩,.string ⟨#[]⟩,.string ⟨#[]⟩,.string ⟨#[]⟩,.string ⟨#[]⟩,.string ⟨#[]⟩,.string ⟨#[]⟩,.string ⟨#[]⟩,.string ⟨#[]⟩,.string ⟨#[]⟩,.string ⟨#[]⟩,.string ⟨#[]⟩,.string ⟨#[]⟩,.string ⟨#[]⟩,.string ⟨#[]⟩,.string ⟨#[]⟩,.string ⟨#[]⟩,.string ⟨#[]⟩,.string ⟨#[]⟩,.string ⟨#[]⟩,.string ⟨#[]⟩,.string ⟨#[]⟩,.string ⟨#[]⟩,.string ⟨#[]⟩,.string ⟨#[]⟩,.string ⟨#[]⟩,.string ⟨#[]⟩,.string ⟨#[]⟩,.string ⟨#[]⟩,.string ⟨#[]⟩]⟩,
 tb 205 t205 underlying205 ⟨1,8,none,.np 101,[.pointer none]⟩,
 tb 214 t214 underlying214 ⟨14,224,some (.arr 14 .str),.arr 14 9,[.string ⟨#[]⟩,.string ⟨#[]⟩,.string ⟨#[]⟩,.string ⟨#[]⟩,.string ⟨#[]⟩,.string ⟨#[]⟩,.string ⟨#[]⟩,.string ⟨#[]⟩,.string ⟨#[]⟩,.string ⟨#[]⟩,.string ⟨#[]⟩,.string ⟨#[]⟩,.string ⟨#[]⟩,.string ⟨#[]⟩]⟩,
 tb 220 t220 underlying220 ⟨7,112,some (.arr 7 .str),.arr 7 9,[.string ⟨#[]⟩,.string ⟨#[]⟩,.string ⟨#[]⟩,.string ⟨#[]⟩,.string ⟨#[]⟩,.string ⟨#[]⟩,.string ⟨#[]⟩]⟩]
noncomputable def aW:Prg:=⟨prog,gt,aha,mix⟩
def Hl(s p:ak):Option (Bool×Unit):=some (p.isPrefixOf s,())
def Up:iX:=BB [.str,.str] [.bool] (fun d=>Hl d.1 d.2.1) id
theorem To:mb prog gt 165 Up:=by refine⟨EI (ts:=[.str,.str]) (rs:=[.bool]) (dec:=id) rfl rfl call165 fun d y w hg h=>?_,BC _ _ _ _,xu _ _ _ _⟩;cases h;exact(strings_HasPrefix ⟨⟨d.1⟩⟩ ⟨⟨d.2.1⟩⟩ w).mono fun e w' ⟨h1,h2⟩=>⟨h1,h2 ▸ Go.RowKit.Below.refl _ _⟩
def SX:Cl aW:=⟨_,_,To⟩
def BY(s:ak):Option (ak×Unit):=bif decide (s.length≤281474976710656) then some (s,()) else none
def W6:iX:=BB [.str] [.str] (fun d=>BY d.1) id
theorem Za:mb prog gt 163 W6:=by
 refine⟨EI (ts:=[.str]) (rs:=[.str]) (dec:=id) rfl rfl call163 fun d y w hg h=>?_,BC _ _ _ _,xu _ _ _ _⟩;obtain⟨s,u⟩:=d;have h:(bif decide (s.length≤281474976710656) then some (s,()) else none)=some y:=h
 cases hb:decide (s.length≤281474976710656) with
 |false=>rw[hb] at h;cases h
 |true=>rw[hb] at h;cases h;exact stringslite_Clone ⟨⟨s⟩⟩ w (of_decide_eq_true hb)
def aa9:Cl aW:=om ⟨[⟨163,W6,Za⟩],[],[]⟩ 140 f140 func140 call140 [.str] [.str] (fun d=>BY d.1) [] (h:=fun d=>(show BY d.1=(BY d.1).bind fun r=>some (r.1,()) by unfold BY;cases decide (d.1.length≤281474976710656)<;>rfl).trans (by kernel_rfl))
def Td(s:ak):Bool:=s.all fun b=>decide (48≤b.toNat)&&decide (b.toNat≤57)
def OI(s:ak):Int:=s.foldl (fun n b=>n * 10+((b.toNat:Int) - 48)) 0
def o9(s:ak):Option (Int×Bool×Unit):=
 bif !(Td s)||s.isEmpty then none else
 bif (decide (1<s.length)&&(s.headD 0==48))||decide (10<s.length) then some (0,false,()) else
 bif decide (2147483647<OI s) then some (0,false,()) else some (OI s,true,())
def Uq:iX:=BB [.str] [I,.bool] (fun d=>o9 d.1) id
theorem Wc:∀(s:ak) (n:Nat),Td s=true→∃ m:Nat,Lib.decFrom n s=some m∧(m:Int)=s.foldl (fun n b=>n * 10+((b.toNat:Int) - 48)) (n:Int)
 |[],n,_=>⟨n,rfl,rfl⟩
 |b::s,n,h=>by
  simp only[Td,bma,Q4,bKa] at h;obtain⟨m,h1,h2⟩:=Wc s (n * 10+(b.toNat - 48)) (by simpa only[Td] using h.2)
  refine⟨m,by simp only[Lib.decFrom,Lib.digitVal,h.1,aNa,aua];exact h1,h2.trans ?_⟩
  rw[b0a]
  congr 1
  omega
theorem YM(s:ak)(h:Td s=true)(hs:s≠[]):Lib.atoi s=some (OI s):=by
 obtain⟨m,h1,h2⟩:=Wc s 0 h;cases s with
 |nil=>exact absurd rfl hs
 |cons b r=>
  have hb:48≤b.toNat:=by simp only[Td,bma,Q4,bKa] at h;exact h.1.1
  have n1:(b==45)=false:=by simp only[Q6];rintro rfl;revert hb;decide
  have n2:(b==43)=false:=by simp only[Q6];rintro rfl;revert hb;decide
  show Lib.atoi (b::r)=_;simp only[Lib.atoi,n1,n2,Lib.decNat,h1,List.isEmpty_cons,asa,aca,bBa];exact bGa some h2
theorem Tp:mb prog gt 141 Uq:=by
 refine⟨EI (ts:=[.str]) (rs:=[I,.bool]) (dec:=id) rfl rfl call141 fun d y w hg h=>?_,BC _ _ _ _,xu _ _ _ _⟩;obtain⟨s,u⟩:=d;have h:o9 s=some y:=h;unfold o9 at h;cases hd:Td s with
 |false=>rw[hd] at h;cases h
 |true=>
 cases s with
 |nil=>cases h
 |cons b r=>
 simp only[hd,cHa,List.isEmpty_cons,Bool.or_self,ana,List.headD_cons] at h;have hs:0<(⟨⟨b::r⟩⟩:ByteArray).size:=Nat.succ_pos _;have h48:((⟨⟨b::r⟩⟩:ByteArray)[0]'hs).toNat=48↔(b==48)=true:=by rw[bfa];exact⟨fun hh=>UInt8.toNat_inj.1 hh,fun hh=>by subst hh;rfl⟩
 cases hb:decide (1<(b::r).length)&&(b==48)||decide (10<(b::r).length) with
 |true=>rw[hb] at h;cases h;refine(NS ⟨⟨b::r⟩⟩ w hs ?_).mono fun e w' ⟨h1,h2⟩=>⟨h1,h2 ▸ Go.RowKit.Below.refl _ _⟩;simp only[a3a,Q4,bKa] at hb;exact hb.imp (fun q=>⟨q.1,h48.2 q.2⟩) id
 |false=>
  rw[hb] at h;simp only[aEa,Bool.and_eq_false_iff,cka] at hb;have hl:¬ 10<(⟨⟨b::r⟩⟩:ByteArray).size:=hb.2;refine(LW ⟨⟨b::r⟩⟩ w hs (fun g1 g2=>?_) (by omega) _ (YM (b::r) hd (by simp))).mono fun e w' ⟨h1,t,h2⟩=>?_
  ·rcases hb.1 with q|q
   ·exact q g1
   ·rw[h48.1 g2] at q;cases q
  ·have ago:Go.RowKit.Below w.heap.size w w':=by subst h2;exact⟨rfl,rfl,rfl,by rw[Lib.bytesWorld_size];omega,fun j hj=>Lib.bytesWorld_at_old w 5 t j hj⟩
   refine⟨?_,ago⟩;subst h1;cases hv:decide (2147483647<OI (b::r)) with
   |true=>rw[hv] at h;cases h;rfl
   |false=>rw[hv] at h;cases h;rfl
def S1:Cl aW:=⟨_,_,Tp⟩
end
end Go.Fx.R5
namespace Go.Fx.R5
open Go Go.Fx Go.Proofs Go.Proofs.Tryz
noncomputable section
def eI(aj:XT)(jj acm:Int)(bV:ak):Option (Bool×Unit):=
 aa (fun(v:Bool)=>
  some (v,())) fun cq=>
 bif decide ((cm (jj+acm))<(aj.length:Int)) then
  (bA aj (cm (jj+acm))).bind fun x1=>
  cq (x1.2.2.1==bV)
 else
  cq false
def mC:Cl aW:=ml ⟨[],[],[]⟩ 143 f143 func143 call143 [500000] ⟨⟨33,[(129,5)],[lD 129 0 sT,lI 129 1,lI 129 2,lI 129 3,lF 129 4 tN],[rP 0 129,rI 1,rD 2 .str],[]⟩,[.ret [rD 500000 .bool] []],fun c v=>eI c.1 c.2.2.1 v.2.1 v.2.2.1⟩ []
def aE(aj:XT)(jj:Int)(bV:ak):Option (Bool×Int×Unit):=
 (eI aj jj 0 bV).bind fun r1=>
 bif !r1.1 then
  some (false,jj,())
 else
  some (true,(cm (jj+1)),())
def fy:Cl aW:=ml ⟨[mC],[],[]⟩ 101 f101 func101 call101 [500000] ⟨⟨16,[(129,5)],[lD 129 0 sT,lI 129 1,lI 129 3,lF 129 4 tN],[rP 0 129,rD 1 .str,lI 129 2],[]⟩,[.ret [rD 500000 .bool,lI 129 2] []],fun c v=>aE c.1 v.2.2.1 v.2.1⟩ []
def dc(aj:XT)(aB jj:Int):Option (Int×Unit):=
 bif decide (jj<(aj.length:Int)) then
  (bA aj jj).bind fun x1=>
  some (x1.2.1,())
 else
  some (aB,())
def ez:Cl aW:=ml ⟨[],[],[]⟩ 145 f145 func145 call145 [500000] ⟨⟨28,[(129,5)],[lD 129 0 sT,lI 129 1,lI 129 2,lI 129 3,lF 129 4 tN],[rP 0 129],[]⟩,[.ret [rI 500000] []],fun c v=>dc c.1 c.2.1 c.2.2.1⟩ []
def gJ(aj:XT)(aB jj code:Int):Option (Int×Int×Unit):=
 (dc aj aB jj).bind fun r1=>
 some (code,r1.1,())
def jk:Cl aW:=ml ⟨[ez],[],[]⟩ 107 f107 func107 call107 [] ⟨⟨10,[(129,5)],[lD 129 0 sT,lI 129 1,lI 129 2,lI 129 3,lF 129 4 tN],[rP 0 129,rI 1],[]⟩,[.Az 131 [I,I]],fun c v=>gJ c.1 c.2.1 c.2.2.1 v.2.1⟩ []
def ig(aj:XT)(jj Ed:Int):Option (Bool×Unit):=
 aa (fun(v:Bool)=>
  some (v,())) fun cq=>
 bif decide (jj<(aj.length:Int)) then
  (bA aj jj).bind fun x1=>
  cq (x1.1==Ed)
 else
  cq false
def mf:Cl aW:=ml ⟨[],[],[]⟩ 144 f144 func144 call144 [500000] ⟨⟨30,[(129,5)],[lD 129 0 sT,lI 129 1,lI 129 2,lI 129 3,lF 129 4 tN],[rP 0 129,rI 1],[]⟩,[.ret [rD 500000 .bool] []],fun c v=>ig c.1 c.2.2.1 v.2.1⟩ []
def de(aj:XT)(aB jj Ed:Int):Option ((((Int×Int×ak×Int)×Int×Unit)⊕(Int×Int×Unit))):=
 (ig aj jj Ed).bind fun r1=>
 bif !r1.1 then
  (gJ aj aB jj 6).bind fun r2=>
  some (.inr (r2.1,r2.2.1,()))
 else
  (bA aj (cm ((cm (jj+1)) - 1))).bind fun x1=>
  some (.inl (x1,(cm (jj+1)),()))
def gO:Cl aW:=ml ⟨[jk,mf],[],[(4,153)]⟩ 102 f102 func102 call102 [500000] ⟨⟨29,[(129,5)],[lD 129 0 sT,lI 129 1,lI 129 3,lF 129 4 tN],[rP 0 129,rI 1,lI 129 2],[]⟩,[.ret [rD 500000 tT,lI 129 2] [],.Az 131 [I,I]],fun c v=>de c.1 c.2.1 v.2.2.1 v.2.1⟩ []
def aY(aj:XT)(aB jj:Int)(bV:ak):Option (((Int×Unit)⊕(Int×Int×Unit))):=
 (aE aj jj bV).bind fun r1=>
 bif !r1.1 then
  (gJ aj aB r1.2.1 6).bind fun r2=>
  some (.inr (r2.1,r2.2.1,()))
 else
  some (.inl (r1.2.1,()))
def gu:Cl aW:=ml ⟨[fy,jk],[],[]⟩ 103 f103 func103 call103 [] ⟨⟨10,[(129,5)],[lD 129 0 sT,lI 129 1,lI 129 3,lF 129 4 tN],[rP 0 129,rD 1 .str,lI 129 2],[]⟩,[.ret [lI 129 2] [],.Az 131 [I,I]],fun c v=>aY c.1 c.2.1 v.2.2.1 v.2.1⟩ []
def bE(az:XN)(nK:Int×Int×Int×ak×XI):Option (Int×XN×Unit):=
 (lA az ([nK])).bind fun l=>
 some ((cm ((l.length:Int) - 1)),l,())
def dF:Cl aW:=ml ⟨[],[],[(3,101)]⟩ 104 f104 func104 call104 [500000] ⟨⟨21,[(129,5)],[lD 129 0 sT,lI 129 1,lI 129 2,lI 129 3],[rP 0 129,rD 1 tN,lF 129 4 tN],[]⟩,[.ret [rI 500000,lF 129 4 tN] []],fun c v=>bE v.2.2.1 v.2.1⟩ []
def eN(aj:XT)(aB jj:Int)(az:XN)(Ed:Int):Option (((Int×Int×XN×Unit)⊕(Int×Int×Unit))):=
 (de aj aB jj 1).bind fun r=>match r with
 |.inl r1=>
  (bE az (Ed,r1.1.2.1,0,r1.1.2.2.1,[])).bind fun r3=>
  some (.inl (r3.1,r1.2.1,r3.2.1,()))
 |.inr r2=>
  some (.inr (r2.1,r2.2.1,()))
def qV:Cl aW:=ml ⟨[gO,dF],[],[(5,153)]⟩ 105 f105 func105 call105 [500000] ⟨⟨16,[(129,5)],[lD 129 0 sT,lI 129 1,lI 129 3],[rP 0 129,rI 1,lI 129 2,lF 129 4 tN],[]⟩,[.ret [rI 500000,lI 129 2,lF 129 4 tN] [],.Az 131 [I,I]],fun c v=>eN c.1 c.2.1 v.2.2.1 v.2.2.2.1 v.2.1⟩ []
def fD(aj:XT)(aB jj depth:Int):Option (((Int×Unit)⊕(Int×Int×Unit))):=
 bif decide ((cm (depth+1)) > 10) then
  (gJ aj aB jj 7).bind fun r1=>
  some (.inr (r1.1,r1.2.1,()))
 else
  some (.inl ((cm (depth+1)),()))
def kV:Cl aW:=ml ⟨[jk],[],[]⟩ 146 f146 func146 call146 [] ⟨⟨16,[(129,5)],[lD 129 0 sT,lI 129 1,lI 129 2,lF 129 4 tN],[rP 0 129,lI 129 3],[]⟩,[.ret [lI 129 3] [],.Az 131 [I,I]],fun c v=>fD c.1 c.2.1 c.2.2.1 v.2.1⟩ []
def mh(q:Nat):Nat→ak→XS→Int→Option (((Unit)⊕(Int×Unit)))
 |0,_,_,_=>none
 |k+1,Ut,t51,t61=>
  bif decide (t61<14) then
   (bA t51 t61).bind fun b=>
   aa (fun(v:Bool)=>
    bif v then
     some (.inr (t61,()))
    else
     mh q k Ut t51 (cm (t61+1))) fun cq=>
   bif decide (t61 > 0) then
    cq (b==Ut)
   else
    cq false
  else
   some (.inl ())
def E6(k:Nat)(xg:ak):Option (Int×Unit):=
 (mh k k xg Pg 0).bind fun r=>match r with
 |.inl o=>
  some (0,())
 |.inr o2=>
  some (o2.1,())
def Eh(k:Nat):lq:=⟨⟨19,[],[rD 0 .str,rD 5 (.arr 14 .str)],[rI 6],[]⟩,[.ex (.exit 0) [],.ex .ret [rI 2]],fun q c v=>mh k q c.1 c.2.1 v.1⟩
def KM(k:Nat):Ev aW:=⟨[],[lp 0 (Eh k) k],[]⟩
def MA(k q:Nat):Cd aW:=nq (KM k) f192 0 (Eh k) q []
def SZ(k:Nat):Cl aW:=om (KM k) 192 f192 func192 call192 [.str] [I] (fun d=>E6 k d.1) [MA k k]
def wR(op:Int):Option (Int×Unit):=
 bif op==7 then
  some (1,())
 else
  bif op==8 then
   some (2,())
  else
   bif op==6 then
    some (3,())
   else
    aa (fun(v:Bool)=>
     bif v then
      some (4,())
     else
      aa (fun(v2:Bool)=>
       bif v2 then
        some (5,())
       else
        some (6,())) fun ir=>
      bif op==1 then
       ir (op==1)
      else
       bif op==2 then
        ir (op==2)
       else
        bif op==11 then
         ir (op==11)
        else
         ir (op==12)) fun cq=>
    bif op==9 then
     cq (op==9)
    else
     cq (op==10)
def MQ:Cl aW:=om ⟨[],[],[]⟩ 193 f193 func193 call193 [I] [I] (fun d=>wR d.1) []
abbrev ic:=XT→Int→Int→Int→XN→Int→Option (((Int×Int×Int×XN×Unit)⊕(Int×Int×Unit)))
def oQ(f:ic):EU:=⟨⟨67,[(129,5)],[lD 129 0 sT,lI 129 1],[rP 0 129,rI 1,lI 129 2,lI 129 3,lF 129 4 tN],[]⟩,[.ret [rI 500000,lI 129 2,lI 129 3,lF 129 4 tN] [],.Az 131 [I,I]],fun c v=>f c.1 c.2.1 v.2.2.1 v.2.2.2.1 v.2.2.2.2.1 v.2.1⟩
def xN(f:ic):iX:=mP (oQ f).L (oQ f).F (BH [500000] (oQ f).V)
abbrev gN:=XT→Int→Int→Int→XN→Option (((Int×Int×Int×XN×Unit)⊕(Int×Int×Unit)))
def oi(f:gN):EU:=⟨⟨35,[(129,5)],[lD 129 0 sT,lI 129 1],[rP 0 129,lI 129 2,lI 129 3,lF 129 4 tN],[]⟩,[.ret [rI 500000,lI 129 2,lI 129 3,lF 129 4 tN] [],.Az 131 [I,I]],fun c v=>f c.1 c.2.1 v.2.1 v.2.2.1 v.2.2.2.1⟩
def wf(f:gN):iX:=mP (oi f).L (oi f).F (BH [500000] (oi f).V)
abbrev fJ:=XT→Int→Int→Int→XN→Option (((Int×Int×Int×XN×Unit)⊕(Int×Int×Unit)))
def mZ(f:fJ):EU:=⟨⟨78,[(129,5)],[lD 129 0 sT,lI 129 1],[rP 0 129,lI 129 2,lI 129 3,lF 129 4 tN],[]⟩,[.ret [rI 500000,lI 129 2,lI 129 3,lF 129 4 tN] [],.Az 131 [I,I]],fun c v=>f c.1 c.2.1 v.2.1 v.2.2.1 v.2.2.2.1⟩
def ue(f:fJ):iX:=mP (mZ f).L (mZ f).F (BH [500000] (mZ f).V)
def dN(bD:ic)(bJ:gN)(bH:fJ)(q:Nat):Nat→XT→Int→Int→Int→Int→XN→Int→Option (((Int×Int×XN×Int×Unit)⊕(Int×Int×Unit)))
 |0,_,_,_,_,_,_,_=>none
 |k+1,cN,fG,Vg,sP,ov,bX,left=>
  bif decide (sP<(cN.length:Int)) then
   (bA cN sP).bind fun x1=>
   (E6 q x1.2.2.1).bind fun r5=>
   aa (fun(v:Bool)=>
    bif v then
     some (.inl (sP,ov,bX,left,()))
    else
     (dc cN fG sP).bind fun r7=>
     (bD cN fG (cm (sP+1)) ov bX (cm (Vg+1))).bind fun r=>match r with
     |.inl r8=>
      (bE r8.2.2.2.1 (28,r7.1,r5.1,([]:ak),[left,r8.1])).bind fun mw=>
      dN bD bJ bH q k cN fG Vg r8.2.1 r8.2.2.1 mw.2.1 mw.1
     |.inr r9=>
      some (.inr (r9.1,r9.2.1,()))) fun cq=>
   bif r5.1==0 then
    cq true
   else
    (wR r5.1).bind fun r6=>
    cq (r6.1 != Vg)
  else
   some (.inl (sP,ov,bX,left,()))
def ii(bD:ic)(bJ:gN)(bH:fJ)(k:Nat)(aj:XT)(aB jj depth:Int)(az:XN)(vB:Int):Option (((Int×Int×Int×XN×Unit)⊕(Int×Int×Unit))):=
 bif decide (vB > 6) then
  (bJ aj aB jj depth az).bind fun r=>match r with
  |.inl r1=>
   some (.inl (r1.1,r1.2.1,r1.2.2.1,r1.2.2.2.1,()))
  |.inr r2=>
   some (.inr (r2.1,r2.2.1,()))
 else
  (bD aj aB jj depth az (cm (vB+1))).bind fun r=>match r with
  |.inl r3=>
   (dN bD bJ bH k k aj aB vB r3.2.1 r3.2.2.1 r3.2.2.2.1 r3.1).bind fun r=>match r with
   |.inl o=>
    some (.inl (o.2.2.2.1,o.1,o.2.1,o.2.2.1,()))
   |.inr o2=>
    some (.inr (o2.1,o2.2.1,()))
  |.inr r4=>
   some (.inr (r4.1,r4.2.1,()))
def gQ(bD:ic)(bJ:gN)(bH:fJ)(k:Nat)(aj:XT)(aB jj depth:Int)(az:XN):Option (((Int×Int×Int×XN×Unit)⊕(Int×Int×Unit))):=
 (dc aj aB jj).bind fun r1=>
 (aE aj jj ([45]:ak)).bind fun r2=>
 bif !r2.1 then
  (bH aj aB r2.2.1 depth az).bind fun r=>match r with
  |.inl r3=>
   some (.inl (r3.1,r3.2.1,r3.2.2.1,r3.2.2.2.1,()))
  |.inr r4=>
   some (.inr (r4.1,r4.2.1,()))
 else
  (fD aj aB r2.2.1 depth).bind fun r=>match r with
  |.inl r5=>
   (bE az (24,r1.1,0,([]:ak),[])).bind fun r7=>
   (bJ aj aB r2.2.1 r5.1 r7.2.1).bind fun r=>match r with
   |.inl r8=>
    (bE r8.2.2.2.1 (28,r1.1,2,([]:ak),[r7.1,r8.1])).bind fun mw=>
    some (.inl (mw.1,r8.2.1,(cm (r8.2.2.1 - 1)),mw.2.1,()))
   |.inr r9=>
    some (.inr (r9.1,r9.2.1,()))
  |.inr r6=>
   some (.inr (r6.1,r6.2.1,()))
def bQ(bD:ic)(bJ:gN)(bH:fJ)(k:Nat)(aj:XT)(aB jj depth:Int)(az:XN):Option (((Int×Int×Int×XN×Unit)⊕(Int×Int×Unit))):=
 (dc aj aB jj).bind fun r1=>
 (ig aj jj 2).bind fun r2=>
 bif r2.1 then
  (de aj aB jj 2).bind fun r=>match r with
  |.inl r3=>
   (bE az (24,r1.1,r3.1.2.2.2,([]:ak),[])).bind fun r5=>
   some (.inl (r5.1,r3.2.1,depth,r5.2.1,()))
  |.inr r4=>
   some (.inr (r4.1,r4.2.1,()))
 else
  (aE aj jj ([42]:ak)).bind fun r6=>
  bif r6.1 then
   (de aj aB r6.2.1 1).bind fun r=>match r with
   |.inl r7=>
    (bE az (27,r1.1,0,r7.1.2.2.1,[])).bind fun r9=>
    some (.inl (r9.1,r7.2.1,depth,r9.2.1,()))
   |.inr r8=>
    some (.inr (r8.1,r8.2.1,()))
  else
   (aE aj r6.2.1 ([40]:ak)).bind fun mw=>
   bif mw.1 then
    (fD aj aB mw.2.1 depth).bind fun r=>match r with
    |.inl po=>
     (bD aj aB mw.2.1 po.1 az 1).bind fun r=>match r with
     |.inl sM=>
      (aY aj aB sM.2.1 ([41]:ak)).bind fun r=>match r with
      |.inl sa=>
       some (.inl (sM.1,sa.1,(cm (sM.2.2.1 - 1)),sM.2.2.2.1,()))
      |.inr t7=>
       some (.inr (t7.1,t7.2.1,()))
     |.inr sW=>
      some (.inr (sW.1,sW.2.1,()))
    |.inr qY=>
     some (.inr (qY.1,qY.2.1,()))
   else
    (de aj aB mw.2.1 1).bind fun r=>match r with
    |.inl xe=>
     (aE aj xe.2.1 ([91]:ak)).bind fun sX=>
     bif !sX.1 then
      (bE az (25,r1.1,0,xe.1.2.2.1,[])).bind fun yP=>
      some (.inl (yP.1,sX.2.1,depth,yP.2.1,()))
     else
      (fD aj aB sX.2.1 depth).bind fun r=>match r with
      |.inl BJ=>
       (bD aj aB sX.2.1 BJ.1 az 1).bind fun r=>match r with
       |.inl OQ=>
        (aY aj aB OQ.2.1 ([93]:ak)).bind fun r=>match r with
        |.inl r25=>
         (bE OQ.2.2.2.1 (26,r1.1,0,xe.1.2.2.1,[OQ.1])).bind fun r27=>
         some (.inl (r27.1,r25.1,(cm (OQ.2.2.1 - 1)),r27.2.1,()))
        |.inr r26=>
         some (.inr (r26.1,r26.2.1,()))
       |.inr JD=>
        some (.inr (JD.1,JD.2.1,()))
      |.inr PH=>
       some (.inr (PH.1,PH.2.1,()))
    |.inr sO=>
     some (.inr (sO.1,sO.2.1,()))
def du:Nat→ic×gN×fJ
 |0=>(fun _ _ _ _ _ _=>none,fun _ _ _ _ _=>none,fun _ _ _ _ _=>none)
 |k+1=>(ii (du k).1 (du k).2.1 (du k).2.2 k,gQ (du k).1 (du k).2.1 (du k).2.2 k,bQ (du k).1 (du k).2.1 (du k).2.2 k)
def ai(k:Nat):ic:=(du k).1
def fh(k:Nat):gN:=(du k).2.1
def fM(k:Nat):fJ:=(du k).2.2
section
variable (bD:Gd aW 179 xN) (bJ:Gd aW 191 wf) (bH:Gd aW 199 ue)
def uj(k:Nat):lq:=⟨⟨67,[(129,5)],[lD 129 0 sT,lI 129 1,rP 0 129,rI 1],[lI 129 2,lI 129 3,lF 129 4 tN,rI 5],[]⟩,[.ex (.exit 0) [lI 129 2,lI 129 3,lF 129 4 tN,rI 5],.Az 131 [I,I]],fun q c v=>dN bD.1 bJ.1 bH.1 k q c.1 c.2.1 c.2.2.2.1 v.1 v.2.1 v.2.2.1 v.2.2.2.1⟩
def xB(k:Nat):Ev aW:=⟨[dF,ez,bD.cl,bJ.cl,SZ k,MQ],[lp 0 (uj bD bJ bH k) k],[]⟩
def Dd(k q:Nat):Cd aW:=nq (xB bD bJ bH k) f179 0 (uj bD bJ bH k) q []
def Hj(k:Nat):Cl aW:=ml (xB bD bJ bH k) 179 f179 func179 call179 [500000] (oQ (ii bD.1 bJ.1 bH.1 k)) [Dd bD bJ bH k k]
def FL(k:Nat):Cl aW:=ml ⟨[fy,dF,ez,kV,bJ.cl,bH.cl],[],[]⟩ 191 f191 func191 call191 [500000] (oi (gQ bD.1 bJ.1 bH.1 k)) []
def Do(k:Nat):Cl aW:=ml ⟨[fy,gO,gu,dF,mf,ez,kV,bD.cl],[],[(5,153)]⟩ 199 f199 func199 call199 [500000] (mZ (bQ bD.1 bJ.1 bH.1 k)) []
end
theorem lu:∀ k,mb prog gt 179 (xN (ai k))∧mb prog gt 191 (wf (fh k))∧mb prog gt 199 (ue (fM k))
 |0=>⟨dj (fun _ _=>rfl),dj (fun _ _=>rfl),dj (fun _ _=>rfl)⟩
 |k+1=>have ih:=lu k;⟨(Hj ⟨_,ih.1⟩ ⟨_,ih.2.1⟩ ⟨_,ih.2.2⟩ k).ok,(FL ⟨_,ih.1⟩ ⟨_,ih.2.1⟩ ⟨_,ih.2.2⟩ k).ok,(Do ⟨_,ih.1⟩ ⟨_,ih.2.1⟩ ⟨_,ih.2.2⟩ k).ok⟩
def mD(k:Nat):Cl aW:=⟨_,_,(lu k).1⟩
def UP(k:Nat):Cl aW:=⟨_,_,(lu k).2.1⟩
def SB(k:Nat):Cl aW:=⟨_,_,(lu k).2.2⟩
def cW(q:Nat):Nat→XT→Int→XI→Int→Int→XN→Option (((XI×Int×Int×XN×Unit)⊕(Int×Int×Unit)))
 |0,_,_,_,_,_,_=>none
 |k+1,cN,fG,acj,sP,ov,bX=>
  (aE cN sP ([44]:ak)).bind fun sX=>
  bif sX.1 then
   (ai q cN fG sX.2.1 ov bX 1).bind fun r=>match r with
   |.inl yP=>
    (lA acj ([yP.1])).bind fun l2=>
    cW q k cN fG l2 yP.2.1 yP.2.2.1 yP.2.2.2.1
   |.inr BJ=>
    some (.inr (BJ.1,BJ.2.1,()))
  else
   some (.inl (acj,sX.2.1,ov,bX,()))
def dX(k:Nat)(aj:XT)(aB jj depth:Int)(az:XN):Option (((Int×XI×Int×Int×XN×Unit)⊕(Int×Int×Unit))):=
 (aE aj jj ([38]:ak)).bind fun r1=>
 bif r1.1 then
  (eN aj aB r1.2.1 az 23).bind fun r=>match r with
  |.inl r2=>
   (aY aj aB r2.2.1 ([91]:ak)).bind fun r=>match r with
   |.inl r4=>
    (ai k aj aB r4.1 depth r2.2.2.1 1).bind fun r=>match r with
    |.inl r6=>
     (aY aj aB r6.2.1 ([93]:ak)).bind fun r=>match r with
     |.inl r8=>
      some (.inl (12,[r2.1,r6.1],r8.1,r6.2.2.1,r6.2.2.2.1,()))
     |.inr r9=>
      some (.inr (r9.1,r9.2.1,()))
    |.inr r7=>
     some (.inr (r7.1,r7.2.1,()))
   |.inr r5=>
    some (.inr (r5.1,r5.2.1,()))
  |.inr r3=>
   some (.inr (r3.1,r3.2.1,()))
 else
  (ig aj r1.2.1 1).bind fun mw=>
  aa (fun(v:Bool)=>
   bif v then
    (eN aj aB r1.2.1 az 23).bind fun r=>match r with
    |.inl qY=>
     (aY aj aB qY.2.1 ([40]:ak)).bind fun r=>match r with
     |.inl sW=>
      (aE aj sW.1 ([41]:ak)).bind fun t7=>
      bif t7.1 then
       some (.inl (22,[qY.1],t7.2.1,depth,qY.2.2.1,()))
      else
       (ai k aj aB t7.2.1 depth qY.2.2.1 1).bind fun r=>match r with
       |.inl xe=>
        (lA ([qY.1]) ([xe.1])).bind fun l=>
        (cW k k aj aB l xe.2.1 xe.2.2.1 xe.2.2.2.1).bind fun r=>match r with
        |.inl o=>
         (aY aj aB o.2.1 ([41]:ak)).bind fun r=>match r with
         |.inl sX=>
          some (.inl (22,o.1,sX.1,o.2.2.1,o.2.2.2.1,()))
         |.inr yP=>
          some (.inr (yP.1,yP.2.1,()))
        |.inr o2=>
         some (.inr (o2.1,o2.2.1,()))
       |.inr sO=>
        some (.inr (sO.1,sO.2.1,()))
     |.inr sa=>
      some (.inr (sa.1,sa.2.1,()))
    |.inr sM=>
     some (.inr (sM.1,sM.2.1,()))
   else
    (eI aj r1.2.1 0 ([110,117,108,108]:ak)).bind fun BJ=>
    bif BJ.1 then
     (dc aj aB r1.2.1).bind fun PH=>
     (bE az (29,PH.1,0,([]:ak),[])).bind fun OQ=>
     some (.inl (9,[OQ.1],(cm (r1.2.1+1)),depth,OQ.2.1,()))
    else
     (ai k aj aB r1.2.1 depth az 1).bind fun r=>match r with
     |.inl JD=>
      some (.inl (9,[JD.1],JD.2.1,JD.2.2.1,JD.2.2.2.1,()))
     |.inr r25=>
      some (.inr (r25.1,r25.2.1,()))) fun cq=>
  bif mw.1 then
   (eI aj r1.2.1 1 ([40]:ak)).bind fun po=>
   cq po.1
  else
   cq false
def tt(k:Nat):lq:=⟨⟨101,[(101,5),(129,5)],[lI 101 0,lI 101 1,lI 101 2,lD 101 3 .str,lD 129 0 sT,lI 129 1,rP 0 129,rP 1 101],[lF 101 4 I,lI 129 2,lI 129 3,lF 129 4 tN],[]⟩,[.ex (.exit 1) [lF 101 4 I,lI 129 2,lI 129 3,lF 129 4 tN],.Az 131 [I,I]],fun q c v=>cW k q c.2.2.2.2.1 c.2.2.2.2.2.1 v.1 v.2.1 v.2.2.1 v.2.2.2.1⟩
def wc(k:Nat):Ev aW:=⟨[fy,gu,dF,qV,mC,mf,ez,mD k],[lp 1 (tt k) k],[]⟩
def BL(k q:Nat):Cd aW:=nq (wc k) f190 1 (tt k) q []
def FF(k:Nat):Cl aW:=ml (wc k) 190 f190 func190 call190 [] ⟨⟨101,[(129,5),(101,5)],[lD 129 0 sT,lI 129 1,lI 101 1,lI 101 2,lD 101 3 .str],[rP 0 129,rP 1 101,lI 129 2,lI 129 3,lF 129 4 tN,lI 101 0,lF 101 4 I],[]⟩,[.ret [lI 101 0,lF 101 4 I,lI 129 2,lI 129 3,lF 129 4 tN] [],.Az 131 [I,I]],fun c v=>dX k c.1 c.2.1 v.2.2.1 v.2.2.2.1 v.2.2.2.2.1⟩ [BL k k]
def cp(k:Nat)(aj:XT)(aB jj depth:Int)(az:XN):Option (((Int×Int×Int×XN×Unit)⊕(Int×Int×Unit))):=
 (de aj aB jj 1).bind fun r=>match r with
 |.inl r1=>
  aa (fun(jv:Int×Int×XN×Int×XI)=>
   (aY aj aB (jv.1) ([59]:ak)).bind fun r=>match r with
   |.inl sX=>
    (bE (jv.2.2.1) ((jv.2.2.2.1),r1.1.2.1,0,r1.1.2.2.1,(jv.2.2.2.2))).bind fun BJ=>
    some (.inl (BJ.1,sX.1,(jv.2.1),BJ.2.1,()))
   |.inr yP=>
    some (.inr (yP.1,yP.2.1,()))) fun cq=>
  (aE aj r1.2.1 ([61]:ak)).bind fun r3=>
  bif r3.1 then
   (dX k aj aB r3.2.1 depth az).bind fun r=>match r with
   |.inl r4=>
    cq (r4.2.2.1,r4.2.2.2.1,r4.2.2.2.2.1,r4.1,r4.2.1)
   |.inr r5=>
    some (.inr (r5.1,r5.2.1,()))
  else
   (aE aj r3.2.1 ([43,61]:ak)).bind fun r6=>
   bif r6.1 then
    (ai k aj aB r6.2.1 depth az 1).bind fun r=>match r with
    |.inl r7=>
     cq (r7.2.1,r7.2.2.1,r7.2.2.2.1,13,[r7.1])
    |.inr r8=>
     some (.inr (r8.1,r8.2.1,()))
   else
    (aE aj r6.2.1 ([91]:ak)).bind fun r9=>
    bif r9.1 then
     (ai k aj aB r9.2.1 depth az 1).bind fun r=>match r with
     |.inl mw=>
      (aY aj aB mw.2.1 ([93]:ak)).bind fun r=>match r with
      |.inl qY=>
       (aY aj aB qY.1 ([61]:ak)).bind fun r=>match r with
       |.inl sW=>
        (ai k aj aB sW.1 mw.2.2.1 mw.2.2.2.1 1).bind fun r=>match r with
        |.inl t7=>
         cq (t7.2.1,t7.2.2.1,t7.2.2.2.1,10,[mw.1,t7.1])
        |.inr xe=>
         some (.inr (xe.1,xe.2.1,()))
       |.inr sa=>
        some (.inr (sa.1,sa.2.1,()))
      |.inr sM=>
       some (.inr (sM.1,sM.2.1,()))
     |.inr po=>
      some (.inr (po.1,po.2.1,()))
    else
     (gJ aj aB r9.2.1 6).bind fun sO=>
     some (.inr (sO.1,sO.2.1,()))
 |.inr r2=>
  some (.inr (r2.1,r2.2.1,()))
def Dl(k:Nat):Cl aW:=ml ⟨[fy,gO,gu,dF,jk,mD k,FF k],[],[(3,153),(4,101)]⟩ 178 f178 func178 call178 [500000] ⟨⟨48,[(129,5)],[lD 129 0 sT,lI 129 1],[rP 0 129,lI 129 2,lI 129 3,lF 129 4 tN],[]⟩,[.ret [rI 500000,lI 129 2,lI 129 3,lF 129 4 tN] [],.Az 131 [I,I]],fun c v=>cp k c.1 c.2.1 v.2.1 v.2.2.1 v.2.2.2.1⟩ []
def kM(q:Nat):Nat→ak→XS→Int→Option (((Unit)⊕(Int×Unit)))
 |0,_,_,_=>none
 |k+1,Ut,t51,t61=>
  bif decide (t61<7) then
   (bA t51 t61).bind fun b=>
   aa (fun(v:Bool)=>
    bif v then
     some (.inr (t61,()))
    else
     kM q k Ut t51 (cm (t61+1))) fun cq=>
   bif decide (t61 > 0) then
    cq (b==Ut)
   else
    cq false
  else
   some (.inl ())
def B9(k:Nat)(xg:ak):Option (Int×Unit):=
 (kM k k xg gl4 0).bind fun r=>match r with
 |.inl o=>
  some (0,())
 |.inr o2=>
  some (o2.1,())
def C0(k:Nat):lq:=⟨⟨19,[],[rD 0 .str,rD 5 (.arr 7 .str)],[rI 6],[]⟩,[.ex (.exit 0) [],.ex .ret [rI 2]],fun q c v=>kM k q c.1 c.2.1 v.1⟩
def Ig(k:Nat):Ev aW:=⟨[],[lp 0 (C0 k) k],[]⟩
def Lh(k q:Nat):Cd aW:=nq (Ig k) f204 0 (C0 k) q []
def Re(k:Nat):Cl aW:=om (Ig k) 204 f204 func204 call204 [.str] [I] (fun d=>B9 k d.1) [Lh k k]
end
end Go.Fx.R5
namespace Go.Fx.R5
open Go Go.Fx Go.Proofs Go.Proofs.Tryz
noncomputable section
abbrev gp:=XT→Int→Int→Int→XN→Option (((Int×Int×Int×XN×Unit)⊕(Int×Int×Unit)))
def oO(f:gp):EU:=⟨⟨27,[(129,5)],[lD 129 0 sT,lI 129 1],[rP 0 129,lI 129 2,lI 129 3,lF 129 4 tN],[]⟩,[.ret [rI 500000,lI 129 2,lI 129 3,lF 129 4 tN] [],.Az 131 [I,I]],fun c v=>f c.1 c.2.1 v.2.1 v.2.2.1 v.2.2.2.1⟩
def xL(f:gp):iX:=mP (oO f).L (oO f).F (BH [500000] (oO f).V)
abbrev gn:=XT→Int→Int→Int→XN→Option (((Int×Int×Int×XN×Unit)⊕(Int×Int×Unit)))
def oN(f:gn):EU:=⟨⟨27,[(129,5)],[lD 129 0 sT,lI 129 1],[rP 0 129,lI 129 2,lI 129 3,lF 129 4 tN],[]⟩,[.ret [rI 500000,lI 129 2,lI 129 3,lF 129 4 tN] [],.Az 131 [I,I]],fun c v=>f c.1 c.2.1 v.2.1 v.2.2.1 v.2.2.2.1⟩
def xK(f:gn):iX:=mP (oN f).L (oN f).F (BH [500000] (oN f).V)
abbrev gq:=XT→Int→Int→Int→XN→Option (((Int×Int×Int×XN×Unit)⊕(Int×Int×Unit)))
def oP(f:gq):EU:=⟨⟨103,[(129,5)],[lD 129 0 sT,lI 129 1],[rP 0 129,lI 129 2,lI 129 3,lF 129 4 tN],[]⟩,[.ret [rI 500000,lI 129 2,lI 129 3,lF 129 4 tN] [],.Az 131 [I,I]],fun c v=>f c.1 c.2.1 v.2.1 v.2.2.1 v.2.2.2.1⟩
def xM(f:gq):iX:=mP (oP f).L (oP f).F (BH [500000] (oP f).V)
def eX(aQ:gp)(aL:gn)(aH:gq)(q:Nat):Nat→XT→Int→Int→Int→XN→Int→Option (((Int×Int×XN×Int×Unit)⊕(Int×Int×Unit)))
 |0,_,_,_,_,_,_=>none
 |k+1,cN,fG,sP,ov,bX,left=>
  (eI cN sP 0 ([111,114]:ak)).bind fun r3=>
  bif r3.1 then
   (dc cN fG sP).bind fun r4=>
   (aL cN fG (cm (sP+1)) ov bX).bind fun r=>match r with
   |.inl r5=>
    (bE r5.2.2.2.1 (32,r4.1,0,([]:ak),[left,r5.1])).bind fun r7=>
    eX aQ aL aH q k cN fG r5.2.1 r5.2.2.1 r7.2.1 r7.1
   |.inr r6=>
    some (.inr (r6.1,r6.2.1,()))
  else
   some (.inl (sP,ov,bX,left,()))
def kz(aQ:gp)(aL:gn)(aH:gq)(k:Nat)(aj:XT)(aB jj depth:Int)(az:XN):Option (((Int×Int×Int×XN×Unit)⊕(Int×Int×Unit))):=
 (aL aj aB jj depth az).bind fun r=>match r with
 |.inl r1=>
  (eX aQ aL aH k k aj aB r1.2.1 r1.2.2.1 r1.2.2.2.1 r1.1).bind fun r=>match r with
  |.inl o=>
   some (.inl (o.2.2.2.1,o.1,o.2.1,o.2.2.1,()))
  |.inr o2=>
   some (.inr (o2.1,o2.2.1,()))
 |.inr r2=>
  some (.inr (r2.1,r2.2.1,()))
def eW(aQ:gp)(aL:gn)(aH:gq)(q:Nat):Nat→XT→Int→Int→Int→XN→Int→Option (((Int×Int×XN×Int×Unit)⊕(Int×Int×Unit)))
 |0,_,_,_,_,_,_=>none
 |k+1,cN,fG,sP,ov,bX,left=>
  (eI cN sP 0 ([97,110,100]:ak)).bind fun r3=>
  bif r3.1 then
   (dc cN fG sP).bind fun r4=>
   (aH cN fG (cm (sP+1)) ov bX).bind fun r=>match r with
   |.inl r5=>
    (bE r5.2.2.2.1 (31,r4.1,0,([]:ak),[left,r5.1])).bind fun r7=>
    eW aQ aL aH q k cN fG r5.2.1 r5.2.2.1 r7.2.1 r7.1
   |.inr r6=>
    some (.inr (r6.1,r6.2.1,()))
  else
   some (.inl (sP,ov,bX,left,()))
def ky(aQ:gp)(aL:gn)(aH:gq)(k:Nat)(aj:XT)(aB jj depth:Int)(az:XN):Option (((Int×Int×Int×XN×Unit)⊕(Int×Int×Unit))):=
 (aH aj aB jj depth az).bind fun r=>match r with
 |.inl r1=>
  (eW aQ aL aH k k aj aB r1.2.1 r1.2.2.1 r1.2.2.2.1 r1.1).bind fun r=>match r with
  |.inl o=>
   some (.inl (o.2.2.2.1,o.1,o.2.1,o.2.2.1,()))
  |.inr o2=>
   some (.inr (o2.1,o2.2.1,()))
 |.inr r2=>
  some (.inr (r2.1,r2.2.1,()))
def cA(aQ:gp)(aL:gn)(aH:gq)(k:Nat)(aj:XT)(aB jj depth:Int)(az:XN):Option (((Int×Int×Int×XN×Unit)⊕(Int×Int×Unit))):=
 (dc aj aB jj).bind fun r1=>
 (aE aj jj ([110,111,116]:ak)).bind fun r2=>
 bif r2.1 then
  (fD aj aB r2.2.1 depth).bind fun r=>match r with
  |.inl r3=>
   (aH aj aB r2.2.1 r3.1 az).bind fun r=>match r with
   |.inl r5=>
    (bE r5.2.2.2.1 (33,r1.1,0,([]:ak),[r5.1])).bind fun r7=>
    some (.inl (r7.1,r5.2.1,(cm (r5.2.2.1 - 1)),r7.2.1,()))
   |.inr r6=>
    some (.inr (r6.1,r6.2.1,()))
  |.inr r4=>
   some (.inr (r4.1,r4.2.1,()))
 else
  (aE aj r2.2.1 ([91]:ak)).bind fun r8=>
  bif r8.1 then
   (fD aj aB r8.2.1 depth).bind fun r=>match r with
   |.inl r9=>
    (aQ aj aB r8.2.1 r9.1 az).bind fun r=>match r with
    |.inl po=>
     (aY aj aB po.2.1 ([93]:ak)).bind fun r=>match r with
     |.inl sM=>
      some (.inl (po.1,sM.1,(cm (po.2.2.1 - 1)),po.2.2.2.1,()))
     |.inr sW=>
      some (.inr (sW.1,sW.2.1,()))
    |.inr qY=>
     some (.inr (qY.1,qY.2.1,()))
   |.inr mw=>
    some (.inr (mw.1,mw.2.1,()))
  else
   (aE aj r8.2.1 ([110,117,108,108]:ak)).bind fun sa=>
   bif sa.1 then
    (de aj aB sa.2.1 1).bind fun r=>match r with
    |.inl t7=>
     (bE az (34,r1.1,0,t7.1.2.2.1,[])).bind fun sO=>
     some (.inl (sO.1,t7.2.1,depth,sO.2.1,()))
    |.inr xe=>
     some (.inr (xe.1,xe.2.1,()))
   else
    (ai k aj aB sa.2.1 depth az 1).bind fun r=>match r with
    |.inl sX=>
     (dc aj aB sX.2.1).bind fun BJ=>
     aa (fun(cmp:Int)=>
      bif cmp==0 then
       (gJ aj aB sX.2.1 6).bind fun OQ=>
       some (.inr (OQ.1,OQ.2.1,()))
      else
       (ai k aj aB (cm (sX.2.1+1)) sX.2.2.1 sX.2.2.2.1 1).bind fun r=>match r with
       |.inl JD=>
        (bE JD.2.2.2.1 (30,BJ.1,cmp,([]:ak),[sX.1,JD.1])).bind fun r26=>
        some (.inl (r26.1,JD.2.1,JD.2.2.1,r26.2.1,()))
       |.inr r25=>
        some (.inr (r25.1,r25.2.1,()))) fun cq=>
     bif decide (sX.2.1<(aj.length:Int)) then
      (bA aj sX.2.1).bind fun x1=>
      (B9 k x1.2.2.1).bind fun PH=>
      cq PH.1
     else
      cq 0
    |.inr yP=>
     some (.inr (yP.1,yP.2.1,()))
def dr:Nat→gp×gn×gq
 |0=>(fun _ _ _ _ _=>none,fun _ _ _ _ _=>none,fun _ _ _ _ _=>none)
 |k+1=>(kz (dr k).1 (dr k).2.1 (dr k).2.2 k,ky (dr k).1 (dr k).2.1 (dr k).2.2 k,cA (dr k).1 (dr k).2.1 (dr k).2.2 k)
def dJ(k:Nat):gp:=(dr k).1
def eH(k:Nat):gn:=(dr k).2.1
def dK(k:Nat):gq:=(dr k).2.2
section
variable (aQ:Gd aW 180 xL) (aL:Gd aW 194 xK) (aH:Gd aW 200 xM)
def ui(k:Nat):lq:=⟨⟨27,[(129,5)],[lD 129 0 sT,lI 129 1,rP 0 129],[lI 129 2,lI 129 3,lF 129 4 tN,rI 3],[]⟩,[.ex (.exit 0) [lI 129 2,lI 129 3,lF 129 4 tN,rI 3],.Az 131 [I,I]],fun q c v=>eX aQ.1 aL.1 aH.1 k q c.1 c.2.1 v.1 v.2.1 v.2.2.1 v.2.2.2.1⟩
def xA(k:Nat):Ev aW:=⟨[dF,mC,ez,aL.cl],[lp 0 (ui aQ aL aH k) k],[]⟩
def Dc(k q:Nat):Cd aW:=nq (xA aQ aL aH k) f180 0 (ui aQ aL aH k) q []
def Hh(k:Nat):Cl aW:=ml (xA aQ aL aH k) 180 f180 func180 call180 [500000] (oO (kz aQ.1 aL.1 aH.1 k)) [Dc aQ aL aH k k]
def uh(k:Nat):lq:=⟨⟨27,[(129,5)],[lD 129 0 sT,lI 129 1,rP 0 129],[lI 129 2,lI 129 3,lF 129 4 tN,rI 3],[]⟩,[.ex (.exit 0) [lI 129 2,lI 129 3,lF 129 4 tN,rI 3],.Az 131 [I,I]],fun q c v=>eW aQ.1 aL.1 aH.1 k q c.1 c.2.1 v.1 v.2.1 v.2.2.1 v.2.2.2.1⟩
def xz(k:Nat):Ev aW:=⟨[dF,mC,ez,aH.cl],[lp 0 (uh aQ aL aH k) k],[]⟩
def Db(k q:Nat):Cd aW:=nq (xz aQ aL aH k) f194 0 (uh aQ aL aH k) q []
def Hg(k:Nat):Cl aW:=ml (xz aQ aL aH k) 194 f194 func194 call194 [500000] (oN (ky aQ.1 aL.1 aH.1 k)) [Db aQ aL aH k k]
def Hi(k:Nat):Cl aW:=ml ⟨[fy,gO,gu,dF,jk,ez,kV,mD k,aQ.cl,aH.cl,Re k],[],[]⟩ 200 f200 func200 call200 [500000] (oP (cA aQ.1 aL.1 aH.1 k)) []
end
theorem lr:∀ k,mb prog gt 180 (xL (dJ k))∧mb prog gt 194 (xK (eH k))∧mb prog gt 200 (xM (dK k))
 |0=>⟨dj (fun _ _=>rfl),dj (fun _ _=>rfl),dj (fun _ _=>rfl)⟩
 |k+1=>have ih:=lr k;⟨(Hh ⟨_,ih.1⟩ ⟨_,ih.2.1⟩ ⟨_,ih.2.2⟩ k).ok,(Hg ⟨_,ih.1⟩ ⟨_,ih.2.1⟩ ⟨_,ih.2.2⟩ k).ok,(Hi ⟨_,ih.1⟩ ⟨_,ih.2.1⟩ ⟨_,ih.2.2⟩ k).ok⟩
def GX(k:Nat):Cl aW:=⟨_,_,(lr k).1⟩
def UY(k:Nat):Cl aW:=⟨_,_,(lr k).2.1⟩
def UZ(k:Nat):Cl aW:=⟨_,_,(lr k).2.2⟩
abbrev dP:=XT→Int→Int→Int→XN→Int→Option (((Int×Int×Int×XN×Unit)⊕(Int×Int×Unit)))
def kK(f:dP):EU:=⟨⟨26,[(129,5)],[lD 129 0 sT,lI 129 1],[rP 0 129,rI 1,lI 129 2,lI 129 3,lF 129 4 tN],[]⟩,[.ret [rI 500000,lI 129 2,lI 129 3,lF 129 4 tN] [],.Az 131 [I,I]],fun c v=>f c.1 c.2.1 v.2.2.1 v.2.2.2.1 v.2.2.2.2.1 v.2.1⟩
def ro(f:dP):iX:=mP (kK f).L (kK f).F (BH [500000] (kK f).V)
abbrev dW:=XT→Int→Int→Int→XN→Option (((Int×Int×Int×XN×Unit)⊕(Int×Int×Unit)))
def lk(f:dW):EU:=⟨⟨128,[(129,5)],[lD 129 0 sT,lI 129 1],[rP 0 129,lI 129 2,lI 129 3,lF 129 4 tN],[]⟩,[.ret [rI 500000,lI 129 2,lI 129 3,lF 129 4 tN] [],.Az 131 [I,I]],fun c v=>f c.1 c.2.1 v.2.1 v.2.2.1 v.2.2.2.1⟩
def ss(f:dW):iX:=mP (lk f).L (lk f).F (BH [500000] (lk f).V)
abbrev fL:=XT→Int→Int→Int→XN→Option (((Int×Int×Int×XN×Unit)⊕(Int×Int×Unit)))
def og(f:fL):EU:=⟨⟨13,[(129,5)],[lD 129 0 sT,lI 129 1],[rP 0 129,lI 129 2,lI 129 3,lF 129 4 tN],[]⟩,[.ret [rI 500000,lI 129 2,lI 129 3,lF 129 4 tN] [],.Az 131 [I,I]],fun c v=>f c.1 c.2.1 v.2.1 v.2.2.1 v.2.2.2.1⟩
def we(f:fL):iX:=mP (og f).L (og f).F (BH [500000] (og f).V)
abbrev eA:=XT→Int→Int→Int→XN→Option (((Int×Int×Int×XN×Unit)⊕(Int×Int×Unit)))
def l9(f:eA):EU:=⟨⟨30,[(129,5)],[lD 129 0 sT,lI 129 1],[rP 0 129,lI 129 2,lI 129 3,lF 129 4 tN],[]⟩,[.ret [rI 500000,lI 129 2,lI 129 3,lF 129 4 tN] [],.Az 131 [I,I]],fun c v=>f c.1 c.2.1 v.2.1 v.2.2.1 v.2.2.2.1⟩
def ta(f:eA):iX:=mP (l9 f).L (l9 f).F (BH [500000] (l9 f).V)
def bR(aN:dP)(aU:dW)(aX:fL)(bg:eA)(q:Nat):Nat→XT→Int→Int→Int→XN→XI→Option (((Int×Int×XN×XI×Unit)⊕(Int×Int×Unit)))
 |0,_,_,_,_,_,_=>none
 |k+1,cN,fG,at3,ov,bX,cE=>
  (aE cN at3 ([125]:ak)).bind fun r1=>
  bif !r1.1 then
   (aU cN fG r1.2.1 ov bX).bind fun r=>match r with
   |.inl r2=>
    (lA cE ([r2.1])).bind fun l=>
    bR aN aU aX bg q k cN fG r2.2.1 r2.2.2.1 r2.2.2.2.1 l
   |.inr r3=>
    some (.inr (r3.1,r3.2.1,()))
  else
   some (.inl (r1.2.1,ov,bX,cE,()))
def fE(aN:dP)(aU:dW)(aX:fL)(bg:eA)(k:Nat)(aj:XT)(aB jj depth:Int)(az:XN)(sP:Int):Option (((Int×Int×Int×XN×Unit)⊕(Int×Int×Unit))):=
 (bR aN aU aX bg k k aj aB jj depth az []).bind fun r=>match r with
 |.inl o=>
  (bE o.2.2.1 (8,sP,0,([]:ak),o.2.2.2.1)).bind fun r1=>
  some (.inl (r1.1,o.1,(cm (o.2.1 - 1)),r1.2.1,()))
 |.inr o2=>
  some (.inr (o2.1,o2.2.1,()))
def bt(aN:dP)(aU:dW)(aX:fL)(bg:eA)(k:Nat)(aj:XT)(aB jj depth:Int)(az:XN):Option (((Int×Int×Int×XN×Unit)⊕(Int×Int×Unit))):=
 (ig aj jj 1).bind fun r1=>
 bif r1.1 then
  (cp k aj aB jj depth az).bind fun r=>match r with
  |.inl r2=>
   some (.inl (r2.1,r2.2.1,r2.2.2.1,r2.2.2.2.1,()))
  |.inr r3=>
   some (.inr (r3.1,r3.2.1,()))
 else
  (dc aj aB jj).bind fun r4=>
  aa (fun(jv:Int×Int×Int×XN×Int×ak×XI)=>
   (aY aj aB (jv.2.1) ([59]:ak)).bind fun r=>match r with
   |.inl r44=>
    (bE (jv.2.2.2.1) ((jv.2.2.2.2.1),(jv.1),0,(jv.2.2.2.2.2.1),(jv.2.2.2.2.2.2))).bind fun r46=>
    some (.inl (r46.1,r44.1,(jv.2.2.1),r46.2.1,()))
   |.inr r45=>
    some (.inr (r45.1,r45.2.1,()))) fun ir=>
  (aE aj jj ([42]:ak)).bind fun r5=>
  bif r5.1 then
   (de aj aB r5.2.1 1).bind fun r=>match r with
   |.inl r6=>
    (aY aj aB r6.2.1 ([61]:ak)).bind fun r=>match r with
    |.inl r8=>
     (ai k aj aB r8.1 depth az 1).bind fun r=>match r with
     |.inl mw=>
      ir (r4.1,mw.2.1,mw.2.2.1,mw.2.2.2.1,11,r6.1.2.2.1,[mw.1])
     |.inr po=>
      some (.inr (po.1,po.2.1,()))
    |.inr r9=>
     some (.inr (r9.1,r9.2.1,()))
   |.inr r7=>
    some (.inr (r7.1,r7.2.1,()))
  else
   (aE aj r5.2.1 ([105,102]:ak)).bind fun qY=>
   bif qY.1 then
    (dJ k aj aB qY.2.1 depth az).bind fun r=>match r with
    |.inl sM=>
     (aX aj aB sM.2.1 sM.2.2.1 sM.2.2.2.1).bind fun r=>match r with
     |.inl sa=>
      (lA ([sM.1]) ([sa.1])).bind fun l=>
      aa (fun(jv:Int×Int×XN×XI)=>
       (bE (jv.2.2.1) (14,r4.1,0,([]:ak),(jv.2.2.2))).bind fun yP=>
       some (.inl (yP.1,(jv.1),(jv.2.1),yP.2.1,()))) fun cq=>
      (aE aj sa.2.1 ([101,108,115,101]:ak)).bind fun xe=>
      bif xe.1 then
       (aX aj aB xe.2.1 sa.2.2.1 sa.2.2.2.1).bind fun r=>match r with
       |.inl sO=>
        (lA l ([sO.1])).bind fun l2=>
        cq (sO.2.1,sO.2.2.1,sO.2.2.2.1,l2)
       |.inr sX=>
        some (.inr (sX.1,sX.2.1,()))
      else
       cq (xe.2.1,sa.2.2.1,sa.2.2.2.1,l)
     |.inr t7=>
      some (.inr (t7.1,t7.2.1,()))
    |.inr sW=>
     some (.inr (sW.1,sW.2.1,()))
   else
    (aE aj qY.2.1 ([119,104,105,108,101]:ak)).bind fun BJ=>
    bif BJ.1 then
     (dJ k aj aB BJ.2.1 depth az).bind fun r=>match r with
     |.inl PH=>
      (aX aj aB PH.2.1 PH.2.2.1 PH.2.2.2.1).bind fun r=>match r with
      |.inl JD=>
       (lA ([PH.1]) ([JD.1])).bind fun l3=>
       (bE JD.2.2.2.1 (15,r4.1,0,([]:ak),l3)).bind fun r26=>
       some (.inl (r26.1,JD.2.1,JD.2.2.1,r26.2.1,()))
      |.inr r25=>
       some (.inr (r25.1,r25.2.1,()))
     |.inr OQ=>
      some (.inr (OQ.1,OQ.2.1,()))
    else
     (aE aj BJ.2.1 ([102,111,114]:ak)).bind fun r27=>
     bif r27.1 then
      (bg aj aB r27.2.1 depth az).bind fun r=>match r with
      |.inl r28=>
       some (.inl (r28.1,r28.2.1,r28.2.2.1,r28.2.2.2.1,()))
      |.inr r29=>
       some (.inr (r29.1,r29.2.1,()))
     else
      (aE aj r27.2.1 ([114,101,97,100]:ak)).bind fun r30=>
      bif r30.1 then
       (de aj aB r30.2.1 1).bind fun r=>match r with
       |.inl r31=>
        (bA aj (cm (r31.2.1 - 1))).bind fun x1=>
        ir (x1.2.1,r31.2.1,depth,az,17,r31.1.2.2.1,[])
       |.inr r32=>
        some (.inr (r32.1,r32.2.1,()))
      else
       (aE aj r30.2.1 ([112,114,105,110,116]:ak)).bind fun r33=>
       bif r33.1 then
        (ai k aj aB r33.2.1 depth az 1).bind fun r=>match r with
        |.inl r34=>
         ir (r4.1,r34.2.1,r34.2.2.1,r34.2.2.2.1,18,([]:ak),[r34.1])
        |.inr r35=>
         some (.inr (r35.1,r35.2.1,()))
       else
        (aE aj r33.2.1 ([97,115,115,101,114,116]:ak)).bind fun r36=>
        bif r36.1 then
         (dJ k aj aB r36.2.1 depth az).bind fun r=>match r with
         |.inl r37=>
          ir (r4.1,r37.2.1,r37.2.2.1,r37.2.2.2.1,19,([]:ak),[r37.1])
         |.inr r38=>
          some (.inr (r38.1,r38.2.1,()))
        else
         (aE aj r36.2.1 ([115,116,111,112]:ak)).bind fun r39=>
         bif r39.1 then
          ir (r4.1,r39.2.1,depth,az,20,([]:ak),[])
         else
          (aE aj r39.2.1 ([114,101,116,117,114,110]:ak)).bind fun r40=>
          bif r40.1 then
           (ai k aj aB r40.2.1 depth az 1).bind fun r=>match r with
           |.inl r41=>
            ir (r4.1,r41.2.1,r41.2.2.1,r41.2.2.2.1,21,([]:ak),[r41.1])
           |.inr r42=>
            some (.inr (r42.1,r42.2.1,()))
          else
           (gJ aj aB r40.2.1 6).bind fun r43=>
           some (.inr (r43.1,r43.2.1,()))
def iC(aN:dP)(aU:dW)(aX:fL)(bg:eA)(k:Nat)(aj:XT)(aB jj depth:Int)(az:XN):Option (((Int×Int×Int×XN×Unit)⊕(Int×Int×Unit))):=
 (dc aj aB jj).bind fun r1=>
 (aY aj aB jj ([123]:ak)).bind fun r=>match r with
 |.inl r2=>
  (fD aj aB r2.1 depth).bind fun r=>match r with
  |.inl r4=>
   (aN aj aB r2.1 r4.1 az r1.1).bind fun r=>match r with
   |.inl r6=>
    some (.inl (r6.1,r6.2.1,r6.2.2.1,r6.2.2.2.1,()))
   |.inr r7=>
    some (.inr (r7.1,r7.2.1,()))
  |.inr r5=>
   some (.inr (r5.1,r5.2.1,()))
 |.inr r3=>
  some (.inr (r3.1,r3.2.1,()))
def jT(aN:dP)(aU:dW)(aX:fL)(bg:eA)(k:Nat)(aj:XT)(aB jj depth:Int)(az:XN):Option (((Int×Int×Int×XN×Unit)⊕(Int×Int×Unit))):=
 (de aj aB jj 1).bind fun r=>match r with
 |.inl r1=>
  (aY aj aB r1.2.1 ([61]:ak)).bind fun r=>match r with
  |.inl r3=>
   (ai k aj aB r3.1 depth az 1).bind fun r=>match r with
   |.inl r5=>
    (aY aj aB r5.2.1 ([46,46]:ak)).bind fun r=>match r with
    |.inl r7=>
     (ai k aj aB r7.1 r5.2.2.1 r5.2.2.2.1 1).bind fun r=>match r with
     |.inl r9=>
      (aX aj aB r9.2.1 r9.2.2.1 r9.2.2.2.1).bind fun r=>match r with
      |.inl po=>
       (bE po.2.2.2.1 (16,r1.1.2.1,0,r1.1.2.2.1,[r5.1,r9.1,po.1])).bind fun sM=>
       some (.inl (sM.1,po.2.1,po.2.2.1,sM.2.1,()))
      |.inr qY=>
       some (.inr (qY.1,qY.2.1,()))
     |.inr mw=>
      some (.inr (mw.1,mw.2.1,()))
    |.inr r8=>
     some (.inr (r8.1,r8.2.1,()))
   |.inr r6=>
    some (.inr (r6.1,r6.2.1,()))
  |.inr r4=>
   some (.inr (r4.1,r4.2.1,()))
 |.inr r2=>
  some (.inr (r2.1,r2.2.1,()))
def aC:Nat→dP×dW×fL×eA
 |0=>(fun _ _ _ _ _ _=>none,fun _ _ _ _ _=>none,fun _ _ _ _ _=>none,fun _ _ _ _ _=>none)
 |k+1=>(fE (aC k).1 (aC k).2.1 (aC k).2.2.1 (aC k).2.2.2 k,bt (aC k).1 (aC k).2.1 (aC k).2.2.1 (aC k).2.2.2 k,iC (aC k).1 (aC k).2.1 (aC k).2.2.1 (aC k).2.2.2 k,jT (aC k).1 (aC k).2.1 (aC k).2.2.1 (aC k).2.2.2 k)
def dd(k:Nat):dP:=(aC k).1
def cY(k:Nat):dW:=(aC k).2.1
def gY(k:Nat):fL:=(aC k).2.2.1
def gk(k:Nat):eA:=(aC k).2.2.2
section
variable (aN:Gd aW 147 ro) (aU:Gd aW 166 ss) (aX:Gd aW 181 we) (bg:Gd aW 182 ta)
def pU(k:Nat):lq:=⟨⟨26,[(129,5)],[lD 129 0 sT,lI 129 1,rP 0 129,rI 1],[lI 129 2,lI 129 3,lF 129 4 tN,(.r 5,.h .dB I)],[]⟩,[.ex (.exit 0) [lI 129 2,lI 129 3,lF 129 4 tN,(.r 5,.h .dB I)],.Az 131 [I,I]],fun q c v=>bR aN.1 aU.1 aX.1 bg.1 k q c.1 c.2.1 v.1 v.2.1 v.2.2.1 v.2.2.2.1⟩
def rj(k:Nat):Ev aW:=⟨[fy,dF,aU.cl],[lp 0 (pU aN aU aX bg k) k],[]⟩
def wH(k q:Nat):Cd aW:=nq (rj aN aU aX bg k) f147 0 (pU aN aU aX bg k) q []
def Ad(k:Nat):Cl aW:=ml (rj aN aU aX bg k) 147 f147 func147 call147 [500000] (kK (fE aN.1 aU.1 aX.1 bg.1 k)) [wH aN aU aX bg k k]
def A5(k:Nat):Cl aW:=ml ⟨[fy,gO,gu,dF,jk,mf,ez,Dl k,mD k,GX k,aX.cl,bg.cl],[],[(4,101)]⟩ 166 f166 func166 call166 [500000] (lk (bt aN.1 aU.1 aX.1 bg.1 k)) []
def FK(k:Nat):Cl aW:=ml ⟨[gu,ez,kV,aN.cl],[],[]⟩ 181 f181 func181 call181 [500000] (og (iC aN.1 aU.1 aX.1 bg.1 k)) []
def B1(k:Nat):Cl aW:=ml ⟨[gO,gu,dF,mD k,aX.cl],[],[(3,153)]⟩ 182 f182 func182 call182 [500000] (l9 (jT aN.1 aU.1 aX.1 bg.1 k)) []
end
theorem gh:∀ k,mb prog gt 147 (ro (dd k))∧mb prog gt 166 (ss (cY k))∧mb prog gt 181 (we (gY k))∧mb prog gt 182 (ta (gk k))
 |0=>⟨dj (fun _ _=>rfl),dj (fun _ _=>rfl),dj (fun _ _=>rfl),dj (fun _ _=>rfl)⟩
 |k+1=>have ih:=gh k;⟨(Ad ⟨_,ih.1⟩ ⟨_,ih.2.1⟩ ⟨_,ih.2.2.1⟩ ⟨_,ih.2.2.2⟩ k).ok,(A5 ⟨_,ih.1⟩ ⟨_,ih.2.1⟩ ⟨_,ih.2.2.1⟩ ⟨_,ih.2.2.2⟩ k).ok,(FK ⟨_,ih.1⟩ ⟨_,ih.2.1⟩ ⟨_,ih.2.2.1⟩ ⟨_,ih.2.2.2⟩ k).ok,(B1 ⟨_,ih.1⟩ ⟨_,ih.2.1⟩ ⟨_,ih.2.2.1⟩ ⟨_,ih.2.2.2⟩ k).ok⟩
def z7(k:Nat):Cl aW:=⟨_,_,(gh k).1⟩
def PT(k:Nat):Cl aW:=⟨_,_,(gh k).2.1⟩
def UO(k:Nat):Cl aW:=⟨_,_,(gh k).2.2.1⟩
def Rg(k:Nat):Cl aW:=⟨_,_,(gh k).2.2.2⟩
end
end Go.Fx.R5
namespace Go.Fx.R5
open Go Go.Fx Go.Proofs Go.Proofs.Tryz
noncomputable section
def bY(q:Nat):Nat→XT→Int→Int→XN→XI→Option (((Int×XN×XI×Unit)⊕(Int×Int×Unit)))
 |0,_,_,_,_,_=>none
 |k+1,cN,fG,sP,bX,cE=>
  (aE cN sP ([44]:ak)).bind fun r8=>
  bif r8.1 then
   (eN cN fG r8.2.1 bX 5).bind fun r=>match r with
   |.inl r9=>
    (lA cE ([r9.1])).bind fun l2=>
    bY q k cN fG r9.2.1 r9.2.2.1 l2
   |.inr mw=>
    some (.inr (mw.1,mw.2.1,()))
  else
   some (.inl (r8.2.1,bX,cE,()))
def cI(q:Nat):Nat→XT→Int→Int→Int→XN→XI→Option (((Int×XN×XI×Unit)⊕(Int×Int×Unit)))
 |0,_,_,_,_,_,_=>none
 |k+1,Sw,Xy,acM,at5,Z5,acL=>
  (aE Sw at5 ([44]:ak)).bind fun yP=>
  bif yP.1 then
   (eN Sw Xy yP.2.1 Z5 acM).bind fun r=>match r with
   |.inl BJ=>
    (lA acL ([BJ.1])).bind fun l3=>
    cI q k Sw Xy acM BJ.2.1 BJ.2.2.1 l3
   |.inr PH=>
    some (.inr (PH.1,PH.2.1,()))
  else
   some (.inl (yP.2.1,Z5,acL,()))
def cw(q:Nat):Nat→XT→Int→Int→XN→XI→Option (((Int×XN×XI×Unit)⊕(Int×Int×Unit)))
 |0,_,_,_,_,_=>none
 |k+1,cN,fG,at3,Er,Ql=>
  (eI cN at3 0 ([118,97,114]:ak)).bind fun sa=>
  aa (fun(v:Bool)=>
   bif v then
    aa (fun(Ed:Int)=>
     (eN cN fG (cm (at3+1)) Er Ed).bind fun r=>match r with
     |.inl sO=>
      (lA Ql ([sO.1])).bind fun l2=>
      (cI q q cN fG Ed sO.2.1 sO.2.2.1 l2).bind fun r=>match r with
      |.inl o3=>
       (aY cN fG o3.1 ([59]:ak)).bind fun r=>match r with
       |.inl yP=>
        cw q k cN fG yP.1 o3.2.1 o3.2.2.1
       |.inr BJ=>
        some (.inr (BJ.1,BJ.2.1,()))
      |.inr o4=>
       some (.inr (o4.1,o4.2.1,()))
     |.inr sX=>
      some (.inr (sX.1,sX.2.1,()))) fun ir=>
    (eI cN at3 0 ([114,101,102]:ak)).bind fun xe=>
    bif xe.1 then
     ir 7
    else
     ir 6
   else
    some (.inl (at3,Er,Ql,()))) fun cq=>
  bif sa.1 then
   cq true
  else
   (eI cN at3 0 ([114,101,102]:ak)).bind fun t7=>
   cq t7.1
def cV(k:Nat)(aj:XT)(aB jj depth:Int)(az:XN):Option (((Int×Int×Int×XN×Unit)⊕(Int×Int×Unit))):=
 (de aj aB jj 1).bind fun r=>match r with
 |.inl r1=>
  (aY aj aB r1.2.1 ([40]:ak)).bind fun r=>match r with
  |.inl r3=>
   aa (fun(jv:XI×Int×XN)=>
    (dc aj aB (jv.2.1)).bind fun mw=>
    (aY aj aB (jv.2.1) ([123]:ak)).bind fun r=>match r with
    |.inl po=>
     (fD aj aB po.1 depth).bind fun r=>match r with
     |.inl sM=>
      (cw k k aj aB po.1 (jv.2.2) (jv.1)).bind fun r=>match r with
      |.inl o3=>
       (dd k aj aB o3.1 sM.1 o3.2.1 mw.1).bind fun r=>match r with
       |.inl sa=>
        (lA o3.2.2.1 ([sa.1])).bind fun l2=>
        (bE sa.2.2.2.1 (4,r1.1.2.1,0,r1.1.2.2.1,l2)).bind fun xe=>
        some (.inl (xe.1,sa.2.1,sa.2.2.1,xe.2.1,()))
       |.inr t7=>
        some (.inr (t7.1,t7.2.1,()))
      |.inr o4=>
       some (.inr (o4.1,o4.2.1,()))
     |.inr sW=>
      some (.inr (sW.1,sW.2.1,()))
    |.inr qY=>
     some (.inr (qY.1,qY.2.1,()))) fun cq=>
   (aE aj r3.1 ([41]:ak)).bind fun r5=>
   bif !r5.1 then
    (eN aj aB r5.2.1 az 5).bind fun r=>match r with
    |.inl r6=>
     (lA ([]:XI) ([r6.1])).bind fun l=>
     (bY k k aj aB r6.2.1 r6.2.2.1 l).bind fun r=>match r with
     |.inl o=>
      (aY aj aB o.1 ([41]:ak)).bind fun r=>match r with
      |.inl r8=>
       cq (o.2.2.1,r8.1,o.2.1)
      |.inr r9=>
       some (.inr (r9.1,r9.2.1,()))
     |.inr o2=>
      some (.inr (o2.1,o2.2.1,()))
    |.inr r7=>
     some (.inr (r7.1,r7.2.1,()))
   else
    cq ([],r5.2.1,az)
  |.inr r4=>
   some (.inr (r4.1,r4.2.1,()))
 |.inr r2=>
  some (.inr (r2.1,r2.2.1,()))
def qP(k:Nat):lq:=⟨⟨79,[(153,4),(129,5)],[lI 153 0,lI 153 1,lD 153 2 .str,lI 153 3,lD 129 0 sT,lI 129 1,lI 129 3,rP 0 129,rP 3 153],[lI 129 2,lF 129 4 tN,(.r 4,.h .dB I)],[]⟩,[.ex (.exit 0) [lI 129 2,lF 129 4 tN,(.r 4,.h .dB I)],.Az 131 [I,I]],fun q c v=>bY k q c.2.2.2.2.1 c.2.2.2.2.2.1 v.1 v.2.1 v.2.2.1⟩
def qR(k:Nat):lq:=⟨⟨79,[(153,4),(129,5)],[lI 153 0,lI 153 1,lD 153 2 .str,lI 153 3,lD 129 0 sT,lI 129 1,lI 129 3,rP 0 129,rP 3 153,rI 5,rI 6],[lI 129 2,lF 129 4 tN,(.r 4,.h .dB I)],[]⟩,[.ex (.exit 4) [lI 129 2,lF 129 4 tN,(.r 4,.h .dB I)],.Az 131 [I,I]],fun q c v=>cI k q c.2.2.2.2.1 c.2.2.2.2.2.1 c.2.2.2.2.2.2.2.2.2.2.1 v.1 v.2.1 v.2.2.1⟩
def qQ(k:Nat):lq:=⟨⟨79,[(153,4),(129,5)],[lI 153 0,lI 153 1,lD 153 2 .str,lI 153 3,lD 129 0 sT,lI 129 1,lI 129 3,rP 0 129,rP 3 153,rI 5],[lI 129 2,lF 129 4 tN,(.r 4,.h .dB I)],[]⟩,[.ex (.exit 2) [lI 129 2,lF 129 4 tN,(.r 4,.h .dB I)],.Az 131 [I,I]],fun q c v=>cw k q c.2.2.2.2.1 c.2.2.2.2.2.1 v.1 v.2.1 v.2.2.1⟩
def ma(k:Nat):Ev aW:=⟨[fy,gO,gu,dF,qV,mC,ez,kV,z7 k],[lp 0 (qP k) k,lp 4 (qR k) k,lp 2 (qQ k) k],[(3,153)]⟩
def y5(k q:Nat):Cd aW:=nq (ma k) f106 0 (qP k) q []
def y7(k q:Nat):Cd aW:=nq (ma k) f106 4 (qR k) q []
def y6(k q:Nat):Cd aW:=nq (ma k) f106 2 (qQ k) q [y7 k k]
def BX(k:Nat):Cl aW:=ml (ma k) 106 f106 func106 call106 [500000] ⟨⟨79,[(129,5)],[lD 129 0 sT,lI 129 1],[rP 0 129,lI 129 2,lI 129 3,lF 129 4 tN],[]⟩,[.ret [rI 500000,lI 129 2,lI 129 3,lF 129 4 tN] [],.Az 131 [I,I]],fun c v=>cV k c.1 c.2.1 v.2.1 v.2.2.1 v.2.2.2.1⟩ [y5 k k,y6 k k]
def aJ(q:Nat):Nat→XT→Int→Int→Int→XN→XI→Option (((Int×Int×XN×XI×Unit)⊕(Int×Int×Unit)))
 |0,_,_,_,_,_,_=>none
 |k+1,cN,fG,sP,ov,bX,cE=>
  bif decide (sP<(cN.length:Int)) then
   (aE cN sP ([97,114,114,97,121]:ak)).bind fun r1=>
   bif r1.1 then
    (de cN fG r1.2.1 1).bind fun r=>match r with
    |.inl r2=>
     (aY cN fG r2.2.1 ([91]:ak)).bind fun r=>match r with
     |.inl r4=>
      (de cN fG r4.1 2).bind fun r=>match r with
      |.inl r6=>
       (aY cN fG r6.2.1 ([93]:ak)).bind fun r=>match r with
       |.inl r8=>
        (aY cN fG r8.1 ([59]:ak)).bind fun r=>match r with
        |.inl mw=>
         (bE bX (2,r2.1.2.1,r6.1.2.2.2,r2.1.2.2.1,[])).bind fun qY=>
         (lA cE ([qY.1])).bind fun l=>
         aJ q k cN fG mw.1 ov qY.2.1 l
        |.inr po=>
         some (.inr (po.1,po.2.1,()))
       |.inr r9=>
        some (.inr (r9.1,r9.2.1,()))
      |.inr r7=>
       some (.inr (r7.1,r7.2.1,()))
     |.inr r5=>
      some (.inr (r5.1,r5.2.1,()))
    |.inr r3=>
     some (.inr (r3.1,r3.2.1,()))
   else
    (aE cN r1.2.1 ([118,97,114]:ak)).bind fun sM=>
    bif sM.1 then
     (eN cN fG sM.2.1 bX 3).bind fun r=>match r with
     |.inl sW=>
      (lA cE ([sW.1])).bind fun l2=>
      (aY cN fG sW.2.1 ([59]:ak)).bind fun r=>match r with
      |.inl t7=>
       aJ q k cN fG t7.1 ov sW.2.2.1 l2
      |.inr xe=>
       some (.inr (xe.1,xe.2.1,()))
     |.inr sa=>
      some (.inr (sa.1,sa.2.1,()))
    else
     (aE cN sM.2.1 ([102,117,110,99]:ak)).bind fun sO=>
     bif sO.1 then
      (cV q cN fG sO.2.1 ov bX).bind fun r=>match r with
      |.inl sX=>
       (lA cE ([sX.1])).bind fun l3=>
       aJ q k cN fG sX.2.1 sX.2.2.1 sX.2.2.2.1 l3
      |.inr yP=>
       some (.inr (yP.1,yP.2.1,()))
     else
      (gJ cN fG sO.2.1 6).bind fun BJ=>
      some (.inr (BJ.1,BJ.2.1,()))
  else
   some (.inl (sP,ov,bX,cE,()))
def oo(k:Nat)(aj:XT)(aB jj depth:Int)(az:XN):Option (((Int×Int×XN×Unit)⊕(Int×Int×Unit))):=
 (aJ k k aj aB jj depth az []).bind fun r=>match r with
 |.inl o=>
  (bE o.2.2.1 (1,0,0,([]:ak),o.2.2.2.1)).bind fun r1=>
  some (.inl (o.1,o.2.1,r1.2.1,()))
 |.inr o2=>
  some (.inr (o2.1,o2.2.1,()))
def rx(k:Nat):lq:=⟨⟨64,[(129,5)],[lD 129 0 sT,lI 129 1,rP 0 129],[lI 129 2,lI 129 3,lF 129 4 tN,(.r 2,.h .dB I)],[]⟩,[.ex (.exit 0) [lI 129 2,lI 129 3,lF 129 4 tN,(.r 2,.h .dB I)],.Az 131 [I,I]],fun q c v=>aJ k q c.1 c.2.1 v.1 v.2.1 v.2.2.1 v.2.2.2.1⟩
def ub(k:Nat):Ev aW:=⟨[fy,gO,gu,dF,qV,BX k,jk],[lp 0 (rx k) k],[]⟩
def zV(k q:Nat):Cd aW:=nq (ub k) f60 0 (rx k) q []
def Dj(k:Nat):Cl aW:=ml (ub k) 60 f60 func60 call60 [] ⟨⟨64,[(129,5)],[lD 129 0 sT,lI 129 1],[rP 0 129,lI 129 2,lI 129 3,lF 129 4 tN],[]⟩,[.ret [lI 129 2,lI 129 3,lF 129 4 tN] [],.Az 131 [I,I]],fun c v=>oo k c.1 c.2.1 v.2.1 v.2.2.1 v.2.2.2.1⟩ [zV k k]
def pw(q:Nat):Nat→ak→Int→Option (Int×Unit)
 |0,_,_=>none
 |k+1,OE,at3=>
  aa (fun(v2:Bool)=>
   bif v2 then
    pw q k OE (cm (at3+1))
   else
    some (at3,())) fun cq=>
  bif decide (at3<(OE.length:Int)) then
   (bA OE at3).bind fun b2=>
   cq ((b2.toNat:Int) != 10)
  else
   cq false
def io(q:Nat):Nat→ak→Int→Option (((Int×Unit)⊕(Int×Unit)))
 |0,_,_=>none
 |k+1,hU,sP=>
  bif decide (sP<(hU.length:Int)) then
   (bA hU sP).bind fun b=>
   aa (fun(v:Bool)=>
    bif v then
     io q k hU (cm (sP+1))
    else
     bif (b.toNat:Int)==35 then
      (pw q q hU sP).bind fun o=>
      io q k hU o.1
     else
      some (.inr (sP,()))) fun cq=>
   bif (b.toNat:Int)==32 then
    cq ((b.toNat:Int)==32)
   else
    cq ((b.toNat:Int)==10)
  else
   some (.inl (sP,()))
def nI(k:Nat)(bV:ak)(jj:Int):Option (Int×Unit):=
 (io k k bV jj).bind fun r=>match r with
 |.inl o=>
  some (o.1,())
 |.inr o2=>
  some (o2.1,())
def zD(k:Nat):lq:=⟨⟨33,[],[rD 0 .str],[rI 1],[]⟩,[.ex (.exit 3) [rI 1]],fun q c v=>pw k q c.1 v.1⟩
def zC(k:Nat):lq:=⟨⟨33,[],[rD 0 .str],[rI 1],[]⟩,[.ex (.exit 0) [rI 1],.ex .ret [rI 4]],fun q c v=>io k q c.1 v.1⟩
def xy(k:Nat):Ev aW:=⟨[],[lp 3 (zD k) k,lp 0 (zC k) k],[]⟩
def H5(k q:Nat):Cd aW:=nq (xy k) f99 3 (zD k) q []
def H4(k q:Nat):Cd aW:=nq (xy k) f99 0 (zC k) q [H5 k k]
def MP(k:Nat):Cl aW:=om (xy k) 99 f99 func99 call99 [.str,I] [I] (fun d=>nI k d.1 d.2.1) [H4 k k]
def tj(b:Int):Option (Bool×Unit):=
 aa (fun(v:Bool)=>
  some (v,())) fun cq=>
 bif decide (b≥97) then
  cq (decide (b≤122))
 else
  cq false
def JT:Cl aW:=om ⟨[],[],[]⟩ 137 f137 func137 call137 [U] [.bool] (fun d=>tj d.1) []
def rq(b:Int):Option (Bool×Unit):=
 aa (fun(v:Bool)=>
  some (v,())) fun cq=>
 bif decide (b≥48) then
  cq (decide (b≤57))
 else
  cq false
def Lr:Cl aW:=om ⟨[],[],[]⟩ 138 f138 func138 call138 [U] [.bool] (fun d=>rq d.1) []
def zx(bV:ak):Option (Bool×Unit):=
 aa (fun(v:Bool)=>
  bif v then
   some (true,())
  else
   some (false,())) fun cq=>
 bif bV==([97,114,114,97,121]:ak) then
  cq (bV==([97,114,114,97,121]:ak))
 else
  bif bV==([118,97,114]:ak) then
   cq (bV==([118,97,114]:ak))
  else
   bif bV==([114,101,102]:ak) then
    cq (bV==([114,101,102]:ak))
   else
    bif bV==([102,117,110,99]:ak) then
     cq (bV==([102,117,110,99]:ak))
    else
     bif bV==([105,102]:ak) then
      cq (bV==([105,102]:ak))
     else
      bif bV==([101,108,115,101]:ak) then
       cq (bV==([101,108,115,101]:ak))
      else
       bif bV==([119,104,105,108,101]:ak) then
        cq (bV==([119,104,105,108,101]:ak))
       else
        bif bV==([102,111,114]:ak) then
         cq (bV==([102,111,114]:ak))
        else
         bif bV==([114,101,97,100]:ak) then
          cq (bV==([114,101,97,100]:ak))
         else
          bif bV==([112,114,105,110,116]:ak) then
           cq (bV==([112,114,105,110,116]:ak))
          else
           bif bV==([97,115,115,101,114,116]:ak) then
            cq (bV==([97,115,115,101,114,116]:ak))
           else
            bif bV==([115,116,111,112]:ak) then
             cq (bV==([115,116,111,112]:ak))
            else
             bif bV==([114,101,116,117,114,110]:ak) then
              cq (bV==([114,101,116,117,114,110]:ak))
             else
              bif bV==([97,110,100]:ak) then
               cq (bV==([97,110,100]:ak))
              else
               bif bV==([111,114]:ak) then
                cq (bV==([111,114]:ak))
               else
                bif bV==([110,111,116]:ak) then
                 cq (bV==([110,111,116]:ak))
                else
                 cq (bV==([110,117,108,108]:ak))
def OX:Cl aW:=om ⟨[],[],[]⟩ 139 f139 func139 call139 [.str] [.bool] (fun d=>zx d.1) []
def mH(q:Nat):Nat→ak→Int→XS→Int→Option (((Unit)⊕(ak×Unit)))
 |0,_,_,_,_=>none
 |k+1,hU,sP,Uz,Ss=>
  bif decide (Ss<30) then
   (bA Uz Ss).bind fun b=>
   (sub hU sP (hU.length:Int)).bind fun l=>
   (Hl l b).bind fun r1=>
   bif r1.1 then
    some (.inr (b,()))
   else
    mH q k hU sP Uz (cm (Ss+1))
  else
   some (.inl ())
def zw(k:Nat)(bV:ak)(jj:Int):Option (ak×Unit):=
 aa (fun(v:Bool)=>
  bif v then
   some (([]:ak),())
  else
   (mH k k bV jj xo 0).bind fun r=>match r with
   |.inl o=>
    some (([]:ak),())
   |.inr o2=>
    some (o2.1,())) fun cq=>
 bif decide (jj<0) then
  cq true
 else
  cq (decide (jj≥(bV.length:Int)))
def Bi(k:Nat):lq:=⟨⟨26,[],[rD 0 .str,rI 1,rD 15 (.arr 30 .str)],[rI 16],[]⟩,[.ex (.exit 0) [],.ex .ret [rD 4 .str]],fun q c v=>mH k q c.1 c.2.1 c.2.2.1 v.1⟩
def FW(k:Nat):Ev aW:=⟨[SX],[lp 0 (Bi k) k],[]⟩
def JE(k q:Nat):Cd aW:=nq (FW k) f142 0 (Bi k) q []
def OW(k:Nat):Cl aW:=om (FW k) 142 f142 func142 call142 [.str,I] [.str] (fun d=>zw k d.1 d.2.1) [JE k k]
def oA(q:Nat):Nat→ak→Int→Option (Int×Unit)
 |0,_,_=>none
 |k+1,hU,aB=>
  aa (fun(v2:Bool)=>
   bif v2 then
    oA q k hU (cm (aB+1))
   else
    some (aB,())) fun ir=>
  bif decide (aB<(hU.length:Int)) then
   (bA hU aB).bind fun b2=>
   (tj (b2.toNat:Int)).bind fun r2=>
   aa (fun(v:Bool)=>
    ir v) fun cq=>
   bif r2.1 then
    cq true
   else
    (bA hU aB).bind fun b3=>
    (rq (b3.toNat:Int)).bind fun r3=>
    cq r3.1
  else
   ir false
def oB(q:Nat):Nat→ak→Int→Option (Int×Unit)
 |0,_,_=>none
 |k+1,hU,aB=>
  aa (fun(v:Bool)=>
   bif v then
    oB q k hU (cm (aB+1))
   else
    some (aB,())) fun cq=>
  bif decide (aB<(hU.length:Int)) then
   (bA hU aB).bind fun b3=>
   (rq (b3.toNat:Int)).bind fun r5=>
   cq r5.1
  else
   cq false
def jJ(k:Nat)(bV:ak)(jj:Int):Option ((Int×Int×ak×Int)×Int×Unit):=
 (bA bV jj).bind fun b=>
 (tj (b.toNat:Int)).bind fun r1=>
 bif r1.1 then
  (oA k k bV jj).bind fun o=>
  bif decide ((cm (o.1 - jj)) > 8) then
   some ((0,0,([]:ak),0),3,())
  else
   aa (fun(Ed:Int)=>
    (sub bV jj o.1).bind fun l2=>
    (BY l2).bind fun r3=>
    some ((Ed,jj,r3.1,0),0,())) fun cq=>
   (sub bV jj o.1).bind fun l=>
   (zx l).bind fun r2=>
   bif r2.1 then
    cq 3
   else
    cq 1
 else
  (bA bV jj).bind fun b2=>
  (rq (b2.toNat:Int)).bind fun r4=>
  bif r4.1 then
   (oB k k bV jj).bind fun o2=>
   (sub bV jj o2.1).bind fun l3=>
   (o9 l3).bind fun r5=>
   bif !r5.2.1 then
    some ((0,0,([]:ak),0),4,())
   else
    (sub bV jj o2.1).bind fun l4=>
    (BY l4).bind fun r6=>
    some ((2,jj,r6.1,r5.1),0,())
  else
   (zw k bV jj).bind fun r7=>
   bif r7.1==([]:ak) then
    some ((0,0,([]:ak),0),2,())
   else
    some ((4,jj,r7.1,0),0,())
def yn(k:Nat):lq:=⟨⟨98,[(153,4)],[lI 153 0,lI 153 1,lD 153 2 .str,lI 153 3,rD 0 .str,rI 1,rP 4 153],[rI 6],[]⟩,[.ex (.exit 1) [rI 6]],fun q c v=>oA k q c.2.2.2.2.1 v.1⟩
def yo(k:Nat):lq:=⟨⟨98,[(153,4)],[lI 153 0,lI 153 1,lD 153 2 .str,lI 153 3,rD 0 .str,rI 1,rP 4 153],[rI 6],[]⟩,[.ex (.exit 3) [rI 6]],fun q c v=>oB k q c.2.2.2.2.1 v.1⟩
def vI(k:Nat):Ev aW:=⟨[JT,Lr,OX,aa9,S1,OW k],[lp 1 (yn k) k,lp 3 (yo k) k],[(4,153)]⟩
def Gz(k q:Nat):Cd aW:=nq (vI k) f100 1 (yn k) q []
def GB(k q:Nat):Cd aW:=nq (vI k) f100 3 (yo k) q []
def Ls(k:Nat):Cl aW:=om (vI k) 100 f100 func100 call100 [.str,I] [tT,I] (fun d=>jJ k d.1 d.2.1) [Gz k k,GB k k]
def eM(q:Nat):Nat→ak→Int→Int→XT→Int→Option (((Int×Int×XT×Unit)⊕(Int×Int×Unit)))
 |0,_,_,_,_,_=>none
 |k+1,hU,w,w2,aj,jj=>
  bif decide (jj<(hU.length:Int)) then
   (jJ q hU jj).bind fun r2=>
   aa (fun(code:Int)=>
    bif code != 0 then
     some (.inr (code,jj,()))
    else
     (lA aj ([r2.1])).bind fun l=>
     (nI q hU (cm (jj+(r2.1.2.2.1.length:Int)))).bind fun r3=>
     eM q k hU w w2 l r3.1) fun ir=>
   aa (fun(v:Bool)=>
    bif v then
     ir 5
    else
     ir r2.2.1) fun cq=>
   bif r2.2.1==0 then
    cq ((aj.length:Int)==700)
   else
    cq false
  else
   some (.inl (w,w2,aj,()))
def mG(k:Nat)(bV:ak):Option (XT×(Int×Int)×Unit):=
 bif decide ((bV.length:Int) > 3000) then
  some ([],(1,0),())
 else
  (nI k bV 0).bind fun r1=>
  (eM k k bV 0 0 [] r1.1).bind fun r=>match r with
  |.inl o=>
   some (o.2.2.1,(0,0),())
  |.inr o2=>
   some ([],(o2.1,o2.2.1),())
def wj(k:Nat):lq:=⟨⟨50,[(52,2)],[rD 0 .str,rP 3 52],[lI 52 0,lI 52 1,(.r 4,.h .dB tT),rI 5],[]⟩,[.ex (.exit 0) [lI 52 0,lI 52 1,(.r 4,.h .dB tT)],.ex .ret [lI 52 0,lI 52 1,(.r 2,.lit .nil)]],fun q c v=>eM k q c.1 v.1 v.2.1 v.2.2.1 v.2.2.2.1⟩
def AB(k:Nat):Ev aW:=⟨[MP k,Ls k],[lp 0 (wj k) k],[(3,52)]⟩
def Fl(k q:Nat):Cd aW:=nq (AB k) f58 0 (wj k) q []
def JQ(k:Nat):Cl aW:=om (AB k) 58 f58 func58 call58 [.str] [sT,tP] (fun d=>mG k d.1) [Fl k k]
def jZ(q:Nat):Nat→ak→Int→Option (Int×Unit)
 |0,_,_=>none
 |k+1,OE,at3=>
  aa (fun(v2:Bool)=>
   bif v2 then
    jZ q k OE (cm (at3+1))
   else
    some (at3,())) fun cq=>
  bif decide (at3<(OE.length:Int)) then
   (bA OE at3).bind fun b4=>
   cq ((b4.toNat:Int) != 10)
  else
   cq false
def iR(q:Nat):Nat→ak→Int→Option (((Int×Unit)⊕(Int×Unit)))
 |0,_,_=>none
 |k+1,hU,sP=>
  bif decide (sP<(hU.length:Int)) then
   (bA hU sP).bind fun b=>
   aa (fun(v:Bool)=>
    bif v then
     iR q k hU (cm (sP+1))
    else
     (bA hU sP).bind fun b3=>
     bif (b3.toNat:Int) != 35 then
      some (.inr (sP,()))
     else
      (jZ q q hU sP).bind fun o=>
      iR q k hU o.1) fun cq=>
   bif (b.toNat:Int)==32 then
    cq true
   else
    (bA hU sP).bind fun b2=>
    cq ((b2.toNat:Int)==10)
  else
   some (.inl (sP,()))
def oK(k:Nat)(bV:ak)(jj:Int):Option (Int×Unit):=
 (iR k k bV jj).bind fun r=>match r with
 |.inl o=>
  some (o.1,())
 |.inr o2=>
  some (o2.1,())
def Bo(k:Nat):lq:=⟨⟨39,[],[rD 0 .str],[rI 1],[]⟩,[.ex (.exit 2) [rI 1]],fun q c v=>jZ k q c.1 v.1⟩
def Bn(k:Nat):lq:=⟨⟨39,[],[rD 0 .str],[rI 1],[]⟩,[.ex (.exit 0) [rI 1],.ex .ret [rI 4]],fun q c v=>iR k q c.1 v.1⟩
def zX(k:Nat):Ev aW:=⟨[],[lp 2 (Bo k) k,lp 0 (Bn k) k],[]⟩
def JJ(k q:Nat):Cd aW:=nq (zX k) f80 2 (Bo k) q []
def JI(k q:Nat):Cd aW:=nq (zX k) f80 0 (Bn k) q [JJ k k]
def Pb(k:Nat):Cl aW:=om (zX k) 80 f80 func80 call80 [.str,I] [I] (fun d=>oK k d.1 d.2.1) [JI k k]
def rJ(c:Int):Option (Bool×Unit):=
 aa (fun(v:Bool)=>
  some (v,())) fun cq=>
 bif decide (c≥97) then
  cq (decide (c≤122))
 else
  cq false
def CU:Cl aW:=om ⟨[],[],[]⟩ 122 f122 func122 call122 [U] [.bool] (fun d=>rJ d.1) []
def qM(c:Int):Option (Bool×Unit):=
 aa (fun(v:Bool)=>
  some (v,())) fun cq=>
 bif decide (c≥48) then
  cq (decide (c≤57))
 else
  cq false
def xS:Cl aW:=om ⟨[],[],[]⟩ 125 f125 func125 call125 [U] [.bool] (fun d=>qM d.1) []
def kQ(q:Nat):Nat→ak→Int→Option (Int×Unit)
 |0,_,_=>none
 |k+1,hU,sP=>
  aa (fun(v2:Bool)=>
   bif v2 then
    kQ q k hU (cm (sP+1))
   else
    some (sP,())) fun ir=>
  bif decide (sP<(hU.length:Int)) then
   (bA hU sP).bind fun b=>
   (rJ (b.toNat:Int)).bind fun r1=>
   aa (fun(v:Bool)=>
    ir v) fun cq=>
   bif r1.1 then
    cq true
   else
    (bA hU sP).bind fun b2=>
    (qM (b2.toNat:Int)).bind fun r2=>
    cq r2.1
  else
   ir false
def Cr(k:Nat)(bV:ak)(jj:Int):Option (Int×Unit):=
 (kQ k k bV jj).bind fun o=>
 some (o.1,())
def C1(k:Nat):lq:=⟨⟨24,[],[rD 0 .str],[rI 1],[]⟩,[.ex (.exit 0) [rI 1]],fun q c v=>kQ k q c.1 v.1⟩
def Ih(k:Nat):Ev aW:=⟨[CU,xS],[lp 0 (C1 k) k],[]⟩
def Li(k q:Nat):Cd aW:=nq (Ih k) f123 0 (C1 k) q []
def Rl(k:Nat):Cl aW:=om (Ih k) 123 f123 func123 call123 [.str,I] [I] (fun d=>Cr k d.1 d.2.1) [Li k k]
def zT(bV:ak):Option (Bool×Unit):=
 aa (fun(v:Bool)=>
  aa (fun(v2:Bool)=>
   aa (fun(v3:Bool)=>
    aa (fun(v4:Bool)=>
     aa (fun(v5:Bool)=>
      aa (fun(v6:Bool)=>
       aa (fun(v7:Bool)=>
        aa (fun(v8:Bool)=>
         aa (fun(v9:Bool)=>
          aa (fun(v10:Bool)=>
           aa (fun(v11:Bool)=>
            aa (fun(v12:Bool)=>
             aa (fun(v13:Bool)=>
              aa (fun(v14:Bool)=>
               aa (fun(v15:Bool)=>
                aa (fun(v16:Bool)=>
                 some (v16,())) fun afz=>
                bif v15 then
                 afz true
                else
                 afz (bV==([110,117,108,108]:ak))) fun afy=>
               bif v14 then
                afy true
               else
                afy (bV==([110,111,116]:ak))) fun afx=>
              bif v13 then
               afx true
              else
               afx (bV==([111,114]:ak))) fun ZK=>
             bif v12 then
              ZK true
             else
              ZK (bV==([97,110,100]:ak))) fun ZJ=>
            bif v11 then
             ZJ true
            else
             ZJ (bV==([114,101,116,117,114,110]:ak))) fun ZI=>
           bif v10 then
            ZI true
           else
            ZI (bV==([115,116,111,112]:ak))) fun TE=>
          bif v9 then
           TE true
          else
           TE (bV==([97,115,115,101,114,116]:ak))) fun jx9=>
         bif v8 then
          jx9 true
         else
          jx9 (bV==([112,114,105,110,116]:ak))) fun jx8=>
        bif v7 then
         jx8 true
        else
         jx8 (bV==([114,101,97,100]:ak))) fun jx7=>
       bif v6 then
        jx7 true
       else
        jx7 (bV==([102,111,114]:ak))) fun jx6=>
      bif v5 then
       jx6 true
      else
       jx6 (bV==([119,104,105,108,101]:ak))) fun jx5=>
     bif v4 then
      jx5 true
     else
      jx5 (bV==([101,108,115,101]:ak))) fun jx4=>
    bif v3 then
     jx4 true
    else
     jx4 (bV==([105,102]:ak))) fun uf=>
   bif v2 then
    uf true
   else
    uf (bV==([102,117,110,99]:ak))) fun ir=>
  bif v then
   ir true
  else
   ir (bV==([114,101,102]:ak))) fun cq=>
 bif bV==([97,114,114,97,121]:ak) then
  cq true
 else
  cq (bV==([118,97,114]:ak))
def O8:Cl aW:=om ⟨[],[],[]⟩ 124 f124 func124 call124 [.str] [.bool] (fun d=>zT d.1) []
end
end Go.Fx.R5
namespace Go.Fx.R5
open Go Go.Fx Go.Proofs Go.Proofs.Tryz
noncomputable section
def iv(q:Nat):Nat→ak→Int→Option (Int×Unit)
 |0,_,_=>none
 |k+1,hU,sP=>
  aa (fun(v:Bool)=>
   bif v then
    iv q k hU (cm (sP+1))
   else
    some (sP,())) fun cq=>
  bif decide (sP<(hU.length:Int)) then
   (bA hU sP).bind fun b=>
   (qM (b.toNat:Int)).bind fun r1=>
   cq r1.1
  else
   cq false
def uX(k:Nat)(bV:ak)(jj:Int):Option (Int×Unit):=
 (iv k k bV jj).bind fun o=>
 some (o.1,())
def yB(k:Nat):lq:=⟨⟨18,[],[rD 0 .str],[rI 1],[]⟩,[.ex (.exit 0) [rI 1]],fun q c v=>iv k q c.1 v.1⟩
def CC(k:Nat):Ev aW:=⟨[xS],[lp 0 (yB k) k],[]⟩
def GN(k q:Nat):Cd aW:=nq (CC k) f126 0 (yB k) q []
def LC(k:Nat):Cl aW:=om (CC k) 126 f126 func126 call126 [.str,I] [I] (fun d=>uX k d.1 d.2.1) [GN k k]
def lL(q:Nat):Nat→ak→Int→Int→Option (Int×Unit)
 |0,_,_,_=>none
 |k+1,s2,v3,i1=>
  bif decide (i1<(s2.length:Int)) then
   (bA s2 i1).bind fun b2=>
   lL q k s2 (cm ((cm (v3 * 10))+(cm ((IntKind.u8.wrap ((b2.toNat:Int) - 48)))))) (cm (i1+1))
  else
   some (v3,())
def pk(k:Nat)(s:ak):Option (Int×Unit):=
 aa (fun(v2:Bool)=>
  bif v2 then
   some ((-1),())
  else
   (lL k k s 0 0).bind fun o=>
   bif decide (o.1 > 2147483647) then
    some ((-1),())
   else
    some (o.1,())) fun ir=>
 bif decide ((s.length:Int) > 10) then
  ir true
 else
  aa (fun(v:Bool)=>
   ir v) fun cq=>
  bif decide ((s.length:Int) > 1) then
   (bA s 0).bind fun b=>
   cq ((b.toNat:Int)==48)
  else
   cq false
def zH(k:Nat):lq:=⟨⟨35,[],[rD 0 .str],[rI 3,rI 4],[]⟩,[.ex (.exit 0) [rI 3]],fun q c v=>lL k q c.1 v.1 v.2.1⟩
def Dy(k:Nat):Ev aW:=⟨[],[lp 0 (zH k) k],[]⟩
def H9(k q:Nat):Cd aW:=nq (Dy k) f127 0 (zH k) q []
def M3(k:Nat):Cl aW:=om (Dy k) 127 f127 func127 call127 [.str] [I] (fun d=>pk k d.1) [H9 k k]
def Cs:Option (XS×Unit):=
 some ([([43,37]:ak),([45,37]:ak),([42,37]:ak),([60,60]:ak),([62,62]:ak),([61,61]:ak),([33,61]:ak),([60,61]:ak),([62,61]:ak),([46,46]:ak),([43,61]:ak),([43]:ak),([45]:ak),([42]:ak),([47]:ak),([37]:ak),([38]:ak),([124]:ak),([94]:ak),([60]:ak),([62]:ak),([61]:ak),([40]:ak),([41]:ak),([123]:ak),([125]:ak),([91]:ak),([93]:ak),([44]:ak),([59]:ak)],())
def M2:Cl aW:=om ⟨[],[],[]⟩ 156 f156 func156 call156 [] [sS] (fun d=>Cs) []
def mT(q:Nat):Nat→ak→Int→XS→Int→Option (((Unit)⊕(ak×Unit)))
 |0,_,_,_,_=>none
 |k+1,hU,sP,l,i1=>
  bif decide (i1<(l.length:Int)) then
   (bA l i1).bind fun x1=>
   aa (fun(v2:Bool)=>
    bif v2 then
     (bA l i1).bind fun x3=>
     some (.inr (x3,()))
    else
     mT q k hU sP l (cm (i1+1))) fun cq=>
   bif decide ((x1.length:Int)≤(cm ((hU.length:Int) - sP))) then
    (sub hU sP (cm (sP+(x1.length:Int)))).bind fun l2=>
    (bA l i1).bind fun x2=>
    cq (l2==x2)
   else
    cq false
  else
   some (.inl ())
def zS(k:Nat)(bV:ak)(jj:Int):Option (ak×Unit):=
 aa (fun(v:Bool)=>
  bif v then
   some (([]:ak),())
  else
   (Cs).bind fun r1=>
   (mT k k bV jj r1.1 0).bind fun r=>match r with
   |.inl o=>
    some (([]:ak),())
   |.inr o2=>
    some (o2.1,())) fun cq=>
 bif decide (jj<0) then
  cq true
 else
  cq (decide (jj≥(bV.length:Int)))
def Bm(k:Nat):lq:=⟨⟨51,[],[rD 0 .str,rI 1,rD 5 sS],[rI 6],[]⟩,[.ex (.exit 0) [],.ex .ret [rD 4 .str]],fun q c v=>mT k q c.1 c.2.1 c.2.2.1 v.1⟩
def FZ(k:Nat):Ev aW:=⟨[M2],[lp 0 (Bm k) k],[]⟩
def JH(k q:Nat):Cd aW:=nq (FZ k) f128 0 (Bm k) q []
def O7(k:Nat):Cl aW:=om (FZ k) 128 f128 func128 call128 [.str,I] [.str] (fun d=>zS k d.1 d.2.1) [JH k k]
def n8(k:Nat)(bV:ak)(jj:Int):Option ((Int×Int×ak×Int)×Int×Int×Unit):=
 (bA bV jj).bind fun b=>
 (rJ (b.toNat:Int)).bind fun r1=>
 bif r1.1 then
  (Cr k bV jj).bind fun r2=>
  (sub bV jj r2.1).bind fun l=>
  aa (fun(v:Int)=>
   bif decide ((l.length:Int) > 8) then
    some ((v,jj,l,0),r2.1,3,())
   else
    some ((v,jj,l,0),r2.1,0,())) fun cq=>
  (zT l).bind fun r3=>
  bif r3.1 then
   cq 3
  else
   cq 1
 else
  (bA bV jj).bind fun b2=>
  (qM (b2.toNat:Int)).bind fun r4=>
  bif r4.1 then
   (uX k bV jj).bind fun r5=>
   (sub bV jj r5.1).bind fun l2=>
   (pk k l2).bind fun r6=>
   bif decide (r6.1<0) then
    some ((2,jj,l2,r6.1),r5.1,4,())
   else
    some ((2,jj,l2,r6.1),r5.1,0,())
  else
   (zS k bV jj).bind fun r7=>
   bif r7.1==([]:ak) then
    some ((4,jj,r7.1,0),jj,2,())
   else
    some ((4,jj,r7.1,0),(cm (jj+(r7.1.length:Int))),0,())
def Rk(k:Nat):Cl aW:=om ⟨[CU,Rl k,O8,xS,LC k,M3 k,O7 k],[],[(4,153)]⟩ 81 f81 func81 call81 [.str,I] [tT,I,I] (fun d=>n8 k d.1 d.2.1) []
def eO(q:Nat):Nat→ak→Int→Int→XT→XT→Int→Option (((Int×Int×XT×Unit)⊕(Int×Int×XT×Unit)))
 |0,_,_,_,_,_,_=>none
 |k+1,hU,w,w2,Z6,out,jj=>
  bif decide (jj<(hU.length:Int)) then
   (n8 q hU jj).bind fun r2=>
   bif r2.2.2.1 != 0 then
    some (.inr (r2.2.2.1,jj,Z6,()))
   else
    bif decide ((out.length:Int)≥700) then
     some (.inr (5,jj,Z6,()))
    else
     (lA out ([r2.1])).bind fun l=>
     (oK q hU r2.2.1).bind fun r3=>
     eO q k hU w w2 Z6 l r3.1
  else
   some (.inl (w,w2,out,()))
def mS(k:Nat)(bV:ak):Option (XT×(Int×Int)×Unit):=
 bif decide ((bV.length:Int) > 3000) then
  some ([],(1,0),())
 else
  (oK k bV 0).bind fun r1=>
  (eO k k bV 0 0 [] [] r1.1).bind fun r=>match r with
  |.inl o=>
   some (o.2.2.1,(0,0),())
  |.inr o2=>
   some (o2.2.2.1,(o2.1,o2.2.1),())
def ww(k:Nat):lq:=⟨⟨51,[(52,2)],[rD 0 .str,rP 3 52],[lI 52 0,lI 52 1,(.r 4,.h .dB tT),(.r 5,.h .dB tT),rI 6],[]⟩,[.ex (.exit 0) [lI 52 0,lI 52 1,(.r 5,.h .dB tT)],.ex .ret [lI 52 0,lI 52 1,(.r 2,.h .dB tT)]],fun q c v=>eO k q c.1 v.1 v.2.1 v.2.2.1 v.2.2.2.1 v.2.2.2.2.1⟩
def AF(k:Nat):Ev aW:=⟨[Pb k,Rk k],[lp 0 (ww k) k],[(3,52)]⟩
def Fw(k q:Nat):Cd aW:=nq (AF k) f50 0 (ww k) q []
def JY(k:Nat):Cl aW:=om (AF k) 50 f50 func50 call50 [.str] [sT,tP] (fun d=>mS k d.1) [Fw k k]
def fo(t:XT)(p Code:Int)(bV:ak):Option (Bool×Unit):=
 aa (fun(v:Bool)=>
  aa (fun(v2:Bool)=>
   aa (fun(v3:Bool)=>
    some (v3,())) fun uf=>
   bif v2 then
    (bA t p).bind fun x2=>
    uf (decide (x2.1≥3))
   else
    uf false) fun ir=>
  bif v then
   (bA t p).bind fun x1=>
   ir (x1.2.2.1==bV)
  else
   ir false) fun cq=>
 bif Code==0 then
  cq (decide (p<(t.length:Int)))
 else
  cq false
def mj:Cl aW:=ml ⟨[],[],[]⟩ 129 f129 func129 call129 [500000] ⟨⟨52,[(114,7)],[lD 114 0 sT,lI 114 1,lI 114 2,lF 114 3 tN,lI 114 4,lI 114 5,lI 114 6],[rP 0 114,rD 1 .str],[]⟩,[.ret [rD 500000 .bool] []],fun c v=>fo c.1 c.2.1 c.2.2.2.2.2.1 v.2.1⟩ []
def bW(t:XT)(p Code:Int)(bV:ak):Option (Bool×Int×Unit):=
 (fo t p Code bV).bind fun r1=>
 bif r1.1 then
  some (true,(cm (p+1)),())
 else
  some (false,p,())
def jf:Cl aW:=ml ⟨[mj],[],[]⟩ 82 f82 func82 call82 [500000] ⟨⟨16,[(114,7)],[lD 114 0 sT,lI 114 2,lF 114 3 tN,lI 114 4,lI 114 5,lI 114 6],[rP 0 114,rD 1 .str,lI 114 1],[]⟩,[.ret [rD 500000 .bool,lI 114 1] []],fun c v=>bW c.1 v.2.2.1 c.2.2.2.2.1 v.2.1⟩ []
def da(t:XT)(p aB:Int):Option (Int×Unit):=
 bif decide (p<(t.length:Int)) then
  (bA t p).bind fun x1=>
  some (x1.2.1,())
 else
  some (aB,())
def fA:Cl aW:=ml ⟨[],[],[]⟩ 83 f83 func83 call83 [500000] ⟨⟨28,[(114,7)],[lD 114 0 sT,lI 114 1,lI 114 2,lF 114 3 tN,lI 114 4,lI 114 5,lI 114 6],[rP 0 114],[]⟩,[.ret [rI 500000] []],fun c v=>da c.1 c.2.1 c.2.2.1⟩ []
def iU(t:XT)(p Code k1:Int):Option (Bool×Unit):=
 aa (fun(v:Bool)=>
  aa (fun(v2:Bool)=>
   some (v2,())) fun ir=>
  bif v then
   (bA t p).bind fun x1=>
   ir (x1.1==k1)
  else
   ir false) fun cq=>
 bif Code==0 then
  cq (decide (p<(t.length:Int)))
 else
  cq false
def nA:Cl aW:=ml ⟨[],[],[]⟩ 130 f130 func130 call130 [500000] ⟨⟨38,[(114,7)],[lD 114 0 sT,lI 114 1,lI 114 2,lF 114 3 tN,lI 114 4,lI 114 5,lI 114 6],[rP 0 114,rI 1],[]⟩,[.ret [rD 500000 .bool] []],fun c v=>iU c.1 c.2.1 c.2.2.2.2.2.1 v.2.1⟩ []
def iT(t:XT)(p aB Code At code:Int):Option (Int×Int×Unit):=
 bif Code==0 then
  (da t p aB).bind fun r1=>
  some (code,r1.1,())
 else
  some (Code,At,())
def nz:Cl aW:=ml ⟨[fA],[],[]⟩ 131 f131 func131 call131 [] ⟨⟨17,[(114,7)],[lD 114 0 sT,lI 114 1,lI 114 2,lF 114 3 tN,lI 114 4],[rP 0 114,rI 1,lI 114 5,lI 114 6],[]⟩,[.ret [lI 114 5,lI 114 6] []],fun c v=>iT c.1 c.2.1 c.2.2.1 v.2.2.1 v.2.2.2.1 v.2.1⟩ []
def dC(t:XT)(p aB Code At:Int):Option (ak×Int×Int×Int×Unit):=
 (iU t p Code 1).bind fun r1=>
 bif !r1.1 then
  (iT t p aB Code At 6).bind fun r2=>
  some (([]:ak),p,r2.1,r2.2.1,())
 else
  (bA t (cm ((cm (p+1)) - 1))).bind fun x1=>
  some (x1.2.2.1,(cm (p+1)),Code,At,())
def je:Cl aW:=ml ⟨[nA,nz],[],[]⟩ 84 f84 func84 call84 [500000] ⟨⟨28,[(114,7)],[lD 114 0 sT,lI 114 2,lF 114 3 tN,lI 114 4],[rP 0 114,lI 114 1,lI 114 5,lI 114 6],[]⟩,[.ret [rD 500000 .str,lI 114 1,lI 114 5,lI 114 6] []],fun c v=>dC c.1 v.2.1 c.2.1 v.2.2.1 v.2.2.2.1⟩ []
def aK(t:XT)(p aB Code At:Int)(bV:ak):Option (Int×Int×Int×Unit):=
 (bW t p Code bV).bind fun r1=>
 bif !r1.1 then
  (iT t r1.2.1 aB Code At 6).bind fun r2=>
  some (r1.2.1,r2.1,r2.2.1,())
 else
  some (r1.2.1,Code,At,())
def jd:Cl aW:=ml ⟨[jf,nz],[],[]⟩ 85 f85 func85 call85 [] ⟨⟨10,[(114,7)],[lD 114 0 sT,lI 114 2,lF 114 3 tN,lI 114 4],[rP 0 114,rD 1 .str,lI 114 1,lI 114 5,lI 114 6],[]⟩,[.ret [lI 114 1,lI 114 5,lI 114 6] []],fun c v=>aK c.1 v.2.2.1 c.2.1 v.2.2.2.1 v.2.2.2.2.1 v.2.1⟩ []
def lQ(t:XT)(p aB Code At:Int):Option (Int×Int×Int×Int×Unit):=
 (iU t p Code 2).bind fun r1=>
 bif !r1.1 then
  (iT t p aB Code At 6).bind fun r2=>
  some (0,p,r2.1,r2.2.1,())
 else
  (bA t (cm ((cm (p+1)) - 1))).bind fun x1=>
  some (x1.2.2.2,(cm (p+1)),Code,At,())
def zq:Cl aW:=ml ⟨[nA,nz],[],[]⟩ 86 f86 func86 call86 [500000] ⟨⟨28,[(114,7)],[lD 114 0 sT,lI 114 2,lF 114 3 tN,lI 114 4],[rP 0 114,lI 114 1,lI 114 5,lI 114 6],[]⟩,[.ret [rI 500000,lI 114 1,lI 114 5,lI 114 6] []],fun c v=>lQ c.1 v.2.1 c.2.1 v.2.2.1 v.2.2.2.1⟩ []
def aR(az:XN)(Code:Int)(n:Int×Int×Int×ak×XI):Option (Int×XN×Unit):=
 bif Code != 0 then
  some (0,az,())
 else
  (lA az ([n])).bind fun l=>
  some ((cm ((l.length:Int) - 1)),l,())
def eJ:Cl aW:=ml ⟨[],[],[(3,101)]⟩ 87 f87 func87 call87 [500000] ⟨⟨27,[(114,7)],[lD 114 0 sT,lI 114 1,lI 114 2,lI 114 4,lI 114 5,lI 114 6],[rP 0 114,rD 1 tN,lF 114 3 tN],[]⟩,[.ret [rI 500000,lF 114 3 tN] []],fun c v=>aR v.2.2.1 c.2.2.2.2.1 v.2.1⟩ []
def ip(t:XT)(p aB bK Code At:Int):Option (Bool×Int×Int×Int×Unit):=
 aa (fun(jv:Int×Int)=>
  some ((jv.1)==0,(cm (bK+1)),(jv.1),(jv.2),())) fun cq=>
 bif decide ((cm (bK+1)) > 10) then
  (iT t p aB Code At 7).bind fun r1=>
  cq (r1.1,r1.2.1)
 else
  cq (Code,At)
def pr:Cl aW:=ml ⟨[nz],[],[]⟩ 132 f132 func132 call132 [500000] ⟨⟨24,[(114,7)],[lD 114 0 sT,lI 114 1,lI 114 2,lF 114 3 tN],[rP 0 114,lI 114 4,lI 114 5,lI 114 6],[]⟩,[.ret [rD 500000 .bool,lI 114 4,lI 114 5,lI 114 6] []],fun c v=>ip c.1 c.2.1 c.2.2.1 v.2.1 v.2.2.1 v.2.2.2.1⟩ []
def cS(q:Nat):Nat→XT→Int→Int→Int→XN→Int→Int→XI→Option (Int×XN×Int×Int×XI×Unit)
 |0,_,_,_,_,_,_,_,_=>none
 |k+1,t3,Xy,k2,p3,Er,If,At3,vX=>
  (bW t3 p3 If ([44]:ak)).bind fun r7=>
  bif r7.1 then
   (da t3 r7.2.1 Xy).bind fun r8=>
   (dC t3 r7.2.1 Xy If At3).bind fun r9=>
   (aR Er r9.2.2.1 (k2,r8.1,0,r9.1,[])).bind fun mw=>
   (lA vX ([mw.1])).bind fun l2=>
   cS q k t3 Xy k2 r9.2.1 mw.2.1 r9.2.2.1 r9.2.2.2.1 l2
  else
   some (r7.2.1,Er,If,At3,vX,())
def cR(q:Nat):Nat→XT→Int→Int→XN→Int→Int→XI→Option (Int×XN×Int×Int×XI×Unit)
 |0,_,_,_,_,_,_,_=>none
 |k+1,t2,fG,p2,bX,gU,HW,out=>
  (fo t2 p2 gU ([118,97,114]:ak)).bind fun r1=>
  aa (fun(v:Bool)=>
   bif v then
    aa (fun(k1:Int)=>
     (da t2 (cm (p2+1)) fG).bind fun r4=>
     (dC t2 (cm (p2+1)) fG gU HW).bind fun r5=>
     (aR bX r5.2.2.1 (k1,r4.1,0,r5.1,[])).bind fun r6=>
     (lA out ([r6.1])).bind fun l=>
     (cS q q t2 fG k1 r5.2.1 r6.2.1 r5.2.2.1 r5.2.2.2.1 l).bind fun o=>
     (aK t2 o.1 fG o.2.2.1 o.2.2.2.1 ([59]:ak)).bind fun r7=>
     cR q k t2 fG r7.1 o.2.1 r7.2.1 r7.2.2.1 o.2.2.2.2.1) fun ir=>
    (fo t2 p2 gU ([114,101,102]:ak)).bind fun r3=>
    bif r3.1 then
     ir 7
    else
     ir 6
   else
    some (p2,bX,gU,HW,out,())) fun cq=>
  bif r1.1 then
   cq true
  else
   (fo t2 p2 gU ([114,101,102]:ak)).bind fun r2=>
   cq r2.1
def pA(k:Nat)(t:XT)(p aB:Int)(az:XN)(Code At:Int):Option (XI×Int×XN×Int×Int×Unit):=
 (cR k k t aB p az Code At []).bind fun o=>
 some (o.2.2.2.2.1,o.1,o.2.1,o.2.2.1,o.2.2.2.1,())
def vu(k:Nat):lq:=⟨⟨55,[(114,7)],[lD 114 0 sT,lI 114 2,lI 114 4,rP 0 114,rI 4],[lI 114 1,lF 114 3 tN,lI 114 5,lI 114 6,(.r 3,.h .dB I)],[]⟩,[.ex (.exit 2) [lI 114 1,lF 114 3 tN,lI 114 5,lI 114 6,(.r 3,.h .dB I)]],fun q c v=>cS k q c.1 c.2.1 c.2.2.2.2.1 v.1 v.2.1 v.2.2.1 v.2.2.2.1 v.2.2.2.2.1⟩
def vq(k:Nat):lq:=⟨⟨55,[(114,7)],[lD 114 0 sT,lI 114 2,lI 114 4,rP 0 114],[lI 114 1,lF 114 3 tN,lI 114 5,lI 114 6,(.r 3,.h .dB I)],[]⟩,[.ex (.exit 0) [lI 114 1,lF 114 3 tN,lI 114 5,lI 114 6,(.r 3,.h .dB I)]],fun q c v=>cR k q c.1 c.2.1 v.1 v.2.1 v.2.2.1 v.2.2.2.1 v.2.2.2.2.1⟩
def s8(k:Nat):Ev aW:=⟨[jf,fA,je,jd,eJ,mj],[lp 2 (vu k) k,lp 0 (vq k) k],[]⟩
def Dv(k q:Nat):Cd aW:=nq (s8 k) f133 2 (vu k) q []
def Du(k q:Nat):Cd aW:=nq (s8 k) f133 0 (vq k) q [Dv k k]
def IA(k:Nat):Cl aW:=ml (s8 k) 133 f133 func133 call133 [500000] ⟨⟨55,[(114,7)],[lD 114 0 sT,lI 114 2,lI 114 4],[rP 0 114,lI 114 1,lF 114 3 tN,lI 114 5,lI 114 6],[]⟩,[.ret [(.r 500000,.h .dB I),lI 114 1,lF 114 3 tN,lI 114 5,lI 114 6] []],fun c v=>pA k c.1 v.2.1 c.2.1 v.2.2.1 v.2.2.2.1 v.2.2.2.2.1⟩ [Du k k]
def uN(xg:ak)(vB:Int):Option (Int×Unit):=
 aa (fun(v:Bool)=>
  bif v then
   some (7,())
  else
   aa (fun(v2:Bool)=>
    bif v2 then
     some (8,())
    else
     aa (fun(v3:Bool)=>
      bif v3 then
       some (6,())
      else
       aa (fun(v4:Bool)=>
        bif v4 then
         some (9,())
        else
         aa (fun(v5:Bool)=>
          bif v5 then
           some (10,())
          else
           aa (fun(v6:Bool)=>
            bif v6 then
             some (1,())
            else
             aa (fun(v7:Bool)=>
              bif v7 then
               some (2,())
              else
               aa (fun(v8:Bool)=>
                bif v8 then
                 some (11,())
                else
                 aa (fun(v9:Bool)=>
                  bif v9 then
                   some (12,())
                  else
                   aa (fun(v10:Bool)=>
                    bif v10 then
                     some (3,())
                    else
                     aa (fun(v11:Bool)=>
                      bif v11 then
                       some (4,())
                      else
                       aa (fun(v12:Bool)=>
                        bif v12 then
                         some (5,())
                        else
                         aa (fun(v13:Bool)=>
                          bif v13 then
                           some (13,())
                          else
                           some (0,())) fun ZK=>
                         bif vB==6 then
                          ZK (xg==([42,37]:ak))
                         else
                          ZK false) fun ZJ=>
                       bif vB==6 then
                        ZJ (xg==([37]:ak))
                       else
                        ZJ false) fun ZI=>
                     bif vB==6 then
                      ZI (xg==([47]:ak))
                     else
                      ZI false) fun TE=>
                   bif vB==6 then
                    TE (xg==([42]:ak))
                   else
                    TE false) fun jx9=>
                 bif vB==5 then
                  jx9 (xg==([45,37]:ak))
                 else
                  jx9 false) fun jx8=>
               bif vB==5 then
                jx8 (xg==([43,37]:ak))
               else
                jx8 false) fun jx7=>
             bif vB==5 then
              jx7 (xg==([45]:ak))
             else
              jx7 false) fun jx6=>
           bif vB==5 then
            jx6 (xg==([43]:ak))
           else
            jx6 false) fun jx5=>
         bif vB==4 then
          jx5 (xg==([62,62]:ak))
         else
          jx5 false) fun jx4=>
       bif vB==4 then
        jx4 (xg==([60,60]:ak))
       else
        jx4 false) fun uf=>
     bif vB==3 then
      uf (xg==([38]:ak))
     else
      uf false) fun ir=>
   bif vB==2 then
    ir (xg==([94]:ak))
   else
    ir false) fun cq=>
 bif vB==1 then
  cq (xg==([124]:ak))
 else
  cq false
theorem lvl{P:Int→Prop}(h0:P 0)(h1:P 1)(h2:P 2)(h3:P 3)(h4:P 4)(h5:P 5)(h6:P 6)(hn:∀ n:Nat,P (.ofNat (n+7)))(hm:∀ n:Nat,P (.negSucc n)):∀ l,P l
 |.ofNat 0=>h0 | .ofNat 1=>h1 | .ofNat 2=>h2 | .ofNat 3=>h3 | .ofNat 4=>h4 | .ofNat 5=>h5 | .ofNat 6=>h6 | .ofNat (n+7)=>hn n | .negSucc n=>hm n
def UQ:Ev aW:=⟨[],[],[]⟩
def S3:Cl aW:=om UQ 172 f172 func172 call172 [.str,I] [I] (fun d=>uN d.1 d.2.1) [] (h:=fun d=>lvl (P:=fun l=>∀ s,uN s l=sm UQ.e (qT f172) (stD f172.ntmps [.str,I] (s,l,())) (kD UQ.e f172.results.toList [I]) (fun _ _=>none)) (fun s=>by kernel_rfl) (fun s=>by kernel_rfl) (fun s=>by kernel_rfl) (fun s=>by kernel_rfl) (fun s=>by kernel_rfl) (fun s=>by kernel_rfl) (fun s=>by kernel_rfl) (fun n s=>by kernel_rfl) (fun n s=>by kernel_rfl) d.2.1 d.1)
def mq(t:XT)(p Code:Int):Option (ak×Unit):=
 (iU t p Code 4).bind fun r1=>
 bif r1.1 then
  (bA t p).bind fun x1=>
  some (x1.2.2.1,())
 else
  some (([]:ak),())
def CW:Cl aW:=ml ⟨[nA],[],[]⟩ 173 f173 func173 call173 [500000] ⟨⟨16,[(114,7)],[lD 114 0 sT,lI 114 1,lI 114 2,lF 114 3 tN,lI 114 4,lI 114 5,lI 114 6],[rP 0 114],[]⟩,[.ret [rD 500000 .str] []],fun c v=>mq c.1 c.2.1 c.2.2.2.2.2.1⟩ []
end
end Go.Fx.R5
namespace Go.Fx.R5
open Go Go.Fx Go.Proofs Go.Proofs.Tryz
noncomputable section
abbrev jn:=XT→Int→Int→XN→Int→Int→Int→Int→Option (Int×Int×XN×Int×Int×Int×Unit)
def qv(f:jn):EU:=⟨⟨57,[(114,7)],[lD 114 0 sT,lI 114 2],[rP 0 114,rI 1,lI 114 1,lF 114 3 tN,lI 114 4,lI 114 5,lI 114 6],[]⟩,[.ret [rI 500000,lI 114 1,lF 114 3 tN,lI 114 4,lI 114 5,lI 114 6] []],fun c v=>f c.1 v.2.2.1 c.2.1 v.2.2.2.1 v.2.2.2.2.1 v.2.2.2.2.2.1 v.2.2.2.2.2.2.1 v.2.1⟩
def AO(f:jn):iX:=mP (qv f).L (qv f).F (BH [500000] (qv f).V)
abbrev jo:=XT→Int→Int→XN→Int→Int→Int→Option (Int×Int×XN×Int×Int×Int×Unit)
def qw(f:jo):EU:=⟨⟨36,[(114,7)],[lD 114 0 sT,lI 114 2],[rP 0 114,lI 114 1,lF 114 3 tN,lI 114 4,lI 114 5,lI 114 6],[]⟩,[.ret [rI 500000,lI 114 1,lF 114 3 tN,lI 114 4,lI 114 5,lI 114 6] []],fun c v=>f c.1 v.2.1 c.2.1 v.2.2.1 v.2.2.2.1 v.2.2.2.2.1 v.2.2.2.2.2.1⟩
def AP(f:jo):iX:=mP (qw f).L (qw f).F (BH [500000] (qw f).V)
abbrev ie:=XT→Int→Int→XN→Int→Int→Int→Option (Int×Int×XN×Int×Int×Int×Unit)
def oR(f:ie):EU:=⟨⟨78,[(114,7)],[lD 114 0 sT,lI 114 2],[rP 0 114,lI 114 1,lF 114 3 tN,lI 114 4,lI 114 5,lI 114 6],[]⟩,[.ret [rI 500000,lI 114 1,lF 114 3 tN,lI 114 4,lI 114 5,lI 114 6] []],fun c v=>f c.1 v.2.1 c.2.1 v.2.2.1 v.2.2.2.1 v.2.2.2.2.1 v.2.2.2.2.2.1⟩
def xO(f:ie):iX:=mP (oR f).L (oR f).F (BH [500000] (oR f).V)
def fq(ci:jn)(cF:jo)(cB:ie)(q:Nat):Nat→XT→Int→Int→Int→XN→Int→Int→Int→Int→Option (Int×XN×Int×Int×Int×Int×Unit)
 |0,_,_,_,_,_,_,_,_,_=>none
 |k+1,t2,fG,n2,p2,bX,mE,gU,HW,x1=>
  aa (fun(v:Bool)=>
   bif v then
    (da t2 p2 fG).bind fun r5=>
    (mq t2 p2 gU).bind fun r6=>
    (uN r6.1 n2).bind fun r7=>
    (ci t2 (cm (p2+1)) fG bX mE gU HW (cm (n2+1))).bind fun r8=>
    (aR r8.2.2.1 r8.2.2.2.2.1 (28,r5.1,r7.1,([]:ak),[x1,r8.1])).bind fun r9=>
    fq ci cF cB q k t2 fG n2 r8.2.1 r9.2.1 r8.2.2.2.1 r8.2.2.2.2.1 r8.2.2.2.2.2.1 r9.1
   else
    some (p2,bX,mE,gU,HW,x1,())) fun cq=>
  bif gU==0 then
   (mq t2 p2 gU).bind fun r3=>
   (uN r3.1 n2).bind fun r4=>
   cq (r4.1 != 0)
  else
   cq false
def gK(ci:jn)(cF:jo)(cB:ie)(k:Nat)(t:XT)(p aB:Int)(az:XN)(bK Code At n:Int):Option (Int×Int×XN×Int×Int×Int×Unit):=
 bif decide (n > 6) then
  (cF t p aB az bK Code At).bind fun r1=>
  some (r1.1,r1.2.1,r1.2.2.1,r1.2.2.2.1,r1.2.2.2.2.1,r1.2.2.2.2.2.1,())
 else
  (ci t p aB az bK Code At (cm (n+1))).bind fun r2=>
  (fq ci cF cB k k t aB n r2.2.1 r2.2.2.1 r2.2.2.2.1 r2.2.2.2.2.1 r2.2.2.2.2.2.1 r2.1).bind fun o=>
  some (o.2.2.2.2.2.1,o.1,o.2.1,o.2.2.1,o.2.2.2.1,o.2.2.2.2.1,())
def iw(ci:jn)(cF:jo)(cB:ie)(k:Nat)(t:XT)(p aB:Int)(az:XN)(bK Code At:Int):Option (Int×Int×XN×Int×Int×Int×Unit):=
 (da t p aB).bind fun r1=>
 (bW t p Code ([45]:ak)).bind fun r2=>
 bif r2.1 then
  (ip t r2.2.1 aB bK Code At).bind fun r3=>
  bif !r3.1 then
   some (0,r2.2.1,az,r3.2.1,r3.2.2.1,r3.2.2.2.1,())
  else
   (aR az r3.2.2.1 (24,r1.1,0,([]:ak),[])).bind fun r4=>
   (cF t r2.2.1 aB r4.2.1 r3.2.1 r3.2.2.1 r3.2.2.2.1).bind fun r5=>
   (aR r5.2.2.1 r5.2.2.2.2.1 (28,r1.1,2,([]:ak),[r4.1,r5.1])).bind fun r6=>
   some (r6.1,r5.2.1,r6.2.1,(cm (r5.2.2.2.1 - 1)),r5.2.2.2.2.1,r5.2.2.2.2.2.1,())
 else
  (cB t r2.2.1 aB az bK Code At).bind fun r7=>
  some (r7.1,r7.2.1,r7.2.2.1,r7.2.2.2.1,r7.2.2.2.2.1,r7.2.2.2.2.2.1,())
def cC(ci:jn)(cF:jo)(cB:ie)(k:Nat)(t:XT)(p aB:Int)(az:XN)(bK Code At:Int):Option (Int×Int×XN×Int×Int×Int×Unit):=
 (da t p aB).bind fun r1=>
 (iU t p Code 2).bind fun r2=>
 bif r2.1 then
  (lQ t p aB Code At).bind fun r3=>
  (aR az r3.2.2.1 (24,r1.1,r3.1,([]:ak),[])).bind fun r4=>
  some (r4.1,r3.2.1,r4.2.1,bK,r3.2.2.1,r3.2.2.2.1,())
 else
  (bW t p Code ([40]:ak)).bind fun r5=>
  bif r5.1 then
   (ip t r5.2.1 aB bK Code At).bind fun r6=>
   bif !r6.1 then
    some (0,r5.2.1,az,r6.2.1,r6.2.2.1,r6.2.2.2.1,())
   else
    (ci t r5.2.1 aB az r6.2.1 r6.2.2.1 r6.2.2.2.1 1).bind fun r7=>
    (aK t r7.2.1 aB r7.2.2.2.2.1 r7.2.2.2.2.2.1 ([41]:ak)).bind fun r8=>
    some (r7.1,r8.1,r7.2.2.1,(cm (r7.2.2.2.1 - 1)),r8.2.1,r8.2.2.1,())
  else
   (bW t r5.2.1 Code ([42]:ak)).bind fun r9=>
   bif r9.1 then
    (dC t r9.2.1 aB Code At).bind fun mw=>
    (aR az mw.2.2.1 (27,r1.1,0,mw.1,[])).bind fun po=>
    some (po.1,mw.2.1,po.2.1,bK,mw.2.2.1,mw.2.2.2.1,())
   else
    (dC t r9.2.1 aB Code At).bind fun qY=>
    (bW t qY.2.1 qY.2.2.1 ([91]:ak)).bind fun sM=>
    bif sM.1 then
     (ip t sM.2.1 aB bK qY.2.2.1 qY.2.2.2.1).bind fun sW=>
     bif !sW.1 then
      some (0,sM.2.1,az,sW.2.1,sW.2.2.1,sW.2.2.2.1,())
     else
      (ci t sM.2.1 aB az sW.2.1 sW.2.2.1 sW.2.2.2.1 1).bind fun sa=>
      (aK t sa.2.1 aB sa.2.2.2.2.1 sa.2.2.2.2.2.1 ([93]:ak)).bind fun t7=>
      (aR sa.2.2.1 t7.2.1 (26,r1.1,0,qY.1,[sa.1])).bind fun xe=>
      some (xe.1,t7.1,xe.2.1,(cm (sa.2.2.2.1 - 1)),t7.2.1,t7.2.2.1,())
    else
     (aR az qY.2.2.1 (25,r1.1,0,qY.1,[])).bind fun sO=>
     some (sO.1,sM.2.1,sO.2.1,bK,qY.2.2.1,qY.2.2.2.1,())
def eo:Nat→jn×jo×ie
 |0=>(fun _ _ _ _ _ _ _ _=>none,fun _ _ _ _ _ _ _=>none,fun _ _ _ _ _ _ _=>none)
 |k+1=>(gK (eo k).1 (eo k).2.1 (eo k).2.2 k,iw (eo k).1 (eo k).2.1 (eo k).2.2 k,cC (eo k).1 (eo k).2.1 (eo k).2.2 k)
def am(k:Nat):jn:=(eo k).1
def ik(k:Nat):jo:=(eo k).2.1
def gL(k:Nat):ie:=(eo k).2.2
section
variable (ci:Gd aW 159 AO) (cF:Gd aW 171 AP) (cB:Gd aW 183 xO)
def wC(k:Nat):lq:=⟨⟨57,[(114,7)],[lD 114 0 sT,lI 114 2,rP 0 114,rI 1],[lI 114 1,lF 114 3 tN,lI 114 4,lI 114 5,lI 114 6,rI 5],[]⟩,[.ex (.exit 0) [lI 114 1,lF 114 3 tN,lI 114 4,lI 114 5,lI 114 6,rI 5]],fun q c v=>fq ci.1 cF.1 cB.1 k q c.1 c.2.1 c.2.2.2.1 v.1 v.2.1 v.2.2.1 v.2.2.2.1 v.2.2.2.2.1 v.2.2.2.2.2.1⟩
def AH(k:Nat):Ev aW:=⟨[fA,eJ,ci.cl,cF.cl,S3,CW],[lp 0 (wC ci cF cB k) k],[]⟩
def FC(k q:Nat):Cd aW:=nq (AH ci cF cB k) f159 0 (wC ci cF cB k) q []
def Kc(k:Nat):Cl aW:=ml (AH ci cF cB k) 159 f159 func159 call159 [500000] (qv (gK ci.1 cF.1 cB.1 k)) [FC ci cF cB k k]
def Ke(k:Nat):Cl aW:=ml ⟨[jf,fA,eJ,pr,cF.cl,cB.cl],[],[]⟩ 171 f171 func171 call171 [500000] (qw (iw ci.1 cF.1 cB.1 k)) []
def Hk(k:Nat):Cl aW:=ml ⟨[jf,fA,je,jd,zq,eJ,nA,pr,ci.cl],[],[]⟩ 183 f183 func183 call183 [500000] (oR (cC ci.1 cF.1 cB.1 k)) []
end
theorem ng:∀ k,mb prog gt 159 (AO (am k))∧mb prog gt 171 (AP (ik k))∧mb prog gt 183 (xO (gL k))
 |0=>⟨dj (fun _ _=>rfl),dj (fun _ _=>rfl),dj (fun _ _=>rfl)⟩
 |k+1=>have ih:=ng k;⟨(Kc ⟨_,ih.1⟩ ⟨_,ih.2.1⟩ ⟨_,ih.2.2⟩ k).ok,(Ke ⟨_,ih.1⟩ ⟨_,ih.2.1⟩ ⟨_,ih.2.2⟩ k).ok,(Hk ⟨_,ih.1⟩ ⟨_,ih.2.1⟩ ⟨_,ih.2.2⟩ k).ok⟩
def qB(k:Nat):Cl aW:=⟨_,_,(ng k).1⟩
def Xt(k:Nat):Cl aW:=⟨_,_,(ng k).2.1⟩
def U0(k:Nat):Cl aW:=⟨_,_,(ng k).2.2⟩
def nQ(t:XT)(p aB:Int)(az:XN)(Code At:Int):Option (Int×Int×XN×Int×Int×Unit):=
 (da t p aB).bind fun r1=>
 (dC t p aB Code At).bind fun r2=>
 (aR az r2.2.2.1 (23,r1.1,0,r2.1,[])).bind fun r3=>
 some (r3.1,r2.2.1,r3.2.1,r2.2.2.1,r2.2.2.2.1,())
def M4:Cl aW:=ml ⟨[fA,je,eJ],[],[]⟩ 168 f168 func168 call168 [500000] ⟨⟨14,[(114,7)],[lD 114 0 sT,lI 114 2,lI 114 4],[rP 0 114,lI 114 1,lF 114 3 tN,lI 114 5,lI 114 6],[]⟩,[.ret [rI 500000,lI 114 1,lF 114 3 tN,lI 114 5,lI 114 6] []],fun c v=>nQ c.1 v.2.1 c.2.1 v.2.2.1 v.2.2.2.1 v.2.2.2.2.1⟩ []
def uY(t:XT)(p:Int)(bV:ak):Option (Bool×Unit):=
 aa (fun(v:Bool)=>
  aa (fun(v2:Bool)=>
   some (v2,())) fun ir=>
  bif v then
   (bA t (cm (p+1))).bind fun x2=>
   ir (x2.1==4)
  else
   ir false) fun cq=>
 bif decide ((cm (p+1))<(t.length:Int)) then
  (bA t (cm (p+1))).bind fun x1=>
  cq (x1.2.2.1==bV)
 else
  cq false
def LD:Cl aW:=ml ⟨[],[],[]⟩ 169 f169 func169 call169 [500000] ⟨⟨47,[(114,7)],[lD 114 0 sT,lI 114 1,lI 114 2,lF 114 3 tN,lI 114 4,lI 114 5,lI 114 6],[rP 0 114,rD 1 .str],[]⟩,[.ret [rD 500000 .bool] []],fun c v=>uY c.1 c.2.1 v.2.1⟩ []
def bx(q:Nat):Nat→XT→Int→Int→XN→Int→Int→Int→XI→Option (Int×XN×Int×Int×Int×XI×Unit)
 |0,_,_,_,_,_,_,_,_=>none
 |k+1,t2,fG,p2,bX,mE,gU,HW,cE=>
  aa (fun(v2:Bool)=>
   bif v2 then
    aa (fun(jv:Int×Int×Int)=>
     (am q t2 (jv.1) fG bX mE (jv.2.1) (jv.2.2) 1).bind fun r28=>
     (lA cE ([r28.1])).bind fun l=>
     bx q k t2 fG r28.2.1 r28.2.2.1 r28.2.2.2.1 r28.2.2.2.2.1 r28.2.2.2.2.2.1 l) fun ir=>
    bif decide ((cE.length:Int) > 1) then
     (aK t2 p2 fG gU HW ([44]:ak)).bind fun r27=>
     ir (r27.1,r27.2.1,r27.2.2.1)
    else
     ir (p2,gU,HW)
   else
    some (p2,bX,mE,gU,HW,cE,())) fun cq=>
  bif gU==0 then
   (fo t2 p2 gU ([41]:ak)).bind fun r26=>
   cq (!r26.1)
  else
   cq false
def dU(k:Nat)(t:XT)(p aB:Int)(az:XN)(bK Code At:Int):Option (Int×Int×XN×Int×Int×Int×Unit):=
 (da t p aB).bind fun r1=>
 (dC t p aB Code At).bind fun r2=>
 (bW t r2.2.1 r2.2.2.1 ([91]:ak)).bind fun r3=>
 bif r3.1 then
  (am k t r3.2.1 aB az bK r2.2.2.1 r2.2.2.2.1 1).bind fun r4=>
  (aK t r4.2.1 aB r4.2.2.2.2.1 r4.2.2.2.2.2.1 ([93]:ak)).bind fun r5=>
  (aK t r5.1 aB r5.2.1 r5.2.2.1 ([61]:ak)).bind fun r6=>
  (am k t r6.1 aB r4.2.2.1 r4.2.2.2.1 r6.2.1 r6.2.2.1 1).bind fun r7=>
  (aK t r7.2.1 aB r7.2.2.2.2.1 r7.2.2.2.2.2.1 ([59]:ak)).bind fun r8=>
  (aR r7.2.2.1 r8.2.1 (10,r1.1,0,r2.1,[r4.1,r7.1])).bind fun r9=>
  some (r9.1,r8.1,r9.2.1,r7.2.2.2.1,r8.2.1,r8.2.2.1,())
 else
  (bW t r3.2.1 r2.2.2.1 ([43,61]:ak)).bind fun mw=>
  bif mw.1 then
   (am k t mw.2.1 aB az bK r2.2.2.1 r2.2.2.2.1 1).bind fun po=>
   (aK t po.2.1 aB po.2.2.2.2.1 po.2.2.2.2.2.1 ([59]:ak)).bind fun qY=>
   (aR po.2.2.1 qY.2.1 (13,r1.1,0,r2.1,[po.1])).bind fun sM=>
   some (sM.1,qY.1,sM.2.1,po.2.2.2.1,qY.2.1,qY.2.2.1,())
  else
   (aK t mw.2.1 aB r2.2.2.1 r2.2.2.2.1 ([61]:ak)).bind fun sW=>
   (bW t sW.1 sW.2.1 ([38]:ak)).bind fun sa=>
   bif sa.1 then
    (nQ t sa.2.1 aB az sW.2.1 sW.2.2.1).bind fun t7=>
    (aK t t7.2.1 aB t7.2.2.2.1 t7.2.2.2.2.1 ([91]:ak)).bind fun xe=>
    (am k t xe.1 aB t7.2.2.1 bK xe.2.1 xe.2.2.1 1).bind fun sO=>
    (aK t sO.2.1 aB sO.2.2.2.2.1 sO.2.2.2.2.2.1 ([93]:ak)).bind fun sX=>
    (aK t sX.1 aB sX.2.1 sX.2.2.1 ([59]:ak)).bind fun yP=>
    (aR sO.2.2.1 yP.2.1 (12,r1.1,0,r2.1,[t7.1,sO.1])).bind fun BJ=>
    some (BJ.1,yP.1,BJ.2.1,sO.2.2.2.1,yP.2.1,yP.2.2.1,())
   else
    (iU t sa.2.1 sW.2.1 1).bind fun PH=>
    aa (fun(v:Bool)=>
     bif v then
      (nQ t sa.2.1 aB az sW.2.1 sW.2.2.1).bind fun JD=>
      (aK t JD.2.1 aB JD.2.2.2.1 JD.2.2.2.2.1 ([40]:ak)).bind fun r25=>
      (bx k k t aB r25.1 JD.2.2.1 bK r25.2.1 r25.2.2.1 ([JD.1])).bind fun o=>
      (aK t o.1 aB o.2.2.2.1 o.2.2.2.2.1 ([41]:ak)).bind fun r26=>
      (aK t r26.1 aB r26.2.1 r26.2.2.1 ([59]:ak)).bind fun r27=>
      (aR o.2.1 r27.2.1 (22,r1.1,0,r2.1,o.2.2.2.2.2.1)).bind fun r28=>
      some (r28.1,r27.1,r28.2.1,o.2.2.1,r27.2.1,r27.2.2.1,())
     else
      aa (fun(jv:Int×Int×XN×Int×Int×Int)=>
       (aK t (jv.2.1) aB (jv.2.2.2.2.1) (jv.2.2.2.2.2) ([59]:ak)).bind fun r33=>
       (aR (jv.2.2.1) r33.2.1 (9,r1.1,0,r2.1,[(jv.1)])).bind fun r34=>
       some (r34.1,r33.1,r34.2.1,(jv.2.2.2.1),r33.2.1,r33.2.2.1,())) fun ir=>
      (fo t sa.2.1 sW.2.1 ([110,117,108,108]:ak)).bind fun r29=>
      bif r29.1 then
       (da t sa.2.1 aB).bind fun r30=>
       (aR az sW.2.1 (29,r30.1,0,([]:ak),[])).bind fun r31=>
       ir (r31.1,(cm (sa.2.1+1)),r31.2.1,bK,sW.2.1,sW.2.2.1)
      else
       (am k t sa.2.1 aB az bK sW.2.1 sW.2.2.1 1).bind fun r32=>
       ir (r32.1,r32.2.1,r32.2.2.1,r32.2.2.2.1,r32.2.2.2.2.1,r32.2.2.2.2.2.1)) fun cq=>
    bif PH.1 then
     (uY t sa.2.1 ([40]:ak)).bind fun OQ=>
     cq OQ.1
    else
     cq false
def wD(k:Nat):lq:=⟨⟨139,[(114,7)],[lD 114 0 sT,lI 114 2,rP 0 114,rI 3,rD 4 .str],[lI 114 1,lF 114 3 tN,lI 114 4,lI 114 5,lI 114 6,(.r 10,.h .dB I)],[]⟩,[.ex (.exit 0) [lI 114 1,lF 114 3 tN,lI 114 4,lI 114 5,lI 114 6,(.r 10,.h .dB I)]],fun q c v=>bx k q c.1 c.2.1 v.1 v.2.1 v.2.2.1 v.2.2.2.1 v.2.2.2.2.1 v.2.2.2.2.2.1⟩
def AI(k:Nat):Ev aW:=⟨[jf,fA,je,jd,eJ,mj,nA,qB k,M4,LD],[lp 0 (wD k) k],[]⟩
def FD(k q:Nat):Cd aW:=nq (AI k) f157 0 (wD k) q []
def J0(k:Nat):Cl aW:=ml (AI k) 157 f157 func157 call157 [500000] ⟨⟨139,[(114,7)],[lD 114 0 sT,lI 114 2],[rP 0 114,lI 114 1,lF 114 3 tN,lI 114 4,lI 114 5,lI 114 6],[]⟩,[.ret [rI 500000,lI 114 1,lF 114 3 tN,lI 114 4,lI 114 5,lI 114 6] []],fun c v=>dU k c.1 v.2.1 c.2.1 v.2.2.1 v.2.2.2.1 v.2.2.2.2.1 v.2.2.2.2.2.1⟩ [FD k k]
def Ct(xg:ak):Option (Int×Unit):=
 bif xg==([61,61]:ak) then
  some (1,())
 else
  bif xg==([33,61]:ak) then
   some (2,())
  else
   bif xg==([60]:ak) then
    some (3,())
   else
    bif xg==([60,61]:ak) then
     some (4,())
    else
     bif xg==([62]:ak) then
      some (5,())
     else
      bif xg==([62,61]:ak) then
       some (6,())
      else
       some (0,())
def Rm:Cl aW:=om ⟨[],[],[]⟩ 195 f195 func195 call195 [.str] [I] (fun d=>Ct d.1) []
abbrev iZ:=XT→Int→Int→XN→Int→Int→Int→Option (Int×Int×XN×Int×Int×Int×Unit)
def rL(f:iZ):EU:=⟨⟨30,[(114,7)],[lD 114 0 sT,lI 114 2],[rP 0 114,lI 114 1,lF 114 3 tN,lI 114 4,lI 114 5,lI 114 6],[]⟩,[.ret [rI 500000,lI 114 1,lF 114 3 tN,lI 114 4,lI 114 5,lI 114 6] []],fun c v=>f c.1 v.2.1 c.2.1 v.2.2.1 v.2.2.2.1 v.2.2.2.2.1 v.2.2.2.2.2.1⟩
def CJ(f:iZ):iX:=mP (rL f).L (rL f).F (BH [500000] (rL f).V)
abbrev iY:=XT→Int→Int→XN→Int→Int→Int→Option (Int×Int×XN×Int×Int×Int×Unit)
def rK(f:iY):EU:=⟨⟨30,[(114,7)],[lD 114 0 sT,lI 114 2],[rP 0 114,lI 114 1,lF 114 3 tN,lI 114 4,lI 114 5,lI 114 6],[]⟩,[.ret [rI 500000,lI 114 1,lF 114 3 tN,lI 114 4,lI 114 5,lI 114 6] []],fun c v=>f c.1 v.2.1 c.2.1 v.2.2.1 v.2.2.2.1 v.2.2.2.2.1 v.2.2.2.2.2.1⟩
def CI(f:iY):iX:=mP (rK f).L (rK f).F (BH [500000] (rK f).V)
abbrev ja:=XT→Int→Int→XN→Int→Int→Int→Option (Int×Int×XN×Int×Int×Int×Unit)
def rM(f:ja):EU:=⟨⟨89,[(114,7)],[lD 114 0 sT,lI 114 2],[rP 0 114,lI 114 1,lF 114 3 tN,lI 114 4,lI 114 5,lI 114 6],[]⟩,[.ret [rI 500000,lI 114 1,lF 114 3 tN,lI 114 4,lI 114 5,lI 114 6] []],fun c v=>f c.1 v.2.1 c.2.1 v.2.2.1 v.2.2.2.1 v.2.2.2.2.1 v.2.2.2.2.2.1⟩
def CK(f:ja):iX:=mP (rM f).L (rM f).F (BH [500000] (rM f).V)
def fU(bF:iZ)(bB:iY)(bo:ja)(q:Nat):Nat→XT→Int→Int→XN→Int→Int→Int→Int→Option (Int×XN×Int×Int×Int×Int×Unit)
 |0,_,_,_,_,_,_,_,_=>none
 |k+1,t2,fG,p2,bX,mE,gU,HW,x1=>
  (fo t2 p2 gU ([111,114]:ak)).bind fun r2=>
  bif r2.1 then
   (da t2 p2 fG).bind fun r3=>
   (bB t2 (cm (p2+1)) fG bX mE gU HW).bind fun r4=>
   (aR r4.2.2.1 r4.2.2.2.2.1 (32,r3.1,0,([]:ak),[x1,r4.1])).bind fun r5=>
   fU bF bB bo q k t2 fG r4.2.1 r5.2.1 r4.2.2.2.1 r4.2.2.2.2.1 r4.2.2.2.2.2.1 r5.1
  else
   some (p2,bX,mE,gU,HW,x1,())
def lP(bF:iZ)(bB:iY)(bo:ja)(k:Nat)(t:XT)(p aB:Int)(az:XN)(bK Code At:Int):Option (Int×Int×XN×Int×Int×Int×Unit):=
 (bB t p aB az bK Code At).bind fun r1=>
 (fU bF bB bo k k t aB r1.2.1 r1.2.2.1 r1.2.2.2.1 r1.2.2.2.2.1 r1.2.2.2.2.2.1 r1.1).bind fun o=>
 some (o.2.2.2.2.2.1,o.1,o.2.1,o.2.2.1,o.2.2.2.1,o.2.2.2.2.1,())
def fT(bF:iZ)(bB:iY)(bo:ja)(q:Nat):Nat→XT→Int→Int→XN→Int→Int→Int→Int→Option (Int×XN×Int×Int×Int×Int×Unit)
 |0,_,_,_,_,_,_,_,_=>none
 |k+1,t2,fG,p2,bX,mE,gU,HW,x1=>
  (fo t2 p2 gU ([97,110,100]:ak)).bind fun r2=>
  bif r2.1 then
   (da t2 p2 fG).bind fun r3=>
   (bo t2 (cm (p2+1)) fG bX mE gU HW).bind fun r4=>
   (aR r4.2.2.1 r4.2.2.2.2.1 (31,r3.1,0,([]:ak),[x1,r4.1])).bind fun r5=>
   fT bF bB bo q k t2 fG r4.2.1 r5.2.1 r4.2.2.2.1 r4.2.2.2.2.1 r4.2.2.2.2.2.1 r5.1
  else
   some (p2,bX,mE,gU,HW,x1,())
def lM(bF:iZ)(bB:iY)(bo:ja)(k:Nat)(t:XT)(p aB:Int)(az:XN)(bK Code At:Int):Option (Int×Int×XN×Int×Int×Int×Unit):=
 (bo t p aB az bK Code At).bind fun r1=>
 (fT bF bB bo k k t aB r1.2.1 r1.2.2.1 r1.2.2.2.1 r1.2.2.2.2.1 r1.2.2.2.2.2.1 r1.1).bind fun o=>
 some (o.2.2.2.2.2.1,o.1,o.2.1,o.2.2.1,o.2.2.2.1,o.2.2.2.2.1,())
def dy(bF:iZ)(bB:iY)(bo:ja)(k:Nat)(t:XT)(p aB:Int)(az:XN)(bK Code At:Int):Option (Int×Int×XN×Int×Int×Int×Unit):=
 (da t p aB).bind fun r1=>
 (bW t p Code ([110,111,116]:ak)).bind fun r2=>
 bif r2.1 then
  (ip t r2.2.1 aB bK Code At).bind fun r3=>
  bif !r3.1 then
   some (0,r2.2.1,az,r3.2.1,r3.2.2.1,r3.2.2.2.1,())
  else
   (bo t r2.2.1 aB az r3.2.1 r3.2.2.1 r3.2.2.2.1).bind fun r4=>
   (aR r4.2.2.1 r4.2.2.2.2.1 (33,r1.1,0,([]:ak),[r4.1])).bind fun r5=>
   some (r5.1,r4.2.1,r5.2.1,(cm (r4.2.2.2.1 - 1)),r4.2.2.2.2.1,r4.2.2.2.2.2.1,())
 else
  (bW t r2.2.1 Code ([91]:ak)).bind fun r6=>
  bif r6.1 then
   (ip t r6.2.1 aB bK Code At).bind fun r7=>
   bif !r7.1 then
    some (0,r6.2.1,az,r7.2.1,r7.2.2.1,r7.2.2.2.1,())
   else
    (bF t r6.2.1 aB az r7.2.1 r7.2.2.1 r7.2.2.2.1).bind fun r8=>
    (aK t r8.2.1 aB r8.2.2.2.2.1 r8.2.2.2.2.2.1 ([93]:ak)).bind fun r9=>
    some (r8.1,r9.1,r8.2.2.1,(cm (r8.2.2.2.1 - 1)),r9.2.1,r9.2.2.1,())
  else
   (bW t r6.2.1 Code ([110,117,108,108]:ak)).bind fun mw=>
   bif mw.1 then
    (dC t mw.2.1 aB Code At).bind fun po=>
    (aR az po.2.2.1 (34,r1.1,0,po.1,[])).bind fun qY=>
    some (qY.1,po.2.1,qY.2.1,bK,po.2.2.1,po.2.2.2.1,())
   else
    (am k t mw.2.1 aB az bK Code At 1).bind fun sM=>
    (da t sM.2.1 aB).bind fun sW=>
    (mq t sM.2.1 sM.2.2.2.2.1).bind fun sa=>
    (Ct sa.1).bind fun t7=>
    bif t7.1==0 then
     (iT t sM.2.1 aB sM.2.2.2.2.1 sM.2.2.2.2.2.1 6).bind fun xe=>
     some (0,sM.2.1,sM.2.2.1,sM.2.2.2.1,xe.1,xe.2.1,())
    else
     (am k t (cm (sM.2.1+1)) aB sM.2.2.1 sM.2.2.2.1 sM.2.2.2.2.1 sM.2.2.2.2.2.1 1).bind fun sO=>
     (aR sO.2.2.1 sO.2.2.2.2.1 (30,sW.1,t7.1,([]:ak),[sM.1,sO.1])).bind fun sX=>
     some (sX.1,sO.2.1,sX.2.1,sO.2.2.2.1,sO.2.2.2.2.1,sO.2.2.2.2.2.1,())
def eK:Nat→iZ×iY×ja
 |0=>(fun _ _ _ _ _ _ _=>none,fun _ _ _ _ _ _ _=>none,fun _ _ _ _ _ _ _=>none)
 |k+1=>(lP (eK k).1 (eK k).2.1 (eK k).2.2 k,lM (eK k).1 (eK k).2.1 (eK k).2.2 k,dy (eK k).1 (eK k).2.1 (eK k).2.2 k)
def dQ(k:Nat):iZ:=(eK k).1
def gc(k:Nat):iY:=(eK k).2.1
def eY(k:Nat):ja:=(eK k).2.2
section
variable (bF:Gd aW 160 CJ) (bB:Gd aW 174 CI) (bo:Gd aW 184 CK)
def yD(k:Nat):lq:=⟨⟨30,[(114,7)],[lD 114 0 sT,lI 114 2,rP 0 114],[lI 114 1,lF 114 3 tN,lI 114 4,lI 114 5,lI 114 6,rI 3],[]⟩,[.ex (.exit 0) [lI 114 1,lF 114 3 tN,lI 114 4,lI 114 5,lI 114 6,rI 3]],fun q c v=>fU bF.1 bB.1 bo.1 k q c.1 c.2.1 v.1 v.2.1 v.2.2.1 v.2.2.2.1 v.2.2.2.2.1 v.2.2.2.2.2.1⟩
def CE(k:Nat):Ev aW:=⟨[fA,eJ,mj,bB.cl],[lp 0 (yD bF bB bo k) k],[]⟩
def GP(k q:Nat):Cd aW:=nq (CE bF bB bo k) f160 0 (yD bF bB bo k) q []
def LJ(k:Nat):Cl aW:=ml (CE bF bB bo k) 160 f160 func160 call160 [500000] (rL (lP bF.1 bB.1 bo.1 k)) [GP bF bB bo k k]
def yC(k:Nat):lq:=⟨⟨30,[(114,7)],[lD 114 0 sT,lI 114 2,rP 0 114],[lI 114 1,lF 114 3 tN,lI 114 4,lI 114 5,lI 114 6,rI 3],[]⟩,[.ex (.exit 0) [lI 114 1,lF 114 3 tN,lI 114 4,lI 114 5,lI 114 6,rI 3]],fun q c v=>fT bF.1 bB.1 bo.1 k q c.1 c.2.1 v.1 v.2.1 v.2.2.1 v.2.2.2.1 v.2.2.2.2.1 v.2.2.2.2.2.1⟩
def CD(k:Nat):Ev aW:=⟨[fA,eJ,mj,bo.cl],[lp 0 (yC bF bB bo k) k],[]⟩
def GO(k q:Nat):Cd aW:=nq (CD bF bB bo k) f174 0 (yC bF bB bo k) q []
def LI(k:Nat):Cl aW:=ml (CD bF bB bo k) 174 f174 func174 call174 [500000] (rK (lM bF.1 bB.1 bo.1 k)) [GO bF bB bo k k]
def LK(k:Nat):Cl aW:=ml ⟨[jf,fA,je,jd,eJ,nz,pr,qB k,bF.cl,CW,bo.cl,Rm],[],[]⟩ 184 f184 func184 call184 [500000] (rM (dy bF.1 bB.1 bo.1 k)) []
end
theorem nF:∀ k,mb prog gt 160 (CJ (dQ k))∧mb prog gt 174 (CI (gc k))∧mb prog gt 184 (CK (eY k))
 |0=>⟨dj (fun _ _=>rfl),dj (fun _ _=>rfl),dj (fun _ _=>rfl)⟩
 |k+1=>have ih:=nF k;⟨(LJ ⟨_,ih.1⟩ ⟨_,ih.2.1⟩ ⟨_,ih.2.2⟩ k).ok,(LI ⟨_,ih.1⟩ ⟨_,ih.2.1⟩ ⟨_,ih.2.2⟩ k).ok,(LK ⟨_,ih.1⟩ ⟨_,ih.2.1⟩ ⟨_,ih.2.2⟩ k).ok⟩
def CV(k:Nat):Cl aW:=⟨_,_,(nF k).1⟩
def Yo(k:Nat):Cl aW:=⟨_,_,(nF k).2.1⟩
def Yp(k:Nat):Cl aW:=⟨_,_,(nF k).2.2⟩
end
end Go.Fx.R5
namespace Go.Fx.R5
open Go Go.Fx Go.Proofs Go.Proofs.Tryz
noncomputable section
abbrev gg:=XT→Int→Int→XN→Int→Int→Int→Option (Int×Int×XN×Int×Int×Int×Unit)
def nE(f:gg):EU:=⟨⟨77,[(114,7)],[lD 114 0 sT,lI 114 2],[rP 0 114,lI 114 1,lF 114 3 tN,lI 114 4,lI 114 5,lI 114 6],[]⟩,[.ret [rI 500000,lI 114 1,lF 114 3 tN,lI 114 4,lI 114 5,lI 114 6] []],fun c v=>f c.1 v.2.1 c.2.1 v.2.2.1 v.2.2.2.1 v.2.2.2.2.1 v.2.2.2.2.2.1⟩
def va(f:gg):iX:=mP (nE f).L (nE f).F (BH [500000] (nE f).V)
abbrev iF:=XT→Int→Int→XN→Int→Int→Int→Option (Int×Int×XN×Int×Int×Int×Unit)
def pL(f:iF):EU:=⟨⟨73,[(114,7)],[lD 114 0 sT,lI 114 2],[rP 0 114,lI 114 1,lF 114 3 tN,lI 114 4,lI 114 5,lI 114 6],[]⟩,[.ret [rI 500000,lI 114 1,lF 114 3 tN,lI 114 4,lI 114 5,lI 114 6] []],fun c v=>f c.1 v.2.1 c.2.1 v.2.2.1 v.2.2.2.1 v.2.2.2.2.1 v.2.2.2.2.2.1⟩
def zk(f:iF):iX:=mP (pL f).L (pL f).F (BH [500000] (pL f).V)
abbrev jm:=XT→Int→Int→XN→Int→Int→Int→Option (Int×Int×XN×Int×Int×Int×Unit)
def qu(f:jm):EU:=⟨⟨44,[(114,7)],[lD 114 0 sT,lI 114 2],[rP 0 114,lI 114 1,lF 114 3 tN,lI 114 4,lI 114 5,lI 114 6],[]⟩,[.ret [rI 500000,lI 114 1,lF 114 3 tN,lI 114 4,lI 114 5,lI 114 6] []],fun c v=>f c.1 v.2.1 c.2.1 v.2.2.1 v.2.2.2.1 v.2.2.2.2.1 v.2.2.2.2.2.1⟩
def AN(f:jm):iX:=mP (qu f).L (qu f).F (BH [500000] (qu f).V)
def bP(bO:gg)(cL:iF)(cz:jm)(k:Nat)(t:XT)(p aB:Int)(az:XN)(bK Code At:Int):Option (Int×Int×XN×Int×Int×Int×Unit):=
 (da t p aB).bind fun r1=>
 (iU t p Code 1).bind fun r2=>
 bif r2.1 then
  (dU k t p aB az bK Code At).bind fun r3=>
  some (r3.1,r3.2.1,r3.2.2.1,r3.2.2.2.1,r3.2.2.2.2.1,r3.2.2.2.2.2.1,())
 else
  (fo t p Code ([105,102]:ak)).bind fun r4=>
  aa (fun(v:Bool)=>
   aa (fun(v2:Bool)=>
    bif v2 then
     (cL t p aB az bK Code At).bind fun r7=>
     some (r7.1,r7.2.1,r7.2.2.1,r7.2.2.2.1,r7.2.2.2.2.1,r7.2.2.2.2.2.1,())
    else
     aa (fun(jv:Int×XN×Int×Int×Int×Int×Int×ak×XI)=>
      (aK t (jv.1) aB (jv.2.2.2.1) (jv.2.2.2.2.1) ([59]:ak)).bind fun OQ=>
      (aR (jv.2.1) OQ.2.1 ((jv.2.2.2.2.2.1),(jv.2.2.2.2.2.2.1),0,(jv.2.2.2.2.2.2.2.1),(jv.2.2.2.2.2.2.2.2))).bind fun JD=>
      some (JD.1,OQ.1,JD.2.1,(jv.2.2.1),OQ.2.1,OQ.2.2.1,())) fun uf=>
     (bW t p Code ([42]:ak)).bind fun r8=>
     bif r8.1 then
      (dC t r8.2.1 aB Code At).bind fun r9=>
      (aK t r9.2.1 aB r9.2.2.1 r9.2.2.2.1 ([61]:ak)).bind fun mw=>
      (am k t mw.1 aB az bK mw.2.1 mw.2.2.1 1).bind fun po=>
      uf (po.2.1,po.2.2.1,po.2.2.2.1,po.2.2.2.2.1,po.2.2.2.2.2.1,11,r1.1,r9.1,[po.1])
     else
      (bW t r8.2.1 Code ([114,101,97,100]:ak)).bind fun qY=>
      bif qY.1 then
       (da t qY.2.1 aB).bind fun sM=>
       (dC t qY.2.1 aB Code At).bind fun sW=>
       uf (sW.2.1,az,bK,sW.2.2.1,sW.2.2.2.1,17,sM.1,sW.1,[])
      else
       (bW t qY.2.1 Code ([112,114,105,110,116]:ak)).bind fun sa=>
       bif sa.1 then
        (am k t sa.2.1 aB az bK Code At 1).bind fun t7=>
        uf (t7.2.1,t7.2.2.1,t7.2.2.2.1,t7.2.2.2.2.1,t7.2.2.2.2.2.1,18,r1.1,([]:ak),[t7.1])
       else
        (bW t sa.2.1 Code ([97,115,115,101,114,116]:ak)).bind fun xe=>
        bif xe.1 then
         (dQ k t xe.2.1 aB az bK Code At).bind fun sO=>
         uf (sO.2.1,sO.2.2.1,sO.2.2.2.1,sO.2.2.2.2.1,sO.2.2.2.2.2.1,19,r1.1,([]:ak),[sO.1])
        else
         (bW t xe.2.1 Code ([115,116,111,112]:ak)).bind fun sX=>
         bif sX.1 then
          uf (sX.2.1,az,bK,Code,At,20,r1.1,([]:ak),[])
         else
          (bW t sX.2.1 Code ([114,101,116,117,114,110]:ak)).bind fun yP=>
          bif yP.1 then
           (am k t yP.2.1 aB az bK Code At 1).bind fun BJ=>
           uf (BJ.2.1,BJ.2.2.1,BJ.2.2.2.1,BJ.2.2.2.2.1,BJ.2.2.2.2.2.1,21,r1.1,([]:ak),[BJ.1])
          else
           (iT t yP.2.1 aB Code At 6).bind fun PH=>
           uf (yP.2.1,az,bK,PH.1,PH.2.1,0,r1.1,([]:ak),[])) fun ir=>
   bif v then
    ir true
   else
    (fo t p Code ([102,111,114]:ak)).bind fun r6=>
    ir r6.1) fun cq=>
  bif r4.1 then
   cq true
  else
   (fo t p Code ([119,104,105,108,101]:ak)).bind fun r5=>
   cq r5.1
def j0(bO:gg)(cL:iF)(cz:jm)(k:Nat)(t:XT)(p aB:Int)(az:XN)(bK Code At:Int):Option (Int×Int×XN×Int×Int×Int×Unit):=
 (da t p aB).bind fun r1=>
 (bW t p Code ([105,102]:ak)).bind fun r2=>
 bif r2.1 then
  (dQ k t r2.2.1 aB az bK Code At).bind fun r3=>
  (cz t r3.2.1 aB r3.2.2.1 r3.2.2.2.1 r3.2.2.2.2.1 r3.2.2.2.2.2.1).bind fun r4=>
  (lA ([r3.1]) ([r4.1])).bind fun l=>
  aa (fun(jv:XI×Int×XN×Int×Int×Int)=>
   (aR (jv.2.2.1) (jv.2.2.2.2.1) (14,r1.1,0,([]:ak),(jv.1))).bind fun r7=>
   some (r7.1,(jv.2.1),r7.2.1,(jv.2.2.2.1),(jv.2.2.2.2.1),(jv.2.2.2.2.2),())) fun cq=>
  (bW t r4.2.1 r4.2.2.2.2.1 ([101,108,115,101]:ak)).bind fun r5=>
  bif r5.1 then
   (cz t r5.2.1 aB r4.2.2.1 r4.2.2.2.1 r4.2.2.2.2.1 r4.2.2.2.2.2.1).bind fun r6=>
   (lA l ([r6.1])).bind fun l2=>
   cq (l2,r6.2.1,r6.2.2.1,r6.2.2.2.1,r6.2.2.2.2.1,r6.2.2.2.2.2.1)
  else
   cq (l,r5.2.1,r4.2.2.1,r4.2.2.2.1,r4.2.2.2.2.1,r4.2.2.2.2.2.1)
 else
  (bW t r2.2.1 Code ([119,104,105,108,101]:ak)).bind fun r8=>
  bif r8.1 then
   (dQ k t r8.2.1 aB az bK Code At).bind fun r9=>
   (cz t r9.2.1 aB r9.2.2.1 r9.2.2.2.1 r9.2.2.2.2.1 r9.2.2.2.2.2.1).bind fun mw=>
   (aR mw.2.2.1 mw.2.2.2.2.1 (15,r1.1,0,([]:ak),[r9.1,mw.1])).bind fun po=>
   some (po.1,mw.2.1,po.2.1,mw.2.2.2.1,mw.2.2.2.2.1,mw.2.2.2.2.2.1,())
  else
   (aK t r8.2.1 aB Code At ([102,111,114]:ak)).bind fun qY=>
   (da t qY.1 aB).bind fun sM=>
   (dC t qY.1 aB qY.2.1 qY.2.2.1).bind fun sW=>
   (aK t sW.2.1 aB sW.2.2.1 sW.2.2.2.1 ([61]:ak)).bind fun sa=>
   (am k t sa.1 aB az bK sa.2.1 sa.2.2.1 1).bind fun t7=>
   (aK t t7.2.1 aB t7.2.2.2.2.1 t7.2.2.2.2.2.1 ([46,46]:ak)).bind fun xe=>
   (am k t xe.1 aB t7.2.2.1 t7.2.2.2.1 xe.2.1 xe.2.2.1 1).bind fun sO=>
   (cz t sO.2.1 aB sO.2.2.1 sO.2.2.2.1 sO.2.2.2.2.1 sO.2.2.2.2.2.1).bind fun sX=>
   (aR sX.2.2.1 sX.2.2.2.2.1 (16,sM.1,0,sW.1,[t7.1,sO.1,sX.1])).bind fun yP=>
   some (yP.1,sX.2.1,yP.2.1,sX.2.2.2.1,sX.2.2.2.2.1,sX.2.2.2.2.2.1,())
def dZ(bO:gg)(cL:iF)(cz:jm)(q:Nat):Nat→XT→Int→Int→XN→Int→Int→Int→XI→Option (Int×XN×Int×Int×Int×XI×Unit)
 |0,_,_,_,_,_,_,_,_=>none
 |k+1,t2,fG,p2,bX,mE,gU,HW,cE=>
  aa (fun(v:Bool)=>
   bif v then
    (bO t2 p2 fG bX mE gU HW).bind fun r5=>
    (lA cE ([r5.1])).bind fun l=>
    dZ bO cL cz q k t2 fG r5.2.1 r5.2.2.1 r5.2.2.2.1 r5.2.2.2.2.1 r5.2.2.2.2.2.1 l
   else
    some (p2,bX,mE,gU,HW,cE,())) fun cq=>
  bif gU==0 then
   (fo t2 p2 gU ([125]:ak)).bind fun r4=>
   cq (!r4.1)
  else
   cq false
def jC(bO:gg)(cL:iF)(cz:jm)(k:Nat)(t:XT)(p aB:Int)(az:XN)(bK Code At:Int):Option (Int×Int×XN×Int×Int×Int×Unit):=
 (da t p aB).bind fun r1=>
 (aK t p aB Code At ([123]:ak)).bind fun r2=>
 (ip t r2.1 aB bK r2.2.1 r2.2.2.1).bind fun r3=>
 bif !r3.1 then
  some (0,r2.1,az,r3.2.1,r3.2.2.1,r3.2.2.2.1,())
 else
  (dZ bO cL cz k k t aB r2.1 az r3.2.1 r3.2.2.1 r3.2.2.2.1 []).bind fun o=>
  (aK t o.1 aB o.2.2.2.1 o.2.2.2.2.1 ([125]:ak)).bind fun r4=>
  (aR o.2.1 r4.2.1 (8,r1.1,0,([]:ak),o.2.2.2.2.2.1)).bind fun r5=>
  some (r5.1,r4.1,r5.2.1,(cm (o.2.2.1 - 1)),r4.2.1,r4.2.2.1,())
def cP:Nat→gg×iF×jm
 |0=>(fun _ _ _ _ _ _ _=>none,fun _ _ _ _ _ _ _=>none,fun _ _ _ _ _ _ _=>none)
 |k+1=>(bP (cP k).1 (cP k).2.1 (cP k).2.2 k,j0 (cP k).1 (cP k).2.1 (cP k).2.2 k,jC (cP k).1 (cP k).2.1 (cP k).2.2 k)
def eu(k:Nat):gg:=(cP k).1
def lO(k:Nat):iF:=(cP k).2.1
def iS(k:Nat):jm:=(cP k).2.2
section
variable (bO:Gd aW 134 va) (cL:Gd aW 158 zk) (cz:Gd aW 170 AN)
def DY(k:Nat):Cl aW:=ml ⟨[jf,fA,je,jd,eJ,mj,nA,nz,J0 k,cL.cl,qB k,CV k],[],[(4,101)]⟩ 134 f134 func134 call134 [500000] (nE (bP bO.1 cL.1 cz.1 k)) []
def IM(k:Nat):Cl aW:=ml ⟨[jf,fA,je,jd,eJ,qB k,CV k,cz.cl],[],[]⟩ 158 f158 func158 call158 [500000] (pL (j0 bO.1 cL.1 cz.1 k)) []
def wB(k:Nat):lq:=⟨⟨44,[(114,7)],[lD 114 0 sT,lI 114 2,rP 0 114,rI 3],[lI 114 1,lF 114 3 tN,lI 114 4,lI 114 5,lI 114 6,(.r 4,.h .dB I)],[]⟩,[.ex (.exit 0) [lI 114 1,lF 114 3 tN,lI 114 4,lI 114 5,lI 114 6,(.r 4,.h .dB I)]],fun q c v=>dZ bO.1 cL.1 cz.1 k q c.1 c.2.1 v.1 v.2.1 v.2.2.1 v.2.2.2.1 v.2.2.2.2.1 v.2.2.2.2.2.1⟩
def AG(k:Nat):Ev aW:=⟨[fA,jd,eJ,mj,pr,bO.cl],[lp 0 (wB bO cL cz k) k],[]⟩
def FB(k q:Nat):Cd aW:=nq (AG bO cL cz k) f170 0 (wB bO cL cz k) q []
def Kb(k:Nat):Cl aW:=ml (AG bO cL cz k) 170 f170 func170 call170 [500000] (qu (jC bO.1 cL.1 cz.1 k)) [FB bO cL cz k k]
end
theorem kg:∀ k,mb prog gt 134 (va (eu k))∧mb prog gt 158 (zk (lO k))∧mb prog gt 170 (AN (iS k))
 |0=>⟨dj (fun _ _=>rfl),dj (fun _ _=>rfl),dj (fun _ _=>rfl)⟩
 |k+1=>have ih:=kg k;⟨(DY ⟨_,ih.1⟩ ⟨_,ih.2.1⟩ ⟨_,ih.2.2⟩ k).ok,(IM ⟨_,ih.1⟩ ⟨_,ih.2.1⟩ ⟨_,ih.2.2⟩ k).ok,(Kb ⟨_,ih.1⟩ ⟨_,ih.2.1⟩ ⟨_,ih.2.2⟩ k).ok⟩
def DO(k:Nat):Cl aW:=⟨_,_,(kg k).1⟩
def Wa(k:Nat):Cl aW:=⟨_,_,(kg k).2.1⟩
def Xs(k:Nat):Cl aW:=⟨_,_,(kg k).2.2⟩
def aq(q:Nat):Nat→XT→Int→Int→XN→Int→Int→XI→Option (Int×XN×Int×Int×XI×Unit)
 |0,_,_,_,_,_,_,_=>none
 |k+1,t2,fG,p2,bX,gU,HW,cE=>
  aa (fun(v:Bool)=>
   bif v then
    aa (fun(jv:Int×Int×Int)=>
     (da t2 (jv.1) fG).bind fun r6=>
     (dC t2 (jv.1) fG (jv.2.1) (jv.2.2)).bind fun r7=>
     (aR bX r7.2.2.1 (5,r6.1,0,r7.1,[])).bind fun r8=>
     (lA cE ([r8.1])).bind fun l=>
     aq q k t2 fG r7.2.1 r8.2.1 r7.2.2.1 r7.2.2.2.1 l) fun ir=>
    bif decide ((cE.length:Int) > 0) then
     (aK t2 p2 fG gU HW ([44]:ak)).bind fun r5=>
     ir (r5.1,r5.2.1,r5.2.2.1)
    else
     ir (p2,gU,HW)
   else
    some (p2,bX,gU,HW,cE,())) fun cq=>
  bif gU==0 then
   (fo t2 p2 gU ([41]:ak)).bind fun r4=>
   cq (!r4.1)
  else
   cq false
def eC(q:Nat):Nat→XI→XI→Int→Option (XI×Unit)
 |0,_,_,_=>none
 |k+1,l,cE,i1=>
  bif decide (i1<(l.length:Int)) then
   (bA l i1).bind fun x1=>
   (bA l (i1.toNat:Int)).bind fun x2=>
   (lA cE ([x2])).bind fun l2=>
   eC q k l l2 (cm (i1+1))
  else
   some (cE,())
def eD(q:Nat):Nat→XT→Int→Int→XN→Int→Int→Int→XI→Option (Int×XN×Int×Int×Int×XI×Unit)
 |0,_,_,_,_,_,_,_,_=>none
 |k+1,t2,fG,p2,bX,mE,gU,HW,body=>
  aa (fun(v:Bool)=>
   bif v then
    (eu q t2 p2 fG bX mE gU HW).bind fun mw=>
    (lA body ([mw.1])).bind fun l=>
    eD q k t2 fG mw.2.1 mw.2.2.1 mw.2.2.2.1 mw.2.2.2.2.1 mw.2.2.2.2.2.1 l
   else
    some (p2,bX,mE,gU,HW,body,())) fun cq=>
  bif gU==0 then
   (fo t2 p2 gU ([125]:ak)).bind fun r9=>
   cq (!r9.1)
  else
   cq false
def dh(k:Nat)(t:XT)(p aB:Int)(az:XN)(bK Code At:Int):Option (Int×Int×XN×Int×Int×Int×Unit):=
 (da t p aB).bind fun r1=>
 (dC t p aB Code At).bind fun r2=>
 (aK t r2.2.1 aB r2.2.2.1 r2.2.2.2.1 ([40]:ak)).bind fun r3=>
 (aq k k t aB r3.1 az r3.2.1 r3.2.2.1 []).bind fun o=>
 (aK t o.1 aB o.2.2.1 o.2.2.2.1 ([41]:ak)).bind fun r4=>
 (da t r4.1 aB).bind fun r5=>
 (aK t r4.1 aB r4.2.1 r4.2.2.1 ([123]:ak)).bind fun r6=>
 (ip t r6.1 aB bK r6.2.1 r6.2.2.1).bind fun r7=>
 bif !r7.1 then
  some (0,r6.1,o.2.1,r7.2.1,r7.2.2.1,r7.2.2.2.1,())
 else
  (pA k t r6.1 aB o.2.1 r7.2.2.1 r7.2.2.2.1).bind fun r8=>
  (eC k k r8.1 o.2.2.2.2.1 0).bind fun o2=>
  (eD k k t aB r8.2.1 r8.2.2.1 r7.2.1 r8.2.2.2.1 r8.2.2.2.2.1 []).bind fun o3=>
  (aK t o3.1 aB o3.2.2.2.1 o3.2.2.2.2.1 ([125]:ak)).bind fun r9=>
  (aR o3.2.1 r9.2.1 (8,r5.1,0,([]:ak),o3.2.2.2.2.2.1)).bind fun mw=>
  (lA o2.1 ([mw.1])).bind fun l=>
  (aR mw.2.1 r9.2.1 (4,r1.1,0,r2.1,l)).bind fun po=>
  some (po.1,r9.1,po.2.1,(cm (o3.2.2.1 - 1)),r9.2.1,r9.2.2.1,())
def tw(k:Nat):lq:=⟨⟨112,[(114,7)],[lD 114 0 sT,lI 114 2,lI 114 4,rP 0 114,rI 3,rD 4 .str],[lI 114 1,lF 114 3 tN,lI 114 5,lI 114 6,(.r 5,.h .dB I)],[]⟩,[.ex (.exit 0) [lI 114 1,lF 114 3 tN,lI 114 5,lI 114 6,(.r 5,.h .dB I)]],fun q c v=>aq k q c.1 c.2.1 v.1 v.2.1 v.2.2.1 v.2.2.2.1 v.2.2.2.2.1⟩
def tx(k:Nat):lq:=⟨⟨112,[(114,7)],[lD 114 0 sT,lI 114 1,lI 114 2,lF 114 3 tN,lI 114 4,lI 114 5,lI 114 6,rP 0 114,rI 3,rD 4 .str,rI 8,(.r 9,.h .dB I)],[(.r 5,.h .dB I),rI 10],[]⟩,[.ex (.exit 2) [(.r 5,.h .dB I)]],fun q c v=>eC k q c.2.2.2.2.2.2.2.2.2.2.2.1 v.1 v.2.1⟩
def tz(k:Nat):lq:=⟨⟨112,[(114,7)],[lD 114 0 sT,lI 114 2,rP 0 114,rI 3,rD 4 .str,(.r 5,.h .dB I),rI 8],[lI 114 1,lF 114 3 tN,lI 114 4,lI 114 5,lI 114 6,(.r 11,.h .dB I)],[]⟩,[.ex (.exit 4) [lI 114 1,lF 114 3 tN,lI 114 4,lI 114 5,lI 114 6,(.r 11,.h .dB I)]],fun q c v=>eD k q c.1 c.2.1 v.1 v.2.1 v.2.2.1 v.2.2.2.1 v.2.2.2.2.1 v.2.2.2.2.2.1⟩
def ol(k:Nat):Ev aW:=⟨[fA,je,jd,eJ,mj,pr,IA k,DO k],[lp 0 (tw k) k,lp 2 (tx k) k,lp 4 (tz k) k],[]⟩
def BN(k q:Nat):Cd aW:=nq (ol k) f88 0 (tw k) q []
def BO(k q:Nat):Cd aW:=nq (ol k) f88 2 (tx k) q []
def BP(k q:Nat):Cd aW:=nq (ol k) f88 4 (tz k) q []
def FI(k:Nat):Cl aW:=ml (ol k) 88 f88 func88 call88 [500000] ⟨⟨112,[(114,7)],[lD 114 0 sT,lI 114 2],[rP 0 114,lI 114 1,lF 114 3 tN,lI 114 4,lI 114 5,lI 114 6],[]⟩,[.ret [rI 500000,lI 114 1,lF 114 3 tN,lI 114 4,lI 114 5,lI 114 6] []],fun c v=>dh k c.1 v.2.1 c.2.1 v.2.2.1 v.2.2.2.1 v.2.2.2.2.1 v.2.2.2.2.2.1⟩ [BN k k,BO k k,BP k k]
def ax(q:Nat):Nat→XT→Int→Int→XN→Int→Int→Int→XI→Option (Int×XN×Int×Int×Int×XI×Unit)
 |0,_,_,_,_,_,_,_,_=>none
 |k+1,t2,fG,p2,bX,mE,gU,HW,cE=>
  aa (fun(v:Bool)=>
   bif v then
    (bW t2 p2 gU ([97,114,114,97,121]:ak)).bind fun r1=>
    bif r1.1 then
     (da t2 r1.2.1 fG).bind fun r2=>
     (dC t2 r1.2.1 fG gU HW).bind fun r3=>
     (aK t2 r3.2.1 fG r3.2.2.1 r3.2.2.2.1 ([91]:ak)).bind fun r4=>
     (lQ t2 r4.1 fG r4.2.1 r4.2.2.1).bind fun r5=>
     (aK t2 r5.2.1 fG r5.2.2.1 r5.2.2.2.1 ([93]:ak)).bind fun r6=>
     (aK t2 r6.1 fG r6.2.1 r6.2.2.1 ([59]:ak)).bind fun r7=>
     (aR bX r7.2.1 (2,r2.1,r5.1,r3.1,[])).bind fun r8=>
     (lA cE ([r8.1])).bind fun l=>
     ax q k t2 fG r7.1 r8.2.1 mE r7.2.1 r7.2.2.1 l
    else
     (bW t2 r1.2.1 gU ([118,97,114]:ak)).bind fun r9=>
     bif r9.1 then
      (da t2 r9.2.1 fG).bind fun mw=>
      (dC t2 r9.2.1 fG gU HW).bind fun po=>
      (aK t2 po.2.1 fG po.2.2.1 po.2.2.2.1 ([59]:ak)).bind fun qY=>
      (aR bX qY.2.1 (3,mw.1,0,po.1,[])).bind fun sM=>
      (lA cE ([sM.1])).bind fun l2=>
      ax q k t2 fG qY.1 sM.2.1 mE qY.2.1 qY.2.2.1 l2
     else
      (aK t2 r9.2.1 fG gU HW ([102,117,110,99]:ak)).bind fun sW=>
      (dh q t2 sW.1 fG bX mE sW.2.1 sW.2.2.1).bind fun sa=>
      (lA cE ([sa.1])).bind fun l3=>
      ax q k t2 fG sa.2.1 sa.2.2.1 sa.2.2.2.1 sa.2.2.2.2.1 sa.2.2.2.2.2.1 l3
   else
    some (p2,bX,mE,gU,HW,cE,())) fun cq=>
  bif gU==0 then
   cq (decide (p2<(t2.length:Int)))
  else
   cq false
def qN(k:Nat)(t:XT)(p aB:Int)(az:XN)(bK Code At:Int):Option (Int×XN×Int×Int×Int×Unit):=
 (ax k k t aB p az bK Code At []).bind fun o=>
 (aR o.2.1 o.2.2.2.1 (1,0,0,([]:ak),o.2.2.2.2.2.1)).bind fun r1=>
 some (o.1,r1.2.1,o.2.2.1,o.2.2.2.1,o.2.2.2.2.1,())
def um(k:Nat):lq:=⟨⟨77,[(114,7)],[lD 114 0 sT,lI 114 2,rP 0 114],[lI 114 1,lF 114 3 tN,lI 114 4,lI 114 5,lI 114 6,(.r 2,.h .dB I)],[]⟩,[.ex (.exit 0) [lI 114 1,lF 114 3 tN,lI 114 4,lI 114 5,lI 114 6,(.r 2,.h .dB I)]],fun q c v=>ax k q c.1 c.2.1 v.1 v.2.1 v.2.2.1 v.2.2.2.1 v.2.2.2.2.1 v.2.2.2.2.2.1⟩
def xF(k:Nat):Ev aW:=⟨[jf,fA,je,jd,zq,eJ,FI k],[lp 0 (um k) k],[]⟩
def Dg(k q:Nat):Cd aW:=nq (xF k) f51 0 (um k) q []
def G0(k:Nat):Cl aW:=ml (xF k) 51 f51 func51 call51 [] ⟨⟨77,[(114,7)],[lD 114 0 sT,lI 114 2],[rP 0 114,lI 114 1,lF 114 3 tN,lI 114 4,lI 114 5,lI 114 6],[]⟩,[.ret [lI 114 1,lF 114 3 tN,lI 114 4,lI 114 5,lI 114 6] []],fun c v=>qN k c.1 v.2.1 c.2.1 v.2.2.1 v.2.2.2.1 v.2.2.2.2.1 v.2.2.2.2.2.1⟩ [Dg k k]
def gF(k:Nat)(bV:ak):Option (XN×(Int×Int)×Unit):=
 (mS k bV).bind fun r1=>
 bif r1.2.1.1 != 0 then
  some ([],r1.2.1,())
 else
  (qN k r1.1 0 (bV.length:Int) [] 0 0 0).bind fun r2=>
  bif r2.2.2.2.1 != 0 then
   some ([],(r2.2.2.2.1,r2.2.2.2.2.1),())
  else
   some (r2.2.1,(0,0),())
def AY(k:Nat):Cl aW:=om ⟨[JY k,G0 k],[],[(3,52),(21,114)]⟩ 24 f24 func24 call24 [.str] [sN,tP] (fun d=>gF k d.1) []
def my(n low high:Int):Option (Bool×Unit):=
 aa (fun(v:Bool)=>
  some (v,())) fun cq=>
 bif decide (n≥low) then
  cq (decide (n≤high))
 else
  cq false
def su:Cl aW:=om ⟨[],[],[]⟩ 10 f10 func10 call10 [I,I,I] [.bool] (fun d=>my d.1 d.2.1 d.2.2.1) []
def mU(q:Nat):Nat→XF→ak→Int→Option (((Unit)⊕(Int×Unit)))
 |0,_,_,_=>none
 |k+1,w3,un,i1=>
  bif decide (i1<(w3.length:Int)) then
   (bA w3 i1).bind fun x1=>
   bif x1.1==un then
    some (.inr (i1,()))
   else
    mU q k w3 un (cm (i1+1))
  else
   some (.inl ())
def kc(k:Nat)(t:XA×XS×XF)(name:ak):Option (Int×Unit):=
 (mU k k t.2.2 name 0).bind fun r=>match r with
 |.inl o=>
  some ((-1),())
 |.inr o2=>
  some (o2.1,())
def Bp(k:Nat):lq:=⟨⟨22,[(41,3)],[lD 41 0 sA,lD 41 1 sS,lD 41 2 sF,rD 1 .str,rP 2 41],[rI 5],[]⟩,[.ex (.exit 0) [],.ex .ret [rI 4]],fun q c v=>mU k q c.2.2.1 c.2.2.2.1 v.1⟩
def F0(k:Nat):Ev aW:=⟨[],[lp 0 (Bp k) k],[(2,41)]⟩
def JK(k q:Nat):Cd aW:=nq (F0 k) f48 0 (Bp k) q []
def z8(k:Nat):Cl aW:=om (F0 k) 48 f48 func48 call48 [tM,.str] [I] (fun d=>kc k d.1 d.2.1) [JK k k]
def lS(q:Nat):Nat→XS→ak→Int→Option (((Unit)⊕(Int×Unit)))
 |0,_,_,_=>none
 |k+1,l2,s2,i1=>
  bif decide (i1<(l2.length:Int)) then
   (bA l2 i1).bind fun x1=>
   bif x1==s2 then
    some (.inr (i1,()))
   else
    lS q k l2 s2 (cm (i1+1))
  else
   some (.inl ())
def gZ(k:Nat)(l:XS)(s:ak):Option (Int×Unit):=
 (lS k k l s 0).bind fun r=>match r with
 |.inl o=>
  some ((-1),())
 |.inr o2=>
  some (o2.1,())
def zJ(k:Nat):lq:=⟨⟨19,[],[rD 0 sS,rD 1 .str],[rI 5],[]⟩,[.ex (.exit 0) [],.ex .ret [rI 4]],fun q c v=>lS k q c.1 c.2.1 v.1⟩
def DA(k:Nat):Ev aW:=⟨[],[lp 0 (zJ k) k],[]⟩
def Ib(k q:Nat):Cd aW:=nq (DA k) f118 0 (zJ k) q []
def xT(k:Nat):Cl aW:=om (DA k) 118 f118 func118 call118 [sS,.str] [I] (fun d=>gZ k d.1 d.2.1) [Ib k k]
def lR(q:Nat):Nat→XA→ak→Int→Option (((Unit)⊕(Int×Unit)))
 |0,_,_,_=>none
 |k+1,w,un,i1=>
  bif decide (i1<(w.length:Int)) then
   (bA w i1).bind fun x1=>
   bif x1.1==un then
    some (.inr (i1,()))
   else
    lR q k w un (cm (i1+1))
  else
   some (.inl ())
def nR(k:Nat)(t:XA×XS×XF)(name:ak):Option (Int×Unit):=
 (lR k k t.1 name 0).bind fun r=>match r with
 |.inl o=>
  some ((-1),())
 |.inr o2=>
  some (o2.1,())
def zI(k:Nat):lq:=⟨⟨22,[(41,3)],[lD 41 0 sA,lD 41 1 sS,lD 41 2 sF,rD 1 .str,rP 2 41],[rI 5],[]⟩,[.ex (.exit 0) [],.ex .ret [rI 4]],fun q c v=>lR k q c.1 c.2.2.2.1 v.1⟩
def Dz(k:Nat):Ev aW:=⟨[],[lp 0 (zI k) k],[(2,41)]⟩
def Ia(k q:Nat):Cd aW:=nq (Dz k) f119 0 (zI k) q []
def M5(k:Nat):Cl aW:=om (Dz k) 119 f119 func119 call119 [tM,.str] [I] (fun d=>nR k d.1 d.2.1) [Ia k k]
def cO(k:Nat)(t:XA×XS×XF)(fn name:ak):Option (Int×Int×Unit):=
 (kc k t fn).bind fun r1=>
 aa (fun(v:Bool)=>
  bif v then
   (bA t.2.2 r1.1).bind fun x2=>
   (gZ k x2.2.2.1 name).bind fun r3=>
   some (3,r3.1,())
  else
   aa (fun(v2:Bool)=>
    bif v2 then
     (bA t.2.2 r1.1).bind fun x4=>
     (gZ k x4.2.2.2.1 name).bind fun r5=>
     some (4,r5.1,())
    else
     (nR k t name).bind fun r6=>
     bif decide (r6.1≥0) then
      (nR k t name).bind fun r7=>
      some (1,r7.1,())
     else
      (gZ k t.2.1 name).bind fun r8=>
      bif decide (r8.1≥0) then
       (gZ k t.2.1 name).bind fun r9=>
       some (2,r9.1,())
      else
       (kc k t name).bind fun mw=>
       bif decide (mw.1≥0) then
        (kc k t name).bind fun po=>
        some (5,po.1,())
       else
        some (0,0,())) fun ir=>
   bif decide (r1.1≥0) then
    (bA t.2.2 r1.1).bind fun x3=>
    (gZ k x3.2.2.2.1 name).bind fun r4=>
    ir (decide (r4.1≥0))
   else
    ir false) fun cq=>
 bif decide (r1.1≥0) then
  (bA t.2.2 r1.1).bind fun x1=>
  (gZ k x1.2.2.1 name).bind fun r2=>
  cq (decide (r2.1≥0))
 else
  cq false
def pq(k:Nat):Cl aW:=om ⟨[z8 k,xT k,M5 k],[],[(3,41)]⟩ 75 f75 func75 call75 [tM,.str,.str] [I,I] (fun d=>cO k d.1 d.2.1 d.2.2.1) []
def kI(k:Nat)(tW:XA)(qr:XS)(yY:XF)(n:Int×Int×Int×ak×XI):Option (XA×XS×XF×Int×Unit):=
 (cO k (tW,qr,yY) ([]:ak) n.2.2.2.1).bind fun r1=>
 bif r1.1 != 0 then
  some (tW,qr,yY,9,())
 else
  bif n.1==2 then
   aa (fun(v:Bool)=>
    bif v then
     some (tW,qr,yY,8,())
    else
     (lA tW ([(n.2.2.2.1,n.2.2.1)])).bind fun l=>
     some (l,qr,yY,0,())) fun cq=>
   bif decide ((tW.length:Int)≥4) then
    cq true
   else
    (my n.2.2.1 1 64).bind fun r2=>
    cq (!r2.1)
  else
   bif n.1==3 then
    bif decide ((qr.length:Int)≥4) then
     some (tW,qr,yY,8,())
    else
     (lA qr ([n.2.2.2.1])).bind fun l2=>
     some (tW,l2,yY,0,())
   else
    bif decide ((yY.length:Int)≥6) then
     some (tW,qr,yY,8,())
    else
     (bA n.2.2.2.2 (cm ((n.2.2.2.2.length:Int) - 1))).bind fun x1=>
     (lA yY ([(n.2.2.2.1,0,[],[],x1)])).bind fun l3=>
     some (tW,qr,l3,0,())
def Ro(k:Nat):Cl aW:=ml ⟨[su,pq k],[],[(2,41),(3,101),(77,9999)]⟩ 46 f46 func46 call46 [500000,500001] ⟨⟨81,[],[],[(.q 0 0,.h .dB tA),(.q 0 1,.h .dB .str),(.q 0 2,.h .bK tF),rD 1 tN],[]⟩,[.ret [(.q 500000 0,.h .dB tA),(.q 500000 1,.h .dB .str),(.q 500000 2,.h .bK tF),rI 500001] []],fun c v=>kI k v.1 v.2.1 v.2.2.1 v.2.2.2.1⟩ []
end
end Go.Fx.R5
namespace Go.Fx.R5
open Go Go.Fx Go.Proofs Go.Proofs.Tryz
noncomputable section
def dD(q:Nat):Nat→XI→XN→Int→XA→XS→XF→Int→Int→Int→Option (((XA×XS×XF×Int×Int×Unit)⊕(Int×Int×XA×XS×XF×Unit)))
 |0,_,_,_,_,_,_,_,_,_=>none
 |k+1,MC,tX,f2,w,w2,w3,w4,w5,i1=>
  bif decide ((cm (i1+1))<(MC.length:Int)) then
   (bA MC i1).bind fun x1=>
   (bA tX x1).bind fun x2=>
   (bA w3 f2).bind fun x3=>
   (bA w3 (f2.toNat:Int)).bind fun x4=>
   (cO q (w,w2,w3) x4.1 x2.2.2.2.1).bind fun r1=>
   bif r1.1 != 0 then
    some (.inr (9,x2.2.1,w,w2,w3,()))
   else
    (bA w3 f2).bind fun x5=>
    (bA w3 (f2.toNat:Int)).bind fun x6=>
    aa (fun(v:Bool)=>
     aa (fun(v3:Bool)=>
      aa (fun(v5:Bool)=>
       bif v5 then
        some (.inr (8,x2.2.1,w,w2,w3,()))
       else
        aa (fun(jv:XS×XS×ak×Int×Int)=>
         aa (fun(v9:Int)=>
          (bA w3 f2).bind fun x9=>
          bif Nat.beq f2.toNat f2.toNat&&true then
           dD q k MC tX f2 w w2 (List.set w3 f2.toNat (x6.1,v9,(jv.1),(jv.2.1),x6.2.2.2.2)) w4 w5 (cm (i1+1))
          else
           none) fun jx7=>
         bif x2.1==5 then
          jx7 (cm (x6.2.1+1))
         else
          jx7 x6.2.1) fun jx6=>
        bif x2.1==7 then
         (bA w3 (f2.toNat:Int)).bind fun e=>
         bif (Nat.beq f2.toNat f2.toNat&&(Nat.beq f2.toNat f2.toNat&&true))&&true then
          (lA e.2.2.2.1 ([x2.2.2.2.1])).bind fun l=>
          jx6 (e.2.2.1,l,e.1,e.2.1,e.2.2.2.2)
         else
          none
        else
         (bA w3 (f2.toNat:Int)).bind fun e2=>
         bif (Nat.beq f2.toNat f2.toNat&&(Nat.beq f2.toNat f2.toNat&&true))&&true then
          (lA e2.2.2.1 ([x2.2.2.2.1])).bind fun l2=>
          jx6 (l2,e2.2.2.2.1,e2.1,e2.2.1,e2.2.2.2.2)
         else
          none) fun jx5=>
      bif v3 then
       jx5 true
      else
       aa (fun(v4:Bool)=>
        jx5 v4) fun jx4=>
       bif x2.1==5 then
        jx4 (decide (x6.2.1≥3))
       else
        jx4 false) fun uf=>
     bif v then
      uf true
     else
      aa (fun(v2:Bool)=>
       uf v2) fun ir=>
      bif x2.1 != 7 then
       (bA w3 (f2.toNat:Int)).bind fun x8=>
       ir (decide ((x8.2.2.1.length:Int)≥8))
      else
       ir false) fun cq=>
    bif x2.1==7 then
     (bA w3 (f2.toNat:Int)).bind fun x7=>
     cq (decide ((x7.2.2.2.1.length:Int)≥3))
    else
     cq false
  else
   some (.inl (w,w2,w3,w4,w5,()))
def Cu(k:Nat)(tW:XA)(qr:XS)(yY:XF)(km:XN)(f:Int)(fn:Int×Int×Int×ak×XI):Option (XA×XS×XF×(Int×Int)×Unit):=
 (dD k k fn.2.2.2.2 km f tW qr yY 0 0 0).bind fun r=>match r with
 |.inl o=>
  some (o.1,o.2.1,o.2.2.1,(0,0),())
 |.inr o2=>
  some (o2.2.2.1,o2.2.2.2.1,o2.2.2.2.2.1,(o2.1,o2.2.1),())
def C2(k:Nat):lq:=⟨⟨120,[(41,3),(52,2),(101,5),(10008,3)],[lI 101 0,lI 101 1,lI 101 2,lD 101 3 .str,lD 101 4 sI,rD 1 sN,rI 2,rP 4 41,rP 7 101,rP 8 10008,rP 9 52],[lF 41 0 tA,lF 41 1 .str,lU 41 2 tF,lI 52 0,lI 52 1,lN 10008 0,lN 10008 1,lN 10008 2,rI 10],[]⟩,[.ex (.exit 0) [lF 41 0 tA,lF 41 1 .str,lU 41 2 tF,lI 52 0,lI 52 1,lN 10008 0,lN 10008 1,lN 10008 2],.ex .ret [lI 52 0,lI 52 1,lF 10008 0 tA,lF 10008 1 .str,lU 10008 2 tF]],fun q c v=>dD k q c.2.2.2.2.1 c.2.2.2.2.2.1 c.2.2.2.2.2.2.1 v.1 v.2.1 v.2.2.1 v.2.2.2.1 v.2.2.2.2.1 v.2.2.2.2.2.2.2.2.1⟩
def Ii(k:Nat):Ev aW:=⟨[pq k],[lp 0 (C2 k) k],[(4,41),(7,101),(9,52)]⟩
def Lj(k q:Nat):Cd aW:=nq (Ii k) f47 0 (C2 k) q []
def Rn(k:Nat):Cl aW:=ml (Ii k) 47 f47 func47 call47 [500000,500001] ⟨⟨120,[],[],[(.q 0 0,.h .dB tA),(.q 0 1,.h .dB .str),(.q 0 2,.h .bK tF),rD 1 sN,rI 2,rD 3 tN],[]⟩,[.ret [(.q 500000 0,.h .dB tA),(.q 500000 1,.h .dB .str),(.q 500000 2,.h .bK tF),rD 500001 tP] []],fun c v=>Cu k v.1 v.2.1 v.2.2.1 v.2.2.2.1 v.2.2.2.2.1 v.2.2.2.2.2.1⟩ [Lj k k]
def ck(Code At code jj:Int):Option (Int×Int×Unit):=
 bif Code==0 then
  some (code,jj,())
 else
  some (Code,At,())
def pt:Cl aW:=ml ⟨[],[],[]⟩ 120 f120 func120 call120 [] ⟨⟨18,[(108,8)],[lD 108 0 sA,lD 108 1 sS,lD 108 2 sF,lD 108 3 sN,lD 108 4 .str,lF 108 5 .str],[rP 0 108,rI 1,rI 2,lI 108 6,lI 108 7],[]⟩,[.ret [lI 108 6,lI 108 7] []],fun c v=>ck v.2.2.2.1 v.2.2.2.2.1 v.2.1 v.2.2.1⟩ []
def gM(k:Nat)(aF:XA)(an:XS)(bh:XF)(fn:ak)(Code At:Int)(name:ak)(jj a b:Int):Option (Int×Int×Unit):=
 (cO k (aF,an,bh) fn name).bind fun r1=>
 bif r1.1==0 then
  (ck Code At 10 jj).bind fun r2=>
  some (r2.1,r2.2.1,())
 else
  aa (fun(v:Bool)=>
   bif v then
    (ck Code At 11 jj).bind fun r3=>
    some (r3.1,r3.2.1,())
   else
    some (Code,At,())) fun cq=>
  bif r1.1 != a then
   cq (r1.1 != b)
  else
   cq false
def pu(k:Nat):Cl aW:=ml ⟨[pq k,pt],[],[]⟩ 79 f79 func79 call79 [] ⟨⟨41,[(108,8)],[lD 108 0 sA,lD 108 1 sS,lD 108 2 sF,lD 108 3 sN,lD 108 4 .str,lF 108 5 .str],[rP 0 108,rD 1 .str,rI 2,rI 3,rI 4,lI 108 6,lI 108 7],[]⟩,[.ret [lI 108 6,lI 108 7] []],fun c v=>gM k c.1 c.2.1 c.2.2.1 c.2.2.2.2.1 v.2.2.2.2.2.1 v.2.2.2.2.2.2.1 v.2.1 v.2.2.1 v.2.2.2.1 v.2.2.2.2.1⟩ []
def tV(k:Nat)(aF:XA)(an:XS)(bh:XF)(fn:ak)(qU:XS)(Code At:Int)(name:ak)(jj:Int):Option (XS×Int×Int×Unit):=
 (gM k aF an bh fn Code At name jj 3 2).bind fun r1=>
 (gZ k qU name).bind fun r2=>
 bif decide (r2.1≥0) then
  (ck r1.1 r1.2.1 11 jj).bind fun r3=>
  some (qU,r3.1,r3.2.1,())
 else
  some (qU,r1.1,r1.2.1,())
def DP(k:Nat):Cl aW:=ml ⟨[pu k,xT k,pt],[],[]⟩ 121 f121 func121 call121 [] ⟨⟨20,[(108,8)],[lD 108 0 sA,lD 108 1 sS,lD 108 2 sF,lD 108 3 sN,lD 108 4 .str],[rP 0 108,rD 1 .str,rI 2,lF 108 5 .str,lI 108 6,lI 108 7],[]⟩,[.ret [lF 108 5 .str,lI 108 6,lI 108 7] []],fun c v=>tV k c.1 c.2.1 c.2.2.1 c.2.2.2.2.1 v.2.2.2.1 v.2.2.2.2.1 v.2.2.2.2.2.1 v.2.1 v.2.2.1⟩ []
def gz(k:Nat)(aF:XA)(an:XS)(bh:XF)(km:XN)(fn:ak)(qU:XS)(Code At i1:Int):Option (XS×Int×Int×Unit):=
 (bA km i1).bind fun x1=>
 aa (fun(jv:Int×Int)=>
  aa (fun(jv:Int×Int)=>
   aa (fun(jv:Int×Int)=>
    aa (fun(jv:XS×Int×Int)=>
     bif x1.1==16 then
      (gM k aF an bh fn (jv.2.1) (jv.2.2) x1.2.2.2.1 x1.2.1 3 3).bind fun r5=>
      (gZ k (jv.1) x1.2.2.2.1).bind fun r6=>
      bif decide (r6.1≥0) then
       (ck r5.1 r5.2.1 11 x1.2.1).bind fun r7=>
       some ((jv.1),r7.1,r7.2.1,())
      else
       some ((jv.1),r5.1,r5.2.1,())
     else
      some ((jv.1),(jv.2.1),(jv.2.2),())) fun TE=>
    aa (fun(v6:Bool)=>
     bif v6 then
      (tV k aF an bh fn qU (jv.1) (jv.2) x1.2.2.2.1 x1.2.1).bind fun r4=>
      TE (r4.1,r4.2.1,r4.2.2.1)
     else
      TE (qU,(jv.1),(jv.2))) fun jx9=>
    bif x1.1==17 then
     jx9 true
    else
     jx9 (x1.1==22)) fun jx8=>
   aa (fun(v2:Bool)=>
    aa (fun(v3:Bool)=>
     aa (fun(v4:Bool)=>
      aa (fun(v5:Bool)=>
       bif v5 then
        (gM k aF an bh fn (jv.1) (jv.2) x1.2.2.2.1 x1.2.1 4 4).bind fun r3=>
        jx8 (r3.1,r3.2.1)
       else
        jx8 ((jv.1),(jv.2))) fun jx7=>
      bif v4 then
       jx7 true
      else
       jx7 (x1.1==12)) fun jx6=>
     bif v3 then
      jx6 true
     else
      jx6 (x1.1==34)) fun jx5=>
    bif v2 then
     jx5 true
    else
     jx5 (x1.1==13)) fun jx4=>
   bif x1.1==27 then
    jx4 true
   else
    jx4 (x1.1==11)) fun uf=>
  aa (fun(v:Bool)=>
   bif v then
    (gM k aF an bh fn (jv.1) (jv.2) x1.2.2.2.1 x1.2.1 1 1).bind fun r2=>
    uf (r2.1,r2.2.1)
   else
    uf ((jv.1),(jv.2))) fun ir=>
  bif x1.1==26 then
   ir true
  else
   ir (x1.1==10)) fun cq=>
 bif x1.1==25 then
  (gM k aF an bh fn Code At x1.2.2.2.1 x1.2.1 3 2).bind fun r1=>
  cq (r1.1,r1.2.1)
 else
  cq (Code,At)
def M6(k:Nat):Cl aW:=ml ⟨[pu k,xT k,pt,DP k],[],[(4,101)]⟩ 77 f77 func77 call77 [] ⟨⟨99,[(108,8)],[lD 108 0 sA,lD 108 1 sS,lD 108 2 sF,lD 108 3 sN,lD 108 4 .str],[rP 0 108,rI 1,lF 108 5 .str,lI 108 6,lI 108 7],[]⟩,[.ret [lF 108 5 .str,lI 108 6,lI 108 7] []],fun c v=>gz k c.1 c.2.1 c.2.2.1 c.2.2.2.1 c.2.2.2.2.1 v.2.2.1 v.2.2.2.1 v.2.2.2.2.1 v.2.1⟩ []
abbrev jc:=XA→XS→XF→XN→ak→XS→Int→Int→Int→Option (XS×Int×Int×Unit)
def rO(f:jc):EU:=⟨⟨111,[(108,8)],[lD 108 0 sA,lD 108 1 sS,lD 108 2 sF,lD 108 3 sN,lD 108 4 .str],[rP 0 108,rI 1,lF 108 5 .str,lI 108 6,lI 108 7],[]⟩,[.ret [lF 108 5 .str,lI 108 6,lI 108 7] []],fun c v=>f c.1 c.2.1 c.2.2.1 c.2.2.2.1 c.2.2.2.2.1 v.2.2.1 v.2.2.2.1 v.2.2.2.2.1 v.2.1⟩
def CM(f:jc):iX:=mP (rO f).L (rO f).F (BH [] (rO f).V)
abbrev gW:=XA→XS→XF→XN→ak→XS→Int→Int→(Int×Int×Int×ak×XI)→Option (XS×Int×Int×Unit)
def pM(f:gW):EU:=⟨⟨68,[(108,8)],[lD 108 0 sA,lD 108 1 sS,lD 108 2 sF,lD 108 3 sN,lD 108 4 .str],[rP 0 108,rD 1 tN,lF 108 5 .str,lI 108 6,lI 108 7],[]⟩,[.ret [lF 108 5 .str,lI 108 6,lI 108 7] []],fun c v=>f c.1 c.2.1 c.2.2.1 c.2.2.2.1 c.2.2.2.2.1 v.2.2.1 v.2.2.2.1 v.2.2.2.2.1 v.2.1⟩
def zm(f:gW):iX:=mP (pM f).L (pM f).F (BH [] (pM f).V)
abbrev jb:=XA→XS→XF→XN→ak→XS→Int→Int→(Int×Int×Int×ak×XI)→Option (XS×Int×Int×Unit)
def rN(f:jb):EU:=⟨⟨74,[(108,8)],[lD 108 0 sA,lD 108 1 sS,lD 108 2 sF,lD 108 3 sN,lD 108 4 .str],[rP 0 108,rD 1 tN,lF 108 5 .str,lI 108 6,lI 108 7],[]⟩,[.ret [lF 108 5 .str,lI 108 6,lI 108 7] []],fun c v=>f c.1 c.2.1 c.2.2.1 c.2.2.2.1 c.2.2.2.2.1 v.2.2.1 v.2.2.2.1 v.2.2.2.2.1 v.2.1⟩
def CL(f:jb):iX:=mP (rN f).L (rN f).F (BH [] (rN f).V)
def bL(bf:jc)(aZ:gW)(bG:jb)(q:Nat):Nat→Int→ak→XI→XA→XS→XF→XN→ak→XS→Int→Int→Int→Option (XS×Int×Int×Unit)
 |0,_,_,_,_,_,_,_,_,_,_,_,_=>none
 |k+1,aey,rk,MC,eQ,gf,iB,tX,EZ,CR,If,At4,k2=>
  bif decide (k2<(MC.length:Int)) then
   aa (fun(aeI:XS)=>
    (bA MC k2).bind fun x4=>
    (bf eQ gf iB tX EZ aeI If At4 x4).bind fun r5=>
    bL bf aZ bG q k aey rk MC eQ gf iB tX EZ r5.1 r5.2.1 r5.2.2.1 (cm (k2+1))) fun ir=>
   aa (fun(v:Bool)=>
    bif v then
     (lA CR ([rk])).bind fun l=>
     ir l
    else
     ir CR) fun cq=>
   bif aey==16 then
    cq (k2==2)
   else
    cq false
  else
   some (CR,If,At4,())
def cJ(bf:jc)(aZ:gW)(bG:jb)(k:Nat)(aF:XA)(an:XS)(bh:XF)(km:XN)(fn:ak)(qU:XS)(Code At i1:Int):Option (XS×Int×Int×Unit):=
 (bA km i1).bind fun x1=>
 bif Code != 0 then
  some (qU,Code,At,())
 else
  bif x1.1==9 then
   (aZ aF an bh km fn qU Code At x1).bind fun r1=>
   some (r1.1,r1.2.1,r1.2.2.1,())
  else
   (gz k aF an bh km fn qU Code At i1).bind fun r2=>
   bif x1.1==22 then
    (bG aF an bh km fn r2.1 r2.2.1 r2.2.2.1 x1).bind fun r3=>
    some (r3.1,r3.2.1,r3.2.2.1,())
   else
    aa (fun(jv:Int×Int×Int)=>
     (bL bf aZ bG k k x1.1 x1.2.2.2.1 x1.2.2.2.2 aF an bh km fn r2.1 (jv.2.1) (jv.2.2) (jv.1)).bind fun o=>
     aa (fun(v:Bool)=>
      bif v then
       (sub o.1 0 (cm ((o.1.length:Int) - 1))).bind fun l=>
       some (l,o.2.1,o.2.2.1,())
      else
       some (o.1,o.2.1,o.2.2.1,())) fun ir=>
     bif x1.1==16 then
      ir (o.2.1==0)
     else
      ir false) fun cq=>
    bif x1.1==12 then
     (bA x1.2.2.2.2 0).bind fun x2=>
     (bA km x2).bind fun x3=>
     (gM k aF an bh fn r2.2.1 r2.2.2.1 x3.2.2.2.1 x3.2.1 1 1).bind fun r4=>
     cq (1,r4.1,r4.2.1)
    else
     cq (0,r2.2.1,r2.2.2.1)
def hG(bf:jc)(aZ:gW)(bG:jb)(k:Nat)(aF:XA)(an:XS)(bh:XF)(km:XN)(fn:ak)(qU:XS)(Code At:Int)(n:Int×Int×Int×ak×XI):Option (XS×Int×Int×Unit):=
 (cO k (aF,an,bh) fn n.2.2.2.1).bind fun r1=>
 (bA n.2.2.2.2 0).bind fun x1=>
 (bA km x1).bind fun x2=>
 bif r1.1==4 then
  aa (fun(jv:Int×Int)=>
   some (qU,(jv.1),(jv.2),())) fun cq=>
  bif x2.1==25 then
   (gM k aF an bh fn Code At x2.2.2.2.1 x2.2.1 4 4).bind fun r2=>
   cq (r2.1,r2.2.1)
  else
   bif x2.1 != 29 then
    (ck Code At 11 n.2.1).bind fun r3=>
    cq (r3.1,r3.2.1)
   else
    cq (Code,At)
 else
  (tV k aF an bh fn qU Code At n.2.2.2.1 n.2.1).bind fun r4=>
  aa (fun(jv:Int×Int)=>
   (bA n.2.2.2.2 0).bind fun x3=>
   (bf aF an bh km fn r4.1 (jv.1) (jv.2) x3).bind fun r6=>
   some (r6.1,r6.2.1,r6.2.2.1,())) fun ir=>
  bif x2.1==29 then
   (ck r4.2.1 r4.2.2.1 11 x2.2.1).bind fun r5=>
   ir (r5.1,r5.2.1)
  else
   ir (r4.2.1,r4.2.2.1)
def ix(bf:jc)(aZ:gW)(bG:jb)(q:Nat):Nat→XI→XA→XS→XF→XN→ak→XS→Int→Int→Int→Option (XS×Int×Int×Unit)
 |0,_,_,_,_,_,_,_,_,_,_=>none
 |k+1,MC,eQ,gf,iB,tX,EZ,CR,If,At4,i1=>
  bif decide (i1<(MC.length:Int)) then
   (bA MC i1).bind fun x4=>
   (bf eQ gf iB tX EZ CR If At4 x4).bind fun r4=>
   ix bf aZ bG q k MC eQ gf iB tX EZ r4.1 r4.2.1 r4.2.2.1 (cm (i1+1))
  else
   some (CR,If,At4,())
def lT(bf:jc)(aZ:gW)(bG:jb)(k:Nat)(aF:XA)(an:XS)(bh:XF)(km:XN)(fn:ak)(qU:XS)(Code At:Int)(n:Int×Int×Int×ak×XI):Option (XS×Int×Int×Unit):=
 (bA n.2.2.2.2 0).bind fun x1=>
 (bA km x1).bind fun x2=>
 (gM k aF an bh fn Code At x2.2.2.2.1 x2.2.1 5 5).bind fun r1=>
 (cO k (aF,an,bh) fn x2.2.2.2.1).bind fun r2=>
 aa (fun(jv:Int×Int)=>
  (ix bf aZ bG k k n.2.2.2.2 aF an bh km fn qU (jv.1) (jv.2) 1).bind fun o=>
  some (o.1,o.2.1,o.2.2.1,())) fun ir=>
 aa (fun(v:Bool)=>
  bif v then
   (ck r1.1 r1.2.1 12 x2.2.1).bind fun r3=>
   ir (r3.1,r3.2.1)
  else
   ir (r1.1,r1.2.1)) fun cq=>
 bif r2.1==5 then
  (bA bh r2.2.1).bind fun x3=>
  cq (x3.2.1 != (cm ((n.2.2.2.2.length:Int) - 1)))
 else
  cq false
def eL:Nat→jc×gW×jb
 |0=>(fun _ _ _ _ _ _ _ _ _=>none,fun _ _ _ _ _ _ _ _ _=>none,fun _ _ _ _ _ _ _ _ _=>none)
 |k+1=>(cJ (eL k).1 (eL k).2.1 (eL k).2.2 k,hG (eL k).1 (eL k).2.1 (eL k).2.2 k,lT (eL k).1 (eL k).2.1 (eL k).2.2 k)
def dE(k:Nat):jc:=(eL k).1
def dz(k:Nat):gW:=(eL k).2.1
def eE(k:Nat):jb:=(eL k).2.2
section
variable (bf:Gd aW 49 CM) (aZ:Gd aW 76 zm) (bG:Gd aW 78 CL)
def yF(k:Nat):lq:=⟨⟨111,[(101,5),(108,8)],[lI 101 0,lI 101 1,lI 101 2,lD 101 3 .str,lD 101 4 sI,lD 108 0 sA,lD 108 1 sS,lD 108 2 sF,lD 108 3 sN,lD 108 4 .str,rP 0 108,rP 4 101],[lF 108 5 .str,lI 108 6,lI 108 7,rI 5],[]⟩,[.ex (.exit 0) [lF 108 5 .str,lI 108 6,lI 108 7]],fun q c v=>bL bf.1 aZ.1 bG.1 k q c.1 c.2.2.2.1 c.2.2.2.2.1 c.2.2.2.2.2.1 c.2.2.2.2.2.2.1 c.2.2.2.2.2.2.2.1 c.2.2.2.2.2.2.2.2.1 c.2.2.2.2.2.2.2.2.2.1 v.1 v.2.1 v.2.2.1 v.2.2.2.1⟩
def CG(k:Nat):Ev aW:=⟨[bf.cl,aZ.cl,M6 k,bG.cl,pu k],[lp 0 (yF bf aZ bG k) k],[(4,101)]⟩
def GR(k q:Nat):Cd aW:=nq (CG bf aZ bG k) f49 0 (yF bf aZ bG k) q []
def LM(k:Nat):Cl aW:=ml (CG bf aZ bG k) 49 f49 func49 call49 [] (rO (cJ bf.1 aZ.1 bG.1 k)) [GR bf aZ bG k k]
def IN(k:Nat):Cl aW:=ml ⟨[bf.cl,pq k,pu k,pt,DP k],[],[(3,101)]⟩ 76 f76 func76 call76 [] (pM (hG bf.1 aZ.1 bG.1 k)) []
def yE(k:Nat):lq:=⟨⟨74,[(101,5),(108,8)],[lI 101 0,lI 101 1,lI 101 2,lD 101 3 .str,lD 101 4 sI,lD 108 0 sA,lD 108 1 sS,lD 108 2 sF,lD 108 3 sN,lD 108 4 .str,rP 0 108,rP 3 101],[lF 108 5 .str,lI 108 6,lI 108 7,rI 7],[]⟩,[.ex (.exit 0) [lF 108 5 .str,lI 108 6,lI 108 7]],fun q c v=>ix bf.1 aZ.1 bG.1 k q c.2.2.2.2.1 c.2.2.2.2.2.1 c.2.2.2.2.2.2.1 c.2.2.2.2.2.2.2.1 c.2.2.2.2.2.2.2.2.1 c.2.2.2.2.2.2.2.2.2.1 v.1 v.2.1 v.2.2.1 v.2.2.2.1⟩
def CF(k:Nat):Ev aW:=⟨[bf.cl,pq k,pu k,pt],[lp 0 (yE bf aZ bG k) k],[(3,101)]⟩
def GQ(k q:Nat):Cd aW:=nq (CF bf aZ bG k) f78 0 (yE bf aZ bG k) q []
def LL(k:Nat):Cl aW:=ml (CF bf aZ bG k) 78 f78 func78 call78 [] (rN (lT bf.1 aZ.1 bG.1 k)) [GQ bf aZ bG k k]
end
theorem nG:∀ k,mb prog gt 49 (CM (dE k))∧mb prog gt 76 (zm (dz k))∧mb prog gt 78 (CL (eE k))
 |0=>⟨dj (fun _ _=>rfl),dj (fun _ _=>rfl),dj (fun _ _=>rfl)⟩
 |k+1=>have ih:=nG k;⟨(LM ⟨_,ih.1⟩ ⟨_,ih.2.1⟩ ⟨_,ih.2.2⟩ k).ok,(IN ⟨_,ih.1⟩ ⟨_,ih.2.1⟩ ⟨_,ih.2.2⟩ k).ok,(LL ⟨_,ih.1⟩ ⟨_,ih.2.1⟩ ⟨_,ih.2.2⟩ k).ok⟩
def LE(k:Nat):Cl aW:=⟨_,_,(nG k).1⟩
def Wb(k:Nat):Cl aW:=⟨_,_,(nG k).2.1⟩
def Yq(k:Nat):Cl aW:=⟨_,_,(nG k).2.2⟩
def ph(q:Nat)(tX:XN)(Ql:XI)(i2:Int)(w8:XA)(w9:XS)(w10:XF):Option (Int×XA×XS×XF×Unit):=
 (bA Ql i2).bind fun x2=>
 (bA tX x2).bind fun x3=>
 (kI q w8 w9 w10 x3).bind fun r2=>
 some (r2.2.2.2.1,r2.1,r2.2.1,r2.2.2.1,())
def dg(q:Nat):Nat→XN→XI→Int→Int→XA→XS→XF→Int→Option (((Int×Int×XA×XS×XF×Unit)⊕(Int×Int×Unit)))
 |0,_,_,_,_,_,_,_,_=>none
 |k+1,km,cE,w,w2,w3,w4,w5,i1=>
  bif decide (i1<(cE.length:Int)) then
   (ph q km cE i1 w3 w4 w5).bind fun o=>
   bif o.1 != 0 then
    (bA cE i1).bind fun x2=>
    (bA km x2).bind fun x3=>
    some (.inr (o.1,x3.2.1,()))
   else
    dg q k km cE w w2 o.2.1 o.2.2.1 o.2.2.2.1 (cm (i1+1))
  else
   some (.inl (w,w2,w3,w4,w5,()))
def pi(q:Nat)(tX:XN)(Ql:XI)(EZ i2:Int)(w8:XA)(w9:XS)(w10:XF):Option (XA×XS×XF×Int×Int×Unit):=
 (bA Ql i2).bind fun x4=>
 (bA tX x4).bind fun x5=>
 (Cu q w8 w9 w10 tX EZ x5).bind fun r2=>
 some (r2.1,r2.2.1,r2.2.2.1,r2.2.2.2.1.1,r2.2.2.2.1.2,())
def cU(q:Nat):Nat→XN→XI→Int→Int→XA→XS→XF→Int→Int→Option (((Int×Int×XA×XS×XF×Unit)⊕(Int×Int×Unit)))
 |0,_,_,_,_,_,_,_,_,_=>none
 |k+1,km,cE,w,w2,w3,w4,w5,fn,i1=>
  bif decide (i1<(cE.length:Int)) then
   aa (fun(jv:Int×XA×XS×XF)=>
    cU q k km cE w w2 (jv.2.1) (jv.2.2.1) (jv.2.2.2) (jv.1) (cm (i1+1))) fun cq=>
   (bA cE i1).bind fun x2=>
   (bA km x2).bind fun x3=>
   bif x3.1==4 then
    (pi q km cE fn i1 w3 w4 w5).bind fun o3=>
    bif o3.2.2.2.1 != 0 then
     some (.inr (o3.2.2.2.1,o3.2.2.2.2.1,()))
    else
     cq ((cm (fn+1)),o3.1,o3.2.1,o3.2.2.1)
   else
    cq (fn,w3,w4,w5)
  else
   some (.inl (w,w2,w3,w4,w5,()))
def eP(q:Nat):Nat→XN→Int→Int→XA→XS→XF→Int→Option (((Int×Int×XA×XS×XF×Unit)⊕(Int×Int×Unit)))
 |0,_,_,_,_,_,_,_=>none
 |k+1,km,w,w2,w3,w4,w5,i1=>
  bif decide (i1<(w5.length:Int)) then
   (bA w5 i1).bind fun x4=>
   (bA w5 i1).bind fun x5=>
   (dE q w3 w4 w5 km x4.1 [] 0 0 x5.2.2.2.2).bind fun r3=>
   bif r3.2.1 != 0 then
    some (.inr (r3.2.1,r3.2.2.1,()))
   else
    eP q k km w w2 w3 w4 w5 (cm (i1+1))
  else
   some (.inl (w,w2,w3,w4,w5,()))
def fk(k:Nat)(bV:ak):Option ((XA×XS×XF)×(Int×Int)×Unit):=
 (gF k bV).bind fun r1=>
 bif r1.2.1.1 != 0 then
  some (([],[],[]),r1.2.1,())
 else
  (bA r1.1 (cm ((r1.1.length:Int) - 1))).bind fun x1=>
  (dg k k r1.1 x1.2.2.2.2 0 0 [] [] [] 0).bind fun r=>match r with
  |.inl o=>
   (cU k k r1.1 x1.2.2.2.2 o.1 o.2.1 o.2.2.1 o.2.2.2.1 o.2.2.2.2.1 0 0).bind fun r=>match r with
   |.inl o3=>
    (kc k (o3.2.2.1,o3.2.2.2.1,o3.2.2.2.2.1) ([109,97,105,110]:ak)).bind fun r2=>
    aa (fun(v:Bool)=>
     bif v then
      some (([],[],[]),(13,0),())
     else
      (eP k k r1.1 o3.1 o3.2.1 o3.2.2.1 o3.2.2.2.1 o3.2.2.2.2.1 0).bind fun r=>match r with
      |.inl o5=>
       some ((o5.2.2.1,o5.2.2.2.1,o5.2.2.2.2.1),(0,0),())
      |.inr o6=>
       some (([],[],[]),(o6.1,o6.2.1),())) fun cq=>
    bif decide (r2.1<0) then
     cq true
    else
     (bA o3.2.2.2.2.1 r2.1).bind fun x2=>
     (bA o3.2.2.2.2.1 (r2.1.toNat:Int)).bind fun x3=>
     cq (x3.2.1 != 0)
   |.inr o4=>
    some (([],[],[]),(o4.1,o4.2.1),())
  |.inr o2=>
   some (([],[],[]),(o2.1,o2.2.1),())
def vo(k:Nat):lq:=⟨⟨160,[(41,3),(52,2),(10004,3),(10007,3)],[lN 41 0,lN 41 1,lN 41 2,lI 52 0,lI 52 1,lN 10004 0,lN 10004 1,lN 10004 2,rP 2 41,rP 3 52,rP 4 10004,rD 5 sN,rP 7 10007,rD 8 sI,rI 9],[lF 10007 0 tA,lF 10007 1 .str,lU 10007 2 tF],[]⟩,[.ex .normal [rP 10 10010,rI 11,lF 10010 0 tA,lF 10010 1 .str,lU 10010 2 tF]],fun q c v=>ph k c.2.2.2.2.2.2.2.2.2.2.2.1 c.2.2.2.2.2.2.2.2.2.2.2.2.2.1 c.2.2.2.2.2.2.2.2.2.2.2.2.2.2.1 v.1 v.2.1 v.2.2.1⟩
def wx(k:Nat):lq:=⟨⟨160,[(41,3),(52,2),(10004,3),(10007,3)],[lN 10004 0,lN 10004 1,lN 10004 2,rP 2 41,rP 3 52,rP 4 10004,rD 5 sN,rP 7 10007,rD 8 sI],[lN 41 0,lN 41 1,lN 41 2,lI 52 0,lI 52 1,lF 10007 0 tA,lF 10007 1 .str,lU 10007 2 tF,rI 9],[]⟩,[.ex (.exit 0) [lN 41 0,lN 41 1,lN 41 2,lI 52 0,lI 52 1,lF 10007 0 tA,lF 10007 1 .str,lU 10007 2 tF],.ex .ret [lN 41 0,lN 41 1,lN 41 2,lI 52 0,lI 52 1]],fun q c v=>dg k q c.2.2.2.2.2.2.1 c.2.2.2.2.2.2.2.2.1 v.2.2.2.1 v.2.2.2.2.1 v.2.2.2.2.2.1 v.2.2.2.2.2.2.1 v.2.2.2.2.2.2.2.1 v.2.2.2.2.2.2.2.2.1⟩
def vp(k:Nat):lq:=⟨⟨160,[(41,3),(52,2),(10004,3),(10007,3)],[lN 41 0,lN 41 1,lN 41 2,lI 52 0,lI 52 1,lN 10004 0,lN 10004 1,lN 10004 2,rP 2 41,rP 3 52,rP 4 10004,rD 5 sN,rP 7 10007,rD 8 sI,rI 12,rI 13],[lF 10007 0 tA,lF 10007 1 .str,lU 10007 2 tF],[]⟩,[.ex .normal [rP 14 10014,rP 15 10015,lF 10014 0 tA,lF 10014 1 .str,lU 10014 2 tF,lI 10015 0,lI 10015 1]],fun q c v=>pi k c.2.2.2.2.2.2.2.2.2.2.2.1 c.2.2.2.2.2.2.2.2.2.2.2.2.2.1 c.2.2.2.2.2.2.2.2.2.2.2.2.2.2.1 c.2.2.2.2.2.2.2.2.2.2.2.2.2.2.2.1 v.1 v.2.1 v.2.2.1⟩
def wy(k:Nat):lq:=⟨⟨160,[(41,3),(52,2),(10004,3),(10007,3)],[lN 10004 0,lN 10004 1,lN 10004 2,rP 2 41,rP 3 52,rP 4 10004,rD 5 sN,rP 7 10007,rD 8 sI],[lN 41 0,lN 41 1,lN 41 2,lI 52 0,lI 52 1,lF 10007 0 tA,lF 10007 1 .str,lU 10007 2 tF,rI 12,rI 13],[]⟩,[.ex (.exit 2) [lN 41 0,lN 41 1,lN 41 2,lI 52 0,lI 52 1,lF 10007 0 tA,lF 10007 1 .str,lU 10007 2 tF],.ex .ret [lN 41 0,lN 41 1,lN 41 2,lI 52 0,lI 52 1]],fun q c v=>cU k q c.2.2.2.2.2.2.1 c.2.2.2.2.2.2.2.2.1 v.2.2.2.1 v.2.2.2.2.1 v.2.2.2.2.2.1 v.2.2.2.2.2.2.1 v.2.2.2.2.2.2.2.1 v.2.2.2.2.2.2.2.2.1 v.2.2.2.2.2.2.2.2.2.1⟩
def wA(k:Nat):lq:=⟨⟨160,[(41,3),(52,2),(10004,3),(10007,3)],[lN 10004 0,lN 10004 1,lN 10004 2,rP 2 41,rP 3 52,rP 4 10004,rD 5 sN,rP 7 10007],[lN 41 0,lN 41 1,lN 41 2,lI 52 0,lI 52 1,lD 10007 0 sA,lD 10007 1 sS,lD 10007 2 sF,rI 17],[]⟩,[.ex (.exit 4) [lN 41 0,lN 41 1,lN 41 2,lI 52 0,lI 52 1,lD 10007 0 sA,lD 10007 1 sS,lD 10007 2 sF],.ex .ret [lN 41 0,lN 41 1,lN 41 2,lI 52 0,lI 52 1]],fun q c v=>eP k q c.2.2.2.2.2.2.1 v.2.2.2.1 v.2.2.2.2.1 v.2.2.2.2.2.1 v.2.2.2.2.2.2.1 v.2.2.2.2.2.2.2.1 v.2.2.2.2.2.2.2.2.1⟩
def mt(k:Nat):Ev aW:=⟨[AY k,Ro k,Rn k,z8 k,(LE k).t8 0 108],[rg 10 (vo k),lp 0 (wx k) k,rg 19 (vp k),lp 2 (wy k) k,lp 4 (wA k) k],[(2,41),(3,52)]⟩
def Ds(k:Nat):Cd aW:=rgC (mt k) f23 10 (vo k) [[0,1,2,3,4,5,6,7,8,9,10,11,12,13,14],[0,1,2,3,4,5,6,7,12,8,9,10,11,13,14]]
def Fy(k q:Nat):Cd aW:=nq (mt k) f23 0 (wx k) q [Ds k]
def Dt(k:Nat):Cd aW:=rgC (mt k) f23 19 (vp k) [[0,1,2,3,4,5,6,7,8,9,10,11,12,13,14,15,16,17],[0,1,2,3,4,5,6,7,8,9,10,11,12,13,15,14,16,17],[0,1,2,3,4,5,6,7,8,9,14,10,11,12,13,15,16,17],[0,1,2,3,4,5,6,7,8,9,14,15,10,11,12,13,16,17],[0,1,2,3,4,5,6,7,8,9,15,10,11,12,13,14,16,17],[0,1,2,3,4,5,6,7,8,9,15,14,10,11,12,13,16,17]]
def Fz(k q:Nat):Cd aW:=nq (mt k) f23 2 (wy k) q [Dt k]
def FA(k q:Nat):Cd aW:=nq (mt k) f23 4 (wA k) q []
def JZ(k:Nat):Cl aW:=om (mt k) 23 f23 func23 call23 [.str] [tM,tP] (fun d=>fk k d.1) [Fy k k,Fz k k,FA k k]
end
end Go.Fx.R5
namespace Go.Fx.R5
open Go Go.Fx Go.Proofs Go.Proofs.Tryz
noncomputable section
def fV(fn:Int)(gV:XI)(lh:XB)(adz:Bool):Option (Int×XI×XB×Unit):=
 (lA gV ([fn])).bind fun l=>
 (lA lh ([adz])).bind fun l2=>
 some ((cm ((l.length:Int) - 1)),l,l2,())
def ou:Cl aW:=ml ⟨[],[],[]⟩ 89 f89 func89 call89 [500000] ⟨⟨39,[(116,11)],[lD 116 0 sA,lD 116 1 sS,lD 116 2 sF,lD 116 3 sN,lI 116 4,lF 116 6 I,lF 116 8 tE,lF 116 9 I,lF 116 10 I],[rP 0 116,rD 1 .bool,lF 116 5 I,lF 116 7 .bool],[]⟩,[.ret [rI 500000,lF 116 5 I,lF 116 7 .bool] []],fun c v=>fV c.2.2.2.2.1 v.2.2.1 v.2.2.2.1 v.2.1⟩ []
def eZ(gA:XE)(l6 C9 Ed nK arg:Int):Option (XE×Unit):=
 (lA gA ([(l6,C9,Ed,nK,arg)])).bind fun l=>
 some (l,())
def pv:Cl aW:=ml ⟨[],[],[]⟩ 91 f91 func91 call91 [] ⟨⟨29,[(116,11)],[lD 116 0 sA,lD 116 1 sS,lD 116 2 sF,lD 116 3 sN,lI 116 4,lF 116 5 I,lF 116 6 I,lF 116 7 .bool,lF 116 9 I,lF 116 10 I],[rP 0 116,rI 1,rI 2,rI 3,rI 4,rI 5,lF 116 8 tE],[]⟩,[.ret [lF 116 8 tE] []],fun c v=>eZ v.2.2.2.2.2.2.1 v.2.1 v.2.2.1 v.2.2.2.1 v.2.2.2.2.1 v.2.2.2.2.2.1⟩ []
abbrev rX:=XA→XS→XF→XN→Int→XI→XI→XB→XE→XI→XI→Int→Int→Int→Int→Option (XI×XB×XE×Unit)
def rQ(f:rX):EU:=⟨⟨88,[(116,11)],[lD 116 0 sA,lD 116 1 sS,lD 116 2 sF,lD 116 3 sN,lI 116 4,lF 116 6 I,lF 116 9 I,lF 116 10 I],[rP 0 116,rI 1,rI 2,rI 3,rI 4,lF 116 5 I,lF 116 7 .bool,lF 116 8 tE],[]⟩,[.ret [lF 116 5 I,lF 116 7 .bool,lF 116 8 tE] []],fun c v=>f c.1 c.2.1 c.2.2.1 c.2.2.2.1 c.2.2.2.2.1 v.2.2.2.2.2.1 c.2.2.2.2.2.1 v.2.2.2.2.2.2.1 v.2.2.2.2.2.2.2.1 c.2.2.2.2.2.2.1 c.2.2.2.2.2.2.2.1 v.2.1 v.2.2.1 v.2.2.2.1 v.2.2.2.2.1⟩
def CN(f:rX):iX:=mP (rQ f).L (rQ f).F (BH [] (rQ f).V)
def nD(kb:rX)(k:Nat)(aF:XA)(an:XS)(bh:XF)(km:XN)(fn:Int)(gV iN:XI)(lh:XB)(gA:XE)(lZ to:XI)(i1 l6 yes no:Int):Option (XI×XB×XE×Unit):=
 (bA km i1).bind fun x1=>
 bif x1.1==33 then
  (bA x1.2.2.2.2 0).bind fun x2=>
  (kb aF an bh km fn gV iN lh gA lZ to x2 l6 no yes).bind fun r1=>
  some (r1.1,r1.2.1,r1.2.2.1,())
 else
  bif x1.1==31 then
   (fV fn gV lh false).bind fun r2=>
   (bA x1.2.2.2.2 0).bind fun x3=>
   (kb aF an bh km fn r2.2.1 iN r2.2.2.1 gA lZ to x3 l6 r2.1 no).bind fun r3=>
   (bA x1.2.2.2.2 1).bind fun x4=>
   (kb aF an bh km fn r3.1 iN r3.2.1 r3.2.2.1 lZ to x4 r2.1 yes no).bind fun r4=>
   some (r4.1,r4.2.1,r4.2.2.1,())
  else
   bif x1.1==32 then
    (fV fn gV lh false).bind fun r5=>
    (bA x1.2.2.2.2 0).bind fun x5=>
    (kb aF an bh km fn r5.2.1 iN r5.2.2.1 gA lZ to x5 l6 yes r5.1).bind fun r6=>
    (bA x1.2.2.2.2 1).bind fun x6=>
    (kb aF an bh km fn r6.1 iN r6.2.1 r6.2.2.1 lZ to x6 r5.1 yes no).bind fun r7=>
    some (r7.1,r7.2.1,r7.2.2.1,())
   else
    (eZ gA l6 yes 3 i1 1).bind fun r8=>
    (eZ r8.1 l6 no 3 i1 0).bind fun r9=>
    some (gV,lh,r9.1,())
def jK:Nat→rX
 |0=>fun _ _ _ _ _ _ _ _ _ _ _ _ _ _ _=>none
 |k+1=>nD (jK k) k
section
variable (kb:Gd aW 161 CN)
def LN(k:Nat):Cl aW:=ml ⟨[ou,pv,kb.cl],[],[(10,101)]⟩ 161 f161 func161 call161 [] (rQ (nD kb.1 k)) []
end
theorem A7:∀ k,mb prog gt 161 (CN (jK k))
 |0=>dj (fun _ _=>rfl)
 |k+1=>(LN ⟨_,A7 k⟩ k).ok
def CX(k:Nat):Cl aW:=⟨_,_,A7 k⟩
abbrev jp:=XA→XS→XF→XN→Int→XI→XI→XB→XE→XI→XI→Int→Int→Int→Option (XI×XB×XE×XI×XI×Unit)
def qx(f:jp):EU:=⟨⟨56,[(116,11)],[lD 116 0 sA,lD 116 1 sS,lD 116 2 sF,lD 116 3 sN,lI 116 4,lF 116 6 I],[rP 0 116,rI 1,rI 2,rI 3,lF 116 5 I,lF 116 7 .bool,lF 116 8 tE,lF 116 9 I,lF 116 10 I],[]⟩,[.ret [lF 116 5 I,lF 116 7 .bool,lF 116 8 tE,lF 116 9 I,lF 116 10 I] []],fun c v=>f c.1 c.2.1 c.2.2.1 c.2.2.2.1 c.2.2.2.2.1 v.2.2.2.2.1 c.2.2.2.2.2.1 v.2.2.2.2.2.1 v.2.2.2.2.2.2.1 v.2.2.2.2.2.2.2.1 v.2.2.2.2.2.2.2.2.1 v.2.1 v.2.2.1 v.2.2.2.1⟩
def AQ(f:jp):iX:=mP (qx f).L (qx f).F (BH [] (qx f).V)
abbrev j9:=XA→XS→XF→XN→Int→XI→XI→XB→XE→XI→XI→Int→Int→Int→Option (XI×XB×XE×XI×XI×Unit)
def rR(f:j9):EU:=⟨⟨151,[(116,11)],[lD 116 0 sA,lD 116 1 sS,lD 116 2 sF,lD 116 3 sN,lI 116 4,lF 116 6 I],[rP 0 116,rI 1,rI 2,rI 3,lF 116 5 I,lF 116 7 .bool,lF 116 8 tE,lF 116 9 I,lF 116 10 I],[]⟩,[.ret [lF 116 5 I,lF 116 7 .bool,lF 116 8 tE,lF 116 9 I,lF 116 10 I] []],fun c v=>f c.1 c.2.1 c.2.2.1 c.2.2.2.1 c.2.2.2.2.1 v.2.2.2.2.1 c.2.2.2.2.2.1 v.2.2.2.2.2.1 v.2.2.2.2.2.2.1 v.2.2.2.2.2.2.2.1 v.2.2.2.2.2.2.2.2.1 v.2.1 v.2.2.1 v.2.2.2.1⟩
def CO(f:j9):iX:=mP (rR f).L (rR f).F (BH [] (rR f).V)
abbrev ka:=XA→XS→XF→XN→Int→XI→XI→XB→XE→XI→XI→Int→Int→Int→Option (XI×XB×XE×XI×XI×Unit)
def rS(f:ka):EU:=⟨⟨77,[(116,11)],[lD 116 0 sA,lD 116 1 sS,lD 116 2 sF,lD 116 3 sN,lI 116 4,lF 116 6 I],[rP 0 116,rI 1,rI 2,rI 3,lF 116 5 I,lF 116 7 .bool,lF 116 8 tE,lF 116 9 I,lF 116 10 I],[]⟩,[.ret [lF 116 5 I,lF 116 7 .bool,lF 116 8 tE,lF 116 9 I,lF 116 10 I] []],fun c v=>f c.1 c.2.1 c.2.2.1 c.2.2.2.1 c.2.2.2.2.1 v.2.2.2.2.1 c.2.2.2.2.2.1 v.2.2.2.2.2.1 v.2.2.2.2.2.2.1 v.2.2.2.2.2.2.2.1 v.2.2.2.2.2.2.2.2.1 v.2.1 v.2.2.1 v.2.2.2.1⟩
def CP(f:ka):iX:=mP (rS f).L (rS f).F (BH [] (rS f).V)
def hJ(cj:jp)(dw:j9)(dx:ka)(q:Nat):Nat→XA→XS→XF→XN→Int→XI→Int→XI→XI→XB→XE→XI→XI→Int→Int→Option (XI×XB×XE×XI×XI×Unit)
 |0,_,_,_,_,_,_,_,_,_,_,_,_,_,_,_=>none
 |k+1,eQ,gf,iB,tX,EZ,mB,to4,k1,ko,pN,MB,acv,to3,aeR,j=>
  bif decide (j<(k1.length:Int)) then
   aa (fun(jv:Int×XI×XB)=>
    (bA k1 j).bind fun x4=>
    (dw eQ gf iB tX EZ (jv.2.1) mB (jv.2.2) MB acv to3 x4 aeR (jv.1)).bind fun r3=>
    hJ cj dw dx q k eQ gf iB tX EZ mB to4 k1 r3.1 r3.2.1 r3.2.2.1 r3.2.2.2.1 r3.2.2.2.2.1 (jv.1) (cm (j+1))) fun cq=>
   bif decide ((cm (j+1))<(k1.length:Int)) then
    (fV EZ ko pN false).bind fun r2=>
    cq (r2.1,r2.2.1,r2.2.2.1)
   else
    cq (to4,ko,pN)
  else
   some (ko,pN,MB,acv,to3,())
def oG(cj:jp)(dw:j9)(dx:ka)(k:Nat)(aF:XA)(an:XS)(bh:XF)(km:XN)(fn:Int)(gV iN:XI)(lh:XB)(gA:XE)(lZ to:XI)(i1 l6 C9:Int):Option (XI×XB×XE×XI×XI×Unit):=
 (bA lZ i1).bind fun x1=>
 (bA lZ (i1.toNat:Int)).bind fun x2=>
 (bA km i1).bind fun x3=>
 aa (fun(nt:XE)=>
  (hJ cj dw dx k k aF an bh km fn iN C9 x3.2.2.2.2 gV lh nt (List.set lZ i1.toNat l6) to l6 0).bind fun o=>
  some (o.1,o.2.1,o.2.2.1,o.2.2.2.1,o.2.2.2.2.1,())) fun cq=>
 bif (x3.2.2.2.2.length:Int)==0 then
  (eZ gA l6 C9 1 (-1) 0).bind fun r1=>
  cq r1.1
 else
  cq gA
def fN(cj:jp)(dw:j9)(dx:ka)(k:Nat)(aF:XA)(an:XS)(bh:XF)(km:XN)(fn:Int)(gV iN:XI)(lh:XB)(gA:XE)(lZ to:XI)(i1 l6 C9:Int):Option (XI×XB×XE×XI×XI×Unit):=
 (bA km i1).bind fun x1=>
 (bA lZ i1).bind fun x2=>
 (bA lZ (i1.toNat:Int)).bind fun x3=>
 (bA to i1).bind fun x4=>
 (bA to (i1.toNat:Int)).bind fun x5=>
 bif x1.1==14 then
  (fV fn gV lh false).bind fun r1=>
  aa (fun(jv:Int×XI×XB)=>
   (bA x1.2.2.2.2 0).bind fun x6=>
   (jK k aF an bh km fn (jv.2.1) iN (jv.2.2) gA (List.set lZ i1.toNat l6) (List.set to i1.toNat C9) x6 l6 r1.1 (jv.1)).bind fun r3=>
   (bA x1.2.2.2.2 1).bind fun x7=>
   (cj aF an bh km fn r3.1 iN r3.2.1 r3.2.2.1 (List.set lZ i1.toNat l6) (List.set to i1.toNat C9) x7 r1.1 C9).bind fun r4=>
   aa (fun(jv:XI×XB×XE×XI×XI)=>
    some ((jv.1),(jv.2.1),(jv.2.2.1),(jv.2.2.2.1),(jv.2.2.2.2),())) fun ir=>
   bif decide ((x1.2.2.2.2.length:Int) > 2) then
    (bA x1.2.2.2.2 2).bind fun x8=>
    (cj aF an bh km fn r4.1 iN r4.2.1 r4.2.2.1 r4.2.2.2.1 r4.2.2.2.2.1 x8 (jv.1) C9).bind fun r5=>
    ir (r5.1,r5.2.1,r5.2.2.1,r5.2.2.2.1,r5.2.2.2.2.1)
   else
    ir (r4.1,r4.2.1,r4.2.2.1,r4.2.2.2.1,r4.2.2.2.2.1)) fun cq=>
  bif decide ((x1.2.2.2.2.length:Int) > 2) then
   (fV fn r1.2.1 r1.2.2.1 false).bind fun r2=>
   cq (r2.1,r2.2.1,r2.2.2.1)
  else
   cq (C9,r1.2.1,r1.2.2.1)
 else
  aa (fun(v:Bool)=>
   bif v then
    (dx aF an bh km fn gV iN lh gA (List.set lZ i1.toNat l6) (List.set to i1.toNat C9) i1 l6 C9).bind fun r6=>
    some (r6.1,r6.2.1,r6.2.2.1,r6.2.2.2.1,r6.2.2.2.2.1,())
   else
    bif x1.1==19 then
     (fV fn gV lh false).bind fun r7=>
     (bA x1.2.2.2.2 0).bind fun x9=>
     (jK k aF an bh km fn r7.2.1 iN r7.2.2.1 gA (List.set lZ i1.toNat l6) (List.set to i1.toNat C9) x9 l6 C9 r7.1).bind fun r8=>
     (eZ r8.2.2.1 r7.1 r7.1 4 i1 0).bind fun r9=>
     some (r8.1,r8.2.1,r9.1,List.set lZ i1.toNat l6,List.set to i1.toNat C9,())
    else
     bif x1.1==21 then
      (eZ gA l6 l6 6 i1 0).bind fun mw=>
      some (gV,lh,mw.1,List.set lZ i1.toNat l6,List.set to i1.toNat C9,())
     else
      bif x1.1==20 then
       (eZ gA l6 l6 7 i1 0).bind fun po=>
       some (gV,lh,po.1,List.set lZ i1.toNat l6,List.set to i1.toNat C9,())
      else
       bif x1.1==22 then
        (bA x1.2.2.2.2 0).bind fun x10=>
        (bA km x10).bind fun x11=>
        (kc k (aF,an,bh) x11.2.2.2.1).bind fun qY=>
        (eZ gA l6 C9 5 i1 qY.1).bind fun sM=>
        some (gV,lh,sM.1,List.set lZ i1.toNat l6,List.set to i1.toNat C9,())
       else
        (eZ gA l6 C9 2 i1 0).bind fun sW=>
        some (gV,lh,sW.1,List.set lZ i1.toNat l6,List.set to i1.toNat C9,())) fun uf=>
  bif x1.1==15 then
   uf true
  else
   uf (x1.1==16)
def pB(cj:jp)(dw:j9)(dx:ka)(k:Nat)(aF:XA)(an:XS)(bh:XF)(km:XN)(fn:Int)(gV iN:XI)(lh:XB)(gA:XE)(lZ to:XI)(i1 l6 C9:Int):Option (XI×XB×XE×XI×XI×Unit):=
 (bA km i1).bind fun x1=>
 (fV fn gV lh true).bind fun r1=>
 (fV fn r1.2.1 r1.2.2.1 false).bind fun r2=>
 bif x1.1==15 then
  (eZ gA l6 r1.1 1 (-1) 0).bind fun r3=>
  (bA x1.2.2.2.2 0).bind fun x2=>
  (jK k aF an bh km fn r2.2.1 iN r2.2.2.1 r3.1 lZ to x2 r1.1 r2.1 C9).bind fun r4=>
  (bA x1.2.2.2.2 1).bind fun x3=>
  (cj aF an bh km fn r4.1 iN r4.2.1 r4.2.2.1 lZ to x3 r2.1 r1.1).bind fun r5=>
  some (r5.1,r5.2.1,r5.2.2.1,r5.2.2.2.1,r5.2.2.2.2.1,())
 else
  (eZ gA l6 r1.1 8 i1 0).bind fun r6=>
  (eZ r6.1 r1.1 r2.1 9 i1 1).bind fun r7=>
  (eZ r7.1 r1.1 C9 9 i1 0).bind fun r8=>
  (fV fn r2.2.1 r2.2.2.1 false).bind fun r9=>
  (bA x1.2.2.2.2 2).bind fun x4=>
  (cj aF an bh km fn r9.2.1 iN r9.2.2.1 r8.1 lZ to x4 r2.1 r9.1).bind fun mw=>
  (eZ mw.2.2.1 r9.1 r1.1 10 i1 0).bind fun po=>
  some (mw.1,mw.2.1,po.1,mw.2.2.2.1,mw.2.2.2.2.1,())
def ep:Nat→jp×j9×ka
 |0=>(fun _ _ _ _ _ _ _ _ _ _ _ _ _ _=>none,fun _ _ _ _ _ _ _ _ _ _ _ _ _ _=>none,fun _ _ _ _ _ _ _ _ _ _ _ _ _ _=>none)
 |k+1=>(oG (ep k).1 (ep k).2.1 (ep k).2.2 k,fN (ep k).1 (ep k).2.1 (ep k).2.2 k,pB (ep k).1 (ep k).2.1 (ep k).2.2 k)
def iW(k:Nat):jp:=(ep k).1
def jL(k:Nat):j9:=(ep k).2.1
def mr(k:Nat):ka:=(ep k).2.2
section
variable (cj:Gd aW 90 AQ) (dw:Gd aW 135 CO) (dx:Gd aW 162 CP)
def wE(k:Nat):lq:=⟨⟨56,[(116,11)],[lD 116 0 sA,lD 116 1 sS,lD 116 2 sF,lD 116 3 sN,lI 116 4,lF 116 6 I,rP 0 116,rI 3,rD 8 sI],[lF 116 5 I,lF 116 7 .bool,lF 116 8 tE,lF 116 9 I,lF 116 10 I,rI 2,rI 9],[]⟩,[.ex (.exit 0) [lF 116 5 I,lF 116 7 .bool,lF 116 8 tE,lF 116 9 I,lF 116 10 I]],fun q c v=>hJ cj.1 dw.1 dx.1 k q c.1 c.2.1 c.2.2.1 c.2.2.2.1 c.2.2.2.2.1 c.2.2.2.2.2.1 c.2.2.2.2.2.2.2.1 c.2.2.2.2.2.2.2.2.1 v.1 v.2.1 v.2.2.1 v.2.2.2.1 v.2.2.2.2.1 v.2.2.2.2.2.1 v.2.2.2.2.2.2.1⟩
def AJ(k:Nat):Ev aW:=⟨[ou,pv,dw.cl],[lp 0 (wE cj dw dx k) k],[]⟩
def FE(k q:Nat):Cd aW:=nq (AJ cj dw dx k) f90 0 (wE cj dw dx k) q []
def Kf(k:Nat):Cl aW:=ml (AJ cj dw dx k) 90 f90 func90 call90 [] (qx (oG cj.1 dw.1 dx.1 k)) [FE cj dw dx k k]
def LP(k:Nat):Cl aW:=ml ⟨[z8 k,ou,cj.cl,pv,CX k,dx.cl],[],[(8,101)]⟩ 135 f135 func135 call135 [] (rR (fN cj.1 dw.1 dx.1 k)) []
def LQ(k:Nat):Cl aW:=ml ⟨[ou,cj.cl,pv,CX k],[],[(8,101)]⟩ 162 f162 func162 call162 [] (rS (pB cj.1 dw.1 dx.1 k)) []
end
theorem nh:∀ k,mb prog gt 90 (AQ (iW k))∧mb prog gt 135 (CO (jL k))∧mb prog gt 162 (CP (mr k))
 |0=>⟨dj (fun _ _=>rfl),dj (fun _ _=>rfl),dj (fun _ _=>rfl)⟩
 |k+1=>have ih:=nh k;⟨(Kf ⟨_,ih.1⟩ ⟨_,ih.2.1⟩ ⟨_,ih.2.2⟩ k).ok,(LP ⟨_,ih.1⟩ ⟨_,ih.2.1⟩ ⟨_,ih.2.2⟩ k).ok,(LQ ⟨_,ih.1⟩ ⟨_,ih.2.1⟩ ⟨_,ih.2.2⟩ k).ok⟩
def J1(k:Nat):Cl aW:=⟨_,_,(nh k).1⟩
def Yr(k:Nat):Cl aW:=⟨_,_,(nh k).2.1⟩
def Ys(k:Nat):Cl aW:=⟨_,_,(nh k).2.2⟩
def n9(q:Nat):Nat→XN→XI→XI→Int→Option (XI×XI×Unit)
 |0,_,_,_,_=>none
 |k+1,ac4,lZ,to,i1=>
  bif decide (i1<(ac4.length:Int)) then
   (lA lZ ([(-1)])).bind fun l=>
   (lA to ([(-1)])).bind fun l2=>
   n9 q k ac4 l l2 (cm (i1+1))
  else
   some (lZ,to,())
def oa(q:Nat):Nat→XF→XA→XS→XF→XN→Int→XI→XI→XB→XE→XI→XI→Int→Option (Int×XI×XI×XB×XE×XI×XI×Unit)
 |0,_,_,_,_,_,_,_,_,_,_,_,_,_=>none
 |k+1,w3,aF,an,bh,tX,fn,gV,iN,lh,gA,lZ,to,i1=>
  bif decide (i1<(w3.length:Int)) then
   (fV i1 gV lh false).bind fun r1=>
   (fV i1 r1.2.1 r1.2.2.1 false).bind fun r2=>
   (lA iN ([r1.1])).bind fun l=>
   (bA w3 i1).bind fun x1=>
   (iW q aF an bh tX i1 r2.2.1 l r2.2.2.1 gA lZ to x1.2.2.2.2 r1.1 r2.1).bind fun r3=>
   (eZ r3.2.2.1 r2.1 r2.1 6 (-1) 0).bind fun r4=>
   oa q k w3 aF an bh tX i1 r3.1 l r3.2.1 r4.1 r3.2.2.2.1 r3.2.2.2.2.1 (cm (i1+1))
  else
   some (fn,gV,iN,lh,gA,lZ,to,())
def HM(k:Nat)(t:XA×XS×XF)(km:XN):Option (XA×XS×XF×XN×Int×XI×XI×XB×XE×XI×XI×Unit):=
 (n9 k k km [] [] 0).bind fun o=>
 (oa k k t.2.2 t.1 t.2.1 t.2.2 km 0 [] [] [] [] o.1 o.2.1 0).bind fun o2=>
 some (t.1,t.2.1,t.2.2,km,o2.1,o2.2.1,o2.2.2.1,o2.2.2.2.1,o2.2.2.2.2.1,o2.2.2.2.2.2.1,o2.2.2.2.2.2.2.1,())
def C3(k:Nat):lq:=⟨⟨80,[(41,3),(116,11)],[lD 41 0 sA,lD 41 1 sS,lD 41 2 sF,lD 116 0 sA,lD 116 1 sS,lD 116 2 sF,lD 116 3 sN,lI 116 4,lN 116 5,lN 116 6,lN 116 7,lN 116 8,rD 1 sN,rP 2 41,rP 5 116],[lF 116 9 I,lF 116 10 I,rI 6],[]⟩,[.ex (.exit 0) [lF 116 9 I,lF 116 10 I]],fun q c v=>n9 k q c.2.2.2.2.2.2.2.2.2.2.2.2.1 v.1 v.2.1 v.2.2.1⟩
def C4(k:Nat):lq:=⟨⟨80,[(41,3),(116,11)],[lD 41 0 sA,lD 41 1 sS,lD 41 2 sF,lD 116 0 sA,lD 116 1 sS,lD 116 2 sF,lD 116 3 sN,rP 2 41,rP 5 116],[lI 116 4,lF 116 5 I,lF 116 6 I,lF 116 7 .bool,lF 116 8 tE,lF 116 9 I,lF 116 10 I,rI 7],[]⟩,[.ex (.exit 2) [lI 116 4,lF 116 5 I,lF 116 6 I,lF 116 7 .bool,lF 116 8 tE,lF 116 9 I,lF 116 10 I]],fun q c v=>oa k q c.2.2.1 c.2.2.2.1 c.2.2.2.2.1 c.2.2.2.2.2.1 c.2.2.2.2.2.2.1 v.1 v.2.1 v.2.2.1 v.2.2.2.1 v.2.2.2.2.1 v.2.2.2.2.2.1 v.2.2.2.2.2.2.1 v.2.2.2.2.2.2.2.1⟩
def BQ(k:Nat):Ev aW:=⟨[ou,J1 k,pv],[lp 0 (C3 k) k,lp 2 (C4 k) k],[(2,41),(13,116)]⟩
def Lk(k q:Nat):Cd aW:=nq (BQ k) f52 0 (C3 k) q []
def Ll(k q:Nat):Cd aW:=nq (BQ k) f52 2 (C4 k) q []
def Rp(k:Nat):Cl aW:=ml (BQ k) 52 f52 func52 call52 [500000] ⟨⟨80,[],[],[rD 0 tM,rD 1 sN],[]⟩,[.ret [rP 500000 116,lD 116 0 sA,lD 116 1 sS,lD 116 2 sF,lD 116 3 sN,lI 116 4,lF 116 5 I,lF 116 6 I,lF 116 7 .bool,lF 116 8 tE,lF 116 9 I,lF 116 10 I] [(116,11,116)]],fun c v=>HM k v.1 v.2.1⟩ [Lk k k,Ll k k]
def HN(k:Nat)(t:XA×XS×XF)(km:XN):Option ((XI×XI×XB×XE)×Unit):=
 (HM k t km).bind fun r1=>
 some ((r1.2.2.2.2.2.1,r1.2.2.2.2.2.2.1,r1.2.2.2.2.2.2.2.1,r1.2.2.2.2.2.2.2.2.1),())
def Rq(k:Nat):Cl aW:=om ⟨[Rp k],[],[(2,41),(4,46)]⟩ 25 f25 func25 call25 [tM,sN] [(.aO sI (.aO sI (.aO sB sE)))] (fun d=>HN k d.1 d.2.1) []
def gG(q:Nat):Nat→XI→XE→Int→XB→Int→Option (XB×Unit)
 |0,_,_,_,_,_=>none
 |k+1,w5,w8,fn3,vX,i1=>
  bif decide (i1<(w8.length:Int)) then
   aa (fun(agZ:XB)=>
    gG q k w5 w8 fn3 agZ (cm (i1+1))) fun uf=>
   (bA w8 i1).bind fun x1=>
   aa (fun(v2:Bool)=>
    bif v2 then
     (bA vX x1.2.2.2.2).bind fun x6=>
     (bA vX (x1.2.2.2.2.toNat:Int)).bind fun x7=>
     uf (List.set vX x1.2.2.2.2.toNat true)
    else
     uf vX) fun ir=>
   bif x1.2.2.1==5 then
    (bA w5 x1.1).bind fun x2=>
    aa (fun(v:Bool)=>
     ir v) fun cq=>
    bif x2==fn3 then
     cq true
    else
     (bA w5 x1.1).bind fun x3=>
     (bA vX x3).bind fun x4=>
     (bA vX (x3.toNat:Int)).bind fun x5=>
     cq x5
   else
    ir false
  else
   some (vX,())
def lV(q:Nat):Nat→XI→XI→XE→Int→XB→Int→Option (XB×Unit)
 |0,_,_,_,_,_,_=>none
 |k+1,w,w2,w4,EZ,out,n=>
  bif decide (n<(w2.length:Int)) then
   (gG q q w w4 EZ out 0).bind fun o=>
   lV q k w w2 w4 EZ o.1 (cm (n+1))
  else
   some (out,())
def xl(k:Nat)(f:XI×XI×XB×XE)(fn:Int):Option (XB×Unit):=
 (mkl (f.2.1.length:Int) (false:Bool)).bind fun z=>
 (sub z 0 (f.2.1.length:Int)).bind fun l=>
 (lV k k f.1 f.2.1 f.2.2.2 fn l 0).bind fun o=>
 some (o.1,())
def zL(k:Nat):lq:=⟨⟨61,[(46,4)],[lD 46 0 sI,lD 46 1 sI,lD 46 2 sB,lD 46 3 sE,rI 1,rP 2 46,rI 6],[(.r 5,.h .dB .bool),rI 7],[]⟩,[.ex (.exit 2) [(.r 5,.h .dB .bool)]],fun q c v=>gG k q c.1 c.2.2.2.1 c.2.2.2.2.1 v.1 v.2.1⟩
def zK(k:Nat):lq:=⟨⟨61,[(46,4)],[lD 46 0 sI,lD 46 1 sI,lD 46 2 sB,lD 46 3 sE,rI 1,rP 2 46],[(.r 5,.h .dB .bool),rI 6],[]⟩,[.ex (.exit 0) [(.r 5,.h .dB .bool)]],fun q c v=>lV k q c.1 c.2.1 c.2.2.2.1 c.2.2.2.2.1 v.1 v.2.1⟩
def xG(k:Nat):Ev aW:=⟨[],[lp 2 (zL k) k,lp 0 (zK k) k],[(2,46)]⟩
def Id(k q:Nat):Cd aW:=nq (xG k) f53 2 (zL k) q []
def Ic(k q:Nat):Cd aW:=nq (xG k) f53 0 (zK k) q [Id k k]
def M7(k:Nat):Cl aW:=om (xG k) 53 f53 func53 call53 [(.aO sI (.aO sI (.aO sB sE))),I] [sB] (fun d=>xl k d.1 d.2.1) [Ic k k]
def mW(q:Nat):Nat→XB→XB→Int→Option (XB×Unit)
 |0,_,_,_=>none
 |k+1,r2,vX,k1=>
  bif decide (k1<(r2.length:Int)) then
   (bA vX k1).bind fun x4=>
   (bA vX (k1.toNat:Int)).bind fun x5=>
   aa (fun(v:Bool)=>
    (bA vX k1).bind fun x7=>
    (bA vX (k1.toNat:Int)).bind fun x8=>
    mW q k r2 (List.set vX k1.toNat v) (cm (k1+1))) fun cq=>
   bif x5 then
    cq true
   else
    (bA r2 k1).bind fun x6=>
    cq x6
  else
   some (vX,())
def iV(q:Nat):Nat→XI→XI→XB→XE→XB→Int→Option (XB×Unit)
 |0,_,_,_,_,_,_=>none
 |k+1,w,w2,w3,w4,out,i1=>
  bif decide (i1<(w2.length:Int)) then
   aa (fun(vX:XB)=>
    iV q k w w2 w3 w4 vX (cm (i1+1))) fun cq=>
   (xl q (w,w2,w3,w4) i1).bind fun r1=>
   (bA r1.1 i1).bind fun x1=>
   bif !x1 then
    cq out
   else
    (bA out i1).bind fun x2=>
    (bA out (i1.toNat:Int)).bind fun x3=>
    (mW q q r1.1 (List.set out i1.toNat true) 0).bind fun o=>
    cq o.1
  else
   some (out,())
def EP(k:Nat)(f:XI×XI×XB×XE):Option (XB×Unit):=
 (mkl (f.2.1.length:Int) (false:Bool)).bind fun z=>
 (sub z 0 (f.2.1.length:Int)).bind fun l=>
 (iV k k f.1 f.2.1 f.2.2.1 f.2.2.2 l 0).bind fun o=>
 some (o.1,())
def Br(k:Nat):lq:=⟨⟨49,[(46,4)],[lD 46 0 sI,lD 46 1 sI,lD 46 2 sB,lD 46 3 sE,rP 1 46,rI 4,rD 5 sB],[(.r 3,.h .dB .bool),rI 6],[]⟩,[.ex (.exit 2) [(.r 3,.h .dB .bool)]],fun q c v=>mW k q c.2.2.2.2.2.2.1 v.1 v.2.1⟩
def Bq(k:Nat):lq:=⟨⟨49,[(46,4)],[lD 46 0 sI,lD 46 1 sI,lD 46 2 sB,lD 46 3 sE,rP 1 46],[(.r 3,.h .dB .bool),rI 4],[]⟩,[.ex (.exit 0) [(.r 3,.h .dB .bool)]],fun q c v=>iV k q c.1 c.2.1 c.2.2.1 c.2.2.2.1 v.1 v.2.1⟩
def zY(k:Nat):Ev aW:=⟨[M7 k],[lp 2 (Br k) k,lp 0 (Bq k) k],[(1,46)]⟩
def JM(k q:Nat):Cd aW:=nq (zY k) f26 2 (Br k) q []
def JL(k q:Nat):Cd aW:=nq (zY k) f26 0 (Bq k) q [JM k k]
def Pc(k:Nat):Cl aW:=om (zY k) 26 f26 func26 call26 [(.aO sI (.aO sI (.aO sB sE)))] [sB] (fun d=>EP k d.1) [JL k k]
def qL(k:Nat)(bV:ak):Option (((XA×XS×XF×XN×XI×XI×XB×XE×XB×Bool×Unit)⊕(XA×XS×XF×XN×XI×XI×XB×XE×XB×Bool×Unit))):=
 (fk k bV).bind fun r1=>
 bif r1.2.1.1 != 0 then
  some (.inr ([],[],[],[],[],[],[],[],[],false,()))
 else
  (gF k bV).bind fun r2=>
  (HN k r1.1 r2.1).bind fun r3=>
  (EP k r3.1).bind fun r4=>
  some (.inl (r1.1.1,r1.1.2.1,r1.1.2.2,r2.1,r3.1.1,r3.1.2.1,r3.1.2.2.1,r3.1.2.2.2,r4.1,true,()))
def M0(k:Nat):Cl aW:=ml ⟨[JZ k,AY k,Rq k,Pc k],[],[(4,41),(5,52),(18,48)]⟩ 9 f9 func9 call9 [500000,500001] ⟨⟨40,[],[],[rD 0 .str],[]⟩,[.ret [rP 500000 10030,lD 10030 0 sA,lD 10030 1 sS,lD 10030 2 sF,lD 10030 3 sN,lD 10030 4 sI,lD 10030 5 sI,lD 10030 6 sB,lD 10030 7 sE,lD 10030 8 sB,rD 500001 .bool] [(10030,9,48)],.ret [rP 500000 48,lD 48 0 sA,lD 48 1 sS,lD 48 2 sF,lD 48 3 sN,lD 48 4 sI,lD 48 5 sI,lD 48 6 sB,lD 48 7 sE,lD 48 8 sB,rD 500001 .bool] [(48,9,48)]],fun c v=>qL k v.1⟩ []
def EM:Option ((Int×Int×Int×Int)×Unit):=
 some (((-2147483648),2147483647,1,0),())
def O9:Cl aW:=om ⟨[],[],[(0,77)]⟩ 54 f54 func54 call54 [] [tQ] (fun d=>EM) []
def lK(q:Nat):Nat→Int→XQ→Int→Option (XQ×Unit)
 |0,_,_,_=>none
 |k+1,n2,out,i1=>
  bif decide (i1<n2) then
   (EM).bind fun r1=>
   (lA out ([r1.1])).bind fun l=>
   lK q k n2 l (cm (i1+1))
  else
   some (out,())
def tU(k:Nat)(n:Int):Option (XQ×Unit):=
 (lK k k n [] 0).bind fun o=>
 some (o.1,())
def zG(k:Nat):lq:=⟨⟨16,[],[rI 0],[(.r 3,.h .dB tQ),rI 4],[]⟩,[.ex (.exit 0) [(.r 3,.h .dB tQ)]],fun q c v=>lK k q c.1 v.1 v.2.1⟩
def Dx(k:Nat):Ev aW:=⟨[O9],[lp 0 (zG k) k],[]⟩
def H8(k q:Nat):Cd aW:=nq (Dx k) f27 0 (zG k) q []
def M1(k:Nat):Cl aW:=om (Dx k) 27 f27 func27 call27 [I] [sQ] (fun d=>tU k d.1) [H8 k k]
end
end Go.Fx.R5
namespace Go.Fx.R5
open Go Go.Fx Go.Proofs Go.Proofs.Tryz
noncomputable section
def wa(q:Nat):Nat→Int→Int→XI→Int→Option (XI×Unit)
 |0,_,_,_,_=>none
 |k+1,n3,i2,w6,j=>
  bif decide (j≤n3) then
   aa (fun(d:Int)=>
    (lA w6 ([d])).bind fun l=>
    wa q k n3 i2 l (cm (j+1))) fun cq=>
   bif i2==j then
    cq 0
   else
    cq 1099511627776
  else
   some (w6,())
def vZ(q:Nat):Nat→Int→XI→Int→Option (XI×Unit)
 |0,_,_,_=>none
 |k+1,n2,w3,i1=>
  bif decide (i1≤n2) then
   (wa q q n2 i1 w3 0).bind fun o=>
   vZ q k n2 o.1 (cm (i1+1))
  else
   some (w3,())
def xi(k:Nat)(n:Int):Option ((Int×XI)×Unit):=
 (my n 0 12).bind fun r1=>
 bif !r1.1 then
  some ((0,[]),())
 else
  (vZ k k n [] 0).bind fun o=>
  some ((n,o.1),())
def zF(k:Nat):lq:=⟨⟨33,[(26,2),(10003,2)],[lI 26 0,lN 26 1,lI 10003 0,rI 0,rP 2 26,rP 3 10003,rI 4],[lF 10003 1 I,rI 5],[]⟩,[.ex (.exit 2) [lF 10003 1 I]],fun q c v=>wa k q c.2.2.2.1 c.2.2.2.2.2.2.1 v.1 v.2.1⟩
def zE(k:Nat):lq:=⟨⟨33,[(26,2),(10003,2)],[lI 26 0,lN 26 1,lI 10003 0,rI 0,rP 2 26,rP 3 10003],[lF 10003 1 I,rI 4],[]⟩,[.ex (.exit 0) [lF 10003 1 I]],fun q c v=>vZ k q c.2.2.2.1 v.1 v.2.1⟩
def xE(k:Nat):Ev aW:=⟨[su],[lp 2 (zF k) k,lp 0 (zE k) k],[(2,26)]⟩
def H7(k q:Nat):Cd aW:=nq (xE k) f28 2 (zF k) q []
def H6(k q:Nat):Cd aW:=nq (xE k) f28 0 (zE k) q [H7 k k]
def MY(k:Nat):Cl aW:=om (xE k) 28 f28 func28 call28 [I] [(.aO I sI)] (fun d=>xi k d.1) [H6 k k]
def pj:Option ((Int×Int×Int×Int)×Unit):=
 some ((1,0,0,0),())
def DN:Cl aW:=om ⟨[],[],[(0,77)]⟩ 29 f29 func29 call29 [] [tQ] (fun d=>pj) []
def qp(a b:Int):Option (Int×Unit):=
 bif decide (a > b) then
  some (a,())
 else
  some (b,())
def IB:Cl aW:=om ⟨[],[],[]⟩ 30 f30 func30 call30 [I,I] [I] (fun d=>qp d.1 d.2.1) []
def vG:Option ((Int×Int)×Unit):=
 some ((1,0),())
def Aa:Cl aW:=om ⟨[],[],[(0,122)]⟩ 94 f94 func94 call94 [] [tP] (fun d=>vG) []
def yX(v:Int):Option (Bool×Unit):=
 (my v (-2147483648) 2147483647).bind fun r1=>
 some (r1.1,())
def Iz:Cl aW:=om ⟨[su],[],[]⟩ 136 f136 func136 call136 [I] [.bool] (fun d=>yX d.1) []
def xj(a:Int×Int):Option (Bool×Unit):=
 (vG).bind fun r1=>
 aa (fun(v3:Bool)=>
  some (v3,())) fun uf=>
 bif ((a.1==r1.1.1)&&(a.2==r1.1.2)) then
  uf true
 else
  (yX a.1).bind fun r2=>
  aa (fun(v:Bool)=>
   aa (fun(v2:Bool)=>
    uf v2) fun ir=>
   bif v then
    ir (decide (a.1≤a.2))
   else
    ir false) fun cq=>
  bif r2.1 then
   (yX a.2).bind fun r3=>
   cq r3.1
  else
   cq false
def DM:Cl aW:=om ⟨[Aa,Iz],[],[(1,122)]⟩ 92 f92 func92 call92 [tP] [.bool] (fun d=>xj d.1) []
def EL(a:Int×Int):Option (Bool×Unit):=
 bif a.1==0 then
  (yX a.2).bind fun r1=>
  some (r1.1,())
 else
  (my a.1 1 65536).bind fun r2=>
  aa (fun(v:Bool)=>
   some (v,())) fun cq=>
  bif r2.1 then
   (my a.2 0 (cm (a.1 - 1))).bind fun r3=>
   cq r3.1
  else
   cq false
def O6:Cl aW:=om ⟨[su,Iz],[],[(1,125)]⟩ 93 f93 func93 call93 [tP] [.bool] (fun d=>EL d.1) []
def Gp(a:Int×Int)(v:Int):Option (Bool×Unit):=
 (xj a).bind fun r1=>
 aa (fun(v2:Bool)=>
  some (v2,())) fun cq=>
 bif r1.1 then
  (my v a.1 a.2).bind fun r2=>
  cq r2.1
 else
  cq false
def LA:Cl aW:=om ⟨[su,DM],[],[(2,122)]⟩ 95 f95 func95 call95 [tP,I] [.bool] (fun d=>Gp d.1 d.2.1) []
def EO(v:Int):Option ((Int×Int×Int×Int)×Unit):=
 some ((v,v,0,v),())
def Pa:Cl aW:=om ⟨[],[],[(2,77)]⟩ 96 f96 func96 call96 [I] [tQ] (fun d=>EO d.1) []
def Cq(a m:Int):Option (Int×Unit):=
 bif decide (m=0) then
  none
 else
  bif decide ((a.tmod m)<0) then
   some ((cm ((a.tmod m)+m)),())
  else
   some ((a.tmod m),())
def Rj:Cl aW:=om ⟨[],[],[]⟩ 97 f97 func97 call97 [I,I] [I] (fun d=>Cq d.1 d.2.1) []
def Co(a b:Int×Int):Option ((Int×Int×Int×Int)×Unit):=
 (xj a).bind fun r1=>
 aa (fun(v:Bool)=>
  aa (fun(v2:Bool)=>
   bif v2 then
    (pj).bind fun r4=>
    some (r4.1,())
   else
    bif b.1==0 then
     (Gp a b.2).bind fun r5=>
     bif r5.1 then
      (EO b.2).bind fun r6=>
      some (r6.1,())
     else
      (pj).bind fun r7=>
      some (r7.1,())
    else
     (Cq (cm (b.2 - a.1)) b.1).bind fun r8=>
     (Cq (cm (a.2 - b.2)) b.1).bind fun r9=>
     bif decide ((cm (a.1+r8.1)) > (cm (a.2 - r9.1))) then
      (pj).bind fun mw=>
      some (mw.1,())
     else
      bif (cm (a.1+r8.1))==(cm (a.2 - r9.1)) then
       (EO (cm (a.1+r8.1))).bind fun po=>
       some (po.1,())
      else
       some (((cm (a.1+r8.1)),(cm (a.2 - r9.1)),b),())) fun ir=>
  bif v then
   ir true
  else
   (vG).bind fun r3=>
   ir ((a.1==r3.1.1)&&(a.2==r3.1.2))) fun cq=>
 bif !r1.1 then
  cq true
 else
  (EL b).bind fun r2=>
  cq (!r2.1)
def MZ:Cl aW:=om ⟨[DN,DM,O6,Aa,LA,Pa,Rj],[],[(2,122),(3,125),(4,77)]⟩ 55 f55 func55 call55 [tP,tP] [tQ] (fun d=>Co d.1 d.2.1) []
def HP(a b:Int):Option (Int×Unit):=
 bif decide (a<b) then
  some (a,())
 else
  some (b,())
def Rt:Cl aW:=om ⟨[],[],[]⟩ 98 f98 func98 call98 [I,I] [I] (fun d=>HP d.1 d.2.1) []
def HO(lo hi:Int):Option ((Int×Int)×Unit):=
 (qp lo (-2147483648)).bind fun r1=>
 (HP hi 2147483647).bind fun r2=>
 bif decide (r1.1 > r2.1) then
  (vG).bind fun r3=>
  some (r3.1,())
 else
  some ((r1.1,r2.1),())
def Rr:Cl aW:=om ⟨[IB,Aa,Rt],[],[(4,122)]⟩ 56 f56 func56 call56 [I,I] [tP] (fun d=>HO d.1 d.2.1) []
def HQ:Option ((Int×Int)×Unit):=
 some ((1,0),())
def Ru:Cl aW:=om ⟨[],[],[(0,125)]⟩ 57 f57 func57 call57 [] [tP] (fun d=>HQ) []
def Cp(n:Int):Option ((Int×Int×Int×Int)×Unit):=
 (HO 0 n).bind fun r1=>
 (HQ).bind fun r2=>
 (Co r1.1 r2.1).bind fun r3=>
 some (r3.1,())
def Ri:Cl aW:=om ⟨[MZ,Rr,Ru],[],[(2,77)]⟩ 31 f31 func31 call31 [I] [tQ] (fun d=>Cp d.1) []
def uM(q:Nat)(eQ:XA)(n:Int):Option (Bool×XQ×XQ×Int×XI×Unit):=
 (tU q n).bind fun r1=>
 (tU q (eQ.length:Int)).bind fun r2=>
 (xi q n).bind fun r3=>
 some (true,r1.1,r2.1,r3.1.1,r3.1.2,())
def jB(q:Nat):Nat→XA→XI→Int→Int→Option (XI×Int×Unit)
 |0,_,_,_,_=>none
 |k+1,Ra,w18,size,k1=>
  bif decide (k1<(Ra.length:Int)) then
   (lA w18 ([k1])).bind fun l=>
   (bA Ra k1).bind fun x3=>
   (qp size x3.2).bind fun r2=>
   jB q k Ra l r2.1 (cm (k1+1))
  else
   some (w18,size,())
def jA(q:Nat):Nat→XA→XF→Int→List (Bool×XI×Int×Int×Int×Int)→Int→Option (List (Bool×XI×Int×Int×Int×Int)×Unit)
 |0,_,_,_,_,_=>none
 |k+1,eQ,iB,EZ,w5,i1=>
  (bA iB EZ).bind fun x2=>
  bif decide (i1<(x2.2.2.2.1.length:Int)) then
   (pj).bind fun r1=>
   (jB q q eQ [] 0 0).bind fun o2=>
   aa (fun(jv:Int×Int×Int×Int)=>
    (lA w5 ([(true,o2.1,(jv.1),(jv.2.1),(jv.2.2.1),(jv.2.2.2))])).bind fun l=>
    jA q k eQ iB EZ l (cm (i1+1))) fun cq=>
   bif decide (o2.2.1 > 0) then
    (Cp o2.2.1).bind fun r2=>
    cq (r2.1.1,r2.1.2.1,r2.1.2.2.1,r2.1.2.2.2)
   else
    cq (r1.1.1,r1.1.2.1,r1.1.2.2.1,r1.1.2.2.2)
  else
   some (w5,())
def uW(k:Nat)(aF:XA)(an:XS)(bh:XF)(fn:Int):Option ((Bool×XQ×List (Bool×XI×Int×Int×Int×Int)×XQ×Int×XI)×Unit):=
 (bA bh fn).bind fun x1=>
 (uM k aF (cm ((an.length:Int)+(x1.2.2.1.length:Int)))).bind fun o=>
 (jA k k aF bh fn [] 0).bind fun o2=>
 some ((o.1,o.2.1,o2.1,o.2.2.1,o.2.2.2.1,o.2.2.2.2.1),())
def yA(k:Nat):lq:=⟨⟨95,[(48,9),(28,6)],[lD 48 0 sA,lD 48 1 sS,lD 48 2 sF,lD 48 3 sN,lD 48 4 sI,lD 48 5 sI,lD 48 6 sB,lD 48 7 sE,lD 48 8 sB,lD 28 0 .bool,lN 28 1,lN 28 2,lN 28 3,lI 28 4,lN 28 5,rP 0 48,rI 1,rP 4 28,rI 5],[],[]⟩,[.ex .normal [rP 6 10006,lD 10006 0 .bool,lD 10006 1 sQ,lN 10006 2,lD 10006 3 sQ,lI 10006 4,lD 10006 5 sI]],fun q c v=>uM k c.1 c.2.2.2.2.2.2.2.2.2.2.2.2.2.2.2.2.2.2.1⟩
def yz(k:Nat):lq:=⟨⟨95,[(48,9),(28,6),(10006,6),(10008,6)],[lD 48 0 sA,lD 48 1 sS,lD 48 2 sF,lD 48 3 sN,lD 48 4 sI,lD 48 5 sI,lD 48 6 sB,lD 48 7 sE,lD 48 8 sB,lD 28 0 .bool,lN 28 1,lN 28 2,lN 28 3,lI 28 4,lN 28 5,lD 10006 0 .bool,lD 10006 1 sQ,lF 10006 2 (.aO .bool (.aO sI tQ)),lD 10006 3 sQ,lI 10006 4,lD 10006 5 sI,lD 10008 0 .bool,lI 10008 2,lI 10008 3,lI 10008 4,lI 10008 5,rP 0 48,rI 1,rP 4 28,rP 6 10006,rI 7,rP 8 10008],[lF 10008 1 I,rI 9,rI 10],[]⟩,[.ex (.exit 2) [lF 10008 1 I,rI 9]],fun q c v=>jB k q c.1 v.1 v.2.1 v.2.2.1⟩
def yy(k:Nat):lq:=⟨⟨95,[(48,9),(28,6),(10006,6)],[lD 48 0 sA,lD 48 1 sS,lD 48 2 sF,lD 48 3 sN,lD 48 4 sI,lD 48 5 sI,lD 48 6 sB,lD 48 7 sE,lD 48 8 sB,lD 28 0 .bool,lN 28 1,lN 28 2,lN 28 3,lI 28 4,lN 28 5,lD 10006 0 .bool,lD 10006 1 sQ,lD 10006 3 sQ,lI 10006 4,lD 10006 5 sI,rP 0 48,rI 1,rP 4 28,rP 6 10006],[lF 10006 2 (.aO .bool (.aO sI tQ)),rI 7],[]⟩,[.ex (.exit 0) [lF 10006 2 (.aO .bool (.aO sI tQ))]],fun q c v=>jA k q c.1 c.2.2.1 c.2.2.2.2.2.2.2.2.2.2.2.2.2.2.2.2.2.2.2.2.2.1 v.1 v.2.1⟩
def rU(k:Nat):Ev aW:=⟨[M1 k,MY k,DN,IB,Ri],[rg 2 (yA k),lp 2 (yz k) k,lp 0 (yy k) k],[(4,28)]⟩
def GM(k:Nat):Cd aW:=rgC (rU k) f11 2 (yA k) [[0,2,3,4,5,6,7,9,1,8,10,11,12,13],[0,2,3,4,5,6,7,9,1,8,12,10,11,13],[0,2,3,4,5,6,7,9,1,12,8,10,11,13],[0,2,3,4,5,6,7,9,12,1,8,10,11,13]]
def GL(k q:Nat):Cd aW:=nq (rU k) f11 2 (yz k) q []
def GK(k q:Nat):Cd aW:=nq (rU k) f11 0 (yy k) q [GL k k]
def LB(k:Nat):Cl aW:=ml (rU k) 11 f11 func11 call11 [500000] ⟨⟨95,[(48,9)],[lD 48 0 sA,lD 48 1 sS,lD 48 2 sF,lD 48 3 sN,lD 48 4 sI,lD 48 5 sI,lD 48 6 sB,lD 48 7 sE,lD 48 8 sB],[rP 0 48,rI 1],[]⟩,[.ret [rD 500000 (.aO .bool (.aO sQ (.aO (.slice (.aO .bool (.aO sI tQ))) (.aO sQ (.aO I sI)))))] []],fun c v=>uW k c.1 c.2.1 c.2.2.1 v.2.1⟩ [GM k,GK k k]
def mR(k:Nat)(bV:ak)(fn:Int):Option ((Bool×XQ×List (Bool×XI×Int×Int×Int×Int)×XQ×Int×XI)×Unit):=
 aa (fun(jv:Bool×XA×XS×XF×XN×XI×XI×XB×XE×XB)=>
  aa (fun(v2:Bool)=>
   bif v2 then
    some ((false,[],[],[],0,[]),())
   else
    (uW k (jv.2.1) (jv.2.2.1) (jv.2.2.2.1) fn).bind fun r4=>
    some (r4.1,())) fun ir=>
  bif !(jv.1) then
   ir true
  else
   (my fn 0 (cm (((jv.2.2.2.1).length:Int) - 1))).bind fun r3=>
   ir (!r3.1)) fun cq=>
 (qL k bV).bind fun r=>match r with
 |.inl r1=>
  cq (r1.2.2.2.2.2.2.2.2.2.1,r1.1,r1.2.1,r1.2.2.1,r1.2.2.2.1,r1.2.2.2.2.1,r1.2.2.2.2.2.1,r1.2.2.2.2.2.2.1,r1.2.2.2.2.2.2.2.1,r1.2.2.2.2.2.2.2.2.1)
 |.inr r2=>
  cq (r2.2.2.2.2.2.2.2.2.2.1,r2.1,r2.2.1,r2.2.2.1,r2.2.2.2.1,r2.2.2.2.2.1,r2.2.2.2.2.2.1,r2.2.2.2.2.2.2.1,r2.2.2.2.2.2.2.2.1,r2.2.2.2.2.2.2.2.2.1)
def JX(k:Nat):Cl aW:=om ⟨[M0 k,su,LB k],[],[(4,28)]⟩ 4 f4 func4 call4 [.str,I] [(.aO .bool (.aO sQ (.aO (.slice (.aO .bool (.aO sI tQ))) (.aO sQ (.aO I sI)))))] (fun d=>mR k d.1 d.2.1) []
def eG(aF:XA)(an:XS)(bh:XF)(az:XN)(n:Int)(lX:XA):Option (Int×XA×XS×XF×XA×Unit):=
 (bA az n).bind fun x1=>
 bif decide ((qg lX x1.2.2.2.1) > 0) then
  some (9,aF,an,bh,lX,())
 else
  aa (fun(jv:XA×XS×XF)=>
   some (0,(jv.1),(jv.2.1),(jv.2.2),qF lX x1.2.2.2.1 1,())) fun uf=>
  bif x1.1==2 then
   aa (fun(v:Bool)=>
    aa (fun(v2:Bool)=>
     bif v2 then
      some (8,aF,an,bh,qF lX x1.2.2.2.1 1,())
     else
      (lA aF ([(x1.2.2.2.1,x1.2.2.1)])).bind fun l=>
      uf (l,an,bh)) fun ir=>
    bif v then
     ir true
    else
     ir (decide (x1.2.2.1 > 64))) fun cq=>
   bif (aF.length:Int)==4 then
    cq true
   else
    cq (decide (x1.2.2.1<1))
  else
   bif x1.1==3 then
    bif (an.length:Int)==4 then
     some (8,aF,an,bh,qF lX x1.2.2.2.1 1,())
    else
     (lA an ([x1.2.2.2.1])).bind fun l2=>
     uf (aF,l2,bh)
   else
    bif x1.1==4 then
     bif (bh.length:Int)==6 then
      some (8,aF,an,bh,qF lX x1.2.2.2.1 1,())
     else
      (bA x1.2.2.2.2 (cm ((x1.2.2.2.2.length:Int) - 1))).bind fun x2=>
      (lA bh ([(x1.2.2.2.1,0,[],[],x2)])).bind fun l3=>
      uf (aF,an,l3)
    else
     uf (aF,an,bh)
def GW:Cl aW:=ml ⟨[],[],[(9,101),(99,9999)]⟩ 61 f61 func61 call61 [500000] ⟨⟨103,[(41,3)],[],[rD 0 sN,rI 1,rP 2 41,(.r 3,.h .mp tA),lF 41 0 tA,lF 41 1 .str,lU 41 2 tF],[1000003]⟩,[.ret [rI 500000,lF 41 0 tA,lF 41 1 .str,lU 41 2 tF,(.r 3,.h .mp tA)] []],fun c v=>eG v.2.2.2.2.1 v.2.2.2.2.2.1 v.2.2.2.2.2.2.1 v.1 v.2.1 v.2.2.2.1⟩ []
def bS(q:Nat):Nat→XA→XN→XI→Int→Int→Int→Int→XS→XS→XA→Int→Option (((Int×Int×Int×XS×XS×Unit)⊕(Int×Int×Int×XS×XS×Unit)))
 |0,_,_,_,_,_,_,_,_,_,_,_=>none
 |k+1,EX,bX,afS,aaP,w,w2,rW,AK,CH,pd,PL=>
  bif decide (PL<aaP) then
   (bA afS PL).bind fun x1=>
   (bA bX x1).bind fun x2=>
   aa (fun(v:Bool)=>
    bif v then
     some (.inr (9,x2.2.1,rW,AK,CH,()))
    else
     aa (fun(jv:Bool×Int×XS×XS)=>
      bif (jv.1) then
       some (.inr (8,x2.2.1,(jv.2.1),(jv.2.2.1),(jv.2.2.2),()))
      else
       bS q k EX bX afS aaP w w2 (jv.2.1) (jv.2.2.1) (jv.2.2.2) (qF pd x2.2.2.2.1 1) (cm (PL+1))) fun uf=>
     bif x2.1==7 then
      (lA CH ([x2.2.2.2.1])).bind fun l2=>
      uf ((CH.length:Int)==3,rW,AK,l2)
     else
      bif x2.1==5 then
       aa (fun(v2:Bool)=>
        (lA AK ([x2.2.2.2.1])).bind fun l3=>
        uf (v2,(cm (rW+1)),l3,CH)) fun ir=>
       bif (AK.length:Int)==8 then
        ir true
       else
        ir (rW==3)
      else
       (lA AK ([x2.2.2.2.1])).bind fun l4=>
       uf ((AK.length:Int)==8,rW,l4,CH)) fun cq=>
   bif decide ((qg EX x2.2.2.2.1) > 0) then
    cq true
   else
    cq (decide ((qg pd x2.2.2.2.1) > 0))
  else
   some (.inl (w,w2,rW,AK,CH,()))
def rY(k:Nat)(vJ:Int)(Lm Ln:XS)(az:XN)(nK:Int×Int×Int×ak×XI)(lX:XA):Option ((Int×Int)×Int×XS×XS×XA×Unit):=
 (sub nK.2.2.2.2 0 (cm ((nK.2.2.2.2.length:Int) - 1))).bind fun l=>
 (bS k k lX az l (l.length:Int) 0 0 vJ Lm Ln ([]:XA) 0).bind fun r=>match r with
 |.inl o=>
  some ((0,0),o.2.2.1,o.2.2.2.1,o.2.2.2.2.1,lX,())
 |.inr o2=>
  some ((o2.1,o2.2.1),o2.2.2.1,o2.2.2.2.1,o2.2.2.2.2.1,lX,())
def vm(k:Nat):lq:=⟨⟨126,[(52,2),(101,5),(73,5)],[(.r 3,.h .mp tA),lI 101 0,lI 101 1,lI 101 2,lD 101 3 .str,lD 101 4 sI,lD 73 0 .str,lI 73 4,rD 0 sN,rP 2 73,rP 8 52,rD 21 sI,rI 22],[lI 52 0,lI 52 1,lI 73 1,lF 73 2 .str,lF 73 3 .str,(.r 9,.h .mp tA),rI 23],[1000003]⟩,[.ex (.exit 0) [lI 52 0,lI 52 1,lI 73 1,lF 73 2 .str,lF 73 3 .str],.ex .ret [lI 52 0,lI 52 1,lI 73 1,lF 73 2 .str,lF 73 3 .str]],fun q c v=>bS k q c.1 c.2.2.2.2.2.2.2.2.1 c.2.2.2.2.2.2.2.2.2.2.2.1 c.2.2.2.2.2.2.2.2.2.2.2.2.1 v.1 v.2.1 v.2.2.1 v.2.2.2.1 v.2.2.2.2.1 v.2.2.2.2.2.1 v.2.2.2.2.2.2.1⟩
def zi(k:Nat):Ev aW:=⟨[],[lp 0 (vm k) k],[(5,101),(8,52)]⟩
def Dr(k q:Nat):Cd aW:=nq (zi k) f62 0 (vm k) q []
def Ix(k:Nat):Cl aW:=ml (zi k) 62 f62 func62 call62 [500000] ⟨⟨126,[(73,5)],[lD 73 0 .str,lI 73 4],[rD 0 sN,rD 1 tN,rP 2 73,(.r 3,.h .mp tA),lI 73 1,lF 73 2 .str,lF 73 3 .str],[1000003]⟩,[.ret [rD 500000 tP,lI 73 1,lF 73 2 .str,lF 73 3 .str,(.r 3,.h .mp tA)] []],fun c v=>rY k v.2.2.2.2.1 v.2.2.2.2.2.1 v.2.2.2.2.2.2.1 v.1 v.2.1 v.2.2.2.1⟩ [Dr k k]
def kx(q:Nat):Nat→XF→Int→Int→Option (((Unit)⊕(Int×Unit)))
 |0,_,_,_=>none
 |k+1,t61,t71,t81=>
  bif decide (t81<t71) then
   (bA t61 t81).bind fun x1=>
   bif x1.1==([109,97,105,110]:ak) then
    some (.inr (t81,()))
   else
    kx q k t61 t71 (cm (t81+1))
  else
   some (.inl ())
def uR(k:Nat)(t:XA×XS×XF):Option (Int×Unit):=
 (kx k k t.2.2 (t.2.2.length:Int) 0).bind fun r=>match r with
 |.inl o=>
  some ((-1),())
 |.inr o2=>
  some (o2.1,())
def yp(k:Nat):lq:=⟨⟨18,[(41,3)],[lD 41 0 sA,lD 41 1 sS,lD 41 2 sF,rD 6 sF,rI 7],[rI 8],[]⟩,[.ex (.exit 0) [],.ex .ret [rI 2]],fun q c v=>kx k q c.2.2.2.1 c.2.2.2.2.1 v.1⟩
def Cx(k:Nat):Ev aW:=⟨[],[lp 0 (yp k) k],[(1,41)]⟩
def GC(k q:Nat):Cd aW:=nq (Cx k) f63 0 (yp k) q []
def Lt(k:Nat):Cl aW:=om (Cx k) 63 f63 func63 call63 [tM] [I] (fun d=>uR k d.1) [GC k k]
def jS(q:Nat):Nat→ak→XS→Int→Int→Option (((Unit)⊕(Int×Unit)))
 |0,_,_,_,_=>none
 |k+1,un,t71,t81,t91=>
  bif decide (t91<t81) then
   (bA t71 t91).bind fun x1=>
   bif x1==un then
    some (.inr (t91,()))
   else
    jS q k un t71 t81 (cm (t91+1))
  else
   some (.inl ())
def mK(k:Nat)(acT:XS)(name:ak):Option (Int×Unit):=
 (jS k k name acT (acT.length:Int) 0).bind fun r=>match r with
 |.inl o=>
  some ((-1),())
 |.inr o2=>
  some (o2.1,())
def wr(k:Nat):lq:=⟨⟨19,[],[rD 1 .str,rD 7 sS,rI 8],[rI 9],[]⟩,[.ex (.exit 0) [],.ex .ret [rI 4]],fun q c v=>jS k q c.1 c.2.1 c.2.2.1 v.1⟩
def AD(k:Nat):Ev aW:=⟨[],[lp 0 (wr k) k],[]⟩
def Ft(k q:Nat):Cd aW:=nq (AD k) f109 0 (wr k) q []
def JU(k:Nat):Cl aW:=om (AD k) 109 f109 func109 call109 [sS,.str] [I] (fun d=>mK k d.1 d.2.1) [Ft k k]
def kq(q:Nat):Nat→ak→ak→XF→Int→Int→Option (((Unit)⊕(Int×Int×Unit)))
 |0,_,_,_,_,_=>none
 |k+1,EZ,un,afQ,afR,aek=>
  bif decide (aek<afR) then
   (bA afQ aek).bind fun x1=>
   bif !(x1.1==EZ) then
    kq q k EZ un afQ afR (cm (aek+1))
   else
    (mK q x1.2.2.1 un).bind fun r1=>
    bif decide (r1.1≥0) then
     some (.inr (3,r1.1,()))
    else
     (mK q x1.2.2.2.1 un).bind fun r2=>
     bif decide (r2.1≥0) then
      some (.inr (4,r2.1,()))
     else
      some (.inl ())
  else
   some (.inl ())
def js(q:Nat):Nat→ak→XA→Int→Int→Option (((Unit)⊕(Int×Int×Unit)))
 |0,_,_,_,_=>none
 |k+1,un,UA,UB,OC=>
  bif decide (OC<UB) then
   (bA UA OC).bind fun x1=>
   bif x1.1==un then
    some (.inr (1,OC,()))
   else
    js q k un UA UB (cm (OC+1))
  else
   some (.inl ())
def jt(q:Nat):Nat→ak→XF→Int→Int→Option (((Unit)⊕(Int×Int×Unit)))
 |0,_,_,_,_=>none
 |k+1,un,afY,afZ,ab6=>
  bif decide (ab6<afZ) then
   (bA afY ab6).bind fun x1=>
   bif x1.1==un then
    some (.inr (5,ab6,()))
   else
    jt q k un afY afZ (cm (ab6+1))
  else
   some (.inl ())
def fC(k:Nat)(t:XA×XS×XF)(fn name:ak):Option (Int×Int×Unit):=
 (kq k k fn name t.2.2 (t.2.2.length:Int) 0).bind fun r=>match r with
 |.inl o=>
  (js k k name t.1 (t.1.length:Int) 0).bind fun r=>match r with
  |.inl o3=>
   (mK k t.2.1 name).bind fun r1=>
   bif decide (r1.1≥0) then
    some (2,r1.1,())
   else
    (jt k k name t.2.2 (t.2.2.length:Int) 0).bind fun r=>match r with
    |.inl o5=>
     some (0,0,())
    |.inr o6=>
     some (o6.1,o6.2.1,())
  |.inr o4=>
   some (o4.1,o4.2.1,())
 |.inr o2=>
  some (o2.1,o2.2.1,())
def yf(k:Nat):lq:=⟨⟨78,[(41,3)],[lD 41 0 sA,lD 41 1 sS,lD 41 2 sF,rD 1 .str,rD 2 .str,rP 3 41,rD 18 sF,rI 19],[rI 20],[]⟩,[.ex (.exit 0) [],.ex .ret [rI 6,rI 7]],fun q c v=>kq k q c.2.2.2.1 c.2.2.2.2.1 c.2.2.2.2.2.2.1 c.2.2.2.2.2.2.2.1 v.1⟩
def yg(k:Nat):lq:=⟨⟨78,[(41,3)],[lD 41 0 sA,lD 41 1 sS,lD 41 2 sF,rD 2 .str,rP 3 41,rD 44 sA,rI 45],[rI 46],[]⟩,[.ex (.exit 2) [],.ex .ret [rI 6,rI 7]],fun q c v=>js k q c.2.2.2.1 c.2.2.2.2.2.1 c.2.2.2.2.2.2.1 v.1⟩
def yh(k:Nat):lq:=⟨⟨78,[(41,3)],[lD 41 0 sA,lD 41 1 sS,lD 41 2 sF,rD 2 .str,rD 65 sF,rI 66],[rI 67],[]⟩,[.ex (.exit 4) [],.ex .ret [rI 6,rI 7]],fun q c v=>jt k q c.2.2.2.1 c.2.2.2.2.1 c.2.2.2.2.2.1 v.1⟩
def rT(k:Nat):Ev aW:=⟨[JU k],[lp 0 (yf k) k,lp 2 (yg k) k,lp 4 (yh k) k],[(3,41)]⟩
def Gr(k q:Nat):Cd aW:=nq (rT k) f65 0 (yf k) q []
def Gs(k q:Nat):Cd aW:=nq (rT k) f65 2 (yg k) q []
def Gt(k q:Nat):Cd aW:=nq (rT k) f65 4 (yh k) q []
def vN(k:Nat):Cl aW:=om (rT k) 65 f65 func65 call65 [tM,.str,.str] [I,I] (fun d=>fC k d.1 d.2.1 d.2.2.1) [Gr k k,Gs k k,Gt k k]
def gy(k:Nat)(aF:XA)(an:XS)(bh:XF)(rk name:ak):Option (Int×Unit):=
 (fC k (aF,an,bh) rk name).bind fun r1=>
 some (r1.1,())
def ve(k:Nat):Cl aW:=ml ⟨[vN k],[],[]⟩ 148 f148 func148 call148 [500000] ⟨⟨22,[(140,10)],[lD 140 0 sN,lD 140 1 sA,lD 140 2 sS,lD 140 3 sF,lD 140 4 .str,lI 140 5,lD 140 6 sS,lD 140 7 sS,lI 140 8,lH .mp 140 9 tA],[rP 0 140,rD 1 .str],[]⟩,[.ret [rI 500000] []],fun c v=>gy k c.2.1 c.2.2.1 c.2.2.2.1 c.2.2.2.2.1 v.2.1⟩ []
def ee(q:Nat):Nat→Int→XI→Int→Int→Option (((Unit)⊕(Int×Unit)))
 |0,_,_,_,_=>none
 |k+1,Ed,Uz,Ss,t171=>
  bif decide (t171<Ss) then
   (bA Uz t171).bind fun x1=>
   bif x1==Ed then
    some (.inr (0,()))
   else
    ee q k Ed Uz Ss (cm (t171+1))
  else
   some (.inl ())
def dI(k:Nat)(aF:XA)(an:XS)(bh:XF)(rk name:ak)(l7:XI):Option (Int×Unit):=
 (gy k aF an bh rk name).bind fun r1=>
 bif r1.1==0 then
  some (10,())
 else
  (ee k k r1.1 l7 (l7.length:Int) 0).bind fun r=>match r with
  |.inl o=>
   some (11,())
  |.inr o2=>
   some (o2.1,())
def sG(k:Nat):lq:=⟨⟨25,[(140,10)],[lD 140 0 sN,lD 140 1 sA,lD 140 2 sS,lD 140 3 sF,lD 140 4 .str,lI 140 5,lD 140 6 sS,lD 140 7 sS,lI 140 8,lH .mp 140 9 tA,rI 7,rD 15 sI,rI 16],[rI 17],[]⟩,[.ex (.exit 0) [],.ex .ret [rI 6]],fun q c v=>ee k q c.2.2.2.2.2.2.2.2.2.2.1 c.2.2.2.2.2.2.2.2.2.2.2.1 c.2.2.2.2.2.2.2.2.2.2.2.2.1 v.1⟩
def u7(k:Nat):Ev aW:=⟨[ve k],[lp 0 (sG k) k],[]⟩
def AA(k q:Nat):Cd aW:=nq (u7 k) f151 0 (sG k) q []
def kU(k:Nat):Cl aW:=ml (u7 k) 151 f151 func151 call151 [500000] ⟨⟨25,[(140,10)],[lD 140 0 sN,lD 140 1 sA,lD 140 2 sS,lD 140 3 sF,lD 140 4 .str,lI 140 5,lD 140 6 sS,lD 140 7 sS,lI 140 8,lH .mp 140 9 tA],[rP 0 140,rD 1 .str,rD 2 sI],[]⟩,[.ret [rI 500000] []],fun c v=>dI k c.2.1 c.2.2.1 c.2.2.2.1 c.2.2.2.2.1 v.2.1 v.2.2.1⟩ [AA k k]
def jy(k:Nat)(az:XN)(aF:XA)(an:XS)(bh:XF)(rk:ak)(nK:Int×Int×Int×ak×XI):Option ((Int×Int)×Unit):=
 (bA nK.2.2.2.2 0).bind fun x1=>
 (bA az x1).bind fun x2=>
 bif x2.1==29 then
  some ((0,0),())
 else
  bif x2.1==25 then
   (dI k aF an bh rk x2.2.2.2.1 ([4])).bind fun r1=>
   bif r1.1 != 0 then
    some ((r1.1,x2.2.1),())
   else
    some ((0,0),())
  else
   some ((11,nK.2.1),())
def BW(k:Nat):Cl aW:=ml ⟨[kU k],[],[(3,101),(4,52)]⟩ 149 f149 func149 call149 [500000] ⟨⟨39,[(140,10)],[lD 140 0 sN,lD 140 1 sA,lD 140 2 sS,lD 140 3 sF,lD 140 4 .str,lI 140 5,lD 140 6 sS,lD 140 7 sS,lI 140 8,lH .mp 140 9 tA],[rP 0 140,rD 1 tN],[]⟩,[.ret [rD 500000 tP] []],fun c v=>jy k c.1 c.2.1 c.2.2.1 c.2.2.2.1 c.2.2.2.2.1 v.2.1⟩ []
def mL(k:Nat)(aF:XA)(an:XS)(bh:XF)(rk:ak)(qU:XA)(name:ak)(l7:XI):Option (Int×Unit):=
 (dI k aF an bh rk name l7).bind fun r1=>
 bif r1.1 != 0 then
  some (r1.1,())
 else
  bif decide ((qg qU name) > 0) then
   some (11,())
  else
   some (0,())
def DJ(k:Nat):Cl aW:=ml ⟨[kU k],[],[]⟩ 167 f167 func167 call167 [500000] ⟨⟨22,[(140,10)],[lD 140 0 sN,lD 140 1 sA,lD 140 2 sS,lD 140 3 sF,lD 140 4 .str,lI 140 5,lD 140 6 sS,lD 140 7 sS,lI 140 8,lH .mp 140 9 tA],[rP 0 140,rD 1 .str,rD 2 sI],[]⟩,[.ret [rI 500000] []],fun c v=>mL k c.2.1 c.2.2.1 c.2.2.2.1 c.2.2.2.2.1 c.2.2.2.2.2.2.2.2.2.1 v.2.1 v.2.2.1⟩ []
end
end Go.Fx.R5
namespace Go.Fx.R5
open Go Go.Fx Go.Proofs Go.Proofs.Tryz
noncomputable section
def cK(k:Nat)(aF:XA)(an:XS)(bh:XF)(rk:ak)(qU:XA)(nK:Int×Int×Int×ak×XI):Option (Int×Unit):=
 bif nK.1==25 then
  (dI k aF an bh rk nK.2.2.2.1 ([3,2])).bind fun r1=>
  some (r1.1,())
 else
  aa (fun(v:Bool)=>
   bif v then
    (dI k aF an bh rk nK.2.2.2.1 ([1])).bind fun r2=>
    some (r2.1,())
   else
    aa (fun(v2:Bool)=>
     bif v2 then
      (dI k aF an bh rk nK.2.2.2.1 ([4])).bind fun r3=>
      some (r3.1,())
     else
      aa (fun(v3:Bool)=>
       bif v3 then
        (mL k aF an bh rk qU nK.2.2.2.1 ([3,2])).bind fun r4=>
        some (r4.1,())
       else
        bif nK.1==16 then
         (mL k aF an bh rk qU nK.2.2.2.1 ([3])).bind fun r5=>
         some (r5.1,())
        else
         some (0,())) fun uf=>
      bif nK.1==17 then
       uf (nK.1==17)
      else
       bif nK.1==22 then
        uf (nK.1==22)
       else
        uf (nK.1==9)) fun ir=>
    bif nK.1==27 then
     ir (nK.1==27)
    else
     bif nK.1==11 then
      ir (nK.1==11)
     else
      bif nK.1==13 then
       ir (nK.1==13)
      else
       bif nK.1==34 then
        ir (nK.1==34)
       else
        ir (nK.1==12)) fun cq=>
  bif nK.1==26 then
   cq (nK.1==26)
  else
   cq (nK.1==10)
def DI(k:Nat):Cl aW:=ml ⟨[kU k,DJ k],[],[(3,101)]⟩ 150 f150 func150 call150 [500000] ⟨⟨49,[(140,10)],[lD 140 0 sN,lD 140 1 sA,lD 140 2 sS,lD 140 3 sF,lD 140 4 .str,lI 140 5,lD 140 6 sS,lD 140 7 sS,lI 140 8,lH .mp 140 9 tA],[rP 0 140,rD 1 tN],[]⟩,[.ret [rI 500000] []],fun c v=>cK k c.2.1 c.2.2.1 c.2.2.2.1 c.2.2.2.2.1 c.2.2.2.2.2.2.2.2.2.1 v.2.1⟩ []
def kZ(k:Nat)(az:XN)(aF:XA)(an:XS)(bh:XF)(rk:ak)(nK:Int×Int×Int×ak×XI):Option ((Int×Int)×Unit):=
 (bA nK.2.2.2.2 0).bind fun x1=>
 (bA az x1).bind fun x2=>
 (dI k aF an bh rk x2.2.2.2.1 ([5])).bind fun r1=>
 bif r1.1 != 0 then
  some ((r1.1,x2.2.1),())
 else
  (fC k (aF,an,bh) rk x2.2.2.2.1).bind fun r2=>
  (bA bh r2.2.1).bind fun x3=>
  bif (cm ((nK.2.2.2.2.length:Int) - 1)) != x3.2.1 then
   some ((12,x2.2.1),())
  else
   some ((0,0),())
def BV(k:Nat):Cl aW:=ml ⟨[vN k,kU k],[],[(3,101),(4,52)]⟩ 152 f152 func152 call152 [500000] ⟨⟨63,[(140,10)],[lD 140 0 sN,lD 140 1 sA,lD 140 2 sS,lD 140 3 sF,lD 140 4 .str,lI 140 5,lD 140 6 sS,lD 140 7 sS,lI 140 8,lH .mp 140 9 tA],[rP 0 140,rD 1 tN],[]⟩,[.ret [rD 500000 tP] []],fun c v=>kZ k c.1 c.2.1 c.2.2.1 c.2.2.2.1 c.2.2.2.2.1 v.2.1⟩ []
abbrev eS:=XN→XA→XS→XF→ak→Int→XS→XS→Int→XA→Int→Option ((Int×Int)×XA×Unit)
def mX(f:eS):EU:=⟨⟨30,[(140,10)],[lD 140 0 sN,lD 140 1 sA,lD 140 2 sS,lD 140 3 sF,lD 140 4 .str,lI 140 5,lD 140 6 sS,lD 140 7 sS,lI 140 8],[rP 0 140,rI 1,lH .mp 140 9 tA],[]⟩,[.ret [rD 500000 tP,lH .mp 140 9 tA] []],fun c v=>f c.1 c.2.1 c.2.2.1 c.2.2.2.1 c.2.2.2.2.1 c.2.2.2.2.2.1 c.2.2.2.2.2.2.1 c.2.2.2.2.2.2.2.1 c.2.2.2.2.2.2.2.2.1 v.2.2.1 v.2.1⟩
def uc(f:eS):iX:=mP (mX f).L (mX f).F (BH [500000] (mX f).V)
abbrev eT:=XN→XA→XS→XF→ak→Int→XS→XS→Int→XA→Int→Option ((Int×Int)×XA×Unit)
def mY(f:eT):EU:=⟨⟨100,[(140,10)],[lD 140 0 sN,lD 140 1 sA,lD 140 2 sS,lD 140 3 sF,lD 140 4 .str,lI 140 5,lD 140 6 sS,lD 140 7 sS,lI 140 8],[rP 0 140,rI 1,lH .mp 140 9 tA],[]⟩,[.ret [rD 500000 tP,lH .mp 140 9 tA] []],fun c v=>f c.1 c.2.1 c.2.2.1 c.2.2.2.1 c.2.2.2.2.1 c.2.2.2.2.2.1 c.2.2.2.2.2.2.1 c.2.2.2.2.2.2.2.1 c.2.2.2.2.2.2.2.2.1 v.2.2.1 v.2.1⟩
def ud(f:eT):iX:=mP (mY f).L (mY f).F (BH [500000] (mY f).V)
abbrev dO:=XN→XA→XS→XF→ak→Int→XS→XS→Int→XA→(Int×Int×Int×ak×XI)→Option ((Int×Int)×XA×Unit)
def kJ(f:dO):EU:=⟨⟨44,[(140,10)],[lD 140 0 sN,lD 140 1 sA,lD 140 2 sS,lD 140 3 sF,lD 140 4 .str,lI 140 5,lD 140 6 sS,lD 140 7 sS,lI 140 8],[rP 0 140,rD 1 tN,lH .mp 140 9 tA],[]⟩,[.ret [rD 500000 tP,lH .mp 140 9 tA] []],fun c v=>f c.1 c.2.1 c.2.2.1 c.2.2.2.1 c.2.2.2.2.1 c.2.2.2.2.2.1 c.2.2.2.2.2.2.1 c.2.2.2.2.2.2.2.1 c.2.2.2.2.2.2.2.2.1 v.2.2.1 v.2.1⟩
def rm(f:dO):iX:=mP (kJ f).L (kJ f).F (BH [500000] (kJ f).V)
def aM(aA:eS)(aw:eT)(ao:dO)(q:Nat):Nat→XN→XA→XS→XF→ak→Int→XS→XS→Int→XI→Int→Int→Int→XA→Int→Option (((Int×Int×XA×Unit)⊕(Int×Int×XA×Unit)))
 |0,_,_,_,_,_,_,_,_,_,_,_,_,_,_,_=>none
 |k+1,bX,eQ,gf,iB,SJ,rW,AK,CH,SE,Uz,Ss,w,w2,CR,t171=>
  bif decide (t171<Ss) then
   (bA Uz t171).bind fun x2=>
   (aw bX eQ gf iB SJ rW AK CH SE CR x2).bind fun r1=>
   bif r1.1.1 != 0 then
    some (.inr (r1.1.1,r1.1.2,r1.2.1,()))
   else
    aM aA aw ao q k bX eQ gf iB SJ rW AK CH SE Uz Ss w w2 r1.2.1 (cm (t171+1))
  else
   some (.inl (w,w2,CR,()))
def kj(aA:eS)(aw:eT)(ao:dO)(k:Nat)(az:XN)(aF:XA)(an:XS)(bh:XF)(rk:ak)(vJ:Int)(Lm Ln:XS)(OR:Int)(qU:XA)(n:Int):Option ((Int×Int)×XA×Unit):=
 (bA az n).bind fun x1=>
 (aM aA aw ao k k az aF an bh rk vJ Lm Ln OR x1.2.2.2.2 (x1.2.2.2.2.length:Int) 0 0 qU 0).bind fun r=>match r with
 |.inl o=>
  some ((0,0),o.2.2.1,())
 |.inr o2=>
  some ((o2.1,o2.2.1),o2.2.2.1,())
def aV(aA:eS)(aw:eT)(ao:dO)(k:Nat)(az:XN)(aF:XA)(an:XS)(bh:XF)(rk:ak)(vJ:Int)(Lm Ln:XS)(OR:Int)(qU:XA)(n:Int):Option ((Int×Int)×XA×Unit):=
 (bA az n).bind fun x1=>
 aa (fun(v:Bool)=>
  bif v then
   (jy k az aF an bh rk x1).bind fun r2=>
   some (r2.1,qU,())
  else
   (cK k aF an bh rk qU x1).bind fun r3=>
   bif r3.1 != 0 then
    some ((r3.1,x1.2.1),qU,())
   else
    aa (fun(_:Unit)=>
     (aA az aF an bh rk vJ Lm Ln OR qU n).bind fun r7=>
     some (r7.1,r7.2.1,())) fun ir=>
    bif x1.1==9 then
     (bA x1.2.2.2.2 0).bind fun x2=>
     (bA az x2).bind fun x3=>
     bif x3.1==29 then
      some ((11,x3.2.1),qU,())
     else
      ir ()
    else
     bif x1.1==12 then
      (bA x1.2.2.2.2 0).bind fun x4=>
      (bA az x4).bind fun x5=>
      (dI k aF an bh rk x5.2.2.2.1 ([1])).bind fun r4=>
      bif r4.1 != 0 then
       some ((r4.1,x5.2.1),qU,())
      else
       ir ()
     else
      bif x1.1==22 then
       (kZ k az aF an bh rk x1).bind fun r5=>
       bif r5.1.1 != 0 then
        some (r5.1,qU,())
       else
        ir ()
      else
       bif x1.1==16 then
        (ao az aF an bh rk vJ Lm Ln OR qU x1).bind fun r6=>
        some (r6.1,r6.2.1,())
       else
        ir ()) fun cq=>
 bif x1.1==9 then
  (gy k aF an bh rk x1.2.2.2.1).bind fun r1=>
  cq (r1.1==4)
 else
  cq false
def cG(aA:eS)(aw:eT)(ao:dO)(q:Nat):Nat→XN→XA→XS→XF→ak→Int→XS→XS→Int→XI→Int→Int→Int→XA→Int→Option (((Int×Int×XA×Unit)⊕(Int×Int×XA×Unit)))
 |0,_,_,_,_,_,_,_,_,_,_,_,_,_,_,_=>none
 |k+1,bX,eQ,gf,iB,ack,rW,AK,CH,SE,afO,afP,w,w2,CR,t131=>
  bif decide (t131<afP) then
   (bA afO t131).bind fun x1=>
   (aw bX eQ gf iB ack rW AK CH SE CR x1).bind fun r1=>
   bif r1.1.1 != 0 then
    some (.inr (r1.1.1,r1.1.2,r1.2.1,()))
   else
    cG aA aw ao q k bX eQ gf iB ack rW AK CH SE afO afP w w2 r1.2.1 (cm (t131+1))
  else
   some (.inl (w,w2,CR,()))
def gI(aA:eS)(aw:eT)(ao:dO)(k:Nat)(az:XN)(aF:XA)(an:XS)(bh:XF)(rk:ak)(vJ:Int)(Lm Ln:XS)(OR:Int)(qU:XA)(nK:Int×Int×Int×ak×XI):Option ((Int×Int)×XA×Unit):=
 (sub nK.2.2.2.2 0 2).bind fun l=>
 (cG aA aw ao k k az aF an bh rk vJ Lm Ln OR l (l.length:Int) 0 0 qU 0).bind fun r=>match r with
 |.inl o=>
  (bA nK.2.2.2.2 2).bind fun x1=>
  (aw az aF an bh rk vJ Lm Ln OR (qF o.2.2.1 nK.2.2.2.1 1) x1).bind fun r1=>
  some (r1.1,qF r1.2.1 nK.2.2.2.1 0,())
 |.inr o2=>
  some ((o2.1,o2.2.1),o2.2.2.1,())
def cH:Nat→eS×eT×dO
 |0=>(fun _ _ _ _ _ _ _ _ _ _ _=>none,fun _ _ _ _ _ _ _ _ _ _ _=>none,fun _ _ _ _ _ _ _ _ _ _ _=>none)
 |k+1=>(kj (cH k).1 (cH k).2.1 (cH k).2.2 k,aV (cH k).1 (cH k).2.1 (cH k).2.2 k,gI (cH k).1 (cH k).2.1 (cH k).2.2 k)
def bI(k:Nat):eS:=(cH k).1
def co(k:Nat):eT:=(cH k).2.1
def bT(k:Nat):dO:=(cH k).2.2
section
variable (aA:Gd aW 64 uc) (aw:Gd aW 108 ud) (ao:Gd aW 153 rm)
def ru(k:Nat):lq:=⟨⟨30,[(52,2),(140,10)],[lD 140 0 sN,lD 140 1 sA,lD 140 2 sS,lD 140 3 sF,lD 140 4 .str,lI 140 5,lD 140 6 sS,lD 140 7 sS,lI 140 8,rP 0 140,rP 4 52,rD 15 sI,rI 16],[lI 52 0,lI 52 1,lH .mp 140 9 tA,rI 17],[]⟩,[.ex (.exit 0) [lI 52 0,lI 52 1,lH .mp 140 9 tA],.ex .ret [lI 52 0,lI 52 1,lH .mp 140 9 tA]],fun q c v=>aM aA.1 aw.1 ao.1 k q c.1 c.2.1 c.2.2.1 c.2.2.2.1 c.2.2.2.2.1 c.2.2.2.2.2.1 c.2.2.2.2.2.2.1 c.2.2.2.2.2.2.2.1 c.2.2.2.2.2.2.2.2.1 c.2.2.2.2.2.2.2.2.2.2.2.1 c.2.2.2.2.2.2.2.2.2.2.2.2.1 v.1 v.2.1 v.2.2.1 v.2.2.2.1⟩
def ua(k:Nat):Ev aW:=⟨[aw.cl],[lp 0 (ru aA aw ao k) k],[(4,52)]⟩
def zU(k q:Nat):Cd aW:=nq (ua aA aw ao k) f64 0 (ru aA aw ao k) q []
def Dm(k:Nat):Cl aW:=ml (ua aA aw ao k) 64 f64 func64 call64 [500000] (mX (kj aA.1 aw.1 ao.1 k)) [zU aA aw ao k k]
def Dn(k:Nat):Cl aW:=ml ⟨[aA.cl,ve k,BW k,DI k,kU k,BV k,ao.cl],[],[(4,52),(5,101)]⟩ 108 f108 func108 call108 [500000] (mY (aV aA.1 aw.1 ao.1 k)) []
def pT(k:Nat):lq:=⟨⟨44,[(52,2),(101,5),(140,10)],[lI 101 0,lI 101 1,lI 101 2,lD 101 3 .str,lD 101 4 sI,lD 140 0 sN,lD 140 1 sA,lD 140 2 sS,lD 140 3 sF,lD 140 4 .str,lI 140 5,lD 140 6 sS,lD 140 7 sS,lI 140 8,rP 0 140,rP 3 101,rP 4 52,rD 11 sI,rI 12],[lI 52 0,lI 52 1,lH .mp 140 9 tA,rI 13],[]⟩,[.ex (.exit 0) [lI 52 0,lI 52 1,lH .mp 140 9 tA],.ex .ret [lI 52 0,lI 52 1,lH .mp 140 9 tA]],fun q c v=>cG aA.1 aw.1 ao.1 k q c.2.2.2.2.2.1 c.2.2.2.2.2.2.1 c.2.2.2.2.2.2.2.1 c.2.2.2.2.2.2.2.2.1 c.2.2.2.2.2.2.2.2.2.1 c.2.2.2.2.2.2.2.2.2.2.1 c.2.2.2.2.2.2.2.2.2.2.2.1 c.2.2.2.2.2.2.2.2.2.2.2.2.1 c.2.2.2.2.2.2.2.2.2.2.2.2.2.1 c.2.2.2.2.2.2.2.2.2.2.2.2.2.2.2.2.2.1 c.2.2.2.2.2.2.2.2.2.2.2.2.2.2.2.2.2.2.1 v.1 v.2.1 v.2.2.1 v.2.2.2.1⟩
def ri(k:Nat):Ev aW:=⟨[aw.cl],[lp 0 (pT aA aw ao k) k],[(3,101),(4,52)]⟩
def wG(k q:Nat):Cd aW:=nq (ri aA aw ao k) f153 0 (pT aA aw ao k) q []
def Ac(k:Nat):Cl aW:=ml (ri aA aw ao k) 153 f153 func153 call153 [500000] (kJ (gI aA.1 aw.1 ao.1 k)) [wG aA aw ao k k]
end
theorem jP:∀ k,mb prog gt 64 (uc (bI k))∧mb prog gt 108 (ud (co k))∧mb prog gt 153 (rm (bT k))
 |0=>⟨dj (fun _ _=>rfl),dj (fun _ _=>rfl),dj (fun _ _=>rfl)⟩
 |k+1=>have ih:=jP k;⟨(Dm ⟨_,ih.1⟩ ⟨_,ih.2.1⟩ ⟨_,ih.2.2⟩ k).ok,(Dn ⟨_,ih.1⟩ ⟨_,ih.2.1⟩ ⟨_,ih.2.2⟩ k).ok,(Ac ⟨_,ih.1⟩ ⟨_,ih.2.1⟩ ⟨_,ih.2.2⟩ k).ok⟩
def Di(k:Nat):Cl aW:=⟨_,_,(jP k).1⟩
def SA(k:Nat):Cl aW:=⟨_,_,(jP k).2.1⟩
def OY(k:Nat):Cl aW:=⟨_,_,(jP k).2.2⟩
def dH(q:Nat):Nat→XN→XI→Int→XA→XS→XF→Int→Int→XA→Int→Option (((XA×XS×XF×Int×Int×XA×Unit)⊕(Int×Int×Unit)))
 |0,_,_,_,_,_,_,_,_,_,_=>none
 |k+1,bX,aaQ,VP,aF,an,bh,w,w2,lX,aem=>
  bif decide (aem<VP) then
   (bA aaQ aem).bind fun x2=>
   (eG aF an bh bX x2 lX).bind fun r1=>
   bif r1.1 != 0 then
    (bA bX x2).bind fun x3=>
    some (.inr (r1.1,x3.2.1,()))
   else
    dH q k bX aaQ VP r1.2.1 r1.2.2.1 r1.2.2.2.1 w w2 r1.2.2.2.2.1 (cm (aem+1))
  else
   some (.inl (aF,an,bh,w,w2,lX,()))
def pS(q:Nat)(Er:XN)(VA Kr:Int)(iB:XF)(EX:XA):Option (XF×XA×Int×Int×Unit):=
 (bA Er Kr).bind fun x4=>
 (bA iB VA).bind fun x5=>
 (bA iB (VA.toNat:Int)).bind fun e=>
 (rY q e.2.1 e.2.2.1 e.2.2.2.1 Er x4 EX).bind fun r1=>
 some (List.set iB VA.toNat (e.1,r1.2.1,r1.2.2.1,r1.2.2.2.1,e.2.2.2.2),r1.2.2.2.2.1,r1.1.1,r1.1.2,())
def dm(q:Nat):Nat→XN→XI→Int→XF→Int→Int→XA→Int→Int→Option (((XF×Int×Int×Unit)⊕(Int×Int×Unit)))
 |0,_,_,_,_,_,_,_,_,_=>none
 |k+1,bX,aaR,UC,bh,w,w2,lX,mo,OD=>
  bif decide (OD<UC) then
   aa (fun(jv:XA×Int×XF)=>
    dm q k bX aaR UC (jv.2.2) w w2 (jv.1) (jv.2.1) (cm (OD+1))) fun cq=>
   (bA aaR OD).bind fun x2=>
   (bA bX x2).bind fun x3=>
   bif x3.1 != 4 then
    cq (lX,mo,bh)
   else
    (pS q bX mo x2 bh lX).bind fun o3=>
    bif o3.2.2.1 != 0 then
     some (.inr (o3.2.2.1,o3.2.2.2.1,()))
    else
     cq (o3.2.1,(cm (mo+1)),o3.1)
  else
   some (.inl (bh,w,w2,()))
def fe(q:Nat):Nat→XF→XN→XF→Int→XA→XS→Int→Int→Int→Option (((XA×XS×Int×Int×Unit)⊕(Int×Int×Unit)))
 |0,_,_,_,_,_,_,_,_,_=>none
 |k+1,bh,bX,af3,af4,aF,an,w,w2,aeq=>
  bif decide (aeq<af4) then
   (bA af3 aeq).bind fun x4=>
   (bI q bX aF an bh x4.1 x4.2.1 x4.2.2.1 x4.2.2.2.1 x4.2.2.2.2 ([]:XA) x4.2.2.2.2).bind fun r2=>
   bif r2.1.1 != 0 then
    some (.inr (r2.1.1,r2.1.2,()))
   else
    fe q k bh bX af3 af4 aF an w w2 (cm (aeq+1))
  else
   some (.inl (aF,an,w,w2,()))
def iQ(k:Nat)(az:XN):Option ((XA×XS×XF)×(Int×Int)×Unit):=
 (bA az (cm ((az.length:Int) - 1))).bind fun x1=>
 (dH k k az x1.2.2.2.2 (x1.2.2.2.2.length:Int) [] [] [] 0 0 ([]:XA) 0).bind fun r=>match r with
 |.inl o=>
  (dm k k az x1.2.2.2.2 (x1.2.2.2.2.length:Int) o.2.2.1 o.2.2.2.1 o.2.2.2.2.1 o.2.2.2.2.2.1 0 0).bind fun r=>match r with
  |.inl o3=>
   (uR k (o.1,o.2.1,o3.1)).bind fun r1=>
   aa (fun(v:Bool)=>
    bif v then
     some (([],[],[]),(13,0),())
    else
     (fe k k o3.1 az o3.1 (o3.1.length:Int) o.1 o.2.1 o3.2.1 o3.2.2.1 0).bind fun r=>match r with
     |.inl o5=>
      some ((o5.1,o5.2.1,o3.1),(0,0),())
     |.inr o6=>
      some (([],[],[]),(o6.1,o6.2.1),())) fun cq=>
   bif decide (r1.1<0) then
    cq true
   else
    (bA o3.1 r1.1).bind fun x2=>
    (bA o3.1 (r1.1.toNat:Int)).bind fun x3=>
    cq (decide (x3.2.1 > 0))
  |.inr o4=>
   some (([],[],[]),(o4.1,o4.2.1),())
 |.inr o2=>
  some (([],[],[]),(o2.1,o2.2.1),())
def yq(k:Nat):lq:=⟨⟨118,[(41,3),(52,2),(101,5),(10002,3)],[lI 101 0,lI 101 1,lI 101 2,lD 101 3 .str,lD 101 4 sI,rD 0 sN,rP 2 10002,rP 3 52,rP 4 101,rP 5 41,rD 27 sI,rI 28],[lF 41 0 tA,lF 41 1 .str,lU 41 2 tF,lI 52 0,lI 52 1,lN 10002 0,lN 10002 1,lN 10002 2,(.r 6,.h .mp tA),rI 29],[]⟩,[.ex (.exit 0) [lF 41 0 tA,lF 41 1 .str,lU 41 2 tF,lI 52 0,lI 52 1,lN 10002 0,lN 10002 1,lN 10002 2,(.r 6,.h .mp tA)],.ex .ret [lI 52 0,lI 52 1,lN 10002 0,lN 10002 1,lN 10002 2]],fun q c v=>dH k q c.2.2.2.2.2.1 c.2.2.2.2.2.2.2.2.2.2.1 c.2.2.2.2.2.2.2.2.2.2.2.1 v.1 v.2.1 v.2.2.1 v.2.2.2.1 v.2.2.2.2.1 v.2.2.2.2.2.2.2.2.1 v.2.2.2.2.2.2.2.2.2.1⟩
def wu(k:Nat):lq:=⟨⟨118,[(41,3),(52,2),(101,5),(10002,3)],[lF 41 0 tA,lF 41 1 .str,lI 52 0,lI 52 1,lI 101 0,lI 101 1,lI 101 2,lD 101 3 .str,lD 101 4 sI,lN 10002 0,lN 10002 1,lN 10002 2,rD 0 sN,rP 2 10002,rP 3 52,rP 5 41,rI 10,rI 12,rD 49 sI,rI 50,rI 51],[lU 41 2 tF,(.r 6,.h .mp tA)],[]⟩,[.ex .normal [lU 41 2 tF,(.r 6,.h .mp tA),rP 13 10013,lI 10013 0,lI 10013 1]],fun q c v=>pS k c.2.2.2.2.2.2.2.2.2.2.2.2.1 c.2.2.2.2.2.2.2.2.2.2.2.2.2.2.2.2.1 c.2.2.2.2.2.2.2.2.2.2.2.2.2.2.2.2.2.1 v.1 v.2.1⟩
def yr(k:Nat):lq:=⟨⟨118,[(41,3),(52,2),(101,5),(10002,3)],[lF 41 0 tA,lF 41 1 .str,lI 101 0,lI 101 1,lI 101 2,lD 101 3 .str,lD 101 4 sI,rD 0 sN,rP 2 10002,rP 3 52,rP 5 41,rD 49 sI,rI 50],[lU 41 2 tF,lI 52 0,lI 52 1,lN 10002 0,lN 10002 1,lN 10002 2,(.r 6,.h .mp tA),rI 10,rI 51],[]⟩,[.ex (.exit 2) [lU 41 2 tF,lI 52 0,lI 52 1,lN 10002 0,lN 10002 1,lN 10002 2],.ex .ret [lI 52 0,lI 52 1,lN 10002 0,lN 10002 1,lN 10002 2]],fun q c v=>dm k q c.2.2.2.2.2.2.2.1 c.2.2.2.2.2.2.2.2.2.2.2.1 c.2.2.2.2.2.2.2.2.2.2.2.2.1 v.1 v.2.1 v.2.2.1 v.2.2.2.2.2.2.1 v.2.2.2.2.2.2.2.1 v.2.2.2.2.2.2.2.2.1⟩
def yt(k:Nat):lq:=⟨⟨118,[(41,3),(52,2),(101,5),(10002,3)],[lD 41 2 sF,lI 101 0,lI 101 1,lI 101 2,lD 101 3 .str,lD 101 4 sI,rD 0 sN,rP 2 10002,rP 3 52,rP 5 41,rD 96 sF,rI 97],[lD 41 0 sA,lD 41 1 sS,lI 52 0,lI 52 1,lN 10002 0,lN 10002 1,lN 10002 2,rI 98],[]⟩,[.ex (.exit 4) [lD 41 0 sA,lD 41 1 sS,lI 52 0,lI 52 1,lN 10002 0,lN 10002 1,lN 10002 2],.ex .ret [lI 52 0,lI 52 1,lN 10002 0,lN 10002 1,lN 10002 2]],fun q c v=>fe k q c.1 c.2.2.2.2.2.2.1 c.2.2.2.2.2.2.2.2.2.2.1 c.2.2.2.2.2.2.2.2.2.2.2.1 v.1 v.2.1 v.2.2.1 v.2.2.2.1 v.2.2.2.2.2.2.2.1⟩
def pp(k:Nat):Ev aW:=⟨[GW,(Ix k).afC 2 73,Lt k,(Di k).t8 0 140],[lp 0 (yq k) k,rg 16 (wu k),lp 2 (yr k) k,lp 4 (yt k) k],[(3,52),(4,101),(5,41)]⟩
def GD(k q:Nat):Cd aW:=nq (pp k) f33 0 (yq k) q []
def Fu(k:Nat):Cd aW:=rgC (pp k) f33 16 (wu k) [[0,1,2,3,4,5,6,7,8,9,10,11,12],[0,1,2,3,4,5,6,7,8,9,11,10,12]]
def GE(k q:Nat):Cd aW:=nq (pp k) f33 2 (yr k) q [Fu k]
def GF(k q:Nat):Cd aW:=nq (pp k) f33 4 (yt k) q []
def Lu(k:Nat):Cl aW:=om (pp k) 33 f33 func33 call33 [sN] [tM,tP] (fun d=>iQ k d.1) [GD k k,GE k k,GF k k]
abbrev lW:=XN→XA→XS→XF→XI→XI→XI→XI→XB→XE→XQ→XL→XB→(ak×Int×XS×XS×Int)→Int→Option (XI×XI×Unit)
def oj(f:lW):EU:=⟨⟨55,[(58,13)],[lD 58 0 sN,lD 58 1 sA,lD 58 2 sS,lD 58 3 sF,lD 58 6 sI,lD 58 7 sI,lD 58 8 sB,lD 58 9 sE,lD 58 10 sQ,lD 58 11 sL,lD 58 12 sB],[rP 0 58,rD 1 tF,rI 2,lF 58 4 I,lF 58 5 I],[]⟩,[.ret [lF 58 4 I,lF 58 5 I] []],fun c v=>f c.1 c.2.1 c.2.2.1 c.2.2.2.1 v.2.2.2.1 v.2.2.2.2.1 c.2.2.2.2.1 c.2.2.2.2.2.1 c.2.2.2.2.2.2.1 c.2.2.2.2.2.2.2.1 c.2.2.2.2.2.2.2.2.1 c.2.2.2.2.2.2.2.2.2.1 c.2.2.2.2.2.2.2.2.2.2.1 v.2.1 v.2.2.1⟩
def wg(f:lW):iX:=mP (oj f).L (oj f).F (BH [] (oj f).V)
def gl(dn:lW)(q:Nat):Nat→ak→Int→XS→XS→Int→XN→XA→XS→XF→XI→XI→XB→XE→XQ→XL→XB→XI→Int→XI→XI→Int→Option (XI×XI×Unit)
 |0,_,_,_,_,_,_,_,_,_,_,_,_,_,_,_,_,_,_,_,_,_=>none
 |k+1,SJ,vJ,Lm,Ln,OR,bX,eQ,gf,iB,ko,mB,pN,nt,sH,vX,mE,UA,UB,ZM,WV,OC=>
  bif decide (OC<UB) then
   (bA UA OC).bind fun x6=>
   (dn bX eQ gf iB ZM WV ko mB pN nt sH vX mE (SJ,vJ,Lm,Ln,OR) x6).bind fun r2=>
   gl dn q k SJ vJ Lm Ln OR bX eQ gf iB ko mB pN nt sH vX mE UA UB r2.1 r2.2.1 (cm (OC+1))
  else
   some (ZM,WV,())
def oq(dn:lW)(k:Nat)(az:XN)(aF:XA)(an:XS)(bh:XF)(l7 jF gV iN:XI)(lh:XB)(gA:XE)(laid:XQ)(out:XL)(bK:XB)(fn:ak×Int×XS×XS×Int)(n:Int):Option (XI×XI×Unit):=
 (bA az n).bind fun x1=>
 aa (fun(jv:XI×XI)=>
  (gl dn k k fn.1 fn.2.1 fn.2.2.1 fn.2.2.2.1 fn.2.2.2.2 az aF an bh gV iN lh gA laid out bK x1.2.2.2.2 (x1.2.2.2.2.length:Int) (jv.1) (jv.2) 0).bind fun o=>
  some (o.1,o.2.1,())) fun cq=>
 bif !(x1.2.2.2.1==([]:ak)) then
  (fC k (aF,an,bh) fn.1 x1.2.2.2.1).bind fun r1=>
  (bA l7 n).bind fun x2=>
  (bA l7 (n.toNat:Int)).bind fun x3=>
  (bA jF n).bind fun x4=>
  (bA jF (n.toNat:Int)).bind fun x5=>
  cq (List.set l7 n.toNat r1.1,List.set jF n.toNat r1.2.1)
 else
  cq (l7,jF)
def gb:Nat→lW
 |0=>fun _ _ _ _ _ _ _ _ _ _ _ _ _ _ _=>none
 |k+1=>oq (gb k) k
section
variable (dn:Gd aW 34 wg)
def tu(k:Nat):lq:=⟨⟨55,[(101,5),(73,5),(58,13)],[lI 101 0,lI 101 1,lI 101 2,lD 101 3 .str,lD 101 4 sI,lD 73 0 .str,lI 73 1,lD 73 2 sS,lD 73 3 sS,lI 73 4,lD 58 0 sN,lD 58 1 sA,lD 58 2 sS,lD 58 3 sF,lD 58 6 sI,lD 58 7 sI,lD 58 8 sB,lD 58 9 sE,lD 58 10 sQ,lD 58 11 sL,lD 58 12 sB,rP 0 58,rP 4 73,rD 44 sI,rI 45],[lF 58 4 I,lF 58 5 I,rI 46],[]⟩,[.ex (.exit 0) [lF 58 4 I,lF 58 5 I]],fun q c v=>gl dn.1 k q c.2.2.2.2.2.1 c.2.2.2.2.2.2.1 c.2.2.2.2.2.2.2.1 c.2.2.2.2.2.2.2.2.1 c.2.2.2.2.2.2.2.2.2.1 c.2.2.2.2.2.2.2.2.2.2.1 c.2.2.2.2.2.2.2.2.2.2.2.1 c.2.2.2.2.2.2.2.2.2.2.2.2.1 c.2.2.2.2.2.2.2.2.2.2.2.2.2.1 c.2.2.2.2.2.2.2.2.2.2.2.2.2.2.1 c.2.2.2.2.2.2.2.2.2.2.2.2.2.2.2.1 c.2.2.2.2.2.2.2.2.2.2.2.2.2.2.2.2.1 c.2.2.2.2.2.2.2.2.2.2.2.2.2.2.2.2.2.1 c.2.2.2.2.2.2.2.2.2.2.2.2.2.2.2.2.2.2.1 c.2.2.2.2.2.2.2.2.2.2.2.2.2.2.2.2.2.2.2.1 c.2.2.2.2.2.2.2.2.2.2.2.2.2.2.2.2.2.2.2.2.1 c.2.2.2.2.2.2.2.2.2.2.2.2.2.2.2.2.2.2.2.2.2.2.2.1 c.2.2.2.2.2.2.2.2.2.2.2.2.2.2.2.2.2.2.2.2.2.2.2.2.1 v.1 v.2.1 v.2.2.1⟩
def wd(k:Nat):Ev aW:=⟨[dn.cl,vN k],[lp 0 (tu dn k) k],[(4,73),(6,101)]⟩
def BM(k q:Nat):Cd aW:=nq (wd dn k) f34 0 (tu dn k) q []
def FM(k:Nat):Cl aW:=ml (wd dn k) 34 f34 func34 call34 [] (oj (oq dn.1 k)) [BM dn k k]
end
theorem vj:∀ k,mb prog gt 34 (wg (gb k))
 |0=>dj (fun _ _=>rfl)
 |k+1=>(FM ⟨_,vj k⟩ k).ok
def FH(k:Nat):Cl aW:=⟨_,_,vj k⟩
def dl(fn:Int)(gV:XI)(lh:XB)(adz:Bool):Option (Int×XI×XB×Unit):=
 (lA gV ([fn])).bind fun l=>
 (lA lh ([adz])).bind fun l2=>
 some ((cm ((l.length:Int) - 1)),l,l2,())
def oV:Cl aW:=ml ⟨[],[],[]⟩ 66 f66 func66 call66 [500000] ⟨⟨39,[(89,7),(58,13)],[(.l 89 0,.lit (.np 58 0)),lI 89 1,lF 89 3 I,lF 89 5 tE,lF 89 6 tQ,lD 58 0 sN,lD 58 1 sA,lD 58 2 sS,lD 58 3 sF,lF 58 4 I,lF 58 5 I,lD 58 6 sI,lD 58 7 sI,lD 58 8 sB,lD 58 9 sE,lD 58 10 sQ,lD 58 11 sL,lD 58 12 sB],[rP 0 89,rD 1 .bool,lF 89 2 I,lF 89 4 .bool],[]⟩,[.ret [rI 500000,lF 89 2 I,lF 89 4 .bool] []],fun c v=>dl c.2.1 v.2.2.1 v.2.2.2.1 v.2.1⟩ []
end
end Go.Fx.R5
namespace Go.Fx.R5
open Go Go.Fx Go.Proofs Go.Proofs.Tryz
noncomputable section
def dv(gA:XE)(lZ to Ed nK arg:Int):Option (XE×Unit):=
 (lA gA ([(lZ,to,Ed,nK,arg)])).bind fun l=>
 some (l,())
def pQ:Cl aW:=ml ⟨[],[],[]⟩ 68 f68 func68 call68 [] ⟨⟨29,[(89,7),(58,13)],[(.l 89 0,.lit (.np 58 0)),lI 89 1,lF 89 2 I,lF 89 3 I,lF 89 4 .bool,lF 89 6 tQ,lD 58 0 sN,lD 58 1 sA,lD 58 2 sS,lD 58 3 sF,lF 58 4 I,lF 58 5 I,lD 58 6 sI,lD 58 7 sI,lD 58 8 sB,lD 58 9 sE,lD 58 10 sQ,lD 58 11 sL,lD 58 12 sB],[rP 0 89,rI 1,rI 2,rI 3,rI 4,rI 5,lF 89 5 tE],[]⟩,[.ret [lF 89 5 tE] []],fun c v=>dv v.2.2.2.2.2.2.1 v.2.1 v.2.2.1 v.2.2.2.1 v.2.2.2.2.1 v.2.2.2.2.2.1⟩ []
abbrev pP:=Int→XI→XI→XB→XE→XQ→XN→XA→XS→XF→XI→XI→XI→XI→XB→XE→XQ→XL→XB→Int→Int→Int→Int→Option (XI×XB×XE×Unit)
def pK(f:pP):EU:=⟨⟨90,[(89,7),(58,13)],[(.l 89 0,.lit (.np 58 0)),lI 89 1,lF 89 3 I,lF 89 6 tQ,lD 58 0 sN,lD 58 1 sA,lD 58 2 sS,lD 58 3 sF,lF 58 4 I,lF 58 5 I,lD 58 6 sI,lD 58 7 sI,lD 58 8 sB,lD 58 9 sE,lD 58 10 sQ,lD 58 11 sL,lD 58 12 sB],[rP 0 89,rI 1,rI 2,rI 3,rI 4,lF 89 2 I,lF 89 4 .bool,lF 89 5 tE],[]⟩,[.ret [lF 89 2 I,lF 89 4 .bool,lF 89 5 tE] []],fun c v=>f c.2.1 v.2.2.2.2.2.1 c.2.2.1 v.2.2.2.2.2.2.1 v.2.2.2.2.2.2.2.1 c.2.2.2.1 c.2.2.2.2.1 c.2.2.2.2.2.1 c.2.2.2.2.2.2.1 c.2.2.2.2.2.2.2.1 c.2.2.2.2.2.2.2.2.1 c.2.2.2.2.2.2.2.2.2.1 c.2.2.2.2.2.2.2.2.2.2.1 c.2.2.2.2.2.2.2.2.2.2.2.1 c.2.2.2.2.2.2.2.2.2.2.2.2.1 c.2.2.2.2.2.2.2.2.2.2.2.2.2.1 c.2.2.2.2.2.2.2.2.2.2.2.2.2.2.1 c.2.2.2.2.2.2.2.2.2.2.2.2.2.2.2.1 c.2.2.2.2.2.2.2.2.2.2.2.2.2.2.2.2.1 v.2.1 v.2.2.1 v.2.2.2.1 v.2.2.2.2.1⟩
def zj(f:pP):iX:=mP (pK f).L (pK f).F (BH [] (pK f).V)
def lw(iI:pP)(k:Nat)(fn:Int)(gV iN:XI)(lh:XB)(gA:XE)(laid:XQ)(az:XN)(aF:XA)(an:XS)(bh:XF)(l7 jF ko mB:XI)(pN:XB)(nt:XE)(sH:XQ)(out:XL)(bK:XB)(n p y z:Int):Option (XI×XB×XE×Unit):=
 (bA az n).bind fun x1=>
 bif x1.1==33 then
  (bA x1.2.2.2.2 0).bind fun x2=>
  (iI fn gV iN lh gA laid az aF an bh l7 jF ko mB pN nt sH out bK x2 p z y).bind fun r1=>
  some (r1.1,r1.2.1,r1.2.2.1,())
 else
  bif x1.1==31 then
   (dl fn gV lh false).bind fun r2=>
   (bA x1.2.2.2.2 0).bind fun x3=>
   (iI fn r2.2.1 iN r2.2.2.1 gA laid az aF an bh l7 jF ko mB pN nt sH out bK x3 p r2.1 z).bind fun r3=>
   (bA x1.2.2.2.2 1).bind fun x4=>
   (iI fn r3.1 iN r3.2.1 r3.2.2.1 laid az aF an bh l7 jF ko mB pN nt sH out bK x4 r2.1 y z).bind fun r4=>
   some (r4.1,r4.2.1,r4.2.2.1,())
  else
   bif x1.1==32 then
    (dl fn gV lh false).bind fun r5=>
    (bA x1.2.2.2.2 0).bind fun x5=>
    (iI fn r5.2.1 iN r5.2.2.1 gA laid az aF an bh l7 jF ko mB pN nt sH out bK x5 p y r5.1).bind fun r6=>
    (bA x1.2.2.2.2 1).bind fun x6=>
    (iI fn r6.1 iN r6.2.1 r6.2.2.1 laid az aF an bh l7 jF ko mB pN nt sH out bK x6 r5.1 y z).bind fun r7=>
    some (r7.1,r7.2.1,r7.2.2.1,())
   else
    (dv gA p y 3 n 1).bind fun r8=>
    (dv r8.1 p z 3 n 0).bind fun r9=>
    some (gV,lh,r9.1,())
def im:Nat→pP
 |0=>fun _ _ _ _ _ _ _ _ _ _ _ _ _ _ _ _ _ _ _ _ _ _ _=>none
 |k+1=>lw (im k) k
section
variable (iI:Gd aW 154 zj)
def IL(k:Nat):Cl aW:=ml ⟨[oV,pQ,iI.cl],[],[(10,101)]⟩ 154 f154 func154 call154 [] (pK (lw iI.1 k)) []
end
theorem xW:∀ k,mb prog gt 154 (zj (im k))
 |0=>dj (fun _ _=>rfl)
 |k+1=>(IL ⟨_,xW k⟩ k).ok
def Iw(k:Nat):Cl aW:=⟨_,_,xW k⟩
abbrev ji:=Int→XI→XI→XB→XE→XQ→XN→XA→XS→XF→XI→XI→XI→XI→XB→XE→XQ→XL→XB→Int→Int→Int→Option (XI×XB×XE×XQ×Unit)
def oM(f:ji):EU:=⟨⟨52,[(89,7),(58,13)],[(.l 89 0,.lit (.np 58 0)),lI 89 1,lF 89 3 I,lD 58 0 sN,lD 58 1 sA,lD 58 2 sS,lD 58 3 sF,lF 58 4 I,lF 58 5 I,lD 58 6 sI,lD 58 7 sI,lD 58 8 sB,lD 58 9 sE,lD 58 10 sQ,lD 58 11 sL,lD 58 12 sB],[rP 0 89,rI 1,rI 2,rI 3,lF 89 2 I,lF 89 4 .bool,lF 89 5 tE,lF 89 6 tQ],[]⟩,[.ret [lF 89 2 I,lF 89 4 .bool,lF 89 5 tE,lF 89 6 tQ] []],fun c v=>f c.2.1 v.2.2.2.2.1 c.2.2.1 v.2.2.2.2.2.1 v.2.2.2.2.2.2.1 v.2.2.2.2.2.2.2.1 c.2.2.2.1 c.2.2.2.2.1 c.2.2.2.2.2.1 c.2.2.2.2.2.2.1 c.2.2.2.2.2.2.2.1 c.2.2.2.2.2.2.2.2.1 c.2.2.2.2.2.2.2.2.2.1 c.2.2.2.2.2.2.2.2.2.2.1 c.2.2.2.2.2.2.2.2.2.2.2.1 c.2.2.2.2.2.2.2.2.2.2.2.2.1 c.2.2.2.2.2.2.2.2.2.2.2.2.2.1 c.2.2.2.2.2.2.2.2.2.2.2.2.2.2.1 c.2.2.2.2.2.2.2.2.2.2.2.2.2.2.2.1 v.2.1 v.2.2.1 v.2.2.2.1⟩
def xJ(f:ji):iX:=mP (oM f).L (oM f).F (BH [] (oM f).V)
abbrev gm:=Int→XI→XI→XB→XE→XQ→XN→XA→XS→XF→XI→XI→XI→XI→XB→XE→XQ→XL→XB→Int→Int→Int→Option (XI×XB×XE×XQ×Unit)
def l8(f:gm):EU:=⟨⟨218,[(89,7),(58,13)],[(.l 89 0,.lit (.np 58 0)),lI 89 1,lF 89 3 I,lD 58 0 sN,lD 58 1 sA,lD 58 2 sS,lD 58 3 sF,lF 58 4 I,lF 58 5 I,lD 58 6 sI,lD 58 7 sI,lD 58 8 sB,lD 58 9 sE,lD 58 10 sQ,lD 58 11 sL,lD 58 12 sB],[rP 0 89,rI 1,rI 2,rI 3,lF 89 2 I,lF 89 4 .bool,lF 89 5 tE,lF 89 6 tQ],[]⟩,[.ret [lF 89 2 I,lF 89 4 .bool,lF 89 5 tE,lF 89 6 tQ] []],fun c v=>f c.2.1 v.2.2.2.2.1 c.2.2.1 v.2.2.2.2.2.1 v.2.2.2.2.2.2.1 v.2.2.2.2.2.2.2.1 c.2.2.2.1 c.2.2.2.2.1 c.2.2.2.2.2.1 c.2.2.2.2.2.2.1 c.2.2.2.2.2.2.2.1 c.2.2.2.2.2.2.2.2.1 c.2.2.2.2.2.2.2.2.2.1 c.2.2.2.2.2.2.2.2.2.2.1 c.2.2.2.2.2.2.2.2.2.2.2.1 c.2.2.2.2.2.2.2.2.2.2.2.2.1 c.2.2.2.2.2.2.2.2.2.2.2.2.2.1 c.2.2.2.2.2.2.2.2.2.2.2.2.2.2.1 c.2.2.2.2.2.2.2.2.2.2.2.2.2.2.2.1 v.2.1 v.2.2.1 v.2.2.2.1⟩
def s9(f:gm):iX:=mP (l8 f).L (l8 f).F (BH [] (l8 f).V)
def gP(cu:ji)(bU:gm)(q:Nat):Nat→XN→XA→XS→XF→XI→XI→XI→XI→XB→XE→XQ→XL→XB→Int→XI→Int→XI→XI→Int→XI→XB→XE→XQ→Int→Int→Option (XI×XB×XE×XQ×Unit)
 |0,_,_,_,_,_,_,_,_,_,_,_,_,_,_,_,_,_,_,_,_,_,_,_,_,_=>none
 |k+1,bX,eQ,gf,iB,ZL,WU,YE,Yy,aci,MB,acN,vX,mE,EZ,Yz,q2,cE,afU,afV,US,YA,Yx,acO,p2,ab5=>
  bif decide (ab5<afV) then
   (bA afU ab5).bind fun x2=>
   aa (fun(jv:Int×XI×XB)=>
    (bU EZ (jv.2.1) Yz (jv.2.2) Yx acO bX eQ gf iB ZL WU YE Yy aci MB acN vX mE x2 p2 (jv.1)).bind fun r3=>
    gP cu bU q k bX eQ gf iB ZL WU YE Yy aci MB acN vX mE EZ Yz q2 cE afU afV r3.1 r3.2.1 r3.2.2.1 r3.2.2.2.1 (jv.1) (cm (ab5+1))) fun cq=>
   bif decide (ab5<(cm ((cE.length:Int) - 1))) then
    (dl EZ US YA false).bind fun r2=>
    cq (r2.1,r2.2.1,r2.2.2.1)
   else
    cq (q2,US,YA)
  else
   some (US,YA,Yx,acO,())
def mJ(cu:ji)(bU:gm)(k:Nat)(fn:Int)(gV iN:XI)(lh:XB)(gA:XE)(laid:XQ)(az:XN)(aF:XA)(an:XS)(bh:XF)(l7 jF ko mB:XI)(pN:XB)(nt:XE)(sH:XQ)(out:XL)(bK:XB)(n p q:Int):Option (XI×XB×XE×XQ×Unit):=
 (bA az n).bind fun x1=>
 bif (x1.2.2.2.2.length:Int)==0 then
  (dv gA p q 1 (-1) 0).bind fun r1=>
  some (gV,lh,r1.1,laid,())
 else
  (gP cu bU k k az aF an bh l7 jF ko mB pN nt sH out bK fn iN q x1.2.2.2.2 x1.2.2.2.2 (x1.2.2.2.2.length:Int) gV lh gA laid p 0).bind fun o=>
  some (o.1,o.2.1,o.2.2.1,o.2.2.2.1,())
def cQ(cu:ji)(bU:gm)(k:Nat)(fn:Int)(gV iN:XI)(lh:XB)(gA:XE)(laid:XQ)(az:XN)(aF:XA)(an:XS)(bh:XF)(l7 jF ko mB:XI)(pN:XB)(nt:XE)(sH:XQ)(out:XL)(bK:XB)(n p q:Int):Option (XI×XB×XE×XQ×Unit):=
 (bA az n).bind fun x1=>
 aa (fun(jv:XI×XB×XE×XQ×Int×Int)=>
  (bA (jv.2.2.2.1) n).bind fun x12=>
  (bA (jv.2.2.2.1) (n.toNat:Int)).bind fun x13=>
  some ((jv.1),(jv.2.1),(jv.2.2.1),List.set (jv.2.2.2.1) n.toNat (p,q,(jv.2.2.2.2.1),(jv.2.2.2.2.2)),())) fun ir=>
 bif x1.1==14 then
  (dl fn gV lh false).bind fun r1=>
  aa (fun(jv:XI×XB×Int)=>
   (bA x1.2.2.2.2 0).bind fun x2=>
   (im k fn (jv.1) iN (jv.2.1) gA laid az aF an bh l7 jF ko mB pN nt sH out bK x2 p r1.1 (jv.2.2)).bind fun r3=>
   (bA x1.2.2.2.2 1).bind fun x3=>
   (cu fn r3.1 iN r3.2.1 r3.2.2.1 laid az aF an bh l7 jF ko mB pN nt sH out bK x3 r1.1 q).bind fun r4=>
   bif (x1.2.2.2.2.length:Int)==3 then
    (bA x1.2.2.2.2 2).bind fun x4=>
    (cu fn r4.1 iN r4.2.1 r4.2.2.1 r4.2.2.2.1 az aF an bh l7 jF ko mB pN nt sH out bK x4 (jv.2.2) q).bind fun r5=>
    ir (r5.1,r5.2.1,r5.2.2.1,r5.2.2.2.1,r1.1,(jv.2.2))
   else
    ir (r4.1,r4.2.1,r4.2.2.1,r4.2.2.2.1,r1.1,(jv.2.2))) fun cq=>
  bif (x1.2.2.2.2.length:Int)==3 then
   (dl fn r1.2.1 r1.2.2.1 false).bind fun r2=>
   cq (r2.2.1,r2.2.2.1,r2.1)
  else
   cq (r1.2.1,r1.2.2.1,q)
 else
  bif x1.1==15 then
   (dl fn gV lh true).bind fun r6=>
   (dl fn r6.2.1 r6.2.2.1 false).bind fun r7=>
   (dv gA p r6.1 1 (-1) 0).bind fun r8=>
   (bA x1.2.2.2.2 0).bind fun x5=>
   (im k fn r7.2.1 iN r7.2.2.1 r8.1 laid az aF an bh l7 jF ko mB pN nt sH out bK x5 r6.1 r7.1 q).bind fun r9=>
   (bA x1.2.2.2.2 1).bind fun x6=>
   (cu fn r9.1 iN r9.2.1 r9.2.2.1 laid az aF an bh l7 jF ko mB pN nt sH out bK x6 r7.1 r6.1).bind fun mw=>
   ir (mw.1,mw.2.1,mw.2.2.1,mw.2.2.2.1,r7.1,q)
  else
   bif x1.1==16 then
    (dl fn gV lh true).bind fun po=>
    (dl fn po.2.1 po.2.2.1 false).bind fun qY=>
    (dv gA p po.1 8 n 0).bind fun sM=>
    (dv sM.1 po.1 qY.1 9 n 1).bind fun sW=>
    (dv sW.1 po.1 q 9 n 0).bind fun sa=>
    (dl fn qY.2.1 qY.2.2.1 false).bind fun t7=>
    (bA x1.2.2.2.2 2).bind fun x7=>
    (cu fn t7.2.1 iN t7.2.2.1 sa.1 laid az aF an bh l7 jF ko mB pN nt sH out bK x7 qY.1 t7.1).bind fun xe=>
    (dv xe.2.2.1 t7.1 po.1 10 n 0).bind fun sO=>
    ir (xe.1,xe.2.1,sO.1,xe.2.2.2.1,qY.1,q)
   else
    bif x1.1==19 then
     (dl fn gV lh false).bind fun sX=>
     (bA x1.2.2.2.2 0).bind fun x8=>
     (im k fn sX.2.1 iN sX.2.2.1 gA laid az aF an bh l7 jF ko mB pN nt sH out bK x8 p q sX.1).bind fun yP=>
     (dv yP.2.2.1 sX.1 sX.1 4 n 0).bind fun BJ=>
     ir (yP.1,yP.2.1,BJ.1,laid,q,sX.1)
    else
     bif x1.1==21 then
      (dv gA p p 6 n 0).bind fun PH=>
      ir (gV,lh,PH.1,laid,0,0)
     else
      bif x1.1==20 then
       (dv gA p p 7 n 0).bind fun OQ=>
       ir (gV,lh,OQ.1,laid,0,0)
      else
       bif x1.1==22 then
        (bA x1.2.2.2.2 0).bind fun x9=>
        (bA jF x9).bind fun x10=>
        (bA jF (x9.toNat:Int)).bind fun x11=>
        (dv gA p q 5 n x11).bind fun JD=>
        ir (gV,lh,JD.1,laid,0,0)
       else
        (dv gA p q 2 n 0).bind fun r25=>
        ir (gV,lh,r25.1,laid,0,0)
def jq:Nat→ji×gm
 |0=>(fun _ _ _ _ _ _ _ _ _ _ _ _ _ _ _ _ _ _ _ _ _ _=>none,fun _ _ _ _ _ _ _ _ _ _ _ _ _ _ _ _ _ _ _ _ _ _=>none)
 |k+1=>(mJ (jq k).1 (jq k).2 k,cQ (jq k).1 (jq k).2 k)
def jw(k:Nat):ji:=(jq k).1
def gj(k:Nat):gm:=(jq k).2
section
variable (cu:Gd aW 67 xJ) (bU:Gd aW 110 s9)
def ug(k:Nat):lq:=⟨⟨52,[(58,13),(89,7)],[lD 58 0 sN,lD 58 1 sA,lD 58 2 sS,lD 58 3 sF,lF 58 4 I,lF 58 5 I,lD 58 6 sI,lD 58 7 sI,lD 58 8 sB,lD 58 9 sE,lD 58 10 sQ,lD 58 11 sL,lD 58 12 sB,(.l 89 0,.lit (.np 58 0)),lI 89 1,lF 89 3 I,rP 0 89,rI 3,rD 8 sI,rD 30 sI,rI 31],[lF 89 2 I,lF 89 4 .bool,lF 89 5 tE,lF 89 6 tQ,rI 2,rI 32],[]⟩,[.ex (.exit 0) [lF 89 2 I,lF 89 4 .bool,lF 89 5 tE,lF 89 6 tQ]],fun q c v=>gP cu.1 bU.1 k q c.1 c.2.1 c.2.2.1 c.2.2.2.1 c.2.2.2.2.1 c.2.2.2.2.2.1 c.2.2.2.2.2.2.1 c.2.2.2.2.2.2.2.1 c.2.2.2.2.2.2.2.2.1 c.2.2.2.2.2.2.2.2.2.1 c.2.2.2.2.2.2.2.2.2.2.1 c.2.2.2.2.2.2.2.2.2.2.2.1 c.2.2.2.2.2.2.2.2.2.2.2.2.1 c.2.2.2.2.2.2.2.2.2.2.2.2.2.2.1 c.2.2.2.2.2.2.2.2.2.2.2.2.2.2.2.1 c.2.2.2.2.2.2.2.2.2.2.2.2.2.2.2.2.2.1 c.2.2.2.2.2.2.2.2.2.2.2.2.2.2.2.2.2.2.1 c.2.2.2.2.2.2.2.2.2.2.2.2.2.2.2.2.2.2.2.1 c.2.2.2.2.2.2.2.2.2.2.2.2.2.2.2.2.2.2.2.2.1 v.1 v.2.1 v.2.2.1 v.2.2.2.1 v.2.2.2.2.1 v.2.2.2.2.2.1⟩
def xw(k:Nat):Ev aW:=⟨[oV,pQ,bU.cl],[lp 0 (ug cu bU k) k],[]⟩
def Da(k q:Nat):Cd aW:=nq (xw cu bU k) f67 0 (ug cu bU k) q []
def Hf(k:Nat):Cl aW:=ml (xw cu bU k) 67 f67 func67 call67 [] (oM (mJ cu.1 bU.1 k)) [Da cu bU k k]
def B0(k:Nat):Cl aW:=ml ⟨[oV,cu.cl,pQ,Iw k],[],[(8,101),(9,186)]⟩ 110 f110 func110 call110 [] (l8 (cQ cu.1 bU.1 k)) []
end
theorem oz:∀ k,mb prog gt 67 (xJ (jw k))∧mb prog gt 110 (s9 (gj k))
 |0=>⟨dj (fun _ _=>rfl),dj (fun _ _=>rfl)⟩
 |k+1=>have ih:=oz k;⟨(Hf ⟨_,ih.1⟩ ⟨_,ih.2⟩ k).ok,(B0 ⟨_,ih.1⟩ ⟨_,ih.2⟩ k).ok⟩
def GV(k:Nat):Cl aW:=⟨_,_,(oz k).1⟩
def Rf(k:Nat):Cl aW:=⟨_,_,(oz k).2⟩
def qX(k:Nat)(gV iN:XI)(lh:XB)(gA:XE)(laid:XQ)(az:XN)(aF:XA)(an:XS)(bh:XF)(l7 jF ko mB:XI)(pN:XB)(nt:XE)(sH:XQ)(out:XL)(bK:XB)(EZ:Int):Option (Int×XI×XI×XB×XE×XQ×Unit):=
 (dl EZ gV lh false).bind fun r1=>
 (lA iN ([r1.1])).bind fun l=>
 (dl EZ r1.2.1 r1.2.2.1 false).bind fun r2=>
 (bA bh EZ).bind fun x1=>
 (jw k EZ r2.2.1 l r2.2.2.1 gA laid az aF an bh l7 jF ko mB pN nt sH out bK x1.2.2.2.2 r1.1 r2.1).bind fun r3=>
 (dv r3.2.2.1 r2.1 r2.1 6 (-1) 0).bind fun r4=>
 some (EZ,r3.1,l,r3.2.1,r4.1,r3.2.2.2.1,())
def Dh(k:Nat):Cl aW:=ml ⟨[oV,GV k,pQ],[],[]⟩ 35 f35 func35 call35 [] ⟨⟨46,[(89,7),(58,13)],[(.l 89 0,.lit (.np 58 0)),lD 58 0 sN,lD 58 1 sA,lD 58 2 sS,lD 58 3 sF,lF 58 4 I,lF 58 5 I,lD 58 6 sI,lD 58 7 sI,lD 58 8 sB,lD 58 9 sE,lD 58 10 sQ,lD 58 11 sL,lD 58 12 sB],[rP 0 89,rI 1,lI 89 1,lF 89 2 I,lF 89 3 I,lF 89 4 .bool,lF 89 5 tE,lF 89 6 tQ],[]⟩,[.ret [lI 89 1,lF 89 2 I,lF 89 3 I,lF 89 4 .bool,lF 89 5 tE,lF 89 6 tQ] []],fun c v=>qX k v.2.2.2.1 v.2.2.2.2.1 v.2.2.2.2.2.1 v.2.2.2.2.2.2.1 v.2.2.2.2.2.2.2.1 c.2.1 c.2.2.1 c.2.2.2.1 c.2.2.2.2.1 c.2.2.2.2.2.1 c.2.2.2.2.2.2.1 c.2.2.2.2.2.2.2.1 c.2.2.2.2.2.2.2.2.1 c.2.2.2.2.2.2.2.2.2.1 c.2.2.2.2.2.2.2.2.2.2.1 c.2.2.2.2.2.2.2.2.2.2.2.1 c.2.2.2.2.2.2.2.2.2.2.2.2.1 c.2.2.2.2.2.2.2.2.2.2.2.2.2.1 v.2.1⟩ []
def ju(q:Nat):Nat→XI→XE→Int→XB→Int→Option (XB×Unit)
 |0,_,_,_,_,_=>none
 |k+1,ko,PL,afT,F6,ael=>
  bif decide (ael<afT) then
   aa (fun(DQ:XB)=>
    ju q k ko PL afT DQ (cm (ael+1))) fun cq=>
   (bA PL ael).bind fun x1=>
   bif x1.2.2.1==5 then
    (bA ko x1.1).bind fun x2=>
    bif decide (0≤x2)&&decide (x2<6) then
     bif decide (0≤x1.2.2.2.2)&&decide (x1.2.2.2.2<6) then
      (bA F6 (((x2.toNat * 6)+x1.2.2.2.2.toNat * 1):Int)).bind fun x5=>
      cq (List.set F6 ((x2.toNat * 6)+x1.2.2.2.2.toNat * 1) true)
     else
      none
    else
     none
   else
    cq F6
  else
   some (F6,())
def fO(q:Nat):Nat→Int→Int→Int→XB→Int→Option (XB×Unit)
 |0,_,_,_,_,_=>none
 |k+1,k2,i1,VQ,J2,Su=>
  bif decide (Su<VQ) then
   aa (fun(adi:XB)=>
    fO q k k2 i1 VQ adi (cm (Su+1))) fun ir=>
   bif decide (0≤i1)&&decide (i1<6) then
    bif decide (0≤k2)&&decide (k2<6) then
     (bA J2 (((i1.toNat * 6)+k2.toNat * 1):Int)).bind fun x3=>
     aa (fun(v:Bool)=>
      bif v then
       bif decide (0≤i1)&&decide (i1<6) then
        bif decide (0≤Su)&&decide (Su<6) then
         (bA J2 (((i1.toNat * 6)+Su.toNat * 1):Int)).bind fun x9=>
         ir (List.set J2 ((i1.toNat * 6)+Su.toNat * 1) true)
        else
         none
       else
        none
      else
       ir J2) fun cq=>
     bif x3 then
      bif decide (0≤k2)&&decide (k2<6) then
       bif decide (0≤Su)&&decide (Su<6) then
        (bA J2 (((k2.toNat * 6)+Su.toNat * 1):Int)).bind fun x6=>
        cq x6
       else
        none
      else
       none
     else
      cq false
    else
     none
   else
    none
  else
   some (J2,())
def kv(q:Nat):Nat→Int→Int→Int→XB→Int→Option (XB×Unit)
 |0,_,_,_,_,_=>none
 |k+1,n2,k1,UC,DQ,OD=>
  bif decide (OD<UC) then
   (fO q q k1 OD n2 DQ 0).bind fun o2=>
   kv q k n2 k1 UC o2.1 (cm (OD+1))
  else
   some (DQ,())
def kr(q:Nat):Nat→Int→Int→XB→Int→Option (XB×Unit)
 |0,_,_,_,_=>none
 |k+1,n,OC,F6,aen=>
  bif decide (aen<OC) then
   (kv q q n aen n F6 0).bind fun o2=>
   kr q k n OC o2.1 (cm (aen+1))
  else
   some (F6,())
def fZ(q:Nat):Nat→XB→Int→Int→XB→Int→Option (XB×Unit)
 |0,_,_,_,_,_=>none
 |k+1,DQ,i1,af2,Tc,L7=>
  bif decide (L7<af2) then
   aa (fun(aeL:XB)=>
    fZ q k DQ i1 af2 aeL (cm (L7+1))) fun uf=>
   bif decide (0≤L7)&&decide (L7<6) then
    bif decide (0≤L7)&&decide (L7<6) then
     (bA DQ (((L7.toNat * 6)+L7.toNat * 1):Int)).bind fun x3=>
     aa (fun(v2:Bool)=>
      bif v2 then
       (bA Tc i1).bind fun x7=>
       (bA Tc (i1.toNat:Int)).bind fun x8=>
       uf (List.set Tc i1.toNat true)
      else
       uf Tc) fun ir=>
     bif x3 then
      aa (fun(v:Bool)=>
       ir v) fun cq=>
      bif i1==L7 then
       cq true
      else
       bif decide (0≤L7)&&decide (L7<6) then
        bif decide (0≤i1)&&decide (i1<6) then
         (bA DQ (((L7.toNat * 6)+i1.toNat * 1):Int)).bind fun x6=>
         cq x6
        else
         none
       else
        none
     else
      ir false
    else
     none
   else
    none
  else
   some (Tc,())
def kw(q:Nat):Nat→Int→XB→Int→XB→Int→Option (XB×Unit)
 |0,_,_,_,_,_=>none
 |k+1,n,F6,af1,acq,aep=>
  bif decide (aep<af1) then
   (fZ q q F6 aep n acq 0).bind fun o3=>
   kw q k n F6 af1 o3.1 (cm (aep+1))
  else
   some (acq,())
def uQ(k:Nat)(bh:XF)(gV:XI)(gA:XE):Option (XB×Unit):=
 (ju k k gV gA (gA.length:Int) (List.replicate 36 false) 0).bind fun o=>
 (kr k k (bh.length:Int) (bh.length:Int) o.1 0).bind fun o2=>
 (mkl (bh.length:Int) (false:Bool)).bind fun z=>
 (sub z 0 (bh.length:Int)).bind fun l=>
 (kw k k (bh.length:Int) o2.1 (bh.length:Int) l 0).bind fun o3=>
 some (o3.1,())
def yi(k:Nat):lq:=⟨⟨110,[(58,13)],[lD 58 0 sN,lD 58 1 sA,lD 58 2 sS,lD 58 3 sF,lF 58 4 I,lF 58 5 I,lD 58 6 sI,lD 58 7 sI,lD 58 8 sB,lD 58 9 sE,lD 58 10 sQ,lD 58 11 sL,lD 58 12 sB,rP 0 58,rI 3,rD 23 sE,rI 24],[(.r 4,.h .arr .bool),rI 25],[]⟩,[.ex (.exit 0) [(.r 4,.h .arr .bool)]],fun q c v=>ju k q c.2.2.2.2.2.2.1 c.2.2.2.2.2.2.2.2.2.2.2.2.2.2.2.1 c.2.2.2.2.2.2.2.2.2.2.2.2.2.2.2.2.1 v.1 v.2.1⟩
def yl(k:Nat):lq:=⟨⟨110,[(58,13)],[lD 58 0 sN,lD 58 1 sA,lD 58 2 sS,lD 58 3 sF,lF 58 4 I,lF 58 5 I,lD 58 6 sI,lD 58 7 sI,lD 58 8 sB,lD 58 9 sE,lD 58 10 sQ,lD 58 11 sL,lD 58 12 sB,rI 3,rI 7,rI 8,rI 46,rI 47,rI 50,rI 51,rI 54],[(.r 4,.h .arr .bool),rI 55],[]⟩,[.ex (.exit 6) [(.r 4,.h .arr .bool)]],fun q c v=>fO k q c.2.2.2.2.2.2.2.2.2.2.2.2.2.2.1 c.2.2.2.2.2.2.2.2.2.2.2.2.2.2.2.1 c.2.2.2.2.2.2.2.2.2.2.2.2.2.2.2.2.2.2.2.2.1 v.1 v.2.1⟩
def yk(k:Nat):lq:=⟨⟨110,[(58,13)],[lD 58 0 sN,lD 58 1 sA,lD 58 2 sS,lD 58 3 sF,lF 58 4 I,lF 58 5 I,lD 58 6 sI,lD 58 7 sI,lD 58 8 sB,lD 58 9 sE,lD 58 10 sQ,lD 58 11 sL,lD 58 12 sB,rI 3,rI 7,rI 46,rI 47,rI 50],[(.r 4,.h .arr .bool),rI 51],[]⟩,[.ex (.exit 4) [(.r 4,.h .arr .bool)]],fun q c v=>kv k q c.2.2.2.2.2.2.2.2.2.2.2.2.2.1 c.2.2.2.2.2.2.2.2.2.2.2.2.2.2.1 c.2.2.2.2.2.2.2.2.2.2.2.2.2.2.2.2.2.1 v.1 v.2.1⟩
def yj(k:Nat):lq:=⟨⟨110,[(58,13)],[lD 58 0 sN,lD 58 1 sA,lD 58 2 sS,lD 58 3 sF,lF 58 4 I,lF 58 5 I,lD 58 6 sI,lD 58 7 sI,lD 58 8 sB,lD 58 9 sE,lD 58 10 sQ,lD 58 11 sL,lD 58 12 sB,rI 3,rI 46],[(.r 4,.h .arr .bool),rI 47],[]⟩,[.ex (.exit 2) [(.r 4,.h .arr .bool)]],fun q c v=>kr k q c.2.2.2.2.2.2.2.2.2.2.2.2.2.1 c.2.2.2.2.2.2.2.2.2.2.2.2.2.2.1 v.1 v.2.1⟩
def wq(k:Nat):lq:=⟨⟨110,[(58,13)],[lD 58 0 sN,lD 58 1 sA,lD 58 2 sS,lD 58 3 sF,lF 58 4 I,lF 58 5 I,lD 58 6 sI,lD 58 7 sI,lD 58 8 sB,lD 58 9 sE,lD 58 10 sQ,lD 58 11 sL,lD 58 12 sB,rI 3,(.r 4,.h .arr .bool),rI 11,rI 79,rI 80,rI 83],[(.r 10,.h .dB .bool),rI 84],[]⟩,[.ex (.exit 10) [(.r 10,.h .dB .bool)]],fun q c v=>fZ k q c.2.2.2.2.2.2.2.2.2.2.2.2.2.2.1 c.2.2.2.2.2.2.2.2.2.2.2.2.2.2.2.1 c.2.2.2.2.2.2.2.2.2.2.2.2.2.2.2.2.2.2.1 v.1 v.2.1⟩
def ym(k:Nat):lq:=⟨⟨110,[(58,13)],[lD 58 0 sN,lD 58 1 sA,lD 58 2 sS,lD 58 3 sF,lF 58 4 I,lF 58 5 I,lD 58 6 sI,lD 58 7 sI,lD 58 8 sB,lD 58 9 sE,lD 58 10 sQ,lD 58 11 sL,lD 58 12 sB,rI 3,(.r 4,.h .arr .bool),rI 79],[(.r 10,.h .dB .bool),rI 80],[]⟩,[.ex (.exit 8) [(.r 10,.h .dB .bool)]],fun q c v=>kw k q c.2.2.2.2.2.2.2.2.2.2.2.2.2.1 c.2.2.2.2.2.2.2.2.2.2.2.2.2.2.1 c.2.2.2.2.2.2.2.2.2.2.2.2.2.2.2.1 v.1 v.2.1⟩
def lz(k:Nat):Ev aW:=⟨[],[lp 0 (yi k) k,lp 6 (yl k) k,lp 4 (yk k) k,lp 2 (yj k) k,lp 10 (wq k) k,lp 8 (ym k) k],[(4,9999)]⟩
def Gu(k q:Nat):Cd aW:=nq (lz k) f36 0 (yi k) q []
def Gx(k q:Nat):Cd aW:=nq (lz k) f36 6 (yl k) q []
def Gw(k q:Nat):Cd aW:=nq (lz k) f36 4 (yk k) q [Gx k k]
def Gv(k q:Nat):Cd aW:=nq (lz k) f36 2 (yj k) q [Gw k k]
def Fr(k q:Nat):Cd aW:=nq (lz k) f36 10 (wq k) q []
def Gy(k q:Nat):Cd aW:=nq (lz k) f36 8 (ym k) q [Fr k k]
def Lq(k:Nat):Cl aW:=ml (lz k) 36 f36 func36 call36 [500000] ⟨⟨110,[(58,13)],[lD 58 0 sN,lD 58 1 sA,lD 58 2 sS,lD 58 3 sF,lF 58 4 I,lF 58 5 I,lD 58 6 sI,lD 58 7 sI,lD 58 8 sB,lD 58 9 sE,lD 58 10 sQ,lD 58 11 sL,lD 58 12 sB],[rP 0 58],[]⟩,[.ret [(.r 500000,.h .dB .bool)] []],fun c v=>uQ k c.2.2.2.1 c.2.2.2.2.2.2.1 c.2.2.2.2.2.2.2.2.2.1⟩ [Gu k k,Gv k k,Gy k k]
end
end Go.Fx.R5
namespace Go.Fx.R5
open Go Go.Fx Go.Proofs Go.Proofs.Tryz
noncomputable section
def sqA:Code→Code | .seq a _=>a|c=>c
def sqB:Code→Code | .seq _ b=>b|c=>c
noncomputable def q0:Code:=qT f32
noncomputable def q1:Code:=sqB q0
noncomputable def q2:Code:=sqB q1
noncomputable def q3:Code:=sqB q2
noncomputable def q4:Code:=sqB q3
noncomputable def q5:Code:=sqB q4
def Dw(k:Nat):Ev aW:=⟨[JQ k,Dj k],[],[(2,9002),(3,9003),(19,129)]⟩
abbrev ptR:List Ty:=[.slice (.aO I (.aO I (.aO I (.aO .str (.slice I))))),.aO I I]
def Wu(o:Nat):Option ab→Bool
 |some (.one (.np p z))=>Nat.beq p o&&Nat.beq z 0
 |_=>false
def Ts(n:Nat):Option (List ag)→Bool
 |some l=>Nat.beq l.length n
 |none=>false
def WZ(st:St):Bool:=(st.ib 20).isNone&&Nat.beq st.n 28&&Wu 9002 (st.ib 2)&&Wu 9003 (st.ib 3)&&Ts 1 (st.dL 9002)&&Ts 2 (st.dL 9003)
def ptP(av:ab)(st:St):Option (DL ptR):=
 match av with
 |.Ak T ls=>bif Nat.beq T 131&&Ts 1 (st.dL 9002)&&Ts 2 (st.dL 9003) then(Qe [I,I] ls).map fun d=>([],(d.1,d.2.1),()) else none
 |_=>none
noncomputable def Yf(k:Nat)(e:Exit)(st:St):Option (DL ptR):=match e with
 |.normal=>sm (Dw k).e (sqB q5) st (kD (Dw k).e f32.results.toList ptR) (fun _ _=>none)
 |_=>none
noncomputable def ag5(k:Nat)(e:Exit)(st:St):Option (DL ptR):=match e with
 |.normal=>bif WZ st then sm (Dw k).e (sqA q5) st (Yf k) ptP else none
 |_=>none
noncomputable def ag4(k:Nat)(e:Exit)(st:St):Option (DL ptR):=match e with
 |.normal=>sm (Dw k).e (sqA q3) st (ag5 k) (fun _ _=>none)
 |.ret=>PI (Dw k).e f32.results.toList ptR st
 |_=>none
noncomputable def ag3(k:Nat)(e:Exit)(st:St):Option (DL ptR):=match e with
 |.normal=>sm (Dw k).e (sqA q2) st (ag4 k) (fun _ _=>none)
 |_=>none
noncomputable def ag2(k:Nat)(e:Exit)(st:St):Option (DL ptR):=match e with
 |.normal=>sm (Dw k).e (sqA q1) st (ag3 k) (fun _ _=>none)
 |_=>none
def pe(k:Nat)(s:ak):Option (List (Int×Int×Int×ak×List Int)×(Int×Int)×Unit):=
 (mG k s).bind fun r=>bif r.2.1.1 != 0 then some ([],r.2.1,()) else
 (oo k r.1 (s.length:Int) 0 0 []).bind fun r=>match r with
 |.inl o=>some (o.2.2.1,(0,0),())
 |.inr p=>some ([],(p.1,p.2.1),())
def La(k:Nat):iX:=BB [.str] ptR (fun d=>pe k d.1) id
theorem aeM(k:Nat)(d:DL [.str]):pe k d.1=sm (Dw k).e (sqA q0) (stD 28 [.str] d) (ag2 k) (fun _ _=>none):=by kernel_rfl
def adX:Oper:={dst:=some 20,op:=.makeFunc (.func 59) #[] #[.tmp 2,.tmp 3],type:=1,pos:= "l3_parse.go:79",after:=#[],guard:=none}
def adn:Oper:={dst:=none,op:=.defer {callee:=.value (.tmp 20),args:=#[],argTypes:=#[]},type:=0,pos:= "l3_parse.go:79",after:=#[{on:=0,ground:=.data}],guard:=none}
def TQ:Oper:={dst:=some 21,op:=.move (.tmp 5),type:=127,pos:= "l3_parse.go:84",after:=#[],guard:=none}
def S6:Oper:={dst:=some 22,op:=.call {callee:=.value (.func 60),args:=#[.tmp 21],argTypes:=#[127]},type:=0,pos:= "l3_parse.go:84",after:=#[{on:=0,ground:=.data}],guard:=none}
theorem abN:f32.body=some (.seq (sqA q0) (.seq (sqA q1) (.seq (sqA q2) (.seq (sqA q3) (.seq (.region 5 #[adX,adn] false) (.seq (sqA q5) (sqB q5))))))):=by kernel_rfl
theorem abO:sqA q5=.region 6 #[TQ,S6] false:=by kernel_rfl
theorem TC{o:Nat}{x:Option ab}(h:Wu o x=true):x=some (.one (.np o 0)):=by
 unfold Wu at h;split at h
 ·simp only[Q4] at h
  rw[Q5 h.1,Q5 h.2]
 ·cases h
theorem Mf{n:Nat}{x:Option (List ag)}(h:Ts n x=true):∃ l,x=some l∧l.length=n:=by
 unfold Ts at h;split at h
 ·exact⟨_,rfl,Q5 h⟩
 ·cases h
theorem YX{Q:Exit→Act→World→Prop}{act:Act}{w:World}(hn:act.tmps.size=28)(h:Q .normal {tmps:=act.tmps.setIfInBounds 20 (.func (.func 59) #[] #[act.tmps.getD 2 undef,act.tmps.getD 3 undef]),defers:=⟨.fn (.func 59) #[act.tmps.getD 2 undef,act.tmps.getD 3 undef],#[]⟩::act.defers} w):
  (Code.region 5 #[adX,adn] false).wp prog Q act w:=by
 refine wp_region_list ?_;have hmf:∀(fn:Fn) (first cap:Array Value) (w:World),(Instr.makeFunc fn first cap).run prog w=.ok (.func fn first cap) w:=fun _ _ _ _=>rfl
 simp[wpList,adX,adn,go_sem,hmf,hn];refine .inl (.inl ?_);simpa[hn] using h
def MD(b2 o2 b3 o3:Nat)(act:Act):Prop:=
 act.tmps.size=28∧act.tmps.getD 2 undef=.pointer (some ⟨b2,o2,none⟩)∧act.tmps.getD 3 undef=.pointer (some ⟨b3,o3,none⟩)∧act.defers=[⟨.fn (.func 59) #[.pointer (some ⟨b2,o2,none⟩),.pointer (some ⟨b3,o3,none⟩)],#[]⟩]
theorem MD.put{b2 o2 b3 o3:Nat}{act:Act}(h:MD b2 o2 b3 o3 act){d:Tmp}(hd:¬ d=2∧¬ d=3)(v:Value):MD b2 o2 b3 o3 (act.put (some d) v):=by
 obtain⟨h1,h2,h3,h4⟩:=h;refine⟨by simp[Act.put,h1],?_,?_,h4⟩
 ·rw[←h2];simp only[Act.put,aAa];rw[boa hd.1]
 ·rw[←h3];simp only[Act.put,aAa];rw[boa hd.2]
theorem M9{w:World}{b o:Nat}{arr:Array Value}{elem:TypeId}(h:w.heap[b]? = some (.cells arr elem (0,0)))(hl:o<arr.size):(∃ x,w.cell? ⟨b,o,none⟩=some x)∧w.frozen? ⟨b,o,none⟩=false:=by
 refine⟨⟨arr[o],?_⟩,?_⟩
 ·simp[World.cell?,h,hl]
 ·simp[World.frozen?,h]
theorem abP(k:Nat){b2 o2 b3 o3:Nat}{X:mz}(hg:nv gt X.S0){st:St}{G:Gh}{w:World}{act:Act}{y:DL ptR}{Q:Exit→Act→World→Prop}(h:sm (Dw k).e (sqA q5) st (Yf k) ptP=some y)(hm:ay X st G w)(hr:bM G st act)(ha:MD b2 o2 b3 o3 act)
  (hK:∀ st G w act,ay X st G w→bM G st act→MD b2 o2 b3 o3 act→Yf k .normal st=some y→Q .normal act w)
  (hP:∀ av v st G w act,ay X st G w→MD b2 o2 b3 o3 act→aP G av v→ptP av st=some y→Q (.panic [{v,recovered:=false}]) act w):(sqA q5).wp prog Q act w:=by
 have hE:=(Dw k).ok;rw[abO] at h ⊢;refine wp_region_list ?_;have h:lY (Dw k).e TQ st (fun v st'=>oH TQ.dst v st' fun s=>lY (Dw k).e S6 s (fun v st'=>oH S6.dst v st' fun s=>Yf k .normal s) ptP) ptP=some y:=h;have w1:Region.wanted TQ (yielded #[TQ,S6] act.tmps)=true:=rfl;show(if Region.wanted TQ (yielded #[TQ,S6] act.tmps)=true then _ else _)
 rw[a4a w1];refine .inl (II hE.ia hE.BA h hg hm hr (fun av v st' G' w' m' r' v' k'=>?_) (fun av v st' G' w' m' v' k'=>hP av v st' G' w' act m' ha v' k'));obtain⟨s,m2,r2,k2⟩:=Ms k' m' r' v';have ha1:=ha.put (d:=21) (by decide) v
 show(if Region.wanted S6 (yielded #[TQ,S6] (act.put (some 21) v).tmps)=true then _ else _)
 rw[a4a (show Region.wanted S6 _=true from rfl)]
 refine .inl (II hE.ia hE.BA k2 hg m2 r2 (fun av v2 st' G' w' m' r' v' k'=>?_) (fun av v2 st' G' w' m' v' k'=>hP av v2 st' G' w' _ m' ha1 v' k'));obtain⟨s,m3,r3,k3⟩:=Ms k' m' r' v';exact hK _ _ _ _ m3 r3 (ha1.put (d:=22) (by decide) v2) k3
open Go.RowKit (Below)
def aak(b2 b3:Nat)(PF po2 Gk po3:List Value)(o:Nat):Option (Nat×List Value×List Value):=
 if o=9002 then some (b2,PF,po2) else if o=9003 then some (b3,Gk,po3) else none
theorem abL{b2 b3:Nat}{PF po2 Gk po3:List Value}(o:Nat)(q:Nat×List Value×List Value)(h:aak b2 b3 PF po2 Gk po3 o=some q):o<10000:=by
 unfold aak at h;split at h
 ·omega
 ·split at h
  ·omega
  ·cases h
theorem sco{w:World}{a b:Addr}{v:Value}(h:a.block≠b.block∨a.off≠b.off):(w.setCell a v).cell? b=w.cell? b:=World.cell?_setCell_other _ _ _ _ (fun e=>by subst e;simp at h)
theorem abQ{X:mz}{b2 b3:Nat}{PF po2 Gk po3:List Value}(XW:∀ o q,aak b2 b3 PF po2 Gk po3 o=some q→X.pin o=some q){st:St}{G:Gh}{w:World}{act:Act}{av:ab}{v:Value}{y:DL ptR}(jr:∀ b,¬ X.Ya b)(hm:ay X st G w)(ha:MD b2 PF.length b3 Gk.length act)(hv:aP G av v)(hk:ptP av st=some y)
  {R:Ending→World→Prop} (hR:∀ c a w',y=([],(c,a),())→Below X.w0.heap.size w w'→R (.returned (.tuple #[.slice none 0 0,.agg #[.int .i64 c,.int .i64 a]])) w'):Leaves prog f32 act.tmps R act.defers (.panicking [{v,recovered:=false}]) w:=by
 obtain⟨h1,h2,h3,h4⟩:=ha;have p2:=hm.pin 9002 _ (XW 9002 _ rfl);have p3:=hm.pin 9003 _ (XW 9003 _ rfl);obtain⟨⟨l2,e2⟩,e2'⟩:=p2;obtain⟨⟨l3,e3⟩,e3'⟩:=p3;simp only[aia] at e2' e3';unfold ptP at hk;split at hk
 ·rename_i T ls
  cases hc:(Nat.beq T 131&&Ts 1 (st.dL 9002)&&Ts 2 (st.dL 9003)) with
  |false=>rw[hc] at hk;cases hk
  |true=>
   rw[hc] at hk;simp only[Q4] at hc;obtain⟨⟨c1,c2⟩,c3⟩:=hc;obtain rfl:=Q5 c1;obtain⟨l2',c2,n2⟩:=Mf c2;obtain⟨l3',c3,n3⟩:=Mf c3;obtain⟨d,hd,rfl⟩:=aIa.1 hk;obtain⟨g1,g2⟩:=IP hd;obtain⟨c,a,u⟩:=d;subst g2;obtain⟨u,cs,rfl,hu,Hn⟩:=hv;have abs:u=.agg #[.int .i64 c,.int .i64 a]:=by
    match cs,Hn,hu with
    |[x,z],⟨hx,hz,_⟩,hu=>
     have hx:=(BD (t:=I) rfl).1 hx;have hz:=(BD (t:=I) rfl).1 hz;subst hx hz;cases u with
     |agg A=>exact bGa Value.agg (Array.toList_inj.1 hu)
     |_=>exact absurd (bGa List.length hu) (by simp[Value.cells])
   subst abs;obtain⟨YK,el2,m2,o1,o2,o3⟩:=hm.ob 9002 _ c2;obtain⟨aeF,el3,m3,q1,q2,q3⟩:=hm.ob 9003 _ c3;have lm2:m2.length=1:=by have:=All2.length o3;rw[iJ] at this;omega
   have lm3:m3.length=2:=by have:=All2.length q3;rw[iJ] at this;omega
   have B2:b2=G.φ 9002:=e2'.1;have B3:b3=G.φ 9003:=e3'.1;have P2:PF=G.pre 9002:=e2'.2.1;have P3:Gk=G.pre 9003:=e3'.2.1;rw[←B2] at o1;rw[←B3] at q1;rw[←P2] at o2;rw[←P3] at q2;have s2:PF.length+1≤YK.size:=by have:=bGa List.length o2;simp only[bda,ata] at this;omega
   have s3:Gk.length+2≤aeF.size:=by have:=bGa List.length q2;simp only[bda,ata] at this;omega
   obtain⟨⟨x2,f2⟩,z2⟩:=M9 (o:=PF.length) o1 (by omega)
   obtain⟨⟨x3,f3⟩,z3⟩:=M9 (o:=Gk.length) q1 (by omega)
   obtain⟨⟨x4,f4⟩,z4⟩:=M9 (o:=Gk.length+1) q1 (by omega)
   have ow2:eR G st (false,9002) b2:=⟨⟨_,c2⟩,B2⟩;have ow3:eR G st (false,9003) b3:=⟨⟨_,c3⟩,B3⟩;have hb:b2≠b3:=fun e=>by subst e;have:=hm.pX _ _ _ ow2 ow3;simp at this
   have k2:=(hm.sZ _ _ ow2).resolve_left (jr _);have k3:=(hm.sZ _ _ ow3).resolve_left (jr _);have lt2:=fQ o1;have lt3:=fQ q1;rw[h4];refine leaves_cons (f:=59) (args:=#[.pointer (some ⟨b2,PF.length,none⟩),.pointer (some ⟨b3,Gk.length,none⟩)]) (by simp) (by simp[go_sem,invoke,call59]) ?_
   refine(LG b2 PF.length b3 Gk.length c a x2 x3 x4 [] w hb lt2 lt3 f2 z2 f3 z3 f4 z4).mono ?_;rintro e u' w'' ⟨rfl,rfl,rfl⟩;have bel:Below X.w0.heap.size w ((((w.alloc (.cells #[.int .i64 c,.int .i64 a] 131)).setCell ⟨b2,PF.length,none⟩ (.slice none 0 0)).setCell ⟨b3,Gk.length,none⟩ (.int .i64 c)).setCell ⟨b3,Gk.length+1,none⟩ (.int .i64 a)).drew:=
    (((((Below.refl _ w).alloc hm.sz _).setCell k2 _).setCell k3 _).setCell k3 _).drew
   have hb':b3≠b2:=fun e=>hb e.symm;have g2:((((w.alloc (.cells #[.int .i64 c,.int .i64 a] 131)).setCell ⟨b2,PF.length,none⟩ (.slice none 0 0)).setCell ⟨b3,Gk.length,none⟩ (.int .i64 c)).setCell ⟨b3,Gk.length+1,none⟩ (.int .i64 a)).drew.cell? ⟨b2,PF.length,none⟩=some (.slice none 0 0):=by show((((w.alloc (.cells #[.int .i64 c,.int .i64 a] 131)).setCell ⟨b2,PF.length,none⟩ (.slice none 0 0)).setCell ⟨b3,Gk.length,none⟩ (.int .i64 c)).setCell ⟨b3,Gk.length+1,none⟩ (.int .i64 a)).cell? ⟨b2,PF.length,none⟩=_;exact(sco (.inl hb')).trans ((sco (.inl hb')).trans (cda _ _ _ ((bCa _ _ _ lt2).trans f2)))
   have g3:((((w.alloc (.cells #[.int .i64 c,.int .i64 a] 131)).setCell ⟨b2,PF.length,none⟩ (.slice none 0 0)).setCell ⟨b3,Gk.length,none⟩ (.int .i64 c)).setCell ⟨b3,Gk.length+1,none⟩ (.int .i64 a)).drew.cell? ⟨b3,Gk.length,none⟩=some (.int .i64 c):=by show((((w.alloc (.cells #[.int .i64 c,.int .i64 a] 131)).setCell ⟨b2,PF.length,none⟩ (.slice none 0 0)).setCell ⟨b3,Gk.length,none⟩ (.int .i64 c)).setCell ⟨b3,Gk.length+1,none⟩ (.int .i64 a)).cell? ⟨b3,Gk.length,none⟩=_;exact(sco (.inr (Nat.succ_ne_self _))).trans (cda _ _ _ ((sco (.inl hb)).trans ((bCa _ _ _ lt3).trans f3)))
   have g4:((((w.alloc (.cells #[.int .i64 c,.int .i64 a] 131)).setCell ⟨b2,PF.length,none⟩ (.slice none 0 0)).setCell ⟨b3,Gk.length,none⟩ (.int .i64 c)).setCell ⟨b3,Gk.length+1,none⟩ (.int .i64 a)).drew.cell? ⟨b3,Gk.length+1,none⟩=some (.int .i64 a):=by show((((w.alloc (.cells #[.int .i64 c,.int .i64 a] 131)).setCell ⟨b2,PF.length,none⟩ (.slice none 0 0)).setCell ⟨b3,Gk.length,none⟩ (.int .i64 c)).setCell ⟨b3,Gk.length+1,none⟩ (.int .i64 a)).cell? ⟨b3,Gk.length+1,none⟩=_;exact cda _ _ _ ((sco (.inr (Nat.succ_ne_self _).symm)).trans ((sco (.inl hb)).trans ((bCa _ _ _ lt3).trans f4)))
   generalize ((((w.alloc (.cells #[.int .i64 c,.int .i64 a] 131)).setCell ⟨b2,PF.length,none⟩ (.slice none 0 0)).setCell ⟨b3,Gk.length,none⟩ (.int .i64 c)).setCell ⟨b3,Gk.length+1,none⟩ (.int .i64 a)).drew=W at *;refine⟨_,?_,hR c a W rfl bel⟩;rw[aAa] at h2 h3;simp[results,results32,go_sem,h2,h3,g2,g3,g4]
 ·cases hk
theorem Tq(k:Nat):mb prog gt 32 (La k):=by
 refine⟨?_,BC _ _ _ _,xu _ _ _ _⟩;have hE:=(Dw k).ok;intro R r X st G w dst args vs K KP hr zd hm _ ha;simp only[La,BB] at hr;split at hr
 ·rename_i wb hs
  split at hr
  ·rename_i d hd
   obtain⟨y,hx,hr⟩:=awa.1 hr;obtain⟨G1,m1,a1,k1⟩:=yV hs hm;have BI:nv gt (S9 G1.S w).S0:=zd.mono m1.s0;have hdr:=DZ m1 hd (ha.imp fun a v h=>h.sub a1);rw[aeM] at hx;refine⟨call32 _ _,calls_of_wp_defers func32 abN ?_⟩;have sw:∀{s:St} {G3:Gh} {w3:World} {act:Act},ay (S9 G1.S w) s G3 w3→bM G3 s act→PI (Dw k).e f32.results.toList ptR s=some y→∃ v,(results f32 act.tmps).run prog w3=.ok v w3∧∃ av st' G',ay X st' G' w3∧(∀ act,bM G st act→bM G' st' act)∧aP G' av v∧K av st' = some r:=
    fun m3 r3 Kl=>Um hE hm m1 a1 k1 hr m3 r3 Kl
   refine wp_seq (zQ hE BI (sqA q0) (vg (l:=[]) (by kernel_rfl) trivial) hx (VK m1.sh _ _ _) (Ni hdr (n:=28) (aUa rfl)) (fun e s G2 w2 SO m2 r2 k2=>?_) (fun av v s G3 w' act m3 r3 hv hk=>by cases hk))
   cases e with
   |normal=>
    refine wp_seq (zQ hE BI (sqA q1) (vg (l:=[]) (by kernel_rfl) trivial) k2 m2 r2 (fun e s G2 w2 SO m2 r2 k2=>?_) (fun av v s G3 w' act m3 r3 hv hk=>by cases hk))
    cases e with
    |normal=>
     refine wp_seq (zQ hE BI (sqA q2) (vg (l:=[]) (by kernel_rfl) trivial) k2 m2 r2 (fun e s G2 w2 SO m2 r2 k2=>?_) (fun av v s G3 w' act m3 r3 hv hk=>by cases hk))
     cases e with
     |ret=>show Leaves _ _ SO.tmps _ SO.defers .returning w2;rw[r2.1.trans m2.ds];exact sw m2 r2 k2
     |normal=>
      refine wp_seq (zQ hE BI (sqA q3) (vg (l:=[]) (by kernel_rfl) trivial) k2 m2 r2 (fun e s G2 w2 SO m2 r2 k2=>?_) (fun av v s G3 w' act m3 r3 hv hk=>by cases hk))
      cases e with
      |normal=>
       have k2:(bif WZ s then sm (Dw k).e (sqA q5) s (Yf k) ptP else none)=some y:=k2
       cases hc:WZ s with
       |false=>rw[hc] at k2;cases k2
       |true=>
        rw[hc] at k2;have k2:sm (Dw k).e (sqA q5) s (Yf k) ptP=some y:=k2;simp only[WZ,Q4] at hc;obtain⟨⟨⟨⟨⟨c20,cn⟩,c2⟩,c3⟩,d2⟩,d3⟩:=hc;have cn:=Q5 cn;obtain⟨l2,d2,_⟩:=Mf d2;obtain⟨l3,d3,_⟩:=Mf d3;have p2:SO.tmps.getD 2 undef=.pointer (some ⟨G2.φ 9002,(G2.pre 9002).length,none⟩):=r2.2.2 2 _ (TC c2);have p3:SO.tmps.getD 3 undef=.pointer (some ⟨G2.φ 9003,(G2.pre 9003).length,none⟩):=r2.2.2 3 _ (TC c3);have mF:SO.tmps.size=28:=r2.2.1.trans cn;refine wp_seq (YX mF ?_);rw[p2,p3,r2.1.trans m2.ds];have m4:=m2.aay [⟨.fn (.func 59) #[.pointer (some ⟨G2.φ 9002,(G2.pre 9002).length,none⟩),.pointer (some ⟨G2.φ 9003,(G2.pre 9003).length,none⟩)],#[]⟩] (aak (G2.φ 9002) (G2.φ 9003) (G2.pre 9002) (G2.post 9002) (G2.pre 9003) (G2.post 9003)) abL (fun o q hq=>by
         unfold aak at hq;split at hq
         ·rename_i e;subst e;cases hq;exact⟨⟨_,d2⟩,rfl⟩
         ·split at hq
          ·rename_i e;subst e;cases hq;exact⟨⟨_,d3⟩,rfl⟩
          ·cases hq)
        have agY:∀ i v,s.ib i=some v→¬ 20=i:=fun i v hv e=>by subst e;rw[hv] at c20;cases c20
        refine wp_seq (abP k (b2:=G2.φ 9002) (o2:=(G2.pre 9002).length) (b3:=G2.φ 9003) (o3:=(G2.pre 9003).length) (by exact BI) k2 m4 ⟨rfl,by simpa using r2.2.1,fun i v hv=>?_⟩ ⟨by simpa using mF,?_,?_,rfl⟩ (fun s5 G5 w5 agj m5 r5 pa5 k5=>?_) (fun av v s5 G5 w5 agj m5 pa5 hv k5=>?_))
        ·simp only[aAa]
         rw[boa (agY i v hv)];exact Gh.aeu (by have:=r2.2.2 i v hv;rwa[aAa] at this)
        ·rw[←p2];simp only[aAa];rw[boa (by decide)]
        ·rw[←p3];simp only[aAa];rw[boa (by decide)]
        ·refine zQ hE (by exact BI) (sqB q5) (vg (l:=[]) (by kernel_rfl) trivial) k5 m5 r5 (fun e s7 G7 w7 ac9 m7 r7 k7=>?_) (fun av v s G3 w' act m3 r3 hv hk=>by cases hk)
         have done:PI (Dw k).e f32.results.toList ptR s7=some y→Leaves prog f32 ac9.tmps (fun e w'=>match e with
           |.returned v=>∃ av st' G',ay X st' G' w'∧(∀ act,bM G st act→bM G' st' act)∧aP G' av v∧K av st' = some r
           |.panicked IC=>∃ v,IC=[{v,recovered:=false}]∧∃ av st' G',ay X st' G' w'∧aP G' av v∧KP av st' = some r
           |.outgrown=>False) ac9.defers .returning w7:=fun k7=>by
          rw[r7.1.trans m7.ds];refine leaves_cons (f:=59) (args:=#[.pointer (some ⟨G2.φ 9002,(G2.pre 9002).length,none⟩),.pointer (some ⟨G2.φ 9003,(G2.pre 9003).length,none⟩)]) (by simp) (by simp[go_sem,invoke,call59]) ((U2 _ _ w7).mono ?_)
          rintro e u' w' ⟨rfl,rfl,rfl⟩;have bel:=(Below.refl w7.heap.size w7).alloc (ava _) (.cells #[.int .i64 0,.int .i64 0] 131);have m8:=(m7.adv bel.block bel.size bel.os bel.tape bel.output).aay [] (fun _=>none) (fun _ _ h=>by cases h) (fun _ _ h=>by cases h)
          exact sw (act:={ac9 with defers:=[]}) m8 ⟨rfl,r7.2.1,fun i v h=>Gh.aeu (r7.2.2 i v h)⟩ k7
         cases e with
         |normal=>exact done k7
         |ret=>exact done k7
         |_=>cases k7
        ·refine abQ (po2:=G2.post 9002) (po3:=G2.post 9003) (fun o q h=>h) (fun b h=>h) m5 pa5 hv k5 (fun c a w' hy bel=>?_)
         subst hy;refine⟨T9 ptR ([],(c,a),()),wb,G1,m1.adv (fun b hb=>(bel.block b hb).trans (m5.fr b hb (fun h=>h))) (bFa m5.sz bel.size) (bel.os.trans m5.os) (bel.tape.trans m5.tp) (bel.output.trans m5.out),fun act ra=>Bg k1 a1 ra,?_,hr⟩;exact Mq (rs:=ptR) (vs:=[.slice none 0 0,.agg #[.int .i64 c,.int .i64 a]]) ⟨⟨_,rfl,rfl,.inl ⟨rfl,none,0,rfl⟩⟩,⟨[.int .i64 c,.int .i64 a],rfl,[.int .i64 c],[.int .i64 a],[],[],rfl,rfl,⟨rfl,rfl⟩,⟨rfl,rfl⟩⟩,trivial⟩
      |_=>cases k2
     |_=>cases k2
    |_=>cases k2
   |_=>cases k2
  ·cases hr
 ·cases hr
def S2(k:Nat):Cl aW:=⟨_,_,Tq k⟩
end
end Go.Fx.R5
namespace Go.Fx.R5
open Go Go.Fx Go.Proofs Go.Proofs.Tryz
noncomputable section
def oX(q:Nat):Nat→XN→XA→XS→XF→XF→Int→XI→XI→Int→Option (XI×XI×Unit)
 |0,_,_,_,_,_,_,_,_,_=>none
 |k+1,az,eQ,gf,iB,aaR,UC,l7,jF,OD=>
  bif decide (OD<UC) then
   (bA aaR OD).bind fun x1=>
   (gb q az eQ gf iB l7 jF [] [] [] [] [] [] [] x1 x1.2.2.2.2).bind fun r3=>
   oX q k az eQ gf iB aaR UC r3.1 r3.2.1 (cm (OD+1))
  else
   some (l7,jF,())
def oY(q:Nat):Nat→XN→XA→XS→XF→XI→XI→Int→Int→XI→XI→XB→XE→XQ→Int→Option (Int×XI×XI×XB×XE×XQ×Unit)
 |0,_,_,_,_,_,_,_,_,_,_,_,_,_,_=>none
 |k+1,az,eQ,gf,iB,l7,jF,af0,fn,gV,iN,lh,gA,laid,aeo=>
  bif decide (aeo<af0) then
   (qX q gV iN lh gA laid az eQ gf iB l7 jF [] [] [] [] [] [] [] aeo).bind fun r3=>
   oY q k az eQ gf iB l7 jF af0 r3.1 r3.2.1 r3.2.2.1 r3.2.2.2.1 r3.2.2.2.2.1 r3.2.2.2.2.2.1 (cm (aeo+1))
  else
   some (fn,gV,iN,lh,gA,laid,())
def oZ(q:Nat):Nat→XE→Int→XL→Int→Option (XL×Unit)
 |0,_,_,_,_=>none
 |k+1,ac2,ac3,out,Xe=>
  bif decide (Xe<ac3) then
   (bA ac2 Xe).bind fun x1=>
   (bA out x1.1).bind fun x2=>
   (bA out (x1.1.toNat:Int)).bind fun x3=>
   (bA out (x1.1.toNat:Int)).bind fun e=>
   (lA e ([Xe])).bind fun l5=>
   (bA out x1.1).bind fun x4=>
   bif Nat.beq x1.1.toNat x1.1.toNat&&true then
    oZ q k ac2 ac3 (List.set out x1.1.toNat l5) (cm (Xe+1))
   else
    none
  else
   some (out,())
def sD(k:Nat)(bV:ak):Option (((XN×XA×XS×XF×XI×XI×XI×XI×XB×XE×XQ×XL×XB×(Int×Int)×Unit)⊕((Int×Int)×Unit))):=
 (pe k bV).bind fun r1=>
 bif r1.2.1.1 != 0 then
  some (.inr (r1.2.1,()))
 else
  (iQ k r1.1).bind fun r2=>
  bif r2.2.1.1 != 0 then
   some (.inr (r2.2.1,()))
  else
   (mkl (r1.1.length:Int) (0:Int)).bind fun z=>
   (sub z 0 (r1.1.length:Int)).bind fun l=>
   (mkl (r1.1.length:Int) (0:Int)).bind fun z2=>
   (sub z2 0 (r1.1.length:Int)).bind fun l2=>
   (oX k k r1.1 r2.1.1 r2.1.2.1 r2.1.2.2 r2.1.2.2 (r2.1.2.2.length:Int) l l2 0).bind fun o=>
   (mkl (r1.1.length:Int) ((0,0,0,0):Int×Int×Int×Int)).bind fun z3=>
   (sub z3 0 (r1.1.length:Int)).bind fun l3=>
   (oY k k r1.1 r2.1.1 r2.1.2.1 r2.1.2.2 o.1 o.2.1 (r2.1.2.2.length:Int) 0 [] [] [] [] l3 0).bind fun o2=>
   (mkl (o2.2.1.length:Int) ([]:XI)).bind fun z4=>
   (sub z4 0 (o2.2.1.length:Int)).bind fun l4=>
   (oZ k k o2.2.2.2.2.1 (o2.2.2.2.2.1.length:Int) l4 0).bind fun o3=>
   (uQ k r2.1.2.2 o2.2.1 o2.2.2.2.2.1).bind fun r3=>
   some (.inl (r1.1,r2.1.1,r2.1.2.1,r2.1.2.2,o.1,o.2.1,o2.2.1,o2.2.2.1,o2.2.2.2.1,o2.2.2.2.2.1,o2.2.2.2.2.2.1,o3.1,r3.1,(0,0),()))
def Ee(k:Nat):lq:=⟨⟨138,[(41,3),(52,2),(58,13)],[lD 41 0 sA,lD 41 1 sS,lD 41 2 sF,lI 52 0,lI 52 1,lD 58 0 sN,lD 58 1 sA,lD 58 2 sS,lD 58 3 sF,lN 58 6,lN 58 7,lN 58 8,lN 58 9,lN 58 10,lN 58 11,lN 58 12,rP 3 52,rD 4 sN,rP 6 41,rP 7 58,rD 49 sF,rI 50],[lF 58 4 I,lF 58 5 I,rI 51],[]⟩,[.ex (.exit 0) [lF 58 4 I,lF 58 5 I]],fun q c v=>oX k q c.2.2.2.2.2.1 c.2.2.2.2.2.2.1 c.2.2.2.2.2.2.2.1 c.2.2.2.2.2.2.2.2.1 c.2.2.2.2.2.2.2.2.2.2.2.2.2.2.2.2.2.2.2.2.1 c.2.2.2.2.2.2.2.2.2.2.2.2.2.2.2.2.2.2.2.2.2.1 v.1 v.2.1 v.2.2.1⟩
def Ef(k:Nat):lq:=⟨⟨138,[(41,3),(52,2),(58,13),(89,7)],[lD 41 0 sA,lD 41 1 sS,lD 41 2 sF,lI 52 0,lI 52 1,lD 58 0 sN,lD 58 1 sA,lD 58 2 sS,lD 58 3 sF,lF 58 4 I,lF 58 5 I,lN 58 6,lN 58 7,lN 58 8,lN 58 9,lN 58 10,lN 58 11,lN 58 12,(.l 89 0,.lit (.np 58 0)),rP 3 52,rP 7 58,rP 10 89,rI 69],[lI 89 1,lF 89 2 I,lF 89 3 I,lF 89 4 .bool,lF 89 5 tE,lF 89 6 tQ,rI 70],[]⟩,[.ex (.exit 2) [lI 89 1,lF 89 2 I,lF 89 3 I,lF 89 4 .bool,lF 89 5 tE,lF 89 6 tQ]],fun q c v=>oY k q c.2.2.2.2.2.1 c.2.2.2.2.2.2.1 c.2.2.2.2.2.2.2.1 c.2.2.2.2.2.2.2.2.1 c.2.2.2.2.2.2.2.2.2.1 c.2.2.2.2.2.2.2.2.2.2.1 c.2.2.2.2.2.2.2.2.2.2.2.2.2.2.2.2.2.2.2.2.2.2.1 v.1 v.2.1 v.2.2.1 v.2.2.2.1 v.2.2.2.2.1 v.2.2.2.2.2.1 v.2.2.2.2.2.2.1⟩
def Eg(k:Nat):lq:=⟨⟨138,[(41,3),(52,2),(58,13),(89,7)],[lD 41 0 sA,lD 41 1 sS,lD 41 2 sF,lI 52 0,lI 52 1,lD 58 0 sN,lD 58 1 sA,lD 58 2 sS,lD 58 3 sF,lF 58 4 I,lF 58 5 I,lD 58 6 sI,lD 58 7 sI,lD 58 8 sB,lD 58 9 sE,lD 58 10 sQ,lN 58 12,(.l 89 0,.lit (.np 58 0)),lI 89 1,lD 89 2 sI,lD 89 3 sI,lD 89 4 sB,lD 89 5 sE,lD 89 6 sQ,rP 3 52,rP 7 58,rD 105 sE,rI 106],[lU 58 11 sI,rI 107],[]⟩,[.ex (.exit 4) [lU 58 11 sI]],fun q c v=>oZ k q c.2.2.2.2.2.2.2.2.2.2.2.2.2.2.2.2.2.2.2.2.2.2.2.2.2.2.1 c.2.2.2.2.2.2.2.2.2.2.2.2.2.2.2.2.2.2.2.2.2.2.2.2.2.2.2.1 v.1 v.2.1⟩
def zh(k:Nat):Ev aW:=⟨[S2 k,Lu k,FH k,Dh k,Lq k],[lp 0 (Ee k) k,lp 2 (Ef k) k,lp 4 (Eg k) k],[(3,52),(6,41),(35,58),(66,89),(98,9999)]⟩
def Mx(k q:Nat):Cd aW:=nq (zh k) f12 0 (Ee k) q []
def My(k q:Nat):Cd aW:=nq (zh k) f12 2 (Ef k) q []
def Mz(k q:Nat):Cd aW:=nq (zh k) f12 4 (Eg k) q []
def SY(k:Nat):Cl aW:=ml (zh k) 12 f12 func12 call12 [500000,500001] ⟨⟨138,[],[],[rD 0 .str],[]⟩,[.ret [rP 500000 58,lD 58 0 sN,lD 58 1 sA,lD 58 2 sS,lD 58 3 sF,lF 58 4 I,lF 58 5 I,lD 58 6 sI,lD 58 7 sI,lD 58 8 sB,lD 58 9 sE,lD 58 10 sQ,lD 58 11 sL,lD 58 12 sB,rD 500001 tP] [(58,13,58)],.ret [(.r 500000,.lit .Kz),rD 500001 tP] []],fun c v=>sD k v.1⟩ [Mx k k,My k k,Mz k k]
def D9:Option ((Int×Int×Int×Int)×Unit):=
 some (((-2147483648),2147483647,1,0),())
def OZ:Cl aW:=om ⟨[],[],[(0,77)]⟩ 69 f69 func69 call69 [] [tQ] (fun d=>D9) []
def jR(q:Nat):Nat→Int→XQ→Int→Option (XQ×Unit)
 |0,_,_,_=>none
 |k+1,t81,uP,t91=>
  bif decide (t91<t81) then
   (D9).bind fun r1=>
   (bA uP t91).bind fun x1=>
   (bA uP (t91.toNat:Int)).bind fun x2=>
   jR q k t81 (List.set uP t91.toNat r1.1) (cm (t91+1))
  else
   some (uP,())
def qa(k:Nat)(n:Int):Option (XQ×Unit):=
 (mkl n ((0,0,0,0):Int×Int×Int×Int)).bind fun z=>
 (sub z 0 n).bind fun l=>
 (jR k k (l.length:Int) l 0).bind fun o=>
 some (o.1,())
def wl(k:Nat):lq:=⟨⟨18,[],[rI 8],[(.r 3,.h .dB tQ),rI 9],[]⟩,[.ex (.exit 0) [(.r 3,.h .dB tQ)]],fun q c v=>jR k q c.1 v.1 v.2.1⟩
def AC(k:Nat):Ev aW:=⟨[OZ],[lp 0 (wl k) k],[]⟩
def Fm(k q:Nat):Cd aW:=nq (AC k) f37 0 (wl k) q []
def JR(k:Nat):Cl aW:=ml (AC k) 37 f37 func37 call37 [500000] ⟨⟨18,[],[],[rI 0],[]⟩,[.ret [(.r 500000,.h .dB tQ)] []],fun c v=>qa k v.1⟩ [Fm k k]
def I0(g:Int×XI)(i1 j:Int):Option (Int×Unit):=
 some ((cm ((cm (i1 * (cm (g.1+1))))+j)),())
def MN:Cl aW:=om ⟨[],[],[(3,26)]⟩ 70 f70 func70 call70 [(.aO I sI),I,I] [I] (fun d=>I0 d.1 d.2.1 d.2.2.1) []
def vS(q:Nat):Nat→Int→Int→Int→XI→Int→Option (XI×Unit)
 |0,_,_,_,_,_=>none
 |k+1,w5,i1,aaQ,w6,VP=>
  bif decide (VP<aaQ) then
   aa (fun(l2:XI)=>
    vS q k w5 i1 aaQ l2 (cm (VP+1))) fun cq=>
   bif i1 != VP then
    (I0 (w5,w6) i1 VP).bind fun r1=>
    (bA w6 r1.1).bind fun x1=>
    (bA w6 (r1.1.toNat:Int)).bind fun x2=>
    cq (List.set w6 r1.1.toNat 1099511627776)
   else
    cq w6
  else
   some (w6,())
def vR(q:Nat):Nat→Int→Int→Int→XI→Int→Option (XI×Unit)
 |0,_,_,_,_,_=>none
 |k+1,w2,n2,aaP,w3,PL=>
  bif decide (PL<aaP) then
   (vS q q w2 PL (cm (n2+1)) w3 0).bind fun o=>
   vR q k w2 n2 aaP o.1 (cm (PL+1))
  else
   some (w3,())
def wP(k:Nat)(n:Int):Option (Int×XI×Unit):=
 aa (fun(v:Bool)=>
  bif v then
   some (0,[],())
  else
   (mkl (cm ((cm (n+1)) * (cm (n+1)))) (0:Int)).bind fun z=>
   (sub z 0 (cm ((cm (n+1)) * (cm (n+1))))).bind fun l=>
   (vR k k n n (cm (n+1)) l 0).bind fun o=>
   some (n,o.1,())) fun cq=>
 bif decide (n<0) then
  cq true
 else
  cq (decide (n > 12))
def zB(k:Nat):lq:=⟨⟨44,[(26,2),(10003,2)],[lI 26 0,lN 26 1,lI 10003 0,rI 0,rP 2 26,rP 3 10003,rI 4,rI 22,rI 23,rI 27],[lF 10003 1 I,rI 28],[]⟩,[.ex (.exit 2) [lF 10003 1 I]],fun q c v=>vS k q c.2.2.1 c.2.2.2.2.2.2.1 c.2.2.2.2.2.2.2.2.2.1 v.1 v.2.1⟩
def zA(k:Nat):lq:=⟨⟨44,[(26,2),(10003,2)],[lI 26 0,lN 26 1,lI 10003 0,rI 0,rP 2 26,rP 3 10003,rI 22],[lF 10003 1 I,rI 23],[]⟩,[.ex (.exit 0) [lF 10003 1 I]],fun q c v=>vR k q c.2.2.1 c.2.2.2.1 c.2.2.2.2.2.2.1 v.1 v.2.1⟩
def xv(k:Nat):Ev aW:=⟨[MN],[lp 2 (zB k) k,lp 0 (zA k) k],[(2,26)]⟩
def H0(k q:Nat):Cd aW:=nq (xv k) f38 2 (zB k) q []
def HZ(k q:Nat):Cd aW:=nq (xv k) f38 0 (zA k) q [H0 k k]
def MM(k:Nat):Cl aW:=ml (xv k) 38 f38 func38 call38 [500000] ⟨⟨44,[],[],[rI 0],[]⟩,[.ret [(.q 500000 0,.d I),(.q 500000 1,.h .dB I)] []],fun c v=>wP k v.1⟩ [HZ k k]
def o7:Option ((Int×Int×Int×Int)×Unit):=
 some ((1,0,0,0),())
def DK:Cl aW:=om ⟨[],[],[(0,77)]⟩ 71 f71 func71 call71 [] [tQ] (fun d=>o7) []
def wS:Option (Bool×XI×Int×Int×Int×Int×Unit):=
 (o7).bind fun r1=>
 some (true,[],r1.1.1,r1.1.2.1,r1.1.2.2.1,r1.1.2.2.2,())
def MR:Cl aW:=ml ⟨[DK],[],[(0,80)]⟩ 39 f39 func39 call39 [500000] ⟨⟨3,[],[],[],[]⟩,[.ret [(.q 500000 0,.d .bool),(.q 500000 1,.h .dB I),(.q 500000 2,.d I),(.q 500000 3,.d I),(.q 500000 4,.d I),(.q 500000 5,.d I)] []],fun c v=>wS⟩ []
def tm:Option ((Int×Int)×Unit):=
 some ((1,0),())
def AW:Cl aW:=om ⟨[],[],[(0,122)]⟩ 117 f117 func117 call117 [] [tP] (fun d=>tm) []
def xZ(v:Int):Option (Bool×Unit):=
 aa (fun(v2:Bool)=>
  some (v2,())) fun cq=>
 bif decide (v≥(-2147483648)) then
  cq (decide (v≤2147483647))
 else
  cq false
def Iv:Cl aW:=om ⟨[],[],[]⟩ 155 f155 func155 call155 [I] [.bool] (fun d=>xZ d.1) []
def wQ(a:Int×Int):Option (Bool×Unit):=
 (tm).bind fun r1=>
 aa (fun(v3:Bool)=>
  some (v3,())) fun uf=>
 bif ((a.1==r1.1.1)&&(a.2==r1.1.2)) then
  uf true
 else
  (xZ a.1).bind fun r2=>
  aa (fun(v:Bool)=>
   aa (fun(v2:Bool)=>
    uf v2) fun ir=>
   bif v then
    ir (decide (a.1≤a.2))
   else
    ir false) fun cq=>
  bif r2.1 then
   (xZ a.2).bind fun r3=>
   cq r3.1
  else
   cq false
def DH:Cl aW:=om ⟨[AW,Iv],[],[(1,122)]⟩ 111 f111 func111 call111 [tP] [.bool] (fun d=>wQ d.1) []
def D8(a:Int×Int):Option (Bool×Unit):=
 bif a.1==0 then
  (xZ a.2).bind fun r1=>
  some (r1.1,())
 else
  aa (fun(v:Bool)=>
   aa (fun(v2:Bool)=>
    aa (fun(v3:Bool)=>
     some (v3,())) fun uf=>
    bif v2 then
     uf (decide (a.2<a.1))
    else
     uf false) fun ir=>
   bif v then
    ir (decide (a.2≥0))
   else
    ir false) fun cq=>
  bif decide (a.1≥1) then
   cq (decide (a.1≤65536))
  else
   cq false
def OV:Cl aW:=om ⟨[Iv],[],[(1,125)]⟩ 112 f112 func112 call112 [tP] [.bool] (fun d=>D8 d.1) []
def uA(a:Int×Int):Option (Bool×Unit):=
 some (decide (a.1 > a.2),())
def GU:Cl aW:=om ⟨[],[],[(1,122)]⟩ 113 f113 func113 call113 [tP] [.bool] (fun d=>uA d.1) []
def Ge(a:Int×Int)(v:Int):Option (Bool×Unit):=
 (wQ a).bind fun r1=>
 aa (fun(v2:Bool)=>
  aa (fun(v3:Bool)=>
   some (v3,())) fun ir=>
  bif v2 then
   ir (decide (v≤a.2))
  else
   ir false) fun cq=>
 bif r1.1 then
  cq (decide (a.1≤v))
 else
  cq false
def Lp:Cl aW:=om ⟨[DH],[],[(2,122)]⟩ 114 f114 func114 call114 [tP,I] [.bool] (fun d=>Ge d.1 d.2.1) []
def Ea(v:Int):Option ((Int×Int×Int×Int)×Unit):=
 some ((v,v,0,v),())
def O0:Cl aW:=om ⟨[],[],[(2,77)]⟩ 115 f115 func115 call115 [I] [tQ] (fun d=>Ea d.1) []
def wT(n m:Int):Option (Int×Unit):=
 bif decide (m=0) then
  none
 else
  aa (fun(n2:Int)=>
   some (n2,())) fun cq=>
  bif decide ((n.tmod m)<0) then
   cq (cm ((n.tmod m)+m))
  else
   cq (n.tmod m)
def MT:Cl aW:=om ⟨[],[],[]⟩ 116 f116 func116 call116 [I,I] [I] (fun d=>wT d.1 d.2.1) []
def B8(a b:Int×Int):Option ((Int×Int×Int×Int)×Unit):=
 (wQ a).bind fun r1=>
 aa (fun(v:Bool)=>
  aa (fun(v2:Bool)=>
   bif v2 then
    (o7).bind fun r4=>
    some (r4.1,())
   else
    bif b.1==0 then
     (Ge a b.2).bind fun r5=>
     bif !r5.1 then
      (o7).bind fun r6=>
      some (r6.1,())
     else
      (Ea b.2).bind fun r7=>
      some (r7.1,())
    else
     (wT (cm (b.2 - a.1)) b.1).bind fun r8=>
     (wT (cm (a.2 - b.2)) b.1).bind fun r9=>
     bif decide ((cm (a.1+r8.1)) > (cm (a.2 - r9.1))) then
      (o7).bind fun mw=>
      some (mw.1,())
     else
      bif (cm (a.1+r8.1))==(cm (a.2 - r9.1)) then
       (Ea (cm (a.1+r8.1))).bind fun po=>
       some (po.1,())
      else
       some (((cm (a.1+r8.1)),(cm (a.2 - r9.1)),b),())) fun ir=>
  bif v then
   ir true
  else
   (uA a).bind fun r3=>
   ir r3.1) fun cq=>
 bif !r1.1 then
  cq true
 else
  (D8 b).bind fun r2=>
  cq (!r2.1)
def MO:Cl aW:=om ⟨[DK,DH,OV,GU,Lp,O0,MT],[],[(2,122),(3,125),(4,77)]⟩ 72 f72 func72 call72 [tP,tP] [tQ] (fun d=>B8 d.1 d.2.1) []
def yd(a b:Int):Option ((Int×Int)×Unit):=
 bif decide ((bif decide ((-2147483648) > a) then(-2147483648) else a) > (bif decide (2147483647<b) then 2147483647 else b)) then
  (tm).bind fun r1=>
  some (r1.1,())
 else
  some (((bif decide ((-2147483648) > a) then(-2147483648) else a),(bif decide (2147483647<b) then 2147483647 else b)),())
def JV:Cl aW:=om ⟨[AW],[],[(4,122)]⟩ 73 f73 func73 call73 [I,I] [tP] (fun d=>yd d.1 d.2.1) []
def Ca:Option ((Int×Int)×Unit):=
 some ((1,0),())
def MS:Cl aW:=om ⟨[],[],[(0,125)]⟩ 74 f74 func74 call74 [] [tP] (fun d=>Ca) []
def wU(a b:Int):Option ((Int×Int×Int×Int)×Unit):=
 (yd a b).bind fun r1=>
 (Ca).bind fun r2=>
 (B8 r1.1 r2.1).bind fun r3=>
 some (r3.1,())
def MU:Cl aW:=om ⟨[MO,JV,MS],[],[(4,77)]⟩ 40 f40 func40 call40 [I,I] [tQ] (fun d=>wU d.1 d.2.1) []
def th(q:Nat)(eQ:XA)(n:Int):Option (Bool×XQ×XQ×Int×XI×Unit):=
 (qa q n).bind fun r1=>
 (qa q (eQ.length:Int)).bind fun r2=>
 (wP q n).bind fun r3=>
 some (true,r1.1,r2.1,r3.1,r3.2.1,())
def iH(q:Nat):Nat→XA→Int→XI→Int→Int→Option (XI×Int×Unit)
 |0,_,_,_,_,_=>none
 |k+1,afW,afX,w18,adZ,VQ=>
  bif decide (VQ<afX) then
   (bA afW VQ).bind fun x2=>
   (lA w18 ([VQ])).bind fun l=>
   iH q k afW afX l (bif decide (x2.2 > adZ) then x2.2 else adZ) (cm (VQ+1))
  else
   some (w18,adZ,())
def iG(q:Nat):Nat→XA→Int→List (Bool×XI×Int×Int×Int×Int)→Int→Option (List (Bool×XI×Int×Int×Int×Int)×Unit)
 |0,_,_,_,_=>none
 |k+1,eQ,UA,w5,UB=>
  bif decide (UB<UA) then
   (wS).bind fun r1=>
   (iH q q eQ (eQ.length:Int) r1.2.1 0 0).bind fun o2=>
   aa (fun(jv:Int×Int×Int×Int)=>
    (lA w5 ([(r1.1,o2.1,(jv.1),(jv.2.1),(jv.2.2.1),(jv.2.2.2))])).bind fun l=>
    iG q k eQ UA l (cm (UB+1))) fun cq=>
   bif decide ((o2.1.length:Int) > 0) then
    (wU 0 o2.2.1).bind fun r2=>
    cq (r2.1.1,r2.1.2.1,r2.1.2.2.1,r2.1.2.2.2)
   else
    cq (r1.2.2.1,r1.2.2.2.1,r1.2.2.2.2.1,r1.2.2.2.2.2.1)
  else
   some (w5,())
def tg(k:Nat)(aF:XA)(an:XS)(bh:XF)(fn:Int):Option (Bool×XQ×List (Bool×XI×Int×Int×Int×Int)×XQ×Int×XI×Unit):=
 (bA bh fn).bind fun x1=>
 (th k aF (cm ((an.length:Int)+(x1.2.2.1.length:Int)))).bind fun o=>
 (iG k k aF (x1.2.2.2.1.length:Int) [] 0).bind fun o2=>
 some (o.1,o.2.1,o2.1,o.2.2.1,o.2.2.2.1,o.2.2.2.2.1,())
def wo(k:Nat):lq:=⟨⟨85,[(73,5),(58,13),(28,6)],[lD 73 0 .str,lI 73 1,lD 73 2 sS,lD 73 3 sS,lI 73 4,lD 58 0 sN,lD 58 1 sA,lD 58 2 sS,lD 58 3 sF,lF 58 4 I,lF 58 5 I,lD 58 6 sI,lD 58 7 sI,lD 58 8 sB,lD 58 9 sE,lD 58 10 sQ,lD 58 11 sL,lD 58 12 sB,lD 28 0 .bool,lN 28 1,lN 28 2,lN 28 3,lI 28 4,lN 28 5,rP 0 58,rP 4 28,rP 5 73,rI 6],[],[]⟩,[.ex .normal [rP 7 10007,lD 10007 0 .bool,lF 10007 1 tQ,lN 10007 2,lF 10007 3 tQ,lI 10007 4,lF 10007 5 I]],fun q c v=>th k c.2.2.2.2.2.2.1 c.2.2.2.2.2.2.2.2.2.2.2.2.2.2.2.2.2.2.2.2.2.2.2.2.2.2.2.1⟩
def wn(k:Nat):lq:=⟨⟨85,[(73,5),(58,13),(28,6),(10007,6),(10008,6)],[lD 73 0 .str,lI 73 1,lD 73 2 sS,lD 73 3 sS,lI 73 4,lD 58 0 sN,lD 58 1 sA,lD 58 2 sS,lD 58 3 sF,lF 58 4 I,lF 58 5 I,lD 58 6 sI,lD 58 7 sI,lD 58 8 sB,lD 58 9 sE,lD 58 10 sQ,lD 58 11 sL,lD 58 12 sB,lD 28 0 .bool,lN 28 1,lN 28 2,lN 28 3,lI 28 4,lN 28 5,lD 10007 0 .bool,lF 10007 1 tQ,lU 10007 2 (.aO .bool (.aO sI tQ)),lF 10007 3 tQ,lI 10007 4,lF 10007 5 I,lD 10008 0 .bool,lI 10008 2,lI 10008 3,lI 10008 4,lI 10008 5,rP 0 58,rP 4 28,rP 7 10007,rP 8 10008,rI 44,rI 45,rD 52 sA,rI 53],[lF 10008 1 I,rI 9,rI 54],[]⟩,[.ex (.exit 2) [lF 10008 1 I,rI 9]],fun q c v=>iH k q c.2.2.2.2.2.2.2.2.2.2.2.2.2.2.2.2.2.2.2.2.2.2.2.2.2.2.2.2.2.2.2.2.2.2.2.2.2.2.2.2.2.1 c.2.2.2.2.2.2.2.2.2.2.2.2.2.2.2.2.2.2.2.2.2.2.2.2.2.2.2.2.2.2.2.2.2.2.2.2.2.2.2.2.2.2.1 v.1 v.2.1 v.2.2.1⟩
def wm(k:Nat):lq:=⟨⟨85,[(73,5),(58,13),(28,6),(10007,6)],[lD 73 0 .str,lI 73 1,lD 73 2 sS,lD 73 3 sS,lI 73 4,lD 58 0 sN,lD 58 1 sA,lD 58 2 sS,lD 58 3 sF,lF 58 4 I,lF 58 5 I,lD 58 6 sI,lD 58 7 sI,lD 58 8 sB,lD 58 9 sE,lD 58 10 sQ,lD 58 11 sL,lD 58 12 sB,lD 28 0 .bool,lN 28 1,lN 28 2,lN 28 3,lI 28 4,lN 28 5,lD 10007 0 .bool,lF 10007 1 tQ,lF 10007 3 tQ,lI 10007 4,lF 10007 5 I,rP 0 58,rP 4 28,rP 7 10007,rI 44],[lU 10007 2 (.aO .bool (.aO sI tQ)),rI 45],[]⟩,[.ex (.exit 0) [lU 10007 2 (.aO .bool (.aO sI tQ))]],fun q c v=>iG k q c.2.2.2.2.2.2.1 c.2.2.2.2.2.2.2.2.2.2.2.2.2.2.2.2.2.2.2.2.2.2.2.2.2.2.2.2.2.2.2.2.1 v.1 v.2.1⟩
def qy(k:Nat):Ev aW:=⟨[JR k,MM k,MR,MU],[rg 3 (wo k),lp 2 (wn k) k,lp 0 (wm k) k],[(4,28),(5,73),(80,9999)]⟩
def Fq(k:Nat):Cd aW:=rgC (qy k) f13 3 (wo k) [[0,2,3,4,5,6,7,9,1,8,10,11,12,13],[0,2,3,4,5,6,7,9,1,8,12,10,11,13],[0,2,3,4,5,6,7,9,1,12,8,10,11,13],[0,2,3,4,5,6,7,9,12,1,8,10,11,13]]
def Fp(k q:Nat):Cd aW:=nq (qy k) f13 2 (wn k) q []
def Fo(k q:Nat):Cd aW:=nq (qy k) f13 0 (wm k) q [Fp k k]
def JS(k:Nat):Cl aW:=ml (qy k) 13 f13 func13 call13 [500000] ⟨⟨85,[(58,13)],[lD 58 0 sN,lD 58 1 sA,lD 58 2 sS,lD 58 3 sF,lF 58 4 I,lF 58 5 I,lD 58 6 sI,lD 58 7 sI,lD 58 8 sB,lD 58 9 sE,lD 58 10 sQ,lD 58 11 sL,lD 58 12 sB],[rP 0 58,rI 1],[]⟩,[.ret [(.q 500000 0,.d .bool),(.q 500000 1,.h .dB tQ),(.q 500000 2,.h .bK (.aO .bool (.aO sI tQ))),(.q 500000 3,.h .dB tQ),(.q 500000 4,.d I),(.q 500000 5,.h .dB I)] []],fun c v=>tg k c.2.1 c.2.2.1 c.2.2.2.1 v.2.1⟩ [Fq k,Fo k k]
def kY(k:Nat)(bV:ak)(fn:Int):Option (Bool×XQ×List (Bool×XI×Int×Int×Int×Int)×XQ×Int×XI×Unit):=
 (sD k bV).bind fun r=>match r with
 |.inl r1=>
  aa (fun(v:Bool)=>
   aa (fun(v2:Bool)=>
    bif v2 then
     some (false,[],[],[],0,[],())
    else
     (tg k r1.2.1 r1.2.2.1 r1.2.2.2.1 fn).bind fun r3=>
     some (r3.1,r3.2.1,r3.2.2.1,r3.2.2.2.1,r3.2.2.2.2.1,r3.2.2.2.2.2.1,())) fun ir=>
   bif v then
    ir true
   else
    ir (decide (fn≥(r1.2.2.2.1.length:Int)))) fun cq=>
  bif r1.2.2.2.2.2.2.2.2.2.2.2.2.2.1.1 != 0 then
   cq true
  else
   cq (decide (fn<0))
 |.inr r2=>
  aa (fun(v3:Bool)=>
   bif v3 then
    some (false,[],[],[],0,[],())
   else
    none) fun uf=>
  bif r2.1.1 != 0 then
   uf true
  else
   uf (decide (fn<0))
def JP(k:Nat):Cl aW:=ml ⟨[SY k,JS k],[],[(4,28),(6,52)]⟩ 5 f5 func5 call5 [500000] ⟨⟨33,[],[],[rD 0 .str,rI 1],[]⟩,[.ret [(.q 500000 0,.d .bool),(.q 500000 1,.h .dB tQ),(.q 500000 2,.h .bK (.aO .bool (.aO sI tQ))),(.q 500000 3,.h .dB tQ),(.q 500000 4,.d I),(.q 500000 5,.h .dB I)] []],fun c v=>kY k v.1 v.2.1⟩ []
def yI(a b:Int×Int×Int×Int):Option (Bool×Unit):=
 bif a.1 != b.1 then
  some (false,())
 else
  bif a.2.1 != b.2.1 then
   some (false,())
  else
   bif a.2.2.1 != b.2.2.1 then
    some (false,())
   else
    bif a.2.2.2 != b.2.2.2 then
     some (false,())
    else
     some (true,())
def Iy:Cl aW:=om ⟨[],[],[(2,77)]⟩ 41 f41 func41 call41 [tQ,tQ] [.bool] (fun d=>yI d.1 d.2.1) []
def mN(q:Nat):Nat→XQ→XQ→Int→Option (((Unit)⊕(Bool×Unit)))
 |0,_,_,_=>none
 |k+1,a2,b2,i1=>
  bif decide (i1<(a2.length:Int)) then
   (bA a2 i1).bind fun x1=>
   (bA b2 i1).bind fun x2=>
   (yI x1 x2).bind fun r1=>
   bif !r1.1 then
    some (.inr (false,()))
   else
    mN q k a2 b2 (cm (i1+1))
  else
   some (.inl ())
def vz(k:Nat)(a b:XQ):Option (Bool×Unit):=
 bif (a.length:Int) != (b.length:Int) then
  some (false,())
 else
  (mN k k a b 0).bind fun r=>match r with
  |.inl o=>
   some (true,())
  |.inr o2=>
   some (o2.1,())
def Bk(k:Nat):lq:=⟨⟨27,[],[rD 0 sQ,rD 1 sQ],[rI 5],[]⟩,[.ex (.exit 0) [],.ex .ret [rD 4 .bool]],fun q c v=>mN k q c.1 c.2.1 v.1⟩
def FY(k:Nat):Ev aW:=⟨[Iy],[lp 0 (Bk k) k],[]⟩
def JG(k q:Nat):Cd aW:=nq (FY k) f14 0 (Bk k) q []
def O5(k:Nat):Cl aW:=om (FY k) 14 f14 func14 call14 [sQ,sQ] [.bool] (fun d=>vz k d.1 d.2.1) [JG k k]
def mM(q:Nat):Nat→XI→XI→Int→Option (((Unit)⊕(Bool×Unit)))
 |0,_,_,_=>none
 |k+1,a2,b2,i1=>
  bif decide (i1<(a2.length:Int)) then
   (bA a2 i1).bind fun x1=>
   (bA b2 i1).bind fun x2=>
   bif x1 != x2 then
    some (.inr (false,()))
   else
    mM q k a2 b2 (cm (i1+1))
  else
   some (.inl ())
def vw(k:Nat)(a b:XI):Option (Bool×Unit):=
 bif (a.length:Int) != (b.length:Int) then
  some (false,())
 else
  (mM k k a b 0).bind fun r=>match r with
  |.inl o=>
   some (true,())
  |.inr o2=>
   some (o2.1,())
def Bj(k:Nat):lq:=⟨⟨26,[],[rD 0 sI,rD 1 sI],[rI 5],[]⟩,[.ex (.exit 0) [],.ex .ret [rD 4 .bool]],fun q c v=>mM k q c.1 c.2.1 v.1⟩
def FX(k:Nat):Ev aW:=⟨[],[lp 0 (Bj k) k],[]⟩
def JF(k q:Nat):Cd aW:=nq (FX k) f43 0 (Bj k) q []
def F5(k:Nat):Cl aW:=om (FX k) 43 f43 func43 call43 [sI,sI] [.bool] (fun d=>vw k d.1 d.2.1) [JF k k]
def Am(k:Nat)(a b:Bool×XI×Int×Int×Int×Int):Option (Bool×Unit):=
 bif !(a.1==b.1) then
  some (false,())
 else
  (vw k a.2.1 b.2.1).bind fun r1=>
  bif !r1.1 then
   some (false,())
  else
   (yI a.2.2 b.2.2).bind fun r2=>
   bif !r2.1 then
    some (false,())
   else
    some (true,())
def Lv(k:Nat):Cl aW:=om ⟨[Iy,F5 k],[],[(2,80)]⟩ 42 f42 func42 call42 [(.aO .bool (.aO sI tQ)),(.aO .bool (.aO sI tQ))] [.bool] (fun d=>Am k d.1 d.2.1) []
def jU(q:Nat):Nat→List (Bool×XI×Int×Int×Int×Int)→List (Bool×XI×Int×Int×Int×Int)→Int→Option (((Unit)⊕(Bool×Unit)))
 |0,_,_,_=>none
 |k+1,a2,b2,i1=>
  bif decide (i1<(a2.length:Int)) then
   (bA a2 i1).bind fun x1=>
   (bA b2 i1).bind fun x2=>
   (Am q x1 x2).bind fun r1=>
   bif !r1.1 then
    some (.inr (false,()))
   else
    jU q k a2 b2 (cm (i1+1))
  else
   some (.inl ())
def yH(k:Nat)(a b:List (Bool×XI×Int×Int×Int×Int)):Option (Bool×Unit):=
 bif (a.length:Int) != (b.length:Int) then
  some (false,())
 else
  (jU k k a b 0).bind fun r=>match r with
  |.inl o=>
   some (true,())
  |.inr o2=>
   some (o2.1,())
def wv(k:Nat):lq:=⟨⟨27,[],[rD 0 (.slice (.aO .bool (.aO sI tQ))),rD 1 (.slice (.aO .bool (.aO sI tQ)))],[rI 5],[]⟩,[.ex (.exit 0) [],.ex .ret [rD 4 .bool]],fun q c v=>jU k q c.1 c.2.1 v.1⟩
def AE(k:Nat):Ev aW:=⟨[Lv k],[lp 0 (wv k) k],[]⟩
def Fv(k q:Nat):Cd aW:=nq (AE k) f15 0 (wv k) q []
def JW(k:Nat):Cl aW:=om (AE k) 15 f15 func15 call15 [(.slice (.aO .bool (.aO sI tQ))),(.slice (.aO .bool (.aO sI tQ)))] [.bool] (fun d=>yH k d.1 d.2.1) [Fv k k]
def Ei(k:Nat)(a b:Int×XI):Option (Bool×Unit):=
 bif a.1 != b.1 then
  some (false,())
 else
  (vw k a.2 b.2).bind fun r1=>
  bif !r1.1 then
   some (false,())
  else
   some (true,())
def O4(k:Nat):Cl aW:=om ⟨[F5 k],[],[(2,26)]⟩ 16 f16 func16 call16 [(.aO I sI),(.aO I sI)] [.bool] (fun d=>Ei k d.1 d.2.1) []
def yG(k:Nat)(a b:Bool×XQ×List (Bool×XI×Int×Int×Int×Int)×XQ×Int×XI):Option (Bool×Unit):=
 bif !(a.1==b.1) then
  some (false,())
 else
  (vz k a.2.1 b.2.1).bind fun r1=>
  bif !r1.1 then
   some (false,())
  else
   (yH k a.2.2.1 b.2.2.1).bind fun r2=>
   bif !r2.1 then
    some (false,())
   else
    (vz k a.2.2.2.1 b.2.2.2.1).bind fun r3=>
    bif !r3.1 then
     some (false,())
    else
     (Ei k a.2.2.2.2 b.2.2.2.2).bind fun r4=>
     bif !r4.1 then
      some (false,())
     else
      some (true,())
def Rh(k:Nat):Cl aW:=om ⟨[O5 k,JW k,O4 k],[],[(2,28)]⟩ 6 f6 func6 call6 [(.aO .bool (.aO sQ (.aO (.slice (.aO .bool (.aO sI tQ))) (.aO sQ (.aO I sI))))),(.aO .bool (.aO sQ (.aO (.slice (.aO .bool (.aO sI tQ))) (.aO sQ (.aO I sI)))))] [.bool] (fun d=>yG k d.1 d.2.1) []
end
end Go.Fx.R5
