/- Proved here: laws.FnHuntTries returns true at every input (the tied card), no condition beyond the card. -/
import Derived.Shelf.Strconv.Atoi
import Derived.Shelf.LaysM
import Derived.Shelf.Strconv.Clone
import Derived.Shelf.Strings.Prefix
import Derived.Test.YtooajghcoijkaaaGreatDoorProg
import Derived.Test.YtooajghcoijkaaaGreatDoorChecked
import Derived.WalkKit
import Derived.Recover
import Derived.Laws.Pointers
import Derived.Test.YtooajghcoijkaaaGreatDoorFc
set_option linter.unusedVariables false
set_option linter.unusedSimpArgs false
set_option linter.unusedSectionVars false
set_option linter.defProp false
set_option maxRecDepth 100000
namespace Go.Proofs
open Go.Shelf
def Tryz.TQ:Go.Shelf.Ren:=⟨fun|172=>156|244=>162|245=>163|247=>171|279=>172|280=>173|281=>174|282=>175|287=>181|316=>155|171=>183|205=>182|321=>186|322=>187|243=>188|246=>190|283=>191|284=>192|285=>193|286=>194|129=>196|317=>195|318=>197|319=>198|320=>199|337=>200|338=>201|n=>n,fun|9=>9|3=>3|75=>172|76=>173|4=>4|5=>5|167=>179|37=>29|0=>0|85=>180|2=>2|168=>182|53=>187|175=>188|46=>190|210=>192|127=>177|145=>198|143=>196|21=>21|171=>201|173=>204|212=>206|51=>207|20=>20|213=>208|232=>211|233=>212|80=>114|n=>n,fun|15=>1|16=>2|17=>5|18=>6|19=>7|n=>n⟩
theorem Tryz.ab2:Go.Proofs.Lays.n172 Tryz.prog Tryz.TQ:={
 mixed:=by kernel_rfl
 f129:=Tryz.func196.trans (congrArg some (by kernel_rfl))
 f171:=Tryz.func183.trans (congrArg some (by kernel_rfl))
 f172:=Tryz.func156.trans (congrArg some (by kernel_rfl))
 f205:=Tryz.func182.trans (congrArg some (by kernel_rfl))
 f243:=Tryz.func188.trans (congrArg some (by kernel_rfl))
 f244:=Tryz.func162.trans (congrArg some (by kernel_rfl))
 f245:=Tryz.func163.trans (congrArg some (by kernel_rfl))
 f246:=Tryz.func190.trans (congrArg some (by kernel_rfl))
 f247:=Tryz.func171.trans (congrArg some (by kernel_rfl))
 f279:=Tryz.func172.trans (congrArg some (by kernel_rfl))
 f280:=Tryz.func173.trans (congrArg some (by kernel_rfl))
 f281:=Tryz.func174.trans (congrArg some (by kernel_rfl))
 f282:=Tryz.func175.trans (congrArg some (by kernel_rfl))
 f283:=Tryz.func191.trans (congrArg some (by kernel_rfl))
 f284:=Tryz.func192.trans (congrArg some (by kernel_rfl))
 f285:=Tryz.func193.trans (congrArg some (by kernel_rfl))
 f286:=Tryz.func194.trans (congrArg some (by kernel_rfl))
 f287:=Tryz.func181.trans (congrArg some (by kernel_rfl))
 f316:=Tryz.func155.trans (congrArg some (by kernel_rfl))
 f317:=Tryz.func195.trans (congrArg some (by kernel_rfl))
 f318:=Tryz.func197.trans (congrArg some (by kernel_rfl))
 f319:=Tryz.func198.trans (congrArg some (by kernel_rfl))
 f320:=Tryz.func199.trans (congrArg some (by kernel_rfl))
 f321:=Tryz.func186.trans (congrArg some (by kernel_rfl))
 f322:=Tryz.func187.trans (congrArg some (by kernel_rfl))
 f337:=Tryz.func200.trans (congrArg some (by kernel_rfl))
 f338:=Tryz.func201.trans (congrArg some (by kernel_rfl))
 t0:=Tryz.underlying0
 a0:=Tryz.isAgg0
 z0:=Tryz.sizeOf0
 v0:=Tryz.zeroValue0
 t2:=Tryz.underlying2
 a2:=Tryz.isAgg2
 z2:=Tryz.sizeOf2
 v2:=Tryz.zeroValue2
 t3:=Tryz.underlying3
 a3:=Tryz.isAgg3
 z3:=Tryz.sizeOf3
 v3:=Tryz.zeroValue3
 t4:=Tryz.underlying4
 a4:=Tryz.isAgg4
 z4:=Tryz.sizeOf4
 v4:=Tryz.zeroValue4
 t5:=Tryz.underlying5
 a5:=Tryz.isAgg5
 z5:=Tryz.sizeOf5
 v5:=Tryz.zeroValue5
 t9:=Tryz.underlying9
 a9:=Tryz.isAgg9
 z9:=Tryz.sizeOf9
 v9:=Tryz.zeroValue9
 t20:=Tryz.underlying20
 a20:=Tryz.isAgg20
 z20:=Tryz.sizeOf20
 v20:=Tryz.zeroValue20
 t21:=Tryz.underlying21
 a21:=Tryz.isAgg21
 z21:=Tryz.sizeOf21
 v21:=Tryz.zeroValue21
 t37:=Tryz.underlying29
 a37:=Tryz.isAgg29
 z37:=Tryz.sizeOf29
 v37:=Tryz.zeroValue29
 t46:=Tryz.underlying190
 a46:=Tryz.isAgg190
 z46:=Tryz.sizeOf190
 v46:=Tryz.zeroValue190
 t51:=Tryz.underlying207
 a51:=Tryz.isAgg207
 z51:=Tryz.sizeOf207
 v51:=Tryz.zeroValue207
 t53:=Tryz.underlying187
 a53:=Tryz.isAgg187
 z53:=Tryz.sizeOf187
 v53:=Tryz.zeroValue187
 t75:=Tryz.underlying172
 a75:=Tryz.isAgg172
 z75:=Tryz.sizeOf172
 v75:=Tryz.zeroValue172
 t76:=Tryz.underlying173
 a76:=Tryz.isAgg173
 z76:=Tryz.sizeOf173
 v76:=Tryz.zeroValue173
 t85:=Tryz.underlying180
 a85:=Tryz.isAgg180
 z85:=Tryz.sizeOf180
 v85:=Tryz.zeroValue180
 t127:=Tryz.underlying177
 a127:=Tryz.isAgg177
 z127:=Tryz.sizeOf177
 v127:=Tryz.zeroValue177
 t143:=Tryz.underlying196
 a143:=Tryz.isAgg196
 z143:=Tryz.sizeOf196
 v143:=Tryz.zeroValue196
 t145:=Tryz.underlying198
 a145:=Tryz.isAgg198
 z145:=Tryz.sizeOf198
 v145:=Tryz.zeroValue198
 t167:=Tryz.underlying179
 a167:=Tryz.isAgg179
 z167:=Tryz.sizeOf179
 v167:=Tryz.zeroValue179
 t168:=Tryz.underlying182
 a168:=Tryz.isAgg182
 z168:=Tryz.sizeOf182
 v168:=Tryz.zeroValue182
 t171:=Tryz.underlying201
 a171:=Tryz.isAgg201
 z171:=Tryz.sizeOf201
 v171:=Tryz.zeroValue201
 t173:=Tryz.underlying204
 a173:=Tryz.isAgg204
 z173:=Tryz.sizeOf204
 v173:=Tryz.zeroValue204
 t175:=Tryz.underlying188
 a175:=Tryz.isAgg188
 z175:=Tryz.sizeOf188
 v175:=Tryz.zeroValue188
 t210:=Tryz.underlying192
 a210:=Tryz.isAgg192
 z210:=Tryz.sizeOf192
 v210:=Tryz.zeroValue192
 t212:=Tryz.underlying206
 a212:=Tryz.isAgg206
 z212:=Tryz.sizeOf206
 v212:=Tryz.zeroValue206
 t213:=Tryz.underlying208
 a213:=Tryz.isAgg208
 z213:=Tryz.sizeOf208
 t232:=Tryz.underlying211
 a232:=Tryz.isAgg211
 z232:=Tryz.sizeOf211
 v232:=Tryz.zeroValue211
 t233:=Tryz.underlying212
 a233:=Tryz.isAgg212
 z233:=Tryz.sizeOf212
 v233:=Tryz.zeroValue212
 g15:=by kernel_rfl
 g16:=by kernel_rfl
 g17:=by kernel_rfl
 g18:=by kernel_rfl
 g19:=by kernel_rfl}
open Go.RowKit in
theorem Tryz.strconv_Atoi(s:ByteArray)(n:Int)(hl:s.size≤18)(h:Lib.atoi s.data.toList=some n)(w:World):
 Calls Tryz.prog 156 #[.string s] w fun e w'=>e=.returned (.tuple #[.int .i64 n,.nilIface])∧∃ t,w' = Lib.bytesWorld w 5 t:=Any.strconv_Atoi Tryz.ab2 s n hl h w
def Tryz.R4:Go.Shelf.Ren:=⟨fun|316=>155|n=>n,fun|9=>9|3=>3|4=>4|37=>29|0=>0|127=>177|5=>5|n=>n,fun|n=>n⟩
theorem Tryz.aab:Go.Proofs.LaysM.n316 Tryz.prog Tryz.R4:={
 mixed:=by kernel_rfl
 f316:=Tryz.func155.trans (congrArg some (by kernel_rfl))
 t0:=Tryz.underlying0
 a0:=Tryz.isAgg0
 z0:=Tryz.sizeOf0
 v0:=Tryz.zeroValue0
 t3:=Tryz.underlying3
 a3:=Tryz.isAgg3
 z3:=Tryz.sizeOf3
 v3:=Tryz.zeroValue3
 t4:=Tryz.underlying4
 a4:=Tryz.isAgg4
 z4:=Tryz.sizeOf4
 v4:=Tryz.zeroValue4
 t9:=Tryz.underlying9
 a9:=Tryz.isAgg9
 z9:=Tryz.sizeOf9
 v9:=Tryz.zeroValue9
 t37:=Tryz.underlying29
 a37:=Tryz.isAgg29
 z37:=Tryz.sizeOf29
 v37:=Tryz.zeroValue29
 t127:=Tryz.underlying177
 a127:=Tryz.isAgg177
 z127:=Tryz.sizeOf177
 v127:=Tryz.zeroValue177
 t5:=Tryz.underlying5
 a5:=Tryz.isAgg5
 z5:=Tryz.sizeOf5
 v5:=Tryz.zeroValue5
 i0:=by kernel_rfl
 i3:=by kernel_rfl
 i4:=by kernel_rfl
 i5:=by kernel_rfl
 i9:=by kernel_rfl
 i37:=by kernel_rfl
 i127:=by kernel_rfl}
open Go.RowKit in
theorem Tryz.stringslite_Clone(s:ByteArray)(w:World)(L5:s.size≤281474976710656):
 Calls Tryz.prog 155 #[.string s] w fun e w'=>e=.returned (.string s)∧Below w.heap.size w w':=Any.stringslite_Clone Tryz.aab s w L5
def Tryz.Vo:Go.Shelf.Ren:=⟨fun|99=>157|206=>164|n=>n,fun|9=>9|4=>4|3=>3|n=>n,fun|n=>n⟩
theorem Tryz.aes:Go.Proofs.Lays.n99 Tryz.prog Tryz.Vo:={
 mixed:=by kernel_rfl
 f99:=Tryz.func157.trans (congrArg some (by kernel_rfl))
 f206:=Tryz.func164.trans (congrArg some (by kernel_rfl))
 t3:=Tryz.underlying3
 a3:=Tryz.isAgg3
 z3:=Tryz.sizeOf3
 v3:=Tryz.zeroValue3
 t4:=Tryz.underlying4
 a4:=Tryz.isAgg4
 z4:=Tryz.sizeOf4
 v4:=Tryz.zeroValue4
 t9:=Tryz.underlying9
 a9:=Tryz.isAgg9
 z9:=Tryz.sizeOf9
 v9:=Tryz.zeroValue9}
open Go.RowKit Go.Lib in
theorem Tryz.strings_HasPrefix(s p:ByteArray)(w:World):
 Calls Tryz.prog 157 #[.string s,.string p] w fun e w'=>e=.returned (.bool (Lib.hasPrefix s.data.toList p.data.toList))∧w' = w:=Any.strings_HasPrefix Tryz.aes s p w
end Go.Proofs
namespace Go.Proofs
open Go.Shelf Go.RowKit
set_option maxHeartbeats 4000000
theorem N4(s:ByteArray)(w:World)(hs:0<s.size)(h:(1<s.size∧(s[0]'hs).toNat=48)∨10<s.size):
  Calls Tryz.prog 127 #[.string s] w fun e w'=>e=.returned (.tuple #[.int .i64 0,.bool false])∧w' = w:=by
 go_enter Tryz.func127,Tryz.ntmps127
 go_wp2_with fail
 all_goals first
  |(go_ret2;exact⟨rfl,rfl⟩)
  |(exfalso;rcases h with ⟨h1,h2⟩|h1<;>simp_all<;>omega)
  |skip
theorem L9(s:ByteArray)(w:World)(hs:0<s.size)(h1:1<s.size→(s[0]'hs).toNat≠48)(h2:s.size≤10)(n:Int)(hn:Lib.atoi s.data.toList=some n):
  Calls Tryz.prog 127 #[.string s] w fun e w'=>e=.returned (.tuple (bif decide (2147483647<n) then #[.int .i64 0,.bool false] else #[.int .i64 n,.bool true]))∧∃ t,w' = Lib.bytesWorld w 5 t:=by
 go_enter Tryz.func127,Tryz.ntmps127
 go_wp2_with (go_at_call 156;refine(Tryz.strconv_Atoi s n (by omega) hn w).mono ?_;rintro e w' ⟨rfl,t,rfl⟩)
 all_goals first
  |(exfalso;simp_all<;>omega)
  |(go_ret2;refine⟨?_,_,rfl⟩;rename_i hh;simp only[hh,decide_true,cond_true];rfl)
  |(go_ret2;refine⟨?_,_,rfl⟩;rename_i hh;simp only[show ¬ 2147483647<n by omega,decide_false,cond_false];rfl)
  |skip
end Go.Proofs
namespace Go.Fx.R5
open Go Go.Proofs
theorem ae3(w:World):(Instr.typeAssert .nilIface 20 128 true).run Tryz.prog w=.ok (.tuple #[.agg #[.int .i64 0,.int .i64 0],.bool false]) w:=by kernel_rfl
theorem acG(u:Value)(w:World):(Instr.typeAssert (.iface 128 u) 20 128 true).run Tryz.prog w=.ok (.tuple #[u,.bool true]) w:=by kernel_rfl
def clA(p2 p3:Addr)(l:List Value):Act:={tmps:=(Value.pointer (some p2)::Value.pointer (some p3)::l).toArray,defers:=[]}
theorem Va(p2 p3:Addr)(w:World):
  CallsD Tryz.prog 70 #[.pointer (some p2),.pointer (some p3)] .returning w fun e u' w'=>e=.returned (.tuple #[])∧u' = .returning∧w' = w.alloc (.cells #[.int .i64 0,.int .i64 0] 128):=by
 refine callsD_of_wpS Tryz.func70 rfl fun c₀ cs hu=>?_;show Code.wpS _ _ _ {tmps:=#[Value.pointer (some p2),Value.pointer (some p3),undef,undef,undef,undef,undef,undef,undef,undef,undef,undef],defers:=[]} _ _;apply wpS_seq;apply wpS_region;simp[wpOpsS,go_sem,recoverD,hu,Exit.thenS,ae3];apply wpS_seq;apply wpS_region;simp[wpOpsS,go_sem,Exit.thenS];refine wpS_cond (t:=false) (by simp[Act.eval]) ?_
 simp only[asa,Q9];refine wpS_of_wp (wp_skip ?_);cases c₀;simp_all[bodyPostS,results,Tryz.results70]
theorem LN(b2 o2 b3 o3:Nat)(c a:Int)(x y z:Value)(adx:List PanicEntry)(w:World)(hb:b2≠b3)(l2:b2<w.heap.size)(l3:b3<w.heap.size)(h2:w.cell? ⟨b2,o2,none⟩=some x)(z2:w.frozen? ⟨b2,o2,none⟩=false)(h3:w.cell? ⟨b3,o3,none⟩=some y)(z3:w.frozen? ⟨b3,o3,none⟩=false)(h4:w.cell? ⟨b3,o3+1,none⟩=some z)(z4:w.frozen? ⟨b3,o3+1,none⟩=false):
  CallsD Tryz.prog 70 #[.pointer (some ⟨b2,o2,none⟩),.pointer (some ⟨b3,o3,none⟩)] (.panicking ({v:=.iface 128 (.agg #[.int .i64 c,.int .i64 a]),recovered:=false}::adx)) w fun e u' w'=>e=.returned (.tuple #[])∧u' = .panicking ({v:=.iface 128 (.agg #[.int .i64 c,.int .i64 a]),recovered:=true}::adx)∧
   w' = ((((w.alloc (.cells #[.int .i64 c,.int .i64 a] 128)).setCell ⟨b2,o2,none⟩ (.slice none 0 0)).setCell ⟨b3,o3,none⟩ (.int .i64 c)).setCell ⟨b3,o3+1,none⟩ (.int .i64 a)).drew:=by
 refine callsD_of_wpS Tryz.func70 rfl fun c₀ cs hu=>?_;show Code.wpS _ _ _ {tmps:=#[Value.pointer (some ⟨b2,o2,none⟩),Value.pointer (some ⟨b3,o3,none⟩),undef,undef,undef,undef,undef,undef,undef,undef,undef,undef],defers:=[]} _ _;apply wpS_seq;apply wpS_region;simp[wpOpsS,go_sem,recoverD,hu,Exit.thenS,acG];apply wpS_seq;apply wpS_region;simp[wpOpsS,go_sem,Exit.thenS];refine wpS_cond (t:=true) (by simp[Act.eval]) ?_
 simp only[ava];refine wpS_of_wp ?_;have q2:(w.alloc (.cells #[.int .i64 c,.int .i64 a] 128)).cell? ⟨b2,o2,none⟩=some x:=by rw[bJa _ _ _ l2];exact h2
 have q3:(w.alloc (.cells #[.int .i64 c,.int .i64 a] 128)).cell? ⟨b3,o3,none⟩=some y:=by rw[bJa _ _ _ l3];exact h3
 have q4:(w.alloc (.cells #[.int .i64 c,.int .i64 a] 128)).cell? ⟨b3,o3+1,none⟩=some z:=by rw[bJa _ _ _ l3];exact h4
 have r2:(w.alloc (.cells #[.int .i64 c,.int .i64 a] 128)).frozen? ⟨b2,o2,none⟩=false:=by rw[cja _ _ _ l2];exact z2
 have r3:(w.alloc (.cells #[.int .i64 c,.int .i64 a] 128)).frozen? ⟨b3,o3,none⟩=false:=by rw[cja _ _ _ l3];exact z3
 have r4:(w.alloc (.cells #[.int .i64 c,.int .i64 a] 128)).frozen? ⟨b3,o3+1,none⟩=false:=by rw[cja _ _ _ l3];exact z4
 have k0:(w.alloc (.cells #[.int .i64 c,.int .i64 a] 128)).cell? ⟨w.heap.size,0,none⟩=some (.int .i64 c):=by simp[go_sem]
 have k1:(w.alloc (.cells #[.int .i64 c,.int .i64 a] 128)).cell? ⟨w.heap.size,1,none⟩=some (.int .i64 a):=by simp[go_sem]
 have n2:b2≠w.heap.size:=Nat.ne_of_lt l2;have n3:b3≠w.heap.size:=Nat.ne_of_lt l3;generalize w.alloc (.cells #[.int .i64 c,.int .i64 a] 128)=W at *;generalize w.heap.size=B at *
 go_region
 cases c₀;simp_all[bodyPostS,results,Tryz.results70]
end Go.Fx.R5
namespace Go.Fx.R5
open Go Go.Fx Go.Proofs Go.Proofs.Tryz
noncomputable section
abbrev XN:=List (Int×Int×Int×ab×List Int)
abbrev XF:=List (ab×Int×List ab×List ab×Int)
abbrev XT:=List (Int×Int×ab×Int)
abbrev XE:=List (Int×Int×Int×Int×Int)
abbrev XQ:=List (Int×Int×Int×Int)
abbrev XA:=List (ab×Int)
abbrev XL:=List (List Int)
abbrev XS:=List ab
abbrev XI:=List Int
abbrev XB:=List Bool
abbrev tN:Ty:=(.da I (.da I (.da I (.da .str (.slice I)))))
abbrev tF:Ty:=(.da .str (.da I (.da (.slice .str) (.da (.slice .str) I))))
abbrev tT:Ty:=(.da I (.da I (.da .str I)))
abbrev tE:Ty:=(.da I (.da I (.da I (.da I I))))
abbrev tQ:Ty:=(.da I (.da I (.da I I)))
abbrev tA:Ty:=(.da .str I)
abbrev tP:Ty:=(.da I I)
abbrev sN:Ty:=(.slice tN)
abbrev sF:Ty:=(.slice tF)
abbrev sT:Ty:=(.slice tT)
abbrev sE:Ty:=(.slice tE)
abbrev sQ:Ty:=(.slice tQ)
abbrev sA:Ty:=(.slice tA)
abbrev sL:Ty:=(.slice (.slice I))
abbrev sI:Ty:=(.slice I)
abbrev sS:Ty:=(.slice .str)
abbrev sB:Ty:=(.slice .bool)
abbrev tM:Ty:=(.da sA (.da sS sF))
abbrev tG:Ty:=(.da (.slice .str) (.da sS I))
theorem mix:prog.follows .mixedOrders=true:=by kernel_rfl
def xW:List ab:=[[43,37],[45,37],[42,37],[60,60],[62,62],[61,61],[33,61],[60,61],[62,61],[46,46],[43,61],[43],[45],[42],[47],[37],[38],[124],[94],[60],[62],[61],[40],[41],[123],[125],[91],[93],[44],[59]]
def Pm:List ab:=[[],[43],[45],[42],[47],[37],[38],[124],[94],[60,60],[62,62],[43,37],[45,37],[42,37]]
def gl4:List ab:=[[],[61,61],[33,61],[60],[60,61],[62],[62,61]]
def gt:Nat→Option GA
 |0=>some ⟨.str,xW⟩
 |3=>some ⟨.str,Pm⟩
 |4=>some ⟨.str,gl4⟩
 |_=>none
noncomputable def ahV:List (Tb prog):=[tb 3 t3 underlying3 ⟨1,8,some I,.int .i64,[.int .i64 0]⟩,
 tb 4 t4 underlying4 ⟨1,1,some .bool,.bool,[.bool false]⟩,
 tb 5 t5 underlying5 ⟨1,1,some U,.int .u8,[.int .u8 0]⟩,
 tb 9 t9 underlying9 ⟨1,16,some .str,.str,[.string ⟨#[]⟩]⟩,
 tb 22 t22 underlying22 ⟨1,24,some sI,.slice 3,[.slice none 0 0]⟩,
 tb 29 t29 underlying29 ⟨1,24,some (.slice U),.slice 5,[.slice none 0 0]⟩,
 tb 31 t31 underlying31 ⟨1,24,some sA,.slice 42,[.slice none 0 0]⟩,
 tb 32 t32 underlying32 ⟨1,24,some sS,.slice 9,[.slice none 0 0]⟩,
 tb 33 t33 underlying33 ⟨1,24,some sF,.slice 67,[.slice none 0 0]⟩,
 tb 35 t35 underlying35 ⟨3,72,some tM,.struct [(0,31),(1,32),(2,33)],[.slice none 0 0,.slice none 0 0,.slice none 0 0]⟩,
 tb 37 t37 underlying37 ⟨2,16,some tP,.struct [(0,3),(1,3)],[.int .i64 0,.int .i64 0]⟩,
 tb 42 t42 underlying42 ⟨2,24,some tA,.struct [(0,9),(1,3)],[.string ⟨#[]⟩,.int .i64 0]⟩,
 tb 43 t43 underlying43 ⟨1,24,some sN,.slice 47,[.slice none 0 0]⟩,
 tb 47 t47 underlying47 ⟨5,64,some tN,.struct [(0,3),(1,3),(2,3),(3,9),(4,22)],[.int .i64 0,.int .i64 0,.int .i64 0,.string ⟨#[]⟩,.slice none 0 0]⟩,
 tb 52 t52 underlying52 ⟨1,8,none,.lw 86,[.pointer none]⟩,
 tb 56 t56 underlying56 ⟨1,8,none,.lw 93,[.pointer none]⟩,
 tb 67 t67 underlying67 ⟨5,80,some tF,.struct [(0,9),(1,3),(2,32),(3,32),(4,3)],[.string ⟨#[]⟩,.int .i64 0,.slice none 0 0,.slice none 0 0,.int .i64 0]⟩,
 tb 68 t68 underlying68 ⟨1,8,none,.lw 70,[.pointer none]⟩,
 tb 70 t70 underlying70 ⟨8,152,some (.da tM (.da sN (.da .str (.da sS tP)))),.struct [(0,35),(3,43),(4,9),(5,32),(6,37)],[.slice none 0 0,.slice none 0 0,.slice none 0 0,.slice none 0 0,.string ⟨#[]⟩,.slice none 0 0,.int .i64 0,.int .i64 0]⟩,
 tb 72 t72 underlying72 ⟨1,24,some sT,.slice 110,[.slice none 0 0]⟩,
 tb 75 t75 underlying75 ⟨1,8,none,.lw 77,[.pointer none]⟩,
 tb 77 t77 underlying77 ⟨7,88,some (.da sT (.da I (.da I (.da sN (.da I tP))))),.struct [(0,72),(1,3),(2,3),(3,43),(4,3),(5,37)],[.slice none 0 0,.int .i64 0,.int .i64 0,.slice none 0 0,.int .i64 0,.int .i64 0,.int .i64 0]⟩,
 tb 78 t78 underlying78 ⟨1,8,none,.lw 118,[.pointer none]⟩,
 tb 81 t81 underlying81 ⟨1,24,some sB,.slice 4,[.slice none 0 0]⟩,
 tb 82 t82 underlying82 ⟨1,24,some sE,.slice 99,[.slice none 0 0]⟩,
 tb 84 t84 underlying84 ⟨4,96,some (.da sI (.da sI (.da sB sE))),.struct [(0,22),(1,22),(2,81),(3,82)],[.slice none 0 0,.slice none 0 0,.slice none 0 0,.slice none 0 0]⟩,
 tb 86 t86 underlying86 ⟨9,216,some (.da tM (.da sN (.da (.da sI (.da sI (.da sB sE))) sB))),.struct [(0,35),(3,43),(4,84),(8,81)],[.slice none 0 0,.slice none 0 0,.slice none 0 0,.slice none 0 0,.slice none 0 0,.slice none 0 0,.slice none 0 0,.slice none 0 0,.slice none 0 0]⟩,
 tb 90 t90 underlying90 ⟨1,24,some sQ,.slice 167,[.slice none 0 0]⟩,
 tb 91 t91 underlying91 ⟨1,24,some sL,.slice 22,[.slice none 0 0]⟩,
 tb 93 t93 underlying93 ⟨13,312,some (.da sN (.da tM (.da sI (.da sI (.da (.da sI (.da sI (.da sB sE))) (.da sQ (.da sL sB))))))),.struct [(0,43),(1,35),(4,22),(5,22),(6,84),(10,90),(11,91),(12,81)],[.slice none 0 0,.slice none 0 0,.slice none 0 0,.slice none 0 0,.slice none 0 0,.slice none 0 0,.slice none 0 0,.slice none 0 0,.slice none 0 0,.slice none 0 0,.slice none 0 0,.slice none 0 0,.slice none 0 0]⟩,
 tb 95 t95 underlying95 ⟨1,8,none,.lw 97,[.pointer none]⟩,
 tb 97 t97 underlying97 ⟨7,136,none,.struct [(0,56),(1,3),(2,84),(6,90)],[.pointer none,.int .i64 0,.slice none 0 0,.slice none 0 0,.slice none 0 0,.slice none 0 0,.slice none 0 0]⟩,
 tb 99 t99 underlying99 ⟨5,40,some tE,.struct [(0,3),(1,3),(2,3),(3,3),(4,3)],[.int .i64 0,.int .i64 0,.int .i64 0,.int .i64 0,.int .i64 0]⟩,
 tb 110 t110 underlying110 ⟨4,40,some tT,.struct [(0,3),(1,3),(2,9),(3,3)],[.int .i64 0,.int .i64 0,.string ⟨#[]⟩,.int .i64 0]⟩,
 tb 118 t118 underlying118 ⟨2,32,some (.da (.slice U) I),.struct [(0,29),(1,3)],[.slice none 0 0,.int .i64 0]⟩,
 tb 120 t120 underlying120 ⟨11,248,some (.da tM (.da sN (.da I (.da (.da sI (.da sI (.da sB sE))) (.da sI sI))))),.struct [(0,35),(3,43),(4,3),(5,84),(9,22),(10,22)],[.slice none 0 0,.slice none 0 0,.slice none 0 0,.slice none 0 0,.int .i64 0,.slice none 0 0,.slice none 0 0,.slice none 0 0,.slice none 0 0,.slice none 0 0,.slice none 0 0]⟩,
 tb 121 t121 underlying121 ⟨1,8,none,.lw 120,[.pointer none]⟩,
 tb 124 t124 underlying124 ⟨1,8,none,.lw 126,[.pointer none]⟩,
 tb 126 t126 underlying126 ⟨5,72,some (.da sT (.da I (.da I (.da I sN)))),.struct [(0,72),(1,3),(2,3),(3,3),(4,43)],[.slice none 0 0,.int .i64 0,.int .i64 0,.int .i64 0,.slice none 0 0]⟩,
 tb 128 t128 underlying128 ⟨2,16,some (.one tP),.struct [(0,37)],[.int .i64 0,.int .i64 0]⟩,
 tb 130 t130 underlying130 ⟨1,8,none,.mp 9 3,[.map none]⟩,
 tb 132 t132 underlying132 ⟨1,8,none,.lw 35,[.pointer none]⟩,
 tb 134 t134 underlying134 ⟨1,8,none,.lw 67,[.pointer none]⟩,
 tb 137 t137 underlying137 ⟨10,184,none,.struct [(0,43),(1,35),(4,67),(9,130)],[.slice none 0 0,.slice none 0 0,.slice none 0 0,.slice none 0 0,.string ⟨#[]⟩,.int .i64 0,.slice none 0 0,.slice none 0 0,.int .i64 0,.map none]⟩,
 tb 142 t142 underlying142 ⟨6,6,some (.arr 6 .bool),.arr 6 4,[.bool false,.bool false,.bool false,.bool false,.bool false,.bool false]⟩,
 tb 143 t143 underlying143 ⟨36,36,some (.arr 6 (.arr 6 .bool)),.arr 6 142,[.bool false,.bool false,.bool false,.bool false,.bool false,.bool false,.bool false,.bool false,.bool false,.bool false,.bool false,.bool false,.bool false,.bool false,.bool false,.bool false,.bool false,.bool false,.bool false,.bool false,.bool false,.bool false,.bool false,.bool false,.bool false,.bool false,.bool false,.bool false,.bool false,.bool false,.bool false,.bool false,.bool false,.bool false,.bool false,.bool false]⟩,
 tb 144 t144 underlying144 ⟨1,8,none,.lw 146,[.pointer none]⟩,
 tb 146 t146 underlying146 ⟨5,88,none,.struct [(0,78),(1,32),(2,32),(3,32),(4,3)],[.pointer none,.slice none 0 0,.slice none 0 0,.slice none 0 0,.int .i64 0]⟩,
 tb 158 t158 underlying158 ⟨1,8,none,.lw 137,[.pointer none]⟩,
 tb 167 t167 underlying167 ⟨4,32,some tQ,.struct [(0,3),(1,3),(2,3),(3,3)],[.int .i64 0,.int .i64 0,.int .i64 0,.int .i64 0]⟩,
 tb 175 t175 underlying175 ⟨30,480,some (.arr 30 .str),.arr 30 9,[.string ⟨#[]⟩,.string ⟨#[]⟩,.string ⟨#[]⟩,.string ⟨#[]⟩,.string ⟨#[]⟩,.string ⟨#[]⟩,.string ⟨#[]⟩,.string ⟨#[]⟩,.string ⟨#[]⟩,.string ⟨#[]⟩,.string ⟨#[]⟩,.string ⟨#[]⟩,.string ⟨#[]⟩,.string ⟨#[]⟩,.string ⟨#[]⟩,.string ⟨#[]⟩,.string ⟨#[]⟩,.string ⟨#[]⟩,.string ⟨#[]⟩,.string ⟨#[]⟩,.string ⟨#[]⟩,.string ⟨#[]⟩,.string ⟨#[]⟩,.string ⟨#[]⟩,.string ⟨#[]⟩,.string ⟨#[]⟩,.string ⟨#[]⟩,.string ⟨#[]⟩,.string ⟨#[]⟩,.string ⟨#[]⟩]⟩,
 tb 186 t186 underlying186 ⟨1,8,none,.lw 47,[.pointer none]⟩,
 tb 194 t194 underlying194 ⟨14,224,some (.arr 14 .str),.arr 14 9,[.string ⟨#[]⟩,.string ⟨#[]⟩,.string ⟨#[]⟩,.string ⟨#[]⟩,.string ⟨#[]⟩,.string ⟨#[]⟩,.string ⟨#[]⟩,.string ⟨#[]⟩,.string ⟨#[]⟩,.string ⟨#[]⟩,.string ⟨#[]⟩,.string ⟨#[]⟩,.string ⟨#[]⟩,.string ⟨#[]⟩]⟩,
 tb 200 t200 underlying200 ⟨7,112,some (.arr 7 .str),.arr 7 9,[.string ⟨#[]⟩,.string ⟨#[]⟩,.string ⟨#[]⟩,.string ⟨#[]⟩,.string ⟨#[]⟩,.string ⟨#[]⟩,.string ⟨#[]⟩]⟩]
noncomputable def a8:Prg:=⟨prog,gt,ahV,mix⟩
def HK(s p:ab):Option (Bool×Unit):=some (p.isPrefixOf s,())
def UB:iF:=AN [.str,.str] [.bool] (fun d=>HK d.1 d.2.1) id
theorem Tw:kZ prog gt 157 UB:=by refine⟨E6 (ts:=[.str,.str]) (rs:=[.bool]) (dec:=id) rfl rfl call157 fun d y w hg h=>?_,BV _ _ _ _,yd _ _ _ _⟩;cases h;exact(strings_HasPrefix ⟨⟨d.1⟩⟩ ⟨⟨d.2.1⟩⟩ w).mono fun e w' ⟨h1,h2⟩=>⟨h1,h2 ▸ Go.RowKit.Below.refl _ _⟩
def S9:Cl a8:=⟨_,_,Tw⟩
def Ch(s:ab):Option (ab×Unit):=bif decide (s.length≤281474976710656) then some (s,()) else none
def Xi:iF:=AN [.str] [.str] (fun d=>Ch d.1) id
theorem Zw:kZ prog gt 155 Xi:=by
 refine⟨E6 (ts:=[.str]) (rs:=[.str]) (dec:=id) rfl rfl call155 fun d y w hg h=>?_,BV _ _ _ _,yd _ _ _ _⟩;obtain⟨s,u⟩:=d;have h:(bif decide (s.length≤281474976710656) then some (s,()) else none)=some y:=h
 cases hb:decide (s.length≤281474976710656) with
 |false=>rw[hb] at h;cases h
 |true=>rw[hb] at h;cases h;exact stringslite_Clone ⟨⟨s⟩⟩ w (bRa hb)
def abC:Cl a8:=wD ⟨[⟨155,Xi,Zw⟩],[],[]⟩ 126 f126 func126 call126 [.str] [.str] (fun d=>Ch d.1) [] (h:=fun d=>(show Ch d.1=(Ch d.1).bind fun r=>some (r.1,()) by unfold Ch;cases decide (d.1.length≤281474976710656)<;>rfl).trans (by kernel_rfl))
def To(s:ab):Bool:=s.all fun b=>decide (48≤b.toNat)&&decide (b.toNat≤57)
def OU(s:ab):Int:=s.foldl (fun n b=>n * 10+((b.toNat:Int) - 48)) 0
def pz(s:ab):Option (Int×Bool×Unit):=
 bif !(To s)||s.isEmpty then none else
 bif (decide (1<s.length)&&(s.headD 0==48))||decide (10<s.length) then some (0,false,()) else
 bif decide (2147483647<OU s) then some (0,false,()) else some (OU s,true,())
def UC:iF:=AN [.str] [I,.bool] (fun d=>pz d.1) id
theorem Wn:∀(s:ab) (n:Nat),To s=true→∃ m:Nat,Lib.decFrom n s=some m∧(m:Int)=s.foldl (fun n b=>n * 10+((b.toNat:Int) - 48)) (n:Int)
 |[],n,_=>⟨n,rfl,rfl⟩
 |b::s,n,h=>by
  simp only[To,bpa,Q3,bQa] at h;obtain⟨m,h1,h2⟩:=Wn s (n * 10+(b.toNat - 48)) (by simpa only[To] using h.2)
  refine⟨m,by simp only[Lib.decFrom,Lib.digitVal,h.1,aPa,ava];exact h1,h2.trans ?_⟩
  rw[b5a]
  congr 1
  omega
theorem Y7(s:ab)(h:To s=true)(hs:s≠[]):Lib.atoi s=some (OU s):=by
 obtain⟨m,h1,h2⟩:=Wn s 0 h;cases s with
 |nil=>exact absurd rfl hs
 |cons b r=>
  have hb:48≤b.toNat:=by simp only[To,bpa,Q3,bQa] at h;exact h.1.1
  have n1:(b==45)=false:=by simp only[Q6];rintro rfl;revert hb;decide
  have n2:(b==43)=false:=by simp only[Q6];rintro rfl;revert hb;decide
  show Lib.atoi (b::r)=_;simp only[Lib.atoi,n1,n2,Lib.decNat,h1,List.isEmpty_cons,asa,Q9,bIa];exact bLa some h2
theorem Tx:kZ prog gt 127 UC:=by
 refine⟨E6 (ts:=[.str]) (rs:=[I,.bool]) (dec:=id) rfl rfl call127 fun d y w hg h=>?_,BV _ _ _ _,yd _ _ _ _⟩;obtain⟨s,u⟩:=d;have h:pz s=some y:=h;unfold pz at h;cases hd:To s with
 |false=>rw[hd] at h;cases h
 |true=>
 cases s with
 |nil=>cases h
 |cons b r=>
 simp only[hd,cLa,List.isEmpty_cons,Bool.or_self,aqa,List.headD_cons] at h;have hs:0<(⟨⟨b::r⟩⟩:ByteArray).size:=Nat.succ_pos _;have h48:((⟨⟨b::r⟩⟩:ByteArray)[0]'hs).toNat=48↔(b==48)=true:=by rw[a9a];exact⟨fun hh=>UInt8.toNat_inj.1 hh,fun hh=>by subst hh;rfl⟩
 cases hb:decide (1<(b::r).length)&&(b==48)||decide (10<(b::r).length) with
 |true=>rw[hb] at h;cases h;refine(N4 ⟨⟨b::r⟩⟩ w hs ?_).mono fun e w' ⟨h1,h2⟩=>⟨h1,h2 ▸ Go.RowKit.Below.refl _ _⟩;simp only[a5a,Q3,bQa] at hb;exact hb.imp (fun q=>⟨q.1,h48.2 q.2⟩) id
 |false=>
  rw[hb] at h;simp only[aGa,Bool.and_eq_false_iff,cma] at hb;have hl:¬ 10<(⟨⟨b::r⟩⟩:ByteArray).size:=hb.2;refine(L9 ⟨⟨b::r⟩⟩ w hs (fun g1 g2=>?_) (by omega) _ (Y7 (b::r) hd (by simp))).mono fun e w' ⟨h1,t,h2⟩=>?_
  ·rcases hb.1 with q|q
   ·exact q g1
   ·rw[h48.1 g2] at q;cases q
  ·have ag9:Go.RowKit.Below w.heap.size w w':=by subst h2;exact⟨rfl,rfl,rfl,by rw[Lib.bytesWorld_size];omega,fun j hj=>Lib.bytesWorld_at_old w 5 t j hj⟩
   refine⟨?_,ag9⟩;subst h1;cases hv:decide (2147483647<OU (b::r)) with
   |true=>rw[hv] at h;cases h;rfl
   |false=>rw[hv] at h;cases h;rfl
def Td:Cl a8:=⟨_,_,Tx⟩
end
end Go.Fx.R5
namespace Go.Fx.R5
open Go Go.Fx Go.Proofs Go.Proofs.Tryz
noncomputable section
def eN(ak:XT)(ju acV:Int)(bB:ab):Option (Bool×Unit):=
 aa (fun(v:Bool)=>
  some (v,())) fun cv=>
 bif decide ((bh (ju+acV))<(ak.length:Int)) then
  (bC ak (bh (ju+acV))).bind fun x1=>
  cv (x1.2.2.1==bB)
 else
  cv false
def mV:Cl a8:=lB ⟨[],[],[]⟩ 129 f129 func129 call129 [500000] ⟨⟨33,[(126,5)],[lD 126 0 sT,lI 126 1,lI 126 2,lI 126 3,lF 126 4 tN],[rP 0 126,rI 1,rD 2 .str],[]⟩,[.ret [rD 500000 .bool] []],fun c v=>eN c.1 c.2.2.1 v.2.1 v.2.2.1⟩ []
def aE(ak:XT)(ju:Int)(bB:ab):Option (Bool×Int×Unit):=
 (eN ak ju 0 bB).bind fun r1=>
 bif !r1.1 then
  some (false,ju,())
 else
  some (true,(bh (ju+1)),())
def fC:Cl a8:=lB ⟨[mV],[],[]⟩ 106 f106 func106 call106 [500000] ⟨⟨16,[(126,5)],[lD 126 0 sT,lI 126 1,lI 126 3,lF 126 4 tN],[rP 0 126,rD 1 .str,lI 126 2],[]⟩,[.ret [rD 500000 .bool,lI 126 2] []],fun c v=>aE c.1 v.2.2.1 v.2.1⟩ []
def df(ak:XT)(aC ju:Int):Option (Int×Unit):=
 bif decide (ju<(ak.length:Int)) then
  (bC ak ju).bind fun x1=>
  some (x1.2.1,())
 else
  some (aC,())
def eD:Cl a8:=lB ⟨[],[],[]⟩ 131 f131 func131 call131 [500000] ⟨⟨28,[(126,5)],[lD 126 0 sT,lI 126 1,lI 126 2,lI 126 3,lF 126 4 tN],[rP 0 126],[]⟩,[.ret [rI 500000] []],fun c v=>df c.1 c.2.1 c.2.2.1⟩ []
def gT(ak:XT)(aC ju code:Int):Option (Int×Int×Unit):=
 (df ak aC ju).bind fun r1=>
 some (code,r1.1,())
def jw:Cl a8:=lB ⟨[eD],[],[]⟩ 112 f112 func112 call112 [] ⟨⟨10,[(126,5)],[lD 126 0 sT,lI 126 1,lI 126 2,lI 126 3,lF 126 4 tN],[rP 0 126,rI 1],[]⟩,[.AT 128 [I,I]],fun c v=>gT c.1 c.2.1 c.2.2.1 v.2.1⟩ []
def iw(ak:XT)(ju EA:Int):Option (Bool×Unit):=
 aa (fun(v:Bool)=>
  some (v,())) fun cv=>
 bif decide (ju<(ak.length:Int)) then
  (bC ak ju).bind fun x1=>
  cv (x1.1==EA)
 else
  cv false
def mC:Cl a8:=lB ⟨[],[],[]⟩ 130 f130 func130 call130 [500000] ⟨⟨30,[(126,5)],[lD 126 0 sT,lI 126 1,lI 126 2,lI 126 3,lF 126 4 tN],[rP 0 126,rI 1],[]⟩,[.ret [rD 500000 .bool] []],fun c v=>iw c.1 c.2.2.1 v.2.1⟩ []
def dh(ak:XT)(aC ju EA:Int):Option ((((Int×Int×ab×Int)×Int×Unit)⊕(Int×Int×Unit))):=
 (iw ak ju EA).bind fun r1=>
 bif !r1.1 then
  (gT ak aC ju 6).bind fun r2=>
  some (.inr (r2.1,r2.2.1,()))
 else
  (bC ak (bh ((bh (ju+1)) - 1))).bind fun x1=>
  some (.inl (x1,(bh (ju+1)),()))
def gZ:Cl a8:=lB ⟨[jw,mC],[],[(4,110)]⟩ 107 f107 func107 call107 [500000] ⟨⟨29,[(126,5)],[lD 126 0 sT,lI 126 1,lI 126 3,lF 126 4 tN],[rP 0 126,rI 1,lI 126 2],[]⟩,[.ret [rD 500000 tT,lI 126 2] [],.AT 128 [I,I]],fun c v=>dh c.1 c.2.1 v.2.2.1 v.2.1⟩ []
def aW(ak:XT)(aC ju:Int)(bB:ab):Option (((Int×Unit)⊕(Int×Int×Unit))):=
 (aE ak ju bB).bind fun r1=>
 bif !r1.1 then
  (gT ak aC r1.2.1 6).bind fun r2=>
  some (.inr (r2.1,r2.2.1,()))
 else
  some (.inl (r1.2.1,()))
def gF:Cl a8:=lB ⟨[fC,jw],[],[]⟩ 108 f108 func108 call108 [] ⟨⟨10,[(126,5)],[lD 126 0 sT,lI 126 1,lI 126 3,lF 126 4 tN],[rP 0 126,rD 1 .str,lI 126 2],[]⟩,[.ret [lI 126 2] [],.AT 128 [I,I]],fun c v=>aW c.1 c.2.1 v.2.2.1 v.2.1⟩ []
def bG(ay:XN)(nW:Int×Int×Int×ab×XI):Option (Int×XN×Unit):=
 (bD ay ([nW])).bind fun l=>
 some ((bh ((l.length:Int) - 1)),l,())
def dH:Cl a8:=lB ⟨[],[],[(3,47)]⟩ 109 f109 func109 call109 [500000] ⟨⟨21,[(126,5)],[lD 126 0 sT,lI 126 1,lI 126 2,lI 126 3],[rP 0 126,rD 1 tN,lF 126 4 tN],[]⟩,[.ret [rI 500000,lF 126 4 tN] []],fun c v=>bG v.2.2.1 v.2.1⟩ []
def eS(ak:XT)(aC ju:Int)(ay:XN)(EA:Int):Option (((Int×Int×XN×Unit)⊕(Int×Int×Unit))):=
 (dh ak aC ju 1).bind fun r=>match r with
 |.inl r1=>
  (bG ay (EA,r1.1.2.1,0,r1.1.2.2.1,[])).bind fun r3=>
  some (.inl (r3.1,r1.2.1,r3.2.1,()))
 |.inr r2=>
  some (.inr (r2.1,r2.2.1,()))
def rN:Cl a8:=lB ⟨[gZ,dH],[],[(5,110)]⟩ 110 f110 func110 call110 [500000] ⟨⟨16,[(126,5)],[lD 126 0 sT,lI 126 1,lI 126 3],[rP 0 126,rI 1,lI 126 2,lF 126 4 tN],[]⟩,[.ret [rI 500000,lI 126 2,lF 126 4 tN] [],.AT 128 [I,I]],fun c v=>eS c.1 c.2.1 v.2.2.1 v.2.2.2.1 v.2.1⟩ []
def fG(ak:XT)(aC ju depth:Int):Option (((Int×Unit)⊕(Int×Int×Unit))):=
 bif decide ((bh (depth+1)) > 10) then
  (gT ak aC ju 7).bind fun r1=>
  some (.inr (r1.1,r1.2.1,()))
 else
  some (.inl ((bh (depth+1)),()))
def lk:Cl a8:=lB ⟨[jw],[],[]⟩ 132 f132 func132 call132 [] ⟨⟨16,[(126,5)],[lD 126 0 sT,lI 126 1,lI 126 2,lF 126 4 tN],[rP 0 126,lI 126 3],[]⟩,[.ret [lI 126 3] [],.AT 128 [I,I]],fun c v=>fG c.1 c.2.1 c.2.2.1 v.2.1⟩ []
def mE(q:Nat):Nat→ab→XS→Int→Option (((Unit)⊕(Int×Unit)))
 |0,_,_,_=>none
 |k+1,UF,t51,t61=>
  bif decide (t61<14) then
   (bC t51 t61).bind fun b=>
   aa (fun(v:Bool)=>
    bif v then
     some (.inr (t61,()))
    else
     mE q k UF t51 (bh (t61+1))) fun cv=>
   bif decide (t61 > 0) then
    cv (b==UF)
   else
    cv false
  else
   some (.inl ())
def Fm(k:Nat)(xR:ab):Option (Int×Unit):=
 (mE k k xR Pm 0).bind fun r=>match r with
 |.inl o=>
  some (0,())
 |.inr o2=>
  some (o2.1,())
def EE(k:Nat):mn:=⟨⟨19,[],[rD 0 .str,rD 5 (.arr 14 .str)],[rI 6],[]⟩,[.ex (.exit 0) [],.ex .ret [rI 2]],fun q c v=>mE k q c.1 c.2.1 v.1⟩
def KS(k:Nat):Ev a8:=⟨[],[lp 0 (EE k) k],[]⟩
def MP(k q:Nat):Cd a8:=nV (KS k) f178 0 (EE k) q []
def Tc(k:Nat):Cl a8:=wD (KS k) 178 f178 func178 call178 [.str] [I] (fun d=>Fm k d.1) [MP k k]
def xI(op:Int):Option (Int×Unit):=
 bif op==7 then
  some (1,())
 else
  bif op==8 then
   some (2,())
  else
   bif op==6 then
    some (3,())
   else
    aa (fun(v:Bool)=>
     bif v then
      some (4,())
     else
      aa (fun(v2:Bool)=>
       bif v2 then
        some (5,())
       else
        some (6,())) fun iR=>
      bif op==1 then
       iR (op==1)
      else
       bif op==2 then
        iR (op==2)
       else
        bif op==11 then
         iR (op==11)
        else
         iR (op==12)) fun cv=>
    bif op==9 then
     cv (op==9)
    else
     cv (op==10)
def M5:Cl a8:=wD ⟨[],[],[]⟩ 179 f179 func179 call179 [I] [I] (fun d=>xI d.1) []
abbrev it:=XT→Int→Int→Int→XN→Int→Option (((Int×Int×Int×XN×Unit)⊕(Int×Int×Unit)))
def pk(f:it):CV:=⟨⟨67,[(126,5)],[lD 126 0 sT,lI 126 1],[rP 0 126,rI 1,lI 126 2,lI 126 3,lF 126 4 tN],[]⟩,[.ret [rI 500000,lI 126 2,lI 126 3,lF 126 4 tN] [],.AT 128 [I,I]],fun c v=>f c.1 c.2.1 v.2.2.1 v.2.2.2.1 v.2.2.2.2.1 v.2.1⟩
def yu(f:it):iF:=lZ (pk f).L (pk f).F (zQ [500000] (pk f).V)
abbrev gY:=XT→Int→Int→Int→XN→Option (((Int×Int×Int×XN×Unit)⊕(Int×Int×Unit)))
def oE(f:gY):CV:=⟨⟨35,[(126,5)],[lD 126 0 sT,lI 126 1],[rP 0 126,lI 126 2,lI 126 3,lF 126 4 tN],[]⟩,[.ret [rI 500000,lI 126 2,lI 126 3,lF 126 4 tN] [],.AT 128 [I,I]],fun c v=>f c.1 c.2.1 v.2.1 v.2.2.1 v.2.2.2.1⟩
def wZ(f:gY):iF:=lZ (oE f).L (oE f).F (zQ [500000] (oE f).V)
abbrev fP:=XT→Int→Int→Int→XN→Option (((Int×Int×Int×XN×Unit)⊕(Int×Int×Unit)))
def ny(f:fP):CV:=⟨⟨78,[(126,5)],[lD 126 0 sT,lI 126 1],[rP 0 126,lI 126 2,lI 126 3,lF 126 4 tN],[]⟩,[.ret [rI 500000,lI 126 2,lI 126 3,lF 126 4 tN] [],.AT 128 [I,I]],fun c v=>f c.1 c.2.1 v.2.1 v.2.2.1 v.2.2.2.1⟩
def uQ(f:fP):iF:=lZ (ny f).L (ny f).F (zQ [500000] (ny f).V)
def dP(bF:it)(bM:gY)(bK:fP)(q:Nat):Nat→XT→Int→Int→Int→Int→XN→Int→Option (((Int×Int×XN×Int×Unit)⊕(Int×Int×Unit)))
 |0,_,_,_,_,_,_,_=>none
 |k+1,cQ,fN,Vq,tS,oL,bY,left=>
  bif decide (tS<(cQ.length:Int)) then
   (bC cQ tS).bind fun x1=>
   (Fm q x1.2.2.1).bind fun r5=>
   aa (fun(v:Bool)=>
    bif v then
     some (.inl (tS,oL,bY,left,()))
    else
     (df cQ fN tS).bind fun r7=>
     (bF cQ fN (bh (tS+1)) oL bY (bh (Vq+1))).bind fun r=>match r with
     |.inl r8=>
      (bG r8.2.2.2.1 (28,r7.1,r5.1,([]:ab),[left,r8.1])).bind fun kz=>
      dP bF bM bK q k cQ fN Vq r8.2.1 r8.2.2.1 kz.2.1 kz.1
     |.inr r9=>
      some (.inr (r9.1,r9.2.1,()))) fun cv=>
   bif r5.1==0 then
    cv true
   else
    (xI r5.1).bind fun r6=>
    cv (r6.1 != Vq)
  else
   some (.inl (tS,oL,bY,left,()))
def ix(bF:it)(bM:gY)(bK:fP)(k:Nat)(ak:XT)(aC ju depth:Int)(ay:XN)(wu:Int):Option (((Int×Int×Int×XN×Unit)⊕(Int×Int×Unit))):=
 bif decide (wu > 6) then
  (bM ak aC ju depth ay).bind fun r=>match r with
  |.inl r1=>
   some (.inl (r1.1,r1.2.1,r1.2.2.1,r1.2.2.2.1,()))
  |.inr r2=>
   some (.inr (r2.1,r2.2.1,()))
 else
  (bF ak aC ju depth ay (bh (wu+1))).bind fun r=>match r with
  |.inl r3=>
   (dP bF bM bK k k ak aC wu r3.2.1 r3.2.2.1 r3.2.2.2.1 r3.1).bind fun r=>match r with
   |.inl o=>
    some (.inl (o.2.2.2.1,o.1,o.2.1,o.2.2.1,()))
   |.inr o2=>
    some (.inr (o2.1,o2.2.1,()))
  |.inr r4=>
   some (.inr (r4.1,r4.2.1,()))
def hZ(bF:it)(bM:gY)(bK:fP)(k:Nat)(ak:XT)(aC ju depth:Int)(ay:XN):Option (((Int×Int×Int×XN×Unit)⊕(Int×Int×Unit))):=
 (df ak aC ju).bind fun r1=>
 (aE ak ju ([45]:ab)).bind fun r2=>
 bif !r2.1 then
  (bK ak aC r2.2.1 depth ay).bind fun r=>match r with
  |.inl r3=>
   some (.inl (r3.1,r3.2.1,r3.2.2.1,r3.2.2.2.1,()))
  |.inr r4=>
   some (.inr (r4.1,r4.2.1,()))
 else
  (fG ak aC r2.2.1 depth).bind fun r=>match r with
  |.inl r5=>
   (bG ay (24,r1.1,0,([]:ab),[])).bind fun r7=>
   (bM ak aC r2.2.1 r5.1 r7.2.1).bind fun r=>match r with
   |.inl r8=>
    (bG r8.2.2.2.1 (28,r1.1,2,([]:ab),[r7.1,r8.1])).bind fun kz=>
    some (.inl (kz.1,r8.2.1,(bh (r8.2.2.1 - 1)),kz.2.1,()))
   |.inr r9=>
    some (.inr (r9.1,r9.2.1,()))
  |.inr r6=>
   some (.inr (r6.1,r6.2.1,()))
def bS(bF:it)(bM:gY)(bK:fP)(k:Nat)(ak:XT)(aC ju depth:Int)(ay:XN):Option (((Int×Int×Int×XN×Unit)⊕(Int×Int×Unit))):=
 (df ak aC ju).bind fun r1=>
 (iw ak ju 2).bind fun r2=>
 bif r2.1 then
  (dh ak aC ju 2).bind fun r=>match r with
  |.inl r3=>
   (bG ay (24,r1.1,r3.1.2.2.2,([]:ab),[])).bind fun r5=>
   some (.inl (r5.1,r3.2.1,depth,r5.2.1,()))
  |.inr r4=>
   some (.inr (r4.1,r4.2.1,()))
 else
  (aE ak ju ([42]:ab)).bind fun r6=>
  bif r6.1 then
   (dh ak aC r6.2.1 1).bind fun r=>match r with
   |.inl r7=>
    (bG ay (27,r1.1,0,r7.1.2.2.1,[])).bind fun r9=>
    some (.inl (r9.1,r7.2.1,depth,r9.2.1,()))
   |.inr r8=>
    some (.inr (r8.1,r8.2.1,()))
  else
   (aE ak r6.2.1 ([40]:ab)).bind fun kz=>
   bif kz.1 then
    (fG ak aC kz.2.1 depth).bind fun r=>match r with
    |.inl n8=>
     (bF ak aC kz.2.1 n8.1 ay 1).bind fun r=>match r with
     |.inl pX=>
      (aW ak aC pX.2.1 ([41]:ab)).bind fun r=>match r with
      |.inl qS=>
       some (.inl (pX.1,qS.1,(bh (pX.2.2.1 - 1)),pX.2.2.2.1,()))
      |.inr tf=>
       some (.inr (tf.1,tf.2.1,()))
     |.inr rV=>
      some (.inr (rV.1,rV.2.1,()))
    |.inr o7=>
     some (.inr (o7.1,o7.2.1,()))
   else
    (dh ak aC kz.2.1 1).bind fun r=>match r with
    |.inl vA=>
     (aE ak vA.2.1 ([91]:ab)).bind fun qT=>
     bif !qT.1 then
      (bG ay (25,r1.1,0,vA.1.2.2.1,[])).bind fun vB=>
      some (.inl (vB.1,qT.2.1,depth,vB.2.1,()))
     else
      (fG ak aC qT.2.1 depth).bind fun r=>match r with
      |.inl zg=>
       (bF ak aC qT.2.1 zg.1 ay 1).bind fun r=>match r with
       |.inl Jx=>
        (aW ak aC Jx.2.1 ([93]:ab)).bind fun r=>match r with
        |.inl r25=>
         (bG Jx.2.2.2.1 (26,r1.1,0,vA.1.2.2.1,[Jx.1])).bind fun r27=>
         some (.inl (r27.1,r25.1,(bh (Jx.2.2.1 - 1)),r27.2.1,()))
        |.inr r26=>
         some (.inr (r26.1,r26.2.1,()))
       |.inr JO=>
        some (.inr (JO.1,JO.2.1,()))
      |.inr KK=>
       some (.inr (KK.1,KK.2.1,()))
    |.inr rS=>
     some (.inr (rS.1,rS.2.1,()))
def dw:Nat→it×gY×fP
 |0=>(fun _ _ _ _ _ _=>none,fun _ _ _ _ _=>none,fun _ _ _ _ _=>none)
 |k+1=>(ix (dw k).1 (dw k).2.1 (dw k).2.2 k,hZ (dw k).1 (dw k).2.1 (dw k).2.2 k,bS (dw k).1 (dw k).2.1 (dw k).2.2 k)
def aj(k:Nat):it:=(dw k).1
def fq(k:Nat):gY:=(dw k).2.1
def fU(k:Nat):fP:=(dw k).2.2
section
variable (bF:Gd a8 166 yu) (bM:Gd a8 177 wZ) (bK:Gd a8 184 uQ)
def uZ(k:Nat):mn:=⟨⟨67,[(126,5)],[lD 126 0 sT,lI 126 1,rP 0 126,rI 1],[lI 126 2,lI 126 3,lF 126 4 tN,rI 5],[]⟩,[.ex (.exit 0) [lI 126 2,lI 126 3,lF 126 4 tN,rI 5],.AT 128 [I,I]],fun q c v=>dP bF.1 bM.1 bK.1 k q c.1 c.2.1 c.2.2.2.1 v.1 v.2.1 v.2.2.1 v.2.2.2.1⟩
def yk(k:Nat):Ev a8:=⟨[dH,eD,bF.cl,bM.cl,Tc k,M5],[lp 0 (uZ bF bM bK k) k],[]⟩
def DA(k q:Nat):Cd a8:=nV (yk bF bM bK k) f166 0 (uZ bF bM bK k) q []
def HG(k:Nat):Cl a8:=lB (yk bF bM bK k) 166 f166 func166 call166 [500000] (pk (ix bF.1 bM.1 bK.1 k)) [DA bF bM bK k k]
def F4(k:Nat):Cl a8:=lB ⟨[fC,dH,eD,lk,bM.cl,bK.cl],[],[]⟩ 177 f177 func177 call177 [500000] (oE (hZ bF.1 bM.1 bK.1 k)) []
def DI(k:Nat):Cl a8:=lB ⟨[fC,gZ,gF,dH,mC,eD,lk,bF.cl],[],[(5,110)]⟩ 184 f184 func184 call184 [500000] (ny (bS bF.1 bM.1 bK.1 k)) []
end
theorem lM:∀ k,kZ prog gt 166 (yu (aj k))∧kZ prog gt 177 (wZ (fq k))∧kZ prog gt 184 (uQ (fU k))
 |0=>⟨cP (fun _ _=>rfl),cP (fun _ _=>rfl),cP (fun _ _=>rfl)⟩
 |k+1=>have ih:=lM k;⟨(HG ⟨_,ih.1⟩ ⟨_,ih.2.1⟩ ⟨_,ih.2.2⟩ k).ok,(F4 ⟨_,ih.1⟩ ⟨_,ih.2.1⟩ ⟨_,ih.2.2⟩ k).ok,(DI ⟨_,ih.1⟩ ⟨_,ih.2.1⟩ ⟨_,ih.2.2⟩ k).ok⟩
def mW(k:Nat):Cl a8:=⟨_,_,(lM k).1⟩
def UY(k:Nat):Cl a8:=⟨_,_,(lM k).2.1⟩
def SN(k:Nat):Cl a8:=⟨_,_,(lM k).2.2⟩
def cZ(q:Nat):Nat→XT→Int→XI→Int→Int→XN→Option (((XI×Int×Int×XN×Unit)⊕(Int×Int×Unit)))
 |0,_,_,_,_,_,_=>none
 |k+1,cQ,fN,acS,tS,oL,bY=>
  (aE cQ tS ([44]:ab)).bind fun qT=>
  bif qT.1 then
   (aj q cQ fN qT.2.1 oL bY 1).bind fun r=>match r with
   |.inl vB=>
    (bD acS ([vB.1])).bind fun l2=>
    cZ q k cQ fN l2 vB.2.1 vB.2.2.1 vB.2.2.2.1
   |.inr zg=>
    some (.inr (zg.1,zg.2.1,()))
  else
   some (.inl (acS,qT.2.1,oL,bY,()))
def eg(k:Nat)(ak:XT)(aC ju depth:Int)(ay:XN):Option (((Int×XI×Int×Int×XN×Unit)⊕(Int×Int×Unit))):=
 (aE ak ju ([38]:ab)).bind fun r1=>
 bif r1.1 then
  (eS ak aC r1.2.1 ay 23).bind fun r=>match r with
  |.inl r2=>
   (aW ak aC r2.2.1 ([91]:ab)).bind fun r=>match r with
   |.inl r4=>
    (aj k ak aC r4.1 depth r2.2.2.1 1).bind fun r=>match r with
    |.inl r6=>
     (aW ak aC r6.2.1 ([93]:ab)).bind fun r=>match r with
     |.inl r8=>
      some (.inl (12,[r2.1,r6.1],r8.1,r6.2.2.1,r6.2.2.2.1,()))
     |.inr r9=>
      some (.inr (r9.1,r9.2.1,()))
    |.inr r7=>
     some (.inr (r7.1,r7.2.1,()))
   |.inr r5=>
    some (.inr (r5.1,r5.2.1,()))
  |.inr r3=>
   some (.inr (r3.1,r3.2.1,()))
 else
  (iw ak r1.2.1 1).bind fun kz=>
  aa (fun(v:Bool)=>
   bif v then
    (eS ak aC r1.2.1 ay 23).bind fun r=>match r with
    |.inl o7=>
     (aW ak aC o7.2.1 ([40]:ab)).bind fun r=>match r with
     |.inl rV=>
      (aE ak rV.1 ([41]:ab)).bind fun tf=>
      bif tf.1 then
       some (.inl (22,[o7.1],tf.2.1,depth,o7.2.2.1,()))
      else
       (aj k ak aC tf.2.1 depth o7.2.2.1 1).bind fun r=>match r with
       |.inl vA=>
        (bD ([o7.1]) ([vA.1])).bind fun l=>
        (cZ k k ak aC l vA.2.1 vA.2.2.1 vA.2.2.2.1).bind fun r=>match r with
        |.inl o=>
         (aW ak aC o.2.1 ([41]:ab)).bind fun r=>match r with
         |.inl qT=>
          some (.inl (22,o.1,qT.1,o.2.2.1,o.2.2.2.1,()))
         |.inr vB=>
          some (.inr (vB.1,vB.2.1,()))
        |.inr o2=>
         some (.inr (o2.1,o2.2.1,()))
       |.inr rS=>
        some (.inr (rS.1,rS.2.1,()))
     |.inr qS=>
      some (.inr (qS.1,qS.2.1,()))
    |.inr pX=>
     some (.inr (pX.1,pX.2.1,()))
   else
    (eN ak r1.2.1 0 ([110,117,108,108]:ab)).bind fun zg=>
    bif zg.1 then
     (df ak aC r1.2.1).bind fun KK=>
     (bG ay (29,KK.1,0,([]:ab),[])).bind fun Jx=>
     some (.inl (9,[Jx.1],(bh (r1.2.1+1)),depth,Jx.2.1,()))
    else
     (aj k ak aC r1.2.1 depth ay 1).bind fun r=>match r with
     |.inl JO=>
      some (.inl (9,[JO.1],JO.2.1,JO.2.2.1,JO.2.2.2.1,()))
     |.inr r25=>
      some (.inr (r25.1,r25.2.1,()))) fun cv=>
  bif kz.1 then
   (eN ak r1.2.1 1 ([40]:ab)).bind fun n8=>
   cv n8.1
  else
   cv false
def ul(k:Nat):mn:=⟨⟨101,[(47,5),(126,5)],[lI 47 0,lI 47 1,lI 47 2,lD 47 3 .str,lD 126 0 sT,lI 126 1,rP 0 126,rP 1 47],[lF 47 4 I,lI 126 2,lI 126 3,lF 126 4 tN],[]⟩,[.ex (.exit 1) [lF 47 4 I,lI 126 2,lI 126 3,lF 126 4 tN],.AT 128 [I,I]],fun q c v=>cZ k q c.2.2.2.2.1 c.2.2.2.2.2.1 v.1 v.2.1 v.2.2.1 v.2.2.2.1⟩
def wW(k:Nat):Ev a8:=⟨[fC,gF,dH,rN,mV,mC,eD,mW k],[lp 1 (ul k) k],[]⟩
def B1(k q:Nat):Cd a8:=nV (wW k) f176 1 (ul k) q []
def FX(k:Nat):Cl a8:=lB (wW k) 176 f176 func176 call176 [] ⟨⟨101,[(126,5),(47,5)],[lD 126 0 sT,lI 126 1,lI 47 1,lI 47 2,lD 47 3 .str],[rP 0 126,rP 1 47,lI 126 2,lI 126 3,lF 126 4 tN,lI 47 0,lF 47 4 I],[]⟩,[.ret [lI 47 0,lF 47 4 I,lI 126 2,lI 126 3,lF 126 4 tN] [],.AT 128 [I,I]],fun c v=>eg k c.1 c.2.1 v.2.2.1 v.2.2.2.1 v.2.2.2.2.1⟩ [B1 k k]
def cp(k:Nat)(ak:XT)(aC ju depth:Int)(ay:XN):Option (((Int×Int×Int×XN×Unit)⊕(Int×Int×Unit))):=
 (dh ak aC ju 1).bind fun r=>match r with
 |.inl r1=>
  aa (fun(jv:Int×Int×XN×Int×XI)=>
   (aW ak aC (jv.1) ([59]:ab)).bind fun r=>match r with
   |.inl qT=>
    (bG (jv.2.2.1) ((jv.2.2.2.1),r1.1.2.1,0,r1.1.2.2.1,(jv.2.2.2.2))).bind fun zg=>
    some (.inl (zg.1,qT.1,(jv.2.1),zg.2.1,()))
   |.inr vB=>
    some (.inr (vB.1,vB.2.1,()))) fun cv=>
  (aE ak r1.2.1 ([61]:ab)).bind fun r3=>
  bif r3.1 then
   (eg k ak aC r3.2.1 depth ay).bind fun r=>match r with
   |.inl r4=>
    cv (r4.2.2.1,r4.2.2.2.1,r4.2.2.2.2.1,r4.1,r4.2.1)
   |.inr r5=>
    some (.inr (r5.1,r5.2.1,()))
  else
   (aE ak r3.2.1 ([43,61]:ab)).bind fun r6=>
   bif r6.1 then
    (aj k ak aC r6.2.1 depth ay 1).bind fun r=>match r with
    |.inl r7=>
     cv (r7.2.1,r7.2.2.1,r7.2.2.2.1,13,[r7.1])
    |.inr r8=>
     some (.inr (r8.1,r8.2.1,()))
   else
    (aE ak r6.2.1 ([91]:ab)).bind fun r9=>
    bif r9.1 then
     (aj k ak aC r9.2.1 depth ay 1).bind fun r=>match r with
     |.inl kz=>
      (aW ak aC kz.2.1 ([93]:ab)).bind fun r=>match r with
      |.inl o7=>
       (aW ak aC o7.1 ([61]:ab)).bind fun r=>match r with
       |.inl rV=>
        (aj k ak aC rV.1 kz.2.2.1 kz.2.2.2.1 1).bind fun r=>match r with
        |.inl tf=>
         cv (tf.2.1,tf.2.2.1,tf.2.2.2.1,10,[kz.1,tf.1])
        |.inr vA=>
         some (.inr (vA.1,vA.2.1,()))
       |.inr qS=>
        some (.inr (qS.1,qS.2.1,()))
      |.inr pX=>
       some (.inr (pX.1,pX.2.1,()))
     |.inr n8=>
      some (.inr (n8.1,n8.2.1,()))
    else
     (gT ak aC r9.2.1 6).bind fun rS=>
     some (.inr (rS.1,rS.2.1,()))
 |.inr r2=>
  some (.inr (r2.1,r2.2.1,()))
def DF(k:Nat):Cl a8:=lB ⟨[fC,gZ,gF,dH,jw,mW k,FX k],[],[(3,110),(4,47)]⟩ 165 f165 func165 call165 [500000] ⟨⟨48,[(126,5)],[lD 126 0 sT,lI 126 1],[rP 0 126,lI 126 2,lI 126 3,lF 126 4 tN],[]⟩,[.ret [rI 500000,lI 126 2,lI 126 3,lF 126 4 tN] [],.AT 128 [I,I]],fun c v=>cp k c.1 c.2.1 v.2.1 v.2.2.1 v.2.2.2.1⟩ []
def lb(q:Nat):Nat→ab→XS→Int→Option (((Unit)⊕(Int×Unit)))
 |0,_,_,_=>none
 |k+1,UF,t51,t61=>
  bif decide (t61<7) then
   (bC t51 t61).bind fun b=>
   aa (fun(v:Bool)=>
    bif v then
     some (.inr (t61,()))
    else
     lb q k UF t51 (bh (t61+1))) fun cv=>
   bif decide (t61 > 0) then
    cv (b==UF)
   else
    cv false
  else
   some (.inl ())
def Cr(k:Nat)(xR:ab):Option (Int×Unit):=
 (lb k k xR gl4 0).bind fun r=>match r with
 |.inl o=>
  some (0,())
 |.inr o2=>
  some (o2.1,())
def Dg(k:Nat):mn:=⟨⟨19,[],[rD 0 .str,rD 5 (.arr 7 .str)],[rI 6],[]⟩,[.ex (.exit 0) [],.ex .ret [rI 2]],fun q c v=>lb k q c.1 c.2.1 v.1⟩
def Ir(k:Nat):Ev a8:=⟨[],[lp 0 (Dg k) k],[]⟩
def Ln(k q:Nat):Cd a8:=nV (Ir k) f189 0 (Dg k) q []
def Rr(k:Nat):Cl a8:=wD (Ir k) 189 f189 func189 call189 [.str] [I] (fun d=>Cr k d.1) [Ln k k]
end
end Go.Fx.R5
namespace Go.Fx.R5
open Go Go.Fx Go.Proofs Go.Proofs.Tryz
noncomputable section
abbrev gD:=XT→Int→Int→Int→XN→Option (((Int×Int×Int×XN×Unit)⊕(Int×Int×Unit)))
def pi(f:gD):CV:=⟨⟨27,[(126,5)],[lD 126 0 sT,lI 126 1],[rP 0 126,lI 126 2,lI 126 3,lF 126 4 tN],[]⟩,[.ret [rI 500000,lI 126 2,lI 126 3,lF 126 4 tN] [],.AT 128 [I,I]],fun c v=>f c.1 c.2.1 v.2.1 v.2.2.1 v.2.2.2.1⟩
def yr(f:gD):iF:=lZ (pi f).L (pi f).F (zQ [500000] (pi f).V)
abbrev gC:=XT→Int→Int→Int→XN→Option (((Int×Int×Int×XN×Unit)⊕(Int×Int×Unit)))
def ph(f:gC):CV:=⟨⟨27,[(126,5)],[lD 126 0 sT,lI 126 1],[rP 0 126,lI 126 2,lI 126 3,lF 126 4 tN],[]⟩,[.ret [rI 500000,lI 126 2,lI 126 3,lF 126 4 tN] [],.AT 128 [I,I]],fun c v=>f c.1 c.2.1 v.2.1 v.2.2.1 v.2.2.2.1⟩
def yq(f:gC):iF:=lZ (ph f).L (ph f).F (zQ [500000] (ph f).V)
abbrev gE:=XT→Int→Int→Int→XN→Option (((Int×Int×Int×XN×Unit)⊕(Int×Int×Unit)))
def pj(f:gE):CV:=⟨⟨103,[(126,5)],[lD 126 0 sT,lI 126 1],[rP 0 126,lI 126 2,lI 126 3,lF 126 4 tN],[]⟩,[.ret [rI 500000,lI 126 2,lI 126 3,lF 126 4 tN] [],.AT 128 [I,I]],fun c v=>f c.1 c.2.1 v.2.1 v.2.2.1 v.2.2.2.1⟩
def yt(f:gE):iF:=lZ (pj f).L (pj f).F (zQ [500000] (pj f).V)
def fe(aP:gD)(aL:gC)(aH:gE)(q:Nat):Nat→XT→Int→Int→Int→XN→Int→Option (((Int×Int×XN×Int×Unit)⊕(Int×Int×Unit)))
 |0,_,_,_,_,_,_=>none
 |k+1,cQ,fN,tS,oL,bY,left=>
  (eN cQ tS 0 ([111,114]:ab)).bind fun r3=>
  bif r3.1 then
   (df cQ fN tS).bind fun r4=>
   (aL cQ fN (bh (tS+1)) oL bY).bind fun r=>match r with
   |.inl r5=>
    (bG r5.2.2.2.1 (32,r4.1,0,([]:ab),[left,r5.1])).bind fun r7=>
    fe aP aL aH q k cQ fN r5.2.1 r5.2.2.1 r7.2.1 r7.1
   |.inr r6=>
    some (.inr (r6.1,r6.2.1,()))
  else
   some (.inl (tS,oL,bY,left,()))
def kN(aP:gD)(aL:gC)(aH:gE)(k:Nat)(ak:XT)(aC ju depth:Int)(ay:XN):Option (((Int×Int×Int×XN×Unit)⊕(Int×Int×Unit))):=
 (aL ak aC ju depth ay).bind fun r=>match r with
 |.inl r1=>
  (fe aP aL aH k k ak aC r1.2.1 r1.2.2.1 r1.2.2.2.1 r1.1).bind fun r=>match r with
  |.inl o=>
   some (.inl (o.2.2.2.1,o.1,o.2.1,o.2.2.1,()))
  |.inr o2=>
   some (.inr (o2.1,o2.2.1,()))
 |.inr r2=>
  some (.inr (r2.1,r2.2.1,()))
def fd(aP:gD)(aL:gC)(aH:gE)(q:Nat):Nat→XT→Int→Int→Int→XN→Int→Option (((Int×Int×XN×Int×Unit)⊕(Int×Int×Unit)))
 |0,_,_,_,_,_,_=>none
 |k+1,cQ,fN,tS,oL,bY,left=>
  (eN cQ tS 0 ([97,110,100]:ab)).bind fun r3=>
  bif r3.1 then
   (df cQ fN tS).bind fun r4=>
   (aH cQ fN (bh (tS+1)) oL bY).bind fun r=>match r with
   |.inl r5=>
    (bG r5.2.2.2.1 (31,r4.1,0,([]:ab),[left,r5.1])).bind fun r7=>
    fd aP aL aH q k cQ fN r5.2.1 r5.2.2.1 r7.2.1 r7.1
   |.inr r6=>
    some (.inr (r6.1,r6.2.1,()))
  else
   some (.inl (tS,oL,bY,left,()))
def kM(aP:gD)(aL:gC)(aH:gE)(k:Nat)(ak:XT)(aC ju depth:Int)(ay:XN):Option (((Int×Int×Int×XN×Unit)⊕(Int×Int×Unit))):=
 (aH ak aC ju depth ay).bind fun r=>match r with
 |.inl r1=>
  (fd aP aL aH k k ak aC r1.2.1 r1.2.2.1 r1.2.2.2.1 r1.1).bind fun r=>match r with
  |.inl o=>
   some (.inl (o.2.2.2.1,o.1,o.2.1,o.2.2.1,()))
  |.inr o2=>
   some (.inr (o2.1,o2.2.1,()))
 |.inr r2=>
  some (.inr (r2.1,r2.2.1,()))
def cC(aP:gD)(aL:gC)(aH:gE)(k:Nat)(ak:XT)(aC ju depth:Int)(ay:XN):Option (((Int×Int×Int×XN×Unit)⊕(Int×Int×Unit))):=
 (df ak aC ju).bind fun r1=>
 (aE ak ju ([110,111,116]:ab)).bind fun r2=>
 bif r2.1 then
  (fG ak aC r2.2.1 depth).bind fun r=>match r with
  |.inl r3=>
   (aH ak aC r2.2.1 r3.1 ay).bind fun r=>match r with
   |.inl r5=>
    (bG r5.2.2.2.1 (33,r1.1,0,([]:ab),[r5.1])).bind fun r7=>
    some (.inl (r7.1,r5.2.1,(bh (r5.2.2.1 - 1)),r7.2.1,()))
   |.inr r6=>
    some (.inr (r6.1,r6.2.1,()))
  |.inr r4=>
   some (.inr (r4.1,r4.2.1,()))
 else
  (aE ak r2.2.1 ([91]:ab)).bind fun r8=>
  bif r8.1 then
   (fG ak aC r8.2.1 depth).bind fun r=>match r with
   |.inl r9=>
    (aP ak aC r8.2.1 r9.1 ay).bind fun r=>match r with
    |.inl n8=>
     (aW ak aC n8.2.1 ([93]:ab)).bind fun r=>match r with
     |.inl pX=>
      some (.inl (n8.1,pX.1,(bh (n8.2.2.1 - 1)),n8.2.2.2.1,()))
     |.inr rV=>
      some (.inr (rV.1,rV.2.1,()))
    |.inr o7=>
     some (.inr (o7.1,o7.2.1,()))
   |.inr kz=>
    some (.inr (kz.1,kz.2.1,()))
  else
   (aE ak r8.2.1 ([110,117,108,108]:ab)).bind fun qS=>
   bif qS.1 then
    (dh ak aC qS.2.1 1).bind fun r=>match r with
    |.inl tf=>
     (bG ay (34,r1.1,0,tf.1.2.2.1,[])).bind fun rS=>
     some (.inl (rS.1,tf.2.1,depth,rS.2.1,()))
    |.inr vA=>
     some (.inr (vA.1,vA.2.1,()))
   else
    (aj k ak aC qS.2.1 depth ay 1).bind fun r=>match r with
    |.inl qT=>
     (df ak aC qT.2.1).bind fun zg=>
     aa (fun(cmp:Int)=>
      bif cmp==0 then
       (gT ak aC qT.2.1 6).bind fun Jx=>
       some (.inr (Jx.1,Jx.2.1,()))
      else
       (aj k ak aC (bh (qT.2.1+1)) qT.2.2.1 qT.2.2.2.1 1).bind fun r=>match r with
       |.inl JO=>
        (bG JO.2.2.2.1 (30,zg.1,cmp,([]:ab),[qT.1,JO.1])).bind fun r26=>
        some (.inl (r26.1,JO.2.1,JO.2.2.1,r26.2.1,()))
       |.inr r25=>
        some (.inr (r25.1,r25.2.1,()))) fun cv=>
     bif decide (qT.2.1<(ak.length:Int)) then
      (bC ak qT.2.1).bind fun x1=>
      (Cr k x1.2.2.1).bind fun KK=>
      cv KK.1
     else
      cv 0
    |.inr vB=>
     some (.inr (vB.1,vB.2.1,()))
def dv:Nat→gD×gC×gE
 |0=>(fun _ _ _ _ _=>none,fun _ _ _ _ _=>none,fun _ _ _ _ _=>none)
 |k+1=>(kN (dv k).1 (dv k).2.1 (dv k).2.2 k,kM (dv k).1 (dv k).2.1 (dv k).2.2 k,cC (dv k).1 (dv k).2.1 (dv k).2.2 k)
def dL(k:Nat):gD:=(dv k).1
def eM(k:Nat):gC:=(dv k).2.1
def dM(k:Nat):gE:=(dv k).2.2
section
variable (aP:Gd a8 167 yr) (aL:Gd a8 180 yq) (aH:Gd a8 185 yt)
def uY(k:Nat):mn:=⟨⟨27,[(126,5)],[lD 126 0 sT,lI 126 1,rP 0 126],[lI 126 2,lI 126 3,lF 126 4 tN,rI 3],[]⟩,[.ex (.exit 0) [lI 126 2,lI 126 3,lF 126 4 tN,rI 3],.AT 128 [I,I]],fun q c v=>fe aP.1 aL.1 aH.1 k q c.1 c.2.1 v.1 v.2.1 v.2.2.1 v.2.2.2.1⟩
def yj(k:Nat):Ev a8:=⟨[dH,mV,eD,aL.cl],[lp 0 (uY aP aL aH k) k],[]⟩
def Dz(k q:Nat):Cd a8:=nV (yj aP aL aH k) f167 0 (uY aP aL aH k) q []
def HE(k:Nat):Cl a8:=lB (yj aP aL aH k) 167 f167 func167 call167 [500000] (pi (kN aP.1 aL.1 aH.1 k)) [Dz aP aL aH k k]
def uX(k:Nat):mn:=⟨⟨27,[(126,5)],[lD 126 0 sT,lI 126 1,rP 0 126],[lI 126 2,lI 126 3,lF 126 4 tN,rI 3],[]⟩,[.ex (.exit 0) [lI 126 2,lI 126 3,lF 126 4 tN,rI 3],.AT 128 [I,I]],fun q c v=>fd aP.1 aL.1 aH.1 k q c.1 c.2.1 v.1 v.2.1 v.2.2.1 v.2.2.2.1⟩
def yi(k:Nat):Ev a8:=⟨[dH,mV,eD,aH.cl],[lp 0 (uX aP aL aH k) k],[]⟩
def Dy(k q:Nat):Cd a8:=nV (yi aP aL aH k) f180 0 (uX aP aL aH k) q []
def HD(k:Nat):Cl a8:=lB (yi aP aL aH k) 180 f180 func180 call180 [500000] (ph (kM aP.1 aL.1 aH.1 k)) [Dy aP aL aH k k]
def HF(k:Nat):Cl a8:=lB ⟨[fC,gZ,gF,dH,jw,eD,lk,mW k,aP.cl,aH.cl,Rr k],[],[]⟩ 185 f185 func185 call185 [500000] (pj (cC aP.1 aL.1 aH.1 k)) []
end
theorem lL:∀ k,kZ prog gt 167 (yr (dL k))∧kZ prog gt 180 (yq (eM k))∧kZ prog gt 185 (yt (dM k))
 |0=>⟨cP (fun _ _=>rfl),cP (fun _ _=>rfl),cP (fun _ _=>rfl)⟩
 |k+1=>have ih:=lL k;⟨(HE ⟨_,ih.1⟩ ⟨_,ih.2.1⟩ ⟨_,ih.2.2⟩ k).ok,(HD ⟨_,ih.1⟩ ⟨_,ih.2.1⟩ ⟨_,ih.2.2⟩ k).ok,(HF ⟨_,ih.1⟩ ⟨_,ih.2.1⟩ ⟨_,ih.2.2⟩ k).ok⟩
def Hr(k:Nat):Cl a8:=⟨_,_,(lL k).1⟩
def U7(k:Nat):Cl a8:=⟨_,_,(lL k).2.1⟩
def U8(k:Nat):Cl a8:=⟨_,_,(lL k).2.2⟩
abbrev dT:=XT→Int→Int→Int→XN→Int→Option (((Int×Int×Int×XN×Unit)⊕(Int×Int×Unit)))
def kY(f:dT):CV:=⟨⟨26,[(126,5)],[lD 126 0 sT,lI 126 1],[rP 0 126,rI 1,lI 126 2,lI 126 3,lF 126 4 tN],[]⟩,[.ret [rI 500000,lI 126 2,lI 126 3,lF 126 4 tN] [],.AT 128 [I,I]],fun c v=>f c.1 c.2.1 v.2.2.1 v.2.2.2.1 v.2.2.2.2.1 v.2.1⟩
def sa(f:dT):iF:=lZ (kY f).L (kY f).F (zQ [500000] (kY f).V)
abbrev ee:=XT→Int→Int→Int→XN→Option (((Int×Int×Int×XN×Unit)⊕(Int×Int×Unit)))
def lJ(f:ee):CV:=⟨⟨128,[(126,5)],[lD 126 0 sT,lI 126 1],[rP 0 126,lI 126 2,lI 126 3,lF 126 4 tN],[]⟩,[.ret [rI 500000,lI 126 2,lI 126 3,lF 126 4 tN] [],.AT 128 [I,I]],fun c v=>f c.1 c.2.1 v.2.1 v.2.2.1 v.2.2.2.1⟩
def tC(f:ee):iF:=lZ (lJ f).L (lJ f).F (zQ [500000] (lJ f).V)
abbrev fR:=XT→Int→Int→Int→XN→Option (((Int×Int×Int×XN×Unit)⊕(Int×Int×Unit)))
def oD(f:fR):CV:=⟨⟨13,[(126,5)],[lD 126 0 sT,lI 126 1],[rP 0 126,lI 126 2,lI 126 3,lF 126 4 tN],[]⟩,[.ret [rI 500000,lI 126 2,lI 126 3,lF 126 4 tN] [],.AT 128 [I,I]],fun c v=>f c.1 c.2.1 v.2.1 v.2.2.1 v.2.2.2.1⟩
def wY(f:fR):iF:=lZ (oD f).L (oD f).F (zQ [500000] (oD f).V)
abbrev eE:=XT→Int→Int→Int→XN→Option (((Int×Int×Int×XN×Unit)⊕(Int×Int×Unit)))
def mA(f:eE):CV:=⟨⟨30,[(126,5)],[lD 126 0 sT,lI 126 1],[rP 0 126,lI 126 2,lI 126 3,lF 126 4 tN],[]⟩,[.ret [rI 500000,lI 126 2,lI 126 3,lF 126 4 tN] [],.AT 128 [I,I]],fun c v=>f c.1 c.2.1 v.2.1 v.2.2.1 v.2.2.2.1⟩
def ua(f:eE):iF:=lZ (mA f).L (mA f).F (zQ [500000] (mA f).V)
def bT(aN:dT)(aT:ee)(aV:fR)(bc:eE)(q:Nat):Nat→XT→Int→Int→Int→XN→XI→Option (((Int×Int×XN×XI×Unit)⊕(Int×Int×Unit)))
 |0,_,_,_,_,_,_=>none
 |k+1,cQ,fN,at3,oL,bY,cG=>
  (aE cQ at3 ([125]:ab)).bind fun r1=>
  bif !r1.1 then
   (aT cQ fN r1.2.1 oL bY).bind fun r=>match r with
   |.inl r2=>
    (bD cG ([r2.1])).bind fun l=>
    bT aN aT aV bc q k cQ fN r2.2.1 r2.2.2.1 r2.2.2.2.1 l
   |.inr r3=>
    some (.inr (r3.1,r3.2.1,()))
  else
   some (.inl (r1.2.1,oL,bY,cG,()))
def fH(aN:dT)(aT:ee)(aV:fR)(bc:eE)(k:Nat)(ak:XT)(aC ju depth:Int)(ay:XN)(tS:Int):Option (((Int×Int×Int×XN×Unit)⊕(Int×Int×Unit))):=
 (bT aN aT aV bc k k ak aC ju depth ay []).bind fun r=>match r with
 |.inl o=>
  (bG o.2.2.1 (8,tS,0,([]:ab),o.2.2.2.1)).bind fun r1=>
  some (.inl (r1.1,o.1,(bh (o.2.1 - 1)),r1.2.1,()))
 |.inr o2=>
  some (.inr (o2.1,o2.2.1,()))
def bo(aN:dT)(aT:ee)(aV:fR)(bc:eE)(k:Nat)(ak:XT)(aC ju depth:Int)(ay:XN):Option (((Int×Int×Int×XN×Unit)⊕(Int×Int×Unit))):=
 (iw ak ju 1).bind fun r1=>
 bif r1.1 then
  (cp k ak aC ju depth ay).bind fun r=>match r with
  |.inl r2=>
   some (.inl (r2.1,r2.2.1,r2.2.2.1,r2.2.2.2.1,()))
  |.inr r3=>
   some (.inr (r3.1,r3.2.1,()))
 else
  (df ak aC ju).bind fun r4=>
  aa (fun(jv:Int×Int×Int×XN×Int×ab×XI)=>
   (aW ak aC (jv.2.1) ([59]:ab)).bind fun r=>match r with
   |.inl r44=>
    (bG (jv.2.2.2.1) ((jv.2.2.2.2.1),(jv.1),0,(jv.2.2.2.2.2.1),(jv.2.2.2.2.2.2))).bind fun r46=>
    some (.inl (r46.1,r44.1,(jv.2.2.1),r46.2.1,()))
   |.inr r45=>
    some (.inr (r45.1,r45.2.1,()))) fun iR=>
  (aE ak ju ([42]:ab)).bind fun r5=>
  bif r5.1 then
   (dh ak aC r5.2.1 1).bind fun r=>match r with
   |.inl r6=>
    (aW ak aC r6.2.1 ([61]:ab)).bind fun r=>match r with
    |.inl r8=>
     (aj k ak aC r8.1 depth ay 1).bind fun r=>match r with
     |.inl kz=>
      iR (r4.1,kz.2.1,kz.2.2.1,kz.2.2.2.1,11,r6.1.2.2.1,[kz.1])
     |.inr n8=>
      some (.inr (n8.1,n8.2.1,()))
    |.inr r9=>
     some (.inr (r9.1,r9.2.1,()))
   |.inr r7=>
    some (.inr (r7.1,r7.2.1,()))
  else
   (aE ak r5.2.1 ([105,102]:ab)).bind fun o7=>
   bif o7.1 then
    (dL k ak aC o7.2.1 depth ay).bind fun r=>match r with
    |.inl pX=>
     (aV ak aC pX.2.1 pX.2.2.1 pX.2.2.2.1).bind fun r=>match r with
     |.inl qS=>
      (bD ([pX.1]) ([qS.1])).bind fun l=>
      aa (fun(jv:Int×Int×XN×XI)=>
       (bG (jv.2.2.1) (14,r4.1,0,([]:ab),(jv.2.2.2))).bind fun vB=>
       some (.inl (vB.1,(jv.1),(jv.2.1),vB.2.1,()))) fun cv=>
      (aE ak qS.2.1 ([101,108,115,101]:ab)).bind fun vA=>
      bif vA.1 then
       (aV ak aC vA.2.1 qS.2.2.1 qS.2.2.2.1).bind fun r=>match r with
       |.inl rS=>
        (bD l ([rS.1])).bind fun l2=>
        cv (rS.2.1,rS.2.2.1,rS.2.2.2.1,l2)
       |.inr qT=>
        some (.inr (qT.1,qT.2.1,()))
      else
       cv (vA.2.1,qS.2.2.1,qS.2.2.2.1,l)
     |.inr tf=>
      some (.inr (tf.1,tf.2.1,()))
    |.inr rV=>
     some (.inr (rV.1,rV.2.1,()))
   else
    (aE ak o7.2.1 ([119,104,105,108,101]:ab)).bind fun zg=>
    bif zg.1 then
     (dL k ak aC zg.2.1 depth ay).bind fun r=>match r with
     |.inl KK=>
      (aV ak aC KK.2.1 KK.2.2.1 KK.2.2.2.1).bind fun r=>match r with
      |.inl JO=>
       (bD ([KK.1]) ([JO.1])).bind fun l3=>
       (bG JO.2.2.2.1 (15,r4.1,0,([]:ab),l3)).bind fun r26=>
       some (.inl (r26.1,JO.2.1,JO.2.2.1,r26.2.1,()))
      |.inr r25=>
       some (.inr (r25.1,r25.2.1,()))
     |.inr Jx=>
      some (.inr (Jx.1,Jx.2.1,()))
    else
     (aE ak zg.2.1 ([102,111,114]:ab)).bind fun r27=>
     bif r27.1 then
      (bc ak aC r27.2.1 depth ay).bind fun r=>match r with
      |.inl r28=>
       some (.inl (r28.1,r28.2.1,r28.2.2.1,r28.2.2.2.1,()))
      |.inr r29=>
       some (.inr (r29.1,r29.2.1,()))
     else
      (aE ak r27.2.1 ([114,101,97,100]:ab)).bind fun r30=>
      bif r30.1 then
       (dh ak aC r30.2.1 1).bind fun r=>match r with
       |.inl r31=>
        (bC ak (bh (r31.2.1 - 1))).bind fun x1=>
        iR (x1.2.1,r31.2.1,depth,ay,17,r31.1.2.2.1,[])
       |.inr r32=>
        some (.inr (r32.1,r32.2.1,()))
      else
       (aE ak r30.2.1 ([112,114,105,110,116]:ab)).bind fun r33=>
       bif r33.1 then
        (aj k ak aC r33.2.1 depth ay 1).bind fun r=>match r with
        |.inl r34=>
         iR (r4.1,r34.2.1,r34.2.2.1,r34.2.2.2.1,18,([]:ab),[r34.1])
        |.inr r35=>
         some (.inr (r35.1,r35.2.1,()))
       else
        (aE ak r33.2.1 ([97,115,115,101,114,116]:ab)).bind fun r36=>
        bif r36.1 then
         (dL k ak aC r36.2.1 depth ay).bind fun r=>match r with
         |.inl r37=>
          iR (r4.1,r37.2.1,r37.2.2.1,r37.2.2.2.1,19,([]:ab),[r37.1])
         |.inr r38=>
          some (.inr (r38.1,r38.2.1,()))
        else
         (aE ak r36.2.1 ([115,116,111,112]:ab)).bind fun r39=>
         bif r39.1 then
          iR (r4.1,r39.2.1,depth,ay,20,([]:ab),[])
         else
          (aE ak r39.2.1 ([114,101,116,117,114,110]:ab)).bind fun r40=>
          bif r40.1 then
           (aj k ak aC r40.2.1 depth ay 1).bind fun r=>match r with
           |.inl r41=>
            iR (r4.1,r41.2.1,r41.2.2.1,r41.2.2.2.1,21,([]:ab),[r41.1])
           |.inr r42=>
            some (.inr (r42.1,r42.2.1,()))
          else
           (gT ak aC r40.2.1 6).bind fun r43=>
           some (.inr (r43.1,r43.2.1,()))
def iT(aN:dT)(aT:ee)(aV:fR)(bc:eE)(k:Nat)(ak:XT)(aC ju depth:Int)(ay:XN):Option (((Int×Int×Int×XN×Unit)⊕(Int×Int×Unit))):=
 (df ak aC ju).bind fun r1=>
 (aW ak aC ju ([123]:ab)).bind fun r=>match r with
 |.inl r2=>
  (fG ak aC r2.1 depth).bind fun r=>match r with
  |.inl r4=>
   (aN ak aC r2.1 r4.1 ay r1.1).bind fun r=>match r with
   |.inl r6=>
    some (.inl (r6.1,r6.2.1,r6.2.2.1,r6.2.2.2.1,()))
   |.inr r7=>
    some (.inr (r7.1,r7.2.1,()))
  |.inr r5=>
   some (.inr (r5.1,r5.2.1,()))
 |.inr r3=>
  some (.inr (r3.1,r3.2.1,()))
def kb(aN:dT)(aT:ee)(aV:fR)(bc:eE)(k:Nat)(ak:XT)(aC ju depth:Int)(ay:XN):Option (((Int×Int×Int×XN×Unit)⊕(Int×Int×Unit))):=
 (dh ak aC ju 1).bind fun r=>match r with
 |.inl r1=>
  (aW ak aC r1.2.1 ([61]:ab)).bind fun r=>match r with
  |.inl r3=>
   (aj k ak aC r3.1 depth ay 1).bind fun r=>match r with
   |.inl r5=>
    (aW ak aC r5.2.1 ([46,46]:ab)).bind fun r=>match r with
    |.inl r7=>
     (aj k ak aC r7.1 r5.2.2.1 r5.2.2.2.1 1).bind fun r=>match r with
     |.inl r9=>
      (aV ak aC r9.2.1 r9.2.2.1 r9.2.2.2.1).bind fun r=>match r with
      |.inl n8=>
       (bG n8.2.2.2.1 (16,r1.1.2.1,0,r1.1.2.2.1,[r5.1,r9.1,n8.1])).bind fun pX=>
       some (.inl (pX.1,n8.2.1,n8.2.2.1,pX.2.1,()))
      |.inr o7=>
       some (.inr (o7.1,o7.2.1,()))
     |.inr kz=>
      some (.inr (kz.1,kz.2.1,()))
    |.inr r8=>
     some (.inr (r8.1,r8.2.1,()))
   |.inr r6=>
    some (.inr (r6.1,r6.2.1,()))
  |.inr r4=>
   some (.inr (r4.1,r4.2.1,()))
 |.inr r2=>
  some (.inr (r2.1,r2.2.1,()))
def aD:Nat→dT×ee×fR×eE
 |0=>(fun _ _ _ _ _ _=>none,fun _ _ _ _ _=>none,fun _ _ _ _ _=>none,fun _ _ _ _ _=>none)
 |k+1=>(fH (aD k).1 (aD k).2.1 (aD k).2.2.1 (aD k).2.2.2 k,bo (aD k).1 (aD k).2.1 (aD k).2.2.1 (aD k).2.2.2 k,iT (aD k).1 (aD k).2.1 (aD k).2.2.1 (aD k).2.2.2 k,kb (aD k).1 (aD k).2.1 (aD k).2.2.1 (aD k).2.2.2 k)
def dg(k:Nat):dT:=(aD k).1
def db(k:Nat):ee:=(aD k).2.1
def ij(k:Nat):fR:=(aD k).2.2.1
def gw(k:Nat):eE:=(aD k).2.2.2
section
variable (aN:Gd a8 133 sa) (aT:Gd a8 158 tC) (aV:Gd a8 168 wY) (bc:Gd a8 169 ua)
def qm(k:Nat):mn:=⟨⟨26,[(126,5)],[lD 126 0 sT,lI 126 1,rP 0 126,rI 1],[lI 126 2,lI 126 3,lF 126 4 tN,(.r 5,.h .dV I)],[]⟩,[.ex (.exit 0) [lI 126 2,lI 126 3,lF 126 4 tN,(.r 5,.h .dV I)],.AT 128 [I,I]],fun q c v=>bT aN.1 aT.1 aV.1 bc.1 k q c.1 c.2.1 v.1 v.2.1 v.2.2.1 v.2.2.2.1⟩
def rX(k:Nat):Ev a8:=⟨[fC,dH,aT.cl],[lp 0 (qm aN aT aV bc k) k],[]⟩
def xA(k q:Nat):Cd a8:=nV (rX aN aT aV bc k) f133 0 (qm aN aT aV bc k) q []
def Az(k:Nat):Cl a8:=lB (rX aN aT aV bc k) 133 f133 func133 call133 [500000] (kY (fH aN.1 aT.1 aV.1 bc.1 k)) [xA aN aT aV bc k k]
def Bn(k:Nat):Cl a8:=lB ⟨[fC,gZ,gF,dH,jw,mC,eD,DF k,mW k,Hr k,aV.cl,bc.cl],[],[(4,47)]⟩ 158 f158 func158 call158 [500000] (lJ (bo aN.1 aT.1 aV.1 bc.1 k)) []
def F3(k:Nat):Cl a8:=lB ⟨[gF,eD,lk,aN.cl],[],[]⟩ 168 f168 func168 call168 [500000] (oD (iT aN.1 aT.1 aV.1 bc.1 k)) []
def Ck(k:Nat):Cl a8:=lB ⟨[gZ,gF,dH,mW k,aV.cl],[],[(3,110)]⟩ 169 f169 func169 call169 [500000] (mA (kb aN.1 aT.1 aV.1 bc.1 k)) []
end
theorem gq:∀ k,kZ prog gt 133 (sa (dg k))∧kZ prog gt 158 (tC (db k))∧kZ prog gt 168 (wY (ij k))∧kZ prog gt 169 (ua (gw k))
 |0=>⟨cP (fun _ _=>rfl),cP (fun _ _=>rfl),cP (fun _ _=>rfl),cP (fun _ _=>rfl)⟩
 |k+1=>have ih:=gq k;⟨(Az ⟨_,ih.1⟩ ⟨_,ih.2.1⟩ ⟨_,ih.2.2.1⟩ ⟨_,ih.2.2.2⟩ k).ok,(Bn ⟨_,ih.1⟩ ⟨_,ih.2.1⟩ ⟨_,ih.2.2.1⟩ ⟨_,ih.2.2.2⟩ k).ok,(F3 ⟨_,ih.1⟩ ⟨_,ih.2.1⟩ ⟨_,ih.2.2.1⟩ ⟨_,ih.2.2.2⟩ k).ok,(Ck ⟨_,ih.1⟩ ⟨_,ih.2.1⟩ ⟨_,ih.2.2.1⟩ ⟨_,ih.2.2.2⟩ k).ok⟩
def Av(k:Nat):Cl a8:=⟨_,_,(gq k).1⟩
def PY(k:Nat):Cl a8:=⟨_,_,(gq k).2.1⟩
def UX(k:Nat):Cl a8:=⟨_,_,(gq k).2.2.1⟩
def Ru(k:Nat):Cl a8:=⟨_,_,(gq k).2.2.2⟩
end
end Go.Fx.R5
namespace Go.Fx.R5
open Go Go.Fx Go.Proofs Go.Proofs.Tryz
noncomputable section
def bZ(q:Nat):Nat→XT→Int→Int→XN→XI→Option (((Int×XN×XI×Unit)⊕(Int×Int×Unit)))
 |0,_,_,_,_,_=>none
 |k+1,cQ,fN,tS,bY,cG=>
  (aE cQ tS ([44]:ab)).bind fun r8=>
  bif r8.1 then
   (eS cQ fN r8.2.1 bY 5).bind fun r=>match r with
   |.inl r9=>
    (bD cG ([r9.1])).bind fun l2=>
    bZ q k cQ fN r9.2.1 r9.2.2.1 l2
   |.inr kz=>
    some (.inr (kz.1,kz.2.1,()))
  else
   some (.inl (r8.2.1,bY,cG,()))
def cK(q:Nat):Nat→XT→Int→Int→Int→XN→XI→Option (((Int×XN×XI×Unit)⊕(Int×Int×Unit)))
 |0,_,_,_,_,_,_=>none
 |k+1,SI,XZ,ado,at5,aas,adn=>
  (aE SI at5 ([44]:ab)).bind fun vB=>
  bif vB.1 then
   (eS SI XZ vB.2.1 aas ado).bind fun r=>match r with
   |.inl zg=>
    (bD adn ([zg.1])).bind fun l3=>
    cK q k SI XZ ado zg.2.1 zg.2.2.1 l3
   |.inr KK=>
    some (.inr (KK.1,KK.2.1,()))
  else
   some (.inl (vB.2.1,aas,adn,()))
def cz(q:Nat):Nat→XT→Int→Int→XN→XI→Option (((Int×XN×XI×Unit)⊕(Int×Int×Unit)))
 |0,_,_,_,_,_=>none
 |k+1,cQ,fN,at3,EL,Qv=>
  (eN cQ at3 0 ([118,97,114]:ab)).bind fun qS=>
  aa (fun(v:Bool)=>
   bif v then
    aa (fun(EA:Int)=>
     (eS cQ fN (bh (at3+1)) EL EA).bind fun r=>match r with
     |.inl rS=>
      (bD Qv ([rS.1])).bind fun l2=>
      (cK q q cQ fN EA rS.2.1 rS.2.2.1 l2).bind fun r=>match r with
      |.inl o3=>
       (aW cQ fN o3.1 ([59]:ab)).bind fun r=>match r with
       |.inl vB=>
        cz q k cQ fN vB.1 o3.2.1 o3.2.2.1
       |.inr zg=>
        some (.inr (zg.1,zg.2.1,()))
      |.inr o4=>
       some (.inr (o4.1,o4.2.1,()))
     |.inr qT=>
      some (.inr (qT.1,qT.2.1,()))) fun iR=>
    (eN cQ at3 0 ([114,101,102]:ab)).bind fun vA=>
    bif vA.1 then
     iR 7
    else
     iR 6
   else
    some (.inl (at3,EL,Qv,()))) fun cv=>
  bif qS.1 then
   cv true
  else
   (eN cQ at3 0 ([114,101,102]:ab)).bind fun tf=>
   cv tf.1
def cY(k:Nat)(ak:XT)(aC ju depth:Int)(ay:XN):Option (((Int×Int×Int×XN×Unit)⊕(Int×Int×Unit))):=
 (dh ak aC ju 1).bind fun r=>match r with
 |.inl r1=>
  (aW ak aC r1.2.1 ([40]:ab)).bind fun r=>match r with
  |.inl r3=>
   aa (fun(jv:XI×Int×XN)=>
    (df ak aC (jv.2.1)).bind fun kz=>
    (aW ak aC (jv.2.1) ([123]:ab)).bind fun r=>match r with
    |.inl n8=>
     (fG ak aC n8.1 depth).bind fun r=>match r with
     |.inl pX=>
      (cz k k ak aC n8.1 (jv.2.2) (jv.1)).bind fun r=>match r with
      |.inl o3=>
       (dg k ak aC o3.1 pX.1 o3.2.1 kz.1).bind fun r=>match r with
       |.inl qS=>
        (bD o3.2.2.1 ([qS.1])).bind fun l2=>
        (bG qS.2.2.2.1 (4,r1.1.2.1,0,r1.1.2.2.1,l2)).bind fun vA=>
        some (.inl (vA.1,qS.2.1,qS.2.2.1,vA.2.1,()))
       |.inr tf=>
        some (.inr (tf.1,tf.2.1,()))
      |.inr o4=>
       some (.inr (o4.1,o4.2.1,()))
     |.inr rV=>
      some (.inr (rV.1,rV.2.1,()))
    |.inr o7=>
     some (.inr (o7.1,o7.2.1,()))) fun cv=>
   (aE ak r3.1 ([41]:ab)).bind fun r5=>
   bif !r5.1 then
    (eS ak aC r5.2.1 ay 5).bind fun r=>match r with
    |.inl r6=>
     (bD ([]:XI) ([r6.1])).bind fun l=>
     (bZ k k ak aC r6.2.1 r6.2.2.1 l).bind fun r=>match r with
     |.inl o=>
      (aW ak aC o.1 ([41]:ab)).bind fun r=>match r with
      |.inl r8=>
       cv (o.2.2.1,r8.1,o.2.1)
      |.inr r9=>
       some (.inr (r9.1,r9.2.1,()))
     |.inr o2=>
      some (.inr (o2.1,o2.2.1,()))
    |.inr r7=>
     some (.inr (r7.1,r7.2.1,()))
   else
    cv ([],r5.2.1,ay)
  |.inr r4=>
   some (.inr (r4.1,r4.2.1,()))
 |.inr r2=>
  some (.inr (r2.1,r2.2.1,()))
def rG(k:Nat):mn:=⟨⟨79,[(110,4),(126,5)],[lI 110 0,lI 110 1,lD 110 2 .str,lI 110 3,lD 126 0 sT,lI 126 1,lI 126 3,rP 0 126,rP 3 110],[lI 126 2,lF 126 4 tN,(.r 4,.h .dV I)],[]⟩,[.ex (.exit 0) [lI 126 2,lF 126 4 tN,(.r 4,.h .dV I)],.AT 128 [I,I]],fun q c v=>bZ k q c.2.2.2.2.1 c.2.2.2.2.2.1 v.1 v.2.1 v.2.2.1⟩
def rJ(k:Nat):mn:=⟨⟨79,[(110,4),(126,5)],[lI 110 0,lI 110 1,lD 110 2 .str,lI 110 3,lD 126 0 sT,lI 126 1,lI 126 3,rP 0 126,rP 3 110,rI 5,rI 6],[lI 126 2,lF 126 4 tN,(.r 4,.h .dV I)],[]⟩,[.ex (.exit 4) [lI 126 2,lF 126 4 tN,(.r 4,.h .dV I)],.AT 128 [I,I]],fun q c v=>cK k q c.2.2.2.2.1 c.2.2.2.2.2.1 c.2.2.2.2.2.2.2.2.2.2.1 v.1 v.2.1 v.2.2.1⟩
def rH(k:Nat):mn:=⟨⟨79,[(110,4),(126,5)],[lI 110 0,lI 110 1,lD 110 2 .str,lI 110 3,lD 126 0 sT,lI 126 1,lI 126 3,rP 0 126,rP 3 110,rI 5],[lI 126 2,lF 126 4 tN,(.r 4,.h .dV I)],[]⟩,[.ex (.exit 2) [lI 126 2,lF 126 4 tN,(.r 4,.h .dV I)],.AT 128 [I,I]],fun q c v=>cz k q c.2.2.2.2.1 c.2.2.2.2.2.1 v.1 v.2.1 v.2.2.1⟩
def mB(k:Nat):Ev a8:=⟨[fC,gZ,gF,dH,rN,mV,eD,lk,Av k],[lp 0 (rG k) k,lp 4 (rJ k) k,lp 2 (rH k) k],[(3,110)]⟩
def zr(k q:Nat):Cd a8:=nV (mB k) f111 0 (rG k) q []
def zu(k q:Nat):Cd a8:=nV (mB k) f111 4 (rJ k) q []
def zt(k q:Nat):Cd a8:=nV (mB k) f111 2 (rH k) q [zu k k]
def Cg(k:Nat):Cl a8:=lB (mB k) 111 f111 func111 call111 [500000] ⟨⟨79,[(126,5)],[lD 126 0 sT,lI 126 1],[rP 0 126,lI 126 2,lI 126 3,lF 126 4 tN],[]⟩,[.ret [rI 500000,lI 126 2,lI 126 3,lF 126 4 tN] [],.AT 128 [I,I]],fun c v=>cY k c.1 c.2.1 v.2.1 v.2.2.1 v.2.2.2.1⟩ [zr k k,zt k k]
def aJ(q:Nat):Nat→XT→Int→Int→Int→XN→XI→Option (((Int×Int×XN×XI×Unit)⊕(Int×Int×Unit)))
 |0,_,_,_,_,_,_=>none
 |k+1,cQ,fN,tS,oL,bY,cG=>
  bif decide (tS<(cQ.length:Int)) then
   (aE cQ tS ([97,114,114,97,121]:ab)).bind fun r1=>
   bif r1.1 then
    (dh cQ fN r1.2.1 1).bind fun r=>match r with
    |.inl r2=>
     (aW cQ fN r2.2.1 ([91]:ab)).bind fun r=>match r with
     |.inl r4=>
      (dh cQ fN r4.1 2).bind fun r=>match r with
      |.inl r6=>
       (aW cQ fN r6.2.1 ([93]:ab)).bind fun r=>match r with
       |.inl r8=>
        (aW cQ fN r8.1 ([59]:ab)).bind fun r=>match r with
        |.inl kz=>
         (bG bY (2,r2.1.2.1,r6.1.2.2.2,r2.1.2.2.1,[])).bind fun o7=>
         (bD cG ([o7.1])).bind fun l=>
         aJ q k cQ fN kz.1 oL o7.2.1 l
        |.inr n8=>
         some (.inr (n8.1,n8.2.1,()))
       |.inr r9=>
        some (.inr (r9.1,r9.2.1,()))
      |.inr r7=>
       some (.inr (r7.1,r7.2.1,()))
     |.inr r5=>
      some (.inr (r5.1,r5.2.1,()))
    |.inr r3=>
     some (.inr (r3.1,r3.2.1,()))
   else
    (aE cQ r1.2.1 ([118,97,114]:ab)).bind fun pX=>
    bif pX.1 then
     (eS cQ fN pX.2.1 bY 3).bind fun r=>match r with
     |.inl rV=>
      (bD cG ([rV.1])).bind fun l2=>
      (aW cQ fN rV.2.1 ([59]:ab)).bind fun r=>match r with
      |.inl tf=>
       aJ q k cQ fN tf.1 oL rV.2.2.1 l2
      |.inr vA=>
       some (.inr (vA.1,vA.2.1,()))
     |.inr qS=>
      some (.inr (qS.1,qS.2.1,()))
    else
     (aE cQ pX.2.1 ([102,117,110,99]:ab)).bind fun rS=>
     bif rS.1 then
      (cY q cQ fN rS.2.1 oL bY).bind fun r=>match r with
      |.inl qT=>
       (bD cG ([qT.1])).bind fun l3=>
       aJ q k cQ fN qT.2.1 qT.2.2.1 qT.2.2.2.1 l3
      |.inr vB=>
       some (.inr (vB.1,vB.2.1,()))
     else
      (gT cQ fN rS.2.1 6).bind fun zg=>
      some (.inr (zg.1,zg.2.1,()))
  else
   some (.inl (tS,oL,bY,cG,()))
def oH(k:Nat)(ak:XT)(aC ju depth:Int)(ay:XN):Option (((Int×Int×XN×Unit)⊕(Int×Int×Unit))):=
 (aJ k k ak aC ju depth ay []).bind fun r=>match r with
 |.inl o=>
  (bG o.2.2.1 (1,0,0,([]:ab),o.2.2.2.1)).bind fun r1=>
  some (.inl (o.1,o.2.1,r1.2.1,()))
 |.inr o2=>
  some (.inr (o2.1,o2.2.1,()))
def sk(k:Nat):mn:=⟨⟨64,[(126,5)],[lD 126 0 sT,lI 126 1,rP 0 126],[lI 126 2,lI 126 3,lF 126 4 tN,(.r 2,.h .dV I)],[]⟩,[.ex (.exit 0) [lI 126 2,lI 126 3,lF 126 4 tN,(.r 2,.h .dV I)],.AT 128 [I,I]],fun q c v=>aJ k q c.1 c.2.1 v.1 v.2.1 v.2.2.1 v.2.2.2.1⟩
def uN(k:Nat):Ev a8:=⟨[fC,gZ,gF,dH,rN,Cg k,jw],[lp 0 (sk k) k],[]⟩
def An(k q:Nat):Cd a8:=nV (uN k) f71 0 (sk k) q []
def DE(k:Nat):Cl a8:=lB (uN k) 71 f71 func71 call71 [] ⟨⟨64,[(126,5)],[lD 126 0 sT,lI 126 1],[rP 0 126,lI 126 2,lI 126 3,lF 126 4 tN],[]⟩,[.ret [lI 126 2,lI 126 3,lF 126 4 tN] [],.AT 128 [I,I]],fun c v=>oH k c.1 c.2.1 v.2.1 v.2.2.1 v.2.2.2.1⟩ [An k k]
def pP(q:Nat):Nat→ab→Int→Option (Int×Unit)
 |0,_,_=>none
 |k+1,OP,at3=>
  aa (fun(v2:Bool)=>
   bif v2 then
    pP q k OP (bh (at3+1))
   else
    some (at3,())) fun cv=>
  bif decide (at3<(OP.length:Int)) then
   (bC OP at3).bind fun b2=>
   cv ((b2.toNat:Int) != 10)
  else
   cv false
def iC(q:Nat):Nat→ab→Int→Option (((Int×Unit)⊕(Int×Unit)))
 |0,_,_=>none
 |k+1,io,tS=>
  bif decide (tS<(io.length:Int)) then
   (bC io tS).bind fun b=>
   aa (fun(v:Bool)=>
    bif v then
     iC q k io (bh (tS+1))
    else
     bif (b.toNat:Int)==35 then
      (pP q q io tS).bind fun o=>
      iC q k io o.1
     else
      some (.inr (tS,()))) fun cv=>
   bif (b.toNat:Int)==32 then
    cv ((b.toNat:Int)==32)
   else
    cv ((b.toNat:Int)==10)
  else
   some (.inl (tS,()))
def nT(k:Nat)(bB:ab)(ju:Int):Option (Int×Unit):=
 (iC k k bB ju).bind fun r=>match r with
 |.inl o=>
  some (o.1,())
 |.inr o2=>
  some (o2.1,())
def zY(k:Nat):mn:=⟨⟨33,[],[rD 0 .str],[rI 1],[]⟩,[.ex (.exit 3) [rI 1]],fun q c v=>pP k q c.1 v.1⟩
def zX(k:Nat):mn:=⟨⟨33,[],[rD 0 .str],[rI 1],[]⟩,[.ex (.exit 0) [rI 1],.ex .ret [rI 4]],fun q c v=>iC k q c.1 v.1⟩
def yh(k:Nat):Ev a8:=⟨[],[lp 3 (zY k) k,lp 0 (zX k) k],[]⟩
def Ii(k q:Nat):Cd a8:=nV (yh k) f104 3 (zY k) q []
def Ih(k q:Nat):Cd a8:=nV (yh k) f104 0 (zX k) q [Ii k k]
def M4(k:Nat):Cl a8:=wD (yh k) 104 f104 func104 call104 [.str,I] [I] (fun d=>nT k d.1 d.2.1) [Ih k k]
def uh(b:Int):Option (Bool×Unit):=
 aa (fun(v:Bool)=>
  some (v,())) fun cv=>
 bif decide (b≥97) then
  cv (decide (b≤122))
 else
  cv false
def J1:Cl a8:=wD ⟨[],[],[]⟩ 123 f123 func123 call123 [U] [.bool] (fun d=>uh d.1) []
def sf(b:Int):Option (Bool×Unit):=
 aa (fun(v:Bool)=>
  some (v,())) fun cv=>
 bif decide (b≥48) then
  cv (decide (b≤57))
 else
  cv false
def Lz:Cl a8:=wD ⟨[],[],[]⟩ 124 f124 func124 call124 [U] [.bool] (fun d=>sf d.1) []
def zV(bB:ab):Option (Bool×Unit):=
 aa (fun(v:Bool)=>
  bif v then
   some (true,())
  else
   some (false,())) fun cv=>
 bif bB==([97,114,114,97,121]:ab) then
  cv (bB==([97,114,114,97,121]:ab))
 else
  bif bB==([118,97,114]:ab) then
   cv (bB==([118,97,114]:ab))
  else
   bif bB==([114,101,102]:ab) then
    cv (bB==([114,101,102]:ab))
   else
    bif bB==([102,117,110,99]:ab) then
     cv (bB==([102,117,110,99]:ab))
    else
     bif bB==([105,102]:ab) then
      cv (bB==([105,102]:ab))
     else
      bif bB==([101,108,115,101]:ab) then
       cv (bB==([101,108,115,101]:ab))
      else
       bif bB==([119,104,105,108,101]:ab) then
        cv (bB==([119,104,105,108,101]:ab))
       else
        bif bB==([102,111,114]:ab) then
         cv (bB==([102,111,114]:ab))
        else
         bif bB==([114,101,97,100]:ab) then
          cv (bB==([114,101,97,100]:ab))
         else
          bif bB==([112,114,105,110,116]:ab) then
           cv (bB==([112,114,105,110,116]:ab))
          else
           bif bB==([97,115,115,101,114,116]:ab) then
            cv (bB==([97,115,115,101,114,116]:ab))
           else
            bif bB==([115,116,111,112]:ab) then
             cv (bB==([115,116,111,112]:ab))
            else
             bif bB==([114,101,116,117,114,110]:ab) then
              cv (bB==([114,101,116,117,114,110]:ab))
             else
              bif bB==([97,110,100]:ab) then
               cv (bB==([97,110,100]:ab))
              else
               bif bB==([111,114]:ab) then
                cv (bB==([111,114]:ab))
               else
                bif bB==([110,111,116]:ab) then
                 cv (bB==([110,111,116]:ab))
                else
                 cv (bB==([110,117,108,108]:ab))
def Pa:Cl a8:=wD ⟨[],[],[]⟩ 125 f125 func125 call125 [.str] [.bool] (fun d=>zV d.1) []
def mZ(q:Nat):Nat→ab→Int→XS→Int→Option (((Unit)⊕(ab×Unit)))
 |0,_,_,_,_=>none
 |k+1,io,tS,Ml,SF=>
  bif decide (SF<30) then
   (bC Ml SF).bind fun b=>
   (sub io tS (io.length:Int)).bind fun l=>
   (HK l b).bind fun r1=>
   bif r1.1 then
    some (.inr (b,()))
   else
    mZ q k io tS Ml (bh (SF+1))
  else
   some (.inl ())
def zU(k:Nat)(bB:ab)(ju:Int):Option (ab×Unit):=
 aa (fun(v:Bool)=>
  bif v then
   some (([]:ab),())
  else
   (mZ k k bB ju xW 0).bind fun r=>match r with
   |.inl o=>
    some (([]:ab),())
   |.inr o2=>
    some (o2.1,())) fun cv=>
 bif decide (ju<0) then
  cv true
 else
  cv (decide (ju≥(bB.length:Int)))
def BD(k:Nat):mn:=⟨⟨26,[],[rD 0 .str,rI 1,rD 15 (.arr 30 .str)],[rI 16],[]⟩,[.ex (.exit 0) [],.ex .ret [rD 4 .str]],fun q c v=>mZ k q c.1 c.2.1 c.2.2.1 v.1⟩
def Gf(k:Nat):Ev a8:=⟨[S9],[lp 0 (BD k) k],[]⟩
def JP(k q:Nat):Cd a8:=nV (Gf k) f128 0 (BD k) q []
def O9(k:Nat):Cl a8:=wD (Gf k) 128 f128 func128 call128 [.str,I] [.str] (fun d=>zU k d.1 d.2.1) [JP k k]
def oQ(q:Nat):Nat→ab→Int→Option (Int×Unit)
 |0,_,_=>none
 |k+1,io,aC=>
  aa (fun(v2:Bool)=>
   bif v2 then
    oQ q k io (bh (aC+1))
   else
    some (aC,())) fun iR=>
  bif decide (aC<(io.length:Int)) then
   (bC io aC).bind fun b2=>
   (uh (b2.toNat:Int)).bind fun r2=>
   aa (fun(v:Bool)=>
    iR v) fun cv=>
   bif r2.1 then
    cv true
   else
    (bC io aC).bind fun b3=>
    (sf (b3.toNat:Int)).bind fun r3=>
    cv r3.1
  else
   iR false
def oR(q:Nat):Nat→ab→Int→Option (Int×Unit)
 |0,_,_=>none
 |k+1,io,aC=>
  aa (fun(v:Bool)=>
   bif v then
    oR q k io (bh (aC+1))
   else
    some (aC,())) fun cv=>
  bif decide (aC<(io.length:Int)) then
   (bC io aC).bind fun b3=>
   (sf (b3.toNat:Int)).bind fun r5=>
   cv r5.1
  else
   cv false
def jU(k:Nat)(bB:ab)(ju:Int):Option ((Int×Int×ab×Int)×Int×Unit):=
 (bC bB ju).bind fun b=>
 (uh (b.toNat:Int)).bind fun r1=>
 bif r1.1 then
  (oQ k k bB ju).bind fun o=>
  bif decide ((bh (o.1 - ju)) > 8) then
   some ((0,0,([]:ab),0),3,())
  else
   aa (fun(EA:Int)=>
    (sub bB ju o.1).bind fun l2=>
    (Ch l2).bind fun r3=>
    some ((EA,ju,r3.1,0),0,())) fun cv=>
   (sub bB ju o.1).bind fun l=>
   (zV l).bind fun r2=>
   bif r2.1 then
    cv 3
   else
    cv 1
 else
  (bC bB ju).bind fun b2=>
  (sf (b2.toNat:Int)).bind fun r4=>
  bif r4.1 then
   (oR k k bB ju).bind fun o2=>
   (sub bB ju o2.1).bind fun l3=>
   (pz l3).bind fun r5=>
   bif !r5.2.1 then
    some ((0,0,([]:ab),0),4,())
   else
    (sub bB ju o2.1).bind fun l4=>
    (Ch l4).bind fun r6=>
    some ((2,ju,r6.1,r5.1),0,())
  else
   (zU k bB ju).bind fun r7=>
   bif r7.1==([]:ab) then
    some ((0,0,([]:ab),0),2,())
   else
    some ((4,ju,r7.1,0),0,())
def yR(k:Nat):mn:=⟨⟨98,[(110,4)],[lI 110 0,lI 110 1,lD 110 2 .str,lI 110 3,rD 0 .str,rI 1,rP 4 110],[rI 6],[]⟩,[.ex (.exit 1) [rI 6]],fun q c v=>oQ k q c.2.2.2.2.1 v.1⟩
def yS(k:Nat):mn:=⟨⟨98,[(110,4)],[lI 110 0,lI 110 1,lD 110 2 .str,lI 110 3,rD 0 .str,rI 1,rP 4 110],[rI 6],[]⟩,[.ex (.exit 3) [rI 6]],fun q c v=>oR k q c.2.2.2.2.1 v.1⟩
def wF(k:Nat):Ev a8:=⟨[J1,Lz,Pa,abC,Td,O9 k],[lp 1 (yR k) k,lp 3 (yS k) k],[(4,110)]⟩
def GV(k q:Nat):Cd a8:=nV (wF k) f105 1 (yR k) q []
def GW(k q:Nat):Cd a8:=nV (wF k) f105 3 (yS k) q []
def LA(k:Nat):Cl a8:=wD (wF k) 105 f105 func105 call105 [.str,I] [tT,I] (fun d=>jU k d.1 d.2.1) [GV k k,GW k k]
def eR(q:Nat):Nat→ab→Int→Int→XT→Int→Option (((Int×Int×XT×Unit)⊕(Int×Int×Unit)))
 |0,_,_,_,_,_=>none
 |k+1,io,w,w2,ak,ju=>
  bif decide (ju<(io.length:Int)) then
   (jU q io ju).bind fun r2=>
   aa (fun(code:Int)=>
    bif code != 0 then
     some (.inr (code,ju,()))
    else
     (bD ak ([r2.1])).bind fun l=>
     (nT q io (bh (ju+(r2.1.2.2.1.length:Int)))).bind fun r3=>
     eR q k io w w2 l r3.1) fun iR=>
   aa (fun(v:Bool)=>
    bif v then
     iR 5
    else
     iR r2.2.1) fun cv=>
   bif r2.2.1==0 then
    cv ((ak.length:Int)==700)
   else
    cv false
  else
   some (.inl (w,w2,ak,()))
def mY(k:Nat)(bB:ab):Option (XT×(Int×Int)×Unit):=
 bif decide ((bB.length:Int) > 3000) then
  some ([],(1,0),())
 else
  (nT k bB 0).bind fun r1=>
  (eR k k bB 0 0 [] r1.1).bind fun r=>match r with
  |.inl o=>
   some (o.2.2.1,(0,0),())
  |.inr o2=>
   some ([],(o2.1,o2.2.1),())
def xf(k:Nat):mn:=⟨⟨50,[(37,2)],[rD 0 .str,rP 3 37],[lI 37 0,lI 37 1,(.r 4,.h .dV tT),rI 5],[]⟩,[.ex (.exit 0) [lI 37 0,lI 37 1,(.r 4,.h .dV tT)],.ex .ret [lI 37 0,lI 37 1,(.r 2,.lit .nil)]],fun q c v=>eR k q c.1 v.1 v.2.1 v.2.2.1 v.2.2.2.1⟩
def AV(k:Nat):Ev a8:=⟨[M4 k,LA k],[lp 0 (xf k) k],[(3,37)]⟩
def FH(k q:Nat):Cd a8:=nV (AV k) f69 0 (xf k) q []
def J0(k:Nat):Cl a8:=wD (AV k) 69 f69 func69 call69 [.str] [sT,tP] (fun d=>mY k d.1) [FH k k]
def kh(q:Nat):Nat→ab→Int→Option (Int×Unit)
 |0,_,_=>none
 |k+1,OP,at3=>
  aa (fun(v2:Bool)=>
   bif v2 then
    kh q k OP (bh (at3+1))
   else
    some (at3,())) fun cv=>
  bif decide (at3<(OP.length:Int)) then
   (bC OP at3).bind fun b4=>
   cv ((b4.toNat:Int) != 10)
  else
   cv false
def jd(q:Nat):Nat→ab→Int→Option (((Int×Unit)⊕(Int×Unit)))
 |0,_,_=>none
 |k+1,io,tS=>
  bif decide (tS<(io.length:Int)) then
   (bC io tS).bind fun b=>
   aa (fun(v:Bool)=>
    bif v then
     jd q k io (bh (tS+1))
    else
     (bC io tS).bind fun b3=>
     bif (b3.toNat:Int) != 35 then
      some (.inr (tS,()))
     else
      (kh q q io tS).bind fun o=>
      jd q k io o.1) fun cv=>
   bif (b.toNat:Int)==32 then
    cv true
   else
    (bC io tS).bind fun b2=>
    cv ((b2.toNat:Int)==10)
  else
   some (.inl (tS,()))
def pe(k:Nat)(bB:ab)(ju:Int):Option (Int×Unit):=
 (jd k k bB ju).bind fun r=>match r with
 |.inl o=>
  some (o.1,())
 |.inr o2=>
  some (o2.1,())
def BI(k:Nat):mn:=⟨⟨39,[],[rD 0 .str],[rI 1],[]⟩,[.ex (.exit 2) [rI 1]],fun q c v=>kh k q c.1 v.1⟩
def BH(k:Nat):mn:=⟨⟨39,[],[rD 0 .str],[rI 1],[]⟩,[.ex (.exit 0) [rI 1],.ex .ret [rI 4]],fun q c v=>jd k q c.1 v.1⟩
def Aq(k:Nat):Ev a8:=⟨[],[lp 2 (BI k) k,lp 0 (BH k) k],[]⟩
def JU(k q:Nat):Cd a8:=nV (Aq k) f58 2 (BI k) q []
def JT(k q:Nat):Cd a8:=nV (Aq k) f58 0 (BH k) q [JU k k]
def Pf(k:Nat):Cl a8:=wD (Aq k) 58 f58 func58 call58 [.str,I] [I] (fun d=>pe k d.1 d.2.1) [JT k k]
def sD(c:Int):Option (Bool×Unit):=
 aa (fun(v:Bool)=>
  some (v,())) fun cv=>
 bif decide (c≥97) then
  cv (decide (c≤122))
 else
  cv false
def Da:Cl a8:=wD ⟨[],[],[]⟩ 88 f88 func88 call88 [U] [.bool] (fun d=>sD d.1) []
def rB(c:Int):Option (Bool×Unit):=
 aa (fun(v:Bool)=>
  some (v,())) fun cv=>
 bif decide (c≥48) then
  cv (decide (c≤57))
 else
  cv false
def yz:Cl a8:=wD ⟨[],[],[]⟩ 91 f91 func91 call91 [U] [.bool] (fun d=>rB d.1) []
def ld(q:Nat):Nat→ab→Int→Option (Int×Unit)
 |0,_,_=>none
 |k+1,io,tS=>
  aa (fun(v2:Bool)=>
   bif v2 then
    ld q k io (bh (tS+1))
   else
    some (tS,())) fun iR=>
  bif decide (tS<(io.length:Int)) then
   (bC io tS).bind fun b=>
   (sD (b.toNat:Int)).bind fun r1=>
   aa (fun(v:Bool)=>
    iR v) fun cv=>
   bif r1.1 then
    cv true
   else
    (bC io tS).bind fun b2=>
    (rB (b2.toNat:Int)).bind fun r2=>
    cv r2.1
  else
   iR false
def CF(k:Nat)(bB:ab)(ju:Int):Option (Int×Unit):=
 (ld k k bB ju).bind fun o=>
 some (o.1,())
def Dj(k:Nat):mn:=⟨⟨24,[],[rD 0 .str],[rI 1],[]⟩,[.ex (.exit 0) [rI 1]],fun q c v=>ld k q c.1 v.1⟩
def It(k:Nat):Ev a8:=⟨[Da,yz],[lp 0 (Dj k) k],[]⟩
def Lq(k q:Nat):Cd a8:=nV (It k) f89 0 (Dj k) q []
def Ry(k:Nat):Cl a8:=wD (It k) 89 f89 func89 call89 [.str,I] [I] (fun d=>CF k d.1 d.2.1) [Lq k k]
def Aj(bB:ab):Option (Bool×Unit):=
 aa (fun(v:Bool)=>
  aa (fun(v2:Bool)=>
   aa (fun(v3:Bool)=>
    aa (fun(v4:Bool)=>
     aa (fun(v5:Bool)=>
      aa (fun(v6:Bool)=>
       aa (fun(v7:Bool)=>
        aa (fun(v8:Bool)=>
         aa (fun(v9:Bool)=>
          aa (fun(v10:Bool)=>
           aa (fun(v11:Bool)=>
            aa (fun(v12:Bool)=>
             aa (fun(v13:Bool)=>
              aa (fun(v14:Bool)=>
               aa (fun(v15:Bool)=>
                aa (fun(v16:Bool)=>
                 some (v16,())) fun agh=>
                bif v15 then
                 agh true
                else
                 agh (bB==([110,117,108,108]:ab))) fun agf=>
               bif v14 then
                agf true
               else
                agf (bB==([110,111,116]:ab))) fun age=>
              bif v13 then
               age true
              else
               age (bB==([111,114]:ab))) fun Z7=>
             bif v12 then
              Z7 true
             else
              Z7 (bB==([97,110,100]:ab))) fun Z6=>
            bif v11 then
             Z6 true
            else
             Z6 (bB==([114,101,116,117,114,110]:ab))) fun Z5=>
           bif v10 then
            Z5 true
           else
            Z5 (bB==([115,116,111,112]:ab))) fun TN=>
          bif v9 then
           TN true
          else
           TN (bB==([97,115,115,101,114,116]:ab))) fun jx9=>
         bif v8 then
          jx9 true
         else
          jx9 (bB==([112,114,105,110,116]:ab))) fun jx8=>
        bif v7 then
         jx8 true
        else
         jx8 (bB==([114,101,97,100]:ab))) fun jx7=>
       bif v6 then
        jx7 true
       else
        jx7 (bB==([102,111,114]:ab))) fun jx6=>
      bif v5 then
       jx6 true
      else
       jx6 (bB==([119,104,105,108,101]:ab))) fun jx5=>
     bif v4 then
      jx5 true
     else
      jx5 (bB==([101,108,115,101]:ab))) fun jx4=>
    bif v3 then
     jx4 true
    else
     jx4 (bB==([105,102]:ab))) fun uR=>
   bif v2 then
    uR true
   else
    uR (bB==([102,117,110,99]:ab))) fun iR=>
  bif v then
   iR true
  else
   iR (bB==([114,101,102]:ab))) fun cv=>
 bif bB==([97,114,114,97,121]:ab) then
  cv true
 else
  cv (bB==([118,97,114]:ab))
def Pd:Cl a8:=wD ⟨[],[],[]⟩ 90 f90 func90 call90 [.str] [.bool] (fun d=>Aj d.1) []
end
end Go.Fx.R5
namespace Go.Fx.R5
open Go Go.Fx Go.Proofs Go.Proofs.Tryz
noncomputable section
def iL(q:Nat):Nat→ab→Int→Option (Int×Unit)
 |0,_,_=>none
 |k+1,io,tS=>
  aa (fun(v:Bool)=>
   bif v then
    iL q k io (bh (tS+1))
   else
    some (tS,())) fun cv=>
  bif decide (tS<(io.length:Int)) then
   (bC io tS).bind fun b=>
   (rB (b.toNat:Int)).bind fun r1=>
   cv r1.1
  else
   cv false
def vS(k:Nat)(bB:ab)(ju:Int):Option (Int×Unit):=
 (iL k k bB ju).bind fun o=>
 some (o.1,())
def yZ(k:Nat):mn:=⟨⟨18,[],[rD 0 .str],[rI 1],[]⟩,[.ex (.exit 0) [rI 1]],fun q c v=>iL k q c.1 v.1⟩
def CN(k:Nat):Ev a8:=⟨[yz],[lp 0 (yZ k) k],[]⟩
def G9(k q:Nat):Cd a8:=nV (CN k) f92 0 (yZ k) q []
def LF(k:Nat):Cl a8:=wD (CN k) 92 f92 func92 call92 [.str,I] [I] (fun d=>vS k d.1 d.2.1) [G9 k k]
def ma(q:Nat):Nat→ab→Int→Int→Option (Int×Unit)
 |0,_,_,_=>none
 |k+1,s2,v3,i1=>
  bif decide (i1<(s2.length:Int)) then
   (bC s2 i1).bind fun b2=>
   ma q k s2 (bh ((bh (v3 * 10))+(bh ((IntKind.u8.wrap ((b2.toNat:Int) - 48)))))) (bh (i1+1))
  else
   some (v3,())
def pF(k:Nat)(s:ab):Option (Int×Unit):=
 aa (fun(v2:Bool)=>
  bif v2 then
   some ((-1),())
  else
   (ma k k s 0 0).bind fun o=>
   bif decide (o.1 > 2147483647) then
    some ((-1),())
   else
    some (o.1,())) fun iR=>
 bif decide ((s.length:Int) > 10) then
  iR true
 else
  aa (fun(v:Bool)=>
   iR v) fun cv=>
  bif decide ((s.length:Int) > 1) then
   (bC s 0).bind fun b=>
   cv ((b.toNat:Int)==48)
  else
   cv false
def z6(k:Nat):mn:=⟨⟨35,[],[rD 0 .str],[rI 3,rI 4],[]⟩,[.ex (.exit 0) [rI 3]],fun q c v=>ma k q c.1 v.1 v.2.1⟩
def DY(k:Nat):Ev a8:=⟨[],[lp 0 (z6 k) k],[]⟩
def Ik(k q:Nat):Cd a8:=nV (DY k) f93 0 (z6 k) q []
def M9(k:Nat):Cl a8:=wD (DY k) 93 f93 func93 call93 [.str] [I] (fun d=>pF k d.1) [Ik k k]
def xT:Option (XS×Unit):=
 some ([([43,37]:ab),([45,37]:ab),([42,37]:ab),([60,60]:ab),([62,62]:ab),([61,61]:ab),([33,61]:ab),([60,61]:ab),([62,61]:ab),([46,46]:ab),([43,61]:ab),([43]:ab),([45]:ab),([42]:ab),([47]:ab),([37]:ab),([38]:ab),([124]:ab),([94]:ab),([60]:ab),([62]:ab),([61]:ab),([40]:ab),([41]:ab),([123]:ab),([125]:ab),([91]:ab),([93]:ab),([44]:ab),([59]:ab)],())
def Ec:Cl a8:=wD ⟨[],[],[]⟩ 117 f117 func117 call117 [] [sS] (fun d=>xT) []
def np(q:Nat):Nat→ab→Int→XS→Int→Option (((Unit)⊕(ab×Unit)))
 |0,_,_,_,_=>none
 |k+1,io,tS,l,i1=>
  bif decide (i1<(l.length:Int)) then
   (bC l i1).bind fun x1=>
   aa (fun(v2:Bool)=>
    bif v2 then
     (bC l i1).bind fun x3=>
     some (.inr (x3,()))
    else
     np q k io tS l (bh (i1+1))) fun cv=>
   bif decide ((x1.length:Int)≤(bh ((io.length:Int) - tS))) then
    (sub io tS (bh (tS+(x1.length:Int)))).bind fun l2=>
    (bC l i1).bind fun x2=>
    cv (l2==x2)
   else
    cv false
  else
   some (.inl ())
def Ai(k:Nat)(bB:ab)(ju:Int):Option (ab×Unit):=
 aa (fun(v:Bool)=>
  bif v then
   some (([]:ab),())
  else
   (xT).bind fun r1=>
   (np k k bB ju r1.1 0).bind fun r=>match r with
   |.inl o=>
    some (([]:ab),())
   |.inr o2=>
    some (o2.1,())) fun cv=>
 bif decide (ju<0) then
  cv true
 else
  cv (decide (ju≥(bB.length:Int)))
def BE(k:Nat):mn:=⟨⟨51,[],[rD 0 .str,rI 1,rD 5 sS],[rI 6],[]⟩,[.ex (.exit 0) [],.ex .ret [rD 4 .str]],fun q c v=>np k q c.1 c.2.1 c.2.2.1 v.1⟩
def Gg(k:Nat):Ev a8:=⟨[Ec],[lp 0 (BE k) k],[]⟩
def JQ(k q:Nat):Cd a8:=nV (Gg k) f94 0 (BE k) q []
def Pc(k:Nat):Cl a8:=wD (Gg k) 94 f94 func94 call94 [.str,I] [.str] (fun d=>Ai k d.1 d.2.1) [JQ k k]
def ou(k:Nat)(bB:ab)(ju:Int):Option ((Int×Int×ab×Int)×Int×Int×Unit):=
 (bC bB ju).bind fun b=>
 (sD (b.toNat:Int)).bind fun r1=>
 bif r1.1 then
  (CF k bB ju).bind fun r2=>
  (sub bB ju r2.1).bind fun l=>
  aa (fun(v:Int)=>
   bif decide ((l.length:Int) > 8) then
    some ((v,ju,l,0),r2.1,3,())
   else
    some ((v,ju,l,0),r2.1,0,())) fun cv=>
  (Aj l).bind fun r3=>
  bif r3.1 then
   cv 3
  else
   cv 1
 else
  (bC bB ju).bind fun b2=>
  (rB (b2.toNat:Int)).bind fun r4=>
  bif r4.1 then
   (vS k bB ju).bind fun r5=>
   (sub bB ju r5.1).bind fun l2=>
   (pF k l2).bind fun r6=>
   bif decide (r6.1<0) then
    some ((2,ju,l2,r6.1),r5.1,4,())
   else
    some ((2,ju,l2,r6.1),r5.1,0,())
  else
   (Ai k bB ju).bind fun r7=>
   bif r7.1==([]:ab) then
    some ((4,ju,r7.1,0),ju,2,())
   else
    some ((4,ju,r7.1,0),(bh (ju+(r7.1.length:Int))),0,())
def Rx(k:Nat):Cl a8:=wD ⟨[Da,Ry k,Pd,yz,LF k,M9 k,Pc k],[],[(4,110)]⟩ 59 f59 func59 call59 [.str,I] [tT,I,I] (fun d=>ou k d.1 d.2.1) []
def eT(q:Nat):Nat→ab→Int→Int→XT→XT→Int→Option (((Int×Int×XT×Unit)⊕(Int×Int×XT×Unit)))
 |0,_,_,_,_,_,_=>none
 |k+1,io,w,w2,aat,out,ju=>
  bif decide (ju<(io.length:Int)) then
   (ou q io ju).bind fun r2=>
   bif r2.2.2.1 != 0 then
    some (.inr (r2.2.2.1,ju,aat,()))
   else
    bif decide ((out.length:Int)≥700) then
     some (.inr (5,ju,aat,()))
    else
     (bD out ([r2.1])).bind fun l=>
     (pe q io r2.2.1).bind fun r3=>
     eT q k io w w2 aat l r3.1
  else
   some (.inl (w,w2,out,()))
def nj(k:Nat)(bB:ab):Option (XT×(Int×Int)×Unit):=
 bif decide ((bB.length:Int) > 3000) then
  some ([],(1,0),())
 else
  (pe k bB 0).bind fun r1=>
  (eT k k bB 0 0 [] [] r1.1).bind fun r=>match r with
  |.inl o=>
   some (o.2.2.1,(0,0),())
  |.inr o2=>
   some (o2.2.2.1,(o2.1,o2.2.1),())
def xj(k:Nat):mn:=⟨⟨51,[(37,2)],[rD 0 .str,rP 3 37],[lI 37 0,lI 37 1,(.r 4,.h .dV tT),(.r 5,.h .dV tT),rI 6],[]⟩,[.ex (.exit 0) [lI 37 0,lI 37 1,(.r 5,.h .dV tT)],.ex .ret [lI 37 0,lI 37 1,(.r 2,.h .dV tT)]],fun q c v=>eT k q c.1 v.1 v.2.1 v.2.2.1 v.2.2.2.1 v.2.2.2.2.1⟩
def AX(k:Nat):Ev a8:=⟨[Pf k,Rx k],[lp 0 (xj k) k],[(3,37)]⟩
def FL(k q:Nat):Cd a8:=nV (AX k) f35 0 (xj k) q []
def J3(k:Nat):Cl a8:=wD (AX k) 35 f35 func35 call35 [.str] [sT,tP] (fun d=>nj k d.1) [FL k k]
def fw(t:XT)(p Code:Int)(bB:ab):Option (Bool×Unit):=
 aa (fun(v:Bool)=>
  aa (fun(v2:Bool)=>
   aa (fun(v3:Bool)=>
    some (v3,())) fun uR=>
   bif v2 then
    (bC t p).bind fun x2=>
    uR (decide (x2.1≥3))
   else
    uR false) fun iR=>
  bif v then
   (bC t p).bind fun x1=>
   iR (x1.2.2.1==bB)
  else
   iR false) fun cv=>
 bif Code==0 then
  cv (decide (p<(t.length:Int)))
 else
  cv false
def mG:Cl a8:=lB ⟨[],[],[]⟩ 95 f95 func95 call95 [500000] ⟨⟨52,[(77,7)],[lD 77 0 sT,lI 77 1,lI 77 2,lF 77 3 tN,lI 77 4,lI 77 5,lI 77 6],[rP 0 77,rD 1 .str],[]⟩,[.ret [rD 500000 .bool] []],fun c v=>fw c.1 c.2.1 c.2.2.2.2.2.1 v.2.1⟩ []
def bX(t:XT)(p Code:Int)(bB:ab):Option (Bool×Int×Unit):=
 (fw t p Code bB).bind fun r1=>
 bif r1.1 then
  some (true,(bh (p+1)),())
 else
  some (false,p,())
def jq:Cl a8:=lB ⟨[mG],[],[]⟩ 60 f60 func60 call60 [500000] ⟨⟨16,[(77,7)],[lD 77 0 sT,lI 77 2,lF 77 3 tN,lI 77 4,lI 77 5,lI 77 6],[rP 0 77,rD 1 .str,lI 77 1],[]⟩,[.ret [rD 500000 .bool,lI 77 1] []],fun c v=>bX c.1 v.2.2.1 c.2.2.2.2.1 v.2.1⟩ []
def dd(t:XT)(p aC:Int):Option (Int×Unit):=
 bif decide (p<(t.length:Int)) then
  (bC t p).bind fun x1=>
  some (x1.2.1,())
 else
  some (aC,())
def fD:Cl a8:=lB ⟨[],[],[]⟩ 61 f61 func61 call61 [500000] ⟨⟨28,[(77,7)],[lD 77 0 sT,lI 77 1,lI 77 2,lF 77 3 tN,lI 77 4,lI 77 5,lI 77 6],[rP 0 77],[]⟩,[.ret [rI 500000] []],fun c v=>dd c.1 c.2.1 c.2.2.1⟩ []
def jg(t:XT)(p Code k1:Int):Option (Bool×Unit):=
 aa (fun(v:Bool)=>
  aa (fun(v2:Bool)=>
   some (v2,())) fun iR=>
  bif v then
   (bC t p).bind fun x1=>
   iR (x1.1==k1)
  else
   iR false) fun cv=>
 bif Code==0 then
  cv (decide (p<(t.length:Int)))
 else
  cv false
def nK:Cl a8:=lB ⟨[],[],[]⟩ 96 f96 func96 call96 [500000] ⟨⟨38,[(77,7)],[lD 77 0 sT,lI 77 1,lI 77 2,lF 77 3 tN,lI 77 4,lI 77 5,lI 77 6],[rP 0 77,rI 1],[]⟩,[.ret [rD 500000 .bool] []],fun c v=>jg c.1 c.2.1 c.2.2.2.2.2.1 v.2.1⟩ []
def jf(t:XT)(p aC Code At code:Int):Option (Int×Int×Unit):=
 bif Code==0 then
  (dd t p aC).bind fun r1=>
  some (code,r1.1,())
 else
  some (Code,At,())
def nJ:Cl a8:=lB ⟨[fD],[],[]⟩ 97 f97 func97 call97 [] ⟨⟨17,[(77,7)],[lD 77 0 sT,lI 77 1,lI 77 2,lF 77 3 tN,lI 77 4],[rP 0 77,rI 1,lI 77 5,lI 77 6],[]⟩,[.ret [lI 77 5,lI 77 6] []],fun c v=>jf c.1 c.2.1 c.2.2.1 v.2.2.1 v.2.2.2.1 v.2.1⟩ []
def dD(t:XT)(p aC Code At:Int):Option (ab×Int×Int×Int×Unit):=
 (jg t p Code 1).bind fun r1=>
 bif !r1.1 then
  (jf t p aC Code At 6).bind fun r2=>
  some (([]:ab),p,r2.1,r2.2.1,())
 else
  (bC t (bh ((bh (p+1)) - 1))).bind fun x1=>
  some (x1.2.2.1,(bh (p+1)),Code,At,())
def jp:Cl a8:=lB ⟨[nK,nJ],[],[]⟩ 62 f62 func62 call62 [500000] ⟨⟨28,[(77,7)],[lD 77 0 sT,lI 77 2,lF 77 3 tN,lI 77 4],[rP 0 77,lI 77 1,lI 77 5,lI 77 6],[]⟩,[.ret [rD 500000 .str,lI 77 1,lI 77 5,lI 77 6] []],fun c v=>dD c.1 v.2.1 c.2.1 v.2.2.1 v.2.2.2.1⟩ []
def aK(t:XT)(p aC Code At:Int)(bB:ab):Option (Int×Int×Int×Unit):=
 (bX t p Code bB).bind fun r1=>
 bif !r1.1 then
  (jf t r1.2.1 aC Code At 6).bind fun r2=>
  some (r1.2.1,r2.1,r2.2.1,())
 else
  some (r1.2.1,Code,At,())
def jo:Cl a8:=lB ⟨[jq,nJ],[],[]⟩ 63 f63 func63 call63 [] ⟨⟨10,[(77,7)],[lD 77 0 sT,lI 77 2,lF 77 3 tN,lI 77 4],[rP 0 77,rD 1 .str,lI 77 1,lI 77 5,lI 77 6],[]⟩,[.ret [lI 77 1,lI 77 5,lI 77 6] []],fun c v=>aK c.1 v.2.2.1 c.2.1 v.2.2.2.1 v.2.2.2.2.1 v.2.1⟩ []
def mh(t:XT)(p aC Code At:Int):Option (Int×Int×Int×Int×Unit):=
 (jg t p Code 2).bind fun r1=>
 bif !r1.1 then
  (jf t p aC Code At 6).bind fun r2=>
  some (0,p,r2.1,r2.2.1,())
 else
  (bC t (bh ((bh (p+1)) - 1))).bind fun x1=>
  some (x1.2.2.2,(bh (p+1)),Code,At,())
def zO:Cl a8:=lB ⟨[nK,nJ],[],[]⟩ 64 f64 func64 call64 [500000] ⟨⟨28,[(77,7)],[lD 77 0 sT,lI 77 2,lF 77 3 tN,lI 77 4],[rP 0 77,lI 77 1,lI 77 5,lI 77 6],[]⟩,[.ret [rI 500000,lI 77 1,lI 77 5,lI 77 6] []],fun c v=>mh c.1 v.2.1 c.2.1 v.2.2.1 v.2.2.2.1⟩ []
def aQ(ay:XN)(Code:Int)(n:Int×Int×Int×ab×XI):Option (Int×XN×Unit):=
 bif Code != 0 then
  some (0,ay,())
 else
  (bD ay ([n])).bind fun l=>
  some ((bh ((l.length:Int) - 1)),l,())
def eO:Cl a8:=lB ⟨[],[],[(3,47)]⟩ 65 f65 func65 call65 [500000] ⟨⟨27,[(77,7)],[lD 77 0 sT,lI 77 1,lI 77 2,lI 77 4,lI 77 5,lI 77 6],[rP 0 77,rD 1 tN,lF 77 3 tN],[]⟩,[.ret [rI 500000,lF 77 3 tN] []],fun c v=>aQ v.2.2.1 c.2.2.2.2.1 v.2.1⟩ []
def iD(t:XT)(p aC bx Code At:Int):Option (Bool×Int×Int×Int×Unit):=
 aa (fun(jv:Int×Int)=>
  some ((jv.1)==0,(bh (bx+1)),(jv.1),(jv.2),())) fun cv=>
 bif decide ((bh (bx+1)) > 10) then
  (jf t p aC Code At 7).bind fun r1=>
  cv (r1.1,r1.2.1)
 else
  cv (Code,At)
def pL:Cl a8:=lB ⟨[nJ],[],[]⟩ 98 f98 func98 call98 [500000] ⟨⟨24,[(77,7)],[lD 77 0 sT,lI 77 1,lI 77 2,lF 77 3 tN],[rP 0 77,lI 77 4,lI 77 5,lI 77 6],[]⟩,[.ret [rD 500000 .bool,lI 77 4,lI 77 5,lI 77 6] []],fun c v=>iD c.1 c.2.1 c.2.2.1 v.2.1 v.2.2.1 v.2.2.2.1⟩ []
def cV(q:Nat):Nat→XT→Int→Int→Int→XN→Int→Int→XI→Option (Int×XN×Int×Int×XI×Unit)
 |0,_,_,_,_,_,_,_,_=>none
 |k+1,t3,XZ,k2,p3,EL,Iq,At3,uz=>
  (bX t3 p3 Iq ([44]:ab)).bind fun r7=>
  bif r7.1 then
   (dd t3 r7.2.1 XZ).bind fun r8=>
   (dD t3 r7.2.1 XZ Iq At3).bind fun r9=>
   (aQ EL r9.2.2.1 (k2,r8.1,0,r9.1,[])).bind fun kz=>
   (bD uz ([kz.1])).bind fun l2=>
   cV q k t3 XZ k2 r9.2.1 kz.2.1 r9.2.2.1 r9.2.2.2.1 l2
  else
   some (r7.2.1,EL,Iq,At3,uz,())
def cU(q:Nat):Nat→XT→Int→Int→XN→Int→Int→XI→Option (Int×XN×Int×Int×XI×Unit)
 |0,_,_,_,_,_,_,_=>none
 |k+1,t2,fN,p2,bY,ic,Ie,out=>
  (fw t2 p2 ic ([118,97,114]:ab)).bind fun r1=>
  aa (fun(v:Bool)=>
   bif v then
    aa (fun(k1:Int)=>
     (dd t2 (bh (p2+1)) fN).bind fun r4=>
     (dD t2 (bh (p2+1)) fN ic Ie).bind fun r5=>
     (aQ bY r5.2.2.1 (k1,r4.1,0,r5.1,[])).bind fun r6=>
     (bD out ([r6.1])).bind fun l=>
     (cV q q t2 fN k1 r5.2.1 r6.2.1 r5.2.2.1 r5.2.2.2.1 l).bind fun o=>
     (aK t2 o.1 fN o.2.2.1 o.2.2.2.1 ([59]:ab)).bind fun r7=>
     cU q k t2 fN r7.1 o.2.1 r7.2.1 r7.2.2.1 o.2.2.2.2.1) fun iR=>
    (fw t2 p2 ic ([114,101,102]:ab)).bind fun r3=>
    bif r3.1 then
     iR 7
    else
     iR 6
   else
    some (p2,bY,ic,Ie,out,())) fun cv=>
  bif r1.1 then
   cv true
  else
   (fw t2 p2 ic ([114,101,102]:ab)).bind fun r2=>
   cv r2.1
def pU(k:Nat)(t:XT)(p aC:Int)(ay:XN)(Code At:Int):Option (XI×Int×XN×Int×Int×Unit):=
 (cU k k t aC p ay Code At []).bind fun o=>
 some (o.2.2.2.2.1,o.1,o.2.1,o.2.2.1,o.2.2.2.1,())
def wo(k:Nat):mn:=⟨⟨55,[(77,7)],[lD 77 0 sT,lI 77 2,lI 77 4,rP 0 77,rI 4],[lI 77 1,lF 77 3 tN,lI 77 5,lI 77 6,(.r 3,.h .dV I)],[]⟩,[.ex (.exit 2) [lI 77 1,lF 77 3 tN,lI 77 5,lI 77 6,(.r 3,.h .dV I)]],fun q c v=>cV k q c.1 c.2.1 c.2.2.2.2.1 v.1 v.2.1 v.2.2.1 v.2.2.2.1 v.2.2.2.2.1⟩
def wn(k:Nat):mn:=⟨⟨55,[(77,7)],[lD 77 0 sT,lI 77 2,lI 77 4,rP 0 77],[lI 77 1,lF 77 3 tN,lI 77 5,lI 77 6,(.r 3,.h .dV I)],[]⟩,[.ex (.exit 0) [lI 77 1,lF 77 3 tN,lI 77 5,lI 77 6,(.r 3,.h .dV I)]],fun q c v=>cU k q c.1 c.2.1 v.1 v.2.1 v.2.2.1 v.2.2.2.1 v.2.2.2.2.1⟩
def t7(k:Nat):Ev a8:=⟨[jq,fD,jp,jo,eO,mG],[lp 2 (wo k) k,lp 0 (wn k) k],[]⟩
def DV(k q:Nat):Cd a8:=nV (t7 k) f99 2 (wo k) q []
def DU(k q:Nat):Cd a8:=nV (t7 k) f99 0 (wn k) q [DV k k]
def IL(k:Nat):Cl a8:=lB (t7 k) 99 f99 func99 call99 [500000] ⟨⟨55,[(77,7)],[lD 77 0 sT,lI 77 2,lI 77 4],[rP 0 77,lI 77 1,lF 77 3 tN,lI 77 5,lI 77 6],[]⟩,[.ret [(.r 500000,.h .dV I),lI 77 1,lF 77 3 tN,lI 77 5,lI 77 6] []],fun c v=>pU k c.1 v.2.1 c.2.1 v.2.2.1 v.2.2.2.1 v.2.2.2.2.1⟩ [DU k k]
def vI(xR:ab)(wu:Int):Option (Int×Unit):=
 aa (fun(v:Bool)=>
  bif v then
   some (7,())
  else
   aa (fun(v2:Bool)=>
    bif v2 then
     some (8,())
    else
     aa (fun(v3:Bool)=>
      bif v3 then
       some (6,())
      else
       aa (fun(v4:Bool)=>
        bif v4 then
         some (9,())
        else
         aa (fun(v5:Bool)=>
          bif v5 then
           some (10,())
          else
           aa (fun(v6:Bool)=>
            bif v6 then
             some (1,())
            else
             aa (fun(v7:Bool)=>
              bif v7 then
               some (2,())
              else
               aa (fun(v8:Bool)=>
                bif v8 then
                 some (11,())
                else
                 aa (fun(v9:Bool)=>
                  bif v9 then
                   some (12,())
                  else
                   aa (fun(v10:Bool)=>
                    bif v10 then
                     some (3,())
                    else
                     aa (fun(v11:Bool)=>
                      bif v11 then
                       some (4,())
                      else
                       aa (fun(v12:Bool)=>
                        bif v12 then
                         some (5,())
                        else
                         aa (fun(v13:Bool)=>
                          bif v13 then
                           some (13,())
                          else
                           some (0,())) fun Z7=>
                         bif wu==6 then
                          Z7 (xR==([42,37]:ab))
                         else
                          Z7 false) fun Z6=>
                       bif wu==6 then
                        Z6 (xR==([37]:ab))
                       else
                        Z6 false) fun Z5=>
                     bif wu==6 then
                      Z5 (xR==([47]:ab))
                     else
                      Z5 false) fun TN=>
                   bif wu==6 then
                    TN (xR==([42]:ab))
                   else
                    TN false) fun jx9=>
                 bif wu==5 then
                  jx9 (xR==([45,37]:ab))
                 else
                  jx9 false) fun jx8=>
               bif wu==5 then
                jx8 (xR==([43,37]:ab))
               else
                jx8 false) fun jx7=>
             bif wu==5 then
              jx7 (xR==([45]:ab))
             else
              jx7 false) fun jx6=>
           bif wu==5 then
            jx6 (xR==([43]:ab))
           else
            jx6 false) fun jx5=>
         bif wu==4 then
          jx5 (xR==([62,62]:ab))
         else
          jx5 false) fun jx4=>
       bif wu==4 then
        jx4 (xR==([60,60]:ab))
       else
        jx4 false) fun uR=>
     bif wu==3 then
      uR (xR==([38]:ab))
     else
      uR false) fun iR=>
   bif wu==2 then
    iR (xR==([94]:ab))
   else
    iR false) fun cv=>
 bif wu==1 then
  cv (xR==([124]:ab))
 else
  cv false
theorem lvl{P:Int→Prop}(h0:P 0)(h1:P 1)(h2:P 2)(h3:P 3)(h4:P 4)(h5:P 5)(h6:P 6)(hn:∀ n:Nat,P (.ofNat (n+7)))(hm:∀ n:Nat,P (.negSucc n)):∀ l,P l
 |.ofNat 0=>h0 | .ofNat 1=>h1 | .ofNat 2=>h2 | .ofNat 3=>h3 | .ofNat 4=>h4 | .ofNat 5=>h5 | .ofNat 6=>h6 | .ofNat (n+7)=>hn n | .negSucc n=>hm n
def UZ:Ev a8:=⟨[],[],[]⟩
def Tf:Cl a8:=wD UZ 150 f150 func150 call150 [.str,I] [I] (fun d=>vI d.1 d.2.1) [] (h:=fun d=>lvl (P:=fun l=>∀ s,vI s l=tx UZ.e (rL f150) (stD f150.ntmps [.str,I] (s,l,())) (kD UZ.e f150.results.toList [I]) (fun _ _=>none)) (fun s=>by kernel_rfl) (fun s=>by kernel_rfl) (fun s=>by kernel_rfl) (fun s=>by kernel_rfl) (fun s=>by kernel_rfl) (fun s=>by kernel_rfl) (fun s=>by kernel_rfl) (fun n s=>by kernel_rfl) (fun n s=>by kernel_rfl) d.2.1 d.1)
def mM(t:XT)(p Code:Int):Option (ab×Unit):=
 (jg t p Code 4).bind fun r1=>
 bif r1.1 then
  (bC t p).bind fun x1=>
  some (x1.2.2.1,())
 else
  some (([]:ab),())
def Dc:Cl a8:=lB ⟨[nK],[],[]⟩ 151 f151 func151 call151 [500000] ⟨⟨16,[(77,7)],[lD 77 0 sT,lI 77 1,lI 77 2,lF 77 3 tN,lI 77 4,lI 77 5,lI 77 6],[rP 0 77],[]⟩,[.ret [rD 500000 .str] []],fun c v=>mM c.1 c.2.1 c.2.2.2.2.2.1⟩ []
end
end Go.Fx.R5
namespace Go.Fx.R5
open Go Go.Fx Go.Proofs Go.Proofs.Tryz
noncomputable section
abbrev jC:=XT→Int→Int→XN→Int→Int→Int→Int→Option (Int×Int×XN×Int×Int×Int×Unit)
def qW(f:jC):CV:=⟨⟨57,[(77,7)],[lD 77 0 sT,lI 77 2],[rP 0 77,rI 1,lI 77 1,lF 77 3 tN,lI 77 4,lI 77 5,lI 77 6],[]⟩,[.ret [rI 500000,lI 77 1,lF 77 3 tN,lI 77 4,lI 77 5,lI 77 6] []],fun c v=>f c.1 v.2.2.1 c.2.1 v.2.2.2.1 v.2.2.2.2.1 v.2.2.2.2.2.1 v.2.2.2.2.2.2.1 v.2.1⟩
def A9(f:jC):iF:=lZ (qW f).L (qW f).F (zQ [500000] (qW f).V)
abbrev jD:=XT→Int→Int→XN→Int→Int→Int→Option (Int×Int×XN×Int×Int×Int×Unit)
def qX(f:jD):CV:=⟨⟨36,[(77,7)],[lD 77 0 sT,lI 77 2],[rP 0 77,lI 77 1,lF 77 3 tN,lI 77 4,lI 77 5,lI 77 6],[]⟩,[.ret [rI 500000,lI 77 1,lF 77 3 tN,lI 77 4,lI 77 5,lI 77 6] []],fun c v=>f c.1 v.2.1 c.2.1 v.2.2.1 v.2.2.2.1 v.2.2.2.2.1 v.2.2.2.2.2.1⟩
def Ba(f:jD):iF:=lZ (qX f).L (qX f).F (zQ [500000] (qX f).V)
abbrev iv:=XT→Int→Int→XN→Int→Int→Int→Option (Int×Int×XN×Int×Int×Int×Unit)
def pm(f:iv):CV:=⟨⟨78,[(77,7)],[lD 77 0 sT,lI 77 2],[rP 0 77,lI 77 1,lF 77 3 tN,lI 77 4,lI 77 5,lI 77 6],[]⟩,[.ret [rI 500000,lI 77 1,lF 77 3 tN,lI 77 4,lI 77 5,lI 77 6] []],fun c v=>f c.1 v.2.1 c.2.1 v.2.2.1 v.2.2.2.1 v.2.2.2.2.1 v.2.2.2.2.2.1⟩
def yv(f:iv):iF:=lZ (pm f).L (pm f).F (zQ [500000] (pm f).V)
def fy(cj:jC)(cH:jD)(cD:iv)(q:Nat):Nat→XT→Int→Int→Int→XN→Int→Int→Int→Int→Option (Int×XN×Int×Int×Int×Int×Unit)
 |0,_,_,_,_,_,_,_,_,_=>none
 |k+1,t2,fN,n2,p2,bY,kW,ic,Ie,x1=>
  aa (fun(v:Bool)=>
   bif v then
    (dd t2 p2 fN).bind fun r5=>
    (mM t2 p2 ic).bind fun r6=>
    (vI r6.1 n2).bind fun r7=>
    (cj t2 (bh (p2+1)) fN bY kW ic Ie (bh (n2+1))).bind fun r8=>
    (aQ r8.2.2.1 r8.2.2.2.2.1 (28,r5.1,r7.1,([]:ab),[x1,r8.1])).bind fun r9=>
    fy cj cH cD q k t2 fN n2 r8.2.1 r9.2.1 r8.2.2.2.1 r8.2.2.2.2.1 r8.2.2.2.2.2.1 r9.1
   else
    some (p2,bY,kW,ic,Ie,x1,())) fun cv=>
  bif ic==0 then
   (mM t2 p2 ic).bind fun r3=>
   (vI r3.1 n2).bind fun r4=>
   cv (r4.1 != 0)
  else
   cv false
def gV(cj:jC)(cH:jD)(cD:iv)(k:Nat)(t:XT)(p aC:Int)(ay:XN)(bx Code At n:Int):Option (Int×Int×XN×Int×Int×Int×Unit):=
 bif decide (n > 6) then
  (cH t p aC ay bx Code At).bind fun r1=>
  some (r1.1,r1.2.1,r1.2.2.1,r1.2.2.2.1,r1.2.2.2.2.1,r1.2.2.2.2.2.1,())
 else
  (cj t p aC ay bx Code At (bh (n+1))).bind fun r2=>
  (fy cj cH cD k k t aC n r2.2.1 r2.2.2.1 r2.2.2.2.1 r2.2.2.2.2.1 r2.2.2.2.2.2.1 r2.1).bind fun o=>
  some (o.2.2.2.2.2.1,o.1,o.2.1,o.2.2.1,o.2.2.2.1,o.2.2.2.2.1,())
def iM(cj:jC)(cH:jD)(cD:iv)(k:Nat)(t:XT)(p aC:Int)(ay:XN)(bx Code At:Int):Option (Int×Int×XN×Int×Int×Int×Unit):=
 (dd t p aC).bind fun r1=>
 (bX t p Code ([45]:ab)).bind fun r2=>
 bif r2.1 then
  (iD t r2.2.1 aC bx Code At).bind fun r3=>
  bif !r3.1 then
   some (0,r2.2.1,ay,r3.2.1,r3.2.2.1,r3.2.2.2.1,())
  else
   (aQ ay r3.2.2.1 (24,r1.1,0,([]:ab),[])).bind fun r4=>
   (cH t r2.2.1 aC r4.2.1 r3.2.1 r3.2.2.1 r3.2.2.2.1).bind fun r5=>
   (aQ r5.2.2.1 r5.2.2.2.2.1 (28,r1.1,2,([]:ab),[r4.1,r5.1])).bind fun r6=>
   some (r6.1,r5.2.1,r6.2.1,(bh (r5.2.2.2.1 - 1)),r5.2.2.2.2.1,r5.2.2.2.2.2.1,())
 else
  (cD t r2.2.1 aC ay bx Code At).bind fun r7=>
  some (r7.1,r7.2.1,r7.2.2.1,r7.2.2.2.1,r7.2.2.2.2.1,r7.2.2.2.2.2.1,())
def cE(cj:jC)(cH:jD)(cD:iv)(k:Nat)(t:XT)(p aC:Int)(ay:XN)(bx Code At:Int):Option (Int×Int×XN×Int×Int×Int×Unit):=
 (dd t p aC).bind fun r1=>
 (jg t p Code 2).bind fun r2=>
 bif r2.1 then
  (mh t p aC Code At).bind fun r3=>
  (aQ ay r3.2.2.1 (24,r1.1,r3.1,([]:ab),[])).bind fun r4=>
  some (r4.1,r3.2.1,r4.2.1,bx,r3.2.2.1,r3.2.2.2.1,())
 else
  (bX t p Code ([40]:ab)).bind fun r5=>
  bif r5.1 then
   (iD t r5.2.1 aC bx Code At).bind fun r6=>
   bif !r6.1 then
    some (0,r5.2.1,ay,r6.2.1,r6.2.2.1,r6.2.2.2.1,())
   else
    (cj t r5.2.1 aC ay r6.2.1 r6.2.2.1 r6.2.2.2.1 1).bind fun r7=>
    (aK t r7.2.1 aC r7.2.2.2.2.1 r7.2.2.2.2.2.1 ([41]:ab)).bind fun r8=>
    some (r7.1,r8.1,r7.2.2.1,(bh (r7.2.2.2.1 - 1)),r8.2.1,r8.2.2.1,())
  else
   (bX t r5.2.1 Code ([42]:ab)).bind fun r9=>
   bif r9.1 then
    (dD t r9.2.1 aC Code At).bind fun kz=>
    (aQ ay kz.2.2.1 (27,r1.1,0,kz.1,[])).bind fun n8=>
    some (n8.1,kz.2.1,n8.2.1,bx,kz.2.2.1,kz.2.2.2.1,())
   else
    (dD t r9.2.1 aC Code At).bind fun o7=>
    (bX t o7.2.1 o7.2.2.1 ([91]:ab)).bind fun pX=>
    bif pX.1 then
     (iD t pX.2.1 aC bx o7.2.2.1 o7.2.2.2.1).bind fun rV=>
     bif !rV.1 then
      some (0,pX.2.1,ay,rV.2.1,rV.2.2.1,rV.2.2.2.1,())
     else
      (cj t pX.2.1 aC ay rV.2.1 rV.2.2.1 rV.2.2.2.1 1).bind fun qS=>
      (aK t qS.2.1 aC qS.2.2.2.2.1 qS.2.2.2.2.2.1 ([93]:ab)).bind fun tf=>
      (aQ qS.2.2.1 tf.2.1 (26,r1.1,0,o7.1,[qS.1])).bind fun vA=>
      some (vA.1,tf.1,vA.2.1,(bh (qS.2.2.2.1 - 1)),tf.2.1,tf.2.2.1,())
    else
     (aQ ay o7.2.2.1 (25,r1.1,0,o7.1,[])).bind fun rS=>
     some (rS.1,pX.2.1,rS.2.1,bx,o7.2.2.1,o7.2.2.2.1,())
def ey:Nat→jC×jD×iv
 |0=>(fun _ _ _ _ _ _ _ _=>none,fun _ _ _ _ _ _ _=>none,fun _ _ _ _ _ _ _=>none)
 |k+1=>(gV (ey k).1 (ey k).2.1 (ey k).2.2 k,iM (ey k).1 (ey k).2.1 (ey k).2.2 k,cE (ey k).1 (ey k).2.1 (ey k).2.2 k)
def am(k:Nat):jC:=(ey k).1
def iz(k:Nat):jD:=(ey k).2.1
def gW(k:Nat):iv:=(ey k).2.2
section
variable (cj:Gd a8 120 A9) (cH:Gd a8 149 Ba) (cD:Gd a8 160 yv)
def xu(k:Nat):mn:=⟨⟨57,[(77,7)],[lD 77 0 sT,lI 77 2,rP 0 77,rI 1],[lI 77 1,lF 77 3 tN,lI 77 4,lI 77 5,lI 77 6,rI 5],[]⟩,[.ex (.exit 0) [lI 77 1,lF 77 3 tN,lI 77 4,lI 77 5,lI 77 6,rI 5]],fun q c v=>fy cj.1 cH.1 cD.1 k q c.1 c.2.1 c.2.2.2.1 v.1 v.2.1 v.2.2.1 v.2.2.2.1 v.2.2.2.2.1 v.2.2.2.2.2.1⟩
def A0(k:Nat):Ev a8:=⟨[fD,eO,cj.cl,cH.cl,Tf,Dc],[lp 0 (xu cj cH cD k) k],[]⟩
def FU(k q:Nat):Cd a8:=nV (A0 cj cH cD k) f120 0 (xu cj cH cD k) q []
def Kj(k:Nat):Cl a8:=lB (A0 cj cH cD k) 120 f120 func120 call120 [500000] (qW (gV cj.1 cH.1 cD.1 k)) [FU cj cH cD k k]
def Kk(k:Nat):Cl a8:=lB ⟨[jq,fD,eO,pL,cH.cl,cD.cl],[],[]⟩ 149 f149 func149 call149 [500000] (qX (iM cj.1 cH.1 cD.1 k)) []
def HJ(k:Nat):Cl a8:=lB ⟨[jq,fD,jp,jo,zO,eO,nK,pL,cj.cl],[],[]⟩ 160 f160 func160 call160 [500000] (pm (cE cj.1 cH.1 cD.1 k)) []
end
theorem nB:∀ k,kZ prog gt 120 (A9 (am k))∧kZ prog gt 149 (Ba (iz k))∧kZ prog gt 160 (yv (gW k))
 |0=>⟨cP (fun _ _=>rfl),cP (fun _ _=>rfl),cP (fun _ _=>rfl)⟩
 |k+1=>have ih:=nB k;⟨(Kj ⟨_,ih.1⟩ ⟨_,ih.2.1⟩ ⟨_,ih.2.2⟩ k).ok,(Kk ⟨_,ih.1⟩ ⟨_,ih.2.1⟩ ⟨_,ih.2.2⟩ k).ok,(HJ ⟨_,ih.1⟩ ⟨_,ih.2.1⟩ ⟨_,ih.2.2⟩ k).ok⟩
def rh(k:Nat):Cl a8:=⟨_,_,(nB k).1⟩
def XU(k:Nat):Cl a8:=⟨_,_,(nB k).2.1⟩
def U9(k:Nat):Cl a8:=⟨_,_,(nB k).2.2⟩
def oc(t:XT)(p aC:Int)(ay:XN)(Code At:Int):Option (Int×Int×XN×Int×Int×Unit):=
 (dd t p aC).bind fun r1=>
 (dD t p aC Code At).bind fun r2=>
 (aQ ay r2.2.2.1 (23,r1.1,0,r2.1,[])).bind fun r3=>
 some (r3.1,r2.2.1,r3.2.1,r2.2.2.1,r2.2.2.2.1,())
def Na:Cl a8:=lB ⟨[fD,jp,eO],[],[]⟩ 146 f146 func146 call146 [500000] ⟨⟨14,[(77,7)],[lD 77 0 sT,lI 77 2,lI 77 4],[rP 0 77,lI 77 1,lF 77 3 tN,lI 77 5,lI 77 6],[]⟩,[.ret [rI 500000,lI 77 1,lF 77 3 tN,lI 77 5,lI 77 6] []],fun c v=>oc c.1 v.2.1 c.2.1 v.2.2.1 v.2.2.2.1 v.2.2.2.2.1⟩ []
def vT(t:XT)(p:Int)(bB:ab):Option (Bool×Unit):=
 aa (fun(v:Bool)=>
  aa (fun(v2:Bool)=>
   some (v2,())) fun iR=>
  bif v then
   (bC t (bh (p+1))).bind fun x2=>
   iR (x2.1==4)
  else
   iR false) fun cv=>
 bif decide ((bh (p+1))<(t.length:Int)) then
  (bC t (bh (p+1))).bind fun x1=>
  cv (x1.2.2.1==bB)
 else
  cv false
def LJ:Cl a8:=lB ⟨[],[],[]⟩ 147 f147 func147 call147 [500000] ⟨⟨47,[(77,7)],[lD 77 0 sT,lI 77 1,lI 77 2,lF 77 3 tN,lI 77 4,lI 77 5,lI 77 6],[rP 0 77,rD 1 .str],[]⟩,[.ret [rD 500000 .bool] []],fun c v=>vT c.1 c.2.1 v.2.1⟩ []
def bt(q:Nat):Nat→XT→Int→Int→XN→Int→Int→Int→XI→Option (Int×XN×Int×Int×Int×XI×Unit)
 |0,_,_,_,_,_,_,_,_=>none
 |k+1,t2,fN,p2,bY,kW,ic,Ie,cG=>
  aa (fun(v2:Bool)=>
   bif v2 then
    aa (fun(jv:Int×Int×Int)=>
     (am q t2 (jv.1) fN bY kW (jv.2.1) (jv.2.2) 1).bind fun r28=>
     (bD cG ([r28.1])).bind fun l=>
     bt q k t2 fN r28.2.1 r28.2.2.1 r28.2.2.2.1 r28.2.2.2.2.1 r28.2.2.2.2.2.1 l) fun iR=>
    bif decide ((cG.length:Int) > 1) then
     (aK t2 p2 fN ic Ie ([44]:ab)).bind fun r27=>
     iR (r27.1,r27.2.1,r27.2.2.1)
    else
     iR (p2,ic,Ie)
   else
    some (p2,bY,kW,ic,Ie,cG,())) fun cv=>
  bif ic==0 then
   (fw t2 p2 ic ([41]:ab)).bind fun r26=>
   cv (!r26.1)
  else
   cv false
def dY(k:Nat)(t:XT)(p aC:Int)(ay:XN)(bx Code At:Int):Option (Int×Int×XN×Int×Int×Int×Unit):=
 (dd t p aC).bind fun r1=>
 (dD t p aC Code At).bind fun r2=>
 (bX t r2.2.1 r2.2.2.1 ([91]:ab)).bind fun r3=>
 bif r3.1 then
  (am k t r3.2.1 aC ay bx r2.2.2.1 r2.2.2.2.1 1).bind fun r4=>
  (aK t r4.2.1 aC r4.2.2.2.2.1 r4.2.2.2.2.2.1 ([93]:ab)).bind fun r5=>
  (aK t r5.1 aC r5.2.1 r5.2.2.1 ([61]:ab)).bind fun r6=>
  (am k t r6.1 aC r4.2.2.1 r4.2.2.2.1 r6.2.1 r6.2.2.1 1).bind fun r7=>
  (aK t r7.2.1 aC r7.2.2.2.2.1 r7.2.2.2.2.2.1 ([59]:ab)).bind fun r8=>
  (aQ r7.2.2.1 r8.2.1 (10,r1.1,0,r2.1,[r4.1,r7.1])).bind fun r9=>
  some (r9.1,r8.1,r9.2.1,r7.2.2.2.1,r8.2.1,r8.2.2.1,())
 else
  (bX t r3.2.1 r2.2.2.1 ([43,61]:ab)).bind fun kz=>
  bif kz.1 then
   (am k t kz.2.1 aC ay bx r2.2.2.1 r2.2.2.2.1 1).bind fun n8=>
   (aK t n8.2.1 aC n8.2.2.2.2.1 n8.2.2.2.2.2.1 ([59]:ab)).bind fun o7=>
   (aQ n8.2.2.1 o7.2.1 (13,r1.1,0,r2.1,[n8.1])).bind fun pX=>
   some (pX.1,o7.1,pX.2.1,n8.2.2.2.1,o7.2.1,o7.2.2.1,())
  else
   (aK t kz.2.1 aC r2.2.2.1 r2.2.2.2.1 ([61]:ab)).bind fun rV=>
   (bX t rV.1 rV.2.1 ([38]:ab)).bind fun qS=>
   bif qS.1 then
    (oc t qS.2.1 aC ay rV.2.1 rV.2.2.1).bind fun tf=>
    (aK t tf.2.1 aC tf.2.2.2.1 tf.2.2.2.2.1 ([91]:ab)).bind fun vA=>
    (am k t vA.1 aC tf.2.2.1 bx vA.2.1 vA.2.2.1 1).bind fun rS=>
    (aK t rS.2.1 aC rS.2.2.2.2.1 rS.2.2.2.2.2.1 ([93]:ab)).bind fun qT=>
    (aK t qT.1 aC qT.2.1 qT.2.2.1 ([59]:ab)).bind fun vB=>
    (aQ rS.2.2.1 vB.2.1 (12,r1.1,0,r2.1,[tf.1,rS.1])).bind fun zg=>
    some (zg.1,vB.1,zg.2.1,rS.2.2.2.1,vB.2.1,vB.2.2.1,())
   else
    (jg t qS.2.1 rV.2.1 1).bind fun KK=>
    aa (fun(v:Bool)=>
     bif v then
      (oc t qS.2.1 aC ay rV.2.1 rV.2.2.1).bind fun JO=>
      (aK t JO.2.1 aC JO.2.2.2.1 JO.2.2.2.2.1 ([40]:ab)).bind fun r25=>
      (bt k k t aC r25.1 JO.2.2.1 bx r25.2.1 r25.2.2.1 ([JO.1])).bind fun o=>
      (aK t o.1 aC o.2.2.2.1 o.2.2.2.2.1 ([41]:ab)).bind fun r26=>
      (aK t r26.1 aC r26.2.1 r26.2.2.1 ([59]:ab)).bind fun r27=>
      (aQ o.2.1 r27.2.1 (22,r1.1,0,r2.1,o.2.2.2.2.2.1)).bind fun r28=>
      some (r28.1,r27.1,r28.2.1,o.2.2.1,r27.2.1,r27.2.2.1,())
     else
      aa (fun(jv:Int×Int×XN×Int×Int×Int)=>
       (aK t (jv.2.1) aC (jv.2.2.2.2.1) (jv.2.2.2.2.2) ([59]:ab)).bind fun r33=>
       (aQ (jv.2.2.1) r33.2.1 (9,r1.1,0,r2.1,[(jv.1)])).bind fun r34=>
       some (r34.1,r33.1,r34.2.1,(jv.2.2.2.1),r33.2.1,r33.2.2.1,())) fun iR=>
      (fw t qS.2.1 rV.2.1 ([110,117,108,108]:ab)).bind fun r29=>
      bif r29.1 then
       (dd t qS.2.1 aC).bind fun r30=>
       (aQ ay rV.2.1 (29,r30.1,0,([]:ab),[])).bind fun r31=>
       iR (r31.1,(bh (qS.2.1+1)),r31.2.1,bx,rV.2.1,rV.2.2.1)
      else
       (am k t qS.2.1 aC ay bx rV.2.1 rV.2.2.1 1).bind fun r32=>
       iR (r32.1,r32.2.1,r32.2.2.1,r32.2.2.2.1,r32.2.2.2.2.1,r32.2.2.2.2.2.1)) fun cv=>
    bif KK.1 then
     (vT t qS.2.1 ([40]:ab)).bind fun Jx=>
     cv Jx.1
    else
     cv false
def xv(k:Nat):mn:=⟨⟨139,[(77,7)],[lD 77 0 sT,lI 77 2,rP 0 77,rI 3,rD 4 .str],[lI 77 1,lF 77 3 tN,lI 77 4,lI 77 5,lI 77 6,(.r 10,.h .dV I)],[]⟩,[.ex (.exit 0) [lI 77 1,lF 77 3 tN,lI 77 4,lI 77 5,lI 77 6,(.r 10,.h .dV I)]],fun q c v=>bt k q c.1 c.2.1 v.1 v.2.1 v.2.2.1 v.2.2.2.1 v.2.2.2.2.1 v.2.2.2.2.2.1⟩
def A3(k:Nat):Ev a8:=⟨[jq,fD,jp,jo,eO,mG,nK,rh k,Na,LJ],[lp 0 (xv k) k],[]⟩
def FV(k q:Nat):Cd a8:=nV (A3 k) f118 0 (xv k) q []
def J5(k:Nat):Cl a8:=lB (A3 k) 118 f118 func118 call118 [500000] ⟨⟨139,[(77,7)],[lD 77 0 sT,lI 77 2],[rP 0 77,lI 77 1,lF 77 3 tN,lI 77 4,lI 77 5,lI 77 6],[]⟩,[.ret [rI 500000,lI 77 1,lF 77 3 tN,lI 77 4,lI 77 5,lI 77 6] []],fun c v=>dY k c.1 v.2.1 c.2.1 v.2.2.1 v.2.2.2.1 v.2.2.2.2.1 v.2.2.2.2.2.1⟩ [FV k k]
def CG(xR:ab):Option (Int×Unit):=
 bif xR==([61,61]:ab) then
  some (1,())
 else
  bif xR==([33,61]:ab) then
   some (2,())
  else
   bif xR==([60]:ab) then
    some (3,())
   else
    bif xR==([60,61]:ab) then
     some (4,())
    else
     bif xR==([62]:ab) then
      some (5,())
     else
      bif xR==([62,61]:ab) then
       some (6,())
      else
       some (0,())
def Rz:Cl a8:=wD ⟨[],[],[]⟩ 170 f170 func170 call170 [.str] [I] (fun d=>CG d.1) []
abbrev jk:=XT→Int→Int→XN→Int→Int→Int→Option (Int×Int×XN×Int×Int×Int×Unit)
def sM(f:jk):CV:=⟨⟨30,[(77,7)],[lD 77 0 sT,lI 77 2],[rP 0 77,lI 77 1,lF 77 3 tN,lI 77 4,lI 77 5,lI 77 6],[]⟩,[.ret [rI 500000,lI 77 1,lF 77 3 tN,lI 77 4,lI 77 5,lI 77 6] []],fun c v=>f c.1 v.2.1 c.2.1 v.2.2.1 v.2.2.2.1 v.2.2.2.2.1 v.2.2.2.2.2.1⟩
def C1(f:jk):iF:=lZ (sM f).L (sM f).F (zQ [500000] (sM f).V)
abbrev jj:=XT→Int→Int→XN→Int→Int→Int→Option (Int×Int×XN×Int×Int×Int×Unit)
def sK(f:jj):CV:=⟨⟨30,[(77,7)],[lD 77 0 sT,lI 77 2],[rP 0 77,lI 77 1,lF 77 3 tN,lI 77 4,lI 77 5,lI 77 6],[]⟩,[.ret [rI 500000,lI 77 1,lF 77 3 tN,lI 77 4,lI 77 5,lI 77 6] []],fun c v=>f c.1 v.2.1 c.2.1 v.2.2.1 v.2.2.2.1 v.2.2.2.2.1 v.2.2.2.2.2.1⟩
def C0(f:jj):iF:=lZ (sK f).L (sK f).F (zQ [500000] (sK f).V)
abbrev jl:=XT→Int→Int→XN→Int→Int→Int→Option (Int×Int×XN×Int×Int×Int×Unit)
def sO(f:jl):CV:=⟨⟨89,[(77,7)],[lD 77 0 sT,lI 77 2],[rP 0 77,lI 77 1,lF 77 3 tN,lI 77 4,lI 77 5,lI 77 6],[]⟩,[.ret [rI 500000,lI 77 1,lF 77 3 tN,lI 77 4,lI 77 5,lI 77 6] []],fun c v=>f c.1 v.2.1 c.2.1 v.2.2.1 v.2.2.2.1 v.2.2.2.2.1 v.2.2.2.2.2.1⟩
def C2(f:jl):iF:=lZ (sO f).L (sO f).F (zQ [500000] (sO f).V)
def gf(bH:jk)(bA:jj)(be:jl)(q:Nat):Nat→XT→Int→Int→XN→Int→Int→Int→Int→Option (Int×XN×Int×Int×Int×Int×Unit)
 |0,_,_,_,_,_,_,_,_=>none
 |k+1,t2,fN,p2,bY,kW,ic,Ie,x1=>
  (fw t2 p2 ic ([111,114]:ab)).bind fun r2=>
  bif r2.1 then
   (dd t2 p2 fN).bind fun r3=>
   (bA t2 (bh (p2+1)) fN bY kW ic Ie).bind fun r4=>
   (aQ r4.2.2.1 r4.2.2.2.2.1 (32,r3.1,0,([]:ab),[x1,r4.1])).bind fun r5=>
   gf bH bA be q k t2 fN r4.2.1 r5.2.1 r4.2.2.2.1 r4.2.2.2.2.1 r4.2.2.2.2.2.1 r5.1
  else
   some (p2,bY,kW,ic,Ie,x1,())
def mg(bH:jk)(bA:jj)(be:jl)(k:Nat)(t:XT)(p aC:Int)(ay:XN)(bx Code At:Int):Option (Int×Int×XN×Int×Int×Int×Unit):=
 (bA t p aC ay bx Code At).bind fun r1=>
 (gf bH bA be k k t aC r1.2.1 r1.2.2.1 r1.2.2.2.1 r1.2.2.2.2.1 r1.2.2.2.2.2.1 r1.1).bind fun o=>
 some (o.2.2.2.2.2.1,o.1,o.2.1,o.2.2.1,o.2.2.2.1,o.2.2.2.2.1,())
def gc(bH:jk)(bA:jj)(be:jl)(q:Nat):Nat→XT→Int→Int→XN→Int→Int→Int→Int→Option (Int×XN×Int×Int×Int×Int×Unit)
 |0,_,_,_,_,_,_,_,_=>none
 |k+1,t2,fN,p2,bY,kW,ic,Ie,x1=>
  (fw t2 p2 ic ([97,110,100]:ab)).bind fun r2=>
  bif r2.1 then
   (dd t2 p2 fN).bind fun r3=>
   (be t2 (bh (p2+1)) fN bY kW ic Ie).bind fun r4=>
   (aQ r4.2.2.1 r4.2.2.2.2.1 (31,r3.1,0,([]:ab),[x1,r4.1])).bind fun r5=>
   gc bH bA be q k t2 fN r4.2.1 r5.2.1 r4.2.2.2.1 r4.2.2.2.2.1 r4.2.2.2.2.2.1 r5.1
  else
   some (p2,bY,kW,ic,Ie,x1,())
def mb(bH:jk)(bA:jj)(be:jl)(k:Nat)(t:XT)(p aC:Int)(ay:XN)(bx Code At:Int):Option (Int×Int×XN×Int×Int×Int×Unit):=
 (be t p aC ay bx Code At).bind fun r1=>
 (gc bH bA be k k t aC r1.2.1 r1.2.2.1 r1.2.2.2.1 r1.2.2.2.2.1 r1.2.2.2.2.2.1 r1.1).bind fun o=>
 some (o.2.2.2.2.2.1,o.1,o.2.1,o.2.2.1,o.2.2.2.1,o.2.2.2.2.1,())
def dA(bH:jk)(bA:jj)(be:jl)(k:Nat)(t:XT)(p aC:Int)(ay:XN)(bx Code At:Int):Option (Int×Int×XN×Int×Int×Int×Unit):=
 (dd t p aC).bind fun r1=>
 (bX t p Code ([110,111,116]:ab)).bind fun r2=>
 bif r2.1 then
  (iD t r2.2.1 aC bx Code At).bind fun r3=>
  bif !r3.1 then
   some (0,r2.2.1,ay,r3.2.1,r3.2.2.1,r3.2.2.2.1,())
  else
   (be t r2.2.1 aC ay r3.2.1 r3.2.2.1 r3.2.2.2.1).bind fun r4=>
   (aQ r4.2.2.1 r4.2.2.2.2.1 (33,r1.1,0,([]:ab),[r4.1])).bind fun r5=>
   some (r5.1,r4.2.1,r5.2.1,(bh (r4.2.2.2.1 - 1)),r4.2.2.2.2.1,r4.2.2.2.2.2.1,())
 else
  (bX t r2.2.1 Code ([91]:ab)).bind fun r6=>
  bif r6.1 then
   (iD t r6.2.1 aC bx Code At).bind fun r7=>
   bif !r7.1 then
    some (0,r6.2.1,ay,r7.2.1,r7.2.2.1,r7.2.2.2.1,())
   else
    (bH t r6.2.1 aC ay r7.2.1 r7.2.2.1 r7.2.2.2.1).bind fun r8=>
    (aK t r8.2.1 aC r8.2.2.2.2.1 r8.2.2.2.2.2.1 ([93]:ab)).bind fun r9=>
    some (r8.1,r9.1,r8.2.2.1,(bh (r8.2.2.2.1 - 1)),r9.2.1,r9.2.2.1,())
  else
   (bX t r6.2.1 Code ([110,117,108,108]:ab)).bind fun kz=>
   bif kz.1 then
    (dD t kz.2.1 aC Code At).bind fun n8=>
    (aQ ay n8.2.2.1 (34,r1.1,0,n8.1,[])).bind fun o7=>
    some (o7.1,n8.2.1,o7.2.1,bx,n8.2.2.1,n8.2.2.2.1,())
   else
    (am k t kz.2.1 aC ay bx Code At 1).bind fun pX=>
    (dd t pX.2.1 aC).bind fun rV=>
    (mM t pX.2.1 pX.2.2.2.2.1).bind fun qS=>
    (CG qS.1).bind fun tf=>
    bif tf.1==0 then
     (jf t pX.2.1 aC pX.2.2.2.2.1 pX.2.2.2.2.2.1 6).bind fun vA=>
     some (0,pX.2.1,pX.2.2.1,pX.2.2.2.1,vA.1,vA.2.1,())
    else
     (am k t (bh (pX.2.1+1)) aC pX.2.2.1 pX.2.2.2.1 pX.2.2.2.2.1 pX.2.2.2.2.2.1 1).bind fun rS=>
     (aQ rS.2.2.1 rS.2.2.2.2.1 (30,rV.1,tf.1,([]:ab),[pX.1,rS.1])).bind fun qT=>
     some (qT.1,rS.2.1,qT.2.1,rS.2.2.2.1,rS.2.2.2.2.1,rS.2.2.2.2.2.1,())
def eP:Nat→jk×jj×jl
 |0=>(fun _ _ _ _ _ _ _=>none,fun _ _ _ _ _ _ _=>none,fun _ _ _ _ _ _ _=>none)
 |k+1=>(mg (eP k).1 (eP k).2.1 (eP k).2.2 k,mb (eP k).1 (eP k).2.1 (eP k).2.2 k,dA (eP k).1 (eP k).2.1 (eP k).2.2 k)
def dU(k:Nat):jk:=(eP k).1
def gm(k:Nat):jj:=(eP k).2.1
def fh(k:Nat):jl:=(eP k).2.2
section
variable (bH:Gd a8 121 C1) (bA:Gd a8 152 C0) (be:Gd a8 161 C2)
def y6(k:Nat):mn:=⟨⟨30,[(77,7)],[lD 77 0 sT,lI 77 2,rP 0 77],[lI 77 1,lF 77 3 tN,lI 77 4,lI 77 5,lI 77 6,rI 3],[]⟩,[.ex (.exit 0) [lI 77 1,lF 77 3 tN,lI 77 4,lI 77 5,lI 77 6,rI 3]],fun q c v=>gf bH.1 bA.1 be.1 k q c.1 c.2.1 v.1 v.2.1 v.2.2.1 v.2.2.2.1 v.2.2.2.2.1 v.2.2.2.2.2.1⟩
def CS(k:Nat):Ev a8:=⟨[fD,eO,mG,bA.cl],[lp 0 (y6 bH bA be k) k],[]⟩
def Hf(k q:Nat):Cd a8:=nV (CS bH bA be k) f121 0 (y6 bH bA be k) q []
def LU(k:Nat):Cl a8:=lB (CS bH bA be k) 121 f121 func121 call121 [500000] (sM (mg bH.1 bA.1 be.1 k)) [Hf bH bA be k k]
def y5(k:Nat):mn:=⟨⟨30,[(77,7)],[lD 77 0 sT,lI 77 2,rP 0 77],[lI 77 1,lF 77 3 tN,lI 77 4,lI 77 5,lI 77 6,rI 3],[]⟩,[.ex (.exit 0) [lI 77 1,lF 77 3 tN,lI 77 4,lI 77 5,lI 77 6,rI 3]],fun q c v=>gc bH.1 bA.1 be.1 k q c.1 c.2.1 v.1 v.2.1 v.2.2.1 v.2.2.2.1 v.2.2.2.2.1 v.2.2.2.2.2.1⟩
def CR(k:Nat):Ev a8:=⟨[fD,eO,mG,be.cl],[lp 0 (y5 bH bA be k) k],[]⟩
def He(k q:Nat):Cd a8:=nV (CR bH bA be k) f152 0 (y5 bH bA be k) q []
def LT(k:Nat):Cl a8:=lB (CR bH bA be k) 152 f152 func152 call152 [500000] (sK (mb bH.1 bA.1 be.1 k)) [He bH bA be k k]
def LV(k:Nat):Cl a8:=lB ⟨[jq,fD,jp,jo,eO,nJ,pL,rh k,bH.cl,Dc,be.cl,Rz],[],[]⟩ 161 f161 func161 call161 [500000] (sO (dA bH.1 bA.1 be.1 k)) []
end
theorem nQ:∀ k,kZ prog gt 121 (C1 (dU k))∧kZ prog gt 152 (C0 (gm k))∧kZ prog gt 161 (C2 (fh k))
 |0=>⟨cP (fun _ _=>rfl),cP (fun _ _=>rfl),cP (fun _ _=>rfl)⟩
 |k+1=>have ih:=nQ k;⟨(LU ⟨_,ih.1⟩ ⟨_,ih.2.1⟩ ⟨_,ih.2.2⟩ k).ok,(LT ⟨_,ih.1⟩ ⟨_,ih.2.1⟩ ⟨_,ih.2.2⟩ k).ok,(LV ⟨_,ih.1⟩ ⟨_,ih.2.1⟩ ⟨_,ih.2.2⟩ k).ok⟩
def Db(k:Nat):Cl a8:=⟨_,_,(nQ k).1⟩
def YJ(k:Nat):Cl a8:=⟨_,_,(nQ k).2.1⟩
def YK(k:Nat):Cl a8:=⟨_,_,(nQ k).2.2⟩
end
end Go.Fx.R5
namespace Go.Fx.R5
open Go Go.Fx Go.Proofs Go.Proofs.Tryz
noncomputable section
abbrev gp:=XT→Int→Int→XN→Int→Int→Int→Option (Int×Int×XN×Int×Int×Int×Unit)
def nP(f:gp):CV:=⟨⟨77,[(77,7)],[lD 77 0 sT,lI 77 2],[rP 0 77,lI 77 1,lF 77 3 tN,lI 77 4,lI 77 5,lI 77 6],[]⟩,[.ret [rI 500000,lI 77 1,lF 77 3 tN,lI 77 4,lI 77 5,lI 77 6] []],fun c v=>f c.1 v.2.1 c.2.1 v.2.2.1 v.2.2.2.1 v.2.2.2.2.1 v.2.2.2.2.2.1⟩
def vZ(f:gp):iF:=lZ (nP f).L (nP f).F (zQ [500000] (nP f).V)
abbrev iU:=XT→Int→Int→XN→Int→Int→Int→Option (Int×Int×XN×Int×Int×Int×Unit)
def qc(f:iU):CV:=⟨⟨73,[(77,7)],[lD 77 0 sT,lI 77 2],[rP 0 77,lI 77 1,lF 77 3 tN,lI 77 4,lI 77 5,lI 77 6],[]⟩,[.ret [rI 500000,lI 77 1,lF 77 3 tN,lI 77 4,lI 77 5,lI 77 6] []],fun c v=>f c.1 v.2.1 c.2.1 v.2.2.1 v.2.2.2.1 v.2.2.2.2.1 v.2.2.2.2.2.1⟩
def zI(f:iU):iF:=lZ (qc f).L (qc f).F (zQ [500000] (qc f).V)
abbrev jB:=XT→Int→Int→XN→Int→Int→Int→Option (Int×Int×XN×Int×Int×Int×Unit)
def qV(f:jB):CV:=⟨⟨44,[(77,7)],[lD 77 0 sT,lI 77 2],[rP 0 77,lI 77 1,lF 77 3 tN,lI 77 4,lI 77 5,lI 77 6],[]⟩,[.ret [rI 500000,lI 77 1,lF 77 3 tN,lI 77 4,lI 77 5,lI 77 6] []],fun c v=>f c.1 v.2.1 c.2.1 v.2.2.1 v.2.2.2.1 v.2.2.2.2.1 v.2.2.2.2.2.1⟩
def A8(f:jB):iF:=lZ (qV f).L (qV f).F (zQ [500000] (qV f).V)
def bR(bQ:gp)(cN:iU)(cA:jB)(k:Nat)(t:XT)(p aC:Int)(ay:XN)(bx Code At:Int):Option (Int×Int×XN×Int×Int×Int×Unit):=
 (dd t p aC).bind fun r1=>
 (jg t p Code 1).bind fun r2=>
 bif r2.1 then
  (dY k t p aC ay bx Code At).bind fun r3=>
  some (r3.1,r3.2.1,r3.2.2.1,r3.2.2.2.1,r3.2.2.2.2.1,r3.2.2.2.2.2.1,())
 else
  (fw t p Code ([105,102]:ab)).bind fun r4=>
  aa (fun(v:Bool)=>
   aa (fun(v2:Bool)=>
    bif v2 then
     (cN t p aC ay bx Code At).bind fun r7=>
     some (r7.1,r7.2.1,r7.2.2.1,r7.2.2.2.1,r7.2.2.2.2.1,r7.2.2.2.2.2.1,())
    else
     aa (fun(jv:Int×XN×Int×Int×Int×Int×Int×ab×XI)=>
      (aK t (jv.1) aC (jv.2.2.2.1) (jv.2.2.2.2.1) ([59]:ab)).bind fun Jx=>
      (aQ (jv.2.1) Jx.2.1 ((jv.2.2.2.2.2.1),(jv.2.2.2.2.2.2.1),0,(jv.2.2.2.2.2.2.2.1),(jv.2.2.2.2.2.2.2.2))).bind fun JO=>
      some (JO.1,Jx.1,JO.2.1,(jv.2.2.1),Jx.2.1,Jx.2.2.1,())) fun uR=>
     (bX t p Code ([42]:ab)).bind fun r8=>
     bif r8.1 then
      (dD t r8.2.1 aC Code At).bind fun r9=>
      (aK t r9.2.1 aC r9.2.2.1 r9.2.2.2.1 ([61]:ab)).bind fun kz=>
      (am k t kz.1 aC ay bx kz.2.1 kz.2.2.1 1).bind fun n8=>
      uR (n8.2.1,n8.2.2.1,n8.2.2.2.1,n8.2.2.2.2.1,n8.2.2.2.2.2.1,11,r1.1,r9.1,[n8.1])
     else
      (bX t r8.2.1 Code ([114,101,97,100]:ab)).bind fun o7=>
      bif o7.1 then
       (dd t o7.2.1 aC).bind fun pX=>
       (dD t o7.2.1 aC Code At).bind fun rV=>
       uR (rV.2.1,ay,bx,rV.2.2.1,rV.2.2.2.1,17,pX.1,rV.1,[])
      else
       (bX t o7.2.1 Code ([112,114,105,110,116]:ab)).bind fun qS=>
       bif qS.1 then
        (am k t qS.2.1 aC ay bx Code At 1).bind fun tf=>
        uR (tf.2.1,tf.2.2.1,tf.2.2.2.1,tf.2.2.2.2.1,tf.2.2.2.2.2.1,18,r1.1,([]:ab),[tf.1])
       else
        (bX t qS.2.1 Code ([97,115,115,101,114,116]:ab)).bind fun vA=>
        bif vA.1 then
         (dU k t vA.2.1 aC ay bx Code At).bind fun rS=>
         uR (rS.2.1,rS.2.2.1,rS.2.2.2.1,rS.2.2.2.2.1,rS.2.2.2.2.2.1,19,r1.1,([]:ab),[rS.1])
        else
         (bX t vA.2.1 Code ([115,116,111,112]:ab)).bind fun qT=>
         bif qT.1 then
          uR (qT.2.1,ay,bx,Code,At,20,r1.1,([]:ab),[])
         else
          (bX t qT.2.1 Code ([114,101,116,117,114,110]:ab)).bind fun vB=>
          bif vB.1 then
           (am k t vB.2.1 aC ay bx Code At 1).bind fun zg=>
           uR (zg.2.1,zg.2.2.1,zg.2.2.2.1,zg.2.2.2.2.1,zg.2.2.2.2.2.1,21,r1.1,([]:ab),[zg.1])
          else
           (jf t vB.2.1 aC Code At 6).bind fun KK=>
           uR (vB.2.1,ay,bx,KK.1,KK.2.1,0,r1.1,([]:ab),[])) fun iR=>
   bif v then
    iR true
   else
    (fw t p Code ([102,111,114]:ab)).bind fun r6=>
    iR r6.1) fun cv=>
  bif r4.1 then
   cv true
  else
   (fw t p Code ([119,104,105,108,101]:ab)).bind fun r5=>
   cv r5.1
def kj(bQ:gp)(cN:iU)(cA:jB)(k:Nat)(t:XT)(p aC:Int)(ay:XN)(bx Code At:Int):Option (Int×Int×XN×Int×Int×Int×Unit):=
 (dd t p aC).bind fun r1=>
 (bX t p Code ([105,102]:ab)).bind fun r2=>
 bif r2.1 then
  (dU k t r2.2.1 aC ay bx Code At).bind fun r3=>
  (cA t r3.2.1 aC r3.2.2.1 r3.2.2.2.1 r3.2.2.2.2.1 r3.2.2.2.2.2.1).bind fun r4=>
  (bD ([r3.1]) ([r4.1])).bind fun l=>
  aa (fun(jv:XI×Int×XN×Int×Int×Int)=>
   (aQ (jv.2.2.1) (jv.2.2.2.2.1) (14,r1.1,0,([]:ab),(jv.1))).bind fun r7=>
   some (r7.1,(jv.2.1),r7.2.1,(jv.2.2.2.1),(jv.2.2.2.2.1),(jv.2.2.2.2.2),())) fun cv=>
  (bX t r4.2.1 r4.2.2.2.2.1 ([101,108,115,101]:ab)).bind fun r5=>
  bif r5.1 then
   (cA t r5.2.1 aC r4.2.2.1 r4.2.2.2.1 r4.2.2.2.2.1 r4.2.2.2.2.2.1).bind fun r6=>
   (bD l ([r6.1])).bind fun l2=>
   cv (l2,r6.2.1,r6.2.2.1,r6.2.2.2.1,r6.2.2.2.2.1,r6.2.2.2.2.2.1)
  else
   cv (l,r5.2.1,r4.2.2.1,r4.2.2.2.1,r4.2.2.2.2.1,r4.2.2.2.2.2.1)
 else
  (bX t r2.2.1 Code ([119,104,105,108,101]:ab)).bind fun r8=>
  bif r8.1 then
   (dU k t r8.2.1 aC ay bx Code At).bind fun r9=>
   (cA t r9.2.1 aC r9.2.2.1 r9.2.2.2.1 r9.2.2.2.2.1 r9.2.2.2.2.2.1).bind fun kz=>
   (aQ kz.2.2.1 kz.2.2.2.2.1 (15,r1.1,0,([]:ab),[r9.1,kz.1])).bind fun n8=>
   some (n8.1,kz.2.1,n8.2.1,kz.2.2.2.1,kz.2.2.2.2.1,kz.2.2.2.2.2.1,())
  else
   (aK t r8.2.1 aC Code At ([102,111,114]:ab)).bind fun o7=>
   (dd t o7.1 aC).bind fun pX=>
   (dD t o7.1 aC o7.2.1 o7.2.2.1).bind fun rV=>
   (aK t rV.2.1 aC rV.2.2.1 rV.2.2.2.1 ([61]:ab)).bind fun qS=>
   (am k t qS.1 aC ay bx qS.2.1 qS.2.2.1 1).bind fun tf=>
   (aK t tf.2.1 aC tf.2.2.2.2.1 tf.2.2.2.2.2.1 ([46,46]:ab)).bind fun vA=>
   (am k t vA.1 aC tf.2.2.1 tf.2.2.2.1 vA.2.1 vA.2.2.1 1).bind fun rS=>
   (cA t rS.2.1 aC rS.2.2.1 rS.2.2.2.1 rS.2.2.2.2.1 rS.2.2.2.2.2.1).bind fun qT=>
   (aQ qT.2.2.1 qT.2.2.2.2.1 (16,pX.1,0,rV.1,[tf.1,rS.1,qT.1])).bind fun vB=>
   some (vB.1,qT.2.1,vB.2.1,qT.2.2.2.1,qT.2.2.2.2.1,qT.2.2.2.2.2.1,())
def ep(bQ:gp)(cN:iU)(cA:jB)(q:Nat):Nat→XT→Int→Int→XN→Int→Int→Int→XI→Option (Int×XN×Int×Int×Int×XI×Unit)
 |0,_,_,_,_,_,_,_,_=>none
 |k+1,t2,fN,p2,bY,kW,ic,Ie,cG=>
  aa (fun(v:Bool)=>
   bif v then
    (bQ t2 p2 fN bY kW ic Ie).bind fun r5=>
    (bD cG ([r5.1])).bind fun l=>
    ep bQ cN cA q k t2 fN r5.2.1 r5.2.2.1 r5.2.2.2.1 r5.2.2.2.2.1 r5.2.2.2.2.2.1 l
   else
    some (p2,bY,kW,ic,Ie,cG,())) fun cv=>
  bif ic==0 then
   (fw t2 p2 ic ([125]:ab)).bind fun r4=>
   cv (!r4.1)
  else
   cv false
def jN(bQ:gp)(cN:iU)(cA:jB)(k:Nat)(t:XT)(p aC:Int)(ay:XN)(bx Code At:Int):Option (Int×Int×XN×Int×Int×Int×Unit):=
 (dd t p aC).bind fun r1=>
 (aK t p aC Code At ([123]:ab)).bind fun r2=>
 (iD t r2.1 aC bx r2.2.1 r2.2.2.1).bind fun r3=>
 bif !r3.1 then
  some (0,r2.1,ay,r3.2.1,r3.2.2.1,r3.2.2.2.1,())
 else
  (ep bQ cN cA k k t aC r2.1 ay r3.2.1 r3.2.2.1 r3.2.2.2.1 []).bind fun o=>
  (aK t o.1 aC o.2.2.2.1 o.2.2.2.2.1 ([125]:ab)).bind fun r4=>
  (aQ o.2.1 r4.2.1 (8,r1.1,0,([]:ab),o.2.2.2.2.2.1)).bind fun r5=>
  some (r5.1,r4.1,r5.2.1,(bh (o.2.2.1 - 1)),r4.2.1,r4.2.2.1,())
def cS:Nat→gp×iU×jB
 |0=>(fun _ _ _ _ _ _ _=>none,fun _ _ _ _ _ _ _=>none,fun _ _ _ _ _ _ _=>none)
 |k+1=>(bR (cS k).1 (cS k).2.1 (cS k).2.2 k,kj (cS k).1 (cS k).2.1 (cS k).2.2 k,jN (cS k).1 (cS k).2.1 (cS k).2.2 k)
def eC(k:Nat):gp:=(cS k).1
def mf(k:Nat):iU:=(cS k).2.1
def je(k:Nat):jB:=(cS k).2.2
section
variable (bQ:Gd a8 100 vZ) (cN:Gd a8 119 zI) (cA:Gd a8 148 A8)
def Eo(k:Nat):Cl a8:=lB ⟨[jq,fD,jp,jo,eO,mG,nK,nJ,J5 k,cN.cl,rh k,Db k],[],[(4,47)]⟩ 100 f100 func100 call100 [500000] (nP (bR bQ.1 cN.1 cA.1 k)) []
def IX(k:Nat):Cl a8:=lB ⟨[jq,fD,jp,jo,eO,rh k,Db k,cA.cl],[],[]⟩ 119 f119 func119 call119 [500000] (qc (kj bQ.1 cN.1 cA.1 k)) []
def xt(k:Nat):mn:=⟨⟨44,[(77,7)],[lD 77 0 sT,lI 77 2,rP 0 77,rI 3],[lI 77 1,lF 77 3 tN,lI 77 4,lI 77 5,lI 77 6,(.r 4,.h .dV I)],[]⟩,[.ex (.exit 0) [lI 77 1,lF 77 3 tN,lI 77 4,lI 77 5,lI 77 6,(.r 4,.h .dV I)]],fun q c v=>ep bQ.1 cN.1 cA.1 k q c.1 c.2.1 v.1 v.2.1 v.2.2.1 v.2.2.2.1 v.2.2.2.2.1 v.2.2.2.2.2.1⟩
def AZ(k:Nat):Ev a8:=⟨[fD,jo,eO,mG,pL,bQ.cl],[lp 0 (xt bQ cN cA k) k],[]⟩
def FT(k q:Nat):Cd a8:=nV (AZ bQ cN cA k) f148 0 (xt bQ cN cA k) q []
def Ki(k:Nat):Cl a8:=lB (AZ bQ cN cA k) 148 f148 func148 call148 [500000] (qV (jN bQ.1 cN.1 cA.1 k)) [FT bQ cN cA k k]
end
theorem ky:∀ k,kZ prog gt 100 (vZ (eC k))∧kZ prog gt 119 (zI (mf k))∧kZ prog gt 148 (A8 (je k))
 |0=>⟨cP (fun _ _=>rfl),cP (fun _ _=>rfl),cP (fun _ _=>rfl)⟩
 |k+1=>have ih:=ky k;⟨(Eo ⟨_,ih.1⟩ ⟨_,ih.2.1⟩ ⟨_,ih.2.2⟩ k).ok,(IX ⟨_,ih.1⟩ ⟨_,ih.2.1⟩ ⟨_,ih.2.2⟩ k).ok,(Ki ⟨_,ih.1⟩ ⟨_,ih.2.1⟩ ⟨_,ih.2.2⟩ k).ok⟩
def Ed(k:Nat):Cl a8:=⟨_,_,(ky k).1⟩
def Wl(k:Nat):Cl a8:=⟨_,_,(ky k).2.1⟩
def XR(k:Nat):Cl a8:=⟨_,_,(ky k).2.2⟩
def ao(q:Nat):Nat→XT→Int→Int→XN→Int→Int→XI→Option (Int×XN×Int×Int×XI×Unit)
 |0,_,_,_,_,_,_,_=>none
 |k+1,t2,fN,p2,bY,ic,Ie,cG=>
  aa (fun(v:Bool)=>
   bif v then
    aa (fun(jv:Int×Int×Int)=>
     (dd t2 (jv.1) fN).bind fun r6=>
     (dD t2 (jv.1) fN (jv.2.1) (jv.2.2)).bind fun r7=>
     (aQ bY r7.2.2.1 (5,r6.1,0,r7.1,[])).bind fun r8=>
     (bD cG ([r8.1])).bind fun l=>
     ao q k t2 fN r7.2.1 r8.2.1 r7.2.2.1 r7.2.2.2.1 l) fun iR=>
    bif decide ((cG.length:Int) > 0) then
     (aK t2 p2 fN ic Ie ([44]:ab)).bind fun r5=>
     iR (r5.1,r5.2.1,r5.2.2.1)
    else
     iR (p2,ic,Ie)
   else
    some (p2,bY,ic,Ie,cG,())) fun cv=>
  bif ic==0 then
   (fw t2 p2 ic ([41]:ab)).bind fun r4=>
   cv (!r4.1)
  else
   cv false
def eG(q:Nat):Nat→XI→XI→Int→Option (XI×Unit)
 |0,_,_,_=>none
 |k+1,l,cG,i1=>
  bif decide (i1<(l.length:Int)) then
   (bC l i1).bind fun x1=>
   (bC l (i1.toNat:Int)).bind fun x2=>
   (bD cG ([x2])).bind fun l2=>
   eG q k l l2 (bh (i1+1))
  else
   some (cG,())
def eH(q:Nat):Nat→XT→Int→Int→XN→Int→Int→Int→XI→Option (Int×XN×Int×Int×Int×XI×Unit)
 |0,_,_,_,_,_,_,_,_=>none
 |k+1,t2,fN,p2,bY,kW,ic,Ie,body=>
  aa (fun(v:Bool)=>
   bif v then
    (eC q t2 p2 fN bY kW ic Ie).bind fun kz=>
    (bD body ([kz.1])).bind fun l=>
    eH q k t2 fN kz.2.1 kz.2.2.1 kz.2.2.2.1 kz.2.2.2.2.1 kz.2.2.2.2.2.1 l
   else
    some (p2,bY,kW,ic,Ie,body,())) fun cv=>
  bif ic==0 then
   (fw t2 p2 ic ([125]:ab)).bind fun r9=>
   cv (!r9.1)
  else
   cv false
def dm(k:Nat)(t:XT)(p aC:Int)(ay:XN)(bx Code At:Int):Option (Int×Int×XN×Int×Int×Int×Unit):=
 (dd t p aC).bind fun r1=>
 (dD t p aC Code At).bind fun r2=>
 (aK t r2.2.1 aC r2.2.2.1 r2.2.2.2.1 ([40]:ab)).bind fun r3=>
 (ao k k t aC r3.1 ay r3.2.1 r3.2.2.1 []).bind fun o=>
 (aK t o.1 aC o.2.2.1 o.2.2.2.1 ([41]:ab)).bind fun r4=>
 (dd t r4.1 aC).bind fun r5=>
 (aK t r4.1 aC r4.2.1 r4.2.2.1 ([123]:ab)).bind fun r6=>
 (iD t r6.1 aC bx r6.2.1 r6.2.2.1).bind fun r7=>
 bif !r7.1 then
  some (0,r6.1,o.2.1,r7.2.1,r7.2.2.1,r7.2.2.2.1,())
 else
  (pU k t r6.1 aC o.2.1 r7.2.2.1 r7.2.2.2.1).bind fun r8=>
  (eG k k r8.1 o.2.2.2.2.1 0).bind fun o2=>
  (eH k k t aC r8.2.1 r8.2.2.1 r7.2.1 r8.2.2.2.1 r8.2.2.2.2.1 []).bind fun o3=>
  (aK t o3.1 aC o3.2.2.2.1 o3.2.2.2.2.1 ([125]:ab)).bind fun r9=>
  (aQ o3.2.1 r9.2.1 (8,r5.1,0,([]:ab),o3.2.2.2.2.2.1)).bind fun kz=>
  (bD o2.1 ([kz.1])).bind fun l=>
  (aQ kz.2.1 r9.2.1 (4,r1.1,0,r2.1,l)).bind fun n8=>
  some (n8.1,r9.1,n8.2.1,(bh (o3.2.2.1 - 1)),r9.2.1,r9.2.2.1,())
def un(k:Nat):mn:=⟨⟨112,[(77,7)],[lD 77 0 sT,lI 77 2,lI 77 4,rP 0 77,rI 3,rD 4 .str],[lI 77 1,lF 77 3 tN,lI 77 5,lI 77 6,(.r 5,.h .dV I)],[]⟩,[.ex (.exit 0) [lI 77 1,lF 77 3 tN,lI 77 5,lI 77 6,(.r 5,.h .dV I)]],fun q c v=>ao k q c.1 c.2.1 v.1 v.2.1 v.2.2.1 v.2.2.2.1 v.2.2.2.2.1⟩
def uo(k:Nat):mn:=⟨⟨112,[(77,7)],[lD 77 0 sT,lI 77 1,lI 77 2,lF 77 3 tN,lI 77 4,lI 77 5,lI 77 6,rP 0 77,rI 3,rD 4 .str,rI 8,(.r 9,.h .dV I)],[(.r 5,.h .dV I),rI 10],[]⟩,[.ex (.exit 2) [(.r 5,.h .dV I)]],fun q c v=>eG k q c.2.2.2.2.2.2.2.2.2.2.2.1 v.1 v.2.1⟩
def uq(k:Nat):mn:=⟨⟨112,[(77,7)],[lD 77 0 sT,lI 77 2,rP 0 77,rI 3,rD 4 .str,(.r 5,.h .dV I),rI 8],[lI 77 1,lF 77 3 tN,lI 77 4,lI 77 5,lI 77 6,(.r 11,.h .dV I)],[]⟩,[.ex (.exit 4) [lI 77 1,lF 77 3 tN,lI 77 4,lI 77 5,lI 77 6,(.r 11,.h .dV I)]],fun q c v=>eH k q c.1 c.2.1 v.1 v.2.1 v.2.2.1 v.2.2.2.1 v.2.2.2.2.1 v.2.2.2.2.2.1⟩
def oG(k:Nat):Ev a8:=⟨[fD,jp,jo,eO,mG,pL,IL k,Ed k],[lp 0 (un k) k,lp 2 (uo k) k,lp 4 (uq k) k],[]⟩
def B5(k q:Nat):Cd a8:=nV (oG k) f66 0 (un k) q []
def B6(k q:Nat):Cd a8:=nV (oG k) f66 2 (uo k) q []
def B7(k q:Nat):Cd a8:=nV (oG k) f66 4 (uq k) q []
def FZ(k:Nat):Cl a8:=lB (oG k) 66 f66 func66 call66 [500000] ⟨⟨112,[(77,7)],[lD 77 0 sT,lI 77 2],[rP 0 77,lI 77 1,lF 77 3 tN,lI 77 4,lI 77 5,lI 77 6],[]⟩,[.ret [rI 500000,lI 77 1,lF 77 3 tN,lI 77 4,lI 77 5,lI 77 6] []],fun c v=>dm k c.1 v.2.1 c.2.1 v.2.2.1 v.2.2.2.1 v.2.2.2.2.1 v.2.2.2.2.2.1⟩ [B5 k k,B6 k k,B7 k k]
def ax(q:Nat):Nat→XT→Int→Int→XN→Int→Int→Int→XI→Option (Int×XN×Int×Int×Int×XI×Unit)
 |0,_,_,_,_,_,_,_,_=>none
 |k+1,t2,fN,p2,bY,kW,ic,Ie,cG=>
  aa (fun(v:Bool)=>
   bif v then
    (bX t2 p2 ic ([97,114,114,97,121]:ab)).bind fun r1=>
    bif r1.1 then
     (dd t2 r1.2.1 fN).bind fun r2=>
     (dD t2 r1.2.1 fN ic Ie).bind fun r3=>
     (aK t2 r3.2.1 fN r3.2.2.1 r3.2.2.2.1 ([91]:ab)).bind fun r4=>
     (mh t2 r4.1 fN r4.2.1 r4.2.2.1).bind fun r5=>
     (aK t2 r5.2.1 fN r5.2.2.1 r5.2.2.2.1 ([93]:ab)).bind fun r6=>
     (aK t2 r6.1 fN r6.2.1 r6.2.2.1 ([59]:ab)).bind fun r7=>
     (aQ bY r7.2.1 (2,r2.1,r5.1,r3.1,[])).bind fun r8=>
     (bD cG ([r8.1])).bind fun l=>
     ax q k t2 fN r7.1 r8.2.1 kW r7.2.1 r7.2.2.1 l
    else
     (bX t2 r1.2.1 ic ([118,97,114]:ab)).bind fun r9=>
     bif r9.1 then
      (dd t2 r9.2.1 fN).bind fun kz=>
      (dD t2 r9.2.1 fN ic Ie).bind fun n8=>
      (aK t2 n8.2.1 fN n8.2.2.1 n8.2.2.2.1 ([59]:ab)).bind fun o7=>
      (aQ bY o7.2.1 (3,kz.1,0,n8.1,[])).bind fun pX=>
      (bD cG ([pX.1])).bind fun l2=>
      ax q k t2 fN o7.1 pX.2.1 kW o7.2.1 o7.2.2.1 l2
     else
      (aK t2 r9.2.1 fN ic Ie ([102,117,110,99]:ab)).bind fun rV=>
      (dm q t2 rV.1 fN bY kW rV.2.1 rV.2.2.1).bind fun qS=>
      (bD cG ([qS.1])).bind fun l3=>
      ax q k t2 fN qS.2.1 qS.2.2.1 qS.2.2.2.1 qS.2.2.2.2.1 qS.2.2.2.2.2.1 l3
   else
    some (p2,bY,kW,ic,Ie,cG,())) fun cv=>
  bif ic==0 then
   cv (decide (p2<(t2.length:Int)))
  else
   cv false
def rC(k:Nat)(t:XT)(p aC:Int)(ay:XN)(bx Code At:Int):Option (Int×XN×Int×Int×Int×Unit):=
 (ax k k t aC p ay bx Code At []).bind fun o=>
 (aQ o.2.1 o.2.2.2.1 (1,0,0,([]:ab),o.2.2.2.2.2.1)).bind fun r1=>
 some (o.1,r1.2.1,o.2.2.1,o.2.2.2.1,o.2.2.2.2.1,())
def u6(k:Nat):mn:=⟨⟨77,[(77,7)],[lD 77 0 sT,lI 77 2,rP 0 77],[lI 77 1,lF 77 3 tN,lI 77 4,lI 77 5,lI 77 6,(.r 2,.h .dV I)],[]⟩,[.ex (.exit 0) [lI 77 1,lF 77 3 tN,lI 77 4,lI 77 5,lI 77 6,(.r 2,.h .dV I)]],fun q c v=>ax k q c.1 c.2.1 v.1 v.2.1 v.2.2.1 v.2.2.2.1 v.2.2.2.2.1 v.2.2.2.2.2.1⟩
def yl(k:Nat):Ev a8:=⟨[jq,fD,jp,jo,zO,eO,FZ k],[lp 0 (u6 k) k],[]⟩
def DB(k q:Nat):Cd a8:=nV (yl k) f36 0 (u6 k) q []
def Hv(k:Nat):Cl a8:=lB (yl k) 36 f36 func36 call36 [] ⟨⟨77,[(77,7)],[lD 77 0 sT,lI 77 2],[rP 0 77,lI 77 1,lF 77 3 tN,lI 77 4,lI 77 5,lI 77 6],[]⟩,[.ret [lI 77 1,lF 77 3 tN,lI 77 4,lI 77 5,lI 77 6] []],fun c v=>rC k c.1 v.2.1 c.2.1 v.2.2.1 v.2.2.2.1 v.2.2.2.2.1 v.2.2.2.2.2.1⟩ [DB k k]
def gQ(k:Nat)(bB:ab):Option (XN×(Int×Int)×Unit):=
 (nj k bB).bind fun r1=>
 bif r1.2.1.1 != 0 then
  some ([],r1.2.1,())
 else
  (rC k r1.1 0 (bB.length:Int) [] 0 0 0).bind fun r2=>
  bif r2.2.2.2.1 != 0 then
   some ([],(r2.2.2.2.1,r2.2.2.2.2.1),())
  else
   some (r2.2.1,(0,0),())
def Bh(k:Nat):Cl a8:=wD ⟨[J3 k,Hv k],[],[(3,37),(21,77)]⟩ 18 f18 func18 call18 [.str] [sN,tP] (fun d=>gQ k d.1) []
def tR(n low high:Int):Option (Bool×Unit):=
 aa (fun(v:Bool)=>
  some (v,())) fun cv=>
 bif decide (n≥low) then
  cv (decide (n≤high))
 else
  cv false
def Eb:Cl a8:=wD ⟨[],[],[]⟩ 25 f25 func25 call25 [I,I,I] [.bool] (fun d=>tR d.1 d.2.1 d.2.2.1) []
def nr(q:Nat):Nat→XF→ab→Int→Option (((Unit)⊕(Int×Unit)))
 |0,_,_,_=>none
 |k+1,w3,u7,i1=>
  bif decide (i1<(w3.length:Int)) then
   (bC w3 i1).bind fun x1=>
   bif x1.1==u7 then
    some (.inr (i1,()))
   else
    nr q k w3 u7 (bh (i1+1))
  else
   some (.inl ())
def kr(k:Nat)(t:XA×XS×XF)(name:ab):Option (Int×Unit):=
 (nr k k t.2.2 name 0).bind fun r=>match r with
 |.inl o=>
  some ((-1),())
 |.inr o2=>
  some (o2.1,())
def BJ(k:Nat):mn:=⟨⟨22,[(35,3)],[lD 35 0 sA,lD 35 1 sS,lD 35 2 sF,rD 1 .str,rP 2 35],[rI 5],[]⟩,[.ex (.exit 0) [],.ex .ret [rI 4]],fun q c v=>nr k q c.2.2.1 c.2.2.2.1 v.1⟩
def Gi(k:Nat):Ev a8:=⟨[],[lp 0 (BJ k) k],[(2,35)]⟩
def JV(k q:Nat):Cd a8:=nV (Gi k) f33 0 (BJ k) q []
def Aw(k:Nat):Cl a8:=wD (Gi k) 33 f33 func33 call33 [tM,.str] [I] (fun d=>kr k d.1 d.2.1) [JV k k]
def mj(q:Nat):Nat→XS→ab→Int→Option (((Unit)⊕(Int×Unit)))
 |0,_,_,_=>none
 |k+1,l2,s2,i1=>
  bif decide (i1<(l2.length:Int)) then
   (bC l2 i1).bind fun x1=>
   bif x1==s2 then
    some (.inr (i1,()))
   else
    mj q k l2 s2 (bh (i1+1))
  else
   some (.inl ())
def ik(k:Nat)(l:XS)(s:ab):Option (Int×Unit):=
 (mj k k l s 0).bind fun r=>match r with
 |.inl o=>
  some ((-1),())
 |.inr o2=>
  some (o2.1,())
def z8(k:Nat):mn:=⟨⟨19,[],[rD 0 sS,rD 1 .str],[rI 5],[]⟩,[.ex (.exit 0) [],.ex .ret [rI 4]],fun q c v=>mj k q c.1 c.2.1 v.1⟩
def D0(k:Nat):Ev a8:=⟨[],[lp 0 (z8 k) k],[]⟩
def Im(k q:Nat):Cd a8:=nV (D0 k) f84 0 (z8 k) q []
def yA(k:Nat):Cl a8:=wD (D0 k) 84 f84 func84 call84 [sS,.str] [I] (fun d=>ik k d.1 d.2.1) [Im k k]
def mi(q:Nat):Nat→XA→ab→Int→Option (((Unit)⊕(Int×Unit)))
 |0,_,_,_=>none
 |k+1,w,u7,i1=>
  bif decide (i1<(w.length:Int)) then
   (bC w i1).bind fun x1=>
   bif x1.1==u7 then
    some (.inr (i1,()))
   else
    mi q k w u7 (bh (i1+1))
  else
   some (.inl ())
def od(k:Nat)(t:XA×XS×XF)(name:ab):Option (Int×Unit):=
 (mi k k t.1 name 0).bind fun r=>match r with
 |.inl o=>
  some ((-1),())
 |.inr o2=>
  some (o2.1,())
def z7(k:Nat):mn:=⟨⟨22,[(35,3)],[lD 35 0 sA,lD 35 1 sS,lD 35 2 sF,rD 1 .str,rP 2 35],[rI 5],[]⟩,[.ex (.exit 0) [],.ex .ret [rI 4]],fun q c v=>mi k q c.1 c.2.2.2.1 v.1⟩
def DZ(k:Nat):Ev a8:=⟨[],[lp 0 (z7 k) k],[(2,35)]⟩
def Il(k q:Nat):Cd a8:=nV (DZ k) f85 0 (z7 k) q []
def Nb(k:Nat):Cl a8:=wD (DZ k) 85 f85 func85 call85 [tM,.str] [I] (fun d=>od k d.1 d.2.1) [Il k k]
def cR(k:Nat)(t:XA×XS×XF)(fn name:ab):Option (Int×Int×Unit):=
 (kr k t fn).bind fun r1=>
 aa (fun(v:Bool)=>
  bif v then
   (bC t.2.2 r1.1).bind fun x2=>
   (ik k x2.2.2.1 name).bind fun r3=>
   some (3,r3.1,())
  else
   aa (fun(v2:Bool)=>
    bif v2 then
     (bC t.2.2 r1.1).bind fun x4=>
     (ik k x4.2.2.2.1 name).bind fun r5=>
     some (4,r5.1,())
    else
     (od k t name).bind fun r6=>
     bif decide (r6.1≥0) then
      (od k t name).bind fun r7=>
      some (1,r7.1,())
     else
      (ik k t.2.1 name).bind fun r8=>
      bif decide (r8.1≥0) then
       (ik k t.2.1 name).bind fun r9=>
       some (2,r9.1,())
      else
       (kr k t name).bind fun kz=>
       bif decide (kz.1≥0) then
        (kr k t name).bind fun n8=>
        some (5,n8.1,())
       else
        some (0,0,())) fun iR=>
   bif decide (r1.1≥0) then
    (bC t.2.2 r1.1).bind fun x3=>
    (ik k x3.2.2.2.1 name).bind fun r4=>
    iR (decide (r4.1≥0))
   else
    iR false) fun cv=>
 bif decide (r1.1≥0) then
  (bC t.2.2 r1.1).bind fun x1=>
  (ik k x1.2.2.1 name).bind fun r2=>
  cv (decide (r2.1≥0))
 else
  cv false
def pK(k:Nat):Cl a8:=wD ⟨[Aw k,yA k,Nb k],[],[(3,35)]⟩ 53 f53 func53 call53 [tM,.str,.str] [I,I] (fun d=>cR k d.1 d.2.1 d.2.2.1) []
def kV(k:Nat)(uH:XA)(qP:XS)(zo:XF)(n:Int×Int×Int×ab×XI):Option (XA×XS×XF×Int×Unit):=
 (cR k (uH,qP,zo) ([]:ab) n.2.2.2.1).bind fun r1=>
 bif r1.1 != 0 then
  some (uH,qP,zo,9,())
 else
  bif n.1==2 then
   aa (fun(v:Bool)=>
    bif v then
     some (uH,qP,zo,8,())
    else
     (bD uH ([(n.2.2.2.1,n.2.2.1)])).bind fun l=>
     some (l,qP,zo,0,())) fun cv=>
   bif decide ((uH.length:Int)≥4) then
    cv true
   else
    (tR n.2.2.1 1 64).bind fun r2=>
    cv (!r2.1)
  else
   bif n.1==3 then
    bif decide ((qP.length:Int)≥4) then
     some (uH,qP,zo,8,())
    else
     (bD qP ([n.2.2.2.1])).bind fun l2=>
     some (uH,l2,zo,0,())
   else
    bif decide ((zo.length:Int)≥6) then
     some (uH,qP,zo,8,())
    else
     (bC n.2.2.2.2 (bh ((n.2.2.2.2.length:Int) - 1))).bind fun x1=>
     (bD zo ([(n.2.2.2.1,0,[],[],x1)])).bind fun l3=>
     some (uH,qP,l3,0,())
def RC(k:Nat):Cl a8:=lB ⟨[Eb,pK k],[],[(2,35),(3,47),(77,9999)]⟩ 31 f31 func31 call31 [500000,500001] ⟨⟨81,[],[],[(.q 0 0,.h .dV tA),(.q 0 1,.h .dV .str),(.q 0 2,.h .bx tF),rD 1 tN],[]⟩,[.ret [(.q 500000 0,.h .dV tA),(.q 500000 1,.h .dV .str),(.q 500000 2,.h .bx tF),rI 500001] []],fun c v=>kV k v.1 v.2.1 v.2.2.1 v.2.2.2.1⟩ []
end
end Go.Fx.R5
namespace Go.Fx.R5
open Go Go.Fx Go.Proofs Go.Proofs.Tryz
noncomputable section
def dE(q:Nat):Nat→XI→XN→Int→XA→XS→XF→Int→Int→Int→Option (((XA×XS×XF×Int×Int×Unit)⊕(Int×Int×XA×XS×XF×Unit)))
 |0,_,_,_,_,_,_,_,_,_=>none
 |k+1,MR,qp,f2,w,w2,w3,w4,w5,i1=>
  bif decide ((bh (i1+1))<(MR.length:Int)) then
   (bC MR i1).bind fun x1=>
   (bC qp x1).bind fun x2=>
   (bC w3 f2).bind fun x3=>
   (bC w3 (f2.toNat:Int)).bind fun x4=>
   (cR q (w,w2,w3) x4.1 x2.2.2.2.1).bind fun r1=>
   bif r1.1 != 0 then
    some (.inr (9,x2.2.1,w,w2,w3,()))
   else
    (bC w3 f2).bind fun x5=>
    (bC w3 (f2.toNat:Int)).bind fun x6=>
    aa (fun(v:Bool)=>
     aa (fun(v3:Bool)=>
      aa (fun(v5:Bool)=>
       bif v5 then
        some (.inr (8,x2.2.1,w,w2,w3,()))
       else
        aa (fun(jv:XS×XS×ab×Int×Int)=>
         aa (fun(v9:Int)=>
          (bC w3 f2).bind fun x9=>
          bif Nat.beq f2.toNat f2.toNat&&true then
           dE q k MR qp f2 w w2 (List.set w3 f2.toNat (x6.1,v9,(jv.1),(jv.2.1),x6.2.2.2.2)) w4 w5 (bh (i1+1))
          else
           none) fun jx7=>
         bif x2.1==5 then
          jx7 (bh (x6.2.1+1))
         else
          jx7 x6.2.1) fun jx6=>
        bif x2.1==7 then
         (bC w3 (f2.toNat:Int)).bind fun e=>
         bif (Nat.beq f2.toNat f2.toNat&&(Nat.beq f2.toNat f2.toNat&&true))&&true then
          (bD e.2.2.2.1 ([x2.2.2.2.1])).bind fun l=>
          jx6 (e.2.2.1,l,e.1,e.2.1,e.2.2.2.2)
         else
          none
        else
         (bC w3 (f2.toNat:Int)).bind fun e2=>
         bif (Nat.beq f2.toNat f2.toNat&&(Nat.beq f2.toNat f2.toNat&&true))&&true then
          (bD e2.2.2.1 ([x2.2.2.2.1])).bind fun l2=>
          jx6 (l2,e2.2.2.2.1,e2.1,e2.2.1,e2.2.2.2.2)
         else
          none) fun jx5=>
      bif v3 then
       jx5 true
      else
       aa (fun(v4:Bool)=>
        jx5 v4) fun jx4=>
       bif x2.1==5 then
        jx4 (decide (x6.2.1≥3))
       else
        jx4 false) fun uR=>
     bif v then
      uR true
     else
      aa (fun(v2:Bool)=>
       uR v2) fun iR=>
      bif x2.1 != 7 then
       (bC w3 (f2.toNat:Int)).bind fun x8=>
       iR (decide ((x8.2.2.1.length:Int)≥8))
      else
       iR false) fun cv=>
    bif x2.1==7 then
     (bC w3 (f2.toNat:Int)).bind fun x7=>
     cv (decide ((x7.2.2.2.1.length:Int)≥3))
    else
     cv false
  else
   some (.inl (w,w2,w3,w4,w5,()))
def CI(k:Nat)(uH:XA)(qP:XS)(zo:XF)(kl:XN)(f:Int)(fn:Int×Int×Int×ab×XI):Option (XA×XS×XF×(Int×Int)×Unit):=
 (dE k k fn.2.2.2.2 kl f uH qP zo 0 0 0).bind fun r=>match r with
 |.inl o=>
  some (o.1,o.2.1,o.2.2.1,(0,0),())
 |.inr o2=>
  some (o2.2.2.1,o2.2.2.2.1,o2.2.2.2.2.1,(o2.1,o2.2.1),())
def Dl(k:Nat):mn:=⟨⟨120,[(35,3),(37,2),(47,5),(10008,3)],[lI 47 0,lI 47 1,lI 47 2,lD 47 3 .str,lD 47 4 sI,rD 1 sN,rI 2,rP 4 35,rP 7 47,rP 8 10008,rP 9 37],[lF 35 0 tA,lF 35 1 .str,lU 35 2 tF,lI 37 0,lI 37 1,lN 10008 0,lN 10008 1,lN 10008 2,rI 10],[]⟩,[.ex (.exit 0) [lF 35 0 tA,lF 35 1 .str,lU 35 2 tF,lI 37 0,lI 37 1,lN 10008 0,lN 10008 1,lN 10008 2],.ex .ret [lI 37 0,lI 37 1,lF 10008 0 tA,lF 10008 1 .str,lU 10008 2 tF]],fun q c v=>dE k q c.2.2.2.2.1 c.2.2.2.2.2.1 c.2.2.2.2.2.2.1 v.1 v.2.1 v.2.2.1 v.2.2.2.1 v.2.2.2.2.1 v.2.2.2.2.2.2.2.2.1⟩
def Iu(k:Nat):Ev a8:=⟨[pK k],[lp 0 (Dl k) k],[(4,35),(7,47),(9,37)]⟩
def Lr(k q:Nat):Cd a8:=nV (Iu k) f32 0 (Dl k) q []
def RB(k:Nat):Cl a8:=lB (Iu k) 32 f32 func32 call32 [500000,500001] ⟨⟨120,[],[],[(.q 0 0,.h .dV tA),(.q 0 1,.h .dV .str),(.q 0 2,.h .bx tF),rD 1 sN,rI 2,rD 3 tN],[]⟩,[.ret [(.q 500000 0,.h .dV tA),(.q 500000 1,.h .dV .str),(.q 500000 2,.h .bx tF),rD 500001 tP] []],fun c v=>CI k v.1 v.2.1 v.2.2.1 v.2.2.2.1 v.2.2.2.2.1 v.2.2.2.2.2.1⟩ [Lr k k]
def cm(Code At code ju:Int):Option (Int×Int×Unit):=
 bif Code==0 then
  some (code,ju,())
 else
  some (Code,At,())
def pM:Cl a8:=lB ⟨[],[],[]⟩ 86 f86 func86 call86 [] ⟨⟨18,[(70,8)],[lD 70 0 sA,lD 70 1 sS,lD 70 2 sF,lD 70 3 sN,lD 70 4 .str,lF 70 5 .str],[rP 0 70,rI 1,rI 2,lI 70 6,lI 70 7],[]⟩,[.ret [lI 70 6,lI 70 7] []],fun c v=>cm v.2.2.2.1 v.2.2.2.2.1 v.2.1 v.2.2.1⟩ []
def gX(k:Nat)(aF:XA)(au:XS)(bj:XF)(fn:ab)(Code At:Int)(name:ab)(ju a b:Int):Option (Int×Int×Unit):=
 (cR k (aF,au,bj) fn name).bind fun r1=>
 bif r1.1==0 then
  (cm Code At 10 ju).bind fun r2=>
  some (r2.1,r2.2.1,())
 else
  aa (fun(v:Bool)=>
   bif v then
    (cm Code At 11 ju).bind fun r3=>
    some (r3.1,r3.2.1,())
   else
    some (Code,At,())) fun cv=>
  bif r1.1 != a then
   cv (r1.1 != b)
  else
   cv false
def pN(k:Nat):Cl a8:=lB ⟨[pK k,pM],[],[]⟩ 57 f57 func57 call57 [] ⟨⟨41,[(70,8)],[lD 70 0 sA,lD 70 1 sS,lD 70 2 sF,lD 70 3 sN,lD 70 4 .str,lF 70 5 .str],[rP 0 70,rD 1 .str,rI 2,rI 3,rI 4,lI 70 6,lI 70 7],[]⟩,[.ret [lI 70 6,lI 70 7] []],fun c v=>gX k c.1 c.2.1 c.2.2.1 c.2.2.2.2.1 v.2.2.2.2.2.1 v.2.2.2.2.2.2.1 v.2.1 v.2.2.1 v.2.2.2.1 v.2.2.2.2.1⟩ []
def uG(k:Nat)(aF:XA)(au:XS)(bj:XF)(fn:ab)(rM:XS)(Code At:Int)(name:ab)(ju:Int):Option (XS×Int×Int×Unit):=
 (gX k aF au bj fn Code At name ju 3 2).bind fun r1=>
 (ik k rM name).bind fun r2=>
 bif decide (r2.1≥0) then
  (cm r1.1 r1.2.1 11 ju).bind fun r3=>
  some (rM,r3.1,r3.2.1,())
 else
  some (rM,r1.1,r1.2.1,())
def Ee(k:Nat):Cl a8:=lB ⟨[pN k,yA k,pM],[],[]⟩ 87 f87 func87 call87 [] ⟨⟨20,[(70,8)],[lD 70 0 sA,lD 70 1 sS,lD 70 2 sF,lD 70 3 sN,lD 70 4 .str],[rP 0 70,rD 1 .str,rI 2,lF 70 5 .str,lI 70 6,lI 70 7],[]⟩,[.ret [lF 70 5 .str,lI 70 6,lI 70 7] []],fun c v=>uG k c.1 c.2.1 c.2.2.1 c.2.2.2.2.1 v.2.2.2.1 v.2.2.2.2.1 v.2.2.2.2.2.1 v.2.1 v.2.2.1⟩ []
def gK(k:Nat)(aF:XA)(au:XS)(bj:XF)(kl:XN)(fn:ab)(rM:XS)(Code At i1:Int):Option (XS×Int×Int×Unit):=
 (bC kl i1).bind fun x1=>
 aa (fun(jv:Int×Int)=>
  aa (fun(jv:Int×Int)=>
   aa (fun(jv:Int×Int)=>
    aa (fun(jv:XS×Int×Int)=>
     bif x1.1==16 then
      (gX k aF au bj fn (jv.2.1) (jv.2.2) x1.2.2.2.1 x1.2.1 3 3).bind fun r5=>
      (ik k (jv.1) x1.2.2.2.1).bind fun r6=>
      bif decide (r6.1≥0) then
       (cm r5.1 r5.2.1 11 x1.2.1).bind fun r7=>
       some ((jv.1),r7.1,r7.2.1,())
      else
       some ((jv.1),r5.1,r5.2.1,())
     else
      some ((jv.1),(jv.2.1),(jv.2.2),())) fun TN=>
    aa (fun(v6:Bool)=>
     bif v6 then
      (uG k aF au bj fn rM (jv.1) (jv.2) x1.2.2.2.1 x1.2.1).bind fun r4=>
      TN (r4.1,r4.2.1,r4.2.2.1)
     else
      TN (rM,(jv.1),(jv.2))) fun jx9=>
    bif x1.1==17 then
     jx9 true
    else
     jx9 (x1.1==22)) fun jx8=>
   aa (fun(v2:Bool)=>
    aa (fun(v3:Bool)=>
     aa (fun(v4:Bool)=>
      aa (fun(v5:Bool)=>
       bif v5 then
        (gX k aF au bj fn (jv.1) (jv.2) x1.2.2.2.1 x1.2.1 4 4).bind fun r3=>
        jx8 (r3.1,r3.2.1)
       else
        jx8 ((jv.1),(jv.2))) fun jx7=>
      bif v4 then
       jx7 true
      else
       jx7 (x1.1==12)) fun jx6=>
     bif v3 then
      jx6 true
     else
      jx6 (x1.1==34)) fun jx5=>
    bif v2 then
     jx5 true
    else
     jx5 (x1.1==13)) fun jx4=>
   bif x1.1==27 then
    jx4 true
   else
    jx4 (x1.1==11)) fun uR=>
  aa (fun(v:Bool)=>
   bif v then
    (gX k aF au bj fn (jv.1) (jv.2) x1.2.2.2.1 x1.2.1 1 1).bind fun r2=>
    uR (r2.1,r2.2.1)
   else
    uR ((jv.1),(jv.2))) fun iR=>
  bif x1.1==26 then
   iR true
  else
   iR (x1.1==10)) fun cv=>
 bif x1.1==25 then
  (gX k aF au bj fn Code At x1.2.2.2.1 x1.2.1 3 2).bind fun r1=>
  cv (r1.1,r1.2.1)
 else
  cv (Code,At)
def Nc(k:Nat):Cl a8:=lB ⟨[pN k,yA k,pM,Ee k],[],[(4,47)]⟩ 55 f55 func55 call55 [] ⟨⟨99,[(70,8)],[lD 70 0 sA,lD 70 1 sS,lD 70 2 sF,lD 70 3 sN,lD 70 4 .str],[rP 0 70,rI 1,lF 70 5 .str,lI 70 6,lI 70 7],[]⟩,[.ret [lF 70 5 .str,lI 70 6,lI 70 7] []],fun c v=>gK k c.1 c.2.1 c.2.2.1 c.2.2.2.1 c.2.2.2.2.1 v.2.2.1 v.2.2.2.1 v.2.2.2.2.1 v.2.1⟩ []
abbrev jn:=XA→XS→XF→XN→ab→XS→Int→Int→Int→Option (XS×Int×Int×Unit)
def sR(f:jn):CV:=⟨⟨111,[(70,8)],[lD 70 0 sA,lD 70 1 sS,lD 70 2 sF,lD 70 3 sN,lD 70 4 .str],[rP 0 70,rI 1,lF 70 5 .str,lI 70 6,lI 70 7],[]⟩,[.ret [lF 70 5 .str,lI 70 6,lI 70 7] []],fun c v=>f c.1 c.2.1 c.2.2.1 c.2.2.2.1 c.2.2.2.2.1 v.2.2.1 v.2.2.2.1 v.2.2.2.2.1 v.2.1⟩
def C4(f:jn):iF:=lZ (sR f).L (sR f).F (zQ [] (sR f).V)
abbrev ig:=XA→XS→XF→XN→ab→XS→Int→Int→(Int×Int×Int×ab×XI)→Option (XS×Int×Int×Unit)
def qd(f:ig):CV:=⟨⟨68,[(70,8)],[lD 70 0 sA,lD 70 1 sS,lD 70 2 sF,lD 70 3 sN,lD 70 4 .str],[rP 0 70,rD 1 tN,lF 70 5 .str,lI 70 6,lI 70 7],[]⟩,[.ret [lF 70 5 .str,lI 70 6,lI 70 7] []],fun c v=>f c.1 c.2.1 c.2.2.1 c.2.2.2.1 c.2.2.2.2.1 v.2.2.1 v.2.2.2.1 v.2.2.2.2.1 v.2.1⟩
def zJ(f:ig):iF:=lZ (qd f).L (qd f).F (zQ [] (qd f).V)
abbrev jm:=XA→XS→XF→XN→ab→XS→Int→Int→(Int×Int×Int×ab×XI)→Option (XS×Int×Int×Unit)
def sP(f:jm):CV:=⟨⟨74,[(70,8)],[lD 70 0 sA,lD 70 1 sS,lD 70 2 sF,lD 70 3 sN,lD 70 4 .str],[rP 0 70,rD 1 tN,lF 70 5 .str,lI 70 6,lI 70 7],[]⟩,[.ret [lF 70 5 .str,lI 70 6,lI 70 7] []],fun c v=>f c.1 c.2.1 c.2.2.1 c.2.2.2.1 c.2.2.2.2.1 v.2.2.1 v.2.2.2.1 v.2.2.2.2.1 v.2.1⟩
def C3(f:jm):iF:=lZ (sP f).L (sP f).F (zQ [] (sP f).V)
def bN(a7:jn)(aY:ig)(bI:jm)(q:Nat):Nat→Int→ab→XI→XA→XS→XF→XN→ab→XS→Int→Int→Int→Option (XS×Int×Int×Unit)
 |0,_,_,_,_,_,_,_,_,_,_,_,_=>none
 |k+1,afc,rY,MR,gA,gn,jP,qp,Hz,C9,Iq,At4,k2=>
  bif decide (k2<(MR.length:Int)) then
   aa (fun(afl:XS)=>
    (bC MR k2).bind fun x4=>
    (a7 gA gn jP qp Hz afl Iq At4 x4).bind fun r5=>
    bN a7 aY bI q k afc rY MR gA gn jP qp Hz r5.1 r5.2.1 r5.2.2.1 (bh (k2+1))) fun iR=>
   aa (fun(v:Bool)=>
    bif v then
     (bD C9 ([rY])).bind fun l=>
     iR l
    else
     iR C9) fun cv=>
   bif afc==16 then
    cv (k2==2)
   else
    cv false
  else
   some (C9,Iq,At4,())
def cL(a7:jn)(aY:ig)(bI:jm)(k:Nat)(aF:XA)(au:XS)(bj:XF)(kl:XN)(fn:ab)(rM:XS)(Code At i1:Int):Option (XS×Int×Int×Unit):=
 (bC kl i1).bind fun x1=>
 bif Code != 0 then
  some (rM,Code,At,())
 else
  bif x1.1==9 then
   (aY aF au bj kl fn rM Code At x1).bind fun r1=>
   some (r1.1,r1.2.1,r1.2.2.1,())
  else
   (gK k aF au bj kl fn rM Code At i1).bind fun r2=>
   bif x1.1==22 then
    (bI aF au bj kl fn r2.1 r2.2.1 r2.2.2.1 x1).bind fun r3=>
    some (r3.1,r3.2.1,r3.2.2.1,())
   else
    aa (fun(jv:Int×Int×Int)=>
     (bN a7 aY bI k k x1.1 x1.2.2.2.1 x1.2.2.2.2 aF au bj kl fn r2.1 (jv.2.1) (jv.2.2) (jv.1)).bind fun o=>
     aa (fun(v:Bool)=>
      bif v then
       (sub o.1 0 (bh ((o.1.length:Int) - 1))).bind fun l=>
       some (l,o.2.1,o.2.2.1,())
      else
       some (o.1,o.2.1,o.2.2.1,())) fun iR=>
     bif x1.1==16 then
      iR (o.2.1==0)
     else
      iR false) fun cv=>
    bif x1.1==12 then
     (bC x1.2.2.2.2 0).bind fun x2=>
     (bC kl x2).bind fun x3=>
     (gX k aF au bj fn r2.2.1 r2.2.2.1 x3.2.2.2.1 x3.2.1 1 1).bind fun r4=>
     cv (1,r4.1,r4.2.1)
    else
     cv (0,r2.2.1,r2.2.2.1)
def il(a7:jn)(aY:ig)(bI:jm)(k:Nat)(aF:XA)(au:XS)(bj:XF)(kl:XN)(fn:ab)(rM:XS)(Code At:Int)(n:Int×Int×Int×ab×XI):Option (XS×Int×Int×Unit):=
 (cR k (aF,au,bj) fn n.2.2.2.1).bind fun r1=>
 (bC n.2.2.2.2 0).bind fun x1=>
 (bC kl x1).bind fun x2=>
 bif r1.1==4 then
  aa (fun(jv:Int×Int)=>
   some (rM,(jv.1),(jv.2),())) fun cv=>
  bif x2.1==25 then
   (gX k aF au bj fn Code At x2.2.2.2.1 x2.2.1 4 4).bind fun r2=>
   cv (r2.1,r2.2.1)
  else
   bif x2.1 != 29 then
    (cm Code At 11 n.2.1).bind fun r3=>
    cv (r3.1,r3.2.1)
   else
    cv (Code,At)
 else
  (uG k aF au bj fn rM Code At n.2.2.2.1 n.2.1).bind fun r4=>
  aa (fun(jv:Int×Int)=>
   (bC n.2.2.2.2 0).bind fun x3=>
   (a7 aF au bj kl fn r4.1 (jv.1) (jv.2) x3).bind fun r6=>
   some (r6.1,r6.2.1,r6.2.2.1,())) fun iR=>
  bif x2.1==29 then
   (cm r4.2.1 r4.2.2.1 11 x2.2.1).bind fun r5=>
   iR (r5.1,r5.2.1)
  else
   iR (r4.2.1,r4.2.2.1)
def iN(a7:jn)(aY:ig)(bI:jm)(q:Nat):Nat→XI→XA→XS→XF→XN→ab→XS→Int→Int→Int→Option (XS×Int×Int×Unit)
 |0,_,_,_,_,_,_,_,_,_,_=>none
 |k+1,MR,gA,gn,jP,qp,Hz,C9,Iq,At4,i1=>
  bif decide (i1<(MR.length:Int)) then
   (bC MR i1).bind fun x4=>
   (a7 gA gn jP qp Hz C9 Iq At4 x4).bind fun r4=>
   iN a7 aY bI q k MR gA gn jP qp Hz r4.1 r4.2.1 r4.2.2.1 (bh (i1+1))
  else
   some (C9,Iq,At4,())
def ml(a7:jn)(aY:ig)(bI:jm)(k:Nat)(aF:XA)(au:XS)(bj:XF)(kl:XN)(fn:ab)(rM:XS)(Code At:Int)(n:Int×Int×Int×ab×XI):Option (XS×Int×Int×Unit):=
 (bC n.2.2.2.2 0).bind fun x1=>
 (bC kl x1).bind fun x2=>
 (gX k aF au bj fn Code At x2.2.2.2.1 x2.2.1 5 5).bind fun r1=>
 (cR k (aF,au,bj) fn x2.2.2.2.1).bind fun r2=>
 aa (fun(jv:Int×Int)=>
  (iN a7 aY bI k k n.2.2.2.2 aF au bj kl fn rM (jv.1) (jv.2) 1).bind fun o=>
  some (o.1,o.2.1,o.2.2.1,())) fun iR=>
 aa (fun(v:Bool)=>
  bif v then
   (cm r1.1 r1.2.1 12 x2.2.1).bind fun r3=>
   iR (r3.1,r3.2.1)
  else
   iR (r1.1,r1.2.1)) fun cv=>
 bif r2.1==5 then
  (bC bj r2.2.1).bind fun x3=>
  cv (x3.2.1 != (bh ((n.2.2.2.2.length:Int) - 1)))
 else
  cv false
def eQ:Nat→jn×ig×jm
 |0=>(fun _ _ _ _ _ _ _ _ _=>none,fun _ _ _ _ _ _ _ _ _=>none,fun _ _ _ _ _ _ _ _ _=>none)
 |k+1=>(cL (eQ k).1 (eQ k).2.1 (eQ k).2.2 k,il (eQ k).1 (eQ k).2.1 (eQ k).2.2 k,ml (eQ k).1 (eQ k).2.1 (eQ k).2.2 k)
def dF(k:Nat):jn:=(eQ k).1
def dB(k:Nat):ig:=(eQ k).2.1
def eI(k:Nat):jm:=(eQ k).2.2
section
variable (a7:Gd a8 34 C4) (aY:Gd a8 54 zJ) (bI:Gd a8 56 C3)
def y8(k:Nat):mn:=⟨⟨111,[(47,5),(70,8)],[lI 47 0,lI 47 1,lI 47 2,lD 47 3 .str,lD 47 4 sI,lD 70 0 sA,lD 70 1 sS,lD 70 2 sF,lD 70 3 sN,lD 70 4 .str,rP 0 70,rP 4 47],[lF 70 5 .str,lI 70 6,lI 70 7,rI 5],[]⟩,[.ex (.exit 0) [lF 70 5 .str,lI 70 6,lI 70 7]],fun q c v=>bN a7.1 aY.1 bI.1 k q c.1 c.2.2.2.1 c.2.2.2.2.1 c.2.2.2.2.2.1 c.2.2.2.2.2.2.1 c.2.2.2.2.2.2.2.1 c.2.2.2.2.2.2.2.2.1 c.2.2.2.2.2.2.2.2.2.1 v.1 v.2.1 v.2.2.1 v.2.2.2.1⟩
def CU(k:Nat):Ev a8:=⟨[a7.cl,aY.cl,Nc k,bI.cl,pN k],[lp 0 (y8 a7 aY bI k) k],[(4,47)]⟩
def Hh(k q:Nat):Cd a8:=nV (CU a7 aY bI k) f34 0 (y8 a7 aY bI k) q []
def LX(k:Nat):Cl a8:=lB (CU a7 aY bI k) 34 f34 func34 call34 [] (sR (cL a7.1 aY.1 bI.1 k)) [Hh a7 aY bI k k]
def IY(k:Nat):Cl a8:=lB ⟨[a7.cl,pK k,pN k,pM,Ee k],[],[(3,47)]⟩ 54 f54 func54 call54 [] (qd (il a7.1 aY.1 bI.1 k)) []
def y7(k:Nat):mn:=⟨⟨74,[(47,5),(70,8)],[lI 47 0,lI 47 1,lI 47 2,lD 47 3 .str,lD 47 4 sI,lD 70 0 sA,lD 70 1 sS,lD 70 2 sF,lD 70 3 sN,lD 70 4 .str,rP 0 70,rP 3 47],[lF 70 5 .str,lI 70 6,lI 70 7,rI 7],[]⟩,[.ex (.exit 0) [lF 70 5 .str,lI 70 6,lI 70 7]],fun q c v=>iN a7.1 aY.1 bI.1 k q c.2.2.2.2.1 c.2.2.2.2.2.1 c.2.2.2.2.2.2.1 c.2.2.2.2.2.2.2.1 c.2.2.2.2.2.2.2.2.1 c.2.2.2.2.2.2.2.2.2.1 v.1 v.2.1 v.2.2.1 v.2.2.2.1⟩
def CT(k:Nat):Ev a8:=⟨[a7.cl,pK k,pN k,pM],[lp 0 (y7 a7 aY bI k) k],[(3,47)]⟩
def Hg(k q:Nat):Cd a8:=nV (CT a7 aY bI k) f56 0 (y7 a7 aY bI k) q []
def LW(k:Nat):Cl a8:=lB (CT a7 aY bI k) 56 f56 func56 call56 [] (sP (ml a7.1 aY.1 bI.1 k)) [Hg a7 aY bI k k]
end
theorem nR:∀ k,kZ prog gt 34 (C4 (dF k))∧kZ prog gt 54 (zJ (dB k))∧kZ prog gt 56 (C3 (eI k))
 |0=>⟨cP (fun _ _=>rfl),cP (fun _ _=>rfl),cP (fun _ _=>rfl)⟩
 |k+1=>have ih:=nR k;⟨(LX ⟨_,ih.1⟩ ⟨_,ih.2.1⟩ ⟨_,ih.2.2⟩ k).ok,(IY ⟨_,ih.1⟩ ⟨_,ih.2.1⟩ ⟨_,ih.2.2⟩ k).ok,(LW ⟨_,ih.1⟩ ⟨_,ih.2.1⟩ ⟨_,ih.2.2⟩ k).ok⟩
def LL(k:Nat):Cl a8:=⟨_,_,(nR k).1⟩
def Wm(k:Nat):Cl a8:=⟨_,_,(nR k).2.1⟩
def YL(k:Nat):Cl a8:=⟨_,_,(nR k).2.2⟩
def pD(q:Nat)(qp:XN)(Qv:XI)(i2:Int)(w8:XA)(w9:XS)(w10:XF):Option (Int×XA×XS×XF×Unit):=
 (bC Qv i2).bind fun x2=>
 (bC qp x2).bind fun x3=>
 (kV q w8 w9 w10 x3).bind fun r2=>
 some (r2.2.2.2.1,r2.1,r2.2.1,r2.2.2.1,())
def dl(q:Nat):Nat→XN→XI→Int→Int→XA→XS→XF→Int→Option (((Int×Int×XA×XS×XF×Unit)⊕(Int×Int×Unit)))
 |0,_,_,_,_,_,_,_,_=>none
 |k+1,kl,cG,w,w2,w3,w4,w5,i1=>
  bif decide (i1<(cG.length:Int)) then
   (pD q kl cG i1 w3 w4 w5).bind fun o=>
   bif o.1 != 0 then
    (bC cG i1).bind fun x2=>
    (bC kl x2).bind fun x3=>
    some (.inr (o.1,x3.2.1,()))
   else
    dl q k kl cG w w2 o.2.1 o.2.2.1 o.2.2.2.1 (bh (i1+1))
  else
   some (.inl (w,w2,w3,w4,w5,()))
def pE(q:Nat)(qp:XN)(Qv:XI)(Hz i2:Int)(w8:XA)(w9:XS)(w10:XF):Option (XA×XS×XF×Int×Int×Unit):=
 (bC Qv i2).bind fun x4=>
 (bC qp x4).bind fun x5=>
 (CI q w8 w9 w10 qp Hz x5).bind fun r2=>
 some (r2.1,r2.2.1,r2.2.2.1,r2.2.2.2.1.1,r2.2.2.2.1.2,())
def cX(q:Nat):Nat→XN→XI→Int→Int→XA→XS→XF→Int→Int→Option (((Int×Int×XA×XS×XF×Unit)⊕(Int×Int×Unit)))
 |0,_,_,_,_,_,_,_,_,_=>none
 |k+1,kl,cG,w,w2,w3,w4,w5,fn,i1=>
  bif decide (i1<(cG.length:Int)) then
   aa (fun(jv:Int×XA×XS×XF)=>
    cX q k kl cG w w2 (jv.2.1) (jv.2.2.1) (jv.2.2.2) (jv.1) (bh (i1+1))) fun cv=>
   (bC cG i1).bind fun x2=>
   (bC kl x2).bind fun x3=>
   bif x3.1==4 then
    (pE q kl cG fn i1 w3 w4 w5).bind fun o3=>
    bif o3.2.2.2.1 != 0 then
     some (.inr (o3.2.2.2.1,o3.2.2.2.2.1,()))
    else
     cv ((bh (fn+1)),o3.1,o3.2.1,o3.2.2.1)
   else
    cv (fn,w3,w4,w5)
  else
   some (.inl (w,w2,w3,w4,w5,()))
def eU(q:Nat):Nat→XN→Int→Int→XA→XS→XF→Int→Option (((Int×Int×XA×XS×XF×Unit)⊕(Int×Int×Unit)))
 |0,_,_,_,_,_,_,_=>none
 |k+1,kl,w,w2,w3,w4,w5,i1=>
  bif decide (i1<(w5.length:Int)) then
   (bC w5 i1).bind fun x4=>
   (bC w5 i1).bind fun x5=>
   (dF q w3 w4 w5 kl x4.1 [] 0 0 x5.2.2.2.2).bind fun r3=>
   bif r3.2.1 != 0 then
    some (.inr (r3.2.1,r3.2.2.1,()))
   else
    eU q k kl w w2 w3 w4 w5 (bh (i1+1))
  else
   some (.inl (w,w2,w3,w4,w5,()))
def dG(k:Nat)(bB:ab):Option ((XA×XS×XF)×(Int×Int)×Unit):=
 (gQ k bB).bind fun r1=>
 bif r1.2.1.1 != 0 then
  some (([],[],[]),r1.2.1,())
 else
  (bC r1.1 (bh ((r1.1.length:Int) - 1))).bind fun x1=>
  (dl k k r1.1 x1.2.2.2.2 0 0 [] [] [] 0).bind fun r=>match r with
  |.inl o=>
   (cX k k r1.1 x1.2.2.2.2 o.1 o.2.1 o.2.2.1 o.2.2.2.1 o.2.2.2.2.1 0 0).bind fun r=>match r with
   |.inl o3=>
    (kr k (o3.2.2.1,o3.2.2.2.1,o3.2.2.2.2.1) ([109,97,105,110]:ab)).bind fun r2=>
    aa (fun(v:Bool)=>
     bif v then
      some (([],[],[]),(13,0),())
     else
      (eU k k r1.1 o3.1 o3.2.1 o3.2.2.1 o3.2.2.2.1 o3.2.2.2.2.1 0).bind fun r=>match r with
      |.inl o5=>
       some ((o5.2.2.1,o5.2.2.2.1,o5.2.2.2.2.1),(0,0),())
      |.inr o6=>
       some (([],[],[]),(o6.1,o6.2.1),())) fun cv=>
    bif decide (r2.1<0) then
     cv true
    else
     (bC o3.2.2.2.2.1 r2.1).bind fun x2=>
     (bC o3.2.2.2.2.1 (r2.1.toNat:Int)).bind fun x3=>
     cv (x3.2.1 != 0)
   |.inr o4=>
    some (([],[],[]),(o4.1,o4.2.1),())
  |.inr o2=>
   some (([],[],[]),(o2.1,o2.2.1),())
def wi(k:Nat):mn:=⟨⟨160,[(35,3),(37,2),(10004,3),(10007,3)],[lN 35 0,lN 35 1,lN 35 2,lI 37 0,lI 37 1,lN 10004 0,lN 10004 1,lN 10004 2,rP 2 35,rP 3 37,rP 4 10004,rD 5 sN,rP 7 10007,rD 8 sI,rI 9],[lF 10007 0 tA,lF 10007 1 .str,lU 10007 2 tF],[]⟩,[.ex .normal [rP 10 10010,rI 11,lF 10010 0 tA,lF 10010 1 .str,lU 10010 2 tF]],fun q c v=>pD k c.2.2.2.2.2.2.2.2.2.2.2.1 c.2.2.2.2.2.2.2.2.2.2.2.2.2.1 c.2.2.2.2.2.2.2.2.2.2.2.2.2.2.1 v.1 v.2.1 v.2.2.1⟩
def xl(k:Nat):mn:=⟨⟨160,[(35,3),(37,2),(10004,3),(10007,3)],[lN 10004 0,lN 10004 1,lN 10004 2,rP 2 35,rP 3 37,rP 4 10004,rD 5 sN,rP 7 10007,rD 8 sI],[lN 35 0,lN 35 1,lN 35 2,lI 37 0,lI 37 1,lF 10007 0 tA,lF 10007 1 .str,lU 10007 2 tF,rI 9],[]⟩,[.ex (.exit 0) [lN 35 0,lN 35 1,lN 35 2,lI 37 0,lI 37 1,lF 10007 0 tA,lF 10007 1 .str,lU 10007 2 tF],.ex .ret [lN 35 0,lN 35 1,lN 35 2,lI 37 0,lI 37 1]],fun q c v=>dl k q c.2.2.2.2.2.2.1 c.2.2.2.2.2.2.2.2.1 v.2.2.2.1 v.2.2.2.2.1 v.2.2.2.2.2.1 v.2.2.2.2.2.2.1 v.2.2.2.2.2.2.2.1 v.2.2.2.2.2.2.2.2.1⟩
def wj(k:Nat):mn:=⟨⟨160,[(35,3),(37,2),(10004,3),(10007,3)],[lN 35 0,lN 35 1,lN 35 2,lI 37 0,lI 37 1,lN 10004 0,lN 10004 1,lN 10004 2,rP 2 35,rP 3 37,rP 4 10004,rD 5 sN,rP 7 10007,rD 8 sI,rI 12,rI 13],[lF 10007 0 tA,lF 10007 1 .str,lU 10007 2 tF],[]⟩,[.ex .normal [rP 14 10014,rP 15 10015,lF 10014 0 tA,lF 10014 1 .str,lU 10014 2 tF,lI 10015 0,lI 10015 1]],fun q c v=>pE k c.2.2.2.2.2.2.2.2.2.2.2.1 c.2.2.2.2.2.2.2.2.2.2.2.2.2.1 c.2.2.2.2.2.2.2.2.2.2.2.2.2.2.1 c.2.2.2.2.2.2.2.2.2.2.2.2.2.2.2.1 v.1 v.2.1 v.2.2.1⟩
def xm(k:Nat):mn:=⟨⟨160,[(35,3),(37,2),(10004,3),(10007,3)],[lN 10004 0,lN 10004 1,lN 10004 2,rP 2 35,rP 3 37,rP 4 10004,rD 5 sN,rP 7 10007,rD 8 sI],[lN 35 0,lN 35 1,lN 35 2,lI 37 0,lI 37 1,lF 10007 0 tA,lF 10007 1 .str,lU 10007 2 tF,rI 12,rI 13],[]⟩,[.ex (.exit 2) [lN 35 0,lN 35 1,lN 35 2,lI 37 0,lI 37 1,lF 10007 0 tA,lF 10007 1 .str,lU 10007 2 tF],.ex .ret [lN 35 0,lN 35 1,lN 35 2,lI 37 0,lI 37 1]],fun q c v=>cX k q c.2.2.2.2.2.2.1 c.2.2.2.2.2.2.2.2.1 v.2.2.2.1 v.2.2.2.2.1 v.2.2.2.2.2.1 v.2.2.2.2.2.2.1 v.2.2.2.2.2.2.2.1 v.2.2.2.2.2.2.2.2.1 v.2.2.2.2.2.2.2.2.2.1⟩
def xo(k:Nat):mn:=⟨⟨160,[(35,3),(37,2),(10004,3),(10007,3)],[lN 10004 0,lN 10004 1,lN 10004 2,rP 2 35,rP 3 37,rP 4 10004,rD 5 sN,rP 7 10007],[lN 35 0,lN 35 1,lN 35 2,lI 37 0,lI 37 1,lD 10007 0 sA,lD 10007 1 sS,lD 10007 2 sF,rI 17],[]⟩,[.ex (.exit 4) [lN 35 0,lN 35 1,lN 35 2,lI 37 0,lI 37 1,lD 10007 0 sA,lD 10007 1 sS,lD 10007 2 sF],.ex .ret [lN 35 0,lN 35 1,lN 35 2,lI 37 0,lI 37 1]],fun q c v=>eU k q c.2.2.2.2.2.2.1 v.2.2.2.1 v.2.2.2.2.1 v.2.2.2.2.2.1 v.2.2.2.2.2.2.1 v.2.2.2.2.2.2.2.1 v.2.2.2.2.2.2.2.2.1⟩
def mO(k:Nat):Ev a8:=⟨[Bh k,RC k,RB k,Aw k,(LL k).uL 0 70],[rg 10 (wi k),lp 0 (xl k) k,rg 19 (wj k),lp 2 (xm k) k,lp 4 (xo k) k],[(2,35),(3,37)]⟩
def DQ(k:Nat):Cd a8:=rgC (mO k) f16 10 (wi k) [[0,1,2,3,4,5,6,7,8,9,10,11,12,13,14],[0,1,2,3,4,5,6,7,12,8,9,10,11,13,14]]
def FM(k q:Nat):Cd a8:=nV (mO k) f16 0 (xl k) q [DQ k]
def DR(k:Nat):Cd a8:=rgC (mO k) f16 19 (wj k) [[0,1,2,3,4,5,6,7,8,9,10,11,12,13,14,15,16,17],[0,1,2,3,4,5,6,7,8,9,10,11,12,13,15,14,16,17],[0,1,2,3,4,5,6,7,8,9,14,10,11,12,13,15,16,17],[0,1,2,3,4,5,6,7,8,9,14,15,10,11,12,13,16,17],[0,1,2,3,4,5,6,7,8,9,15,10,11,12,13,14,16,17],[0,1,2,3,4,5,6,7,8,9,15,14,10,11,12,13,16,17]]
def FN(k q:Nat):Cd a8:=nV (mO k) f16 2 (xm k) q [DR k]
def FO(k q:Nat):Cd a8:=nV (mO k) f16 4 (xo k) q []
def ve(k:Nat):Cl a8:=wD (mO k) 16 f16 func16 call16 [.str] [tM,tP] (fun d=>dG k d.1) [FM k k,FN k k,FO k k]
end
end Go.Fx.R5
namespace Go.Fx.R5
open Go Go.Fx Go.Proofs Go.Proofs.Tryz
noncomputable section
def gg(fn:Int)(ie:XI)(lC:XB)(ad9:Bool):Option (Int×XI×XB×Unit):=
 (bD ie ([fn])).bind fun l=>
 (bD lC ([ad9])).bind fun l2=>
 some ((bh ((l.length:Int) - 1)),l,l2,())
def oK:Cl a8:=lB ⟨[],[],[]⟩ 101 f101 func101 call101 [500000] ⟨⟨39,[(120,11)],[lD 120 0 sA,lD 120 1 sS,lD 120 2 sF,lD 120 3 sN,lI 120 4,lF 120 6 I,lF 120 8 tE,lF 120 9 I,lF 120 10 I],[rP 0 120,rD 1 .bool,lF 120 5 I,lF 120 7 .bool],[]⟩,[.ret [rI 500000,lF 120 5 I,lF 120 7 .bool] []],fun c v=>gg c.2.2.2.2.1 v.2.2.1 v.2.2.2.1 v.2.1⟩ []
def fj(gL:XE)(mu Ds EA nW arg:Int):Option (XE×Unit):=
 (bD gL ([(mu,Ds,EA,nW,arg)])).bind fun l=>
 some (l,())
def pO:Cl a8:=lB ⟨[],[],[]⟩ 103 f103 func103 call103 [] ⟨⟨29,[(120,11)],[lD 120 0 sA,lD 120 1 sS,lD 120 2 sF,lD 120 3 sN,lI 120 4,lF 120 5 I,lF 120 6 I,lF 120 7 .bool,lF 120 9 I,lF 120 10 I],[rP 0 120,rI 1,rI 2,rI 3,rI 4,rI 5,lF 120 8 tE],[]⟩,[.ret [lF 120 8 tE] []],fun c v=>fj v.2.2.2.2.2.2.1 v.2.1 v.2.2.1 v.2.2.2.1 v.2.2.2.2.1 v.2.2.2.2.2.1⟩ []
abbrev tc:=XA→XS→XF→XN→Int→XI→XI→XB→XE→XI→XI→Int→Int→Int→Int→Option (XI×XB×XE×Unit)
def sU(f:tc):CV:=⟨⟨88,[(120,11)],[lD 120 0 sA,lD 120 1 sS,lD 120 2 sF,lD 120 3 sN,lI 120 4,lF 120 6 I,lF 120 9 I,lF 120 10 I],[rP 0 120,rI 1,rI 2,rI 3,rI 4,lF 120 5 I,lF 120 7 .bool,lF 120 8 tE],[]⟩,[.ret [lF 120 5 I,lF 120 7 .bool,lF 120 8 tE] []],fun c v=>f c.1 c.2.1 c.2.2.1 c.2.2.2.1 c.2.2.2.2.1 v.2.2.2.2.2.1 c.2.2.2.2.2.1 v.2.2.2.2.2.2.1 v.2.2.2.2.2.2.2.1 c.2.2.2.2.2.2.1 c.2.2.2.2.2.2.2.1 v.2.1 v.2.2.1 v.2.2.2.1 v.2.2.2.2.1⟩
def C5(f:tc):iF:=lZ (sU f).L (sU f).F (zQ [] (sU f).V)
def nO(kp:tc)(k:Nat)(aF:XA)(au:XS)(bj:XF)(kl:XN)(fn:Int)(ie iZ:XI)(lC:XB)(gL:XE)(mt to:XI)(i1 mu yes no:Int):Option (XI×XB×XE×Unit):=
 (bC kl i1).bind fun x1=>
 bif x1.1==33 then
  (bC x1.2.2.2.2 0).bind fun x2=>
  (kp aF au bj kl fn ie iZ lC gL mt to x2 mu no yes).bind fun r1=>
  some (r1.1,r1.2.1,r1.2.2.1,())
 else
  bif x1.1==31 then
   (gg fn ie lC false).bind fun r2=>
   (bC x1.2.2.2.2 0).bind fun x3=>
   (kp aF au bj kl fn r2.2.1 iZ r2.2.2.1 gL mt to x3 mu r2.1 no).bind fun r3=>
   (bC x1.2.2.2.2 1).bind fun x4=>
   (kp aF au bj kl fn r3.1 iZ r3.2.1 r3.2.2.1 mt to x4 r2.1 yes no).bind fun r4=>
   some (r4.1,r4.2.1,r4.2.2.1,())
  else
   bif x1.1==32 then
    (gg fn ie lC false).bind fun r5=>
    (bC x1.2.2.2.2 0).bind fun x5=>
    (kp aF au bj kl fn r5.2.1 iZ r5.2.2.1 gL mt to x5 mu yes r5.1).bind fun r6=>
    (bC x1.2.2.2.2 1).bind fun x6=>
    (kp aF au bj kl fn r6.1 iZ r6.2.1 r6.2.2.1 mt to x6 r5.1 yes no).bind fun r7=>
    some (r7.1,r7.2.1,r7.2.2.1,())
   else
    (fj gL mu yes 3 i1 1).bind fun r8=>
    (fj r8.1 mu no 3 i1 0).bind fun r9=>
    some (ie,lC,r9.1,())
def jV:Nat→tc
 |0=>fun _ _ _ _ _ _ _ _ _ _ _ _ _ _ _=>none
 |k+1=>nO (jV k) k
section
variable (kp:Gd a8 153 C5)
def LY(k:Nat):Cl a8:=lB ⟨[oK,pO,kp.cl],[],[(10,47)]⟩ 153 f153 func153 call153 [] (sU (nO kp.1 k)) []
end
theorem Br:∀ k,kZ prog gt 153 (C5 (jV k))
 |0=>cP (fun _ _=>rfl)
 |k+1=>(LY ⟨_,Br k⟩ k).ok
def Dd(k:Nat):Cl a8:=⟨_,_,Br k⟩
abbrev jE:=XA→XS→XF→XN→Int→XI→XI→XB→XE→XI→XI→Int→Int→Int→Option (XI×XB×XE×XI×XI×Unit)
def qY(f:jE):CV:=⟨⟨56,[(120,11)],[lD 120 0 sA,lD 120 1 sS,lD 120 2 sF,lD 120 3 sN,lI 120 4,lF 120 6 I],[rP 0 120,rI 1,rI 2,rI 3,lF 120 5 I,lF 120 7 .bool,lF 120 8 tE,lF 120 9 I,lF 120 10 I],[]⟩,[.ret [lF 120 5 I,lF 120 7 .bool,lF 120 8 tE,lF 120 9 I,lF 120 10 I] []],fun c v=>f c.1 c.2.1 c.2.2.1 c.2.2.2.1 c.2.2.2.2.1 v.2.2.2.2.1 c.2.2.2.2.2.1 v.2.2.2.2.2.1 v.2.2.2.2.2.2.1 v.2.2.2.2.2.2.2.1 v.2.2.2.2.2.2.2.2.1 v.2.1 v.2.2.1 v.2.2.2.1⟩
def Bb(f:jE):iF:=lZ (qY f).L (qY f).F (zQ [] (qY f).V)
abbrev kn:=XA→XS→XF→XN→Int→XI→XI→XB→XE→XI→XI→Int→Int→Int→Option (XI×XB×XE×XI×XI×Unit)
def sV(f:kn):CV:=⟨⟨151,[(120,11)],[lD 120 0 sA,lD 120 1 sS,lD 120 2 sF,lD 120 3 sN,lI 120 4,lF 120 6 I],[rP 0 120,rI 1,rI 2,rI 3,lF 120 5 I,lF 120 7 .bool,lF 120 8 tE,lF 120 9 I,lF 120 10 I],[]⟩,[.ret [lF 120 5 I,lF 120 7 .bool,lF 120 8 tE,lF 120 9 I,lF 120 10 I] []],fun c v=>f c.1 c.2.1 c.2.2.1 c.2.2.2.1 c.2.2.2.2.1 v.2.2.2.2.1 c.2.2.2.2.2.1 v.2.2.2.2.2.1 v.2.2.2.2.2.2.1 v.2.2.2.2.2.2.2.1 v.2.2.2.2.2.2.2.2.1 v.2.1 v.2.2.1 v.2.2.2.1⟩
def C6(f:kn):iF:=lZ (sV f).L (sV f).F (zQ [] (sV f).V)
abbrev ko:=XA→XS→XF→XN→Int→XI→XI→XB→XE→XI→XI→Int→Int→Int→Option (XI×XB×XE×XI×XI×Unit)
def sW(f:ko):CV:=⟨⟨77,[(120,11)],[lD 120 0 sA,lD 120 1 sS,lD 120 2 sF,lD 120 3 sN,lI 120 4,lF 120 6 I],[rP 0 120,rI 1,rI 2,rI 3,lF 120 5 I,lF 120 7 .bool,lF 120 8 tE,lF 120 9 I,lF 120 10 I],[]⟩,[.ret [lF 120 5 I,lF 120 7 .bool,lF 120 8 tE,lF 120 9 I,lF 120 10 I] []],fun c v=>f c.1 c.2.1 c.2.2.1 c.2.2.2.1 c.2.2.2.2.1 v.2.2.2.2.1 c.2.2.2.2.2.1 v.2.2.2.2.2.1 v.2.2.2.2.2.2.1 v.2.2.2.2.2.2.2.1 v.2.2.2.2.2.2.2.2.1 v.2.1 v.2.2.1 v.2.2.2.1⟩
def C7(f:ko):iF:=lZ (sW f).L (sW f).F (zQ [] (sW f).V)
def im(ck:jE)(dy:kn)(dz:ko)(q:Nat):Nat→XA→XS→XF→XN→Int→XI→Int→XI→XI→XB→XE→XI→XI→Int→Int→Option (XI×XB×XE×XI×XI×Unit)
 |0,_,_,_,_,_,_,_,_,_,_,_,_,_,_,_=>none
 |k+1,gA,gn,jP,qp,Hz,mU,to4,k1,kE,qe,MQ,ac5,to3,afy,j=>
  bif decide (j<(k1.length:Int)) then
   aa (fun(jv:Int×XI×XB)=>
    (bC k1 j).bind fun x4=>
    (dy gA gn jP qp Hz (jv.2.1) mU (jv.2.2) MQ ac5 to3 x4 afy (jv.1)).bind fun r3=>
    im ck dy dz q k gA gn jP qp Hz mU to4 k1 r3.1 r3.2.1 r3.2.2.1 r3.2.2.2.1 r3.2.2.2.2.1 (jv.1) (bh (j+1))) fun cv=>
   bif decide ((bh (j+1))<(k1.length:Int)) then
    (gg Hz kE qe false).bind fun r2=>
    cv (r2.1,r2.2.1,r2.2.2.1)
   else
    cv (to4,kE,qe)
  else
   some (kE,qe,MQ,ac5,to3,())
def oY(ck:jE)(dy:kn)(dz:ko)(k:Nat)(aF:XA)(au:XS)(bj:XF)(kl:XN)(fn:Int)(ie iZ:XI)(lC:XB)(gL:XE)(mt to:XI)(i1 mu Ds:Int):Option (XI×XB×XE×XI×XI×Unit):=
 (bC mt i1).bind fun x1=>
 (bC mt (i1.toNat:Int)).bind fun x2=>
 (bC kl i1).bind fun x3=>
 aa (fun(nF:XE)=>
  (im ck dy dz k k aF au bj kl fn iZ Ds x3.2.2.2.2 ie lC nF (List.set mt i1.toNat mu) to mu 0).bind fun o=>
  some (o.1,o.2.1,o.2.2.1,o.2.2.2.1,o.2.2.2.2.1,())) fun cv=>
 bif (x3.2.2.2.2.length:Int)==0 then
  (fj gL mu Ds 1 (-1) 0).bind fun r1=>
  cv r1.1
 else
  cv gL
def fV(ck:jE)(dy:kn)(dz:ko)(k:Nat)(aF:XA)(au:XS)(bj:XF)(kl:XN)(fn:Int)(ie iZ:XI)(lC:XB)(gL:XE)(mt to:XI)(i1 mu Ds:Int):Option (XI×XB×XE×XI×XI×Unit):=
 (bC kl i1).bind fun x1=>
 (bC mt i1).bind fun x2=>
 (bC mt (i1.toNat:Int)).bind fun x3=>
 (bC to i1).bind fun x4=>
 (bC to (i1.toNat:Int)).bind fun x5=>
 bif x1.1==14 then
  (gg fn ie lC false).bind fun r1=>
  aa (fun(jv:Int×XI×XB)=>
   (bC x1.2.2.2.2 0).bind fun x6=>
   (jV k aF au bj kl fn (jv.2.1) iZ (jv.2.2) gL (List.set mt i1.toNat mu) (List.set to i1.toNat Ds) x6 mu r1.1 (jv.1)).bind fun r3=>
   (bC x1.2.2.2.2 1).bind fun x7=>
   (ck aF au bj kl fn r3.1 iZ r3.2.1 r3.2.2.1 (List.set mt i1.toNat mu) (List.set to i1.toNat Ds) x7 r1.1 Ds).bind fun r4=>
   aa (fun(jv:XI×XB×XE×XI×XI)=>
    some ((jv.1),(jv.2.1),(jv.2.2.1),(jv.2.2.2.1),(jv.2.2.2.2),())) fun iR=>
   bif decide ((x1.2.2.2.2.length:Int) > 2) then
    (bC x1.2.2.2.2 2).bind fun x8=>
    (ck aF au bj kl fn r4.1 iZ r4.2.1 r4.2.2.1 r4.2.2.2.1 r4.2.2.2.2.1 x8 (jv.1) Ds).bind fun r5=>
    iR (r5.1,r5.2.1,r5.2.2.1,r5.2.2.2.1,r5.2.2.2.2.1)
   else
    iR (r4.1,r4.2.1,r4.2.2.1,r4.2.2.2.1,r4.2.2.2.2.1)) fun cv=>
  bif decide ((x1.2.2.2.2.length:Int) > 2) then
   (gg fn r1.2.1 r1.2.2.1 false).bind fun r2=>
   cv (r2.1,r2.2.1,r2.2.2.1)
  else
   cv (Ds,r1.2.1,r1.2.2.1)
 else
  aa (fun(v:Bool)=>
   bif v then
    (dz aF au bj kl fn ie iZ lC gL (List.set mt i1.toNat mu) (List.set to i1.toNat Ds) i1 mu Ds).bind fun r6=>
    some (r6.1,r6.2.1,r6.2.2.1,r6.2.2.2.1,r6.2.2.2.2.1,())
   else
    bif x1.1==19 then
     (gg fn ie lC false).bind fun r7=>
     (bC x1.2.2.2.2 0).bind fun x9=>
     (jV k aF au bj kl fn r7.2.1 iZ r7.2.2.1 gL (List.set mt i1.toNat mu) (List.set to i1.toNat Ds) x9 mu Ds r7.1).bind fun r8=>
     (fj r8.2.2.1 r7.1 r7.1 4 i1 0).bind fun r9=>
     some (r8.1,r8.2.1,r9.1,List.set mt i1.toNat mu,List.set to i1.toNat Ds,())
    else
     bif x1.1==21 then
      (fj gL mu mu 6 i1 0).bind fun kz=>
      some (ie,lC,kz.1,List.set mt i1.toNat mu,List.set to i1.toNat Ds,())
     else
      bif x1.1==20 then
       (fj gL mu mu 7 i1 0).bind fun n8=>
       some (ie,lC,n8.1,List.set mt i1.toNat mu,List.set to i1.toNat Ds,())
      else
       bif x1.1==22 then
        (bC x1.2.2.2.2 0).bind fun x10=>
        (bC kl x10).bind fun x11=>
        (kr k (aF,au,bj) x11.2.2.2.1).bind fun o7=>
        (fj gL mu Ds 5 i1 o7.1).bind fun pX=>
        some (ie,lC,pX.1,List.set mt i1.toNat mu,List.set to i1.toNat Ds,())
       else
        (fj gL mu Ds 2 i1 0).bind fun rV=>
        some (ie,lC,rV.1,List.set mt i1.toNat mu,List.set to i1.toNat Ds,())) fun uR=>
  bif x1.1==15 then
   uR true
  else
   uR (x1.1==16)
def pV(ck:jE)(dy:kn)(dz:ko)(k:Nat)(aF:XA)(au:XS)(bj:XF)(kl:XN)(fn:Int)(ie iZ:XI)(lC:XB)(gL:XE)(mt to:XI)(i1 mu Ds:Int):Option (XI×XB×XE×XI×XI×Unit):=
 (bC kl i1).bind fun x1=>
 (gg fn ie lC true).bind fun r1=>
 (gg fn r1.2.1 r1.2.2.1 false).bind fun r2=>
 bif x1.1==15 then
  (fj gL mu r1.1 1 (-1) 0).bind fun r3=>
  (bC x1.2.2.2.2 0).bind fun x2=>
  (jV k aF au bj kl fn r2.2.1 iZ r2.2.2.1 r3.1 mt to x2 r1.1 r2.1 Ds).bind fun r4=>
  (bC x1.2.2.2.2 1).bind fun x3=>
  (ck aF au bj kl fn r4.1 iZ r4.2.1 r4.2.2.1 mt to x3 r2.1 r1.1).bind fun r5=>
  some (r5.1,r5.2.1,r5.2.2.1,r5.2.2.2.1,r5.2.2.2.2.1,())
 else
  (fj gL mu r1.1 8 i1 0).bind fun r6=>
  (fj r6.1 r1.1 r2.1 9 i1 1).bind fun r7=>
  (fj r7.1 r1.1 Ds 9 i1 0).bind fun r8=>
  (gg fn r2.2.1 r2.2.2.1 false).bind fun r9=>
  (bC x1.2.2.2.2 2).bind fun x4=>
  (ck aF au bj kl fn r9.2.1 iZ r9.2.2.1 r8.1 mt to x4 r2.1 r9.1).bind fun kz=>
  (fj kz.2.2.1 r9.1 r1.1 10 i1 0).bind fun n8=>
  some (kz.1,kz.2.1,n8.1,kz.2.2.2.1,kz.2.2.2.2.1,())
def ez:Nat→jE×kn×ko
 |0=>(fun _ _ _ _ _ _ _ _ _ _ _ _ _ _=>none,fun _ _ _ _ _ _ _ _ _ _ _ _ _ _=>none,fun _ _ _ _ _ _ _ _ _ _ _ _ _ _=>none)
 |k+1=>(oY (ez k).1 (ez k).2.1 (ez k).2.2 k,fV (ez k).1 (ez k).2.1 (ez k).2.2 k,pV (ez k).1 (ez k).2.1 (ez k).2.2 k)
def ji(k:Nat):jE:=(ez k).1
def jW(k:Nat):kn:=(ez k).2.1
def mN(k:Nat):ko:=(ez k).2.2
section
variable (ck:Gd a8 102 Bb) (dy:Gd a8 122 C6) (dz:Gd a8 154 C7)
def xw(k:Nat):mn:=⟨⟨56,[(120,11)],[lD 120 0 sA,lD 120 1 sS,lD 120 2 sF,lD 120 3 sN,lI 120 4,lF 120 6 I,rP 0 120,rI 3,rD 8 sI],[lF 120 5 I,lF 120 7 .bool,lF 120 8 tE,lF 120 9 I,lF 120 10 I,rI 2,rI 9],[]⟩,[.ex (.exit 0) [lF 120 5 I,lF 120 7 .bool,lF 120 8 tE,lF 120 9 I,lF 120 10 I]],fun q c v=>im ck.1 dy.1 dz.1 k q c.1 c.2.1 c.2.2.1 c.2.2.2.1 c.2.2.2.2.1 c.2.2.2.2.2.1 c.2.2.2.2.2.2.2.1 c.2.2.2.2.2.2.2.2.1 v.1 v.2.1 v.2.2.1 v.2.2.2.1 v.2.2.2.2.1 v.2.2.2.2.2.1 v.2.2.2.2.2.2.1⟩
def A4(k:Nat):Ev a8:=⟨[oK,pO,dy.cl],[lp 0 (xw ck dy dz k) k],[]⟩
def FW(k q:Nat):Cd a8:=nV (A4 ck dy dz k) f102 0 (xw ck dy dz k) q []
def Kl(k:Nat):Cl a8:=lB (A4 ck dy dz k) 102 f102 func102 call102 [] (qY (oY ck.1 dy.1 dz.1 k)) [FW ck dy dz k k]
def LZ(k:Nat):Cl a8:=lB ⟨[Aw k,oK,ck.cl,pO,Dd k,dz.cl],[],[(8,47)]⟩ 122 f122 func122 call122 [] (sV (fV ck.1 dy.1 dz.1 k)) []
def L0(k:Nat):Cl a8:=lB ⟨[oK,ck.cl,pO,Dd k],[],[(8,47)]⟩ 154 f154 func154 call154 [] (sW (pV ck.1 dy.1 dz.1 k)) []
end
theorem nC:∀ k,kZ prog gt 102 (Bb (ji k))∧kZ prog gt 122 (C6 (jW k))∧kZ prog gt 154 (C7 (mN k))
 |0=>⟨cP (fun _ _=>rfl),cP (fun _ _=>rfl),cP (fun _ _=>rfl)⟩
 |k+1=>have ih:=nC k;⟨(Kl ⟨_,ih.1⟩ ⟨_,ih.2.1⟩ ⟨_,ih.2.2⟩ k).ok,(LZ ⟨_,ih.1⟩ ⟨_,ih.2.1⟩ ⟨_,ih.2.2⟩ k).ok,(L0 ⟨_,ih.1⟩ ⟨_,ih.2.1⟩ ⟨_,ih.2.2⟩ k).ok⟩
def J6(k:Nat):Cl a8:=⟨_,_,(nC k).1⟩
def YM(k:Nat):Cl a8:=⟨_,_,(nC k).2.1⟩
def YN(k:Nat):Cl a8:=⟨_,_,(nC k).2.2⟩
def ov(q:Nat):Nat→XN→XI→XI→Int→Option (XI×XI×Unit)
 |0,_,_,_,_=>none
 |k+1,adI,mt,to,i1=>
  bif decide (i1<(adI.length:Int)) then
   (bD mt ([(-1)])).bind fun l=>
   (bD to ([(-1)])).bind fun l2=>
   ov q k adI l l2 (bh (i1+1))
  else
   some (mt,to,())
def oz(q:Nat):Nat→XF→XA→XS→XF→XN→Int→XI→XI→XB→XE→XI→XI→Int→Option (Int×XI×XI×XB×XE×XI×XI×Unit)
 |0,_,_,_,_,_,_,_,_,_,_,_,_,_=>none
 |k+1,w3,aF,au,bj,qp,fn,ie,iZ,lC,gL,mt,to,i1=>
  bif decide (i1<(w3.length:Int)) then
   (gg i1 ie lC false).bind fun r1=>
   (gg i1 r1.2.1 r1.2.2.1 false).bind fun r2=>
   (bD iZ ([r1.1])).bind fun l=>
   (bC w3 i1).bind fun x1=>
   (ji q aF au bj qp i1 r2.2.1 l r2.2.2.1 gL mt to x1.2.2.2.2 r1.1 r2.1).bind fun r3=>
   (fj r3.2.2.1 r2.1 r2.1 6 (-1) 0).bind fun r4=>
   oz q k w3 aF au bj qp i1 r3.1 l r3.2.1 r4.1 r3.2.2.2.1 r3.2.2.2.2.1 (bh (i1+1))
  else
   some (fn,ie,iZ,lC,gL,mt,to,())
def H9(k:Nat)(t:XA×XS×XF)(kl:XN):Option (XA×XS×XF×XN×Int×XI×XI×XB×XE×XI×XI×Unit):=
 (ov k k kl [] [] 0).bind fun o=>
 (oz k k t.2.2 t.1 t.2.1 t.2.2 kl 0 [] [] [] [] o.1 o.2.1 0).bind fun o2=>
 some (t.1,t.2.1,t.2.2,kl,o2.1,o2.2.1,o2.2.2.1,o2.2.2.2.1,o2.2.2.2.2.1,o2.2.2.2.2.2.1,o2.2.2.2.2.2.2.1,())
def Dm(k:Nat):mn:=⟨⟨80,[(35,3),(120,11)],[lD 35 0 sA,lD 35 1 sS,lD 35 2 sF,lD 120 0 sA,lD 120 1 sS,lD 120 2 sF,lD 120 3 sN,lI 120 4,lN 120 5,lN 120 6,lN 120 7,lN 120 8,rD 1 sN,rP 2 35,rP 5 120],[lF 120 9 I,lF 120 10 I,rI 6],[]⟩,[.ex (.exit 0) [lF 120 9 I,lF 120 10 I]],fun q c v=>ov k q c.2.2.2.2.2.2.2.2.2.2.2.2.1 v.1 v.2.1 v.2.2.1⟩
def Dn(k:Nat):mn:=⟨⟨80,[(35,3),(120,11)],[lD 35 0 sA,lD 35 1 sS,lD 35 2 sF,lD 120 0 sA,lD 120 1 sS,lD 120 2 sF,lD 120 3 sN,rP 2 35,rP 5 120],[lI 120 4,lF 120 5 I,lF 120 6 I,lF 120 7 .bool,lF 120 8 tE,lF 120 9 I,lF 120 10 I,rI 7],[]⟩,[.ex (.exit 2) [lI 120 4,lF 120 5 I,lF 120 6 I,lF 120 7 .bool,lF 120 8 tE,lF 120 9 I,lF 120 10 I]],fun q c v=>oz k q c.2.2.1 c.2.2.2.1 c.2.2.2.2.1 c.2.2.2.2.2.1 c.2.2.2.2.2.2.1 v.1 v.2.1 v.2.2.1 v.2.2.2.1 v.2.2.2.2.1 v.2.2.2.2.2.1 v.2.2.2.2.2.2.1 v.2.2.2.2.2.2.2.1⟩
def B9(k:Nat):Ev a8:=⟨[oK,J6 k,pO],[lp 0 (Dm k) k,lp 2 (Dn k) k],[(2,35),(13,120)]⟩
def Ls(k q:Nat):Cd a8:=nV (B9 k) f67 0 (Dm k) q []
def Lt(k q:Nat):Cd a8:=nV (B9 k) f67 2 (Dn k) q []
def RD(k:Nat):Cl a8:=lB (B9 k) 67 f67 func67 call67 [500000] ⟨⟨80,[],[],[rD 0 tM,rD 1 sN],[]⟩,[.ret [rP 500000 120,lD 120 0 sA,lD 120 1 sS,lD 120 2 sF,lD 120 3 sN,lI 120 4,lF 120 5 I,lF 120 6 I,lF 120 7 .bool,lF 120 8 tE,lF 120 9 I,lF 120 10 I] [(120,11,120)]],fun c v=>H9 k v.1 v.2.1⟩ [Ls k k,Lt k k]
def Ia(k:Nat)(t:XA×XS×XF)(kl:XN):Option ((XI×XI×XB×XE)×Unit):=
 (H9 k t kl).bind fun r1=>
 some ((r1.2.2.2.2.2.1,r1.2.2.2.2.2.2.1,r1.2.2.2.2.2.2.2.1,r1.2.2.2.2.2.2.2.2.1),())
def RE(k:Nat):Cl a8:=wD ⟨[RD k],[],[(2,35),(4,84)]⟩ 39 f39 func39 call39 [tM,sN] [(.da sI (.da sI (.da sB sE)))] (fun d=>Ia k d.1 d.2.1) []
def gR(q:Nat):Nat→XI→XE→Int→XB→Int→Option (XB×Unit)
 |0,_,_,_,_,_=>none
 |k+1,w5,w8,fn3,uz,i1=>
  bif decide (i1<(w8.length:Int)) then
   aa (fun(ahK:XB)=>
    gR q k w5 w8 fn3 ahK (bh (i1+1))) fun uR=>
   (bC w8 i1).bind fun x1=>
   aa (fun(v2:Bool)=>
    bif v2 then
     (bC uz x1.2.2.2.2).bind fun x6=>
     (bC uz (x1.2.2.2.2.toNat:Int)).bind fun x7=>
     uR (List.set uz x1.2.2.2.2.toNat true)
    else
     uR uz) fun iR=>
   bif x1.2.2.1==5 then
    (bC w5 x1.1).bind fun x2=>
    aa (fun(v:Bool)=>
     iR v) fun cv=>
    bif x2==fn3 then
     cv true
    else
     (bC w5 x1.1).bind fun x3=>
     (bC uz x3).bind fun x4=>
     (bC uz (x3.toNat:Int)).bind fun x5=>
     cv x5
   else
    iR false
  else
   some (uz,())
def mm(q:Nat):Nat→XI→XI→XE→Int→XB→Int→Option (XB×Unit)
 |0,_,_,_,_,_,_=>none
 |k+1,w,w2,w4,Hz,out,n=>
  bif decide (n<(w2.length:Int)) then
   (gR q q w w4 Hz out 0).bind fun o=>
   mm q k w w2 w4 Hz o.1 (bh (n+1))
  else
   some (out,())
def xU(k:Nat)(f:XI×XI×XB×XE)(fn:Int):Option (XB×Unit):=
 (mkl (f.2.1.length:Int) (false:Bool)).bind fun z=>
 (sub z 0 (f.2.1.length:Int)).bind fun l=>
 (mm k k f.1 f.2.1 f.2.2.2 fn l 0).bind fun o=>
 some (o.1,())
def Ab(k:Nat):mn:=⟨⟨61,[(84,4)],[lD 84 0 sI,lD 84 1 sI,lD 84 2 sB,lD 84 3 sE,rI 1,rP 2 84,rI 6],[(.r 5,.h .dV .bool),rI 7],[]⟩,[.ex (.exit 2) [(.r 5,.h .dV .bool)]],fun q c v=>gR k q c.1 c.2.2.2.1 c.2.2.2.2.1 v.1 v.2.1⟩
def Aa(k:Nat):mn:=⟨⟨61,[(84,4)],[lD 84 0 sI,lD 84 1 sI,lD 84 2 sB,lD 84 3 sE,rI 1,rP 2 84],[(.r 5,.h .dV .bool),rI 6],[]⟩,[.ex (.exit 0) [(.r 5,.h .dV .bool)]],fun q c v=>mm k q c.1 c.2.1 c.2.2.2.1 c.2.2.2.2.1 v.1 v.2.1⟩
def ym(k:Nat):Ev a8:=⟨[],[lp 2 (Ab k) k,lp 0 (Aa k) k],[(2,84)]⟩
def Io(k q:Nat):Cd a8:=nV (ym k) f68 2 (Ab k) q []
def In(k q:Nat):Cd a8:=nV (ym k) f68 0 (Aa k) q [Io k k]
def Nd(k:Nat):Cl a8:=wD (ym k) 68 f68 func68 call68 [(.da sI (.da sI (.da sB sE))),I] [sB] (fun d=>xU k d.1 d.2.1) [In k k]
def nt(q:Nat):Nat→XB→XB→Int→Option (XB×Unit)
 |0,_,_,_=>none
 |k+1,r2,uz,k1=>
  bif decide (k1<(r2.length:Int)) then
   (bC uz k1).bind fun x4=>
   (bC uz (k1.toNat:Int)).bind fun x5=>
   aa (fun(v:Bool)=>
    (bC uz k1).bind fun x7=>
    (bC uz (k1.toNat:Int)).bind fun x8=>
    nt q k r2 (List.set uz k1.toNat v) (bh (k1+1))) fun cv=>
   bif x5 then
    cv true
   else
    (bC r2 k1).bind fun x6=>
    cv x6
  else
   some (uz,())
def jh(q:Nat):Nat→XI→XI→XB→XE→XB→Int→Option (XB×Unit)
 |0,_,_,_,_,_,_=>none
 |k+1,w,w2,w3,w4,out,i1=>
  bif decide (i1<(w2.length:Int)) then
   aa (fun(uz:XB)=>
    jh q k w w2 w3 w4 uz (bh (i1+1))) fun cv=>
   (xU q (w,w2,w3,w4) i1).bind fun r1=>
   (bC r1.1 i1).bind fun x1=>
   bif !x1 then
    cv out
   else
    (bC out i1).bind fun x2=>
    (bC out (i1.toNat:Int)).bind fun x3=>
    (nt q q r1.1 (List.set out i1.toNat true) 0).bind fun o=>
    cv o.1
  else
   some (out,())
def E9(k:Nat)(f:XI×XI×XB×XE):Option (XB×Unit):=
 (mkl (f.2.1.length:Int) (false:Bool)).bind fun z=>
 (sub z 0 (f.2.1.length:Int)).bind fun l=>
 (jh k k f.1 f.2.1 f.2.2.1 f.2.2.2 l 0).bind fun o=>
 some (o.1,())
def BL(k:Nat):mn:=⟨⟨49,[(84,4)],[lD 84 0 sI,lD 84 1 sI,lD 84 2 sB,lD 84 3 sE,rP 1 84,rI 4,rD 5 sB],[(.r 3,.h .dV .bool),rI 6],[]⟩,[.ex (.exit 2) [(.r 3,.h .dV .bool)]],fun q c v=>nt k q c.2.2.2.2.2.2.1 v.1 v.2.1⟩
def BK(k:Nat):mn:=⟨⟨49,[(84,4)],[lD 84 0 sI,lD 84 1 sI,lD 84 2 sB,lD 84 3 sE,rP 1 84],[(.r 3,.h .dV .bool),rI 4],[]⟩,[.ex (.exit 0) [(.r 3,.h .dV .bool)]],fun q c v=>jh k q c.1 c.2.1 c.2.2.1 c.2.2.2.1 v.1 v.2.1⟩
def Ar(k:Nat):Ev a8:=⟨[Nd k],[lp 2 (BL k) k,lp 0 (BK k) k],[(1,84)]⟩
def JX(k q:Nat):Cd a8:=nV (Ar k) f40 2 (BL k) q []
def JW(k q:Nat):Cd a8:=nV (Ar k) f40 0 (BK k) q [JX k k]
def Pi(k:Nat):Cl a8:=wD (Ar k) 40 f40 func40 call40 [(.da sI (.da sI (.da sB sE)))] [sB] (fun d=>E9 k d.1) [JW k k]
def uD(k:Nat)(bB:ab):Option (((XA×XS×XF×XN×XI×XI×XB×XE×XB×Bool×Unit)⊕(XA×XS×XF×XN×XI×XI×XB×XE×XB×Bool×Unit))):=
 (dG k bB).bind fun r1=>
 bif r1.2.1.1 != 0 then
  some (.inr ([],[],[],[],[],[],[],[],[],false,()))
 else
  (gQ k bB).bind fun r2=>
  (Ia k r1.1 r2.1).bind fun r3=>
  (E9 k r3.1).bind fun r4=>
  some (.inl (r1.1.1,r1.1.2.1,r1.1.2.2,r2.1,r3.1.1,r3.1.2.1,r3.1.2.2.1,r3.1.2.2.2,r4.1,true,()))
def M7(k:Nat):Cl a8:=lB ⟨[ve k,Bh k,RE k,Pi k],[],[(4,35),(5,37),(18,86)]⟩ 21 f21 func21 call21 [500000,500001] ⟨⟨40,[],[],[rD 0 .str],[]⟩,[.ret [rP 500000 10030,lD 10030 0 sA,lD 10030 1 sS,lD 10030 2 sF,lD 10030 3 sN,lD 10030 4 sI,lD 10030 5 sI,lD 10030 6 sB,lD 10030 7 sE,lD 10030 8 sB,rD 500001 .bool] [(10030,9,86)],.ret [rP 500000 86,lD 86 0 sA,lD 86 1 sS,lD 86 2 sF,lD 86 3 sN,lD 86 4 sI,lD 86 5 sI,lD 86 6 sB,lD 86 7 sE,lD 86 8 sB,rD 500001 .bool] [(86,9,86)]],fun c v=>uD k v.1⟩ []
def gJ(q:Nat):Nat→XA→XI→Int→Option (XI×Unit)
 |0,_,_,_=>none
 |k+1,gA,out,i1=>
  bif decide (i1<(gA.length:Int)) then
   (bC gA i1).bind fun x1=>
   (bC gA i1).bind fun x2=>
   (bD out ([(bh (x1.2 - 1)),x2.2])).bind fun l=>
   gJ q k gA l (bh (i1+1))
  else
   some (out,())
def fK(q:Nat):Nat→XN→XI→Int→Option (XI×Unit)
 |0,_,_,_=>none
 |k+1,qp,out,i1=>
  bif decide (i1<(qp.length:Int)) then
   aa (fun(uz:XI)=>
    fK q k qp uz (bh (i1+1))) fun cv=>
   (bC qp i1).bind fun x1=>
   (bC qp i1).bind fun x2=>
   bif x2.1==24 then
    (bD out ([(bh (x1.2.2.1 - 1)),x1.2.2.1,(bh (x1.2.2.1+1)),(bh ((bh (0 - x1.2.2.1)) - 1)),(bh (0 - x1.2.2.1)),(bh (1 - x1.2.2.1))])).bind fun l=>
    cv l
   else
    cv out
  else
   some (out,())
def nN(k:Nat)(aF:XA)(kl:XN):Option (XI×Unit):=
 (gJ k k aF [] 0).bind fun o=>
 (fK k k kl o.1 0).bind fun o2=>
 some (o2.1,())
def wl(k:Nat):mn:=⟨⟨82,[(86,9)],[lD 86 0 sA,lD 86 1 sS,lD 86 2 sF,lD 86 3 sN,lD 86 4 sI,lD 86 5 sI,lD 86 6 sB,lD 86 7 sE,lD 86 8 sB,rP 0 86],[(.r 3,.h .dV I),rI 4],[]⟩,[.ex (.exit 0) [(.r 3,.h .dV I)]],fun q c v=>gJ k q c.1 v.1 v.2.1⟩
def wm(k:Nat):mn:=⟨⟨82,[(86,9)],[lD 86 0 sA,lD 86 1 sS,lD 86 2 sF,lD 86 3 sN,lD 86 4 sI,lD 86 5 sI,lD 86 6 sB,lD 86 7 sE,lD 86 8 sB,rP 0 86],[(.r 3,.h .dV I),rI 5],[]⟩,[.ex (.exit 2) [(.r 3,.h .dV I)]],fun q c v=>fK k q c.2.2.2.1 v.1 v.2.1⟩
def t6(k:Nat):Ev a8:=⟨[],[lp 0 (wl k) k,lp 2 (wm k) k],[]⟩
def DS(k q:Nat):Cd a8:=nV (t6 k) f22 0 (wl k) q []
def DT(k q:Nat):Cd a8:=nV (t6 k) f22 2 (wm k) q []
def IK(k:Nat):Cl a8:=lB (t6 k) 22 f22 func22 call22 [500000] ⟨⟨82,[(86,9)],[lD 86 0 sA,lD 86 1 sS,lD 86 2 sF,lD 86 3 sN,lD 86 4 sI,lD 86 5 sI,lD 86 6 sB,lD 86 7 sE,lD 86 8 sB],[rP 0 86],[]⟩,[.ret [(.r 500000,.h .dV I)] []],fun c v=>nN k c.1 c.2.2.2.1⟩ [DS k k,DT k k]
end
end Go.Fx.R5
namespace Go.Fx.R5
open Go Go.Fx Go.Proofs Go.Proofs.Tryz
noncomputable section
def vH(k:Nat)(bB:ab):Option (XI×Unit):=
 aa (fun(jv:Bool×XA×XS×XF×XN×XI×XI×XB×XE×XB)=>
  bif !(jv.1) then
   some ([],())
  else
   (nN k (jv.2.1) (jv.2.2.2.2.1)).bind fun r3=>
   some (r3.1,())) fun cv=>
 (uD k bB).bind fun r=>match r with
 |.inl r1=>
  cv (r1.2.2.2.2.2.2.2.2.2.1,r1.1,r1.2.1,r1.2.2.1,r1.2.2.2.1,r1.2.2.2.2.1,r1.2.2.2.2.2.1,r1.2.2.2.2.2.2.1,r1.2.2.2.2.2.2.2.1,r1.2.2.2.2.2.2.2.2.1)
 |.inr r2=>
  cv (r2.2.2.2.2.2.2.2.2.2.1,r2.1,r2.2.1,r2.2.2.1,r2.2.2.2.1,r2.2.2.2.2.1,r2.2.2.2.2.2.1,r2.2.2.2.2.2.2.1,r2.2.2.2.2.2.2.2.1,r2.2.2.2.2.2.2.2.2.1)
def Hu(k:Nat):Cl a8:=wD ⟨[M7 k,IK k],[],[]⟩ 7 f7 func7 call7 [.str] [sI] (fun d=>vH k d.1) []
def eL(aF:XA)(au:XS)(bj:XF)(ay:XN)(n:Int)(mq:XA):Option (Int×XA×XS×XF×XA×Unit):=
 (bC ay n).bind fun x1=>
 bif decide ((qE mq x1.2.2.2.1) > 0) then
  some (9,aF,au,bj,mq,())
 else
  aa (fun(jv:XA×XS×XF)=>
   some (0,(jv.1),(jv.2.1),(jv.2.2),ro mq x1.2.2.2.1 1,())) fun uR=>
  bif x1.1==2 then
   aa (fun(v:Bool)=>
    aa (fun(v2:Bool)=>
     bif v2 then
      some (8,aF,au,bj,ro mq x1.2.2.2.1 1,())
     else
      (bD aF ([(x1.2.2.2.1,x1.2.2.1)])).bind fun l=>
      uR (l,au,bj)) fun iR=>
    bif v then
     iR true
    else
     iR (decide (x1.2.2.1 > 64))) fun cv=>
   bif (aF.length:Int)==4 then
    cv true
   else
    cv (decide (x1.2.2.1<1))
  else
   bif x1.1==3 then
    bif (au.length:Int)==4 then
     some (8,aF,au,bj,ro mq x1.2.2.2.1 1,())
    else
     (bD au ([x1.2.2.2.1])).bind fun l2=>
     uR (aF,l2,bj)
   else
    bif x1.1==4 then
     bif (bj.length:Int)==6 then
      some (8,aF,au,bj,ro mq x1.2.2.2.1 1,())
     else
      (bC x1.2.2.2.2 (bh ((x1.2.2.2.2.length:Int) - 1))).bind fun x2=>
      (bD bj ([(x1.2.2.2.1,0,[],[],x2)])).bind fun l3=>
      uR (aF,au,l3)
    else
     uR (aF,au,bj)
def Ho:Cl a8:=lB ⟨[],[],[(9,47),(99,9999)]⟩ 72 f72 func72 call72 [500000] ⟨⟨103,[(35,3)],[],[rD 0 sN,rI 1,rP 2 35,(.r 3,.h .mp tA),lF 35 0 tA,lF 35 1 .str,lU 35 2 tF],[1000003]⟩,[.ret [rI 500000,lF 35 0 tA,lF 35 1 .str,lU 35 2 tF,(.r 3,.h .mp tA)] []],fun c v=>eL v.2.2.2.2.1 v.2.2.2.2.2.1 v.2.2.2.2.2.2.1 v.1 v.2.1 v.2.2.2.1⟩ []
def bU(q:Nat):Nat→XA→XN→XI→Int→Int→Int→Int→XS→XS→XA→Int→Option (((Int×Int×Int×XS×XS×Unit)⊕(Int×Int×Int×XS×XS×Unit)))
 |0,_,_,_,_,_,_,_,_,_,_,_=>none
 |k+1,Fh,bY,agA,agB,w,w2,sZ,A5,CW,gz,YE=>
  bif decide (YE<agB) then
   (bC agA YE).bind fun x1=>
   (bC bY x1).bind fun x2=>
   aa (fun(v:Bool)=>
    bif v then
     some (.inr (9,x2.2.1,sZ,A5,CW,()))
    else
     aa (fun(jv:Bool×Int×XS×XS)=>
      bif (jv.1) then
       some (.inr (8,x2.2.1,(jv.2.1),(jv.2.2.1),(jv.2.2.2),()))
      else
       bU q k Fh bY agA agB w w2 (jv.2.1) (jv.2.2.1) (jv.2.2.2) (ro gz x2.2.2.2.1 1) (bh (YE+1))) fun uR=>
     bif x2.1==7 then
      (bD CW ([x2.2.2.2.1])).bind fun l2=>
      uR ((CW.length:Int)==3,sZ,A5,l2)
     else
      bif x2.1==5 then
       aa (fun(v2:Bool)=>
        (bD A5 ([x2.2.2.2.1])).bind fun l3=>
        uR (v2,(bh (sZ+1)),l3,CW)) fun iR=>
       bif (A5.length:Int)==8 then
        iR true
       else
        iR (sZ==3)
      else
       (bD A5 ([x2.2.2.2.1])).bind fun l4=>
       uR ((A5.length:Int)==8,sZ,l4,CW)) fun cv=>
   bif decide ((qE Fh x2.2.2.2.1) > 0) then
    cv true
   else
    cv (decide ((qE gz x2.2.2.2.1) > 0))
  else
   some (.inl (w,w2,sZ,A5,CW,()))
def td(k:Nat)(wG:Int)(Lu Lv:XS)(ay:XN)(nW:Int×Int×Int×ab×XI)(mq:XA):Option ((Int×Int)×Int×XS×XS×XA×Unit):=
 (sub nW.2.2.2.2 0 (bh ((nW.2.2.2.2.length:Int) - 1))).bind fun l=>
 (bU k k mq ay l (l.length:Int) 0 0 wG Lu Lv ([]:XA) 0).bind fun r=>match r with
 |.inl o=>
  some ((0,0),o.2.2.1,o.2.2.2.1,o.2.2.2.2.1,mq,())
 |.inr o2=>
  some ((o2.1,o2.2.1),o2.2.2.1,o2.2.2.2.1,o2.2.2.2.2.1,mq,())
def wh(k:Nat):mn:=⟨⟨126,[(37,2),(47,5),(67,5)],[(.r 3,.h .mp tA),lI 47 0,lI 47 1,lI 47 2,lD 47 3 .str,lD 47 4 sI,lD 67 0 .str,lI 67 4,rD 0 sN,rP 2 67,rP 8 37,rD 21 sI,rI 22],[lI 37 0,lI 37 1,lI 67 1,lF 67 2 .str,lF 67 3 .str,(.r 9,.h .mp tA),rI 23],[1000003]⟩,[.ex (.exit 0) [lI 37 0,lI 37 1,lI 67 1,lF 67 2 .str,lF 67 3 .str],.ex .ret [lI 37 0,lI 37 1,lI 67 1,lF 67 2 .str,lF 67 3 .str]],fun q c v=>bU k q c.1 c.2.2.2.2.2.2.2.2.1 c.2.2.2.2.2.2.2.2.2.2.2.1 c.2.2.2.2.2.2.2.2.2.2.2.2.1 v.1 v.2.1 v.2.2.1 v.2.2.2.1 v.2.2.2.2.1 v.2.2.2.2.2.1 v.2.2.2.2.2.2.1⟩
def zG(k:Nat):Ev a8:=⟨[],[lp 0 (wh k) k],[(5,47),(8,37)]⟩
def DP(k q:Nat):Cd a8:=nV (zG k) f73 0 (wh k) q []
def IJ(k:Nat):Cl a8:=lB (zG k) 73 f73 func73 call73 [500000] ⟨⟨126,[(67,5)],[lD 67 0 .str,lI 67 4],[rD 0 sN,rD 1 tN,rP 2 67,(.r 3,.h .mp tA),lI 67 1,lF 67 2 .str,lF 67 3 .str],[1000003]⟩,[.ret [rD 500000 tP,lI 67 1,lF 67 2 .str,lF 67 3 .str,(.r 3,.h .mp tA)] []],fun c v=>td k v.2.2.2.2.1 v.2.2.2.2.2.1 v.2.2.2.2.2.2.1 v.1 v.2.1 v.2.2.2.1⟩ [DP k k]
def kK(q:Nat):Nat→XF→Int→Int→Option (((Unit)⊕(Int×Unit)))
 |0,_,_,_=>none
 |k+1,t61,t71,t81=>
  bif decide (t81<t71) then
   (bC t61 t81).bind fun x1=>
   bif x1.1==([109,97,105,110]:ab) then
    some (.inr (t81,()))
   else
    kK q k t61 t71 (bh (t81+1))
  else
   some (.inl ())
def vN(k:Nat)(t:XA×XS×XF):Option (Int×Unit):=
 (kK k k t.2.2 (t.2.2.length:Int) 0).bind fun r=>match r with
 |.inl o=>
  some ((-1),())
 |.inr o2=>
  some (o2.1,())
def yT(k:Nat):mn:=⟨⟨18,[(35,3)],[lD 35 0 sA,lD 35 1 sS,lD 35 2 sF,rD 6 sF,rI 7],[rI 8],[]⟩,[.ex (.exit 0) [],.ex .ret [rI 2]],fun q c v=>kK k q c.2.2.2.1 c.2.2.2.2.1 v.1⟩
def CK(k:Nat):Ev a8:=⟨[],[lp 0 (yT k) k],[(1,35)]⟩
def GX(k q:Nat):Cd a8:=nV (CK k) f74 0 (yT k) q []
def LB(k:Nat):Cl a8:=wD (CK k) 74 f74 func74 call74 [tM] [I] (fun d=>vN k d.1) [GX k k]
def ka(q:Nat):Nat→ab→XS→Int→Int→Option (((Unit)⊕(Int×Unit)))
 |0,_,_,_,_=>none
 |k+1,u7,t71,t81,t91=>
  bif decide (t91<t81) then
   (bC t71 t91).bind fun x1=>
   bif x1==u7 then
    some (.inr (t91,()))
   else
    ka q k u7 t71 t81 (bh (t91+1))
  else
   some (.inl ())
def m9(k:Nat)(adv:XS)(name:ab):Option (Int×Unit):=
 (ka k k name adv (adv.length:Int) 0).bind fun r=>match r with
 |.inl o=>
  some ((-1),())
 |.inr o2=>
  some (o2.1,())
def xh(k:Nat):mn:=⟨⟨19,[],[rD 1 .str,rD 7 sS,rI 8],[rI 9],[]⟩,[.ex (.exit 0) [],.ex .ret [rI 4]],fun q c v=>ka k q c.1 c.2.1 c.2.2.1 v.1⟩
def AW(k:Nat):Ev a8:=⟨[],[lp 0 (xh k) k],[]⟩
def FJ(k q:Nat):Cd a8:=nV (AW k) f114 0 (xh k) q []
def J2(k:Nat):Cl a8:=wD (AW k) 114 f114 func114 call114 [sS,.str] [I] (fun d=>m9 k d.1 d.2.1) [FJ k k]
def kG(q:Nat):Nat→ab→ab→XF→Int→Int→Option (((Unit)⊕(Int×Int×Unit)))
 |0,_,_,_,_,_=>none
 |k+1,Hz,u7,agy,agz,aeV=>
  bif decide (aeV<agz) then
   (bC agy aeV).bind fun x1=>
   bif !(x1.1==Hz) then
    kG q k Hz u7 agy agz (bh (aeV+1))
   else
    (m9 q x1.2.2.1 u7).bind fun r1=>
    bif decide (r1.1≥0) then
     some (.inr (3,r1.1,()))
    else
     (m9 q x1.2.2.2.1 u7).bind fun r2=>
     bif decide (r2.1≥0) then
      some (.inr (4,r2.1,()))
     else
      some (.inl ())
  else
   some (.inl ())
def jH(q:Nat):Nat→ab→XA→Int→Int→Option (((Unit)⊕(Int×Int×Unit)))
 |0,_,_,_,_=>none
 |k+1,u7,abf,abg,ON=>
  bif decide (ON<abg) then
   (bC abf ON).bind fun x1=>
   bif x1.1==u7 then
    some (.inr (1,ON,()))
   else
    jH q k u7 abf abg (bh (ON+1))
  else
   some (.inl ())
def jI(q:Nat):Nat→ab→XF→Int→Int→Option (((Unit)⊕(Int×Int×Unit)))
 |0,_,_,_,_=>none
 |k+1,u7,agH,agI,acF=>
  bif decide (acF<agI) then
   (bC agH acF).bind fun x1=>
   bif x1.1==u7 then
    some (.inr (5,acF,()))
   else
    jI q k u7 agH agI (bh (acF+1))
  else
   some (.inl ())
def fF(k:Nat)(t:XA×XS×XF)(fn name:ab):Option (Int×Int×Unit):=
 (kG k k fn name t.2.2 (t.2.2.length:Int) 0).bind fun r=>match r with
 |.inl o=>
  (jH k k name t.1 (t.1.length:Int) 0).bind fun r=>match r with
  |.inl o3=>
   (m9 k t.2.1 name).bind fun r1=>
   bif decide (r1.1≥0) then
    some (2,r1.1,())
   else
    (jI k k name t.2.2 (t.2.2.length:Int) 0).bind fun r=>match r with
    |.inl o5=>
     some (0,0,())
    |.inr o6=>
     some (o6.1,o6.2.1,())
  |.inr o4=>
   some (o4.1,o4.2.1,())
 |.inr o2=>
  some (o2.1,o2.2.1,())
def yH(k:Nat):mn:=⟨⟨78,[(35,3)],[lD 35 0 sA,lD 35 1 sS,lD 35 2 sF,rD 1 .str,rD 2 .str,rP 3 35,rD 18 sF,rI 19],[rI 20],[]⟩,[.ex (.exit 0) [],.ex .ret [rI 6,rI 7]],fun q c v=>kG k q c.2.2.2.1 c.2.2.2.2.1 c.2.2.2.2.2.2.1 c.2.2.2.2.2.2.2.1 v.1⟩
def yI(k:Nat):mn:=⟨⟨78,[(35,3)],[lD 35 0 sA,lD 35 1 sS,lD 35 2 sF,rD 2 .str,rP 3 35,rD 44 sA,rI 45],[rI 46],[]⟩,[.ex (.exit 2) [],.ex .ret [rI 6,rI 7]],fun q c v=>jH k q c.2.2.2.1 c.2.2.2.2.2.1 c.2.2.2.2.2.2.1 v.1⟩
def yJ(k:Nat):mn:=⟨⟨78,[(35,3)],[lD 35 0 sA,lD 35 1 sS,lD 35 2 sF,rD 2 .str,rD 65 sF,rI 66],[rI 67],[]⟩,[.ex (.exit 4) [],.ex .ret [rI 6,rI 7]],fun q c v=>jI k q c.2.2.2.1 c.2.2.2.2.1 c.2.2.2.2.2.1 v.1⟩
def sX(k:Nat):Ev a8:=⟨[J2 k],[lp 0 (yH k) k,lp 2 (yI k) k,lp 4 (yJ k) k],[(3,35)]⟩
def GL(k q:Nat):Cd a8:=nV (sX k) f76 0 (yH k) q []
def GM(k q:Nat):Cd a8:=nV (sX k) f76 2 (yI k) q []
def GN(k q:Nat):Cd a8:=nV (sX k) f76 4 (yJ k) q []
def wK(k:Nat):Cl a8:=wD (sX k) 76 f76 func76 call76 [tM,.str,.str] [I,I] (fun d=>fF k d.1 d.2.1 d.2.2.1) [GL k k,GM k k,GN k k]
def gI(k:Nat)(aF:XA)(au:XS)(bj:XF)(rY name:ab):Option (Int×Unit):=
 (fF k (aF,au,bj) rY name).bind fun r1=>
 some (r1.1,())
def wc(k:Nat):Cl a8:=lB ⟨[wK k],[],[]⟩ 134 f134 func134 call134 [500000] ⟨⟨22,[(137,10)],[lD 137 0 sN,lD 137 1 sA,lD 137 2 sS,lD 137 3 sF,lD 137 4 .str,lI 137 5,lD 137 6 sS,lD 137 7 sS,lI 137 8,lH .mp 137 9 tA],[rP 0 137,rD 1 .str],[]⟩,[.ret [rI 500000] []],fun c v=>gI k c.2.1 c.2.2.1 c.2.2.2.1 c.2.2.2.2.1 v.2.1⟩ []
def eq(q:Nat):Nat→Int→XI→Int→Int→Option (((Unit)⊕(Int×Unit)))
 |0,_,_,_,_=>none
 |k+1,EA,Ml,SF,t171=>
  bif decide (t171<SF) then
   (bC Ml t171).bind fun x1=>
   bif x1==EA then
    some (.inr (0,()))
   else
    eq q k EA Ml SF (bh (t171+1))
  else
   some (.inl ())
def dK(k:Nat)(aF:XA)(au:XS)(bj:XF)(rY name:ab)(my:XI):Option (Int×Unit):=
 (gI k aF au bj rY name).bind fun r1=>
 bif r1.1==0 then
  some (10,())
 else
  (eq k k r1.1 my (my.length:Int) 0).bind fun r=>match r with
  |.inl o=>
   some (11,())
  |.inr o2=>
   some (o2.1,())
def tJ(k:Nat):mn:=⟨⟨25,[(137,10)],[lD 137 0 sN,lD 137 1 sA,lD 137 2 sS,lD 137 3 sF,lD 137 4 .str,lI 137 5,lD 137 6 sS,lD 137 7 sS,lI 137 8,lH .mp 137 9 tA,rI 7,rD 15 sI,rI 16],[rI 17],[]⟩,[.ex (.exit 0) [],.ex .ret [rI 6]],fun q c v=>eq k q c.2.2.2.2.2.2.2.2.2.2.1 c.2.2.2.2.2.2.2.2.2.2.2.1 c.2.2.2.2.2.2.2.2.2.2.2.2.1 v.1⟩
def vX(k:Nat):Ev a8:=⟨[wc k],[lp 0 (tJ k) k],[]⟩
def AU(k q:Nat):Cd a8:=nV (vX k) f137 0 (tJ k) q []
def lj(k:Nat):Cl a8:=lB (vX k) 137 f137 func137 call137 [500000] ⟨⟨25,[(137,10)],[lD 137 0 sN,lD 137 1 sA,lD 137 2 sS,lD 137 3 sF,lD 137 4 .str,lI 137 5,lD 137 6 sS,lD 137 7 sS,lI 137 8,lH .mp 137 9 tA],[rP 0 137,rD 1 .str,rD 2 sI],[]⟩,[.ret [rI 500000] []],fun c v=>dK k c.2.1 c.2.2.1 c.2.2.2.1 c.2.2.2.2.1 v.2.1 v.2.2.1⟩ [AU k k]
def jL(k:Nat)(ay:XN)(aF:XA)(au:XS)(bj:XF)(rY:ab)(nW:Int×Int×Int×ab×XI):Option ((Int×Int)×Unit):=
 (bC nW.2.2.2.2 0).bind fun x1=>
 (bC ay x1).bind fun x2=>
 bif x2.1==29 then
  some ((0,0),())
 else
  bif x2.1==25 then
   (dK k aF au bj rY x2.2.2.2.1 ([4])).bind fun r1=>
   bif r1.1 != 0 then
    some ((r1.1,x2.2.1),())
   else
    some ((0,0),())
  else
   some ((11,nW.2.1),())
def Cf(k:Nat):Cl a8:=lB ⟨[lj k],[],[(3,47),(4,37)]⟩ 135 f135 func135 call135 [500000] ⟨⟨39,[(137,10)],[lD 137 0 sN,lD 137 1 sA,lD 137 2 sS,lD 137 3 sF,lD 137 4 .str,lI 137 5,lD 137 6 sS,lD 137 7 sS,lI 137 8,lH .mp 137 9 tA],[rP 0 137,rD 1 tN],[]⟩,[.ret [rD 500000 tP] []],fun c v=>jL k c.1 c.2.1 c.2.2.1 c.2.2.2.1 c.2.2.2.2.1 v.2.1⟩ []
def ng(k:Nat)(aF:XA)(au:XS)(bj:XF)(rY:ab)(rM:XA)(name:ab)(my:XI):Option (Int×Unit):=
 (dK k aF au bj rY name my).bind fun r1=>
 bif r1.1 != 0 then
  some (r1.1,())
 else
  bif decide ((qE rM name) > 0) then
   some (11,())
  else
   some (0,())
def D9(k:Nat):Cl a8:=lB ⟨[lj k],[],[]⟩ 159 f159 func159 call159 [500000] ⟨⟨22,[(137,10)],[lD 137 0 sN,lD 137 1 sA,lD 137 2 sS,lD 137 3 sF,lD 137 4 .str,lI 137 5,lD 137 6 sS,lD 137 7 sS,lI 137 8,lH .mp 137 9 tA],[rP 0 137,rD 1 .str,rD 2 sI],[]⟩,[.ret [rI 500000] []],fun c v=>ng k c.2.1 c.2.2.1 c.2.2.2.1 c.2.2.2.2.1 c.2.2.2.2.2.2.2.2.2.1 v.2.1 v.2.2.1⟩ []
def cM(k:Nat)(aF:XA)(au:XS)(bj:XF)(rY:ab)(rM:XA)(nW:Int×Int×Int×ab×XI):Option (Int×Unit):=
 bif nW.1==25 then
  (dK k aF au bj rY nW.2.2.2.1 ([3,2])).bind fun r1=>
  some (r1.1,())
 else
  aa (fun(v:Bool)=>
   bif v then
    (dK k aF au bj rY nW.2.2.2.1 ([1])).bind fun r2=>
    some (r2.1,())
   else
    aa (fun(v2:Bool)=>
     bif v2 then
      (dK k aF au bj rY nW.2.2.2.1 ([4])).bind fun r3=>
      some (r3.1,())
     else
      aa (fun(v3:Bool)=>
       bif v3 then
        (ng k aF au bj rY rM nW.2.2.2.1 ([3,2])).bind fun r4=>
        some (r4.1,())
       else
        bif nW.1==16 then
         (ng k aF au bj rY rM nW.2.2.2.1 ([3])).bind fun r5=>
         some (r5.1,())
        else
         some (0,())) fun uR=>
      bif nW.1==17 then
       uR (nW.1==17)
      else
       bif nW.1==22 then
        uR (nW.1==22)
       else
        uR (nW.1==9)) fun iR=>
    bif nW.1==27 then
     iR (nW.1==27)
    else
     bif nW.1==11 then
      iR (nW.1==11)
     else
      bif nW.1==13 then
       iR (nW.1==13)
      else
       bif nW.1==34 then
        iR (nW.1==34)
       else
        iR (nW.1==12)) fun cv=>
  bif nW.1==26 then
   cv (nW.1==26)
  else
   cv (nW.1==10)
def D8(k:Nat):Cl a8:=lB ⟨[lj k,D9 k],[],[(3,47)]⟩ 136 f136 func136 call136 [500000] ⟨⟨49,[(137,10)],[lD 137 0 sN,lD 137 1 sA,lD 137 2 sS,lD 137 3 sF,lD 137 4 .str,lI 137 5,lD 137 6 sS,lD 137 7 sS,lI 137 8,lH .mp 137 9 tA],[rP 0 137,rD 1 tN],[]⟩,[.ret [rI 500000] []],fun c v=>cM k c.2.1 c.2.2.1 c.2.2.2.1 c.2.2.2.2.1 c.2.2.2.2.2.2.2.2.2.1 v.2.1⟩ []
def lr(k:Nat)(ay:XN)(aF:XA)(au:XS)(bj:XF)(rY:ab)(nW:Int×Int×Int×ab×XI):Option ((Int×Int)×Unit):=
 (bC nW.2.2.2.2 0).bind fun x1=>
 (bC ay x1).bind fun x2=>
 (dK k aF au bj rY x2.2.2.2.1 ([5])).bind fun r1=>
 bif r1.1 != 0 then
  some ((r1.1,x2.2.1),())
 else
  (fF k (aF,au,bj) rY x2.2.2.2.1).bind fun r2=>
  (bC bj r2.2.1).bind fun x3=>
  bif (bh ((nW.2.2.2.2.length:Int) - 1)) != x3.2.1 then
   some ((12,x2.2.1),())
  else
   some ((0,0),())
def Ce(k:Nat):Cl a8:=lB ⟨[wK k,lj k],[],[(3,47),(4,37)]⟩ 138 f138 func138 call138 [500000] ⟨⟨63,[(137,10)],[lD 137 0 sN,lD 137 1 sA,lD 137 2 sS,lD 137 3 sF,lD 137 4 .str,lI 137 5,lD 137 6 sS,lD 137 7 sS,lI 137 8,lH .mp 137 9 tA],[rP 0 137,rD 1 tN],[]⟩,[.ret [rD 500000 tP] []],fun c v=>lr k c.1 c.2.1 c.2.2.1 c.2.2.2.1 c.2.2.2.2.1 v.2.1⟩ []
end
end Go.Fx.R5
namespace Go.Fx.R5
open Go Go.Fx Go.Proofs Go.Proofs.Tryz
noncomputable section
abbrev eX:=XN→XA→XS→XF→ab→Int→XS→XS→Int→XA→Int→Option ((Int×Int)×XA×Unit)
def nv(f:eX):CV:=⟨⟨30,[(137,10)],[lD 137 0 sN,lD 137 1 sA,lD 137 2 sS,lD 137 3 sF,lD 137 4 .str,lI 137 5,lD 137 6 sS,lD 137 7 sS,lI 137 8],[rP 0 137,rI 1,lH .mp 137 9 tA],[]⟩,[.ret [rD 500000 tP,lH .mp 137 9 tA] []],fun c v=>f c.1 c.2.1 c.2.2.1 c.2.2.2.1 c.2.2.2.2.1 c.2.2.2.2.2.1 c.2.2.2.2.2.2.1 c.2.2.2.2.2.2.2.1 c.2.2.2.2.2.2.2.2.1 v.2.2.1 v.2.1⟩
def uO(f:eX):iF:=lZ (nv f).L (nv f).F (zQ [500000] (nv f).V)
abbrev eY:=XN→XA→XS→XF→ab→Int→XS→XS→Int→XA→Int→Option ((Int×Int)×XA×Unit)
def nw(f:eY):CV:=⟨⟨100,[(137,10)],[lD 137 0 sN,lD 137 1 sA,lD 137 2 sS,lD 137 3 sF,lD 137 4 .str,lI 137 5,lD 137 6 sS,lD 137 7 sS,lI 137 8],[rP 0 137,rI 1,lH .mp 137 9 tA],[]⟩,[.ret [rD 500000 tP,lH .mp 137 9 tA] []],fun c v=>f c.1 c.2.1 c.2.2.1 c.2.2.2.1 c.2.2.2.2.1 c.2.2.2.2.2.1 c.2.2.2.2.2.2.1 c.2.2.2.2.2.2.2.1 c.2.2.2.2.2.2.2.2.1 v.2.2.1 v.2.1⟩
def uP(f:eY):iF:=lZ (nw f).L (nw f).F (zQ [500000] (nw f).V)
abbrev dR:=XN→XA→XS→XF→ab→Int→XS→XS→Int→XA→(Int×Int×Int×ab×XI)→Option ((Int×Int)×XA×Unit)
def kX(f:dR):CV:=⟨⟨44,[(137,10)],[lD 137 0 sN,lD 137 1 sA,lD 137 2 sS,lD 137 3 sF,lD 137 4 .str,lI 137 5,lD 137 6 sS,lD 137 7 sS,lI 137 8],[rP 0 137,rD 1 tN,lH .mp 137 9 tA],[]⟩,[.ret [rD 500000 tP,lH .mp 137 9 tA] []],fun c v=>f c.1 c.2.1 c.2.2.1 c.2.2.2.1 c.2.2.2.2.1 c.2.2.2.2.2.1 c.2.2.2.2.2.2.1 c.2.2.2.2.2.2.2.1 c.2.2.2.2.2.2.2.2.1 v.2.2.1 v.2.1⟩
def rZ(f:dR):iF:=lZ (kX f).L (kX f).F (zQ [500000] (kX f).V)
def aM(aB:eX)(aw:eY)(an:dR)(q:Nat):Nat→XN→XA→XS→XF→ab→Int→XS→XS→Int→XI→Int→Int→Int→XA→Int→Option (((Int×Int×XA×Unit)⊕(Int×Int×XA×Unit)))
 |0,_,_,_,_,_,_,_,_,_,_,_,_,_,_,_=>none
 |k+1,bY,gA,gn,jP,SW,sZ,A5,CW,SP,Ml,SF,w,w2,C9,t171=>
  bif decide (t171<SF) then
   (bC Ml t171).bind fun x2=>
   (aw bY gA gn jP SW sZ A5 CW SP C9 x2).bind fun r1=>
   bif r1.1.1 != 0 then
    some (.inr (r1.1.1,r1.1.2,r1.2.1,()))
   else
    aM aB aw an q k bY gA gn jP SW sZ A5 CW SP Ml SF w w2 r1.2.1 (bh (t171+1))
  else
   some (.inl (w,w2,C9,()))
def kB(aB:eX)(aw:eY)(an:dR)(k:Nat)(ay:XN)(aF:XA)(au:XS)(bj:XF)(rY:ab)(wG:Int)(Lu Lv:XS)(O6:Int)(rM:XA)(n:Int):Option ((Int×Int)×XA×Unit):=
 (bC ay n).bind fun x1=>
 (aM aB aw an k k ay aF au bj rY wG Lu Lv O6 x1.2.2.2.2 (x1.2.2.2.2.length:Int) 0 0 rM 0).bind fun r=>match r with
 |.inl o=>
  some ((0,0),o.2.2.1,())
 |.inr o2=>
  some ((o2.1,o2.2.1),o2.2.2.1,())
def aU(aB:eX)(aw:eY)(an:dR)(k:Nat)(ay:XN)(aF:XA)(au:XS)(bj:XF)(rY:ab)(wG:Int)(Lu Lv:XS)(O6:Int)(rM:XA)(n:Int):Option ((Int×Int)×XA×Unit):=
 (bC ay n).bind fun x1=>
 aa (fun(v:Bool)=>
  bif v then
   (jL k ay aF au bj rY x1).bind fun r2=>
   some (r2.1,rM,())
  else
   (cM k aF au bj rY rM x1).bind fun r3=>
   bif r3.1 != 0 then
    some ((r3.1,x1.2.1),rM,())
   else
    aa (fun(_:Unit)=>
     (aB ay aF au bj rY wG Lu Lv O6 rM n).bind fun r7=>
     some (r7.1,r7.2.1,())) fun iR=>
    bif x1.1==9 then
     (bC x1.2.2.2.2 0).bind fun x2=>
     (bC ay x2).bind fun x3=>
     bif x3.1==29 then
      some ((11,x3.2.1),rM,())
     else
      iR ()
    else
     bif x1.1==12 then
      (bC x1.2.2.2.2 0).bind fun x4=>
      (bC ay x4).bind fun x5=>
      (dK k aF au bj rY x5.2.2.2.1 ([1])).bind fun r4=>
      bif r4.1 != 0 then
       some ((r4.1,x5.2.1),rM,())
      else
       iR ()
     else
      bif x1.1==22 then
       (lr k ay aF au bj rY x1).bind fun r5=>
       bif r5.1.1 != 0 then
        some (r5.1,rM,())
       else
        iR ()
      else
       bif x1.1==16 then
        (an ay aF au bj rY wG Lu Lv O6 rM x1).bind fun r6=>
        some (r6.1,r6.2.1,())
       else
        iR ()) fun cv=>
 bif x1.1==9 then
  (gI k aF au bj rY x1.2.2.2.1).bind fun r1=>
  cv (r1.1==4)
 else
  cv false
def cI(aB:eX)(aw:eY)(an:dR)(q:Nat):Nat→XN→XA→XS→XF→ab→Int→XS→XS→Int→XI→Int→Int→Int→XA→Int→Option (((Int×Int×XA×Unit)⊕(Int×Int×XA×Unit)))
 |0,_,_,_,_,_,_,_,_,_,_,_,_,_,_,_=>none
 |k+1,bY,gA,gn,jP,acT,sZ,A5,CW,SP,agw,t121,w,w2,C9,YD=>
  bif decide (YD<t121) then
   (bC agw YD).bind fun x1=>
   (aw bY gA gn jP acT sZ A5 CW SP C9 x1).bind fun r1=>
   bif r1.1.1 != 0 then
    some (.inr (r1.1.1,r1.1.2,r1.2.1,()))
   else
    cI aB aw an q k bY gA gn jP acT sZ A5 CW SP agw t121 w w2 r1.2.1 (bh (YD+1))
  else
   some (.inl (w,w2,C9,()))
def gS(aB:eX)(aw:eY)(an:dR)(k:Nat)(ay:XN)(aF:XA)(au:XS)(bj:XF)(rY:ab)(wG:Int)(Lu Lv:XS)(O6:Int)(rM:XA)(nW:Int×Int×Int×ab×XI):Option ((Int×Int)×XA×Unit):=
 (sub nW.2.2.2.2 0 2).bind fun l=>
 (cI aB aw an k k ay aF au bj rY wG Lu Lv O6 l (l.length:Int) 0 0 rM 0).bind fun r=>match r with
 |.inl o=>
  (bC nW.2.2.2.2 2).bind fun x1=>
  (aw ay aF au bj rY wG Lu Lv O6 (ro o.2.2.1 nW.2.2.2.1 1) x1).bind fun r1=>
  some (r1.1,ro r1.2.1 nW.2.2.2.1 0,())
 |.inr o2=>
  some ((o2.1,o2.2.1),o2.2.2.1,())
def cJ:Nat→eX×eY×dR
 |0=>(fun _ _ _ _ _ _ _ _ _ _ _=>none,fun _ _ _ _ _ _ _ _ _ _ _=>none,fun _ _ _ _ _ _ _ _ _ _ _=>none)
 |k+1=>(kB (cJ k).1 (cJ k).2.1 (cJ k).2.2 k,aU (cJ k).1 (cJ k).2.1 (cJ k).2.2 k,gS (cJ k).1 (cJ k).2.1 (cJ k).2.2 k)
def bL(k:Nat):eX:=(cJ k).1
def co(k:Nat):eY:=(cJ k).2.1
def bV(k:Nat):dR:=(cJ k).2.2
section
variable (aB:Gd a8 75 uO) (aw:Gd a8 113 uP) (an:Gd a8 139 rZ)
def sj(k:Nat):mn:=⟨⟨30,[(37,2),(137,10)],[lD 137 0 sN,lD 137 1 sA,lD 137 2 sS,lD 137 3 sF,lD 137 4 .str,lI 137 5,lD 137 6 sS,lD 137 7 sS,lI 137 8,rP 0 137,rP 4 37,rD 15 sI,rI 16],[lI 37 0,lI 37 1,lH .mp 137 9 tA,rI 17],[]⟩,[.ex (.exit 0) [lI 37 0,lI 37 1,lH .mp 137 9 tA],.ex .ret [lI 37 0,lI 37 1,lH .mp 137 9 tA]],fun q c v=>aM aB.1 aw.1 an.1 k q c.1 c.2.1 c.2.2.1 c.2.2.2.1 c.2.2.2.2.1 c.2.2.2.2.2.1 c.2.2.2.2.2.2.1 c.2.2.2.2.2.2.2.1 c.2.2.2.2.2.2.2.2.1 c.2.2.2.2.2.2.2.2.2.2.2.1 c.2.2.2.2.2.2.2.2.2.2.2.2.1 v.1 v.2.1 v.2.2.1 v.2.2.2.1⟩
def uM(k:Nat):Ev a8:=⟨[aw.cl],[lp 0 (sj aB aw an k) k],[(4,37)]⟩
def Am(k q:Nat):Cd a8:=nV (uM aB aw an k) f75 0 (sj aB aw an k) q []
def DG(k:Nat):Cl a8:=lB (uM aB aw an k) 75 f75 func75 call75 [500000] (nv (kB aB.1 aw.1 an.1 k)) [Am aB aw an k k]
def DH(k:Nat):Cl a8:=lB ⟨[aB.cl,wc k,Cf k,D8 k,lj k,Ce k,an.cl],[],[(4,37),(5,47)]⟩ 113 f113 func113 call113 [500000] (nw (aU aB.1 aw.1 an.1 k)) []
def qk(k:Nat):mn:=⟨⟨44,[(37,2),(47,5),(137,10)],[lI 47 0,lI 47 1,lI 47 2,lD 47 3 .str,lD 47 4 sI,lD 137 0 sN,lD 137 1 sA,lD 137 2 sS,lD 137 3 sF,lD 137 4 .str,lI 137 5,lD 137 6 sS,lD 137 7 sS,lI 137 8,rP 0 137,rP 3 47,rP 4 37,rD 11 sI,rI 12],[lI 37 0,lI 37 1,lH .mp 137 9 tA,rI 13],[]⟩,[.ex (.exit 0) [lI 37 0,lI 37 1,lH .mp 137 9 tA],.ex .ret [lI 37 0,lI 37 1,lH .mp 137 9 tA]],fun q c v=>cI aB.1 aw.1 an.1 k q c.2.2.2.2.2.1 c.2.2.2.2.2.2.1 c.2.2.2.2.2.2.2.1 c.2.2.2.2.2.2.2.2.1 c.2.2.2.2.2.2.2.2.2.1 c.2.2.2.2.2.2.2.2.2.2.1 c.2.2.2.2.2.2.2.2.2.2.2.1 c.2.2.2.2.2.2.2.2.2.2.2.2.1 c.2.2.2.2.2.2.2.2.2.2.2.2.2.1 c.2.2.2.2.2.2.2.2.2.2.2.2.2.2.2.2.2.1 c.2.2.2.2.2.2.2.2.2.2.2.2.2.2.2.2.2.2.1 v.1 v.2.1 v.2.2.1 v.2.2.2.1⟩
def rW(k:Nat):Ev a8:=⟨[aw.cl],[lp 0 (qk aB aw an k) k],[(3,47),(4,37)]⟩
def xz(k q:Nat):Cd a8:=nV (rW aB aw an k) f139 0 (qk aB aw an k) q []
def Ay(k:Nat):Cl a8:=lB (rW aB aw an k) 139 f139 func139 call139 [500000] (kX (gS aB.1 aw.1 an.1 k)) [xz aB aw an k k]
end
theorem j0:∀ k,kZ prog gt 75 (uO (bL k))∧kZ prog gt 113 (uP (co k))∧kZ prog gt 139 (rZ (bV k))
 |0=>⟨cP (fun _ _=>rfl),cP (fun _ _=>rfl),cP (fun _ _=>rfl)⟩
 |k+1=>have ih:=j0 k;⟨(DG ⟨_,ih.1⟩ ⟨_,ih.2.1⟩ ⟨_,ih.2.2⟩ k).ok,(DH ⟨_,ih.1⟩ ⟨_,ih.2.1⟩ ⟨_,ih.2.2⟩ k).ok,(Ay ⟨_,ih.1⟩ ⟨_,ih.2.1⟩ ⟨_,ih.2.2⟩ k).ok⟩
def DD(k:Nat):Cl a8:=⟨_,_,(j0 k).1⟩
def SM(k:Nat):Cl a8:=⟨_,_,(j0 k).2.1⟩
def Pb(k:Nat):Cl a8:=⟨_,_,(j0 k).2.2⟩
def dJ(q:Nat):Nat→XN→XI→Int→XA→XS→XF→Int→Int→XA→Int→Option (((XA×XS×XF×Int×Int×XA×Unit)⊕(Int×Int×Unit)))
 |0,_,_,_,_,_,_,_,_,_,_=>none
 |k+1,bY,agD,agE,aF,au,bj,w,w2,mq,aeX=>
  bif decide (aeX<agE) then
   (bC agD aeX).bind fun x2=>
   (eL aF au bj bY x2 mq).bind fun r1=>
   bif r1.1 != 0 then
    (bC bY x2).bind fun x3=>
    some (.inr (r1.1,x3.2.1,()))
   else
    dJ q k bY agD agE r1.2.1 r1.2.2.1 r1.2.2.2.1 w w2 r1.2.2.2.2.1 (bh (aeX+1))
  else
   some (.inl (aF,au,bj,w,w2,mq,()))
def qj(q:Nat)(EL:XN)(VK Ku:Int)(jP:XF)(Fh:XA):Option (XF×XA×Int×Int×Unit):=
 (bC EL Ku).bind fun x4=>
 (bC jP VK).bind fun x5=>
 (bC jP (VK.toNat:Int)).bind fun e=>
 (td q e.2.1 e.2.2.1 e.2.2.2.1 EL x4 Fh).bind fun r1=>
 some (List.set jP VK.toNat (e.1,r1.2.1,r1.2.2.1,r1.2.2.2.1,e.2.2.2.2),r1.2.2.2.2.1,r1.1.1,r1.1.2,())
def dq(q:Nat):Nat→XN→XI→Int→XF→Int→Int→XA→Int→Int→Option (((XF×Int×Int×Unit)⊕(Int×Int×Unit)))
 |0,_,_,_,_,_,_,_,_,_=>none
 |k+1,bY,abh,UL,bj,w,w2,mq,mK,OO=>
  bif decide (OO<UL) then
   aa (fun(jv:XA×Int×XF)=>
    dq q k bY abh UL (jv.2.2) w w2 (jv.1) (jv.2.1) (bh (OO+1))) fun cv=>
   (bC abh OO).bind fun x2=>
   (bC bY x2).bind fun x3=>
   bif x3.1 != 4 then
    cv (mq,mK,bj)
   else
    (qj q bY mK x2 bj mq).bind fun o3=>
    bif o3.2.2.1 != 0 then
     some (.inr (o3.2.2.1,o3.2.2.2.1,()))
    else
     cv (o3.2.1,(bh (mK+1)),o3.1)
  else
   some (.inl (bj,w,w2,()))
def fo(q:Nat):Nat→XF→XN→XF→Int→XA→XS→Int→Int→Int→Option (((XA×XS×Int×Int×Unit)⊕(Int×Int×Unit)))
 |0,_,_,_,_,_,_,_,_,_=>none
 |k+1,bj,bY,agM,agN,aF,au,w,w2,ae2=>
  bif decide (ae2<agN) then
   (bC agM ae2).bind fun x4=>
   (bL q bY aF au bj x4.1 x4.2.1 x4.2.2.1 x4.2.2.2.1 x4.2.2.2.2 ([]:XA) x4.2.2.2.2).bind fun r2=>
   bif r2.1.1 != 0 then
    some (.inr (r2.1.1,r2.1.2,()))
   else
    fo q k bj bY agM agN aF au w w2 (bh (ae2+1))
  else
   some (.inl (aF,au,w,w2,()))
def jc(k:Nat)(ay:XN):Option ((XA×XS×XF)×(Int×Int)×Unit):=
 (bC ay (bh ((ay.length:Int) - 1))).bind fun x1=>
 (dJ k k ay x1.2.2.2.2 (x1.2.2.2.2.length:Int) [] [] [] 0 0 ([]:XA) 0).bind fun r=>match r with
 |.inl o=>
  (dq k k ay x1.2.2.2.2 (x1.2.2.2.2.length:Int) o.2.2.1 o.2.2.2.1 o.2.2.2.2.1 o.2.2.2.2.2.1 0 0).bind fun r=>match r with
  |.inl o3=>
   (vN k (o.1,o.2.1,o3.1)).bind fun r1=>
   aa (fun(v:Bool)=>
    bif v then
     some (([],[],[]),(13,0),())
    else
     (fo k k o3.1 ay o3.1 (o3.1.length:Int) o.1 o.2.1 o3.2.1 o3.2.2.1 0).bind fun r=>match r with
     |.inl o5=>
      some ((o5.1,o5.2.1,o3.1),(0,0),())
     |.inr o6=>
      some (([],[],[]),(o6.1,o6.2.1),())) fun cv=>
   bif decide (r1.1<0) then
    cv true
   else
    (bC o3.1 r1.1).bind fun x2=>
    (bC o3.1 (r1.1.toNat:Int)).bind fun x3=>
    cv (decide (x3.2.1 > 0))
  |.inr o4=>
   some (([],[],[]),(o4.1,o4.2.1),())
 |.inr o2=>
  some (([],[],[]),(o2.1,o2.2.1),())
def yU(k:Nat):mn:=⟨⟨118,[(35,3),(37,2),(47,5),(10002,3)],[lI 47 0,lI 47 1,lI 47 2,lD 47 3 .str,lD 47 4 sI,rD 0 sN,rP 2 10002,rP 3 37,rP 4 47,rP 5 35,rD 27 sI,rI 28],[lF 35 0 tA,lF 35 1 .str,lU 35 2 tF,lI 37 0,lI 37 1,lN 10002 0,lN 10002 1,lN 10002 2,(.r 6,.h .mp tA),rI 29],[]⟩,[.ex (.exit 0) [lF 35 0 tA,lF 35 1 .str,lU 35 2 tF,lI 37 0,lI 37 1,lN 10002 0,lN 10002 1,lN 10002 2,(.r 6,.h .mp tA)],.ex .ret [lI 37 0,lI 37 1,lN 10002 0,lN 10002 1,lN 10002 2]],fun q c v=>dJ k q c.2.2.2.2.2.1 c.2.2.2.2.2.2.2.2.2.2.1 c.2.2.2.2.2.2.2.2.2.2.2.1 v.1 v.2.1 v.2.2.1 v.2.2.2.1 v.2.2.2.2.1 v.2.2.2.2.2.2.2.2.1 v.2.2.2.2.2.2.2.2.2.1⟩
def xi(k:Nat):mn:=⟨⟨118,[(35,3),(37,2),(47,5),(10002,3)],[lF 35 0 tA,lF 35 1 .str,lI 37 0,lI 37 1,lI 47 0,lI 47 1,lI 47 2,lD 47 3 .str,lD 47 4 sI,lN 10002 0,lN 10002 1,lN 10002 2,rD 0 sN,rP 2 10002,rP 3 37,rP 5 35,rI 10,rI 12,rD 49 sI,rI 50,rI 51],[lU 35 2 tF,(.r 6,.h .mp tA)],[]⟩,[.ex .normal [lU 35 2 tF,(.r 6,.h .mp tA),rP 13 10013,lI 10013 0,lI 10013 1]],fun q c v=>qj k c.2.2.2.2.2.2.2.2.2.2.2.2.1 c.2.2.2.2.2.2.2.2.2.2.2.2.2.2.2.2.1 c.2.2.2.2.2.2.2.2.2.2.2.2.2.2.2.2.2.1 v.1 v.2.1⟩
def yV(k:Nat):mn:=⟨⟨118,[(35,3),(37,2),(47,5),(10002,3)],[lF 35 0 tA,lF 35 1 .str,lI 47 0,lI 47 1,lI 47 2,lD 47 3 .str,lD 47 4 sI,rD 0 sN,rP 2 10002,rP 3 37,rP 5 35,rD 49 sI,rI 50],[lU 35 2 tF,lI 37 0,lI 37 1,lN 10002 0,lN 10002 1,lN 10002 2,(.r 6,.h .mp tA),rI 10,rI 51],[]⟩,[.ex (.exit 2) [lU 35 2 tF,lI 37 0,lI 37 1,lN 10002 0,lN 10002 1,lN 10002 2],.ex .ret [lI 37 0,lI 37 1,lN 10002 0,lN 10002 1,lN 10002 2]],fun q c v=>dq k q c.2.2.2.2.2.2.2.1 c.2.2.2.2.2.2.2.2.2.2.2.1 c.2.2.2.2.2.2.2.2.2.2.2.2.1 v.1 v.2.1 v.2.2.1 v.2.2.2.2.2.2.1 v.2.2.2.2.2.2.2.1 v.2.2.2.2.2.2.2.2.1⟩
def yW(k:Nat):mn:=⟨⟨118,[(35,3),(37,2),(47,5),(10002,3)],[lD 35 2 sF,lI 47 0,lI 47 1,lI 47 2,lD 47 3 .str,lD 47 4 sI,rD 0 sN,rP 2 10002,rP 3 37,rP 5 35,rD 96 sF,rI 97],[lD 35 0 sA,lD 35 1 sS,lI 37 0,lI 37 1,lN 10002 0,lN 10002 1,lN 10002 2,rI 98],[]⟩,[.ex (.exit 4) [lD 35 0 sA,lD 35 1 sS,lI 37 0,lI 37 1,lN 10002 0,lN 10002 1,lN 10002 2],.ex .ret [lI 37 0,lI 37 1,lN 10002 0,lN 10002 1,lN 10002 2]],fun q c v=>fo k q c.1 c.2.2.2.2.2.2.1 c.2.2.2.2.2.2.2.2.2.2.1 c.2.2.2.2.2.2.2.2.2.2.2.1 v.1 v.2.1 v.2.2.1 v.2.2.2.1 v.2.2.2.2.2.2.2.1⟩
def pI(k:Nat):Ev a8:=⟨[Ho,(IJ k).ahF 2 67,LB k,(DD k).uL 0 137],[lp 0 (yU k) k,rg 16 (xi k),lp 2 (yV k) k,lp 4 (yW k) k],[(3,37),(4,47),(5,35)]⟩
def GY(k q:Nat):Cd a8:=nV (pI k) f42 0 (yU k) q []
def FK(k:Nat):Cd a8:=rgC (pI k) f42 16 (xi k) [[0,1,2,3,4,5,6,7,8,9,10,11,12],[0,1,2,3,4,5,6,7,8,9,11,10,12]]
def GZ(k q:Nat):Cd a8:=nV (pI k) f42 2 (yV k) q [FK k]
def G0(k q:Nat):Cd a8:=nV (pI k) f42 4 (yW k) q []
def LC(k:Nat):Cl a8:=wD (pI k) 42 f42 func42 call42 [sN] [tM,tP] (fun d=>jc k d.1) [GY k k,GZ k k,G0 k k]
abbrev mo:=XN→XA→XS→XF→XI→XI→XI→XI→XB→XE→XQ→XL→XB→(ab×Int×XS×XS×Int)→Int→Option (XI×XI×Unit)
def oF(f:mo):CV:=⟨⟨55,[(93,13)],[lD 93 0 sN,lD 93 1 sA,lD 93 2 sS,lD 93 3 sF,lD 93 6 sI,lD 93 7 sI,lD 93 8 sB,lD 93 9 sE,lD 93 10 sQ,lD 93 11 sL,lD 93 12 sB],[rP 0 93,rD 1 tF,rI 2,lF 93 4 I,lF 93 5 I],[]⟩,[.ret [lF 93 4 I,lF 93 5 I] []],fun c v=>f c.1 c.2.1 c.2.2.1 c.2.2.2.1 v.2.2.2.1 v.2.2.2.2.1 c.2.2.2.2.1 c.2.2.2.2.2.1 c.2.2.2.2.2.2.1 c.2.2.2.2.2.2.2.1 c.2.2.2.2.2.2.2.2.1 c.2.2.2.2.2.2.2.2.2.1 c.2.2.2.2.2.2.2.2.2.2.1 v.2.1 v.2.2.1⟩
def xa(f:mo):iF:=lZ (oF f).L (oF f).F (zQ [] (oF f).V)
def gy(dr:mo)(q:Nat):Nat→ab→Int→XS→XS→Int→XN→XA→XS→XF→XI→XI→XB→XE→XQ→XL→XB→XI→Int→XI→XI→Int→Option (XI×XI×Unit)
 |0,_,_,_,_,_,_,_,_,_,_,_,_,_,_,_,_,_,_,_,_,_=>none
 |k+1,SW,wG,Lu,Lv,O6,bY,gA,gn,jP,kE,mU,qe,nF,tK,uz,kW,abf,abg,Z9,W6,ON=>
  bif decide (ON<abg) then
   (bC abf ON).bind fun x6=>
   (dr bY gA gn jP Z9 W6 kE mU qe nF tK uz kW (SW,wG,Lu,Lv,O6) x6).bind fun r2=>
   gy dr q k SW wG Lu Lv O6 bY gA gn jP kE mU qe nF tK uz kW abf abg r2.1 r2.2.1 (bh (ON+1))
  else
   some (Z9,W6,())
def oI(dr:mo)(k:Nat)(ay:XN)(aF:XA)(au:XS)(bj:XF)(my jR ie iZ:XI)(lC:XB)(gL:XE)(laid:XQ)(out:XL)(bx:XB)(fn:ab×Int×XS×XS×Int)(n:Int):Option (XI×XI×Unit):=
 (bC ay n).bind fun x1=>
 aa (fun(jv:XI×XI)=>
  (gy dr k k fn.1 fn.2.1 fn.2.2.1 fn.2.2.2.1 fn.2.2.2.2 ay aF au bj ie iZ lC gL laid out bx x1.2.2.2.2 (x1.2.2.2.2.length:Int) (jv.1) (jv.2) 0).bind fun o=>
  some (o.1,o.2.1,())) fun cv=>
 bif !(x1.2.2.2.1==([]:ab)) then
  (fF k (aF,au,bj) fn.1 x1.2.2.2.1).bind fun r1=>
  (bC my n).bind fun x2=>
  (bC my (n.toNat:Int)).bind fun x3=>
  (bC jR n).bind fun x4=>
  (bC jR (n.toNat:Int)).bind fun x5=>
  cv (List.set my n.toNat r1.1,List.set jR n.toNat r1.2.1)
 else
  cv (my,jR)
def gl:Nat→mo
 |0=>fun _ _ _ _ _ _ _ _ _ _ _ _ _ _ _=>none
 |k+1=>oI (gl k) k
section
variable (dr:Gd a8 43 xa)
def um(k:Nat):mn:=⟨⟨55,[(47,5),(67,5),(93,13)],[lI 47 0,lI 47 1,lI 47 2,lD 47 3 .str,lD 47 4 sI,lD 67 0 .str,lI 67 1,lD 67 2 sS,lD 67 3 sS,lI 67 4,lD 93 0 sN,lD 93 1 sA,lD 93 2 sS,lD 93 3 sF,lD 93 6 sI,lD 93 7 sI,lD 93 8 sB,lD 93 9 sE,lD 93 10 sQ,lD 93 11 sL,lD 93 12 sB,rP 0 93,rP 4 67,rD 44 sI,rI 45],[lF 93 4 I,lF 93 5 I,rI 46],[]⟩,[.ex (.exit 0) [lF 93 4 I,lF 93 5 I]],fun q c v=>gy dr.1 k q c.2.2.2.2.2.1 c.2.2.2.2.2.2.1 c.2.2.2.2.2.2.2.1 c.2.2.2.2.2.2.2.2.1 c.2.2.2.2.2.2.2.2.2.1 c.2.2.2.2.2.2.2.2.2.2.1 c.2.2.2.2.2.2.2.2.2.2.2.1 c.2.2.2.2.2.2.2.2.2.2.2.2.1 c.2.2.2.2.2.2.2.2.2.2.2.2.2.1 c.2.2.2.2.2.2.2.2.2.2.2.2.2.2.1 c.2.2.2.2.2.2.2.2.2.2.2.2.2.2.2.1 c.2.2.2.2.2.2.2.2.2.2.2.2.2.2.2.2.1 c.2.2.2.2.2.2.2.2.2.2.2.2.2.2.2.2.2.1 c.2.2.2.2.2.2.2.2.2.2.2.2.2.2.2.2.2.2.1 c.2.2.2.2.2.2.2.2.2.2.2.2.2.2.2.2.2.2.2.1 c.2.2.2.2.2.2.2.2.2.2.2.2.2.2.2.2.2.2.2.2.1 c.2.2.2.2.2.2.2.2.2.2.2.2.2.2.2.2.2.2.2.2.2.2.2.1 c.2.2.2.2.2.2.2.2.2.2.2.2.2.2.2.2.2.2.2.2.2.2.2.2.1 v.1 v.2.1 v.2.2.1⟩
def wX(k:Nat):Ev a8:=⟨[dr.cl,wK k],[lp 0 (um dr k) k],[(4,67),(6,47)]⟩
def B4(k q:Nat):Cd a8:=nV (wX dr k) f43 0 (um dr k) q []
def F5(k:Nat):Cl a8:=lB (wX dr k) 43 f43 func43 call43 [] (oF (oI dr.1 k)) [B4 dr k k]
end
theorem wg:∀ k,kZ prog gt 43 (xa (gl k))
 |0=>cP (fun _ _=>rfl)
 |k+1=>(F5 ⟨_,wg k⟩ k).ok
def FY(k:Nat):Cl a8:=⟨_,_,wg k⟩
def dn(fn:Int)(ie:XI)(lC:XB)(ad9:Bool):Option (Int×XI×XB×Unit):=
 (bD ie ([fn])).bind fun l=>
 (bD lC ([ad9])).bind fun l2=>
 some ((bh ((l.length:Int) - 1)),l,l2,())
def pr:Cl a8:=lB ⟨[],[],[]⟩ 77 f77 func77 call77 [500000] ⟨⟨39,[(97,7),(93,13)],[(.l 97 0,.lit (.lw 93 0)),lI 97 1,lF 97 3 I,lF 97 5 tE,lF 97 6 tQ,lD 93 0 sN,lD 93 1 sA,lD 93 2 sS,lD 93 3 sF,lF 93 4 I,lF 93 5 I,lD 93 6 sI,lD 93 7 sI,lD 93 8 sB,lD 93 9 sE,lD 93 10 sQ,lD 93 11 sL,lD 93 12 sB],[rP 0 97,rD 1 .bool,lF 97 2 I,lF 97 4 .bool],[]⟩,[.ret [rI 500000,lF 97 2 I,lF 97 4 .bool] []],fun c v=>dn c.2.1 v.2.2.1 v.2.2.2.1 v.2.1⟩ []
def dx(gL:XE)(mt to EA nW arg:Int):Option (XE×Unit):=
 (bD gL ([(mt,to,EA,nW,arg)])).bind fun l=>
 some (l,())
def qh:Cl a8:=lB ⟨[],[],[]⟩ 79 f79 func79 call79 [] ⟨⟨29,[(97,7),(93,13)],[(.l 97 0,.lit (.lw 93 0)),lI 97 1,lF 97 2 I,lF 97 3 I,lF 97 4 .bool,lF 97 6 tQ,lD 93 0 sN,lD 93 1 sA,lD 93 2 sS,lD 93 3 sF,lF 93 4 I,lF 93 5 I,lD 93 6 sI,lD 93 7 sI,lD 93 8 sB,lD 93 9 sE,lD 93 10 sQ,lD 93 11 sL,lD 93 12 sB],[rP 0 97,rI 1,rI 2,rI 3,rI 4,rI 5,lF 97 5 tE],[]⟩,[.ret [lF 97 5 tE] []],fun c v=>dx v.2.2.2.2.2.2.1 v.2.1 v.2.2.1 v.2.2.2.1 v.2.2.2.2.1 v.2.2.2.2.2.1⟩ []
end
end Go.Fx.R5
namespace Go.Fx.R5
open Go Go.Fx Go.Proofs Go.Proofs.Tryz
noncomputable section
abbrev qg:=Int→XI→XI→XB→XE→XQ→XN→XA→XS→XF→XI→XI→XI→XI→XB→XE→XQ→XL→XB→Int→Int→Int→Int→Option (XI×XB×XE×Unit)
def qb(f:qg):CV:=⟨⟨90,[(97,7),(93,13)],[(.l 97 0,.lit (.lw 93 0)),lI 97 1,lF 97 3 I,lF 97 6 tQ,lD 93 0 sN,lD 93 1 sA,lD 93 2 sS,lD 93 3 sF,lF 93 4 I,lF 93 5 I,lD 93 6 sI,lD 93 7 sI,lD 93 8 sB,lD 93 9 sE,lD 93 10 sQ,lD 93 11 sL,lD 93 12 sB],[rP 0 97,rI 1,rI 2,rI 3,rI 4,lF 97 2 I,lF 97 4 .bool,lF 97 5 tE],[]⟩,[.ret [lF 97 2 I,lF 97 4 .bool,lF 97 5 tE] []],fun c v=>f c.2.1 v.2.2.2.2.2.1 c.2.2.1 v.2.2.2.2.2.2.1 v.2.2.2.2.2.2.2.1 c.2.2.2.1 c.2.2.2.2.1 c.2.2.2.2.2.1 c.2.2.2.2.2.2.1 c.2.2.2.2.2.2.2.1 c.2.2.2.2.2.2.2.2.1 c.2.2.2.2.2.2.2.2.2.1 c.2.2.2.2.2.2.2.2.2.2.1 c.2.2.2.2.2.2.2.2.2.2.2.1 c.2.2.2.2.2.2.2.2.2.2.2.2.1 c.2.2.2.2.2.2.2.2.2.2.2.2.2.1 c.2.2.2.2.2.2.2.2.2.2.2.2.2.2.1 c.2.2.2.2.2.2.2.2.2.2.2.2.2.2.2.1 c.2.2.2.2.2.2.2.2.2.2.2.2.2.2.2.2.1 v.2.1 v.2.2.1 v.2.2.2.1 v.2.2.2.2.1⟩
def zH(f:qg):iF:=lZ (qb f).L (qb f).F (zQ [] (qb f).V)
def lP(iV:qg)(k:Nat)(fn:Int)(ie iZ:XI)(lC:XB)(gL:XE)(laid:XQ)(ay:XN)(aF:XA)(au:XS)(bj:XF)(my jR kE mU:XI)(qe:XB)(nF:XE)(tK:XQ)(out:XL)(bx:XB)(n p y z:Int):Option (XI×XB×XE×Unit):=
 (bC ay n).bind fun x1=>
 bif x1.1==33 then
  (bC x1.2.2.2.2 0).bind fun x2=>
  (iV fn ie iZ lC gL laid ay aF au bj my jR kE mU qe nF tK out bx x2 p z y).bind fun r1=>
  some (r1.1,r1.2.1,r1.2.2.1,())
 else
  bif x1.1==31 then
   (dn fn ie lC false).bind fun r2=>
   (bC x1.2.2.2.2 0).bind fun x3=>
   (iV fn r2.2.1 iZ r2.2.2.1 gL laid ay aF au bj my jR kE mU qe nF tK out bx x3 p r2.1 z).bind fun r3=>
   (bC x1.2.2.2.2 1).bind fun x4=>
   (iV fn r3.1 iZ r3.2.1 r3.2.2.1 laid ay aF au bj my jR kE mU qe nF tK out bx x4 r2.1 y z).bind fun r4=>
   some (r4.1,r4.2.1,r4.2.2.1,())
  else
   bif x1.1==32 then
    (dn fn ie lC false).bind fun r5=>
    (bC x1.2.2.2.2 0).bind fun x5=>
    (iV fn r5.2.1 iZ r5.2.2.1 gL laid ay aF au bj my jR kE mU qe nF tK out bx x5 p y r5.1).bind fun r6=>
    (bC x1.2.2.2.2 1).bind fun x6=>
    (iV fn r6.1 iZ r6.2.1 r6.2.2.1 laid ay aF au bj my jR kE mU qe nF tK out bx x6 r5.1 y z).bind fun r7=>
    some (r7.1,r7.2.1,r7.2.2.1,())
   else
    (dx gL p y 3 n 1).bind fun r8=>
    (dx r8.1 p z 3 n 0).bind fun r9=>
    some (ie,lC,r9.1,())
def iB:Nat→qg
 |0=>fun _ _ _ _ _ _ _ _ _ _ _ _ _ _ _ _ _ _ _ _ _ _ _=>none
 |k+1=>lP (iB k) k
section
variable (iV:Gd a8 140 zH)
def IW(k:Nat):Cl a8:=lB ⟨[pr,qh,iV.cl],[],[(10,47)]⟩ 140 f140 func140 call140 [] (qb (lP iV.1 k)) []
end
theorem yD:∀ k,kZ prog gt 140 (zH (iB k))
 |0=>cP (fun _ _=>rfl)
 |k+1=>(IW ⟨_,yD k⟩ k).ok
def II(k:Nat):Cl a8:=⟨_,_,yD k⟩
abbrev jt:=Int→XI→XI→XB→XE→XQ→XN→XA→XS→XF→XI→XI→XI→XI→XB→XE→XQ→XL→XB→Int→Int→Int→Option (XI×XB×XE×XQ×Unit)
def pg(f:jt):CV:=⟨⟨52,[(97,7),(93,13)],[(.l 97 0,.lit (.lw 93 0)),lI 97 1,lF 97 3 I,lD 93 0 sN,lD 93 1 sA,lD 93 2 sS,lD 93 3 sF,lF 93 4 I,lF 93 5 I,lD 93 6 sI,lD 93 7 sI,lD 93 8 sB,lD 93 9 sE,lD 93 10 sQ,lD 93 11 sL,lD 93 12 sB],[rP 0 97,rI 1,rI 2,rI 3,lF 97 2 I,lF 97 4 .bool,lF 97 5 tE,lF 97 6 tQ],[]⟩,[.ret [lF 97 2 I,lF 97 4 .bool,lF 97 5 tE,lF 97 6 tQ] []],fun c v=>f c.2.1 v.2.2.2.2.1 c.2.2.1 v.2.2.2.2.2.1 v.2.2.2.2.2.2.1 v.2.2.2.2.2.2.2.1 c.2.2.2.1 c.2.2.2.2.1 c.2.2.2.2.2.1 c.2.2.2.2.2.2.1 c.2.2.2.2.2.2.2.1 c.2.2.2.2.2.2.2.2.1 c.2.2.2.2.2.2.2.2.2.1 c.2.2.2.2.2.2.2.2.2.2.1 c.2.2.2.2.2.2.2.2.2.2.2.1 c.2.2.2.2.2.2.2.2.2.2.2.2.1 c.2.2.2.2.2.2.2.2.2.2.2.2.2.1 c.2.2.2.2.2.2.2.2.2.2.2.2.2.2.1 c.2.2.2.2.2.2.2.2.2.2.2.2.2.2.2.1 v.2.1 v.2.2.1 v.2.2.2.1⟩
def yp(f:jt):iF:=lZ (pg f).L (pg f).F (zQ [] (pg f).V)
abbrev gB:=Int→XI→XI→XB→XE→XQ→XN→XA→XS→XF→XI→XI→XI→XI→XB→XE→XQ→XL→XB→Int→Int→Int→Option (XI×XB×XE×XQ×Unit)
def mz(f:gB):CV:=⟨⟨218,[(97,7),(93,13)],[(.l 97 0,.lit (.lw 93 0)),lI 97 1,lF 97 3 I,lD 93 0 sN,lD 93 1 sA,lD 93 2 sS,lD 93 3 sF,lF 93 4 I,lF 93 5 I,lD 93 6 sI,lD 93 7 sI,lD 93 8 sB,lD 93 9 sE,lD 93 10 sQ,lD 93 11 sL,lD 93 12 sB],[rP 0 97,rI 1,rI 2,rI 3,lF 97 2 I,lF 97 4 .bool,lF 97 5 tE,lF 97 6 tQ],[]⟩,[.ret [lF 97 2 I,lF 97 4 .bool,lF 97 5 tE,lF 97 6 tQ] []],fun c v=>f c.2.1 v.2.2.2.2.1 c.2.2.1 v.2.2.2.2.2.1 v.2.2.2.2.2.2.1 v.2.2.2.2.2.2.2.1 c.2.2.2.1 c.2.2.2.2.1 c.2.2.2.2.2.1 c.2.2.2.2.2.2.1 c.2.2.2.2.2.2.2.1 c.2.2.2.2.2.2.2.2.1 c.2.2.2.2.2.2.2.2.2.1 c.2.2.2.2.2.2.2.2.2.2.1 c.2.2.2.2.2.2.2.2.2.2.2.1 c.2.2.2.2.2.2.2.2.2.2.2.2.1 c.2.2.2.2.2.2.2.2.2.2.2.2.2.1 c.2.2.2.2.2.2.2.2.2.2.2.2.2.2.1 c.2.2.2.2.2.2.2.2.2.2.2.2.2.2.2.1 v.2.1 v.2.2.1 v.2.2.2.1⟩
def t8(f:gB):iF:=lZ (mz f).L (mz f).F (zQ [] (mz f).V)
def hU(ct:jt)(bW:gB)(q:Nat):Nat→XN→XA→XS→XF→XI→XI→XI→XI→XB→XE→XQ→XL→XB→Int→XI→Int→XI→XI→Int→XI→XB→XE→XQ→Int→Int→Option (XI×XB×XE×XQ×Unit)
 |0,_,_,_,_,_,_,_,_,_,_,_,_,_,_,_,_,_,_,_,_,_,_,_,_,_=>none
 |k+1,bY,gA,gn,jP,Z8,W5,YY,YS,acR,MQ,adp,uz,kW,Hz,YT,q2,cG,agF,abe,U1,YU,YR,adq,p2,V1=>
  bif decide (V1<abe) then
   (bC agF V1).bind fun x2=>
   aa (fun(jv:Int×XI×XB)=>
    (bW Hz (jv.2.1) YT (jv.2.2) YR adq bY gA gn jP Z8 W5 YY YS acR MQ adp uz kW x2 p2 (jv.1)).bind fun r3=>
    hU ct bW q k bY gA gn jP Z8 W5 YY YS acR MQ adp uz kW Hz YT q2 cG agF abe r3.1 r3.2.1 r3.2.2.1 r3.2.2.2.1 (jv.1) (bh (V1+1))) fun cv=>
   bif decide (V1<(bh ((cG.length:Int) - 1))) then
    (dn Hz U1 YU false).bind fun r2=>
    cv (r2.1,r2.2.1,r2.2.2.1)
   else
    cv (q2,U1,YU)
  else
   some (U1,YU,YR,adq,())
def m6(ct:jt)(bW:gB)(k:Nat)(fn:Int)(ie iZ:XI)(lC:XB)(gL:XE)(laid:XQ)(ay:XN)(aF:XA)(au:XS)(bj:XF)(my jR kE mU:XI)(qe:XB)(nF:XE)(tK:XQ)(out:XL)(bx:XB)(n p q:Int):Option (XI×XB×XE×XQ×Unit):=
 (bC ay n).bind fun x1=>
 bif (x1.2.2.2.2.length:Int)==0 then
  (dx gL p q 1 (-1) 0).bind fun r1=>
  some (ie,lC,r1.1,laid,())
 else
  (hU ct bW k k ay aF au bj my jR kE mU qe nF tK out bx fn iZ q x1.2.2.2.2 x1.2.2.2.2 (x1.2.2.2.2.length:Int) ie lC gL laid p 0).bind fun o=>
  some (o.1,o.2.1,o.2.2.1,o.2.2.2.1,())
def cT(ct:jt)(bW:gB)(k:Nat)(fn:Int)(ie iZ:XI)(lC:XB)(gL:XE)(laid:XQ)(ay:XN)(aF:XA)(au:XS)(bj:XF)(my jR kE mU:XI)(qe:XB)(nF:XE)(tK:XQ)(out:XL)(bx:XB)(n p q:Int):Option (XI×XB×XE×XQ×Unit):=
 (bC ay n).bind fun x1=>
 aa (fun(jv:XI×XB×XE×XQ×Int×Int)=>
  (bC (jv.2.2.2.1) n).bind fun x12=>
  (bC (jv.2.2.2.1) (n.toNat:Int)).bind fun x13=>
  some ((jv.1),(jv.2.1),(jv.2.2.1),List.set (jv.2.2.2.1) n.toNat (p,q,(jv.2.2.2.2.1),(jv.2.2.2.2.2)),())) fun iR=>
 bif x1.1==14 then
  (dn fn ie lC false).bind fun r1=>
  aa (fun(jv:XI×XB×Int)=>
   (bC x1.2.2.2.2 0).bind fun x2=>
   (iB k fn (jv.1) iZ (jv.2.1) gL laid ay aF au bj my jR kE mU qe nF tK out bx x2 p r1.1 (jv.2.2)).bind fun r3=>
   (bC x1.2.2.2.2 1).bind fun x3=>
   (ct fn r3.1 iZ r3.2.1 r3.2.2.1 laid ay aF au bj my jR kE mU qe nF tK out bx x3 r1.1 q).bind fun r4=>
   bif (x1.2.2.2.2.length:Int)==3 then
    (bC x1.2.2.2.2 2).bind fun x4=>
    (ct fn r4.1 iZ r4.2.1 r4.2.2.1 r4.2.2.2.1 ay aF au bj my jR kE mU qe nF tK out bx x4 (jv.2.2) q).bind fun r5=>
    iR (r5.1,r5.2.1,r5.2.2.1,r5.2.2.2.1,r1.1,(jv.2.2))
   else
    iR (r4.1,r4.2.1,r4.2.2.1,r4.2.2.2.1,r1.1,(jv.2.2))) fun cv=>
  bif (x1.2.2.2.2.length:Int)==3 then
   (dn fn r1.2.1 r1.2.2.1 false).bind fun r2=>
   cv (r2.2.1,r2.2.2.1,r2.1)
  else
   cv (r1.2.1,r1.2.2.1,q)
 else
  bif x1.1==15 then
   (dn fn ie lC true).bind fun r6=>
   (dn fn r6.2.1 r6.2.2.1 false).bind fun r7=>
   (dx gL p r6.1 1 (-1) 0).bind fun r8=>
   (bC x1.2.2.2.2 0).bind fun x5=>
   (iB k fn r7.2.1 iZ r7.2.2.1 r8.1 laid ay aF au bj my jR kE mU qe nF tK out bx x5 r6.1 r7.1 q).bind fun r9=>
   (bC x1.2.2.2.2 1).bind fun x6=>
   (ct fn r9.1 iZ r9.2.1 r9.2.2.1 laid ay aF au bj my jR kE mU qe nF tK out bx x6 r7.1 r6.1).bind fun kz=>
   iR (kz.1,kz.2.1,kz.2.2.1,kz.2.2.2.1,r7.1,q)
  else
   bif x1.1==16 then
    (dn fn ie lC true).bind fun n8=>
    (dn fn n8.2.1 n8.2.2.1 false).bind fun o7=>
    (dx gL p n8.1 8 n 0).bind fun pX=>
    (dx pX.1 n8.1 o7.1 9 n 1).bind fun rV=>
    (dx rV.1 n8.1 q 9 n 0).bind fun qS=>
    (dn fn o7.2.1 o7.2.2.1 false).bind fun tf=>
    (bC x1.2.2.2.2 2).bind fun x7=>
    (ct fn tf.2.1 iZ tf.2.2.1 qS.1 laid ay aF au bj my jR kE mU qe nF tK out bx x7 o7.1 tf.1).bind fun vA=>
    (dx vA.2.2.1 tf.1 n8.1 10 n 0).bind fun rS=>
    iR (vA.1,vA.2.1,rS.1,vA.2.2.2.1,o7.1,q)
   else
    bif x1.1==19 then
     (dn fn ie lC false).bind fun qT=>
     (bC x1.2.2.2.2 0).bind fun x8=>
     (iB k fn qT.2.1 iZ qT.2.2.1 gL laid ay aF au bj my jR kE mU qe nF tK out bx x8 p q qT.1).bind fun vB=>
     (dx vB.2.2.1 qT.1 qT.1 4 n 0).bind fun zg=>
     iR (vB.1,vB.2.1,zg.1,laid,q,qT.1)
    else
     bif x1.1==21 then
      (dx gL p p 6 n 0).bind fun KK=>
      iR (ie,lC,KK.1,laid,0,0)
     else
      bif x1.1==20 then
       (dx gL p p 7 n 0).bind fun Jx=>
       iR (ie,lC,Jx.1,laid,0,0)
      else
       bif x1.1==22 then
        (bC x1.2.2.2.2 0).bind fun x9=>
        (bC jR x9).bind fun x10=>
        (bC jR (x9.toNat:Int)).bind fun x11=>
        (dx gL p q 5 n x11).bind fun JO=>
        iR (ie,lC,JO.1,laid,0,0)
       else
        (dx gL p q 2 n 0).bind fun r25=>
        iR (ie,lC,r25.1,laid,0,0)
def jF:Nat→jt×gB
 |0=>(fun _ _ _ _ _ _ _ _ _ _ _ _ _ _ _ _ _ _ _ _ _ _=>none,fun _ _ _ _ _ _ _ _ _ _ _ _ _ _ _ _ _ _ _ _ _ _=>none)
 |k+1=>(m6 (jF k).1 (jF k).2 k,cT (jF k).1 (jF k).2 k)
def jK(k:Nat):jt:=(jF k).1
def gu(k:Nat):gB:=(jF k).2
section
variable (ct:Gd a8 78 yp) (bW:Gd a8 115 t8)
def uW(k:Nat):mn:=⟨⟨52,[(93,13),(97,7)],[lD 93 0 sN,lD 93 1 sA,lD 93 2 sS,lD 93 3 sF,lF 93 4 I,lF 93 5 I,lD 93 6 sI,lD 93 7 sI,lD 93 8 sB,lD 93 9 sE,lD 93 10 sQ,lD 93 11 sL,lD 93 12 sB,(.l 97 0,.lit (.lw 93 0)),lI 97 1,lF 97 3 I,rP 0 97,rI 3,rD 8 sI,rD 30 sI,rI 31],[lF 97 2 I,lF 97 4 .bool,lF 97 5 tE,lF 97 6 tQ,rI 2,rI 32],[]⟩,[.ex (.exit 0) [lF 97 2 I,lF 97 4 .bool,lF 97 5 tE,lF 97 6 tQ]],fun q c v=>hU ct.1 bW.1 k q c.1 c.2.1 c.2.2.1 c.2.2.2.1 c.2.2.2.2.1 c.2.2.2.2.2.1 c.2.2.2.2.2.2.1 c.2.2.2.2.2.2.2.1 c.2.2.2.2.2.2.2.2.1 c.2.2.2.2.2.2.2.2.2.1 c.2.2.2.2.2.2.2.2.2.2.1 c.2.2.2.2.2.2.2.2.2.2.2.1 c.2.2.2.2.2.2.2.2.2.2.2.2.1 c.2.2.2.2.2.2.2.2.2.2.2.2.2.2.1 c.2.2.2.2.2.2.2.2.2.2.2.2.2.2.2.1 c.2.2.2.2.2.2.2.2.2.2.2.2.2.2.2.2.2.1 c.2.2.2.2.2.2.2.2.2.2.2.2.2.2.2.2.2.2.1 c.2.2.2.2.2.2.2.2.2.2.2.2.2.2.2.2.2.2.2.1 c.2.2.2.2.2.2.2.2.2.2.2.2.2.2.2.2.2.2.2.2.1 v.1 v.2.1 v.2.2.1 v.2.2.2.1 v.2.2.2.2.1 v.2.2.2.2.2.1⟩
def yg(k:Nat):Ev a8:=⟨[pr,qh,bW.cl],[lp 0 (uW ct bW k) k],[]⟩
def Dx(k q:Nat):Cd a8:=nV (yg ct bW k) f78 0 (uW ct bW k) q []
def HC(k:Nat):Cl a8:=lB (yg ct bW k) 78 f78 func78 call78 [] (pg (m6 ct.1 bW.1 k)) [Dx ct bW k k]
def Cj(k:Nat):Cl a8:=lB ⟨[pr,ct.cl,qh,II k],[],[(8,47),(9,167)]⟩ 115 f115 func115 call115 [] (mz (cT ct.1 bW.1 k)) []
end
theorem oM:∀ k,kZ prog gt 78 (yp (jK k))∧kZ prog gt 115 (t8 (gu k))
 |0=>⟨cP (fun _ _=>rfl),cP (fun _ _=>rfl)⟩
 |k+1=>have ih:=oM k;⟨(HC ⟨_,ih.1⟩ ⟨_,ih.2⟩ k).ok,(Cj ⟨_,ih.1⟩ ⟨_,ih.2⟩ k).ok⟩
def Hn(k:Nat):Cl a8:=⟨_,_,(oM k).1⟩
def Rt(k:Nat):Cl a8:=⟨_,_,(oM k).2⟩
def rR(k:Nat)(ie iZ:XI)(lC:XB)(gL:XE)(laid:XQ)(ay:XN)(aF:XA)(au:XS)(bj:XF)(my jR kE mU:XI)(qe:XB)(nF:XE)(tK:XQ)(out:XL)(bx:XB)(Hz:Int):Option (Int×XI×XI×XB×XE×XQ×Unit):=
 (dn Hz ie lC false).bind fun r1=>
 (bD iZ ([r1.1])).bind fun l=>
 (dn Hz r1.2.1 r1.2.2.1 false).bind fun r2=>
 (bC bj Hz).bind fun x1=>
 (jK k Hz r2.2.1 l r2.2.2.1 gL laid ay aF au bj my jR kE mU qe nF tK out bx x1.2.2.2.2 r1.1 r2.1).bind fun r3=>
 (dx r3.2.2.1 r2.1 r2.1 6 (-1) 0).bind fun r4=>
 some (Hz,r3.1,l,r3.2.1,r4.1,r3.2.2.2.1,())
def DC(k:Nat):Cl a8:=lB ⟨[pr,Hn k,qh],[],[]⟩ 44 f44 func44 call44 [] ⟨⟨46,[(97,7),(93,13)],[(.l 97 0,.lit (.lw 93 0)),lD 93 0 sN,lD 93 1 sA,lD 93 2 sS,lD 93 3 sF,lF 93 4 I,lF 93 5 I,lD 93 6 sI,lD 93 7 sI,lD 93 8 sB,lD 93 9 sE,lD 93 10 sQ,lD 93 11 sL,lD 93 12 sB],[rP 0 97,rI 1,lI 97 1,lF 97 2 I,lF 97 3 I,lF 97 4 .bool,lF 97 5 tE,lF 97 6 tQ],[]⟩,[.ret [lI 97 1,lF 97 2 I,lF 97 3 I,lF 97 4 .bool,lF 97 5 tE,lF 97 6 tQ] []],fun c v=>rR k v.2.2.2.1 v.2.2.2.2.1 v.2.2.2.2.2.1 v.2.2.2.2.2.2.1 v.2.2.2.2.2.2.2.1 c.2.1 c.2.2.1 c.2.2.2.1 c.2.2.2.2.1 c.2.2.2.2.2.1 c.2.2.2.2.2.2.1 c.2.2.2.2.2.2.2.1 c.2.2.2.2.2.2.2.2.1 c.2.2.2.2.2.2.2.2.2.1 c.2.2.2.2.2.2.2.2.2.2.1 c.2.2.2.2.2.2.2.2.2.2.2.1 c.2.2.2.2.2.2.2.2.2.2.2.2.1 c.2.2.2.2.2.2.2.2.2.2.2.2.2.1 v.2.1⟩ []
def jJ(q:Nat):Nat→XI→XE→Int→XB→Int→Option (XB×Unit)
 |0,_,_,_,_,_=>none
 |k+1,kE,YE,agC,Gq,aeW=>
  bif decide (aeW<agC) then
   aa (fun(Ef:XB)=>
    jJ q k kE YE agC Ef (bh (aeW+1))) fun cv=>
   (bC YE aeW).bind fun x1=>
   bif x1.2.2.1==5 then
    (bC kE x1.1).bind fun x2=>
    bif decide (0≤x2)&&decide (x2<6) then
     bif decide (0≤x1.2.2.2.2)&&decide (x1.2.2.2.2<6) then
      (bC Gq (((x2.toNat * 6)+x1.2.2.2.2.toNat * 1):Int)).bind fun x5=>
      cv (List.set Gq ((x2.toNat * 6)+x1.2.2.2.2.toNat * 1) true)
     else
      none
    else
     none
   else
    cv Gq
  else
   some (Gq,())
def fW(q:Nat):Nat→Int→Int→Int→XB→Int→Option (XB×Unit)
 |0,_,_,_,_,_=>none
 |k+1,k2,i1,agG,J7,SG=>
  bif decide (SG<agG) then
   aa (fun(adU:XB)=>
    fW q k k2 i1 agG adU (bh (SG+1))) fun iR=>
   bif decide (0≤i1)&&decide (i1<6) then
    bif decide (0≤k2)&&decide (k2<6) then
     (bC J7 (((i1.toNat * 6)+k2.toNat * 1):Int)).bind fun x3=>
     aa (fun(v:Bool)=>
      bif v then
       bif decide (0≤i1)&&decide (i1<6) then
        bif decide (0≤SG)&&decide (SG<6) then
         (bC J7 (((i1.toNat * 6)+SG.toNat * 1):Int)).bind fun x9=>
         iR (List.set J7 ((i1.toNat * 6)+SG.toNat * 1) true)
        else
         none
       else
        none
      else
       iR J7) fun cv=>
     bif x3 then
      bif decide (0≤k2)&&decide (k2<6) then
       bif decide (0≤SG)&&decide (SG<6) then
        (bC J7 (((k2.toNat * 6)+SG.toNat * 1):Int)).bind fun x6=>
        cv x6
       else
        none
      else
       none
     else
      cv false
    else
     none
   else
    none
  else
   some (J7,())
def kI(q:Nat):Nat→Int→Int→Int→XB→Int→Option (XB×Unit)
 |0,_,_,_,_,_=>none
 |k+1,n2,k1,UL,Ef,OO=>
  bif decide (OO<UL) then
   (fW q q k1 OO n2 Ef 0).bind fun o2=>
   kI q k n2 k1 UL o2.1 (bh (OO+1))
  else
   some (Ef,())
def kH(q:Nat):Nat→Int→Int→XB→Int→Option (XB×Unit)
 |0,_,_,_,_=>none
 |k+1,n,ON,Gq,aeZ=>
  bif decide (aeZ<ON) then
   (kI q q n aeZ n Gq 0).bind fun o2=>
   kH q k n ON o2.1 (bh (aeZ+1))
  else
   some (Gq,())
def gk(q:Nat):Nat→XB→Int→Int→XB→Int→Option (XB×Unit)
 |0,_,_,_,_,_=>none
 |k+1,Ef,i1,agL,Tn,Mm=>
  bif decide (Mm<agL) then
   aa (fun(afr:XB)=>
    gk q k Ef i1 agL afr (bh (Mm+1))) fun uR=>
   bif decide (0≤Mm)&&decide (Mm<6) then
    bif decide (0≤Mm)&&decide (Mm<6) then
     (bC Ef (((Mm.toNat * 6)+Mm.toNat * 1):Int)).bind fun x3=>
     aa (fun(v2:Bool)=>
      bif v2 then
       (bC Tn i1).bind fun x7=>
       (bC Tn (i1.toNat:Int)).bind fun x8=>
       uR (List.set Tn i1.toNat true)
      else
       uR Tn) fun iR=>
     bif x3 then
      aa (fun(v:Bool)=>
       iR v) fun cv=>
      bif i1==Mm then
       cv true
      else
       bif decide (0≤Mm)&&decide (Mm<6) then
        bif decide (0≤i1)&&decide (i1<6) then
         (bC Ef (((Mm.toNat * 6)+i1.toNat * 1):Int)).bind fun x6=>
         cv x6
        else
         none
       else
        none
     else
      iR false
    else
     none
   else
    none
  else
   some (Tn,())
def kJ(q:Nat):Nat→Int→XB→Int→XB→Int→Option (XB×Unit)
 |0,_,_,_,_,_=>none
 |k+1,n,Gq,agK,ac1,ae1=>
  bif decide (ae1<agK) then
   (gk q q Gq ae1 n ac1 0).bind fun o3=>
   kJ q k n Gq agK o3.1 (bh (ae1+1))
  else
   some (ac1,())
def vL(k:Nat)(bj:XF)(ie:XI)(gL:XE):Option (XB×Unit):=
 (jJ k k ie gL (gL.length:Int) (List.replicate 36 false) 0).bind fun o=>
 (kH k k (bj.length:Int) (bj.length:Int) o.1 0).bind fun o2=>
 (mkl (bj.length:Int) (false:Bool)).bind fun z=>
 (sub z 0 (bj.length:Int)).bind fun l=>
 (kJ k k (bj.length:Int) o2.1 (bj.length:Int) l 0).bind fun o3=>
 some (o3.1,())
def yK(k:Nat):mn:=⟨⟨110,[(93,13)],[lD 93 0 sN,lD 93 1 sA,lD 93 2 sS,lD 93 3 sF,lF 93 4 I,lF 93 5 I,lD 93 6 sI,lD 93 7 sI,lD 93 8 sB,lD 93 9 sE,lD 93 10 sQ,lD 93 11 sL,lD 93 12 sB,rP 0 93,rI 3,rD 23 sE,rI 24],[(.r 4,.h .arr .bool),rI 25],[]⟩,[.ex (.exit 0) [(.r 4,.h .arr .bool)]],fun q c v=>jJ k q c.2.2.2.2.2.2.1 c.2.2.2.2.2.2.2.2.2.2.2.2.2.2.2.1 c.2.2.2.2.2.2.2.2.2.2.2.2.2.2.2.2.1 v.1 v.2.1⟩
def yN(k:Nat):mn:=⟨⟨110,[(93,13)],[lD 93 0 sN,lD 93 1 sA,lD 93 2 sS,lD 93 3 sF,lF 93 4 I,lF 93 5 I,lD 93 6 sI,lD 93 7 sI,lD 93 8 sB,lD 93 9 sE,lD 93 10 sQ,lD 93 11 sL,lD 93 12 sB,rI 3,rI 7,rI 8,rI 46,rI 47,rI 50,rI 51,rI 54],[(.r 4,.h .arr .bool),rI 55],[]⟩,[.ex (.exit 6) [(.r 4,.h .arr .bool)]],fun q c v=>fW k q c.2.2.2.2.2.2.2.2.2.2.2.2.2.2.1 c.2.2.2.2.2.2.2.2.2.2.2.2.2.2.2.1 c.2.2.2.2.2.2.2.2.2.2.2.2.2.2.2.2.2.2.2.2.1 v.1 v.2.1⟩
def yM(k:Nat):mn:=⟨⟨110,[(93,13)],[lD 93 0 sN,lD 93 1 sA,lD 93 2 sS,lD 93 3 sF,lF 93 4 I,lF 93 5 I,lD 93 6 sI,lD 93 7 sI,lD 93 8 sB,lD 93 9 sE,lD 93 10 sQ,lD 93 11 sL,lD 93 12 sB,rI 3,rI 7,rI 46,rI 47,rI 50],[(.r 4,.h .arr .bool),rI 51],[]⟩,[.ex (.exit 4) [(.r 4,.h .arr .bool)]],fun q c v=>kI k q c.2.2.2.2.2.2.2.2.2.2.2.2.2.1 c.2.2.2.2.2.2.2.2.2.2.2.2.2.2.1 c.2.2.2.2.2.2.2.2.2.2.2.2.2.2.2.2.2.1 v.1 v.2.1⟩
def yL(k:Nat):mn:=⟨⟨110,[(93,13)],[lD 93 0 sN,lD 93 1 sA,lD 93 2 sS,lD 93 3 sF,lF 93 4 I,lF 93 5 I,lD 93 6 sI,lD 93 7 sI,lD 93 8 sB,lD 93 9 sE,lD 93 10 sQ,lD 93 11 sL,lD 93 12 sB,rI 3,rI 46],[(.r 4,.h .arr .bool),rI 47],[]⟩,[.ex (.exit 2) [(.r 4,.h .arr .bool)]],fun q c v=>kH k q c.2.2.2.2.2.2.2.2.2.2.2.2.2.1 c.2.2.2.2.2.2.2.2.2.2.2.2.2.2.1 v.1 v.2.1⟩
def xg(k:Nat):mn:=⟨⟨110,[(93,13)],[lD 93 0 sN,lD 93 1 sA,lD 93 2 sS,lD 93 3 sF,lF 93 4 I,lF 93 5 I,lD 93 6 sI,lD 93 7 sI,lD 93 8 sB,lD 93 9 sE,lD 93 10 sQ,lD 93 11 sL,lD 93 12 sB,rI 3,(.r 4,.h .arr .bool),rI 11,rI 79,rI 80,rI 83],[(.r 10,.h .dV .bool),rI 84],[]⟩,[.ex (.exit 10) [(.r 10,.h .dV .bool)]],fun q c v=>gk k q c.2.2.2.2.2.2.2.2.2.2.2.2.2.2.1 c.2.2.2.2.2.2.2.2.2.2.2.2.2.2.2.1 c.2.2.2.2.2.2.2.2.2.2.2.2.2.2.2.2.2.2.1 v.1 v.2.1⟩
def yO(k:Nat):mn:=⟨⟨110,[(93,13)],[lD 93 0 sN,lD 93 1 sA,lD 93 2 sS,lD 93 3 sF,lF 93 4 I,lF 93 5 I,lD 93 6 sI,lD 93 7 sI,lD 93 8 sB,lD 93 9 sE,lD 93 10 sQ,lD 93 11 sL,lD 93 12 sB,rI 3,(.r 4,.h .arr .bool),rI 79],[(.r 10,.h .dV .bool),rI 80],[]⟩,[.ex (.exit 8) [(.r 10,.h .dV .bool)]],fun q c v=>kJ k q c.2.2.2.2.2.2.2.2.2.2.2.2.2.1 c.2.2.2.2.2.2.2.2.2.2.2.2.2.2.1 c.2.2.2.2.2.2.2.2.2.2.2.2.2.2.2.1 v.1 v.2.1⟩
def lR(k:Nat):Ev a8:=⟨[],[lp 0 (yK k) k,lp 6 (yN k) k,lp 4 (yM k) k,lp 2 (yL k) k,lp 10 (xg k) k,lp 8 (yO k) k],[(4,9999)]⟩
def GO(k q:Nat):Cd a8:=nV (lR k) f45 0 (yK k) q []
def GR(k q:Nat):Cd a8:=nV (lR k) f45 6 (yN k) q []
def GQ(k q:Nat):Cd a8:=nV (lR k) f45 4 (yM k) q [GR k k]
def GP(k q:Nat):Cd a8:=nV (lR k) f45 2 (yL k) q [GQ k k]
def FI(k q:Nat):Cd a8:=nV (lR k) f45 10 (xg k) q []
def GS(k q:Nat):Cd a8:=nV (lR k) f45 8 (yO k) q [FI k k]
def Lx(k:Nat):Cl a8:=lB (lR k) 45 f45 func45 call45 [500000] ⟨⟨110,[(93,13)],[lD 93 0 sN,lD 93 1 sA,lD 93 2 sS,lD 93 3 sF,lF 93 4 I,lF 93 5 I,lD 93 6 sI,lD 93 7 sI,lD 93 8 sB,lD 93 9 sE,lD 93 10 sQ,lD 93 11 sL,lD 93 12 sB],[rP 0 93],[]⟩,[.ret [(.r 500000,.h .dV .bool)] []],fun c v=>vL k c.2.2.2.1 c.2.2.2.2.2.2.1 c.2.2.2.2.2.2.2.2.2.1⟩ [GO k k,GP k k,GS k k]
end
end Go.Fx.R5
namespace Go.Fx.R5
open Go Go.Fx Go.Proofs Go.Proofs.Tryz
noncomputable section
def sqA:Code→Code | .seq a _=>a|c=>c
def sqB:Code→Code | .seq _ b=>b|c=>c
noncomputable def q0:Code:=rL f41
noncomputable def q1:Code:=sqB q0
noncomputable def q2:Code:=sqB q1
noncomputable def q3:Code:=sqB q2
noncomputable def q4:Code:=sqB q3
noncomputable def q5:Code:=sqB q4
def DW(k:Nat):Ev a8:=⟨[J0 k,DE k],[],[(2,9002),(3,9003),(19,126)]⟩
abbrev ptR:List Ty:=[.slice (.da I (.da I (.da I (.da .str (.slice I))))),.da I I]
def WE(o:Nat):Option ae→Bool
 |some (.one (.lw p z))=>Nat.beq p o&&Nat.beq z 0
 |_=>false
def TB(n:Nat):Option (List ag)→Bool
 |some l=>Nat.beq l.length n
 |none=>false
def Xa(st:St):Bool:=(st.ir 20).isNone&&Nat.beq st.n 28&&WE 9002 (st.ir 2)&&WE 9003 (st.ir 3)&&TB 1 (st.dN 9002)&&TB 2 (st.dN 9003)
def ptP(av:ae)(st:St):Option (DL ptR):=
 match av with
 |.AH T ls=>bif Nat.beq T 128&&TB 1 (st.dN 9002)&&TB 2 (st.dN 9003) then(Qj [I,I] ls).map fun d=>([],(d.1,d.2.1),()) else none
 |_=>none
noncomputable def Yv(k:Nat)(e:Exit)(st:St):Option (DL ptR):=match e with
 |.normal=>tx (DW k).e (sqB q5) st (kD (DW k).e f41.results.toList ptR) (fun _ _=>none)
 |_=>none
noncomputable def ahQ(k:Nat)(e:Exit)(st:St):Option (DL ptR):=match e with
 |.normal=>bif Xa st then tx (DW k).e (sqA q5) st (Yv k) ptP else none
 |_=>none
noncomputable def ahP(k:Nat)(e:Exit)(st:St):Option (DL ptR):=match e with
 |.normal=>tx (DW k).e (sqA q3) st (ahQ k) (fun _ _=>none)
 |.ret=>PM (DW k).e f41.results.toList ptR st
 |_=>none
noncomputable def ahO(k:Nat)(e:Exit)(st:St):Option (DL ptR):=match e with
 |.normal=>tx (DW k).e (sqA q2) st (ahP k) (fun _ _=>none)
 |_=>none
noncomputable def ahN(k:Nat)(e:Exit)(st:St):Option (DL ptR):=match e with
 |.normal=>tx (DW k).e (sqA q1) st (ahO k) (fun _ _=>none)
 |_=>none
def pA(k:Nat)(s:ab):Option (List (Int×Int×Int×ab×List Int)×(Int×Int)×Unit):=
 (mY k s).bind fun r=>bif r.2.1.1 != 0 then some ([],r.2.1,()) else
 (oH k r.1 (s.length:Int) 0 0 []).bind fun r=>match r with
 |.inl o=>some (o.2.2.1,(0,0),())
 |.inr p=>some ([],(p.1,p.2.1),())
def Lh(k:Nat):iF:=AN [.str] ptR (fun d=>pA k d.1) id
theorem afs(k:Nat)(d:DL [.str]):pA k d.1=tx (DW k).e (sqA q0) (stD 28 [.str] d) (ahN k) (fun _ _=>none):=by kernel_rfl
def aex:Oper:={dst:=some 20,op:=.makeFunc (.func 70) #[] #[.tmp 2,.tmp 3],type:=1,pos:= "l3_parse.go:79",after:=#[],guard:=none}
def adY:Oper:={dst:=none,op:=.defer {callee:=.value (.tmp 20),args:=#[],argTypes:=#[]},type:=0,pos:= "l3_parse.go:79",after:=#[{on:=0,ground:=.data}],guard:=none}
def TY:Oper:={dst:=some 21,op:=.move (.tmp 5),type:=124,pos:= "l3_parse.go:84",after:=#[],guard:=none}
def Ti:Oper:={dst:=some 22,op:=.call {callee:=.value (.func 71),args:=#[.tmp 21],argTypes:=#[124]},type:=0,pos:= "l3_parse.go:84",after:=#[{on:=0,ground:=.data}],guard:=none}
theorem acl:f41.body=some (.seq (sqA q0) (.seq (sqA q1) (.seq (sqA q2) (.seq (sqA q3) (.seq (.region 5 #[aex,adY] false) (.seq (sqA q5) (sqB q5))))))):=by kernel_rfl
theorem acm:sqA q5=.region 6 #[TY,Ti] false:=by kernel_rfl
theorem TM{o:Nat}{x:Option ae}(h:WE o x=true):x=some (.one (.lw o 0)):=by
 unfold WE at h;split at h
 ·simp only[Q3] at h
  rw[Q4 h.1,Q4 h.2]
 ·cases h
theorem Mt{n:Nat}{x:Option (List ag)}(h:TB n x=true):∃ l,x=some l∧l.length=n:=by
 unfold TB at h;split at h
 ·exact⟨_,rfl,Q4 h⟩
 ·cases h
theorem Zj{Q:Exit→Act→World→Prop}{act:Act}{w:World}(hn:act.tmps.size=28)(h:Q .normal {tmps:=act.tmps.setIfInBounds 20 (.func (.func 70) #[] #[act.tmps.getD 2 undef,act.tmps.getD 3 undef]),defers:=⟨.fn (.func 70) #[act.tmps.getD 2 undef,act.tmps.getD 3 undef],#[]⟩::act.defers} w):
  (Code.region 5 #[aex,adY] false).wp prog Q act w:=by
 refine wp_region_list ?_;have hmf:∀(fn:Fn) (first cap:Array Value) (w:World),(Instr.makeFunc fn first cap).run prog w=.ok (.func fn first cap) w:=fun _ _ _ _=>rfl
 simp[wpList,aex,adY,go_sem,hmf,hn];refine .inl (.inl ?_);simpa[hn] using h
def MS(b2 o2 b3 o3:Nat)(act:Act):Prop:=
 act.tmps.size=28∧act.tmps.getD 2 undef=.pointer (some ⟨b2,o2,none⟩)∧act.tmps.getD 3 undef=.pointer (some ⟨b3,o3,none⟩)∧act.defers=[⟨.fn (.func 70) #[.pointer (some ⟨b2,o2,none⟩),.pointer (some ⟨b3,o3,none⟩)],#[]⟩]
theorem MS.put{b2 o2 b3 o3:Nat}{act:Act}(h:MS b2 o2 b3 o3 act){d:Tmp}(hd:¬ d=2∧¬ d=3)(v:Value):MS b2 o2 b3 o3 (act.put (some d) v):=by
 obtain⟨h1,h2,h3,h4⟩:=h;refine⟨by simp[Act.put,h1],?_,?_,h4⟩
 ·rw[←h2];simp only[Act.put,aBa];rw[bsa hd.1]
 ·rw[←h3];simp only[Act.put,aBa];rw[bsa hd.2]
theorem Nh{w:World}{b o:Nat}{arr:Array Value}{elem:TypeId}(h:w.heap[b]? = some (.cells arr elem (0,0)))(hl:o<arr.size):(∃ x,w.cell? ⟨b,o,none⟩=some x)∧w.frozen? ⟨b,o,none⟩=false:=by
 refine⟨⟨arr[o],?_⟩,?_⟩
 ·simp[World.cell?,h,hl]
 ·simp[World.frozen?,h]
theorem acn(k:Nat){b2 o2 b3 o3:Nat}{X:mS}(hg:nG gt X.S0){st:St}{G:Gh}{w:World}{act:Act}{y:DL ptR}{Q:Exit→Act→World→Prop}(h:tx (DW k).e (sqA q5) st (Yv k) ptP=some y)(hm:az X st G w)(hr:bO G st act)(ha:MS b2 o2 b3 o3 act)
  (hK:∀ st G w act,az X st G w→bO G st act→MS b2 o2 b3 o3 act→Yv k .normal st=some y→Q .normal act w)
  (hP:∀ av v st G w act,az X st G w→MS b2 o2 b3 o3 act→aO G av v→ptP av st=some y→Q (.panic [{v,recovered:=false}]) act w):(sqA q5).wp prog Q act w:=by
 have hE:=(DW k).ok;rw[acm] at h ⊢;refine wp_region_list ?_;have h:mr (DW k).e TY st (fun v st'=>oZ TY.dst v st' fun s=>mr (DW k).e Ti s (fun v st'=>oZ Ti.dst v st' fun s=>Yv k .normal s) ptP) ptP=some y:=h;have w1:Region.wanted TY (yielded #[TY,Ti] act.tmps)=true:=rfl;show(if Region.wanted TY (yielded #[TY,Ti] act.tmps)=true then _ else _)
 rw[a7a w1];refine .inl (IS hE.iE hE.BU h hg hm hr (fun av v st' G' w' m' r' v' k'=>?_) (fun av v st' G' w' m' v' k'=>hP av v st' G' w' act m' ha v' k'));obtain⟨s,m2,r2,k2⟩:=MG k' m' r' v';have ha1:=ha.put (d:=21) (by decide) v
 show(if Region.wanted Ti (yielded #[TY,Ti] (act.put (some 21) v).tmps)=true then _ else _)
 rw[a7a (show Region.wanted Ti _=true from rfl)]
 refine .inl (IS hE.iE hE.BU k2 hg m2 r2 (fun av v2 st' G' w' m' r' v' k'=>?_) (fun av v2 st' G' w' m' v' k'=>hP av v2 st' G' w' _ m' ha1 v' k'));obtain⟨s,m3,r3,k3⟩:=MG k' m' r' v';exact hK _ _ _ _ m3 r3 (ha1.put (d:=22) (by decide) v2) k3
open Go.RowKit (Below)
def aaI(b2 b3:Nat)(PK po2 GE po3:List Value)(o:Nat):Option (Nat×List Value×List Value):=
 if o=9002 then some (b2,PK,po2) else if o=9003 then some (b3,GE,po3) else none
theorem acj{b2 b3:Nat}{PK po2 GE po3:List Value}(o:Nat)(q:Nat×List Value×List Value)(h:aaI b2 b3 PK po2 GE po3 o=some q):o<10000:=by
 unfold aaI at h;split at h
 ·omega
 ·split at h
  ·omega
  ·cases h
theorem sco{w:World}{a b:Addr}{v:Value}(h:a.block≠b.block∨a.off≠b.off):(w.setCell a v).cell? b=w.cell? b:=World.cell?_setCell_other _ _ _ _ (fun e=>by subst e;simp at h)
theorem aco{X:mS}{b2 b3:Nat}{PK po2 GE po3:List Value}(Ya:∀ o q,aaI b2 b3 PK po2 GE po3 o=some q→X.pin o=some q){st:St}{G:Gh}{w:World}{act:Act}{av:ae}{v:Value}{y:DL ptR}(jG:∀ b,¬ X.Yq b)(hm:az X st G w)(ha:MS b2 PK.length b3 GE.length act)(hv:aO G av v)(hk:ptP av st=some y)
  {R:Ending→World→Prop} (hR:∀ c a w',y=([],(c,a),())→Below X.w0.heap.size w w'→R (.returned (.tuple #[.slice none 0 0,.agg #[.int .i64 c,.int .i64 a]])) w'):Leaves prog f41 act.tmps R act.defers (.panicking [{v,recovered:=false}]) w:=by
 obtain⟨h1,h2,h3,h4⟩:=ha;have p2:=hm.pin 9002 _ (Ya 9002 _ rfl);have p3:=hm.pin 9003 _ (Ya 9003 _ rfl);obtain⟨⟨l2,e2⟩,e2'⟩:=p2;obtain⟨⟨l3,e3⟩,e3'⟩:=p3;simp only[ala] at e2' e3';unfold ptP at hk;split at hk
 ·rename_i T ls
  cases hc:(Nat.beq T 128&&TB 1 (st.dN 9002)&&TB 2 (st.dN 9003)) with
  |false=>rw[hc] at hk;cases hk
  |true=>
   rw[hc] at hk;simp only[Q3] at hc;obtain⟨⟨c1,c2⟩,c3⟩:=hc;obtain rfl:=Q4 c1;obtain⟨l2',c2,n2⟩:=Mt c2;obtain⟨l3',c3,n3⟩:=Mt c3;obtain⟨d,hd,rfl⟩:=aKa.1 hk;obtain⟨g1,g2⟩:=IZ hd;obtain⟨c,a,u⟩:=d;subst g2;obtain⟨u,cs,rfl,hu,DJ⟩:=hv;have abX:u=.agg #[.int .i64 c,.int .i64 a]:=by
    match cs,DJ,hu with
    |[x,z],⟨hx,hz,_⟩,hu=>
     have hx:=(BW (t:=I) rfl).1 hx;have hz:=(BW (t:=I) rfl).1 hz;subst hx hz;cases u with
     |agg A=>exact bLa Value.agg (Array.toList_inj.1 hu)
     |_=>exact absurd (bLa List.length hu) (by simp[Value.cells])
   subst abX;obtain⟨Y3,el2,m2,o1,o2,o3⟩:=hm.ob 9002 _ c2;obtain⟨afh,el3,m3,q1,q2,q3⟩:=hm.ob 9003 _ c3;have lm2:m2.length=1:=by have:=All2.length o3;rw[iW] at this;omega
   have lm3:m3.length=2:=by have:=All2.length q3;rw[iW] at this;omega
   have B2:b2=G.φ 9002:=e2'.1;have B3:b3=G.φ 9003:=e3'.1;have P2:PK=G.pre 9002:=e2'.2.1;have P3:GE=G.pre 9003:=e3'.2.1;rw[←B2] at o1;rw[←B3] at q1;rw[←P2] at o2;rw[←P3] at q2;have s2:PK.length+1≤Y3.size:=by have:=bLa List.length o2;simp only[bea,aua] at this;omega
   have s3:GE.length+2≤afh.size:=by have:=bLa List.length q2;simp only[bea,aua] at this;omega
   obtain⟨⟨x2,f2⟩,z2⟩:=Nh (o:=PK.length) o1 (by omega)
   obtain⟨⟨x3,f3⟩,z3⟩:=Nh (o:=GE.length) q1 (by omega)
   obtain⟨⟨x4,f4⟩,z4⟩:=Nh (o:=GE.length+1) q1 (by omega)
   have ow2:eW G st (false,9002) b2:=⟨⟨_,c2⟩,B2⟩;have ow3:eW G st (false,9003) b3:=⟨⟨_,c3⟩,B3⟩;have hb:b2≠b3:=fun e=>by subst e;have:=hm.qs _ _ _ ow2 ow3;simp at this
   have k2:=(hm.tY _ _ ow2).resolve_left (jG _);have k3:=(hm.tY _ _ ow3).resolve_left (jG _);have lt2:=fZ o1;have lt3:=fZ q1;rw[h4];refine leaves_cons (f:=70) (args:=#[.pointer (some ⟨b2,PK.length,none⟩),.pointer (some ⟨b3,GE.length,none⟩)]) (by simp) (by simp[go_sem,invoke,call70]) ?_
   refine(LN b2 PK.length b3 GE.length c a x2 x3 x4 [] w hb lt2 lt3 f2 z2 f3 z3 f4 z4).mono ?_;rintro e u' w'' ⟨rfl,rfl,rfl⟩;have bel:Below X.w0.heap.size w ((((w.alloc (.cells #[.int .i64 c,.int .i64 a] 128)).setCell ⟨b2,PK.length,none⟩ (.slice none 0 0)).setCell ⟨b3,GE.length,none⟩ (.int .i64 c)).setCell ⟨b3,GE.length+1,none⟩ (.int .i64 a)).drew:=
    (((((Below.refl _ w).alloc hm.sz _).setCell k2 _).setCell k3 _).setCell k3 _).drew
   have hb':b3≠b2:=fun e=>hb e.symm;have g2:((((w.alloc (.cells #[.int .i64 c,.int .i64 a] 128)).setCell ⟨b2,PK.length,none⟩ (.slice none 0 0)).setCell ⟨b3,GE.length,none⟩ (.int .i64 c)).setCell ⟨b3,GE.length+1,none⟩ (.int .i64 a)).drew.cell? ⟨b2,PK.length,none⟩=some (.slice none 0 0):=by show((((w.alloc (.cells #[.int .i64 c,.int .i64 a] 128)).setCell ⟨b2,PK.length,none⟩ (.slice none 0 0)).setCell ⟨b3,GE.length,none⟩ (.int .i64 c)).setCell ⟨b3,GE.length+1,none⟩ (.int .i64 a)).cell? ⟨b2,PK.length,none⟩=_;exact(sco (.inl hb')).trans ((sco (.inl hb')).trans (cha _ _ _ ((bJa _ _ _ lt2).trans f2)))
   have g3:((((w.alloc (.cells #[.int .i64 c,.int .i64 a] 128)).setCell ⟨b2,PK.length,none⟩ (.slice none 0 0)).setCell ⟨b3,GE.length,none⟩ (.int .i64 c)).setCell ⟨b3,GE.length+1,none⟩ (.int .i64 a)).drew.cell? ⟨b3,GE.length,none⟩=some (.int .i64 c):=by show((((w.alloc (.cells #[.int .i64 c,.int .i64 a] 128)).setCell ⟨b2,PK.length,none⟩ (.slice none 0 0)).setCell ⟨b3,GE.length,none⟩ (.int .i64 c)).setCell ⟨b3,GE.length+1,none⟩ (.int .i64 a)).cell? ⟨b3,GE.length,none⟩=_;exact(sco (.inr (Nat.succ_ne_self _))).trans (cha _ _ _ ((sco (.inl hb)).trans ((bJa _ _ _ lt3).trans f3)))
   have g4:((((w.alloc (.cells #[.int .i64 c,.int .i64 a] 128)).setCell ⟨b2,PK.length,none⟩ (.slice none 0 0)).setCell ⟨b3,GE.length,none⟩ (.int .i64 c)).setCell ⟨b3,GE.length+1,none⟩ (.int .i64 a)).drew.cell? ⟨b3,GE.length+1,none⟩=some (.int .i64 a):=by show((((w.alloc (.cells #[.int .i64 c,.int .i64 a] 128)).setCell ⟨b2,PK.length,none⟩ (.slice none 0 0)).setCell ⟨b3,GE.length,none⟩ (.int .i64 c)).setCell ⟨b3,GE.length+1,none⟩ (.int .i64 a)).cell? ⟨b3,GE.length+1,none⟩=_;exact cha _ _ _ ((sco (.inr (Nat.succ_ne_self _).symm)).trans ((sco (.inl hb)).trans ((bJa _ _ _ lt3).trans f4)))
   generalize ((((w.alloc (.cells #[.int .i64 c,.int .i64 a] 128)).setCell ⟨b2,PK.length,none⟩ (.slice none 0 0)).setCell ⟨b3,GE.length,none⟩ (.int .i64 c)).setCell ⟨b3,GE.length+1,none⟩ (.int .i64 a)).drew=W at *;refine⟨_,?_,hR c a W rfl bel⟩;rw[aBa] at h2 h3;simp[results,results41,go_sem,h2,h3,g2,g3,g4]
 ·cases hk
theorem Tz(k:Nat):kZ prog gt 41 (Lh k):=by
 refine⟨?_,BV _ _ _ _,yd _ _ _ _⟩;have hE:=(DW k).ok;intro R r X st G w dst args vs K KP hr zA hm _ ha;simp only[Lh,AN] at hr;split at hr
 ·rename_i wU hs
  split at hr
  ·rename_i d hd
   obtain⟨y,hx,hr⟩:=axa.1 hr;obtain⟨G1,m1,a1,k1⟩:=zn hs hm;have B0:nG gt (Tl G1.S w).S0:=zA.mono m1.s0;have hdr:=Ep m1 hd (ha.imp fun a v h=>h.sub a1);rw[afs] at hx;refine⟨call41 _ _,calls_of_wp_defers func41 acl ?_⟩;have se:∀{s:St} {G3:Gh} {w3:World} {act:Act},az (Tl G1.S w) s G3 w3→bO G3 s act→PM (DW k).e f41.results.toList ptR s=some y→∃ v,(results f41 act.tmps).run prog w3=.ok v w3∧∃ av st' G',az X st' G' w3∧(∀ act,bO G st act→bO G' st' act)∧aO G' av v∧K av st' = some r:=
    fun m3 r3 Kq=>Uy hE hm m1 a1 k1 hr m3 r3 Kq
   refine wp_seq (Ag hE B0 (sqA q0) (we (l:=[]) (by kernel_rfl) trivial) hx (VW m1.sh _ _ _) (Nq hdr (n:=28) (aZa rfl)) (fun e s G2 w2 S1 m2 r2 k2=>?_) (fun av v s G3 w' act m3 r3 hv hk=>by cases hk))
   cases e with
   |normal=>
    refine wp_seq (Ag hE B0 (sqA q1) (we (l:=[]) (by kernel_rfl) trivial) k2 m2 r2 (fun e s G2 w2 S1 m2 r2 k2=>?_) (fun av v s G3 w' act m3 r3 hv hk=>by cases hk))
    cases e with
    |normal=>
     refine wp_seq (Ag hE B0 (sqA q2) (we (l:=[]) (by kernel_rfl) trivial) k2 m2 r2 (fun e s G2 w2 S1 m2 r2 k2=>?_) (fun av v s G3 w' act m3 r3 hv hk=>by cases hk))
     cases e with
     |ret=>show Leaves _ _ S1.tmps _ S1.defers .returning w2;rw[r2.1.trans m2.ds];exact se m2 r2 k2
     |normal=>
      refine wp_seq (Ag hE B0 (sqA q3) (we (l:=[]) (by kernel_rfl) trivial) k2 m2 r2 (fun e s G2 w2 S1 m2 r2 k2=>?_) (fun av v s G3 w' act m3 r3 hv hk=>by cases hk))
      cases e with
      |normal=>
       have k2:(bif Xa s then tx (DW k).e (sqA q5) s (Yv k) ptP else none)=some y:=k2
       cases hc:Xa s with
       |false=>rw[hc] at k2;cases k2
       |true=>
        rw[hc] at k2;have k2:tx (DW k).e (sqA q5) s (Yv k) ptP=some y:=k2;simp only[Xa,Q3] at hc;obtain⟨⟨⟨⟨⟨c20,cn⟩,c2⟩,c3⟩,d2⟩,d3⟩:=hc;have cn:=Q4 cn;obtain⟨l2,d2,_⟩:=Mt d2;obtain⟨l3,d3,_⟩:=Mt d3;have p2:S1.tmps.getD 2 undef=.pointer (some ⟨G2.φ 9002,(G2.pre 9002).length,none⟩):=r2.2.2 2 _ (TM c2);have p3:S1.tmps.getD 3 undef=.pointer (some ⟨G2.φ 9003,(G2.pre 9003).length,none⟩):=r2.2.2 3 _ (TM c3);have mX:S1.tmps.size=28:=r2.2.1.trans cn;refine wp_seq (Zj mX ?_);rw[p2,p3,r2.1.trans m2.ds];have m4:=m2.aaX [⟨.fn (.func 70) #[.pointer (some ⟨G2.φ 9002,(G2.pre 9002).length,none⟩),.pointer (some ⟨G2.φ 9003,(G2.pre 9003).length,none⟩)],#[]⟩] (aaI (G2.φ 9002) (G2.φ 9003) (G2.pre 9002) (G2.post 9002) (G2.pre 9003) (G2.post 9003)) acj (fun o q hq=>by
         unfold aaI at hq;split at hq
         ·rename_i e;subst e;cases hq;exact⟨⟨_,d2⟩,rfl⟩
         ·split at hq
          ·rename_i e;subst e;cases hq;exact⟨⟨_,d3⟩,rfl⟩
          ·cases hq)
        have ahJ:∀ i v,s.ir i=some v→¬ 20=i:=fun i v hv e=>by subst e;rw[hv] at c20;cases c20
        refine wp_seq (acn k (b2:=G2.φ 9002) (o2:=(G2.pre 9002).length) (b3:=G2.φ 9003) (o3:=(G2.pre 9003).length) (by exact B0) k2 m4 ⟨rfl,by simpa using r2.2.1,fun i v hv=>?_⟩ ⟨by simpa using mX,?_,?_,rfl⟩ (fun s5 G5 w5 ag3 m5 r5 pa5 k5=>?_) (fun av v s5 G5 w5 ag3 m5 pa5 hv k5=>?_))
        ·simp only[aBa]
         rw[bsa (ahJ i v hv)];exact Gh.ae8 (by have:=r2.2.2 i v hv;rwa[aBa] at this)
        ·rw[←p2];simp only[aBa];rw[bsa (by decide)]
        ·rw[←p3];simp only[aBa];rw[bsa (by decide)]
        ·refine Ag hE (by exact B0) (sqB q5) (we (l:=[]) (by kernel_rfl) trivial) k5 m5 r5 (fun e s7 G7 w7 adM m7 r7 k7=>?_) (fun av v s G3 w' act m3 r3 hv hk=>by cases hk)
         have done:PM (DW k).e f41.results.toList ptR s7=some y→Leaves prog f41 adM.tmps (fun e w'=>match e with
           |.returned v=>∃ av st' G',az X st' G' w'∧(∀ act,bO G st act→bO G' st' act)∧aO G' av v∧K av st' = some r
           |.panicked IM=>∃ v,IM=[{v,recovered:=false}]∧∃ av st' G',az X st' G' w'∧aO G' av v∧KP av st' = some r
           |.outgrown=>False) adM.defers .returning w7:=fun k7=>by
          rw[r7.1.trans m7.ds];refine leaves_cons (f:=70) (args:=#[.pointer (some ⟨G2.φ 9002,(G2.pre 9002).length,none⟩),.pointer (some ⟨G2.φ 9003,(G2.pre 9003).length,none⟩)]) (by simp) (by simp[go_sem,invoke,call70]) ((Va _ _ w7).mono ?_)
          rintro e u' w' ⟨rfl,rfl,rfl⟩;have bel:=(Below.refl w7.heap.size w7).alloc (awa _) (.cells #[.int .i64 0,.int .i64 0] 128);have m8:=(m7.ad5 bel.block bel.size bel.os bel.tape bel.output).aaX [] (fun _=>none) (fun _ _ h=>by cases h) (fun _ _ h=>by cases h)
          exact se (act:={adM with defers:=[]}) m8 ⟨rfl,r7.2.1,fun i v h=>Gh.ae8 (r7.2.2 i v h)⟩ k7
         cases e with
         |normal=>exact done k7
         |ret=>exact done k7
         |_=>cases k7
        ·refine aco (po2:=G2.post 9002) (po3:=G2.post 9003) (fun o q h=>h) (fun b h=>h) m5 pa5 hv k5 (fun c a w' hy bel=>?_)
         subst hy;refine⟨Uj ptR ([],(c,a),()),wU,G1,m1.ad5 (fun b hb=>(bel.block b hb).trans (m5.fr b hb (fun h=>h))) (bEa m5.sz bel.size) (bel.os.trans m5.os) (bel.tape.trans m5.tp) (bel.output.trans m5.out),fun act ra=>BB k1 a1 ra,?_,hr⟩;exact MF (rs:=ptR) (vs:=[.slice none 0 0,.agg #[.int .i64 c,.int .i64 a]]) ⟨⟨_,rfl,rfl,.inl ⟨rfl,none,0,rfl⟩⟩,⟨[.int .i64 c,.int .i64 a],rfl,[.int .i64 c],[.int .i64 a],[],[],rfl,rfl,⟨rfl,rfl⟩,⟨rfl,rfl⟩⟩,trivial⟩
      |_=>cases k2
     |_=>cases k2
    |_=>cases k2
   |_=>cases k2
  ·cases hr
 ·cases hr
def Te(k:Nat):Cl a8:=⟨_,_,Tz k⟩
end
end Go.Fx.R5
namespace Go.Fx.R5
open Go Go.Fx Go.Proofs Go.Proofs.Tryz
noncomputable section
def pv(q:Nat):Nat→XN→XA→XS→XF→XF→Int→XI→XI→Int→Option (XI×XI×Unit)
 |0,_,_,_,_,_,_,_,_,_=>none
 |k+1,ay,gA,gn,jP,abh,UL,my,jR,OO=>
  bif decide (OO<UL) then
   (bC abh OO).bind fun x1=>
   (gl q ay gA gn jP my jR [] [] [] [] [] [] [] x1 x1.2.2.2.2).bind fun r3=>
   pv q k ay gA gn jP abh UL r3.1 r3.2.1 (bh (OO+1))
  else
   some (my,jR,())
def pw(q:Nat):Nat→XN→XA→XS→XF→XI→XI→Int→Int→XI→XI→XB→XE→XQ→Int→Option (Int×XI×XI×XB×XE×XQ×Unit)
 |0,_,_,_,_,_,_,_,_,_,_,_,_,_,_=>none
 |k+1,ay,gA,gn,jP,my,jR,agJ,fn,ie,iZ,lC,gL,laid,ae0=>
  bif decide (ae0<agJ) then
   (rR q ie iZ lC gL laid ay gA gn jP my jR [] [] [] [] [] [] [] ae0).bind fun r3=>
   pw q k ay gA gn jP my jR agJ r3.1 r3.2.1 r3.2.2.1 r3.2.2.2.1 r3.2.2.2.2.1 r3.2.2.2.2.2.1 (bh (ae0+1))
  else
   some (fn,ie,iZ,lC,gL,laid,())
def px(q:Nat):Nat→XE→Int→XL→Int→Option (XL×Unit)
 |0,_,_,_,_=>none
 |k+1,adE,adF,out,Xq=>
  bif decide (Xq<adF) then
   (bC adE Xq).bind fun x1=>
   (bC out x1.1).bind fun x2=>
   (bC out (x1.1.toNat:Int)).bind fun x3=>
   (bC out (x1.1.toNat:Int)).bind fun e=>
   (bD e ([Xq])).bind fun l5=>
   (bC out x1.1).bind fun x4=>
   bif Nat.beq x1.1.toNat x1.1.toNat&&true then
    px q k adE adF (List.set out x1.1.toNat l5) (bh (Xq+1))
   else
    none
  else
   some (out,())
def tI(k:Nat)(bB:ab):Option (((XN×XA×XS×XF×XI×XI×XI×XI×XB×XE×XQ×XL×XB×(Int×Int)×Unit)⊕((Int×Int)×Unit))):=
 (pA k bB).bind fun r1=>
 bif r1.2.1.1 != 0 then
  some (.inr (r1.2.1,()))
 else
  (jc k r1.1).bind fun r2=>
  bif r2.2.1.1 != 0 then
   some (.inr (r2.2.1,()))
  else
   (mkl (r1.1.length:Int) (0:Int)).bind fun z=>
   (sub z 0 (r1.1.length:Int)).bind fun l=>
   (mkl (r1.1.length:Int) (0:Int)).bind fun z2=>
   (sub z2 0 (r1.1.length:Int)).bind fun l2=>
   (pv k k r1.1 r2.1.1 r2.1.2.1 r2.1.2.2 r2.1.2.2 (r2.1.2.2.length:Int) l l2 0).bind fun o=>
   (mkl (r1.1.length:Int) ((0,0,0,0):Int×Int×Int×Int)).bind fun z3=>
   (sub z3 0 (r1.1.length:Int)).bind fun l3=>
   (pw k k r1.1 r2.1.1 r2.1.2.1 r2.1.2.2 o.1 o.2.1 (r2.1.2.2.length:Int) 0 [] [] [] [] l3 0).bind fun o2=>
   (mkl (o2.2.1.length:Int) ([]:XI)).bind fun z4=>
   (sub z4 0 (o2.2.1.length:Int)).bind fun l4=>
   (px k k o2.2.2.2.2.1 (o2.2.2.2.2.1.length:Int) l4 0).bind fun o3=>
   (vL k r2.1.2.2 o2.2.1 o2.2.2.2.2.1).bind fun r3=>
   some (.inl (r1.1,r2.1.1,r2.1.2.1,r2.1.2.2,o.1,o.2.1,o2.2.1,o2.2.2.1,o2.2.2.2.1,o2.2.2.2.2.1,o2.2.2.2.2.2.1,o3.1,r3.1,(0,0),()))
def EB(k:Nat):mn:=⟨⟨138,[(35,3),(37,2),(93,13)],[lD 35 0 sA,lD 35 1 sS,lD 35 2 sF,lI 37 0,lI 37 1,lD 93 0 sN,lD 93 1 sA,lD 93 2 sS,lD 93 3 sF,lN 93 6,lN 93 7,lN 93 8,lN 93 9,lN 93 10,lN 93 11,lN 93 12,rP 3 37,rD 4 sN,rP 6 35,rP 7 93,rD 49 sF,rI 50],[lF 93 4 I,lF 93 5 I,rI 51],[]⟩,[.ex (.exit 0) [lF 93 4 I,lF 93 5 I]],fun q c v=>pv k q c.2.2.2.2.2.1 c.2.2.2.2.2.2.1 c.2.2.2.2.2.2.2.1 c.2.2.2.2.2.2.2.2.1 c.2.2.2.2.2.2.2.2.2.2.2.2.2.2.2.2.2.2.2.2.1 c.2.2.2.2.2.2.2.2.2.2.2.2.2.2.2.2.2.2.2.2.2.1 v.1 v.2.1 v.2.2.1⟩
def EC(k:Nat):mn:=⟨⟨138,[(35,3),(37,2),(93,13),(97,7)],[lD 35 0 sA,lD 35 1 sS,lD 35 2 sF,lI 37 0,lI 37 1,lD 93 0 sN,lD 93 1 sA,lD 93 2 sS,lD 93 3 sF,lF 93 4 I,lF 93 5 I,lN 93 6,lN 93 7,lN 93 8,lN 93 9,lN 93 10,lN 93 11,lN 93 12,(.l 97 0,.lit (.lw 93 0)),rP 3 37,rP 7 93,rP 10 97,rI 69],[lI 97 1,lF 97 2 I,lF 97 3 I,lF 97 4 .bool,lF 97 5 tE,lF 97 6 tQ,rI 70],[]⟩,[.ex (.exit 2) [lI 97 1,lF 97 2 I,lF 97 3 I,lF 97 4 .bool,lF 97 5 tE,lF 97 6 tQ]],fun q c v=>pw k q c.2.2.2.2.2.1 c.2.2.2.2.2.2.1 c.2.2.2.2.2.2.2.1 c.2.2.2.2.2.2.2.2.1 c.2.2.2.2.2.2.2.2.2.1 c.2.2.2.2.2.2.2.2.2.2.1 c.2.2.2.2.2.2.2.2.2.2.2.2.2.2.2.2.2.2.2.2.2.2.1 v.1 v.2.1 v.2.2.1 v.2.2.2.1 v.2.2.2.2.1 v.2.2.2.2.2.1 v.2.2.2.2.2.2.1⟩
def ED(k:Nat):mn:=⟨⟨138,[(35,3),(37,2),(93,13),(97,7)],[lD 35 0 sA,lD 35 1 sS,lD 35 2 sF,lI 37 0,lI 37 1,lD 93 0 sN,lD 93 1 sA,lD 93 2 sS,lD 93 3 sF,lF 93 4 I,lF 93 5 I,lD 93 6 sI,lD 93 7 sI,lD 93 8 sB,lD 93 9 sE,lD 93 10 sQ,lN 93 12,(.l 97 0,.lit (.lw 93 0)),lI 97 1,lD 97 2 sI,lD 97 3 sI,lD 97 4 sB,lD 97 5 sE,lD 97 6 sQ,rP 3 37,rP 7 93,rD 105 sE,rI 106],[lU 93 11 sI,rI 107],[]⟩,[.ex (.exit 4) [lU 93 11 sI]],fun q c v=>px k q c.2.2.2.2.2.2.2.2.2.2.2.2.2.2.2.2.2.2.2.2.2.2.2.2.2.2.1 c.2.2.2.2.2.2.2.2.2.2.2.2.2.2.2.2.2.2.2.2.2.2.2.2.2.2.2.1 v.1 v.2.1⟩
def zF(k:Nat):Ev a8:=⟨[Te k,LC k,FY k,DC k,Lx k],[lp 0 (EB k) k,lp 2 (EC k) k,lp 4 (ED k) k],[(3,37),(6,35),(35,93),(66,97),(98,9999)]⟩
def MM(k q:Nat):Cd a8:=nV (zF k) f23 0 (EB k) q []
def MN(k q:Nat):Cd a8:=nV (zF k) f23 2 (EC k) q []
def MO(k q:Nat):Cd a8:=nV (zF k) f23 4 (ED k) q []
def Ta(k:Nat):Cl a8:=lB (zF k) 23 f23 func23 call23 [500000,500001] ⟨⟨138,[],[],[rD 0 .str],[]⟩,[.ret [rP 500000 93,lD 93 0 sN,lD 93 1 sA,lD 93 2 sS,lD 93 3 sF,lF 93 4 I,lF 93 5 I,lD 93 6 sI,lD 93 7 sI,lD 93 8 sB,lD 93 9 sE,lD 93 10 sQ,lD 93 11 sL,lD 93 12 sB,rD 500001 tP] [(93,13,93)],.ret [(.r 500000,.lit .KD),rD 500001 tP] []],fun c v=>tI k v.1⟩ [MM k k,MN k k,MO k k]
def mv(q:Nat):Nat→XA→Int→XI→Int→Option (XI×Unit)
 |0,_,_,_,_=>none
 |k+1,YD,agx,Rb,Ml=>
  bif decide (Ml<agx) then
   (bC YD Ml).bind fun x1=>
   (bD Rb ([(bh (x1.2 - 1)),x1.2])).bind fun l=>
   mv q k YD agx l (bh (Ml+1))
  else
   some (Rb,())
def mw(q:Nat):Nat→XN→Int→XI→Int→Option (XI×Unit)
 |0,_,_,_,_=>none
 |k+1,abe,V1,Rb,aeY=>
  bif decide (aeY<V1) then
   aa (fun(aeU:XI)=>
    mw q k abe V1 aeU (bh (aeY+1))) fun cv=>
   (bC abe aeY).bind fun x1=>
   bif x1.1==24 then
    (bD Rb ([(bh (x1.2.2.1 - 1)),x1.2.2.1,(bh (x1.2.2.1+1)),(bh ((bh (0 - x1.2.2.1)) - 1)),(bh (0 - x1.2.2.1)),(bh (1 - x1.2.2.1))])).bind fun l=>
    cv l
   else
    cv Rb
  else
   some (Rb,())
def ri(k:Nat)(ay:XN)(aF:XA):Option (XI×Unit):=
 (mv k k aF (aF.length:Int) [] 0).bind fun o=>
 (mw k k ay (ay.length:Int) o.1 0).bind fun o2=>
 some (o2.1,())
def uT(k:Nat):mn:=⟨⟨59,[(93,13)],[lD 93 0 sN,lD 93 1 sA,lD 93 2 sS,lD 93 3 sF,lF 93 4 I,lF 93 5 I,lD 93 6 sI,lD 93 7 sI,lD 93 8 sB,lD 93 9 sE,lD 93 10 sQ,lD 93 11 sL,lD 93 12 sB,rP 0 93,rD 13 sA,rI 14],[(.r 3,.h .dV I),rI 15],[]⟩,[.ex (.exit 0) [(.r 3,.h .dV I)]],fun q c v=>mv k q c.2.2.2.2.2.2.2.2.2.2.2.2.2.2.1 c.2.2.2.2.2.2.2.2.2.2.2.2.2.2.2.1 v.1 v.2.1⟩
def uU(k:Nat):mn:=⟨⟨59,[(93,13)],[lD 93 0 sN,lD 93 1 sA,lD 93 2 sS,lD 93 3 sF,lF 93 4 I,lF 93 5 I,lD 93 6 sI,lD 93 7 sI,lD 93 8 sB,lD 93 9 sE,lD 93 10 sQ,lD 93 11 sL,lD 93 12 sB,rD 31 sN,rI 32],[(.r 3,.h .dV I),rI 33],[]⟩,[.ex (.exit 2) [(.r 3,.h .dV I)]],fun q c v=>mw k q c.2.2.2.2.2.2.2.2.2.2.2.2.2.1 c.2.2.2.2.2.2.2.2.2.2.2.2.2.2.1 v.1 v.2.1⟩
def tm(k:Nat):Ev a8:=⟨[],[lp 0 (uT k) k,lp 2 (uU k) k],[]⟩
def Du(k q:Nat):Cd a8:=nV (tm k) f24 0 (uT k) q []
def Dv(k q:Nat):Cd a8:=nV (tm k) f24 2 (uU k) q []
def Hl(k:Nat):Cl a8:=lB (tm k) 24 f24 func24 call24 [500000] ⟨⟨59,[(93,13)],[lD 93 0 sN,lD 93 1 sA,lD 93 2 sS,lD 93 3 sF,lF 93 4 I,lF 93 5 I,lD 93 6 sI,lD 93 7 sI,lD 93 8 sB,lD 93 9 sE,lD 93 10 sQ,lD 93 11 sL,lD 93 12 sB],[rP 0 93],[]⟩,[.ret [(.r 500000,.h .dV I)] []],fun c v=>ri k c.1 c.2.1⟩ [Du k k,Dv k k]
def qN(q:Nat):Nat→XI→Int→Int→Int→Option (Int×Int×Unit)
 |0,_,_,_,_=>none
 |k+1,IF,n2,k1,aew=>
  bif decide (n2≥aew) then
   qN q k IF (bh (n2 - aew)) (bh (k1+1)) (bh (aew * (IF.length:Int)))
  else
   some (n2,k1,())
def qO(q:Nat):Nat→XI→Int→XI→Int→Option (XI×Unit)
 |0,_,_,_,_=>none
 |k+1,IF,n2,out,i1=>
  bif decide (i1≥0) then
   bif decide ((IF.length:Int)=0) then
    none
   else
    (bC IF (n2.tmod (IF.length:Int))).bind fun x1=>
    (bC out i1).bind fun x2=>
    (bC out (i1.toNat:Int)).bind fun x3=>
    bif decide ((IF.length:Int)=0) then
     none
    else
     qO q k IF (bh (n2.tdiv (IF.length:Int))) (List.set out i1.toNat x1) (bh (i1 - 1))
  else
   some (out,())
def pd(k:Nat)(iG:XI)(n:Int):Option (XI×Unit):=
 (qN k k iG n 0 1).bind fun o=>
 (mkl o.2.1 (0:Int)).bind fun z=>
 (sub z 0 o.2.1).bind fun l=>
 (qO k k iG o.1 l (bh (o.2.1 - 1))).bind fun o2=>
 some (o2.1,())
def BF(k:Nat):mn:=⟨⟨44,[],[rD 0 sI],[rI 1,rI 5,rI 6],[]⟩,[.ex (.exit 0) [rI 1,rI 5]],fun q c v=>qN k q c.1 v.1 v.2.1 v.2.2.1⟩
def BG(k:Nat):mn:=⟨⟨44,[],[rD 0 sI],[rI 1,(.r 7,.h .dV I),rI 8],[]⟩,[.ex (.exit 2) [(.r 7,.h .dV I)]],fun q c v=>qO k q c.1 v.1 v.2.1 v.2.2.1⟩
def Ap(k:Nat):Ev a8:=⟨[],[lp 0 (BF k) k,lp 2 (BG k) k],[]⟩
def JR(k q:Nat):Cd a8:=nV (Ap k) f26 0 (BF k) q []
def JS(k q:Nat):Cd a8:=nV (Ap k) f26 2 (BG k) q []
def Pe(k:Nat):Cl a8:=wD (Ap k) 26 f26 func26 call26 [sI,I] [sI] (fun d=>pd k d.1 d.2.1) [JR k k,JS k k]
def iJ(q:Nat):Nat→XI→Int→Int→Option (((Unit)⊕(Int×Unit)))
 |0,_,_,_=>none
 |k+1,l2,v2,i1=>
  bif decide (i1<(l2.length:Int)) then
   (bC l2 i1).bind fun x1=>
   bif x1==v2 then
    some (.inr (i1,()))
   else
    iJ q k l2 v2 (bh (i1+1))
  else
   some (.inl ())
def sC(k:Nat)(l:XI)(v:Int):Option (Int×Unit):=
 (iJ k k l v 0).bind fun r=>match r with
 |.inl o=>
  some ((-1),())
 |.inr o2=>
  some (o2.1,())
def yY(k:Nat):mn:=⟨⟨19,[],[rD 0 sI,rI 1],[rI 5],[]⟩,[.ex (.exit 0) [],.ex .ret [rI 4]],fun q c v=>iJ k q c.1 c.2.1 v.1⟩
def CM(k:Nat):Ev a8:=⟨[],[lp 0 (yY k) k],[]⟩
def G8(k q:Nat):Cd a8:=nV (CM k) f46 0 (yY k) q []
def LE(k:Nat):Cl a8:=wD (CM k) 46 f46 func46 call46 [sI,I] [I] (fun d=>sC k d.1 d.2.1) [G8 k k]
def CC(v:Int):Option (Bool×Unit):=
 (tR v (-2147483648) 2147483647).bind fun r1=>
 some (r1.1,())
def Rv:Cl a8:=wD ⟨[Eb],[],[]⟩ 47 f47 func47 call47 [I] [.bool] (fun d=>CC d.1) []
def kq(q:Nat):Nat→XI→XI→Int→Option (XI×Unit)
 |0,_,_,_=>none
 |k+1,l,out,i1=>
  aa (fun(v:Bool)=>
   bif v then
    aa (fun(uz:XI)=>
     kq q k l uz (bh (i1+1))) fun uR=>
    (bC l i1).bind fun x1=>
    (sC q out x1).bind fun r2=>
    aa (fun(v2:Bool)=>
     bif v2 then
      (bC l i1).bind fun x3=>
      (bD out ([x3])).bind fun l2=>
      uR l2
     else
      uR out) fun iR=>
    bif decide (r2.1<0) then
     (bC l i1).bind fun x2=>
     (CC x2).bind fun r3=>
     iR r3.1
    else
     iR false
   else
    some (out,())) fun cv=>
  bif decide (i1<(l.length:Int)) then
   cv (decide ((out.length:Int)<8))
  else
   cv false
def CD(k:Nat)(bB:ab):Option (XI×Unit):=
 (vH k bB).bind fun r1=>
 (kq k k r1.1 ([0,1,(-1),2]) 0).bind fun o=>
 some (o.1,())
def zZ(k:Nat):mn:=⟨⟨42,[],[rD 4 sI],[(.r 3,.h .dV I),rI 5],[]⟩,[.ex (.exit 0) [(.r 3,.h .dV I)]],fun q c v=>kq k q c.1 v.1 v.2.1⟩
def DX(k:Nat):Ev a8:=⟨[Hu k,LE k,Rv],[lp 0 (zZ k) k],[]⟩
def Ij(k q:Nat):Cd a8:=nV (DX k) f27 0 (zZ k) q []
def M8(k:Nat):Cl a8:=wD (DX k) 27 f27 func27 call27 [.str] [sI] (fun d=>CD k d.1) [Ij k k]
def rA(k:Nat)(bB:ab)(n:Int):Option (XI×Unit):=
 (dG k bB).bind fun r1=>
 aa (fun(v:Bool)=>
  bif v then
   some ([],())
  else
   (CD k bB).bind fun r3=>
   (pd k r3.1 n).bind fun r4=>
   some (r4.1,())) fun cv=>
 bif r1.2.1.1 != 0 then
  cv true
 else
  (tR n 0 59).bind fun r2=>
  cv (!r2.1)
def M6(k:Nat):Cl a8:=wD ⟨[ve k,Eb,Pe k,M8 k],[],[(5,35),(6,37)]⟩ 12 f12 func12 call12 [.str,I] [sI] (fun d=>rA k d.1 d.2.1) []
def oO(q:Nat):Nat→XI→Int→Int→Int→Option (Int×Int×Unit)
 |0,_,_,_,_=>none
 |k+1,qF,n2,size,Ze=>
  bif decide (n2≥Ze) then
   oO q k qF (bh (n2 - Ze)) (bh (size+1)) (bh (Ze * (qF.length:Int)))
  else
   some (n2,size,())
def oP(q:Nat):Nat→XI→Int→XI→Int→Option (XI×Unit)
 |0,_,_,_,_=>none
 |k+1,qF,n2,ab4,i1=>
  bif decide (i1≥0) then
   bif decide ((qF.length:Int)=0) then
    none
   else
    (bC qF (n2.tmod (qF.length:Int))).bind fun x1=>
    (bC ab4 i1).bind fun x2=>
    (bC ab4 (i1.toNat:Int)).bind fun x3=>
    bif decide ((qF.length:Int)=0) then
     none
    else
     oP q k qF (bh (n2.tdiv (qF.length:Int))) (List.set ab4 i1.toNat x1) (bh (i1 - 1))
  else
   some (ab4,())
def vM(k:Nat)(xL:XI)(n:Int):Option (XI×Unit):=
 (oO k k xL n 0 1).bind fun o=>
 (mkl o.2.1 (0:Int)).bind fun z=>
 (sub z 0 o.2.1).bind fun l=>
 (oP k k xL o.1 l (bh (o.2.1 - 1))).bind fun o2=>
 some (o2.1,())
def yP(k:Nat):mn:=⟨⟨44,[],[rD 0 sI],[rI 1,rI 5,rI 6],[]⟩,[.ex (.exit 0) [rI 1,rI 5]],fun q c v=>oO k q c.1 v.1 v.2.1 v.2.2.1⟩
def yQ(k:Nat):mn:=⟨⟨44,[],[rD 0 sI],[rI 1,(.r 7,.h .dV I),rI 8],[]⟩,[.ex (.exit 2) [(.r 7,.h .dV I)]],fun q c v=>oP k q c.1 v.1 v.2.1 v.2.2.1⟩
def wE(k:Nat):Ev a8:=⟨[],[lp 0 (yP k) k,lp 2 (yQ k) k],[]⟩
def GT(k q:Nat):Cd a8:=nV (wE k) f28 0 (yP k) q []
def GU(k q:Nat):Cd a8:=nV (wE k) f28 2 (yQ k) q []
def Ly(k:Nat):Cl a8:=lB (wE k) 28 f28 func28 call28 [500000] ⟨⟨44,[],[],[rD 0 sI,rI 1],[]⟩,[.ret [(.r 500000,.h .dV I)] []],fun c v=>vM k v.1 v.2.1⟩ [GT k k,GU k k]
def Cq(v:Int):Option (Bool×Unit):=
 aa (fun(v2:Bool)=>
  some (v2,())) fun cv=>
 bif decide (v≥(-2147483648)) then
  cv (decide (v≤2147483647))
 else
  cv false
def Rq:Cl a8:=wD ⟨[],[],[]⟩ 48 f48 func48 call48 [I] [.bool] (fun d=>Cq d.1) []
def fT(q:Nat):Nat→Int→XI→Int→Int→Option (((Unit)⊕(Bool×Unit)))
 |0,_,_,_,_=>none
 |k+1,Y5,t71,t81,t91=>
  bif decide (t91<t81) then
   (bC t71 t91).bind fun x1=>
   bif x1==Y5 then
    some (.inr (true,()))
   else
    fT q k Y5 t71 t81 (bh (t91+1))
  else
   some (.inl ())
def oN(k:Nat)(Y6:XI)(array:Int):Option (Bool×Unit):=
 (fT k k array Y6 (Y6.length:Int) 0).bind fun r=>match r with
 |.inl o=>
  some (false,())
 |.inr o2=>
  some (o2.1,())
def uS(k:Nat):mn:=⟨⟨17,[],[rI 1,rD 7 sI,rI 8],[rI 9],[]⟩,[.ex (.exit 0) [],.ex .ret [rD 4 .bool]],fun q c v=>fT k q c.1 c.2.1 c.2.2.1 v.1⟩
def ye(k:Nat):Ev a8:=⟨[],[lp 0 (uS k) k],[]⟩
def Dt(k q:Nat):Cd a8:=nV (ye k) f49 0 (uS k) q []
def Hk(k:Nat):Cl a8:=wD (ye k) 49 f49 func49 call49 [sI,I] [.bool] (fun d=>oN k d.1 d.2.1) [Dt k k]
def hJ(q:Nat):Nat→XI→Int→XI→Int→Option (XI×Unit)
 |0,_,_,_,_=>none
 |k+1,t81,t91,xL,acE=>
  bif decide (acE<t91) then
   aa (fun(qF:XI)=>
    hJ q k t81 t91 qF (bh (acE+1))) fun iR=>
   (bC t81 acE).bind fun x1=>
   (bC t81 (acE.toNat:Int)).bind fun x2=>
   bif (xL.length:Int)==8 then
    some (xL,())
   else
    (Cq x2).bind fun r2=>
    aa (fun(v:Bool)=>
     bif v then
      (bD xL ([x2])).bind fun l=>
      iR l
     else
      iR xL) fun cv=>
    bif r2.1 then
     (oN q xL x2).bind fun r3=>
     cv (!r3.1)
    else
     cv false
  else
   some (xL,())
def vq(k:Nat)(ay:XN)(aF:XA):Option (XI×Unit):=
 (ri k ay aF).bind fun r1=>
 (hJ k k r1.1 (r1.1.length:Int) ([0,1,(-1),2]) 0).bind fun o=>
 some (o.1,())
def uV(k:Nat):mn:=⟨⟨31,[(93,13)],[lD 93 0 sN,lD 93 1 sA,lD 93 2 sS,lD 93 3 sF,lF 93 4 I,lF 93 5 I,lD 93 6 sI,lD 93 7 sI,lD 93 8 sB,lD 93 9 sE,lD 93 10 sQ,lD 93 11 sL,lD 93 12 sB,(.r 8,.h .dV I),rI 9],[(.r 3,.h .dV I),rI 10],[]⟩,[.ex (.exit 0) [(.r 3,.h .dV I)]],fun q c v=>hJ k q c.2.2.2.2.2.2.2.2.2.2.2.2.2.1 c.2.2.2.2.2.2.2.2.2.2.2.2.2.2.1 v.1 v.2.1⟩
def yf(k:Nat):Ev a8:=⟨[Hl k,Rq,Hk k],[lp 0 (uV k) k],[]⟩
def Dw(k q:Nat):Cd a8:=nV (yf k) f29 0 (uV k) q []
def Hm(k:Nat):Cl a8:=lB (yf k) 29 f29 func29 call29 [500000] ⟨⟨31,[(93,13)],[lD 93 0 sN,lD 93 1 sA,lD 93 2 sS,lD 93 3 sF,lF 93 4 I,lF 93 5 I,lD 93 6 sI,lD 93 7 sI,lD 93 8 sB,lD 93 9 sE,lD 93 10 sQ,lD 93 11 sL,lD 93 12 sB],[rP 0 93],[]⟩,[.ret [(.r 500000,.h .dV I)] []],fun c v=>vq k c.1 c.2.1⟩ [Dw k k]
def pu(k:Nat)(bB:ab)(n:Int):Option (XI×Unit):=
 aa (fun(v:Bool)=>
  bif v then
   some ([],())
  else
   (tI k bB).bind fun r=>match r with
   |.inl r1=>
    bif r1.2.2.2.2.2.2.2.2.2.2.2.2.2.1.1 != 0 then
     some ([],())
    else
     (vq k r1.1 r1.2.1).bind fun r3=>
     (vM k r3.1 n).bind fun r4=>
     some (r4.1,())
   |.inr r2=>
    bif r2.1.1 != 0 then
     some ([],())
    else
     none) fun cv=>
 bif decide (n<0) then
  cv true
 else
  cv (decide (n≥60))
def M3(k:Nat):Cl a8:=lB ⟨[Ta k,Ly k,Hm k],[],[(6,37)]⟩ 13 f13 func13 call13 [500000] ⟨⟨25,[],[],[rD 0 .str,rI 1],[]⟩,[.ret [(.r 500000,.h .dV I)] []],fun c v=>pu k v.1 v.2.1⟩ []
def wA(code:XI):Option (XI×Int×Unit):=
 aa (fun(afn:XI)=>
  some (afn,0,())) fun cv=>
 bif decide ((code.length:Int) > 2000) then
  (sub code 0 2000).bind fun l=>
  cv l
 else
  cv code
def Gp:Cl a8:=lB ⟨[],[],[(10,118)]⟩ 37 f37 func37 call37 [500000] ⟨⟨11,[],[],[rD 0 (.slice U)],[]⟩,[.ret [rP 500000 118,lD 118 0 (.slice U),lI 118 1] [(118,2,118)]],fun c v=>wA v.1⟩ []
def aA(b:XI)(p n:Int):Option (Int×Int×Unit):=
 aa (fun(v:Bool)=>
  bif v then
   some (0,(bh (p+1)),())
  else
   bif decide ((bh ((bh (p+1)) - 1))<(b.length:Int)) then
    (bC b (bh ((bh (p+1)) - 1))).bind fun x1=>
    bif decide (n=0) then
     none
    else
     some (((bh (x1)).tmod n),(bh (p+1)),())
   else
    bif decide ((b.length:Int)=0) then
     none
    else
     (bC b ((bh ((bh (p+1)) - 1)).tmod (b.length:Int))).bind fun x2=>
     bif decide ((b.length:Int)=0) then
      none
     else
      (bC b ((bh ((bh ((bh ((bh (p+1)) - 1)) * 7))+3)).tmod (b.length:Int))).bind fun x3=>
      bif decide ((b.length:Int)=0) then
       none
      else
       bif decide (n=0) then
        none
       else
        some (((PW .xor .i64 (bh ((bh ((bh ((bh ((bh (x2)) * 131))+(bh ((bh (x3)) * 1117))))+(bh ((bh ((bh (p+1)) - 1)) * 29))))+(bh ((bh ((bh ((bh (p+1)) - 1)).tdiv (b.length:Int))) * 53)))) (bh ((bh ((bh ((bh ((bh ((bh (x2)) * 131))+(bh ((bh (x3)) * 1117))))+(bh ((bh ((bh (p+1)) - 1)) * 29))))+(bh ((bh ((bh ((bh (p+1)) - 1)).tdiv (b.length:Int))) * 53)))).tdiv 64))).tmod n),(bh (p+1)),())) fun cv=>
 bif decide (n<1) then
  cv true
 else
  cv ((b.length:Int)==0)
def eK:Cl a8:=lB ⟨[],[],[]⟩ 38 f38 func38 call38 [500000] ⟨⟨99,[(118,2)],[lD 118 0 (.slice U)],[rP 0 118,rI 1,lI 118 1],[]⟩,[.ret [rI 500000,lI 118 1] []],fun c v=>aA c.1 v.2.2.1 v.2.1⟩ []
end
end Go.Fx.R5
